import Derived.Test.YtljpmnifkccbdaaL2
set_option linter.unusedSimpArgs false
set_option linter.unusedVariables false
namespace Go.Proofs.Ytljpmnifkccbdaa

section
variable {α : Type} {lt : α → α → Bool}
/-- Where a condition that falls falls. -/
theorem bsplit (P : Nat → Bool) (lo : Nat) : ∀ (d : Nat), (∀ c c', lo ≤ c' → c' < c → c < lo + d → P c = true → P c' = true) → ∃ s, lo ≤ s ∧ s ≤ lo + d ∧ ∀ c, lo ≤ c → c < lo + d → (P c = true ↔ c < s) := by
  intro d
  induction d with
  | zero => intro _; exact ⟨lo, Nat.le_refl _, Nat.le_refl _, fun c h1 h2 => by omega⟩
  | succ d ih =>
    intro h
    obtain ⟨s, h1, h2, h3⟩ := ih (fun c c' a b e => h c c' a b (by omega))
    by_cases e : P (lo + d) = true
    · refine ⟨lo + d + 1, by omega, by omega, fun c hc1 hc2 => ⟨fun _ => by omega, fun _ => ?_⟩⟩
      by_cases ec : c = lo + d
      · rw [ec]; exact e
      · exact h (lo + d) c hc1 (by omega) (by omega) e
    · refine ⟨s, h1, by omega, fun c hc1 hc2 => ?_⟩
      by_cases ec : c = lo + d
      · subst ec
        exact ⟨fun h => absurd h e, fun h => by omega⟩
      · exact h3 c hc1 (by omega)
theorem srt_get {l : List α} (h : Srt lt l) {i j : Nat} {x y : α} (hi : l[i]? = some x) (hj : l[j]? = some y) (hij : i < j) : lt y x = false := by
  obtain ⟨h1, rfl⟩ := List.getElem?_eq_some_iff.1 hi
  obtain ⟨h2, rfl⟩ := List.getElem?_eq_some_iff.1 hj
  exact List.pairwise_iff_getElem.1 h i j h1 h2 hij
theorem srt_le (H : SWO lt) {l : List α} (h : Srt lt l) {i j : Nat} {x y : α} (hi : l[i]? = some x) (hj : l[j]? = some y) (hij : i ≤ j) : lt y x = false := by
  by_cases e : i = j
  · subst e; rw [hi] at hj; injection hj with hj; subst hj; exact H.irr _
  · exact srt_get h hi hj (by omega)
/-- One thing into what rises, behind all that is less. -/
theorem merge_one (H : SWO lt) (x : α) (R1 R2 : List α) (hs : Srt lt (R1 ++ R2)) (h1 : ∀ y ∈ R1, lt y x = true) (h2 : ∀ y ∈ R2, lt y x = false) : R1 ++ ([x] ++ R2) = isort lt ([x] ++ (R1 ++ R2)) := by
  obtain ⟨s1, s2, s3⟩ := List.pairwise_append.1 hs
  refine isort_unique H ?_ ?_
  · refine List.pairwise_append.2 ⟨s1, List.pairwise_append.2 ⟨by simp, s2, fun a ha b hb => ?_⟩, fun a ha b hb => ?_⟩
    · simp only [List.mem_singleton] at ha; subst ha; exact h2 b hb
    · rcases List.mem_append.1 hb with hb | hb
      · simp only [List.mem_singleton] at hb; subst hb; exact H.asym _ _ (h1 a ha)
      · exact s3 a ha b hb
  · have : StP lt (R1 ++ [x]) ([x] ++ R1) := (StP.swap H (fun a ha b hb => by
      simp only [List.mem_singleton] at ha; subst ha; exact h1 b hb)).symm
    have := StP.append this (StP.refl R2)
    simpa using this
theorem merge_last (H : SWO lt) (x : α) (L1 L2 : List α) (hs : Srt lt (L1 ++ L2)) (h1 : ∀ y ∈ L1, lt x y = false) (h2 : ∀ y ∈ L2, lt x y = true) : L1 ++ ([x] ++ L2) = isort lt ((L1 ++ L2) ++ [x]) := by
  obtain ⟨s1, s2, s3⟩ := List.pairwise_append.1 hs
  refine isort_unique H ?_ ?_
  · refine List.pairwise_append.2 ⟨s1, List.pairwise_append.2 ⟨by simp, s2, fun a ha b hb => ?_⟩, fun a ha b hb => ?_⟩
    · simp only [List.mem_singleton] at ha; subst ha; exact H.asym _ _ (h2 b hb)
    · rcases List.mem_append.1 hb with hb | hb
      · simp only [List.mem_singleton] at hb; subst hb; exact h1 a ha
      · exact s3 a ha b hb
  · have : StP lt ([x] ++ L2) (L2 ++ [x]) := (StP.swap H (fun a ha b hb => by
      simp only [List.mem_singleton] at hb; subst hb; exact h2 a ha)).symm
    have := StP.append (StP.refl L1) this
    simpa using this
/-- Two rising lists, cut and turned: merged by halves. -/
theorem merge_cut (H : SWO lt) (L1 L2 R1 R2 : List α) (hL : Srt lt (L1 ++ L2)) (hR : Srt lt (R1 ++ R2)) (h1 : ∀ x ∈ L2, ∀ y ∈ R1, lt y x = true) (h2 : ∀ u ∈ L1, ∀ v ∈ R2, lt v u = false) :
    isort lt (L1 ++ R1) ++ isort lt (L2 ++ R2) = isort lt ((L1 ++ L2) ++ (R1 ++ R2)) := by
  obtain ⟨a1, a2, a3⟩ := List.pairwise_append.1 hL
  obtain ⟨b1, b2, b3⟩ := List.pairwise_append.1 hR
  obtain ⟨p1, p2, p3⟩ := isort_ok H (L1 ++ R1)
  obtain ⟨q1, q2, q3⟩ := isort_ok H (L2 ++ R2)
  refine isort_unique H ?_ ?_
  · refine List.pairwise_append.2 ⟨p1, q1, fun u hu v hv => ?_⟩
    have hu := isort_mem H hu
    have hv := isort_mem H hv
    rcases List.mem_append.1 hu with hu | hu <;> rcases List.mem_append.1 hv with hv | hv
    · exact a3 u hu v hv
    · exact h2 u hu v hv
    · exact H.asym _ _ (h1 v hv u hu)
    · exact b3 u hu v hv
  · refine (StP.append p2 q2).trans ?_
    have : StP lt (R1 ++ L2) (L2 ++ R1) := (StP.swap H h1).symm
    have := StP.append (StP.refl L1) (StP.append this (StP.refl R2))
    simpa using this
/-- A cut of two rising lists that a search finds. -/
theorem cut_found (H : SWO lt) {L R : List α} (hL : Srt lt L) (hR : Srt lt R) (i j : Nat) (hi : i ≤ L.length) (hj : j ≤ R.length)
    (h1 : ∀ x y, L[i]? = some x → 0 < j → R[j - 1]? = some y → lt y x = true) (h2 : ∀ u v, 0 < i → L[i - 1]? = some u → R[j]? = some v → lt v u = false) :
    (∀ x ∈ L.drop i, ∀ y ∈ R.take j, lt y x = true) ∧ (∀ u ∈ L.take i, ∀ v ∈ R.drop j, lt v u = false) := by
  constructor
  · intro x hx y hy
    obtain ⟨k, hk, rfl⟩ := List.getElem_of_mem hx
    obtain ⟨l, hl, rfl⟩ := List.getElem_of_mem hy
    simp only [List.length_drop] at hk
    simp only [List.length_take] at hl
    simp only [List.getElem_drop, List.getElem_take]
    have ex : L[i + k]? = some L[i + k] := List.getElem?_eq_getElem (by omega)
    have ey : R[l]? = some R[l] := List.getElem?_eq_getElem (by omega)
    have e1 : L[i]? = some L[i] := List.getElem?_eq_getElem (by omega)
    have e2 : R[j - 1]? = some R[j - 1] := List.getElem?_eq_getElem (by omega)
    have h3 := h1 _ _ e1 (by omega) e2
    have h4 := srt_le H hL e1 ex (by omega)
    have h5 := srt_le H hR ey e2 (by omega)
    rcases H.ntr _ L[i + k] _ h3 with h6 | h6
    · rcases H.ntr _ R[l] _ h6 with h7 | h7
      · rw [h7] at h5; simp at h5
      · exact h7
    · rw [h6] at h4; simp at h4
  · intro x hx y hy
    obtain ⟨k, hk, rfl⟩ := List.getElem_of_mem hx
    obtain ⟨l, hl, rfl⟩ := List.getElem_of_mem hy
    simp only [List.length_take] at hk
    simp only [List.length_drop] at hl
    simp only [List.getElem_drop, List.getElem_take]
    have ex : L[k]? = some L[k] := List.getElem?_eq_getElem (by omega)
    have ey : R[j + l]? = some R[j + l] := List.getElem?_eq_getElem (by omega)
    have e1 : L[i - 1]? = some L[i - 1] := List.getElem?_eq_getElem (by omega)
    have e2 : R[j]? = some R[j] := List.getElem?_eq_getElem (by omega)
    exact H.le_trans (srt_le H hL ex e1 (by omega)) (H.le_trans (h2 _ _ (by omega) e1 e2) (srt_le H hR e2 ey (by omega)))
end
end Go.Proofs.Ytljpmnifkccbdaa
