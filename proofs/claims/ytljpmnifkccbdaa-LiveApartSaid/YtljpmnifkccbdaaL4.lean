import Derived.Test.YtljpmnifkccbdaaL2
set_option linter.unusedSimpArgs false
set_option linter.unusedVariables false
namespace Go.Proofs.Ytljpmnifkccbdaa

/-! Sorting by blocks, in plain Lean. -/
section
variable {α : Type} {lt : α → α → Bool}
/-- The k-th block of so many. -/
def blk (bs : Nat) (l : List α) (k : Nat) : List α := (l.drop (k * bs)).take bs
theorem blk_left {bs k : Nat} {A X X' : List α} (h : (k + 1) * bs ≤ A.length) : blk bs (A ++ X) k = blk bs (A ++ X') k := by
  have e : (k + 1) * bs = k * bs + bs := by rw [Nat.succ_mul]
  unfold blk
  rw [List.drop_append_of_le_length (by omega), List.drop_append_of_le_length (by omega), List.take_append_of_le_length (by simp; omega), List.take_append_of_le_length (by simp; omega)]
theorem blk_right {bs k : Nat} {A A' X : List α} (h : A.length = A'.length) (h2 : A.length ≤ k * bs) : blk bs (A ++ X) k = blk bs (A' ++ X) k := by
  unfold blk
  rw [List.drop_append, List.drop_append, List.drop_of_length_le (l := A) h2, List.drop_of_length_le (l := A') (by omega), h]
theorem blk_at {bs k : Nat} {A M B : List α} (h : A.length = k * bs) (h2 : M.length = bs ∨ (M.length ≤ bs ∧ B = [])) : blk bs (A ++ (M ++ B)) k = M := by
  unfold blk
  rw [List.drop_append, List.drop_of_length_le (by omega), show k * bs - A.length = 0 by omega]
  simp only [List.drop_zero, List.nil_append]
  rcases h2 with h2 | ⟨h2, rfl⟩
  · rw [List.take_append_of_le_length (by omega), List.take_of_length_le (by omega)]
  · simp only [List.append_nil]; rw [List.take_of_length_le h2]
theorem blk_nil {bs k : Nat} {l : List α} (h : l.length ≤ k * bs) : blk bs l k = [] := by
  unfold blk
  rw [List.drop_of_length_le h]; simp
theorem srt_nil : Srt lt ([] : List α) := List.Pairwise.nil
/-- Blocks ahead of place j are sorted; the same things. -/
structure Ins1 (lt : α → α → Bool) (l0 : List α) (bs j : Nat) (l : List α) : Prop where
  len : l.length = l0.length
  stp : StP lt l l0
  srt : ∀ k, k < j → Srt lt (blk bs l k)
theorem Ins1.start (l0 : List α) (bs : Nat) : Ins1 lt l0 bs 0 l0 := ⟨rfl, StP.refl _, fun k h => by omega⟩
theorem split_at (l : List α) (a b : Nat) (h : a ≤ b) (hb : b ≤ l.length) : ∃ A M B, l = A ++ (M ++ B) ∧ A.length = a ∧ a + M.length = b ∧ B.length = l.length - b := by
  refine ⟨l.take a, (l.drop a).take (b - a), l.drop b, ?_, by simp; omega, by simp; omega, by simp⟩
  conv => lhs; rw [← List.take_append_drop a l, ← List.take_append_drop (b - a) (l.drop a)]
  rw [List.drop_drop, show a + (b - a) = b by omega]
theorem Ins1.step (H : SWO lt) {l0 l : List α} {bs j : Nat} (h : Ins1 lt l0 bs j l) {A M B : List α} (hl : l = A ++ (M ++ B)) (hA : A.length = j * bs) (hM : M.length = bs ∨ (M.length ≤ bs ∧ B = [])) :
    Ins1 lt l0 bs (j + 1) (A ++ (isort lt M ++ B)) := by
  obtain ⟨s1, s2, s3⟩ := isort_ok H M
  refine ⟨by rw [← h.len, hl]; simp [s3], (StP.append (StP.refl A) (StP.append s2 (StP.refl B))).trans (hl ▸ h.stp), fun k hk => ?_⟩
  by_cases e : k = j
  · subst e
    rw [blk_at hA (by rw [s3]; exact hM)]; exact s1
  · have hk' : k < j := by omega
    have hle : (k + 1) * bs ≤ A.length := by rw [hA]; exact Nat.mul_le_mul_right _ (by omega)
    rw [blk_left (X' := M ++ B) hle, ← hl]
    exact h.srt k hk'
/-- Blocks of twice the size ahead of place j, blocks of the size behind it. -/
structure Mrg1 (lt : α → α → Bool) (l0 : List α) (bs j : Nat) (l : List α) : Prop where
  len : l.length = l0.length
  stp : StP lt l l0
  two : ∀ k, k < j → Srt lt (blk (2 * bs) l k)
  one : ∀ k, 2 * j ≤ k → Srt lt (blk bs l k)
theorem Mrg1.of {l0 l : List α} {bs j : Nat} (h : Ins1 lt l0 bs j l) (hj : l.length ≤ j * bs) : Mrg1 lt l0 bs 0 l :=
  ⟨h.len, h.stp, fun k h => by omega, fun k _ => by
    by_cases e : k < j
    · exact h.srt k e
    · rw [blk_nil (by have := Nat.mul_le_mul_right bs (show j ≤ k by omega); omega)]; exact srt_nil⟩
theorem Mrg1.step (H : SWO lt) {l0 l : List α} {bs j : Nat} (h : Mrg1 lt l0 bs j l) {A L R B : List α} (hl : l = A ++ (L ++ (R ++ B))) (hA : A.length = j * (2 * bs)) (hL : L.length = bs) (hR : R.length = bs ∨ (R.length ≤ bs ∧ B = [])) :
    Srt lt L ∧ Srt lt R ∧ Mrg1 lt l0 bs (j + 1) (A ++ (isort lt (L ++ R) ++ B)) := by
  have e2 : j * (2 * bs) = 2 * j * bs := by rw [← Nat.mul_assoc, Nat.mul_comm j 2]
  have e3 : (2 * j + 1) * bs = 2 * j * bs + bs := by rw [Nat.succ_mul]
  have e4 : (j + 1) * (2 * bs) = j * (2 * bs) + 2 * bs := by rw [Nat.succ_mul]
  obtain ⟨s1, s2, s3⟩ := isort_ok H (L ++ R)
  have s3' : (isort lt (L ++ R)).length = bs + R.length := by rw [s3]; simp [hL]
  refine ⟨?_, ?_, ⟨by rw [← h.len, hl]; simp [s3]; omega, (StP.append (StP.refl A) (StP.append s2 (StP.refl B))).trans (by have := h.stp; rw [hl] at this; simpa using this), fun k hk => ?_, fun k hk => ?_⟩⟩
  · have := h.one (2 * j) (by omega)
    rw [hl, blk_at (by omega) (.inl hL)] at this; exact this
  · have := h.one (2 * j + 1) (by omega)
    rw [hl, ← List.append_assoc A L, blk_at (by simp; omega) hR] at this; exact this
  · by_cases e : k = j
    · subst e
      rw [blk_at hA (hR.elim (fun h1 => .inl (by omega)) (fun h1 => .inr ⟨by omega, h1.2⟩))]; exact s1
    · have hle : (k + 1) * (2 * bs) ≤ A.length := by rw [hA]; exact Nat.mul_le_mul_right _ (by omega)
      rw [blk_left (X' := L ++ (R ++ B)) hle, ← hl]
      exact h.two k (by omega)
  · rcases hR with h1 | ⟨h1, h2⟩
    · have hle : A.length + bs + bs ≤ k * bs := by
        have := Nat.mul_le_mul_right bs (show 2 * j + 1 + 1 ≤ k by omega)
        rw [Nat.succ_mul, Nat.succ_mul] at this; omega
      have := h.one k (by omega)
      rw [hl, show A ++ (L ++ (R ++ B)) = (A ++ (L ++ R)) ++ B by simp] at this
      rw [← List.append_assoc A, blk_right (A' := A ++ (L ++ R)) (by simp [s3]) (by simp [s3, hL, h1]; omega)]
      exact this
    · subst h2
      have hle : A.length + bs + bs ≤ k * bs := by
        have := Nat.mul_le_mul_right bs (show 2 * j + 1 + 1 ≤ k by omega)
        rw [Nat.succ_mul, Nat.succ_mul] at this; omega
      rw [blk_nil (by simp [s3, hL]; omega)]; exact srt_nil
/-- What is left over stands as it is. -/
theorem Mrg1.stop {l0 l : List α} {bs j : Nat} (h : Mrg1 lt l0 bs j l) (hj : l.length ≤ j * (2 * bs) + bs) : Mrg1 lt l0 (2 * bs) 0 l :=
  ⟨h.len, h.stp, fun k h => by omega, fun k _ => by
    by_cases e : k < j
    · exact h.two k e
    · by_cases e2 : k = j
      · have e3 : j * (2 * bs) = 2 * j * bs := by rw [← Nat.mul_assoc, Nat.mul_comm j 2]
        have := h.one (2 * j) (by omega)
        have hb : blk (2 * bs) l k = blk bs l (2 * j) := by
          unfold blk
          rw [e2, e3, List.take_of_length_le (by simp; omega), List.take_of_length_le (by simp; omega)]
        rw [hb]; exact this
      · rw [blk_nil (by have := Nat.mul_le_mul_right (2 * bs) (show j + 1 ≤ k by omega); rw [Nat.succ_mul] at this; omega)]; exact srt_nil⟩
theorem Mrg1.over {l0 l : List α} {bs j : Nat} (h : Mrg1 lt l0 bs j l) (hj : l.length ≤ j * (2 * bs)) : Mrg1 lt l0 (2 * bs) 0 l := h.stop (by omega)
theorem Mrg1.done (H : SWO lt) {l0 l : List α} {bs : Nat} (h : Mrg1 lt l0 bs 0 l) (hb : l.length ≤ bs) : l = isort lt l0 := by
  refine isort_unique H ?_ h.stp
  have := h.one 0 (by omega)
  unfold blk at this
  rwa [Nat.zero_mul, List.drop_zero, List.take_of_length_le hb] at this
end
end Go.Proofs.Ytljpmnifkccbdaa
