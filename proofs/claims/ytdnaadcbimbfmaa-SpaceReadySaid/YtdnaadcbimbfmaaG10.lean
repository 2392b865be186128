import Derived.WalkKit
import Derived.Test.YtdnaadcbimbfmaaG6
import Derived.Test.YtdnaadcbimbfmaaG9
set_option linter.unusedSimpArgs false
set_option linter.unusedVariables false
namespace Go.Proofs.Ytdnaadcbimbfmaa

/-! Stable sorting, in plain Lean. -/
section
variable {α : Type} {lt : α → α → Bool}
/-- A strict weak order. -/
structure SWO (lt : α → α → Bool) : Prop where
  asym : ∀ x y, lt x y = true → lt y x = false
  ntr : ∀ x y z, lt x z = true → lt x y = true ∨ lt y z = true
def Srt (lt : α → α → Bool) (l : List α) : Prop := l.Pairwise fun x y => lt y x = false
def eqv (lt : α → α → Bool) (x y : α) : Bool := !lt x y && !lt y x
/-- The same things, those that are alike in the same order. -/
def StP (lt : α → α → Bool) (l l' : List α) : Prop := ∀ x, l.filter (eqv lt x) = l'.filter (eqv lt x)
theorem StP.refl (l : List α) : StP lt l l := fun _ => rfl
theorem StP.symm {l l' : List α} (h : StP lt l l') : StP lt l' l := fun x => (h x).symm
theorem StP.trans {l m n : List α} (h : StP lt l m) (k : StP lt m n) : StP lt l n := fun x => (h x).trans (k x)
theorem StP.append {l l' m m' : List α} (h : StP lt l l') (k : StP lt m m') : StP lt (l ++ m) (l' ++ m') := fun x => by rw [List.filter_append, List.filter_append, h x, k x]
theorem SWO.irr (h : SWO lt) (x : α) : lt x x = false := by
  cases e : lt x x
  · rfl
  · have := h.asym x x e; rw [e] at this; exact this
theorem SWO.eqv_self (h : SWO lt) (x : α) : eqv lt x x = true := by simp [eqv, h.irr]
theorem SWO.le_trans (h : SWO lt) {x y z : α} (h1 : lt y x = false) (h2 : lt z y = false) : lt z x = false := by
  cases e : lt z x
  · rfl
  · rcases h.ntr z y x e with h3 | h3
    · rw [h3] at h2; exact h2
    · rw [h3] at h1; exact h1
theorem StP.mem (h : SWO lt) {l l' : List α} (hp : StP lt l l') {x : α} (hx : x ∈ l) : x ∈ l' := by
  have : x ∈ l.filter (eqv lt x) := List.mem_filter.2 ⟨hx, h.eqv_self x⟩
  rw [hp x] at this
  exact (List.mem_filter.1 this).1
theorem StP.swap (h : SWO lt) {l m : List α} (hs : ∀ x ∈ l, ∀ y ∈ m, lt y x = true) : StP lt (l ++ m) (m ++ l) := by
  intro z
  rw [List.filter_append, List.filter_append]
  by_cases e : ∃ x ∈ l, eqv lt z x = true
  · obtain ⟨x, hx, hzx⟩ := e
    have : m.filter (eqv lt z) = [] := by
      rw [List.filter_eq_nil_iff]
      intro y hy hzy
      simp only [eqv, Bool.and_eq_true, Bool.not_eq_true'] at hzx hzy
      have := hs x hx y hy
      rcases h.ntr y z x this with h1 | h1
      · rw [h1] at hzy; simp at hzy
      · rw [h1] at hzx; simp at hzx
    rw [this]; simp
  · have : l.filter (eqv lt z) = [] := by
      rw [List.filter_eq_nil_iff]
      intro y hy hzy
      exact e ⟨y, hy, hzy⟩
    rw [this]; simp
/-- Sorted, and the same things: the same. -/
theorem Srt.unique (h : SWO lt) : ∀ (l l' : List α), Srt lt l → Srt lt l' → StP lt l l' → l = l' := by
  intro l
  induction l with
  | nil =>
    intro l' _ _ hp
    cases l' with
    | nil => rfl
    | cons y t => have := hp.symm.mem h (x := y) List.mem_cons_self; simp at this
  | cons x t ih =>
    intro l' h1 h2 hp
    cases l' with
    | nil => have := hp.mem h (x := x) List.mem_cons_self; simp at this
    | cons y t' =>
      have hx : x ∈ y :: t' := hp.mem h List.mem_cons_self
      have hy : y ∈ x :: t := hp.symm.mem h List.mem_cons_self
      have l1 : lt x y = false := by
        rcases List.mem_cons.1 hx with e | e
        · rw [e]; exact h.irr _
        · exact (List.pairwise_cons.1 h2).1 x e
      have l2 : lt y x = false := by
        rcases List.mem_cons.1 hy with e | e
        · rw [e]; exact h.irr _
        · exact (List.pairwise_cons.1 h1).1 y e
      have e : x = y := by
        have := hp x
        rw [List.filter_cons_of_pos (h.eqv_self x), List.filter_cons_of_pos (by simp [eqv, l1, l2])] at this
        injection this
      subst e
      congr 1
      refine ih t' (List.pairwise_cons.1 h1).2 (List.pairwise_cons.1 h2).2 fun z => ?_
      have := hp z
      by_cases ez : eqv lt z x = true
      · rw [List.filter_cons_of_pos ez, List.filter_cons_of_pos ez] at this
        injection this
      · rwa [List.filter_cons_of_neg ez, List.filter_cons_of_neg ez] at this
/-- A thing into a sorted list, behind those that are alike. -/
def ins (lt : α → α → Bool) (x : α) : List α → List α
  | [] => [x]
  | y :: l => if lt x y = true then x :: y :: l else y :: ins lt x l
def isort (lt : α → α → Bool) (l : List α) : List α := l.foldl (fun acc x => ins lt x acc) []
theorem ins_split (h : SWO lt) (x : α) : ∀ (L1 L2 : List α), (∀ y ∈ L1, lt x y = false) → (∀ y ∈ L2, lt x y = true) → ins lt x (L1 ++ L2) = L1 ++ x :: L2 := by
  intro L1
  induction L1 with
  | nil =>
    intro L2 _ h2
    cases L2 with
    | nil => rfl
    | cons y l => simp [ins, h2 y List.mem_cons_self]
  | cons z L1 ih =>
    intro L2 h1 h2
    simp only [List.cons_append, ins]
    rw [if_neg (by simp [h1 z List.mem_cons_self]), ih L2 (fun y hy => h1 y (List.mem_cons_of_mem _ hy)) h2]
theorem ins_mem (x y : α) : ∀ (l : List α), y ∈ ins lt x l ↔ y = x ∨ y ∈ l := by
  intro l
  induction l with
  | nil => simp [ins]
  | cons z l ih =>
    simp only [ins]
    split
    · simp
    · simp only [List.mem_cons, ih]
      constructor
      · rintro (h | h | h)
        · exact .inr (.inl h)
        · exact .inl h
        · exact .inr (.inr h)
      · rintro (h | h | h)
        · exact .inr (.inl h)
        · exact .inl h
        · exact .inr (.inr h)
theorem ins_len (x : α) : ∀ (l : List α), (ins lt x l).length = l.length + 1 := by
  intro l
  induction l with
  | nil => rfl
  | cons z l ih =>
    simp only [ins]
    split
    · simp
    · simp [ih]
theorem ins_srt (h : SWO lt) (x : α) : ∀ (l : List α), Srt lt l → Srt lt (ins lt x l) := by
  intro l
  induction l with
  | nil => intro _; simp [ins, Srt]
  | cons z l ih =>
    intro hs
    obtain ⟨h1, h2⟩ := List.pairwise_cons.1 hs
    simp only [ins]
    split
    · rename_i e
      refine List.pairwise_cons.2 ⟨fun y hy => ?_, hs⟩
      rcases List.mem_cons.1 hy with rfl | hy
      · exact h.asym _ _ e
      · exact h.le_trans (h.asym _ _ e) (h1 y hy)
    · rename_i e
      refine List.pairwise_cons.2 ⟨fun y hy => ?_, ih h2⟩
      rcases (ins_mem x y l).1 hy with rfl | hy
      · simpa using e
      · exact h1 y hy
theorem ins_stp (h : SWO lt) (x : α) : ∀ (l : List α), Srt lt l → StP lt (ins lt x l) (l ++ [x]) := by
  intro l
  induction l with
  | nil => intro _; exact StP.refl _
  | cons z l ih =>
    intro hs
    obtain ⟨h1, h2⟩ := List.pairwise_cons.1 hs
    simp only [ins]
    split
    · rename_i e
      have : StP lt ([x] ++ (z :: l)) ((z :: l) ++ [x]) := (StP.swap h (fun a ha b hb => by
        simp only [List.mem_singleton] at hb
        subst hb
        rcases List.mem_cons.1 ha with rfl | ha
        · exact e
        · rcases h.ntr b a z e with h3 | h3
          · exact h3
          · have := h1 a ha; rw [h3] at this; simp at this)).symm
      exact this
    · exact StP.append (l := [z]) (l' := [z]) (StP.refl _) (ih h2)
theorem isort_snoc (l : List α) (x : α) : isort lt (l ++ [x]) = ins lt x (isort lt l) := by simp [isort, List.foldl_append]
theorem isort_ok (h : SWO lt) (l : List α) : Srt lt (isort lt l) ∧ StP lt (isort lt l) l ∧ (isort lt l).length = l.length := by
  have aux : ∀ n, ∀ l : List α, l.length = n → Srt lt (isort lt l) ∧ StP lt (isort lt l) l ∧ (isort lt l).length = l.length := by
    intro n
    induction n with
    | zero =>
      intro l hl
      have := List.eq_nil_of_length_eq_zero hl
      subst this
      exact ⟨List.Pairwise.nil, StP.refl _, rfl⟩
    | succ n ih =>
      intro l hl
      rcases List.eq_nil_or_concat l with rfl | ⟨m, x, rfl⟩
      · simp at hl
      · obtain ⟨h1, h2, h3⟩ := ih m (by simpa using hl)
        rw [List.concat_eq_append, isort_snoc]
        exact ⟨ins_srt h x _ h1, (ins_stp h x _ h1).trans (StP.append h2 (StP.refl _)), by simp [ins_len, h3]⟩
  exact aux _ l rfl
theorem isort_unique (h : SWO lt) {l m : List α} (hs : Srt lt m) (hp : StP lt m l) : m = isort lt l :=
  Srt.unique h _ _ hs (isort_ok h l).1 (hp.trans (isort_ok h l).2.1.symm)
theorem isort_stp (h : SWO lt) {l m : List α} (hp : StP lt m l) : isort lt m = isort lt l :=
  isort_unique h (isort_ok h m).1 ((isort_ok h m).2.1.trans hp)
theorem isort_mem (h : SWO lt) {l : List α} {x : α} (hx : x ∈ isort lt l) : x ∈ l := (isort_ok h l).2.1.mem h hx
end
end Go.Proofs.Ytdnaadcbimbfmaa
set_option linter.unusedSimpArgs false
set_option linter.unusedVariables false
namespace Go.Proofs.Ytdnaadcbimbfmaa

section
variable {α : Type} {lt : α → α → Bool}
/-- Where a condition that falls falls. -/
theorem bsplit (P : Nat → Bool) (lo : Nat) : ∀ (d : Nat), (∀ c c', lo ≤ c' → c' < c → c < lo + d → P c = true → P c' = true) → ∃ s, lo ≤ s ∧ s ≤ lo + d ∧ ∀ c, lo ≤ c → c < lo + d → (P c = true ↔ c < s) := by
  intro d
  induction d with
  | zero => intro _; exact ⟨lo, Nat.le_refl _, Nat.le_refl _, fun c h1 h2 => by omega⟩
  | succ d ih =>
    intro h
    obtain ⟨s, h1, h2, h3⟩ := ih (fun c c' a b e => h c c' a b (by omega))
    by_cases e : P (lo + d) = true
    · refine ⟨lo + d + 1, by omega, by omega, fun c hc1 hc2 => ⟨fun _ => by omega, fun _ => ?_⟩⟩
      by_cases ec : c = lo + d
      · rw [ec]; exact e
      · exact h (lo + d) c hc1 (by omega) (by omega) e
    · refine ⟨s, h1, by omega, fun c hc1 hc2 => ?_⟩
      by_cases ec : c = lo + d
      · subst ec
        exact ⟨fun h => absurd h e, fun h => by omega⟩
      · exact h3 c hc1 (by omega)
theorem srt_get {l : List α} (h : Srt lt l) {i j : Nat} {x y : α} (hi : l[i]? = some x) (hj : l[j]? = some y) (hij : i < j) : lt y x = false := by
  obtain ⟨h1, rfl⟩ := List.getElem?_eq_some_iff.1 hi
  obtain ⟨h2, rfl⟩ := List.getElem?_eq_some_iff.1 hj
  exact List.pairwise_iff_getElem.1 h i j h1 h2 hij
theorem srt_le (H : SWO lt) {l : List α} (h : Srt lt l) {i j : Nat} {x y : α} (hi : l[i]? = some x) (hj : l[j]? = some y) (hij : i ≤ j) : lt y x = false := by
  by_cases e : i = j
  · subst e; rw [hi] at hj; injection hj with hj; subst hj; exact H.irr _
  · exact srt_get h hi hj (by omega)
/-- One thing into what rises, behind all that is less. -/
theorem merge_one (H : SWO lt) (x : α) (R1 R2 : List α) (hs : Srt lt (R1 ++ R2)) (h1 : ∀ y ∈ R1, lt y x = true) (h2 : ∀ y ∈ R2, lt y x = false) : R1 ++ ([x] ++ R2) = isort lt ([x] ++ (R1 ++ R2)) := by
  obtain ⟨s1, s2, s3⟩ := List.pairwise_append.1 hs
  refine isort_unique H ?_ ?_
  · refine List.pairwise_append.2 ⟨s1, List.pairwise_append.2 ⟨by simp, s2, fun a ha b hb => ?_⟩, fun a ha b hb => ?_⟩
    · simp only [List.mem_singleton] at ha; subst ha; exact h2 b hb
    · rcases List.mem_append.1 hb with hb | hb
      · simp only [List.mem_singleton] at hb; subst hb; exact H.asym _ _ (h1 a ha)
      · exact s3 a ha b hb
  · have : StP lt (R1 ++ [x]) ([x] ++ R1) := (StP.swap H (fun a ha b hb => by
      simp only [List.mem_singleton] at ha; subst ha; exact h1 b hb)).symm
    have := StP.append this (StP.refl R2)
    simpa using this
theorem merge_last (H : SWO lt) (x : α) (L1 L2 : List α) (hs : Srt lt (L1 ++ L2)) (h1 : ∀ y ∈ L1, lt x y = false) (h2 : ∀ y ∈ L2, lt x y = true) : L1 ++ ([x] ++ L2) = isort lt ((L1 ++ L2) ++ [x]) := by
  obtain ⟨s1, s2, s3⟩ := List.pairwise_append.1 hs
  refine isort_unique H ?_ ?_
  · refine List.pairwise_append.2 ⟨s1, List.pairwise_append.2 ⟨by simp, s2, fun a ha b hb => ?_⟩, fun a ha b hb => ?_⟩
    · simp only [List.mem_singleton] at ha; subst ha; exact H.asym _ _ (h2 b hb)
    · rcases List.mem_append.1 hb with hb | hb
      · simp only [List.mem_singleton] at hb; subst hb; exact h1 a ha
      · exact s3 a ha b hb
  · have : StP lt ([x] ++ L2) (L2 ++ [x]) := (StP.swap H (fun a ha b hb => by
      simp only [List.mem_singleton] at hb; subst hb; exact h2 a ha)).symm
    have := StP.append (StP.refl L1) this
    simpa using this
/-- Two rising lists, cut and turned: merged by halves. -/
theorem merge_cut (H : SWO lt) (L1 L2 R1 R2 : List α) (hL : Srt lt (L1 ++ L2)) (hR : Srt lt (R1 ++ R2)) (h1 : ∀ x ∈ L2, ∀ y ∈ R1, lt y x = true) (h2 : ∀ u ∈ L1, ∀ v ∈ R2, lt v u = false) :
    isort lt (L1 ++ R1) ++ isort lt (L2 ++ R2) = isort lt ((L1 ++ L2) ++ (R1 ++ R2)) := by
  obtain ⟨a1, a2, a3⟩ := List.pairwise_append.1 hL
  obtain ⟨b1, b2, b3⟩ := List.pairwise_append.1 hR
  obtain ⟨p1, p2, p3⟩ := isort_ok H (L1 ++ R1)
  obtain ⟨q1, q2, q3⟩ := isort_ok H (L2 ++ R2)
  refine isort_unique H ?_ ?_
  · refine List.pairwise_append.2 ⟨p1, q1, fun u hu v hv => ?_⟩
    have hu := isort_mem H hu
    have hv := isort_mem H hv
    rcases List.mem_append.1 hu with hu | hu <;> rcases List.mem_append.1 hv with hv | hv
    · exact a3 u hu v hv
    · exact h2 u hu v hv
    · exact H.asym _ _ (h1 v hv u hu)
    · exact b3 u hu v hv
  · refine (StP.append p2 q2).trans ?_
    have : StP lt (R1 ++ L2) (L2 ++ R1) := (StP.swap H h1).symm
    have := StP.append (StP.refl L1) (StP.append this (StP.refl R2))
    simpa using this
/-- A cut of two rising lists that a search finds. -/
theorem cut_found (H : SWO lt) {L R : List α} (hL : Srt lt L) (hR : Srt lt R) (i j : Nat) (hi : i ≤ L.length) (hj : j ≤ R.length)
    (h1 : ∀ x y, L[i]? = some x → 0 < j → R[j - 1]? = some y → lt y x = true) (h2 : ∀ u v, 0 < i → L[i - 1]? = some u → R[j]? = some v → lt v u = false) :
    (∀ x ∈ L.drop i, ∀ y ∈ R.take j, lt y x = true) ∧ (∀ u ∈ L.take i, ∀ v ∈ R.drop j, lt v u = false) := by
  constructor
  · intro x hx y hy
    obtain ⟨k, hk, rfl⟩ := List.getElem_of_mem hx
    obtain ⟨l, hl, rfl⟩ := List.getElem_of_mem hy
    simp only [List.length_drop] at hk
    simp only [List.length_take] at hl
    simp only [List.getElem_drop, List.getElem_take]
    have ex : L[i + k]? = some L[i + k] := List.getElem?_eq_getElem (by omega)
    have ey : R[l]? = some R[l] := List.getElem?_eq_getElem (by omega)
    have e1 : L[i]? = some L[i] := List.getElem?_eq_getElem (by omega)
    have e2 : R[j - 1]? = some R[j - 1] := List.getElem?_eq_getElem (by omega)
    have h3 := h1 _ _ e1 (by omega) e2
    have h4 := srt_le H hL e1 ex (by omega)
    have h5 := srt_le H hR ey e2 (by omega)
    rcases H.ntr _ L[i + k] _ h3 with h6 | h6
    · rcases H.ntr _ R[l] _ h6 with h7 | h7
      · rw [h7] at h5; simp at h5
      · exact h7
    · rw [h6] at h4; simp at h4
  · intro x hx y hy
    obtain ⟨k, hk, rfl⟩ := List.getElem_of_mem hx
    obtain ⟨l, hl, rfl⟩ := List.getElem_of_mem hy
    simp only [List.length_take] at hk
    simp only [List.length_drop] at hl
    simp only [List.getElem_drop, List.getElem_take]
    have ex : L[k]? = some L[k] := List.getElem?_eq_getElem (by omega)
    have ey : R[j + l]? = some R[j + l] := List.getElem?_eq_getElem (by omega)
    have e1 : L[i - 1]? = some L[i - 1] := List.getElem?_eq_getElem (by omega)
    have e2 : R[j]? = some R[j] := List.getElem?_eq_getElem (by omega)
    exact H.le_trans (srt_le H hL ex e1 (by omega)) (H.le_trans (h2 _ _ (by omega) e1 e2) (srt_le H hR e2 ey (by omega)))
end
end Go.Proofs.Ytdnaadcbimbfmaa
set_option linter.unusedSimpArgs false
set_option linter.unusedVariables false
namespace Go.Proofs.Ytdnaadcbimbfmaa

/-! Sorting by blocks, in plain Lean. -/
section
variable {α : Type} {lt : α → α → Bool}
/-- The k-th block of so many. -/
def blk (bs : Nat) (l : List α) (k : Nat) : List α := (l.drop (k * bs)).take bs
theorem blk_left {bs k : Nat} {A X X' : List α} (h : (k + 1) * bs ≤ A.length) : blk bs (A ++ X) k = blk bs (A ++ X') k := by
  have e : (k + 1) * bs = k * bs + bs := by rw [Nat.succ_mul]
  unfold blk
  rw [List.drop_append_of_le_length (by omega), List.drop_append_of_le_length (by omega), List.take_append_of_le_length (by simp; omega), List.take_append_of_le_length (by simp; omega)]
theorem blk_right {bs k : Nat} {A A' X : List α} (h : A.length = A'.length) (h2 : A.length ≤ k * bs) : blk bs (A ++ X) k = blk bs (A' ++ X) k := by
  unfold blk
  rw [List.drop_append, List.drop_append, List.drop_of_length_le (l := A) h2, List.drop_of_length_le (l := A') (by omega), h]
theorem blk_at {bs k : Nat} {A M B : List α} (h : A.length = k * bs) (h2 : M.length = bs ∨ (M.length ≤ bs ∧ B = [])) : blk bs (A ++ (M ++ B)) k = M := by
  unfold blk
  rw [List.drop_append, List.drop_of_length_le (by omega), show k * bs - A.length = 0 by omega]
  simp only [List.drop_zero, List.nil_append]
  rcases h2 with h2 | ⟨h2, rfl⟩
  · rw [List.take_append_of_le_length (by omega), List.take_of_length_le (by omega)]
  · simp only [List.append_nil]; rw [List.take_of_length_le h2]
theorem blk_nil {bs k : Nat} {l : List α} (h : l.length ≤ k * bs) : blk bs l k = [] := by
  unfold blk
  rw [List.drop_of_length_le h]; simp
theorem srt_nil : Srt lt ([] : List α) := List.Pairwise.nil
/-- Blocks ahead of place j are sorted; the same things. -/
structure Ins1 (lt : α → α → Bool) (l0 : List α) (bs j : Nat) (l : List α) : Prop where
  len : l.length = l0.length
  stp : StP lt l l0
  srt : ∀ k, k < j → Srt lt (blk bs l k)
theorem Ins1.start (l0 : List α) (bs : Nat) : Ins1 lt l0 bs 0 l0 := ⟨rfl, StP.refl _, fun k h => by omega⟩
theorem split_at (l : List α) (a b : Nat) (h : a ≤ b) (hb : b ≤ l.length) : ∃ A M B, l = A ++ (M ++ B) ∧ A.length = a ∧ a + M.length = b ∧ B.length = l.length - b := by
  refine ⟨l.take a, (l.drop a).take (b - a), l.drop b, ?_, by simp; omega, by simp; omega, by simp⟩
  conv => lhs; rw [← List.take_append_drop a l, ← List.take_append_drop (b - a) (l.drop a)]
  rw [List.drop_drop, show a + (b - a) = b by omega]
theorem Ins1.step (H : SWO lt) {l0 l : List α} {bs j : Nat} (h : Ins1 lt l0 bs j l) {A M B : List α} (hl : l = A ++ (M ++ B)) (hA : A.length = j * bs) (hM : M.length = bs ∨ (M.length ≤ bs ∧ B = [])) :
    Ins1 lt l0 bs (j + 1) (A ++ (isort lt M ++ B)) := by
  obtain ⟨s1, s2, s3⟩ := isort_ok H M
  refine ⟨by rw [← h.len, hl]; simp [s3], (StP.append (StP.refl A) (StP.append s2 (StP.refl B))).trans (hl ▸ h.stp), fun k hk => ?_⟩
  by_cases e : k = j
  · subst e
    rw [blk_at hA (by rw [s3]; exact hM)]; exact s1
  · have hk' : k < j := by omega
    have hle : (k + 1) * bs ≤ A.length := by rw [hA]; exact Nat.mul_le_mul_right _ (by omega)
    rw [blk_left (X' := M ++ B) hle, ← hl]
    exact h.srt k hk'
/-- Blocks of twice the size ahead of place j, blocks of the size behind it. -/
structure Mrg1 (lt : α → α → Bool) (l0 : List α) (bs j : Nat) (l : List α) : Prop where
  len : l.length = l0.length
  stp : StP lt l l0
  two : ∀ k, k < j → Srt lt (blk (2 * bs) l k)
  one : ∀ k, 2 * j ≤ k → Srt lt (blk bs l k)
theorem Mrg1.of {l0 l : List α} {bs j : Nat} (h : Ins1 lt l0 bs j l) (hj : l.length ≤ j * bs) : Mrg1 lt l0 bs 0 l :=
  ⟨h.len, h.stp, fun k h => by omega, fun k _ => by
    by_cases e : k < j
    · exact h.srt k e
    · rw [blk_nil (by have := Nat.mul_le_mul_right bs (show j ≤ k by omega); omega)]; exact srt_nil⟩
theorem Mrg1.step (H : SWO lt) {l0 l : List α} {bs j : Nat} (h : Mrg1 lt l0 bs j l) {A L R B : List α} (hl : l = A ++ (L ++ (R ++ B))) (hA : A.length = j * (2 * bs)) (hL : L.length = bs) (hR : R.length = bs ∨ (R.length ≤ bs ∧ B = [])) :
    Srt lt L ∧ Srt lt R ∧ Mrg1 lt l0 bs (j + 1) (A ++ (isort lt (L ++ R) ++ B)) := by
  have e2 : j * (2 * bs) = 2 * j * bs := by rw [← Nat.mul_assoc, Nat.mul_comm j 2]
  have e3 : (2 * j + 1) * bs = 2 * j * bs + bs := by rw [Nat.succ_mul]
  have e4 : (j + 1) * (2 * bs) = j * (2 * bs) + 2 * bs := by rw [Nat.succ_mul]
  obtain ⟨s1, s2, s3⟩ := isort_ok H (L ++ R)
  have s3' : (isort lt (L ++ R)).length = bs + R.length := by rw [s3]; simp [hL]
  refine ⟨?_, ?_, ⟨by rw [← h.len, hl]; simp [s3]; omega, (StP.append (StP.refl A) (StP.append s2 (StP.refl B))).trans (by have := h.stp; rw [hl] at this; simpa using this), fun k hk => ?_, fun k hk => ?_⟩⟩
  · have := h.one (2 * j) (by omega)
    rw [hl, blk_at (by omega) (.inl hL)] at this; exact this
  · have := h.one (2 * j + 1) (by omega)
    rw [hl, ← List.append_assoc A L, blk_at (by simp; omega) hR] at this; exact this
  · by_cases e : k = j
    · subst e
      rw [blk_at hA (hR.elim (fun h1 => .inl (by omega)) (fun h1 => .inr ⟨by omega, h1.2⟩))]; exact s1
    · have hle : (k + 1) * (2 * bs) ≤ A.length := by rw [hA]; exact Nat.mul_le_mul_right _ (by omega)
      rw [blk_left (X' := L ++ (R ++ B)) hle, ← hl]
      exact h.two k (by omega)
  · rcases hR with h1 | ⟨h1, h2⟩
    · have hle : A.length + bs + bs ≤ k * bs := by
        have := Nat.mul_le_mul_right bs (show 2 * j + 1 + 1 ≤ k by omega)
        rw [Nat.succ_mul, Nat.succ_mul] at this; omega
      have := h.one k (by omega)
      rw [hl, show A ++ (L ++ (R ++ B)) = (A ++ (L ++ R)) ++ B by simp] at this
      rw [← List.append_assoc A, blk_right (A' := A ++ (L ++ R)) (by simp [s3]) (by simp [s3, hL, h1]; omega)]
      exact this
    · subst h2
      have hle : A.length + bs + bs ≤ k * bs := by
        have := Nat.mul_le_mul_right bs (show 2 * j + 1 + 1 ≤ k by omega)
        rw [Nat.succ_mul, Nat.succ_mul] at this; omega
      rw [blk_nil (by simp [s3, hL]; omega)]; exact srt_nil
/-- What is left over stands as it is. -/
theorem Mrg1.stop {l0 l : List α} {bs j : Nat} (h : Mrg1 lt l0 bs j l) (hj : l.length ≤ j * (2 * bs) + bs) : Mrg1 lt l0 (2 * bs) 0 l :=
  ⟨h.len, h.stp, fun k h => by omega, fun k _ => by
    by_cases e : k < j
    · exact h.two k e
    · by_cases e2 : k = j
      · have e3 : j * (2 * bs) = 2 * j * bs := by rw [← Nat.mul_assoc, Nat.mul_comm j 2]
        have := h.one (2 * j) (by omega)
        have hb : blk (2 * bs) l k = blk bs l (2 * j) := by
          unfold blk
          rw [e2, e3, List.take_of_length_le (by simp; omega), List.take_of_length_le (by simp; omega)]
        rw [hb]; exact this
      · rw [blk_nil (by have := Nat.mul_le_mul_right (2 * bs) (show j + 1 ≤ k by omega); rw [Nat.succ_mul] at this; omega)]; exact srt_nil⟩
theorem Mrg1.over {l0 l : List α} {bs j : Nat} (h : Mrg1 lt l0 bs j l) (hj : l.length ≤ j * (2 * bs)) : Mrg1 lt l0 (2 * bs) 0 l := h.stop (by omega)
theorem Mrg1.done (H : SWO lt) {l0 l : List α} {bs : Nat} (h : Mrg1 lt l0 bs 0 l) (hb : l.length ≤ bs) : l = isort lt l0 := by
  refine isort_unique H ?_ h.stp
  have := h.one 0 (by omega)
  unfold blk at this
  rwa [Nat.zero_mul, List.drop_zero, List.take_of_length_le hb] at this
end
end Go.Proofs.Ytdnaadcbimbfmaa
set_option linter.unusedSimpArgs false
set_option linter.unusedVariables false
namespace Go.Proofs.Ytdnaadcbimbfmaa
open Go Go.RowKit Am

def orderI (a b : Ev) : Int := if laterB a b then 1 else if laterB b a then -1 else 0
theorem order_ok (a b : Ev) (r : Int) (hr : r = orderI a b) : CSem Try.prog (.fn 105) [.agg a.ac, .agg b.ac] (.pure [aI r]) := by
  refine of_text gam_ok mixed { n := 13 } Try.func105 (by kernel_rfl) rfl rfl (by simp) (by decide) fun F C D hF hC hD => ?_
  cbv
  refine ⟨_, hC _ _ _ (later_ok a b _ rfl), ?_⟩
  generalize h1 : laterB a b = c1
  cbv
  refine ⟨fun h => ?_, fun h => ?_⟩ <;> cbv
  · have : r = 1 := by rw [hr, orderI, h1, h]; rfl
    rw [this]; exact ⟨rfl, trivial⟩
  refine ⟨_, hC _ _ _ (later_ok b a _ rfl), ?_⟩
  generalize h2 : laterB b a = c2
  cbv
  refine ⟨fun g => ?_, fun g => ?_⟩ <;> cbv
  · have : r = -1 := by rw [hr, orderI, h1, h, h2, g]; rfl
    rw [this]; exact ⟨rfl, trivial⟩
  · have : r = 0 := by rw [hr, orderI, h1, h, h2, g]; rfl
    rw [this]; exact ⟨rfl, trivial⟩

def getI : AV → Int | .v (.int _ n) => n | _ => 0
def getS : AV → ByteArray | .v (.string s) => s | _ => ⟨#[]⟩
def getEv (l : List AV) : Ev :=
  { dot := ⟨getI (l.getD 0 .dead), getI (l.getD 1 .dead)⟩, time := getI (l.getD 2 .dead), deps := fun i => getI (l.getD (3 + i.1) .dead),
    op := { kind := getI (l.getD 19 .dead), key := getS (l.getD 20 .dead), fld := getS (l.getD 21 .dead), val := getS (l.getD 22 .dead), num := getI (l.getD 23 .dead), ref := ⟨getI (l.getD 24 .dead), getI (l.getD 25 .dead)⟩ } }
theorem getEv_ac (e : Ev) : getEv e.ac = e := by
  obtain ⟨⟨r, n⟩, t, d, ⟨k, ky, f, v, m, ⟨rr, rn⟩⟩⟩ := e
  have : (fun i : Fin 16 => getI ((Ev.ac ⟨⟨r, n⟩, t, d, ⟨k, ky, f, v, m, ⟨rr, rn⟩⟩⟩).getD (3 + i.1) .dead)) = d := by
    funext i
    match i with
    | ⟨0, _⟩ => rfl | ⟨1, _⟩ => rfl | ⟨2, _⟩ => rfl | ⟨3, _⟩ => rfl | ⟨4, _⟩ => rfl | ⟨5, _⟩ => rfl | ⟨6, _⟩ => rfl | ⟨7, _⟩ => rfl
    | ⟨8, _⟩ => rfl | ⟨9, _⟩ => rfl | ⟨10, _⟩ => rfl | ⟨11, _⟩ => rfl | ⟨12, _⟩ => rfl | ⟨13, _⟩ => rfl | ⟨14, _⟩ => rfl | ⟨15, _⟩ => rfl
    | ⟨k + 16, h⟩ => exact absurd h (by omega)
  unfold getEv
  rw [this]
  rfl
def isEv (l : List AV) : Prop := ∃ e : Ev, l = e.ac
theorem isEv.len {l : List AV} (h : isEv l) : l.length = 26 := by obtain ⟨e, rfl⟩ := h; rfl
theorem isEv.ac {l : List AV} (h : isEv l) : (getEv l).ac = l := by obtain ⟨e, rfl⟩ := h; rw [getEv_ac]
def ltR (x y : List AV) : Bool := laterB (getEv y) (getEv x)
theorem swo_ltR : SWO ltR where
  asym x y h := by
    unfold ltR at h ⊢
    rw [later_iff] at h
    rw [Bool.eq_false_iff]
    intro h2
    rw [later_iff] at h2
    omega
  ntr x y z h := by
    unfold ltR at h ⊢
    rw [later_iff] at h ⊢
    rw [later_iff]
    omega
def orderR (x y : List AV) : Int := orderI (getEv x) (getEv y)
theorem orderR_neg (x y : List AV) : orderR x y < 0 ↔ ltR x y = true := by
  unfold orderR orderI
  have := swo_ltR.asym x y
  have := swo_ltR.asym y x
  unfold ltR at *
  split
  · rename_i h; simp [this h]
  · split
    · rename_i h; simp [h]
    · rename_i h; simp [h]
theorem orderR_ok (x y : List AV) (hx : isEv x) (hy : isEv y) (r : Int) (hr : r = orderR x y) : CSem Try.prog (.fn 105) [.agg x, .agg y] (.pure [aI r]) := by
  have := order_ok (getEv x) (getEv y) r hr
  rwa [hx.ac, hy.ac] at this

/-- How an insertion goes on. -/
def InsI (A L rest : List (List AV)) (x : List AV) (j : Nat) (r : List (List AV)) : Prop :=
  ∃ L1 L2, L = L1 ++ L2 ∧ r = A ++ (L1 ++ (x :: (L2 ++ rest))) ∧ A.length + L1.length = j ∧ ∀ y ∈ L2, ltR x y = true
theorem InsI.at {A L rest r : List (List AV)} {x : List AV} {j : Nat} (h : InsI A L rest x j r) : r[j]? = some x := by
  obtain ⟨L1, L2, rfl, rfl, h1, h2⟩ := h
  rw [List.getElem?_append_right (by omega), List.getElem?_append_right (by omega), show j - A.length - L1.length = 0 by omega]
  rfl
theorem InsI.step {A L rest r : List (List AV)} {x : List AV} {j : Nat} (h : InsI A L rest x j r) (hj : A.length < j) :
    ∃ y, r[j - 1]? = some y ∧ (ltR x y = true → InsI A L rest x (j - 1) ((r.set j y).set (j - 1) x)) ∧ (ltR x y = false → Srt ltR L → r = A ++ (ins ltR x L ++ rest)) := by
  obtain ⟨L1, L2, rfl, rfl, h1, h2⟩ := h
  rcases List.eq_nil_or_concat L1 with rfl | ⟨L, y, rfl⟩
  · simp at h1; omega
  · rw [List.concat_eq_append] at h1 ⊢
    have hl : A.length + L.length + 1 = j := by simpa [Nat.add_assoc] using h1
    refine ⟨y, ?_, fun hxy => ⟨L, y :: L2, by simp, ?_, by omega, fun z hz => ?_⟩, fun hxy hs => ?_⟩
    · rw [List.getElem?_append_right (by omega), List.append_assoc, List.getElem?_append_right (by omega), show j - 1 - A.length - L.length = 0 by omega]
      rfl
    · have e : A ++ ((L ++ [y]) ++ (x :: (L2 ++ rest))) = (A ++ L) ++ (y :: x :: (L2 ++ rest)) := by simp
      have hAL : (A ++ L).length = j - 1 := by simp; omega
      rw [e, List.set_append_right _ _ (by omega), List.set_append_right _ _ (by omega), hAL, show j - (j - 1) = 1 by omega, show j - 1 - (j - 1) = 0 by omega]
      simp
    · rcases List.mem_cons.1 hz with rfl | hz
      · exact hxy
      · exact h2 z hz
    · rw [ins_split swo_ltR x (L ++ [y]) L2 (fun z hz => ?_) h2]
      · simp
      · have hs1 : Srt ltR (L ++ [y]) := (List.pairwise_append.1 hs).1
        rcases List.mem_append.1 hz with hz | hz
        · have := (List.pairwise_append.1 hs1).2.2 z hz y (by simp)
          exact swo_ltR.le_trans this hxy
        · simp at hz; subst hz; exact hxy
theorem InsI.stop {A L rest r : List (List AV)} {x : List AV} {j : Nat} (h : InsI A L rest x j r) (hj : j ≤ A.length) : r = A ++ (ins ltR x L ++ rest) := by
  obtain ⟨L1, L2, rfl, rfl, h1, h2⟩ := h
  have : L1 = [] := List.eq_nil_of_length_eq_zero (by omega)
  subst this
  have := ins_split swo_ltR x [] L2 (fun y hy => by simp at hy) h2
  simp at this
  simp [this]
theorem InsI.start (A L rest : List (List AV)) (x : List AV) : InsI A L rest x (A.length + L.length) (A ++ (L ++ (x :: rest))) := ⟨L, [], by simp, by simp, rfl, fun y hy => by simp at hy⟩
theorem InsI.mem {A L rest r : List (List AV)} {x : List AV} {j : Nat} (h : InsI A L rest x j r) {q : List AV} (hq : q ∈ r) : q ∈ A ++ (L ++ (x :: rest)) := by
  obtain ⟨L1, L2, rfl, rfl, h1, h2⟩ := h
  simp only [List.mem_append, List.mem_cons] at hq ⊢
  rcases hq with h | h | h | h | h <;> simp [h]
theorem InsI.len {A L rest r : List (List AV)} {x : List AV} {j : Nat} (h : InsI A L rest x j r) : r.length = A.length + L.length + 1 + rest.length := by
  obtain ⟨L1, L2, rfl, rfl, h1, h2⟩ := h
  simp; omega
end Go.Proofs.Ytdnaadcbimbfmaa
set_option linter.unusedSimpArgs false
set_option linter.unusedVariables false
namespace Go.Proofs.Ytdnaadcbimbfmaa
open Go Go.RowKit Am

def OutI (A M B : List (List AV)) (i : Nat) (r : List (List AV)) : Prop :=
  ∃ k, 1 ≤ k ∧ i = A.length + k ∧ r = A ++ (isort ltR (M.take k) ++ (M.drop k ++ B)) ∧ (k ≤ M.length ∨ k = 1)
theorem OutI.start (A M B : List (List AV)) : OutI A M B (A.length + 1) (A ++ (M ++ B)) := by
  refine ⟨1, Nat.le_refl _, rfl, ?_, .inr rfl⟩
  cases M with
  | nil => rfl
  | cons x M => rfl
theorem OutI.stop {A M B r : List (List AV)} {i : Nat} (h : OutI A M B i r) (hi : A.length + M.length ≤ i) : r = A ++ (isort ltR M ++ B) := by
  obtain ⟨k, h1, rfl, rfl, h2⟩ := h
  have h3 : M.length ≤ k := by omega
  rw [List.take_of_length_le h3, List.drop_of_length_le h3]
  simp
theorem OutI.inner {A M B r : List (List AV)} {i : Nat} (h : OutI A M B i r) (hi : i < A.length + M.length) :
    ∃ L rest x, InsI A L rest x i r ∧ Srt ltR L ∧ A.length + L.length + 1 + rest.length = A.length + M.length + B.length ∧ OutI A M B (i + 1) (A ++ (ins ltR x L ++ rest)) ∧ (∀ q, q ∈ A ++ (L ++ (x :: rest)) → q ∈ A ++ (M ++ B)) := by
  obtain ⟨k, h1, rfl, rfl, h2⟩ := h
  have hk : k < M.length := by omega
  have hd : M.drop k = M[k] :: M.drop (k + 1) := List.drop_eq_getElem_cons hk
  have ht : M.take (k + 1) = M.take k ++ [M[k]] := by rw [List.take_succ_eq_append_getElem hk]
  obtain ⟨s1, s2, s3⟩ := isort_ok swo_ltR (M.take k)
  have hl : (isort ltR (M.take k)).length = k := by rw [s3]; simp; omega
  refine ⟨isort ltR (M.take k), M.drop (k + 1) ++ B, M[k], ?_, s1, by simp [hl]; omega, ⟨k + 1, by omega, by omega, ?_, .inl (by omega)⟩, fun q hq => ?_⟩
  · have := InsI.start A (isort ltR (M.take k)) (M.drop (k + 1) ++ B) M[k]
    rw [hl] at this
    rw [hd]
    exact this
  · rw [ht, isort_snoc]
  · simp only [List.mem_append, List.mem_cons] at hq ⊢
    rcases hq with h | h | h | h | h
    · exact .inl h
    · exact .inr (.inl (List.mem_of_mem_take (isort_mem swo_ltR h)))
    · subst h; exact .inr (.inl (List.getElem_mem hk))
    · exact .inr (.inl (List.mem_of_mem_drop h))
    · exact .inr (.inr h)
theorem insertionSort_ok (rows : List (List AV)) (a b : Nat) (a' b' : Int) (ea : a' = (a : Int)) (eb : b' = (b : Int)) (A M B : List (List AV)) (hrows : rows = A ++ (M ++ B)) (hA : A.length = a) (hM : a + M.length = b) (hlen : rows.length ≤ 1000000000) (hr : ∀ r ∈ rows, isEv r) (rows' : List (List AV)) (hrows' : rows' = A ++ (isort ltR M ++ B)) :
    CSem Try.prog (.wr 112 [(0, .row 37 26 rows 0 0)] [(0, .row 37 26 rows' 0 0)]) [.own 0 0, aI a', aI b', .clo 105 []] (.pure []) := by
  have hlr : rows.length = a + M.length + B.length := by rw [hrows]; simp; omega
  refine of_textW gam_ok mixed { n := 53 } Try.func112 (by kernel_rfl) rfl rfl (by simp) (by decide) rfl fun F C D hF hC hD => ?_
  have e1 : F .ar .add .i64 a' 1 = ((a + 1 : Nat) : Int) := by rw [hF]; exact (wrap_in (by omega) (by omega)).trans (by omega)
  obtain ⟨i0, hi0⟩ : ∃ i0, F .ar .add .i64 a' 1 = i0 := ⟨_, rfl⟩
  rw [hi0] at e1
  cbv
  rw [hi0]
  refine ⟨Nat × Int × List (List AV), fun x => { slots := [(8, aI x.2.1), (0, .own 0 0), (1, aI a'), (2, aI b'), (3, .clo 105 [])], obs := [(0, .row 37 26 x.2.2 0 0)], ctr := 4, par := 4 }, fun x => x.2.1 = (x.1 : Int) ∧ OutI A M B x.1 x.2.2, fun x => b + 1 - x.1, ⟨(a + 1, i0, rows), ⟨e1, by rw [hrows, ← hA]; exact OutI.start A M B⟩, le_of [] (by simp [leSl, leOb, injK, memK, parK, noTup, lk, rn0, rnA, plain, aI])⟩, fun x hx => ?_⟩
  obtain ⟨i, i', r⟩ := x
  obtain ⟨ei, hri⟩ := hx
  simp only at ei hri
  have eb : b' = (b : Int) := eb
  have ea : a' = (a : Int) := ea
  have hlt : F .cmp .lss i' b' = true → i < b := fun g => by rw [hF] at g; simp [sy] at g; omega
  have hge : F .cmp .lss i' b' = false → b ≤ i := fun g => by rw [hF] at g; simp [sy] at g; omega
  have ep : i < b → F .ar .add .i64 i' 1 = ((i + 1 : Nat) : Int) := fun h => by rw [hF]; exact (wrap_in (by omega) (by omega)).trans (by omega)
  cbv
  refine ⟨fun h => ?_, fun h => ?_⟩ <;> cbv
  · have hib := hlt h
    obtain ⟨L, rest, x, hin, hsL, hlL, hout, hmem⟩ := hri.inner (by omega)
    refine ⟨Nat × Int × List (List AV), fun y => { slots := [(9, aI y.2.1), (8, aI i'), (0, .own 0 0), (1, aI a'), (2, aI b'), (3, .clo 105 [])], obs := [(0, .row 37 26 y.2.2 0 0)], ctr := 4, par := 4 }, fun y => y.2.1 = (y.1 : Int) ∧ InsI A L rest x y.1 y.2.2, fun y => y.1, ⟨(i, i', r), ⟨ei, hin⟩, le_of [] (by simp [leSl, leOb, injK, memK, parK, noTup, lk, rn0, rnA, plain, aI])⟩, fun y hy => ?_⟩
    obtain ⟨j, j', q⟩ := y
    obtain ⟨ej, hq⟩ := hy
    simp only at ej hq
    have ea : a' = (a : Int) := ea
    have hev : ∀ z, z ∈ q → isEv z := fun z hz => hr z (by rw [hrows]; exact hmem z (hq.mem hz))
    have hql : q.length = A.length + L.length + 1 + rest.length := hq.len
    have hjt : F .cmp .gtr j' a' = true → a < j := fun g => by rw [hF] at g; simp [sy] at g; omega
    have hjf : F .cmp .gtr j' a' = false → j ≤ a := fun g => by rw [hF] at g; simp [sy] at g; omega
    have hjl : j < q.length := by
      have := hq.at
      exact (List.getElem?_eq_some_iff.1 this).1
    have em : a < j → F .ar .sub .i64 j' 1 = ((j - 1 : Nat) : Int) := fun h => by rw [hF]; exact (wrap_in (by omega) (by omega)).trans (by omega)
    have cn : ∀ n : Int, F .cmp .lss n 0 = true → n < 0 := fun n g => by rw [hF] at g; simpa [sy] using g
    have cp : ∀ n : Int, F .cmp .lss n 0 = false → ¬ n < 0 := fun n g => by rw [hF] at g; simp [sy] at g; omega
    cbv
    refine ⟨hC _ _ _ (ben_ok (by kernel_rfl)), ?_⟩
    cbv
    have next : ∀ i2 : Int, F .ar .add .i64 i' 1 = i2 → i2 = ((i + 1 : Nat) : Int) := fun i2 h => h.symm.trans (ep hib)
    refine ⟨fun g => ?_, fun g => ?_⟩ <;> cbv
    · have hja := hjt g
      obtain ⟨y, hy, hstep, hstop⟩ := hq.step (by omega)
      obtain ⟨k, hk⟩ : ∃ k, k = j - 1 := ⟨_, rfl⟩
      have hyk : q[k]? = some y := by rw [hk]; exact hy
      have emk : F .ar .sub .i64 j' 1 = (k : Int) := (em hja).trans (by rw [hk])
      have hxe : isEv x := hev x (List.mem_of_getElem? hq.at)
      have hye : isEv y := hev y (List.mem_of_getElem? hy)
      refine ⟨j, x, ej, hq.at, ?_⟩
      cbv
      refine ⟨k, y, emk, hyk, ?_⟩
      cbv
      refine ⟨_, hC _ _ _ (orderR_ok x y hxe hye _ rfl), ?_⟩
      have hneg := orderR_neg x y
      generalize orderR x y = n at hneg
      cbv
      refine ⟨fun f => ?_, fun f => ?_⟩ <;> cbv
      · have hxy : ltR x y = true := hneg.1 (cn n f)
        refine ⟨hC _ _ _ (ben_ok (by kernel_rfl)), ?_⟩
        cbv
        have hyl : y.length = 26 := hye.len
        have hxl : x.length = 26 := hxe.len
        refine ⟨k, y, emk, hyk, ?_⟩
        cbv
        refine ⟨j, x, ej, hq.at, ?_⟩
        cbv
        refine ⟨j, x, ej, hq.at, ?_⟩
        cbv
        refine ⟨.mk hyl, ?_⟩
        cbv
        obtain ⟨q2, hq2⟩ : ∃ q2, F .set q j y = q2 := ⟨_, rfl⟩
        rw [hq2]
        have eq2 : q2 = q.set j y := by rw [← hq2, hF]; rfl
        obtain ⟨c2, hc2⟩ : ∃ c2, q2[k]? = some c2 := ⟨_, List.getElem?_eq_getElem (by rw [eq2]; simp; omega)⟩
        refine ⟨k, c2, emk, hc2, ?_⟩
        cbv
        refine ⟨.mk hxl, ?_⟩
        cbv
        obtain ⟨q3, hq3⟩ : ∃ q3, F .set q2 k x = q3 := ⟨_, rfl⟩
        rw [hq3]
        have eq3 : q3 = (q.set j y).set (j - 1) x := by rw [← hq3, hF, eq2, hk]; rfl
        obtain ⟨j2, hj2⟩ : ∃ j2, F .ar .sub .i64 j' 1 = j2 := ⟨_, rfl⟩
        rw [hj2]
        exact ⟨(k, j2, q3), ⟨hj2.symm.trans emk, by rw [eq3, hk]; exact hstep hxy⟩, (by simp; omega), Le.trans le_fresh (le_of [] (by simp [St.fresh, freshObs, Ob.fresh, mapS, killR, relT, leSl, leOb, injK, memK, parK, noTup, lk, rn0, rnA, plain]))⟩
      · have hxy : ltR x y = false := by
          rw [Bool.eq_false_iff]
          exact fun h => cp n f (hneg.2 h)
        have hr2 := hstop hxy hsL
        obtain ⟨i2, hi2⟩ : ∃ i2, F .ar .add .i64 i' 1 = i2 := ⟨_, rfl⟩
        rw [hi2]
        exact ⟨(i + 1, i2, q), ⟨next i2 hi2, by rw [hr2]; exact hout⟩, (by simp; omega), Le.trans le_fresh (le_of [] (by simp [St.fresh, freshObs, Ob.fresh, mapS, killR, relT, leSl, leOb, injK, memK, parK, noTup, lk, rn0, rnA, plain]))⟩
    · have hr2 := hq.stop (by have := hjf g; omega)
      obtain ⟨i2, hi2⟩ : ∃ i2, F .ar .add .i64 i' 1 = i2 := ⟨_, rfl⟩
      rw [hi2]
      exact ⟨(i + 1, i2, q), ⟨next i2 hi2, by rw [hr2]; exact hout⟩, (by simp; omega), Le.trans le_fresh (le_of [] (by simp [St.fresh, freshObs, Ob.fresh, mapS, killR, relT, leSl, leOb, injK, memK, parK, noTup, lk, rn0, rnA, plain]))⟩
  · have hr2 := hri.stop (by have := hge h; omega)
    exact ⟨⟨hr2.trans hrows'.symm, trivial⟩, trivial⟩
end Go.Proofs.Ytdnaadcbimbfmaa
set_option linter.unusedSimpArgs false
set_option linter.unusedVariables false
namespace Go.Proofs.Ytdnaadcbimbfmaa
open Go Go.RowKit Am

theorem half_eq5 (i j : Nat) (hi : i ≤ 1000000000) (hj : j ≤ 1000000000) : sy .wrp .i64 (sy .ar .shr .u64 (sy .wrp .u64 ((i + j : Nat) : Int)) 1) = (((i + j) / 2 : Nat) : Int) := by
  have e1 : IntKind.u64.wrap ((i + j : Nat) : Int) = ((i + j : Nat) : Int) := by
    simp [IntKind.wrap, IntKind.signed, IntKind.bits]
    omega
  have e2 : Int.fdiv ((i + j : Nat) : Int) (2 ^ (min (1 : Int).toNat 64)) = (((i + j) / 2 : Nat) : Int) := by
    simp
    rw [Int.fdiv_eq_ediv_of_nonneg _ (by omega)]
  simp only [sy]
  rw [e1]
  show IntKind.i64.wrap (Int.fdiv _ (2 ^ (min (1 : Int).toNat 64))) = _
  rw [e2]
  exact wrap_in (by omega) (by omega)

/-- One thing on its way up through a list. -/
def FwdI (A R rest : List (List AV)) (x : List AV) (k : Nat) (r : List (List AV)) : Prop :=
  ∃ P Q, R = P ++ Q ∧ r = A ++ (P ++ (x :: (Q ++ rest))) ∧ A.length + P.length = k
theorem FwdI.step {A R rest r : List (List AV)} {x : List AV} {k : Nat} (h : FwdI A R rest x k r) (hk : k < A.length + R.length) :
    r[k]? = some x ∧ ∃ y, r[k + 1]? = some y ∧ FwdI A R rest x (k + 1) ((r.set k y).set (k + 1) x) := by
  obtain ⟨P, Q, rfl, rfl, h1⟩ := h
  cases Q with
  | nil => simp at hk; omega
  | cons y Q =>
    have e : A ++ (P ++ (x :: ((y :: Q) ++ rest))) = (A ++ P) ++ (x :: y :: (Q ++ rest)) := by simp
    have hl : (A ++ P).length = k := by simpa using h1
    refine ⟨?_, y, ?_, P ++ [y], Q, by simp, ?_, by simp; omega⟩
    · rw [e, List.getElem?_append_right (by omega), hl, Nat.sub_self]; rfl
    · rw [e, List.getElem?_append_right (by omega), hl, show k + 1 - k = 1 by omega]; rfl
    · rw [e, List.set_append_right _ _ (by omega), List.set_append_right _ _ (by omega), hl, Nat.sub_self, show k + 1 - k = 1 by omega]
      simp
theorem FwdI.stop {A R rest r : List (List AV)} {x : List AV} {k : Nat} (h : FwdI A R rest x k r) (hk : A.length + R.length ≤ k) : r = A ++ (R ++ (x :: rest)) := by
  obtain ⟨P, Q, rfl, rfl, h1⟩ := h
  have : Q = [] := List.eq_nil_of_length_eq_zero (by simp at hk; omega)
  subst this
  simp
theorem FwdI.mem {A R rest r : List (List AV)} {x : List AV} {k : Nat} (h : FwdI A R rest x k r) {q : List AV} (hq : q ∈ r) : q ∈ A ++ (x :: (R ++ rest)) := by
  obtain ⟨P, Q, rfl, rfl, h1⟩ := h
  simp only [List.mem_append, List.mem_cons] at hq ⊢
  rcases hq with h | h | h | h | h <;> simp [h]
theorem FwdI.len {A R rest r : List (List AV)} {x : List AV} {k : Nat} (h : FwdI A R rest x k r) : r.length = A.length + R.length + 1 + rest.length := by
  obtain ⟨P, Q, rfl, rfl, h1⟩ := h
  simp; omega
/-- One thing on its way down through a list. -/
def BwdI (A L rest : List (List AV)) (x : List AV) (k : Nat) (r : List (List AV)) : Prop :=
  ∃ P Q, L = P ++ Q ∧ r = A ++ (P ++ (x :: (Q ++ rest))) ∧ A.length + P.length = k
theorem BwdI.step {A R rest r : List (List AV)} {x : List AV} {k : Nat} (h : BwdI A R rest x k r) (hk : A.length < k) :
    r[k]? = some x ∧ ∃ y, r[k - 1]? = some y ∧ BwdI A R rest x (k - 1) ((r.set k y).set (k - 1) x) := by
  obtain ⟨P, Q, rfl, rfl, h1⟩ := h
  rcases List.eq_nil_or_concat P with rfl | ⟨P, y, rfl⟩
  · simp at h1; omega
  · rw [List.concat_eq_append] at h1 ⊢
    have e : A ++ ((P ++ [y]) ++ (x :: (Q ++ rest))) = (A ++ P) ++ (y :: x :: (Q ++ rest)) := by simp
    have hl : (A ++ P).length = k - 1 := by simp at h1 ⊢; omega
    refine ⟨?_, y, ?_, P, y :: Q, by simp, ?_, by simp at h1 ⊢; omega⟩
    · rw [e, List.getElem?_append_right (by omega), hl, show k - (k - 1) = 1 by omega]; rfl
    · rw [e, List.getElem?_append_right (by omega), hl, Nat.sub_self]; rfl
    · rw [e, List.set_append_right _ _ (by omega), List.set_append_right _ _ (by omega), hl, Nat.sub_self, show k - (k - 1) = 1 by omega]
      simp
theorem BwdI.stop {A R rest r : List (List AV)} {x : List AV} {k : Nat} (h : BwdI A R rest x k r) (hk : k ≤ A.length) : r = A ++ (x :: (R ++ rest)) := by
  obtain ⟨P, Q, rfl, rfl, h1⟩ := h
  have : P = [] := List.eq_nil_of_length_eq_zero (by omega)
  subst this
  simp
theorem BwdI.mem {A R rest r : List (List AV)} {x : List AV} {k : Nat} (h : BwdI A R rest x k r) {q : List AV} (hq : q ∈ r) : q ∈ A ++ (x :: (R ++ rest)) := by
  obtain ⟨P, Q, rfl, rfl, h1⟩ := h
  simp only [List.mem_append, List.mem_cons] at hq ⊢
  rcases hq with h | h | h | h | h <;> simp [h]
theorem BwdI.len {A R rest r : List (List AV)} {x : List AV} {k : Nat} (h : BwdI A R rest x k r) : r.length = A.length + R.length + 1 + rest.length := by
  obtain ⟨P, Q, rfl, rfl, h1⟩ := h
  simp; omega
/-- Where a thing belongs in what rises: behind all that is less. -/
theorem low_split (R : List (List AV)) (hR : Srt ltR R) (x : List AV) : ∃ R1 R2, R = R1 ++ R2 ∧ (∀ y ∈ R1, ltR y x = true) ∧ (∀ y ∈ R2, ltR y x = false) := by
  induction R with
  | nil => exact ⟨[], [], rfl, fun y h => by simp at h, fun y h => by simp at h⟩
  | cons z R ih =>
    obtain ⟨h1, h2⟩ := List.pairwise_cons.1 hR
    by_cases e : ltR z x = true
    · obtain ⟨R1, R2, rfl, h3, h4⟩ := ih h2
      exact ⟨z :: R1, R2, rfl, fun y hy => by rcases List.mem_cons.1 hy with rfl | hy; exact e; exact h3 y hy, h4⟩
    · refine ⟨[], z :: R, rfl, fun y h => by simp at h, fun y hy => ?_⟩
      have e : ltR z x = false := by simpa using e
      rcases List.mem_cons.1 hy with rfl | hy
      · exact e
      · cases e2 : ltR y x
        · rfl
        · rcases swo_ltR.ntr y z x e2 with h | h
          · rw [h1 y hy] at h; simp at h
          · rw [e] at h; simp at h
theorem high_split (L : List (List AV)) (hL : Srt ltR L) (x : List AV) : ∃ L1 L2, L = L1 ++ L2 ∧ (∀ y ∈ L1, ltR x y = false) ∧ (∀ y ∈ L2, ltR x y = true) := by
  induction L with
  | nil => exact ⟨[], [], rfl, fun y h => by simp at h, fun y h => by simp at h⟩
  | cons z R ih =>
    obtain ⟨h1, h2⟩ := List.pairwise_cons.1 hL
    by_cases e : ltR x z = true
    · refine ⟨[], z :: R, rfl, fun y h => by simp at h, fun y hy => ?_⟩
      rcases List.mem_cons.1 hy with rfl | hy
      · exact e
      · rcases swo_ltR.ntr x y z e with h | h
        · exact h
        · rw [h1 y hy] at h; simp at h
    · obtain ⟨R1, R2, rfl, h3, h4⟩ := ih h2
      exact ⟨z :: R1, R2, rfl, fun y hy => by rcases List.mem_cons.1 hy with rfl | hy; simpa using e; exact h3 y hy, h4⟩
end Go.Proofs.Ytdnaadcbimbfmaa
set_option linter.unusedSimpArgs false
set_option linter.unusedVariables false
namespace Go.Proofs.Ytdnaadcbimbfmaa
open Go Go.RowKit Am

def dropSeq : Nat → Code → Code
  | 0, c => c
  | n + 1, .seq _ y => dropSeq n y
  | _, c => c
noncomputable def body79 : Code := (Try.f113.body).getD .skip
abbrev E79 : En := { n := 220, wrs := [113, 114], cuts := [2, 14, 32, 38, 41, 43] }
/-- What symMerge promises of spans up to d. -/
def Mrg (d : Nat) : Prop :=
  ∀ (rows : List (List AV)) (a m b : Nat) (a' m' b' : Int) (ea : a' = (a : Int)) (em : m' = (m : Int)) (eb : b' = (b : Int)) (A L R B : List (List AV)) (hrows : rows = A ++ (L ++ (R ++ B))) (hA : A.length = a) (hL : a + L.length = m) (hR : m + R.length = b) (h0 : 0 < L.length) (h1 : 0 < R.length) (hsL : Srt ltR L) (hsR : Srt ltR R) (hd : b - a ≤ d) (hlen : rows.length ≤ 500000000) (hr : ∀ r ∈ rows, isEv r) (rows' : List (List AV)) (hrows' : rows' = A ++ (isort ltR (L ++ R) ++ B)),
    CSem Try.prog (.wr 113 [(0, .row 37 26 rows 0 0)] [(0, .row 37 26 rows' 0 0)]) [.own 0 0, aI a', aI m', aI b', .clo 105 []] (.pure [])
theorem lt_iffF {F : Sy} (hF : F = sy) (i j : Nat) (i' j' : Int) (hi : i' = (i : Int)) (hj : j' = (j : Int)) : (F .cmp .lss i' j' = true ↔ i < j) ∧ (F .cmp .gtr i' j' = true ↔ j < i) := by rw [hF, hi, hj]; simp [sy]
theorem isort_one {X Y : List (List AV)} (hX : Srt ltR X) (hY : Srt ltR Y) (h : X.length = 0 ∨ Y.length = 0) : isort ltR (X ++ Y) = X ++ Y := by
  rcases h with h | h
  · have := List.eq_nil_of_length_eq_zero h
    subst this
    exact (isort_unique swo_ltR hY (StP.refl _)).symm
  · have := List.eq_nil_of_length_eq_zero h
    subst this
    simp only [List.append_nil]
    exact (isort_unique swo_ltR hX (StP.refl _)).symm
theorem t43 {F : Sy} {C : Key → List AV → Res → Prop} {D : Code → (AE → St → Prop) → St → Prop} (hF : F = sy) (hC : ∀ k l r, CSem Try.prog k l r → C k l r) (hD : ∀ c Q s, awp F C D E79 c Q s → D c Q s)
    (d : Nat) (ih : Mrg d) (z rows' : List (List AV)) (a' m' : Int) (mid e b : Nat) (c' e' b' : Int) (ec : c' = (mid : Int)) (ee : e' = (e : Int)) (eb : b' = (b : Int)) (A L2 R2 B : List (List AV)) (hz : z = A ++ (L2 ++ (R2 ++ B))) (hA : A.length = mid) (lL : mid + L2.length = e) (lR : e + R2.length = b) (sL : Srt ltR L2) (sR : Srt ltR R2) (hd : b - mid ≤ d) (hlen : z.length ≤ 500000000) (hr : ∀ r ∈ z, isEv r)
    (hfin : rows' = A ++ (isort ltR (L2 ++ R2) ++ B)) :
    awp F C D E79 (dropSeq 11 body79) (fun e st => match e with | .normal => retOKW Try.f113.results.toList [(0, .row 37 26 rows' 0 0)] (.pure []) st | .ret => retOKW Try.f113.results.toList [(0, .row 37 26 rows' 0 0)] (.pure []) st | .exit _ => False)
      { slots := [(18, aI c'), (24, aI e'), (0, .own 0 0), (1, aI a'), (2, aI m'), (3, aI b'), (4, .clo 105 [])], obs := [(0, .row 37 26 z 0 0)], ctr := 5, par := 5 } := by
  have tce := (lt_iffF hF mid e c' e' ec ee).1
  have teb := (lt_iffF hF e b e' b' ee eb).1
  cbv
  refine ⟨fun y1 => ?_, fun y1 => ?_⟩ <;> cbv
  · refine ⟨fun y2 => ?_, fun y2 => ?_⟩ <;> cbv
    · have v3 := tce.1 y1
      have v4 := teb.1 y2
      refine ⟨_, _, hC _ _ _ (ih z mid e b c' e' b' ec ee eb A L2 R2 B hz hA lL lR (by omega) (by omega) sL sR hd hlen hr rows' hfin), ?_⟩
      cbv
    · have v5 := nfB teb y2
      have hk2 := isort_one sL sR (by omega)
      exact ⟨⟨by rw [hfin, hz, hk2]; simp, trivial⟩, trivial⟩
  · have v5 := nfB tce y1
    have hk2 := isort_one sL sR (by omega)
    exact ⟨⟨by rw [hfin, hz, hk2]; simp, trivial⟩, trivial⟩
theorem t41 {F : Sy} {C : Key → List AV → Res → Prop} {D : Code → (AE → St → Prop) → St → Prop} (hF : F = sy) (hC : ∀ k l r, CSem Try.prog k l r → C k l r) (hD : ∀ c Q s, awp F C D E79 c Q s → D c Q s)
    (d : Nat) (ih : Mrg d) (z rows' : List (List AV)) (a i m mid e b : Nat) (a' i' m' c' e' b' : Int) (ea : a' = (a : Int)) (ei : i' = (i : Int)) (ec : c' = (mid : Int)) (ee : e' = (e : Int)) (eb : b' = (b : Int)) (A L1 R1 L2 R2 B : List (List AV)) (hz : z = A ++ (L1 ++ (R1 ++ (L2 ++ (R2 ++ B))))) (hA : A.length = a) (lL1 : a + L1.length = i) (lR1 : i + R1.length = mid) (lL : mid + L2.length = e) (lR : e + R2.length = b)
    (sL1 : Srt ltR L1) (sR1 : Srt ltR R1) (sL : Srt ltR L2) (sR : Srt ltR R2) (hd1 : mid - a ≤ d) (hd : b - mid ≤ d) (hlen : z.length ≤ 500000000) (hr : ∀ r ∈ z, isEv r)
    (hfin : rows' = (A ++ isort ltR (L1 ++ R1)) ++ (isort ltR (L2 ++ R2) ++ B)) :
    awp F C D E79 (dropSeq 10 body79) (fun e st => match e with | .normal => retOKW Try.f113.results.toList [(0, .row 37 26 rows' 0 0)] (.pure []) st | .ret => retOKW Try.f113.results.toList [(0, .row 37 26 rows' 0 0)] (.pure []) st | .exit _ => False)
      { slots := [(20, aI i'), (18, aI c'), (24, aI e'), (0, .own 0 0), (1, aI a'), (2, aI m'), (3, aI b'), (4, .clo 105 [])], obs := [(0, .row 37 26 z 0 0)], ctr := 5, par := 5 } := by
  have tai := (lt_iffF hF a i a' i' ea ei).1
  have tic := (lt_iffF hF i mid i' c' ei ec).1
  have len1 := (isort_ok swo_ltR (L1 ++ R1)).2.2
  have mem1 : ∀ q, q ∈ isort ltR (L1 ++ R1) → q ∈ L1 ++ R1 := fun q hq => isort_mem swo_ltR hq
  have hA2 : (A ++ isort ltR (L1 ++ R1)).length = mid := by rw [List.length_append, len1, List.length_append]; omega
  obtain ⟨z2, hz2⟩ : ∃ z2, z2 = (A ++ isort ltR (L1 ++ R1)) ++ (L2 ++ (R2 ++ B)) := ⟨_, rfl⟩
  have hl2 : z2.length = z.length := by rw [hz2, hz]; simp only [List.length_append, len1]; omega
  have hr2 : ∀ r ∈ z2, isEv r := fun r h => hr r (by
    rw [hz2] at h
    rw [hz]
    simp only [List.mem_append] at h ⊢
    rcases h with (h | h) | h | h | h
    · simp [h]
    · have := mem1 r h
      simp only [List.mem_append] at this
      rcases this with h | h <;> simp [h]
    all_goals simp [h])
  have tail := t43 hF hC hD d ih z2 rows' a' m' mid e b c' e' b' ec ee eb (A ++ isort ltR (L1 ++ R1)) L2 R2 B hz2 hA2 lL lR sL sR hd (by omega) hr2 hfin
  have skip : (L1.length = 0 ∨ R1.length = 0) → z = z2 := fun h => by rw [hz2, isort_one sL1 sR1 h, hz]; simp
  cbv
  refine ⟨fun y1 => ?_, fun y1 => ?_⟩ <;> cbv
  · refine ⟨fun y2 => ?_, fun y2 => ?_⟩ <;> cbv
    · have v3 := tai.1 y1
      have v4 := tic.1 y2
      refine ⟨_, _, hC _ _ _ (ih z a i mid a' i' c' ea ei ec A L1 R1 (L2 ++ (R2 ++ B)) hz hA lL1 lR1 (by omega) (by omega) sL1 sR1 hd1 hlen hr z2 (by rw [hz2]; simp)), ?_⟩
      cbv
      exact ⟨_, Le.trans le_fresh (le_of [] (by simp [St.fresh, freshObs, Ob.fresh, mapS, killR, relT, leSl, leOb, injK, memK, parK, noTup, lk, rn0, rnA, plain, aI])), hD _ _ _ tail⟩
    · have v5 := nfB tic y2
      have hq := skip (by omega)
      subst hq
      exact ⟨_, Le.trans le_fresh (le_of [] (by simp [St.fresh, freshObs, Ob.fresh, mapS, killR, relT, leSl, leOb, injK, memK, parK, noTup, lk, rn0, rnA, plain, aI])), hD _ _ _ tail⟩
  · have v5 := nfB tai y1
    have hq := skip (by omega)
    subst hq
    exact ⟨_, Le.trans le_fresh (le_of [] (by simp [St.fresh, freshObs, Ob.fresh, mapS, killR, relT, leSl, leOb, injK, memK, parK, noTup, lk, rn0, rnA, plain, aI])), hD _ _ _ tail⟩
theorem t38 {F : Sy} {C : Key → List AV → Res → Prop} {D : Code → (AE → St → Prop) → St → Prop} (hF : F = sy) (hC : ∀ k l r, CSem Try.prog k l r → C k l r) (hD : ∀ c Q s, awp F C D E79 c Q s → D c Q s)
    (d : Nat) (ih : Mrg d) (z rows' : List (List AV)) (a i m mid n e b : Nat) (a' i' m' c' n' b' : Int) (ea : a' = (a : Int)) (ei : i' = (i : Int)) (em : m' = (m : Int)) (ec : c' = (mid : Int)) (en : n' = (n : Int)) (eb : b' = (b : Int)) (hn : n = mid + m) (hie : i + e = n) (A L1 R1 L2 R2 B : List (List AV)) (hz : z = A ++ (L1 ++ (L2 ++ (R1 ++ (R2 ++ B))))) (hA : A.length = a) (lL1 : a + L1.length = i) (lL2 : i + L2.length = m) (lR1 : m + R1.length = e) (lR : e + R2.length = b)
    (sL1 : Srt ltR L1) (sR1 : Srt ltR R1) (sL : Srt ltR L2) (sR : Srt ltR R2) (hd1 : mid - a ≤ d) (hd : b - mid ≤ d) (hlen : z.length ≤ 500000000) (hr : ∀ r ∈ z, isEv r)
    (hfin : rows' = (A ++ isort ltR (L1 ++ R1)) ++ (isort ltR (L2 ++ R2) ++ B)) :
    awp F C D E79 (dropSeq 8 body79) (fun e st => match e with | .normal => retOKW Try.f113.results.toList [(0, .row 37 26 rows' 0 0)] (.pure []) st | .ret => retOKW Try.f113.results.toList [(0, .row 37 26 rows' 0 0)] (.pure []) st | .exit _ => False)
      { slots := [(20, aI i'), (19, aI n'), (18, aI c'), (0, .own 0 0), (1, aI a'), (2, aI m'), (3, aI b'), (4, .clo 105 [])], obs := [(0, .row 37 26 z 0 0)], ctr := 5, par := 5 } := by
  have hzl : z.length = b + B.length := by rw [hz]; simp only [List.length_append]; omega
  have ee0 : F .ar .sub .i64 n' i' = (e : Int) := by rw [en, ei, hF]; exact (wrap_in (by omega) (by omega)).trans (by omega)
  obtain ⟨e', he'⟩ : ∃ e', F .ar .sub .i64 n' i' = e' := ⟨_, rfl⟩
  have ee : e' = (e : Int) := he'.symm.trans ee0
  have tls := (lt_iffF hF i m i' m' ei em).1
  have tme := (lt_iffF hF m e m' e' em ee).1
  obtain ⟨z2, hz2⟩ : ∃ z2, z2 = A ++ (L1 ++ (R1 ++ (L2 ++ (R2 ++ B)))) := ⟨_, rfl⟩
  have hl2 : z2.length = z.length := by rw [hz2, hz]; simp only [List.length_append]; omega
  have hr2 : ∀ r ∈ z2, isEv r := fun r h => hr r (by
    rw [hz2] at h
    rw [hz]
    simp only [List.mem_append] at h ⊢
    rcases h with h | h | h | h | h | h <;> simp [h])
  have tail := t41 hF hC hD d ih z2 rows' a i m mid e b a' i' m' c' e' b' ea ei ec ee eb A L1 R1 L2 R2 B hz2 hA lL1 (by omega) (by omega) lR sL1 sR1 sL sR hd1 hd (by omega) hr2 hfin
  have skip : (L2.length = 0 ∨ R1.length = 0) → z = z2 := fun h => by
    rw [hz2, hz]
    rcases h with h | h
    · have := List.eq_nil_of_length_eq_zero h
      subst this; simp
    · have := List.eq_nil_of_length_eq_zero h
      subst this; simp
  cbv
  rw [he']
  refine ⟨fun y1 => ?_, fun y1 => ?_⟩ <;> cbv
  · refine ⟨fun y2 => ?_, fun y2 => ?_⟩ <;> cbv
    · have v3 := tls.1 y1
      have v4 := tme.1 y2
      refine ⟨_, _, hC _ _ _ (rotate_ok z i m e i' m' e' ei em ee (A ++ L1) L2 R1 (R2 ++ B) (by rw [hz]; simp) (by rw [List.length_append]; omega) lL2 lR1 (by omega) (by omega) (by omega) (fun r h => (hr r h).len) z2 (by rw [hz2]; simp)), ?_⟩
      cbv
      exact ⟨_, Le.trans le_fresh (le_of [] (by simp [St.fresh, freshObs, Ob.fresh, mapS, killR, relT, leSl, leOb, injK, memK, parK, noTup, lk, rn0, rnA, plain, aI])), hD _ _ _ tail⟩
    · have v5 := nfB tme y2
      have hq := skip (by omega)
      subst hq
      exact ⟨_, Le.trans le_fresh (le_of [] (by simp [St.fresh, freshObs, Ob.fresh, mapS, killR, relT, leSl, leOb, injK, memK, parK, noTup, lk, rn0, rnA, plain, aI])), hD _ _ _ tail⟩
  · have v5 := nfB tls y1
    have hq := skip (by omega)
    subst hq
    exact ⟨_, Le.trans le_fresh (le_of [] (by simp [St.fresh, freshObs, Ob.fresh, mapS, killR, relT, leSl, leOb, injK, memK, parK, noTup, lk, rn0, rnA, plain, aI])), hD _ _ _ tail⟩
end Go.Proofs.Ytdnaadcbimbfmaa
set_option linter.unusedSimpArgs false
set_option linter.unusedVariables false
namespace Go.Proofs.Ytdnaadcbimbfmaa
open Go Go.RowKit Am

/-- A part of a text. -/
def nav : List Nat → Code → Code
  | 0 :: r, .seq x _ => nav r x
  | 1 :: r, .seq _ y => nav r y
  | 0 :: r, .cond _ x _ => nav r x
  | 1 :: r, .cond _ _ y => nav r y
  | _ :: r, .block _ c => nav r c
  | _ :: r, .loop c => nav r c
  | _, c => c
set_option maxHeartbeats 2000000 in
theorem c2 {F : Sy} {C : Key → List AV → Res → Prop} {D : Code → (AE → St → Prop) → St → Prop} (hF : F = sy) (hC : ∀ k l r, CSem Try.prog k l r → C k l r) (hD : ∀ c Q s, awp F C D E79 c Q s → D c Q s) (rows : List (List AV)) (a m b : Nat) (a' m' b' : Int) (ea : a' = (a : Int)) (em : m' = (m : Int)) (eb : b' = (b : Int)) (A L R B : List (List AV)) (hrows : rows = A ++ (L ++ (R ++ B))) (hA : A.length = a) (hL : a + L.length = m) (hR : m + R.length = b) (h0 : 0 < L.length) (h1 : 0 < R.length) (hsL : Srt ltR L) (hsR : Srt ltR R) (hlen : rows.length ≤ 500000000) (hr : ∀ r ∈ rows, isEv r) (rows' : List (List AV)) (hrows' : rows' = A ++ (isort ltR (L ++ R) ++ B)) (hl1 : L.length = 1)
    (Q : AE → St → Prop) (hQ : ∀ s, retOKW Try.f113.results.toList [(0, .row 37 26 rows' 0 0)] (.pure []) s → Q .ret s) :
    awp F C D E79 (nav [0, 1, 0, 1] body79) Q { slots := [(10, aI m'), (0, .own 0 0), (1, aI a'), (2, aI m'), (3, aI b'), (4, .clo 105 [])], obs := [(0, .row 37 26 rows 0 0)], ctr := 5, par := 5 } := by
  have hlr : rows.length = b + B.length := by rw [hrows]; simp; omega
  have es : ∀ k : Nat, k ≤ 1000000000 → ∀ l : Nat, l ≤ k → F .ar .sub .i64 (k : Int) (l : Int) = ((k - l : Nat) : Int) := fun k hk l hl => by rw [hF]; exact (wrap_in (by omega) (by omega)).trans (by omega)
  have ep : ∀ k : Nat, k ≤ 1000000000 → ∀ l : Nat, l ≤ 1000000000 → F .ar .add .i64 (k : Int) (l : Int) = ((k + l : Nat) : Int) := fun k hk l hl => by rw [hF]; exact (wrap_in (by omega) (by omega)).trans (by omega)
  have eh : ∀ (i j : Nat) (i' j' : Int), i' = (i : Int) → j' = (j : Int) → i ≤ 1000000000 → j ≤ 1000000000 → F .wrp .i64 (F .ar .shr .u64 (F .wrp .u64 (F .ar .add .i64 i' j')) 1) = (((i + j) / 2 : Nat) : Int) := fun i j i' j' hi hj h2 h3 => by rw [hi, hj, ep i h2 j h3, hF]; exact half_eq5 i j h2 h3
  have lt_iff : ∀ (i j : Nat) (i' j' : Int), i' = (i : Int) → j' = (j : Int) → (F .cmp .lss i' j' = true ↔ i < j) ∧ (F .cmp .gtr i' j' = true ↔ j < i) := fun i j i' j' hi hj => by rw [hF, hi, hj]; simp [sy]
  have cn : ∀ n : Int, F .cmp .lss n 0 = true ↔ n < 0 := fun n => by rw [hF]; simp [sy]
  obtain ⟨x, rfl⟩ := List.length_eq_one_iff.1 hl1
  obtain ⟨R1, R2, hRs, q1, q2⟩ := low_split R hsR x
  have hfin : rows' = A ++ (R1 ++ (x :: (R2 ++ B))) := by
    rw [hrows', hRs, ← merge_one swo_ltR x R1 R2 (hRs ▸ hsR) q1 q2]; simp
  have hmm : m = a + 1 := by simp at hL; omega
  have hbb : m + R1.length + R2.length = b := by rw [← hR, hRs]; simp; omega
  have hxe : isEv x := hr x (by rw [hrows]; simp)
  have hxa : rows[a]? = some x := by rw [hrows, List.getElem?_append_right (by omega), hA, Nat.sub_self]; rfl
  have hat : ∀ k, m ≤ k → k < b → ∃ y, rows[k]? = some y ∧ isEv y ∧ (ltR y x = true ↔ k < m + R1.length) := by
    intro k hk1 hk2
    have e1 : rows[k]? = (R1 ++ R2)[k - m]? := by
      rw [hrows, List.getElem?_append_right (by omega), List.getElem?_append_right (by simp; omega), List.getElem?_append_left (by simp; omega), hRs, hA]
      congr 1; simp; omega
    by_cases e : k - m < R1.length
    · have e2 : rows[k]? = some R1[k - m] := by rw [e1, List.getElem?_append_left e, List.getElem?_eq_getElem e]
      exact ⟨_, e2, hr _ (List.mem_of_getElem? e2), ⟨fun _ => by omega, fun _ => q1 _ (List.getElem_mem e)⟩⟩
    · have e3 : k - m - R1.length < R2.length := by omega
      have e2 : rows[k]? = some R2[k - m - R1.length] := by rw [e1, List.getElem?_append_right (by omega), List.getElem?_eq_getElem e3]
      exact ⟨_, e2, hr _ (List.mem_of_getElem? e2), ⟨fun h => by rw [q2 _ (List.getElem_mem e3)] at h; simp at h, fun h => by omega⟩⟩
  obtain ⟨s, hs⟩ : ∃ s, s = m + R1.length := ⟨_, rfl⟩
  rw [← hs] at hat
  cbv
  refine ⟨Nat × Nat × Int × Int, fun y => { slots := [(10, aI y.2.2.1), (11, aI y.2.2.2), (0, .own 0 0), (1, aI a'), (2, aI m'), (3, aI b'), (4, .clo 105 [])], obs := [(0, .row 37 26 rows 0 0)], ctr := 5, par := 5 }, fun y => y.2.2.1 = (y.1 : Int) ∧ y.2.2.2 = (y.2.1 : Int) ∧ m ≤ y.1 ∧ y.1 ≤ s ∧ s ≤ y.2.1 ∧ y.2.1 ≤ b, fun y => y.2.1 - y.1, ⟨(m, b, m', b'), ⟨em, eb, Nat.le_refl _, (show m ≤ s by omega), (show s ≤ b by omega), Nat.le_refl _⟩, le_of [] (by simp [leSl, leOb, injK, memK, parK, noTup, lk, rn0, rnA, plain, aI])⟩, fun y hy => ?_⟩
  obtain ⟨i, j, i', j'⟩ := y
  obtain ⟨ei, ej, g1, g2, g3, g4⟩ := hy
  simp only at ei ej g1 g2 g3 g4
  have tl := (lt_iff i j i' j' ei ej).1
  have thalf := eh i j i' j' ei ej (by omega) (by omega)
  have tp : ∀ (k : Nat) (k' : Int), k' = (k : Int) → k ≤ 500000000 → F .ar .add .i64 k' 1 = ((k + 1 : Nat) : Int) := fun k k' hk h => by rw [hk]; exact ep k (by omega) 1 (by omega)
  have tm : F .ar .sub .i64 i' 1 = ((i - 1 : Nat) : Int) := by rw [ei]; exact es i (by omega) 1 (by omega)
  cbv
  refine ⟨fun f => ?_, fun f => ?_⟩ <;> cbv
  · have hij := tl.1 f
    obtain ⟨k, hk⟩ : ∃ k, k = (i + j) / 2 := ⟨_, rfl⟩
    obtain ⟨k', hk'⟩ : ∃ k', F .wrp .i64 (F .ar .shr .u64 (F .wrp .u64 (F .ar .add .i64 i' j')) 1) = k' := ⟨_, rfl⟩
    have ek : k' = (k : Int) := hk'.symm.trans (thalf.trans (by rw [hk]))
    obtain ⟨y, hy, hye, hyx⟩ := hat k (by omega) (by omega)
    have ek1 := tp k k' ek (by omega)
    rw [hk']
    refine ⟨hC _ _ _ (ben_ok (by kernel_rfl)), ?_⟩
    cbv
    refine ⟨k, y, ek, hy, ?_⟩
    cbv
    refine ⟨a, x, ea, hxa, ?_⟩
    cbv
    refine ⟨_, hC _ _ _ (orderR_ok y x hye hxe _ rfl), ?_⟩
    have hneg := orderR_neg y x
    generalize orderR y x = n at hneg
    have hn1 : F .cmp .lss n 0 = true → k < s := fun g => hyx.1 (hneg.1 ((cn n).1 g))
    have hn2 : F .cmp .lss n 0 = false → ¬ k < s := fun g g2 => by
      have := (cn n).2 (hneg.2 (hyx.2 g2))
      rw [g] at this
      simp at this
    cbv
    refine ⟨fun e => ?_, fun e => ?_⟩ <;> cbv
    · obtain ⟨i2, hi2⟩ : ∃ i2, F .ar .add .i64 k' 1 = i2 := ⟨_, rfl⟩
      rw [hi2]
      exact ⟨(k + 1, j, i2, j'), ⟨hi2.symm.trans ek1, ej, (show m ≤ k + 1 by omega), (show k + 1 ≤ s from hn1 e), g3, g4⟩, (show j - (k + 1) < j - i by omega), le_of [] (by simp [leSl, leOb, injK, memK, parK, noTup, lk, rn0, rnA, plain])⟩
    · exact ⟨(i, k, i', k'), ⟨ei, ek, g1, g2, (show s ≤ k by have := hn2 e; omega), (show k ≤ b by omega)⟩, (show k - i < j - i by omega), le_of [] (by simp [leSl, leOb, injK, memK, parK, noTup, lk, rn0, rnA, plain])⟩
  · have hij : ¬ i < j := fun g => by have := tl.2 g; rw [f] at this; simp at this
    have his : i = s := by omega
    have hstart : FwdI A R1 (R2 ++ B) x a rows := ⟨[], R1, rfl, by rw [hrows, hRs]; simp, by simpa using hA⟩
    refine ⟨Nat × Int × List (List AV), fun y => { slots := [(13, aI y.2.1), (10, aI i'), (0, .own 0 0), (1, aI a'), (2, aI m'), (3, aI b'), (4, .clo 105 [])], obs := [(0, .row 37 26 y.2.2 0 0)], ctr := 5, par := 5 }, fun y => y.2.1 = (y.1 : Int) ∧ a ≤ y.1 ∧ y.1 ≤ i - 1 ∧ FwdI A R1 (R2 ++ B) x y.1 y.2.2, fun y => i - y.1, ⟨(a, a', rows), ⟨ea, Nat.le_refl _, (show a ≤ i - 1 by omega), hstart⟩, le_of [] (by simp [leSl, leOb, injK, memK, parK, noTup, lk, rn0, rnA, plain, aI])⟩, fun y hy => ?_⟩
    obtain ⟨k, k', q⟩ := y
    obtain ⟨ek, t1, t2, hq⟩ := hy
    simp only at ek t1 t2 hq
    have hqev : ∀ z, z ∈ q → isEv z := fun z hz => hr z (by
      have := hq.mem hz
      rw [hrows, hRs]
      simp only [List.mem_append, List.mem_cons] at this ⊢
      rcases this with h | h | h | h | h <;> simp [h])
    have hql : q.length = rows.length := by rw [hq.len, hrows, hRs]; simp; omega
    have tl2 := (lt_iff k (i - 1) k' (F .ar .sub .i64 i' 1) ek tm).1
    have ek1 := tp k k' ek (by omega)
    cbv
    refine ⟨fun e => ?_, fun e => ?_⟩ <;> cbv
    · have hki := tl2.1 e
      obtain ⟨u1, y, u2, u3⟩ := hq.step (by omega)
      obtain ⟨k1, hk1⟩ : ∃ k1, k1 = k + 1 := ⟨_, rfl⟩
      have ek2 : F .ar .add .i64 k' 1 = (k1 : Int) := ek1.trans (by rw [hk1])
      have u2 : q[k1]? = some y := by rw [hk1]; exact u2
      have hyl : y.length = 26 := (hqev y (List.mem_of_getElem? u2)).len
      have hxl : x.length = 26 := hxe.len
      have hkq : k1 < q.length := (List.getElem?_eq_some_iff.1 u2).1
      refine ⟨hC _ _ _ (ben_ok (by kernel_rfl)), ?_⟩
      cbv
      refine ⟨k1, y, ek2, u2, ?_⟩
      cbv
      refine ⟨k, x, ek, u1, ?_⟩
      cbv
      refine ⟨k, x, ek, u1, ?_⟩
      cbv
      refine ⟨.mk hyl, ?_⟩
      cbv
      obtain ⟨q2, hq2⟩ : ∃ q2, F .set q k y = q2 := ⟨_, rfl⟩
      rw [hq2]
      have eq2 : q2 = q.set k y := by rw [← hq2, hF]; rfl
      obtain ⟨c2, hc2⟩ : ∃ c2, q2[k1]? = some c2 := ⟨_, List.getElem?_eq_getElem (by rw [eq2]; simpa using hkq)⟩
      refine ⟨k1, c2, ek2, hc2, ?_⟩
      cbv
      refine ⟨.mk hxl, ?_⟩
      cbv
      obtain ⟨q3, hq3⟩ : ∃ q3, F .set q2 k1 x = q3 := ⟨_, rfl⟩
      rw [hq3]
      have eq3 : q3 = (q.set k y).set (k + 1) x := by rw [← hq3, hF, eq2, hk1]; rfl
      obtain ⟨k2, hk2⟩ : ∃ k2, F .ar .add .i64 k' 1 = k2 := ⟨_, rfl⟩
      rw [hk2]
      exact ⟨(k1, k2, q3), ⟨hk2.symm.trans ek2, (show a ≤ k1 by omega), (show k1 ≤ i - 1 by omega), by rw [eq3, hk1]; exact u3⟩, (show i - k1 < i - k by omega), Le.trans le_fresh (le_of [] (by simp [St.fresh, freshObs, Ob.fresh, mapS, killR, relT, leSl, leOb, injK, memK, parK, noTup, lk, rn0, rnA, plain]))⟩
    · have hki : ¬ k < i - 1 := fun g => by have := tl2.2 g; rw [e] at this; simp at this
      have := hq.stop (by omega)
      exact hQ _ (by cbv; exact ⟨⟨this.trans hfin.symm, trivial⟩, trivial⟩)
set_option maxHeartbeats 2000000 in
theorem c14 {F : Sy} {C : Key → List AV → Res → Prop} {D : Code → (AE → St → Prop) → St → Prop} (hF : F = sy) (hC : ∀ k l r, CSem Try.prog k l r → C k l r) (hD : ∀ c Q s, awp F C D E79 c Q s → D c Q s) (rows : List (List AV)) (a m b : Nat) (a' m' b' : Int) (ea : a' = (a : Int)) (em : m' = (m : Int)) (eb : b' = (b : Int)) (A L R B : List (List AV)) (hrows : rows = A ++ (L ++ (R ++ B))) (hA : A.length = a) (hL : a + L.length = m) (hR : m + R.length = b) (h0 : 0 < L.length) (h1 : 0 < R.length) (hsL : Srt ltR L) (hsR : Srt ltR R) (hlen : rows.length ≤ 500000000) (hr : ∀ r ∈ rows, isEv r) (rows' : List (List AV)) (hrows' : rows' = A ++ (isort ltR (L ++ R) ++ B)) (hr1 : R.length = 1)
    (Q : AE → St → Prop) (hQ : ∀ s, retOKW Try.f113.results.toList [(0, .row 37 26 rows' 0 0)] (.pure []) s → Q .ret s) :
    awp F C D E79 (nav [1, 0, 1, 0, 1] body79) Q { slots := [(14, aI a'), (0, .own 0 0), (1, aI a'), (2, aI m'), (3, aI b'), (4, .clo 105 [])], obs := [(0, .row 37 26 rows 0 0)], ctr := 5, par := 5 } := by
  have hlr : rows.length = b + B.length := by rw [hrows]; simp; omega
  have es : ∀ k : Nat, k ≤ 1000000000 → ∀ l : Nat, l ≤ k → F .ar .sub .i64 (k : Int) (l : Int) = ((k - l : Nat) : Int) := fun k hk l hl => by rw [hF]; exact (wrap_in (by omega) (by omega)).trans (by omega)
  have ep : ∀ k : Nat, k ≤ 1000000000 → ∀ l : Nat, l ≤ 1000000000 → F .ar .add .i64 (k : Int) (l : Int) = ((k + l : Nat) : Int) := fun k hk l hl => by rw [hF]; exact (wrap_in (by omega) (by omega)).trans (by omega)
  have eh : ∀ (i j : Nat) (i' j' : Int), i' = (i : Int) → j' = (j : Int) → i ≤ 1000000000 → j ≤ 1000000000 → F .wrp .i64 (F .ar .shr .u64 (F .wrp .u64 (F .ar .add .i64 i' j')) 1) = (((i + j) / 2 : Nat) : Int) := fun i j i' j' hi hj h2 h3 => by rw [hi, hj, ep i h2 j h3, hF]; exact half_eq5 i j h2 h3
  have lt_iff : ∀ (i j : Nat) (i' j' : Int), i' = (i : Int) → j' = (j : Int) → (F .cmp .lss i' j' = true ↔ i < j) ∧ (F .cmp .gtr i' j' = true ↔ j < i) := fun i j i' j' hi hj => by rw [hF, hi, hj]; simp [sy]
  have cn : ∀ n : Int, F .cmp .lss n 0 = true ↔ n < 0 := fun n => by rw [hF]; simp [sy]
  obtain ⟨x, rfl⟩ := List.length_eq_one_iff.1 hr1
  obtain ⟨L1, L2, hLs, q1, q2⟩ := high_split L hsL x
  have hfin : rows' = (A ++ L1) ++ (x :: (L2 ++ B)) := by
    rw [hrows', hLs, ← merge_last swo_ltR x L1 L2 (hLs ▸ hsL) q1 q2]; simp
  have hbb : b = m + 1 := by simp at hR; omega
  have hmm : a + L1.length + L2.length = m := by rw [← hL, hLs]; simp; omega
  have hxe : isEv x := hr x (by rw [hrows]; simp)
  have hxm : rows[m]? = some x := by rw [hrows, List.getElem?_append_right (by omega), List.getElem?_append_right (by omega), show m - A.length - L.length = 0 by omega]; rfl
  have hat : ∀ k, a ≤ k → k < m → ∃ y, rows[k]? = some y ∧ isEv y ∧ (ltR x y = false ↔ k < a + L1.length) := by
    intro k hk1 hk2
    have e1 : rows[k]? = (L1 ++ L2)[k - a]? := by
      rw [hrows, List.getElem?_append_right (by omega), List.getElem?_append_left (by omega), hLs, hA]
    by_cases e : k - a < L1.length
    · have e2 : rows[k]? = some L1[k - a] := by rw [e1, List.getElem?_append_left e, List.getElem?_eq_getElem e]
      exact ⟨_, e2, hr _ (List.mem_of_getElem? e2), ⟨fun _ => by omega, fun _ => q1 _ (List.getElem_mem e)⟩⟩
    · have e3 : k - a - L1.length < L2.length := by omega
      have e2 : rows[k]? = some L2[k - a - L1.length] := by rw [e1, List.getElem?_append_right (by omega), List.getElem?_eq_getElem e3]
      exact ⟨_, e2, hr _ (List.mem_of_getElem? e2), ⟨fun h => by rw [q2 _ (List.getElem_mem e3)] at h; simp at h, fun h => by omega⟩⟩
  obtain ⟨s, hs⟩ : ∃ s, s = a + L1.length := ⟨_, rfl⟩
  rw [← hs] at hat
  cbv
  refine ⟨Nat × Nat × Int × Int, fun y => { slots := [(14, aI y.2.2.1), (15, aI y.2.2.2), (0, .own 0 0), (1, aI a'), (2, aI m'), (3, aI b'), (4, .clo 105 [])], obs := [(0, .row 37 26 rows 0 0)], ctr := 5, par := 5 }, fun y => y.2.2.1 = (y.1 : Int) ∧ y.2.2.2 = (y.2.1 : Int) ∧ a ≤ y.1 ∧ y.1 ≤ s ∧ s ≤ y.2.1 ∧ y.2.1 ≤ m, fun y => y.2.1 - y.1, ⟨(a, m, a', m'), ⟨ea, em, Nat.le_refl _, (show a ≤ s by omega), (show s ≤ m by omega), Nat.le_refl _⟩, le_of [] (by simp [leSl, leOb, injK, memK, parK, noTup, lk, rn0, rnA, plain, aI])⟩, fun y hy => ?_⟩
  obtain ⟨i, j, i', j'⟩ := y
  obtain ⟨ei, ej, g1, g2, g3, g4⟩ := hy
  simp only at ei ej g1 g2 g3 g4
  have tl := (lt_iff i j i' j' ei ej).1
  have thalf := eh i j i' j' ei ej (by omega) (by omega)
  have tp : ∀ (k : Nat) (k' : Int), k' = (k : Int) → k ≤ 500000000 → F .ar .add .i64 k' 1 = ((k + 1 : Nat) : Int) := fun k k' hk h => by rw [hk]; exact ep k (by omega) 1 (by omega)
  have ts : ∀ (k : Nat) (k' : Int), k' = (k : Int) → 1 ≤ k → k ≤ 500000000 → F .ar .sub .i64 k' 1 = ((k - 1 : Nat) : Int) := fun k k' hk h h2 => by rw [hk]; exact es k (by omega) 1 (by omega)
  cbv
  refine ⟨fun f => ?_, fun f => ?_⟩ <;> cbv
  · have hij := tl.1 f
    obtain ⟨k, hk⟩ : ∃ k, k = (i + j) / 2 := ⟨_, rfl⟩
    obtain ⟨k', hk'⟩ : ∃ k', F .wrp .i64 (F .ar .shr .u64 (F .wrp .u64 (F .ar .add .i64 i' j')) 1) = k' := ⟨_, rfl⟩
    have ek : k' = (k : Int) := hk'.symm.trans (thalf.trans (by rw [hk]))
    obtain ⟨y, hy, hye, hyx⟩ := hat k (by omega) (by omega)
    have ek1 := tp k k' ek (by omega)
    rw [hk']
    refine ⟨hC _ _ _ (ben_ok (by kernel_rfl)), ?_⟩
    cbv
    refine ⟨m, x, em, hxm, ?_⟩
    cbv
    refine ⟨k, y, ek, hy, ?_⟩
    cbv
    refine ⟨_, hC _ _ _ (orderR_ok x y hxe hye _ rfl), ?_⟩
    have hneg := orderR_neg x y
    generalize orderR x y = n at hneg
    have hn1 : F .bnot (F .cmp .lss n 0) = true → k < s := fun g => hyx.1 (by
      rw [Bool.eq_false_iff]
      intro g2
      have := (cn n).2 (hneg.2 g2)
      rw [this, hF] at g
      simp [sy] at g)
    have hn2 : F .bnot (F .cmp .lss n 0) = false → ¬ k < s := fun g g2 => by
      have h3 : F .cmp .lss n 0 = true := by rw [hF] at g ⊢; simpa [sy] using g
      have := hneg.1 ((cn n).1 h3)
      rw [hyx.2 g2] at this
      simp at this
    cbv
    refine ⟨fun e => ?_, fun e => ?_⟩ <;> cbv
    · obtain ⟨i2, hi2⟩ : ∃ i2, F .ar .add .i64 k' 1 = i2 := ⟨_, rfl⟩
      rw [hi2]
      exact ⟨(k + 1, j, i2, j'), ⟨hi2.symm.trans ek1, ej, (show a ≤ k + 1 by omega), (show k + 1 ≤ s from hn1 e), g3, g4⟩, (show j - (k + 1) < j - i by omega), le_of [] (by simp [leSl, leOb, injK, memK, parK, noTup, lk, rn0, rnA, plain])⟩
    · exact ⟨(i, k, i', k'), ⟨ei, ek, g1, g2, (show s ≤ k by have := hn2 e; omega), (show k ≤ m by omega)⟩, (show k - i < j - i by omega), le_of [] (by simp [leSl, leOb, injK, memK, parK, noTup, lk, rn0, rnA, plain])⟩
  · have hij : ¬ i < j := fun g => by have := tl.2 g; rw [f] at this; simp at this
    have his : i = s := by omega
    have hstart : BwdI (A ++ L1) L2 B x m rows := ⟨L2, [], by simp, by rw [hrows, hLs]; simp, by simp; omega⟩
    refine ⟨Nat × Int × List (List AV), fun y => { slots := [(17, aI y.2.1), (14, aI i'), (0, .own 0 0), (1, aI a'), (2, aI m'), (3, aI b'), (4, .clo 105 [])], obs := [(0, .row 37 26 y.2.2 0 0)], ctr := 5, par := 5 }, fun y => y.2.1 = (y.1 : Int) ∧ i ≤ y.1 ∧ y.1 ≤ m ∧ BwdI (A ++ L1) L2 B x y.1 y.2.2, fun y => y.1, ⟨(m, m', rows), ⟨em, (show i ≤ m by omega), Nat.le_refl _, hstart⟩, le_of [] (by simp [leSl, leOb, injK, memK, parK, noTup, lk, rn0, rnA, plain, aI])⟩, fun y hy => ?_⟩
    obtain ⟨k, k', q⟩ := y
    obtain ⟨ek, t1, t2, hq⟩ := hy
    simp only at ek t1 t2 hq
    have hqev : ∀ z, z ∈ q → isEv z := fun z hz => hr z (by
      have := hq.mem hz
      rw [hrows, hLs]
      simp only [List.mem_append, List.mem_cons] at this ⊢
      rcases this with (h | h) | h | h | h <;> simp [h])
    have hql : q.length = rows.length := by rw [hq.len, hrows, hLs]; simp; omega
    have tl2 := (lt_iff k i k' i' ek ei).2
    have hal : (A ++ L1).length = i := by simp; omega
    have ts1 := fun h => ts k k' ek h (by omega)
    cbv
    refine ⟨fun e => ?_, fun e => ?_⟩ <;> cbv
    · have hki := tl2.1 e
      obtain ⟨u1, y, u2, u3⟩ := hq.step (by omega)
      obtain ⟨k1, hk1⟩ : ∃ k1, k1 = k - 1 := ⟨_, rfl⟩
      have ek2 : F .ar .sub .i64 k' 1 = (k1 : Int) := (ts1 (by omega)).trans (by rw [hk1])
      have u2 : q[k1]? = some y := by rw [hk1]; exact u2
      have hyl : y.length = 26 := (hqev y (List.mem_of_getElem? u2)).len
      have hxl : x.length = 26 := hxe.len
      have hkq : k1 < q.length := (List.getElem?_eq_some_iff.1 u2).1
      refine ⟨hC _ _ _ (ben_ok (by kernel_rfl)), ?_⟩
      cbv
      refine ⟨k1, y, ek2, u2, ?_⟩
      cbv
      refine ⟨k, x, ek, u1, ?_⟩
      cbv
      refine ⟨k, x, ek, u1, ?_⟩
      cbv
      refine ⟨.mk hyl, ?_⟩
      cbv
      obtain ⟨q2, hq2⟩ : ∃ q2, F .set q k y = q2 := ⟨_, rfl⟩
      rw [hq2]
      have eq2 : q2 = q.set k y := by rw [← hq2, hF]; rfl
      obtain ⟨c2, hc2⟩ : ∃ c2, q2[k1]? = some c2 := ⟨_, List.getElem?_eq_getElem (by rw [eq2]; simpa using hkq)⟩
      refine ⟨k1, c2, ek2, hc2, ?_⟩
      cbv
      refine ⟨.mk hxl, ?_⟩
      cbv
      obtain ⟨q3, hq3⟩ : ∃ q3, F .set q2 k1 x = q3 := ⟨_, rfl⟩
      rw [hq3]
      have eq3 : q3 = (q.set k y).set (k - 1) x := by rw [← hq3, hF, eq2, hk1]; rfl
      obtain ⟨k2, hk2⟩ : ∃ k2, F .ar .sub .i64 k' 1 = k2 := ⟨_, rfl⟩
      rw [hk2]
      exact ⟨(k1, k2, q3), ⟨hk2.symm.trans ek2, (show i ≤ k1 by omega), (show k1 ≤ m by omega), by rw [eq3, hk1]; exact u3⟩, (show k1 < k by omega), Le.trans le_fresh (le_of [] (by simp [St.fresh, freshObs, Ob.fresh, mapS, killR, relT, leSl, leOb, injK, memK, parK, noTup, lk, rn0, rnA, plain]))⟩
    · have hki : ¬ i < k := fun g => by have := tl2.2 g; rw [e] at this; simp at this
      have := hq.stop (by omega)
      exact hQ _ (by cbv; exact ⟨⟨this.trans hfin.symm, trivial⟩, trivial⟩)
set_option maxHeartbeats 2000000 in
theorem t32 {F : Sy} {C : Key → List AV → Res → Prop} {D : Code → (AE → St → Prop) → St → Prop} (hF : F = sy) (hC : ∀ k l r, CSem Try.prog k l r → C k l r) (hD : ∀ c Q s, awp F C D E79 c Q s → D c Q s) (d : Nat) (ih : Mrg d) (rows : List (List AV)) (a m b : Nat) (a' m' b' : Int) (ea : a' = (a : Int)) (em : m' = (m : Int)) (eb : b' = (b : Int)) (A L R B : List (List AV)) (hrows : rows = A ++ (L ++ (R ++ B))) (hA : A.length = a) (hL : a + L.length = m) (hR : m + R.length = b) (h0 : 0 < L.length) (h1 : 0 < R.length) (hsL : Srt ltR L) (hsR : Srt ltR R) (hlen : rows.length ≤ 500000000) (hr : ∀ r ∈ rows, isEv r) (rows' : List (List AV)) (hrows' : rows' = A ++ (isort ltR (L ++ R) ++ B)) (hd : b - a ≤ d + 1)
    (mid n s0 r0 : Nat) (c' n' s0' r0' : Int) (hmid : mid = (a + b) / 2) (ec : c' = (mid : Int)) (hn : n = mid + m) (en : n' = (n : Int)) (es0 : s0' = (s0 : Int)) (er0 : r0' = (r0 : Int)) (k1 : a ≤ s0) (k2 : n ≤ b + s0) (k3 : s0 ≤ r0) (k4 : r0 ≤ m) (k5 : r0 ≤ mid) (k6 : r0 = m ∨ r0 = mid) (k7 : s0 = a ∨ n = b + s0) (hl2 : 2 ≤ L.length) (hr2 : 2 ≤ R.length) :
    awp F C D E79 (dropSeq 6 body79) (fun e st => match e with | .normal => retOKW Try.f113.results.toList [(0, .row 37 26 rows' 0 0)] (.pure []) st | .ret => retOKW Try.f113.results.toList [(0, .row 37 26 rows' 0 0)] (.pure []) st | .exit _ => False)
      { slots := [(20, aI s0'), (21, aI r0'), (19, aI n'), (18, aI c'), (0, .own 0 0), (1, aI a'), (2, aI m'), (3, aI b'), (4, .clo 105 [])], obs := [(0, .row 37 26 rows 0 0)], ctr := 5, par := 5 } := by
  have hlr : rows.length = b + B.length := by rw [hrows]; simp; omega
  have es : ∀ k : Nat, k ≤ 1000000000 → ∀ l : Nat, l ≤ k → F .ar .sub .i64 (k : Int) (l : Int) = ((k - l : Nat) : Int) := fun k hk l hl => by rw [hF]; exact (wrap_in (by omega) (by omega)).trans (by omega)
  have ep : ∀ k : Nat, k ≤ 1000000000 → ∀ l : Nat, l ≤ 1000000000 → F .ar .add .i64 (k : Int) (l : Int) = ((k + l : Nat) : Int) := fun k hk l hl => by rw [hF]; exact (wrap_in (by omega) (by omega)).trans (by omega)
  have eh : ∀ (i j : Nat) (i' j' : Int), i' = (i : Int) → j' = (j : Int) → i ≤ 1000000000 → j ≤ 1000000000 → F .wrp .i64 (F .ar .shr .u64 (F .wrp .u64 (F .ar .add .i64 i' j')) 1) = (((i + j) / 2 : Nat) : Int) := fun i j i' j' hi hj h2 h3 => by rw [hi, hj, ep i h2 j h3, hF]; exact half_eq5 i j h2 h3
  have lt_iff : ∀ (i j : Nat) (i' j' : Int), i' = (i : Int) → j' = (j : Int) → (F .cmp .lss i' j' = true ↔ i < j) ∧ (F .cmp .gtr i' j' = true ↔ j < i) := fun i j i' j' hi hj => by rw [hF, hi, hj]; simp [sy]
  have cn : ∀ n : Int, F .cmp .lss n 0 = true ↔ n < 0 := fun n => by rw [hF]; simp [sy]
  obtain ⟨p', hp'⟩ : ∃ p', F .ar .sub .i64 n' 1 = p' := ⟨_, rfl⟩
  have epp : p' = ((n - 1 : Nat) : Int) := by rw [← hp', en]; exact es n (by omega) 1 (by omega)
  have hLat : ∀ k, a ≤ k → k < m → rows[k]? = L[k - a]? := fun k h1 h2 => by
    rw [hrows, List.getElem?_append_right (by omega), List.getElem?_append_left (by omega), hA]
  have hRat : ∀ k, m ≤ k → k < b → rows[k]? = R[k - m]? := fun k h1 h2 => by
    rw [hrows, List.getElem?_append_right (by omega), List.getElem?_append_right (by omega), List.getElem?_append_left (by omega), hA]
    congr 1; omega
  have hget : ∀ k, k < b → ∃ y, rows[k]? = some y ∧ isEv y := fun k hk => by
    have : k < rows.length := by omega
    exact ⟨_, List.getElem?_eq_getElem this, hr _ (List.getElem_mem this)⟩
  obtain ⟨Pf, hPf⟩ : ∃ Pf : Nat → Bool, Pf = fun c => match rows[c]?, rows[n - 1 - c]? with | some x, some y => !ltR y x | _, _ => false := ⟨_, rfl⟩
  have hPat : ∀ c x y, rows[c]? = some x → rows[n - 1 - c]? = some y → (Pf c = true ↔ ltR y x = false) := fun c x y hx hy => by rw [hPf]; simp [hx, hy]
  have hmono : ∀ c c', a ≤ c' → c' < c → c < m → m ≤ n - 1 - c → n - 1 - c' < b → Pf c = true → Pf c' = true := by
    intro c d hd1 hd2 hc1 hc2 hc3 hP
    obtain ⟨x, hx, _⟩ := hget c (by omega)
    obtain ⟨y, hy, _⟩ := hget (n - 1 - c) (by omega)
    obtain ⟨x2, hx2, _⟩ := hget d (by omega)
    obtain ⟨y2, hy2, _⟩ := hget (n - 1 - d) (by omega)
    rw [hPat c x y hx hy] at hP
    rw [hPat d x2 y2 hx2 hy2]
    have l1 : ltR x x2 = false := srt_get hsL (by rw [← hLat d (by omega) (by omega)]; exact hx2) (by rw [← hLat c (by omega) (by omega)]; exact hx) (by omega)
    have l2 : ltR y2 y = false := srt_get hsR (by rw [← hRat (n - 1 - c) (by omega) (by omega)]; exact hy) (by rw [← hRat (n - 1 - d) (by omega) (by omega)]; exact hy2) (by omega)
    exact swo_ltR.le_trans (swo_ltR.le_trans l1 hP) l2
  obtain ⟨s, hs1, hs2, hs3⟩ := bsplit Pf s0 (r0 - s0) (fun c c' h1 h2 h3 h4 => hmono c c' (by omega) h2 (by omega) (by omega) (by omega) h4)
  cbv
  rw [hp']
  refine ⟨Nat × Nat × Int × Int, fun y => { slots := [(20, aI y.2.2.1), (21, aI y.2.2.2), (22, aI p'), (18, aI c'), (19, aI n'), (0, .own 0 0), (1, aI a'), (2, aI m'), (3, aI b'), (4, .clo 105 [])], obs := [(0, .row 37 26 rows 0 0)], ctr := 5, par := 5 }, fun y => y.2.2.1 = (y.1 : Int) ∧ y.2.2.2 = (y.2.1 : Int) ∧ s0 ≤ y.1 ∧ y.1 ≤ s ∧ s ≤ y.2.1 ∧ y.2.1 ≤ r0, fun y => y.2.1 - y.1, ⟨(s0, r0, s0', r0'), ⟨es0, er0, Nat.le_refl _, hs1, (show s ≤ r0 by omega), Nat.le_refl _⟩, le_of [] (by simp [leSl, leOb, injK, memK, parK, noTup, lk, rn0, rnA, plain, aI])⟩, fun y hy => ?_⟩
  obtain ⟨i, j, i', j'⟩ := y
  obtain ⟨ei, ej, g1, g2, g3, g4⟩ := hy
  simp only at ei ej g1 g2 g3 g4
  have tl := (lt_iff i j i' j' ei ej).1
  have thalf := eh i j i' j' ei ej (by omega) (by omega)
  have tp : ∀ (k : Nat) (k' : Int), k' = (k : Int) → k ≤ 500000000 → F .ar .add .i64 k' 1 = ((k + 1 : Nat) : Int) := fun k k' hk h => by rw [hk]; exact ep k (by omega) 1 (by omega)
  have tpc : ∀ (k : Nat) (k' : Int), k' = (k : Int) → k ≤ n - 1 → F .ar .sub .i64 p' k' = ((n - 1 - k : Nat) : Int) := fun k k' hk h => by rw [hk, epp]; exact es (n - 1) (by omega) k h
  have tend : i ≤ n → F .ar .sub .i64 n' i' = ((n - i : Nat) : Int) := fun h => by rw [ei, en]; exact es n (by omega) i h
  cbv
  refine ⟨fun f => ?_, fun f => ?_⟩ <;> cbv
  · have hij := tl.1 f
    obtain ⟨k, hk⟩ : ∃ k, k = (i + j) / 2 := ⟨_, rfl⟩
    obtain ⟨k', hk'⟩ : ∃ k', F .wrp .i64 (F .ar .shr .u64 (F .wrp .u64 (F .ar .add .i64 i' j')) 1) = k' := ⟨_, rfl⟩
    have ek : k' = (k : Int) := hk'.symm.trans (thalf.trans (by rw [hk]))
    obtain ⟨x, hx, hxe⟩ := hget k (by omega)
    obtain ⟨l, hl⟩ : ∃ l, l = n - 1 - k := ⟨_, rfl⟩
    obtain ⟨y, hy, hye⟩ := hget l (by omega)
    have ek1 := tp k k' ek (by omega)
    have el : F .ar .sub .i64 p' k' = (l : Int) := (tpc k k' ek (by omega)).trans (by rw [hl])
    have hP := hPat k x y hx (by rw [← hl]; exact hy)
    have hPs := hs3 k (by omega) (by omega)
    rw [hk']
    refine ⟨hC _ _ _ (ben_ok (by kernel_rfl)), ?_⟩
    cbv
    refine ⟨l, y, el, hy, ?_⟩
    cbv
    refine ⟨k, x, ek, hx, ?_⟩
    cbv
    refine ⟨_, hC _ _ _ (orderR_ok y x hye hxe _ rfl), ?_⟩
    have hneg := orderR_neg y x
    generalize orderR y x = q at hneg
    have hn1 : F .bnot (F .cmp .lss q 0) = true → k < s := fun g => hPs.1 (hP.2 (by
      rw [Bool.eq_false_iff]
      intro g2
      have := (cn q).2 (hneg.2 g2)
      rw [this, hF] at g
      simp [sy] at g))
    have hn2 : F .bnot (F .cmp .lss q 0) = false → ¬ k < s := fun g g2 => by
      have h3 : F .cmp .lss q 0 = true := by rw [hF] at g ⊢; simpa [sy] using g
      have := hneg.1 ((cn q).1 h3)
      rw [hP.1 (hPs.2 g2)] at this
      simp at this
    cbv
    refine ⟨fun e => ?_, fun e => ?_⟩ <;> cbv
    · obtain ⟨i2, hi2⟩ : ∃ i2, F .ar .add .i64 k' 1 = i2 := ⟨_, rfl⟩
      rw [hi2]
      exact ⟨(k + 1, j, i2, j'), ⟨hi2.symm.trans ek1, ej, (show s0 ≤ k + 1 by omega), (show k + 1 ≤ s from hn1 e), g3, g4⟩, (show j - (k + 1) < j - i by omega), le_of [] (by simp [leSl, leOb, injK, memK, parK, noTup, lk, rn0, rnA, plain])⟩
    · exact ⟨(i, k, i', k'), ⟨ei, ek, g1, g2, (show s ≤ k by have := hn2 e; omega), (show k ≤ r0 by omega)⟩, (show k - i < j - i by omega), le_of [] (by simp [leSl, leOb, injK, memK, parK, noTup, lk, rn0, rnA, plain])⟩
  · have hij : ¬ i < j := fun g => by have := tl.2 g; rw [f] at this; simp at this
    have his : i = s := by omega
    obtain ⟨e, he⟩ : ∃ e, e = n - i := ⟨_, rfl⟩
    obtain ⟨e', he'⟩ : ∃ e', F .ar .sub .i64 n' i' = e' := ⟨_, rfl⟩
    have ee : e' = (e : Int) := he'.symm.trans ((tend (by omega)).trans (by rw [he]))
    have hie : i + e = mid + m := by omega
    obtain ⟨cf1, cf2⟩ := cut_found swo_ltR hsL hsR (i - a) (e - m) (by omega) (by omega) (fun x y hx hj hy => by
      have hil : i - a < L.length := (List.getElem?_eq_some_iff.1 hx).1
      have hx2 : rows[i]? = some x := by rw [hLat i (by omega) (by omega)]; exact hx
      have hy2 : rows[n - 1 - i]? = some y := by rw [hRat _ (by omega) (by omega), show n - 1 - i - m = e - m - 1 by omega]; exact hy
      have h1 := hPat i x y hx2 hy2
      have h2 := hs3 i (by omega) (by omega)
      cases h3 : ltR y x
      · have := h2.1 (h1.2 h3); omega
      · rfl) (fun u v hi hu hv => by
      have hjl : e - m < R.length := (List.getElem?_eq_some_iff.1 hv).1
      have hu2 : rows[i - 1]? = some u := by rw [hLat _ (by omega) (by omega), show i - 1 - a = i - a - 1 by omega]; exact hu
      have hv2 : rows[n - 1 - (i - 1)]? = some v := by rw [hRat _ (by omega) (by omega), show n - 1 - (i - 1) - m = e - m by omega]; exact hv
      exact (hPat (i - 1) u v hu2 hv2).1 ((hs3 (i - 1) (by omega) (by omega)).2 (by omega)))
    obtain ⟨L1, hL1⟩ : ∃ L1, L1 = L.take (i - a) := ⟨_, rfl⟩
    obtain ⟨L2, hL2⟩ : ∃ L2, L2 = L.drop (i - a) := ⟨_, rfl⟩
    obtain ⟨R1, hR1⟩ : ∃ R1, R1 = R.take (e - m) := ⟨_, rfl⟩
    obtain ⟨R2, hR2⟩ : ∃ R2, R2 = R.drop (e - m) := ⟨_, rfl⟩
    have hLs : L = L1 ++ L2 := by rw [hL1, hL2, List.take_append_drop]
    have hRs : R = R1 ++ R2 := by rw [hR1, hR2, List.take_append_drop]
    have lL1 : a + L1.length = i := by rw [hL1]; simp; omega
    have lL2 : i + L2.length = m := by rw [hL2]; simp; omega
    have lR1 : m + R1.length = e := by rw [hR1]; simp; omega
    have lR2 : e + R2.length = b := by rw [hR2]; simp; omega
    have sL := hLs ▸ hsL
    have sR := hRs ▸ hsR
    obtain ⟨sL1, sL2, _⟩ := List.pairwise_append.1 sL
    obtain ⟨sR1, sR2, _⟩ := List.pairwise_append.1 sR
    have hmc := merge_cut swo_ltR L1 L2 R1 R2 sL sR (by rw [hL2, hR1]; exact cf1) (by rw [hL1, hR2]; exact cf2)
    have hfin : rows' = (A ++ isort ltR (L1 ++ R1)) ++ (isort ltR (L2 ++ R2) ++ B) := by
      rw [hrows', hLs, hRs, ← hmc]; simp
    have hA1 : (A ++ L1).length = i := by simp; omega
    have hrows0 : rows = A ++ (L1 ++ (L2 ++ (R1 ++ (R2 ++ B)))) := by rw [hrows, hLs, hRs]; simp
    exact ⟨_, le_of [] (by simp [leSl, leOb, injK, memK, parK, noTup, lk, rn0, rnA, plain, aI]), hD _ _ _ (t38 hF hC hD d ih rows rows' a i m mid n e b a' i' m' c' n' b' ea ei em ec en eb hn (by omega) A L1 R1 L2 R2 B hrows0 hA lL1 lL2 lR1 lR2 sL1 sR1 sL2 sR2 (by omega) (by omega) hlen hr hfin)⟩
set_option maxHeartbeats 2000000 in
theorem symMerge_ok : ∀ (d : Nat), Mrg d := by
  intro d
  induction d with
  | zero => intro rows a m b; intros; omega
  | succ d ih =>
  intro rows a m b a' m' b' ea em eb A L R B hrows hA hL hR h0 h1 hsL hsR hd hlen hr rows' hrows'
  have hlr : rows.length = b + B.length := by rw [hrows]; simp; omega
  refine of_textW gam_ok mixed E79 Try.func113 (by kernel_rfl) rfl rfl (by simp) (by decide) rfl fun F C D hF hC hD => ?_
  have es : ∀ k : Nat, k ≤ 1000000000 → ∀ l : Nat, l ≤ k → F .ar .sub .i64 (k : Int) (l : Int) = ((k - l : Nat) : Int) := fun k hk l hl => by rw [hF]; exact (wrap_in (by omega) (by omega)).trans (by omega)
  have ep : ∀ k : Nat, k ≤ 1000000000 → ∀ l : Nat, l ≤ 1000000000 → F .ar .add .i64 (k : Int) (l : Int) = ((k + l : Nat) : Int) := fun k hk l hl => by rw [hF]; exact (wrap_in (by omega) (by omega)).trans (by omega)
  have eh : ∀ (i j : Nat) (i' j' : Int), i' = (i : Int) → j' = (j : Int) → i ≤ 1000000000 → j ≤ 1000000000 → F .wrp .i64 (F .ar .shr .u64 (F .wrp .u64 (F .ar .add .i64 i' j')) 1) = (((i + j) / 2 : Nat) : Int) := fun i j i' j' hi hj h2 h3 => by rw [hi, hj, ep i h2 j h3, hF]; exact half_eq5 i j h2 h3
  have lt_iff : ∀ (i j : Nat) (i' j' : Int), i' = (i : Int) → j' = (j : Int) → (F .cmp .lss i' j' = true ↔ i < j) ∧ (F .cmp .gtr i' j' = true ↔ j < i) := fun i j i' j' hi hj => by rw [hF, hi, hj]; simp [sy]
  have cn : ∀ n : Int, F .cmp .lss n 0 = true ↔ n < 0 := fun n => by rw [hF]; simp [sy]
  have c1 : F .cmp .eql (F .ar .sub .i64 m' a') 1 = true → L.length = 1 := fun g => by
    rw [ea, em, es m (by omega) a (by omega), hF] at g
    simp [sy] at g
    omega
  have c1n : F .cmp .eql (F .ar .sub .i64 m' a') 1 = false → 2 ≤ L.length := fun g => by
    rw [ea, em, es m (by omega) a (by omega), hF] at g
    simp [sy] at g
    omega
  have c2' : F .cmp .eql (F .ar .sub .i64 b' m') 1 = true → R.length = 1 := fun g => by
    rw [eb, em, es b (by omega) m (by omega), hF] at g
    simp [sy] at g
    omega
  have c2n : F .cmp .eql (F .ar .sub .i64 b' m') 1 = false → 2 ≤ R.length := fun g => by
    rw [eb, em, es b (by omega) m (by omega), hF] at g
    simp [sy] at g
    omega
  obtain ⟨mid, hmid⟩ : ∃ mid, mid = (a + b) / 2 := ⟨_, rfl⟩
  obtain ⟨c', hc'⟩ : ∃ c', F .wrp .i64 (F .ar .shr .u64 (F .wrp .u64 (F .ar .add .i64 a' b')) 1) = c' := ⟨_, rfl⟩
  have ec : c' = (mid : Int) := hc'.symm.trans ((eh a b a' b' ea eb (by omega) (by omega)).trans (by rw [hmid]))
  obtain ⟨n, hn⟩ : ∃ n, n = mid + m := ⟨_, rfl⟩
  obtain ⟨n', hn'⟩ : ∃ n', F .ar .add .i64 c' m' = n' := ⟨_, rfl⟩
  have en : n' = (n : Int) := by rw [← hn', ec, em, ep mid (by omega) m (by omega), hn]
  obtain ⟨b0', hb0'⟩ : ∃ b0', F .ar .sub .i64 n' b' = b0' := ⟨_, rfl⟩
  have tgm := (lt_iff m mid m' c' em ec).2
  have efb : b ≤ n → b0' = ((n - b : Nat) : Int) := fun h => by rw [← hb0', en, eb]; exact es n (by omega) b h
  cbv
  refine ⟨fun h => ?_, fun h => ?_⟩ <;> cbv
  · exact ⟨_, le_of [] (by simp [leSl, leOb, injK, memK, parK, noTup, lk, rn0, rnA, plain, aI]), hD _ _ _ (c2 hF hC hD rows a m b a' m' b' ea em eb A L R B hrows hA hL hR h0 h1 hsL hsR hlen hr rows' hrows' (c1 h) _ (fun s h => h))⟩
  have hl2 := c1n h
  refine ⟨fun h' => ?_, fun h' => ?_⟩ <;> cbv
  · exact ⟨_, le_of [] (by simp [leSl, leOb, injK, memK, parK, noTup, lk, rn0, rnA, plain, aI]), hD _ _ _ (c14 hF hC hD rows a m b a' m' b' ea em eb A L R B hrows hA hL hR h0 h1 hsL hsR hlen hr rows' hrows' (c2' h') _ (fun s h => h))⟩
  have hr2 := c2n h'
  rw [hc', hn']
  refine ⟨fun e0 => ?_, fun e0 => ?_⟩ <;> cbv
  · have hmm := tgm.1 e0
    rw [hb0']
    exact ⟨_, le_of [] (by simp [leSl, leOb, injK, memK, parK, noTup, lk, rn0, rnA, plain, aI]), hD _ _ _ (t32 hF hC hD d ih rows a m b a' m' b' ea em eb A L R B hrows hA hL hR h0 h1 hsL hsR hlen hr rows' hrows' hd mid n (n - b) mid c' n' b0' c' hmid ec hn en (efb (by omega)) ec (by omega) (by omega) (by omega) (by omega) (by omega) (by omega) (by omega) hl2 hr2)⟩
  · have hmm : ¬ mid < m := fun g => by have := tgm.2 g; rw [e0] at this; simp at this
    exact ⟨_, le_of [] (by simp [leSl, leOb, injK, memK, parK, noTup, lk, rn0, rnA, plain, aI]), hD _ _ _ (t32 hF hC hD d ih rows a m b a' m' b' ea em eb A L R B hrows hA hL hR h0 h1 hsL hsR hlen hr rows' hrows' hd mid n a m c' n' a' m' hmid ec hn en ea em (by omega) (by omega) (by omega) (by omega) (by omega) (by omega) (by omega) hl2 hr2)⟩
end Go.Proofs.Ytdnaadcbimbfmaa
set_option linter.unusedSimpArgs false
set_option linter.unusedVariables false
namespace Go.Proofs.Ytdnaadcbimbfmaa
open Go Go.RowKit Am

noncomputable def body69 : Code := (Try.f110.body).getD .skip
abbrev E69 : En := { n := 63, wrs := [112, 113], cuts := [6, 13] }
theorem ev_stp {l l0 : List (List AV)} (h : StP ltR l l0) (hr : ∀ r ∈ l0, isEv r) : ∀ r ∈ l, isEv r := fun r hm => hr r (h.mem swo_ltR hm)
abbrev sh69 (sl : List (Nat × AV)) (n' : Int) (q : List (List AV)) : St := { slots := sl ++ [(0, .own 0 0), (1, aI n'), (2, .clo 105 [])], obs := [(0, .row 37 26 q 0 0)], ctr := 3, par := 3 }
theorem addF7 {F : Sy} (hF : F = sy) (i j : Nat) (i' j' : Int) (hi : i' = (i : Int)) (hj : j' = (j : Int)) (h : i + j ≤ 4000000000) : F .ar .add .i64 i' j' = ((i + j : Nat) : Int) := by rw [hF, hi, hj]; exact (wrap_in (by omega) (by omega)).trans (by omega)
theorem mulF {F : Sy} (hF : F = sy) (i j : Nat) (i' j' : Int) (hi : i' = (i : Int)) (hj : j' = (j : Int)) (h : i * j ≤ 4000000000) : F .ar .mul .i64 i' j' = ((i * j : Nat) : Int) := by
  rw [hF, hi, hj]
  have e : (i : Int) * (j : Int) = ((i * j : Nat) : Int) := by simp
  exact (by rw [show sy .ar .mul .i64 (i : Int) (j : Int) = IntKind.i64.wrap ((i : Int) * (j : Int)) from rfl, e]; exact wrap_in (by omega) (by omega))
theorem leF7 {F : Sy} (hF : F = sy) (i j : Nat) (i' j' : Int) (hi : i' = (i : Int)) (hj : j' = (j : Int)) : F .cmp .leq i' j' = true ↔ i ≤ j := by rw [hF, hi, hj]; simp [sy]
theorem ltF7 {F : Sy} (hF : F = sy) (i j : Nat) (i' j' : Int) (hi : i' = (i : Int)) (hj : j' = (j : Int)) : F .cmp .lss i' j' = true ↔ i < j := by rw [hF, hi, hj]; simp [sy]
/-- Behind the round over the pairs: the pair that is left over. -/
theorem t69_13 {F : Sy} {C : Key → List AV → Res → Prop} {D : Code → (AE → St → Prop) → St → Prop} (hF : F = sy) (hC : ∀ k l r, CSem Try.prog k l r → C k l r)
    (rows q : List (List AV)) (hr : ∀ r ∈ rows, isEv r) (hlen : rows.length ≤ 100000000) (n' : Int) (en : n' = (rows.length : Int)) (bs j a : Nat) (bs' a' : Int) (ebs : bs' = (bs : Int)) (ea : a' = (a : Int)) (haj : a = j * (2 * bs)) (hbs : 0 < bs) (hbn : bs < rows.length)
    (hq : Mrg1 ltR rows bs j q) (hn : rows.length < a + 2 * bs) (han : a ≤ rows.length) (Q : AE → St → Prop)
    (hQ : ∀ (q2 : List (List AV)) (b2 : Int) (s : St), b2 = ((bs * 2 : Nat) : Int) → Mrg1 ltR rows (bs * 2) 0 q2 → Le s (sh69 [(6, aI b2)] n' q2) → Q .normal s) :
    awp F C D E69 (nav [1, 1, 1, 1, 0, 0, 1, 0, 1, 1] body69) Q (sh69 [(7, aI a'), (6, aI bs')] n' q) := by
  have e1 := addF7 hF a bs a' bs' ea ebs (by omega)
  have e2 := mulF hF bs 2 bs' 2 ebs rfl (by omega)
  obtain ⟨c', hc'⟩ : ∃ c', F .ar .add .i64 a' bs' = c' := ⟨_, rfl⟩
  obtain ⟨b2, hb2⟩ : ∃ b2, F .ar .mul .i64 bs' 2 = b2 := ⟨_, rfl⟩
  have ec : c' = ((a + bs : Nat) : Int) := hc'.symm.trans e1
  have eb2 : b2 = ((bs * 2 : Nat) : Int) := hb2.symm.trans e2
  have tl := ltF7 hF (a + bs) rows.length c' n' ec en
  have hql := hq.len
  have hqe := ev_stp hq.stp hr
  have key : a + bs < rows.length → ∃ A L R, q = A ++ (L ++ (R ++ [])) ∧ A.length = a ∧ a + L.length = a + bs ∧ a + bs + R.length = rows.length ∧ Srt ltR L ∧ Srt ltR R ∧ Mrg1 ltR rows (bs * 2) 0 (A ++ (isort ltR (L ++ R) ++ [])) := fun h => by
    obtain ⟨A, M, B, h1, h2, h3, h4⟩ := split_at q a rows.length han (by omega)
    have hB : B = [] := List.eq_nil_of_length_eq_zero (by omega)
    subst hB
    obtain ⟨X, L, R, k1, k2, k3, k4⟩ := split_at M 0 bs (by omega) (by omega)
    have hX : X = [] := List.eq_nil_of_length_eq_zero k2
    subst hX
    simp only [List.nil_append] at k1
    have hl : q = A ++ (L ++ (R ++ [])) := by rw [h1, k1]; simp
    obtain ⟨s1, s2, s3⟩ := hq.step swo_ltR hl (by rw [h2, haj]) (by omega) (.inr ⟨by omega, rfl⟩)
    have hfl : (A ++ (isort ltR (L ++ R) ++ [])).length ≤ (j + 1) * (2 * bs) := by
      have := (isort_ok swo_ltR (L ++ R)).2.2
      rw [Nat.succ_mul]
      simp [this]; omega
    exact ⟨A, L, R, hl, h2, by omega, by omega, s1, s2, by rw [Nat.mul_comm]; exact s3.over hfl⟩
  cbv
  rw [hc']
  refine ⟨fun h => ?_, fun h => ?_⟩ <;> cbv
  · have hlt := tl.1 h
    obtain ⟨A, L, R, h1, h2, h3, h4, h5, h6, h7⟩ := key hlt
    obtain ⟨q3, hq3⟩ : ∃ q3, q3 = A ++ (isort ltR (L ++ R) ++ []) := ⟨_, rfl⟩
    rw [← hq3] at h7
    have en : n' = (rows.length : Int) := en
    have ea : a' = (a : Int) := ea
    have ec : c' = ((a + bs : Nat) : Int) := ec
    refine ⟨_, _, hC _ _ _ (symMerge_ok (rows.length - a) q a (a + bs) rows.length a' c' n' ea ec en A L R [] h1 h2 h3 h4 (by omega) (by omega) h5 h6 (by omega) (by omega) hqe q3 hq3), ?_⟩
    cbv
    rw [hb2]
    exact hQ _ b2 _ eb2 h7 (Le.trans le_fresh (le_of [] (by simp [St.fresh, freshObs, Ob.fresh, mapS, killR, relT, leSl, leOb, injK, memK, parK, noTup, lk, rn0, rnA, plain])))
  · have hlt := nfB tl h
    rw [hb2]
    exact hQ _ b2 _ eb2 (by rw [Nat.mul_comm]; exact hq.stop (by omega)) (le_of [] (by simp [leSl, leOb, injK, memK, parK, noTup, lk, rn0, rnA, plain]))
/-- The rounds of merging. -/
theorem t69_6 {F : Sy} {C : Key → List AV → Res → Prop} {D : Code → (AE → St → Prop) → St → Prop} (hF : F = sy) (hC : ∀ k l r, CSem Try.prog k l r → C k l r) (hD : ∀ c Q s, awp F C D E69 c Q s → D c Q s)
    (rows q : List (List AV)) (hr : ∀ r ∈ rows, isEv r) (hlen : rows.length ≤ 100000000) (n' : Int) (en : n' = (rows.length : Int)) (j a : Nat) (a' : Int) (ea : a' = (a : Int)) (haj : a = j * 20) (han : a ≤ rows.length) (hn : rows.length < a + 20)
    (hq : Ins1 ltR rows 20 j q) (rows' : List (List AV)) (hrows' : rows' = isort ltR rows) :
    awp F C D E69 (nav [1, 1, 1] body69) (fun e st => match e with | .normal => retOKW Try.f110.results.toList [(0, .row 37 26 rows' 0 0)] (.pure []) st | .ret => retOKW Try.f110.results.toList [(0, .row 37 26 rows' 0 0)] (.pure []) st | .exit _ => False) (sh69 [(7, aI a'), (6, aI 20)] n' q) := by
  have hql := hq.len
  have hqe := ev_stp hq.stp hr
  obtain ⟨A, M, B, h1, h2, h3, h4⟩ := split_at q a rows.length han (by omega)
  have hB : B = [] := List.eq_nil_of_length_eq_zero (by omega)
  obtain ⟨q2, hq2⟩ : ∃ q2, q2 = A ++ (isort ltR M ++ B) := ⟨_, rfl⟩
  have hi2 := hq.step swo_ltR h1 (by rw [h2, haj]) (.inr ⟨by omega, hB⟩)
  rw [← hq2] at hi2
  have hm2 := Mrg1.of hi2 (by rw [hi2.len, Nat.succ_mul]; omega)
  cbv
  refine ⟨_, _, hC _ _ _ (insertionSort_ok q a rows.length a' n' ea en A M B h1 h2 h3 (by omega) hqe q2 hq2), ?_⟩
  cbv
  refine ⟨Nat × Int × List (List AV), fun y => sh69 [(6, aI y.2.1)] n' y.2.2, fun y => y.2.1 = (y.1 : Int) ∧ 0 < y.1 ∧ y.1 ≤ 2 * rows.length + 20 ∧ Mrg1 ltR rows y.1 0 y.2.2, fun y => 2 * rows.length + 20 - y.1, ⟨(20, 20, q2), ⟨rfl, (show 0 < 20 by omega), (show 20 ≤ 2 * rows.length + 20 by omega), hm2⟩, Le.trans le_fresh (le_of [] (by simp [St.fresh, freshObs, Ob.fresh, mapS, killR, relT, leSl, leOb, injK, memK, parK, noTup, lk, rn0, rnA, plain, aI]))⟩, fun y hy => ?_⟩
  obtain ⟨bs, bs', r⟩ := y
  obtain ⟨ebs, hb0, hb1, hr1⟩ := hy
  simp only at ebs hb0 hb1 hr1
  have en : n' = (rows.length : Int) := en
  have tl := ltF7 hF bs rows.length bs' n' ebs en
  have e2 := mulF hF 2 bs 2 bs' rfl ebs (by omega)
  obtain ⟨b2, hb2⟩ : ∃ b2, F .ar .mul .i64 2 bs' = b2 := ⟨_, rfl⟩
  have eb2 : b2 = ((2 * bs : Nat) : Int) := hb2.symm.trans e2
  cbv
  refine ⟨fun h => ?_, fun h => ?_⟩ <;> cbv
  · have hbn := tl.1 h
    rw [hb2]
    refine ⟨Nat × Nat × Int × Int × List (List AV), fun y => sh69 [(7, aI y.2.2.1), (8, aI y.2.2.2.1), (6, aI bs')] n' y.2.2.2.2, fun y => y.2.1 = y.1 * (2 * bs) ∧ y.2.2.1 = (y.2.1 : Int) ∧ y.2.2.2.1 = ((y.2.1 + 2 * bs : Nat) : Int) ∧ y.2.1 ≤ rows.length ∧ Mrg1 ltR rows bs y.1 y.2.2.2.2, fun y => rows.length - y.2.1, ⟨(0, 0, 0, b2, r), ⟨by simp, rfl, by simp [eb2], Nat.zero_le _, hr1⟩, le_of [] (by simp [leSl, leOb, injK, memK, parK, noTup, lk, rn0, rnA, plain, aI])⟩, fun y hy => ?_⟩
    obtain ⟨k, c, c', d', p⟩ := y
    obtain ⟨hck, ec, ed, hcn, hp⟩ := hy
    simp only at hck ec ed hcn hp
    have ebs : bs' = (bs : Int) := ebs
    have en : n' = (rows.length : Int) := en
    have eb2 : b2 = ((2 * bs : Nat) : Int) := eb2
    have tl2 := leF7 hF (c + 2 * bs) rows.length d' n' ed en
    have e3 := addF7 hF c bs c' bs' ec ebs (by omega)
    have hpl := hp.len
    have hpe := ev_stp hp.stp hr
    obtain ⟨m', hm'⟩ : ∃ m', F .ar .add .i64 c' bs' = m' := ⟨_, rfl⟩
    have em : m' = ((c + bs : Nat) : Int) := hm'.symm.trans e3
    have e4 : c + 2 * bs ≤ rows.length → F .ar .add .i64 d' b2 = ((c + 2 * bs + 2 * bs : Nat) : Int) := fun h => addF7 hF (c + 2 * bs) (2 * bs) d' b2 ed eb2 (by omega)
    have hk2 : c + 2 * bs = (k + 1) * (2 * bs) := (congrArg (· + 2 * bs) (show c = k * (2 * bs) from hck)).trans (Nat.succ_mul k (2 * bs)).symm
    have key : c + 2 * bs ≤ rows.length → ∃ A L R B, p = A ++ (L ++ (R ++ B)) ∧ A.length = c ∧ c + L.length = c + bs ∧ c + bs + R.length = c + 2 * bs ∧ Srt ltR L ∧ Srt ltR R ∧ Mrg1 ltR rows bs (k + 1) (A ++ (isort ltR (L ++ R) ++ B)) := fun h => by
      obtain ⟨A, M, B, h1, h2, h3, h4⟩ := split_at p c (c + 2 * bs) (by omega) (by omega)
      obtain ⟨X, L, R, k1, k2, k3, k4⟩ := split_at M 0 bs (by omega) (by omega)
      have hX : X = [] := List.eq_nil_of_length_eq_zero k2
      subst hX
      simp only [List.nil_append] at k1
      have hl : p = A ++ (L ++ (R ++ B)) := by rw [h1, k1]; simp
      obtain ⟨s1, s2, s3⟩ := hp.step swo_ltR hl (by rw [h2, hck]) (by omega) (.inl (by omega))
      exact ⟨A, L, R, B, hl, h2, by omega, by omega, s1, s2, s3⟩
    cbv
    refine ⟨fun g => ?_, fun g => ?_⟩ <;> cbv
    · have hle := tl2.1 g
      obtain ⟨A, L, R, B, h1, h2, h3, h4, h5, h6, h7⟩ := key hle
      obtain ⟨q3, hq3⟩ : ∃ q3, q3 = A ++ (isort ltR (L ++ R) ++ B) := ⟨_, rfl⟩
      rw [← hq3] at h7
      have ec : c' = (c : Int) := ec
      have ed : d' = ((c + 2 * bs : Nat) : Int) := ed
      have em : m' = ((c + bs : Nat) : Int) := em
      obtain ⟨d2, hd2⟩ : ∃ d2, F .ar .add .i64 d' b2 = d2 := ⟨_, rfl⟩
      have ed2 : d2 = ((c + 2 * bs + 2 * bs : Nat) : Int) := hd2.symm.trans (e4 hle)
      rw [hm']
      refine ⟨_, _, hC _ _ _ (symMerge_ok (2 * bs) p c (c + bs) (c + 2 * bs) c' m' d' ec em ed A L R B h1 h2 h3 h4 (by omega) (by omega) h5 h6 (by omega) (by omega) hpe q3 hq3), ?_⟩
      cbv
      rw [hb2, hd2]
      exact ⟨(k + 1, c + 2 * bs, d', d2, q3), ⟨hk2, ed, ed2, hle, h7⟩, (show rows.length - (c + 2 * bs) < rows.length - c by omega), Le.trans le_fresh (le_of [] (by simp [St.fresh, freshObs, Ob.fresh, mapS, killR, relT, leSl, leOb, injK, memK, parK, noTup, lk, rn0, rnA, plain]))⟩
    · have hle := nfB tl2 g
      have ec : c' = (c : Int) := ec
      refine ⟨_, le_of [] (by simp [leSl, leOb, injK, memK, parK, noTup, lk, rn0, rnA, plain]), hD _ _ _ (t69_13 hF hC rows p hr hlen n' en bs k c bs' c' ebs ec hck hb0 hbn hp (by omega) hcn _ (fun q4 b4 s eb4 hq4 hs => ?_))⟩
      exact ⟨(bs * 2, b4, q4), ⟨eb4, (show 0 < bs * 2 by omega), (show bs * 2 ≤ 2 * rows.length + 20 by omega), hq4⟩, (show 2 * rows.length + 20 - bs * 2 < 2 * rows.length + 20 - bs by omega), hs⟩
  · have hbn := nfB tl h
    have := hr1.done swo_ltR (by have := hr1.len; omega)
    exact ⟨⟨this.trans hrows'.symm, trivial⟩, trivial⟩
/-- **A list, sorted, those that are alike in their order.** -/
theorem stable_ok (rows : List (List AV)) (n' : Int) (en : n' = (rows.length : Int)) (hlen : rows.length ≤ 100000000) (hr : ∀ r ∈ rows, isEv r) (rows' : List (List AV)) (hrows' : rows' = isort ltR rows) :
    CSem Try.prog (.wr 110 [(0, .row 37 26 rows 0 0)] [(0, .row 37 26 rows' 0 0)]) [.own 0 0, aI n', .clo 105 []] (.pure []) := by
  refine of_textW gam_ok mixed E69 Try.func110 (by kernel_rfl) rfl rfl (by simp) (by decide) rfl fun F C D hF hC hD => ?_
  cbv
  refine ⟨Nat × Nat × Int × Int × List (List AV), fun y => sh69 [(7, aI y.2.2.1), (8, aI y.2.2.2.1), (6, aI 20)] n' y.2.2.2.2, fun y => y.2.1 = y.1 * 20 ∧ y.2.2.1 = (y.2.1 : Int) ∧ y.2.2.2.1 = ((y.2.1 + 20 : Nat) : Int) ∧ y.2.1 ≤ rows.length ∧ Ins1 ltR rows 20 y.1 y.2.2.2.2, fun y => rows.length - y.2.1, ⟨(0, 0, 0, 20, rows), ⟨by simp, rfl, by simp, Nat.zero_le _, Ins1.start rows 20⟩, le_of [] (by simp [leSl, leOb, injK, memK, parK, noTup, lk, rn0, rnA, plain, aI])⟩, fun y hy => ?_⟩
  obtain ⟨k, c, c', d', p⟩ := y
  obtain ⟨hck, ec, ed, hcn, hp⟩ := hy
  simp only at hck ec ed hcn hp
  have en : n' = (rows.length : Int) := en
  have tl2 := leF7 hF (c + 20) rows.length d' n' ed en
  have hpl := hp.len
  have hpe := ev_stp hp.stp hr
  have e4 : c + 20 ≤ rows.length → F .ar .add .i64 d' 20 = ((c + 20 + 20 : Nat) : Int) := fun h => addF7 hF (c + 20) 20 d' 20 ed rfl (by omega)
  cbv
  refine ⟨fun g => ?_, fun g => ?_⟩ <;> cbv
  · have hle := tl2.1 g
    obtain ⟨A, M, B, h1, h2, h3, h4⟩ := split_at p c (c + 20) (by omega) (by omega)
    obtain ⟨q2, hq2⟩ : ∃ q2, q2 = A ++ (isort ltR M ++ B) := ⟨_, rfl⟩
    have hi2 := hp.step swo_ltR h1 (by rw [h2, hck]) (.inl (by omega))
    rw [← hq2] at hi2
    have ec : c' = (c : Int) := ec
    have ed : d' = ((c + 20 : Nat) : Int) := ed
    obtain ⟨d2, hd2⟩ : ∃ d2, F .ar .add .i64 d' 20 = d2 := ⟨_, rfl⟩
    have ed2 : d2 = ((c + 20 + 20 : Nat) : Int) := hd2.symm.trans (e4 hle)
    refine ⟨_, _, hC _ _ _ (insertionSort_ok p c (c + 20) c' d' ec ed A M B h1 h2 h3 (by omega) hpe q2 hq2), ?_⟩
    cbv
    rw [hd2]
    exact ⟨(k + 1, c + 20, d', d2, q2), ⟨(by rw [Nat.succ_mul, ← hck]), ed, ed2, hle, hi2⟩, (show rows.length - (c + 20) < rows.length - c by omega), Le.trans le_fresh (le_of [] (by simp [St.fresh, freshObs, Ob.fresh, mapS, killR, relT, leSl, leOb, injK, memK, parK, noTup, lk, rn0, rnA, plain]))⟩
  · have hle := nfB tl2 g
    have ec : c' = (c : Int) := ec
    exact ⟨_, le_of [] (by simp [leSl, leOb, injK, memK, parK, noTup, lk, rn0, rnA, plain]), hD _ _ _ (t69_6 hF hC hD rows p hr hlen n' en k c c' ec hck hcn (by omega) hp rows' hrows')⟩
theorem sortStable_ok (rows : List (List AV)) (hlen : rows.length ≤ 100000000) (hr : ∀ r ∈ rows, isEv r) (rows' : List (List AV)) (hrows' : rows' = isort ltR rows) :
    CSem Try.prog (.wr 104 [(0, .row 37 26 rows 0 0)] [(0, .row 37 26 rows' 0 0)]) [.own 0 0, .clo 105 []] (.pure []) := by
  refine of_textW gam_ok mixed { n := 9, wrs := [110] } Try.func104 (by kernel_rfl) rfl rfl (by simp) (by decide) rfl fun F C D hF hC hD => ?_
  have hl : F .len rows = (rows.length : Int) := by rw [hF]; rfl
  obtain ⟨n', hn'⟩ : ∃ n', F .len rows = n' := ⟨_, rfl⟩
  have en : n' = (rows.length : Int) := hn'.symm.trans hl
  cbv
  rw [hn']
  refine ⟨_, _, hC _ _ _ (stable_ok rows n' en hlen hr rows' hrows'), ?_⟩
  cbv
end Go.Proofs.Ytdnaadcbimbfmaa
