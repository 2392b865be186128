import Derived.WalkKit
set_option linter.unusedSimpArgs false
set_option linter.unusedVariables false
namespace Go.Proofs.Ytljpmnifkccbdaa

/-! Stable sorting, in plain Lean. -/
section
variable {α : Type} {lt : α → α → Bool}
/-- A strict weak order. -/
structure SWO (lt : α → α → Bool) : Prop where
  asym : ∀ x y, lt x y = true → lt y x = false
  ntr : ∀ x y z, lt x z = true → lt x y = true ∨ lt y z = true
def Srt (lt : α → α → Bool) (l : List α) : Prop := l.Pairwise fun x y => lt y x = false
def eqv (lt : α → α → Bool) (x y : α) : Bool := !lt x y && !lt y x
/-- The same things, those that are alike in the same order. -/
def StP (lt : α → α → Bool) (l l' : List α) : Prop := ∀ x, l.filter (eqv lt x) = l'.filter (eqv lt x)
theorem StP.refl (l : List α) : StP lt l l := fun _ => rfl
theorem StP.symm {l l' : List α} (h : StP lt l l') : StP lt l' l := fun x => (h x).symm
theorem StP.trans {l m n : List α} (h : StP lt l m) (k : StP lt m n) : StP lt l n := fun x => (h x).trans (k x)
theorem StP.append {l l' m m' : List α} (h : StP lt l l') (k : StP lt m m') : StP lt (l ++ m) (l' ++ m') := fun x => by rw [List.filter_append, List.filter_append, h x, k x]
theorem SWO.irr (h : SWO lt) (x : α) : lt x x = false := by
  cases e : lt x x
  · rfl
  · have := h.asym x x e; rw [e] at this; exact this
theorem SWO.eqv_self (h : SWO lt) (x : α) : eqv lt x x = true := by simp [eqv, h.irr]
theorem SWO.le_trans (h : SWO lt) {x y z : α} (h1 : lt y x = false) (h2 : lt z y = false) : lt z x = false := by
  cases e : lt z x
  · rfl
  · rcases h.ntr z y x e with h3 | h3
    · rw [h3] at h2; exact h2
    · rw [h3] at h1; exact h1
theorem StP.mem (h : SWO lt) {l l' : List α} (hp : StP lt l l') {x : α} (hx : x ∈ l) : x ∈ l' := by
  have : x ∈ l.filter (eqv lt x) := List.mem_filter.2 ⟨hx, h.eqv_self x⟩
  rw [hp x] at this
  exact (List.mem_filter.1 this).1
theorem StP.swap (h : SWO lt) {l m : List α} (hs : ∀ x ∈ l, ∀ y ∈ m, lt y x = true) : StP lt (l ++ m) (m ++ l) := by
  intro z
  rw [List.filter_append, List.filter_append]
  by_cases e : ∃ x ∈ l, eqv lt z x = true
  · obtain ⟨x, hx, hzx⟩ := e
    have : m.filter (eqv lt z) = [] := by
      rw [List.filter_eq_nil_iff]
      intro y hy hzy
      simp only [eqv, Bool.and_eq_true, Bool.not_eq_true'] at hzx hzy
      have := hs x hx y hy
      rcases h.ntr y z x this with h1 | h1
      · rw [h1] at hzy; simp at hzy
      · rw [h1] at hzx; simp at hzx
    rw [this]; simp
  · have : l.filter (eqv lt z) = [] := by
      rw [List.filter_eq_nil_iff]
      intro y hy hzy
      exact e ⟨y, hy, hzy⟩
    rw [this]; simp
/-- Sorted, and the same things: the same. -/
theorem Srt.unique (h : SWO lt) : ∀ (l l' : List α), Srt lt l → Srt lt l' → StP lt l l' → l = l' := by
  intro l
  induction l with
  | nil =>
    intro l' _ _ hp
    cases l' with
    | nil => rfl
    | cons y t => have := hp.symm.mem h (x := y) List.mem_cons_self; simp at this
  | cons x t ih =>
    intro l' h1 h2 hp
    cases l' with
    | nil => have := hp.mem h (x := x) List.mem_cons_self; simp at this
    | cons y t' =>
      have hx : x ∈ y :: t' := hp.mem h List.mem_cons_self
      have hy : y ∈ x :: t := hp.symm.mem h List.mem_cons_self
      have l1 : lt x y = false := by
        rcases List.mem_cons.1 hx with e | e
        · rw [e]; exact h.irr _
        · exact (List.pairwise_cons.1 h2).1 x e
      have l2 : lt y x = false := by
        rcases List.mem_cons.1 hy with e | e
        · rw [e]; exact h.irr _
        · exact (List.pairwise_cons.1 h1).1 y e
      have e : x = y := by
        have := hp x
        rw [List.filter_cons_of_pos (h.eqv_self x), List.filter_cons_of_pos (by simp [eqv, l1, l2])] at this
        injection this
      subst e
      congr 1
      refine ih t' (List.pairwise_cons.1 h1).2 (List.pairwise_cons.1 h2).2 fun z => ?_
      have := hp z
      by_cases ez : eqv lt z x = true
      · rw [List.filter_cons_of_pos ez, List.filter_cons_of_pos ez] at this
        injection this
      · rwa [List.filter_cons_of_neg ez, List.filter_cons_of_neg ez] at this
/-- A thing into a sorted list, behind those that are alike. -/
def ins (lt : α → α → Bool) (x : α) : List α → List α
  | [] => [x]
  | y :: l => if lt x y = true then x :: y :: l else y :: ins lt x l
def isort (lt : α → α → Bool) (l : List α) : List α := l.foldl (fun acc x => ins lt x acc) []
theorem ins_split (h : SWO lt) (x : α) : ∀ (L1 L2 : List α), (∀ y ∈ L1, lt x y = false) → (∀ y ∈ L2, lt x y = true) → ins lt x (L1 ++ L2) = L1 ++ x :: L2 := by
  intro L1
  induction L1 with
  | nil =>
    intro L2 _ h2
    cases L2 with
    | nil => rfl
    | cons y l => simp [ins, h2 y List.mem_cons_self]
  | cons z L1 ih =>
    intro L2 h1 h2
    simp only [List.cons_append, ins]
    rw [if_neg (by simp [h1 z List.mem_cons_self]), ih L2 (fun y hy => h1 y (List.mem_cons_of_mem _ hy)) h2]
theorem ins_mem (x y : α) : ∀ (l : List α), y ∈ ins lt x l ↔ y = x ∨ y ∈ l := by
  intro l
  induction l with
  | nil => simp [ins]
  | cons z l ih =>
    simp only [ins]
    split
    · simp
    · simp only [List.mem_cons, ih]
      constructor
      · rintro (h | h | h)
        · exact .inr (.inl h)
        · exact .inl h
        · exact .inr (.inr h)
      · rintro (h | h | h)
        · exact .inr (.inl h)
        · exact .inl h
        · exact .inr (.inr h)
theorem ins_len (x : α) : ∀ (l : List α), (ins lt x l).length = l.length + 1 := by
  intro l
  induction l with
  | nil => rfl
  | cons z l ih =>
    simp only [ins]
    split
    · simp
    · simp [ih]
theorem ins_srt (h : SWO lt) (x : α) : ∀ (l : List α), Srt lt l → Srt lt (ins lt x l) := by
  intro l
  induction l with
  | nil => intro _; simp [ins, Srt]
  | cons z l ih =>
    intro hs
    obtain ⟨h1, h2⟩ := List.pairwise_cons.1 hs
    simp only [ins]
    split
    · rename_i e
      refine List.pairwise_cons.2 ⟨fun y hy => ?_, hs⟩
      rcases List.mem_cons.1 hy with rfl | hy
      · exact h.asym _ _ e
      · exact h.le_trans (h.asym _ _ e) (h1 y hy)
    · rename_i e
      refine List.pairwise_cons.2 ⟨fun y hy => ?_, ih h2⟩
      rcases (ins_mem x y l).1 hy with rfl | hy
      · simpa using e
      · exact h1 y hy
theorem ins_stp (h : SWO lt) (x : α) : ∀ (l : List α), Srt lt l → StP lt (ins lt x l) (l ++ [x]) := by
  intro l
  induction l with
  | nil => intro _; exact StP.refl _
  | cons z l ih =>
    intro hs
    obtain ⟨h1, h2⟩ := List.pairwise_cons.1 hs
    simp only [ins]
    split
    · rename_i e
      have : StP lt ([x] ++ (z :: l)) ((z :: l) ++ [x]) := (StP.swap h (fun a ha b hb => by
        simp only [List.mem_singleton] at hb
        subst hb
        rcases List.mem_cons.1 ha with rfl | ha
        · exact e
        · rcases h.ntr b a z e with h3 | h3
          · exact h3
          · have := h1 a ha; rw [h3] at this; simp at this)).symm
      exact this
    · exact StP.append (l := [z]) (l' := [z]) (StP.refl _) (ih h2)
theorem isort_snoc (l : List α) (x : α) : isort lt (l ++ [x]) = ins lt x (isort lt l) := by simp [isort, List.foldl_append]
theorem isort_ok (h : SWO lt) (l : List α) : Srt lt (isort lt l) ∧ StP lt (isort lt l) l ∧ (isort lt l).length = l.length := by
  have aux : ∀ n, ∀ l : List α, l.length = n → Srt lt (isort lt l) ∧ StP lt (isort lt l) l ∧ (isort lt l).length = l.length := by
    intro n
    induction n with
    | zero =>
      intro l hl
      have := List.eq_nil_of_length_eq_zero hl
      subst this
      exact ⟨List.Pairwise.nil, StP.refl _, rfl⟩
    | succ n ih =>
      intro l hl
      rcases List.eq_nil_or_concat l with rfl | ⟨m, x, rfl⟩
      · simp at hl
      · obtain ⟨h1, h2, h3⟩ := ih m (by simpa using hl)
        rw [List.concat_eq_append, isort_snoc]
        exact ⟨ins_srt h x _ h1, (ins_stp h x _ h1).trans (StP.append h2 (StP.refl _)), by simp [ins_len, h3]⟩
  exact aux _ l rfl
theorem isort_unique (h : SWO lt) {l m : List α} (hs : Srt lt m) (hp : StP lt m l) : m = isort lt l :=
  Srt.unique h _ _ hs (isort_ok h l).1 (hp.trans (isort_ok h l).2.1.symm)
theorem isort_stp (h : SWO lt) {l m : List α} (hp : StP lt m l) : isort lt m = isort lt l :=
  isort_unique h (isort_ok h m).1 ((isort_ok h m).2.1.trans hp)
theorem isort_mem (h : SWO lt) {l : List α} {x : α} (hx : x ∈ isort lt l) : x ∈ l := (isort_ok h l).2.1.mem h hx
end
end Go.Proofs.Ytljpmnifkccbdaa
set_option linter.unusedSimpArgs false
set_option linter.unusedVariables false
namespace Go.Proofs.Ytljpmnifkccbdaa

section
variable {α : Type} {lt : α → α → Bool}
/-- Where a condition that falls falls. -/
theorem bsplit (P : Nat → Bool) (lo : Nat) : ∀ (d : Nat), (∀ c c', lo ≤ c' → c' < c → c < lo + d → P c = true → P c' = true) → ∃ s, lo ≤ s ∧ s ≤ lo + d ∧ ∀ c, lo ≤ c → c < lo + d → (P c = true ↔ c < s) := by
  intro d
  induction d with
  | zero => intro _; exact ⟨lo, Nat.le_refl _, Nat.le_refl _, fun c h1 h2 => by omega⟩
  | succ d ih =>
    intro h
    obtain ⟨s, h1, h2, h3⟩ := ih (fun c c' a b e => h c c' a b (by omega))
    by_cases e : P (lo + d) = true
    · refine ⟨lo + d + 1, by omega, by omega, fun c hc1 hc2 => ⟨fun _ => by omega, fun _ => ?_⟩⟩
      by_cases ec : c = lo + d
      · rw [ec]; exact e
      · exact h (lo + d) c hc1 (by omega) (by omega) e
    · refine ⟨s, h1, by omega, fun c hc1 hc2 => ?_⟩
      by_cases ec : c = lo + d
      · subst ec
        exact ⟨fun h => absurd h e, fun h => by omega⟩
      · exact h3 c hc1 (by omega)
theorem srt_get {l : List α} (h : Srt lt l) {i j : Nat} {x y : α} (hi : l[i]? = some x) (hj : l[j]? = some y) (hij : i < j) : lt y x = false := by
  obtain ⟨h1, rfl⟩ := List.getElem?_eq_some_iff.1 hi
  obtain ⟨h2, rfl⟩ := List.getElem?_eq_some_iff.1 hj
  exact List.pairwise_iff_getElem.1 h i j h1 h2 hij
theorem srt_le (H : SWO lt) {l : List α} (h : Srt lt l) {i j : Nat} {x y : α} (hi : l[i]? = some x) (hj : l[j]? = some y) (hij : i ≤ j) : lt y x = false := by
  by_cases e : i = j
  · subst e; rw [hi] at hj; injection hj with hj; subst hj; exact H.irr _
  · exact srt_get h hi hj (by omega)
/-- One thing into what rises, behind all that is less. -/
theorem merge_one (H : SWO lt) (x : α) (R1 R2 : List α) (hs : Srt lt (R1 ++ R2)) (h1 : ∀ y ∈ R1, lt y x = true) (h2 : ∀ y ∈ R2, lt y x = false) : R1 ++ ([x] ++ R2) = isort lt ([x] ++ (R1 ++ R2)) := by
  obtain ⟨s1, s2, s3⟩ := List.pairwise_append.1 hs
  refine isort_unique H ?_ ?_
  · refine List.pairwise_append.2 ⟨s1, List.pairwise_append.2 ⟨by simp, s2, fun a ha b hb => ?_⟩, fun a ha b hb => ?_⟩
    · simp only [List.mem_singleton] at ha; subst ha; exact h2 b hb
    · rcases List.mem_append.1 hb with hb | hb
      · simp only [List.mem_singleton] at hb; subst hb; exact H.asym _ _ (h1 a ha)
      · exact s3 a ha b hb
  · have : StP lt (R1 ++ [x]) ([x] ++ R1) := (StP.swap H (fun a ha b hb => by
      simp only [List.mem_singleton] at ha; subst ha; exact h1 b hb)).symm
    have := StP.append this (StP.refl R2)
    simpa using this
theorem merge_last (H : SWO lt) (x : α) (L1 L2 : List α) (hs : Srt lt (L1 ++ L2)) (h1 : ∀ y ∈ L1, lt x y = false) (h2 : ∀ y ∈ L2, lt x y = true) : L1 ++ ([x] ++ L2) = isort lt ((L1 ++ L2) ++ [x]) := by
  obtain ⟨s1, s2, s3⟩ := List.pairwise_append.1 hs
  refine isort_unique H ?_ ?_
  · refine List.pairwise_append.2 ⟨s1, List.pairwise_append.2 ⟨by simp, s2, fun a ha b hb => ?_⟩, fun a ha b hb => ?_⟩
    · simp only [List.mem_singleton] at ha; subst ha; exact H.asym _ _ (h2 b hb)
    · rcases List.mem_append.1 hb with hb | hb
      · simp only [List.mem_singleton] at hb; subst hb; exact h1 a ha
      · exact s3 a ha b hb
  · have : StP lt ([x] ++ L2) (L2 ++ [x]) := (StP.swap H (fun a ha b hb => by
      simp only [List.mem_singleton] at hb; subst hb; exact h2 a ha)).symm
    have := StP.append (StP.refl L1) this
    simpa using this
/-- Two rising lists, cut and turned: merged by halves. -/
theorem merge_cut (H : SWO lt) (L1 L2 R1 R2 : List α) (hL : Srt lt (L1 ++ L2)) (hR : Srt lt (R1 ++ R2)) (h1 : ∀ x ∈ L2, ∀ y ∈ R1, lt y x = true) (h2 : ∀ u ∈ L1, ∀ v ∈ R2, lt v u = false) :
    isort lt (L1 ++ R1) ++ isort lt (L2 ++ R2) = isort lt ((L1 ++ L2) ++ (R1 ++ R2)) := by
  obtain ⟨a1, a2, a3⟩ := List.pairwise_append.1 hL
  obtain ⟨b1, b2, b3⟩ := List.pairwise_append.1 hR
  obtain ⟨p1, p2, p3⟩ := isort_ok H (L1 ++ R1)
  obtain ⟨q1, q2, q3⟩ := isort_ok H (L2 ++ R2)
  refine isort_unique H ?_ ?_
  · refine List.pairwise_append.2 ⟨p1, q1, fun u hu v hv => ?_⟩
    have hu := isort_mem H hu
    have hv := isort_mem H hv
    rcases List.mem_append.1 hu with hu | hu <;> rcases List.mem_append.1 hv with hv | hv
    · exact a3 u hu v hv
    · exact h2 u hu v hv
    · exact H.asym _ _ (h1 v hv u hu)
    · exact b3 u hu v hv
  · refine (StP.append p2 q2).trans ?_
    have : StP lt (R1 ++ L2) (L2 ++ R1) := (StP.swap H h1).symm
    have := StP.append (StP.refl L1) (StP.append this (StP.refl R2))
    simpa using this
/-- A cut of two rising lists that a search finds. -/
theorem cut_found (H : SWO lt) {L R : List α} (hL : Srt lt L) (hR : Srt lt R) (i j : Nat) (hi : i ≤ L.length) (hj : j ≤ R.length)
    (h1 : ∀ x y, L[i]? = some x → 0 < j → R[j - 1]? = some y → lt y x = true) (h2 : ∀ u v, 0 < i → L[i - 1]? = some u → R[j]? = some v → lt v u = false) :
    (∀ x ∈ L.drop i, ∀ y ∈ R.take j, lt y x = true) ∧ (∀ u ∈ L.take i, ∀ v ∈ R.drop j, lt v u = false) := by
  constructor
  · intro x hx y hy
    obtain ⟨k, hk, rfl⟩ := List.getElem_of_mem hx
    obtain ⟨l, hl, rfl⟩ := List.getElem_of_mem hy
    simp only [List.length_drop] at hk
    simp only [List.length_take] at hl
    simp only [List.getElem_drop, List.getElem_take]
    have ex : L[i + k]? = some L[i + k] := List.getElem?_eq_getElem (by omega)
    have ey : R[l]? = some R[l] := List.getElem?_eq_getElem (by omega)
    have e1 : L[i]? = some L[i] := List.getElem?_eq_getElem (by omega)
    have e2 : R[j - 1]? = some R[j - 1] := List.getElem?_eq_getElem (by omega)
    have h3 := h1 _ _ e1 (by omega) e2
    have h4 := srt_le H hL e1 ex (by omega)
    have h5 := srt_le H hR ey e2 (by omega)
    rcases H.ntr _ L[i + k] _ h3 with h6 | h6
    · rcases H.ntr _ R[l] _ h6 with h7 | h7
      · rw [h7] at h5; simp at h5
      · exact h7
    · rw [h6] at h4; simp at h4
  · intro x hx y hy
    obtain ⟨k, hk, rfl⟩ := List.getElem_of_mem hx
    obtain ⟨l, hl, rfl⟩ := List.getElem_of_mem hy
    simp only [List.length_take] at hk
    simp only [List.length_drop] at hl
    simp only [List.getElem_drop, List.getElem_take]
    have ex : L[k]? = some L[k] := List.getElem?_eq_getElem (by omega)
    have ey : R[j + l]? = some R[j + l] := List.getElem?_eq_getElem (by omega)
    have e1 : L[i - 1]? = some L[i - 1] := List.getElem?_eq_getElem (by omega)
    have e2 : R[j]? = some R[j] := List.getElem?_eq_getElem (by omega)
    exact H.le_trans (srt_le H hL ex e1 (by omega)) (H.le_trans (h2 _ _ (by omega) e1 e2) (srt_le H hR e2 ey (by omega)))
end
end Go.Proofs.Ytljpmnifkccbdaa
set_option linter.unusedSimpArgs false
set_option linter.unusedVariables false
namespace Go.Proofs.Ytljpmnifkccbdaa

/-! Sorting by blocks, in plain Lean. -/
section
variable {α : Type} {lt : α → α → Bool}
/-- The k-th block of so many. -/
def blk (bs : Nat) (l : List α) (k : Nat) : List α := (l.drop (k * bs)).take bs
theorem blk_left {bs k : Nat} {A X X' : List α} (h : (k + 1) * bs ≤ A.length) : blk bs (A ++ X) k = blk bs (A ++ X') k := by
  have e : (k + 1) * bs = k * bs + bs := by rw [Nat.succ_mul]
  unfold blk
  rw [List.drop_append_of_le_length (by omega), List.drop_append_of_le_length (by omega), List.take_append_of_le_length (by simp; omega), List.take_append_of_le_length (by simp; omega)]
theorem blk_right {bs k : Nat} {A A' X : List α} (h : A.length = A'.length) (h2 : A.length ≤ k * bs) : blk bs (A ++ X) k = blk bs (A' ++ X) k := by
  unfold blk
  rw [List.drop_append, List.drop_append, List.drop_of_length_le (l := A) h2, List.drop_of_length_le (l := A') (by omega), h]
theorem blk_at {bs k : Nat} {A M B : List α} (h : A.length = k * bs) (h2 : M.length = bs ∨ (M.length ≤ bs ∧ B = [])) : blk bs (A ++ (M ++ B)) k = M := by
  unfold blk
  rw [List.drop_append, List.drop_of_length_le (by omega), show k * bs - A.length = 0 by omega]
  simp only [List.drop_zero, List.nil_append]
  rcases h2 with h2 | ⟨h2, rfl⟩
  · rw [List.take_append_of_le_length (by omega), List.take_of_length_le (by omega)]
  · simp only [List.append_nil]; rw [List.take_of_length_le h2]
theorem blk_nil {bs k : Nat} {l : List α} (h : l.length ≤ k * bs) : blk bs l k = [] := by
  unfold blk
  rw [List.drop_of_length_le h]; simp
theorem srt_nil : Srt lt ([] : List α) := List.Pairwise.nil
/-- Blocks ahead of place j are sorted; the same things. -/
structure Ins1 (lt : α → α → Bool) (l0 : List α) (bs j : Nat) (l : List α) : Prop where
  len : l.length = l0.length
  stp : StP lt l l0
  srt : ∀ k, k < j → Srt lt (blk bs l k)
theorem Ins1.start (l0 : List α) (bs : Nat) : Ins1 lt l0 bs 0 l0 := ⟨rfl, StP.refl _, fun k h => by omega⟩
theorem split_at (l : List α) (a b : Nat) (h : a ≤ b) (hb : b ≤ l.length) : ∃ A M B, l = A ++ (M ++ B) ∧ A.length = a ∧ a + M.length = b ∧ B.length = l.length - b := by
  refine ⟨l.take a, (l.drop a).take (b - a), l.drop b, ?_, by simp; omega, by simp; omega, by simp⟩
  conv => lhs; rw [← List.take_append_drop a l, ← List.take_append_drop (b - a) (l.drop a)]
  rw [List.drop_drop, show a + (b - a) = b by omega]
theorem Ins1.step (H : SWO lt) {l0 l : List α} {bs j : Nat} (h : Ins1 lt l0 bs j l) {A M B : List α} (hl : l = A ++ (M ++ B)) (hA : A.length = j * bs) (hM : M.length = bs ∨ (M.length ≤ bs ∧ B = [])) :
    Ins1 lt l0 bs (j + 1) (A ++ (isort lt M ++ B)) := by
  obtain ⟨s1, s2, s3⟩ := isort_ok H M
  refine ⟨by rw [← h.len, hl]; simp [s3], (StP.append (StP.refl A) (StP.append s2 (StP.refl B))).trans (hl ▸ h.stp), fun k hk => ?_⟩
  by_cases e : k = j
  · subst e
    rw [blk_at hA (by rw [s3]; exact hM)]; exact s1
  · have hk' : k < j := by omega
    have hle : (k + 1) * bs ≤ A.length := by rw [hA]; exact Nat.mul_le_mul_right _ (by omega)
    rw [blk_left (X' := M ++ B) hle, ← hl]
    exact h.srt k hk'
/-- Blocks of twice the size ahead of place j, blocks of the size behind it. -/
structure Mrg1 (lt : α → α → Bool) (l0 : List α) (bs j : Nat) (l : List α) : Prop where
  len : l.length = l0.length
  stp : StP lt l l0
  two : ∀ k, k < j → Srt lt (blk (2 * bs) l k)
  one : ∀ k, 2 * j ≤ k → Srt lt (blk bs l k)
theorem Mrg1.of {l0 l : List α} {bs j : Nat} (h : Ins1 lt l0 bs j l) (hj : l.length ≤ j * bs) : Mrg1 lt l0 bs 0 l :=
  ⟨h.len, h.stp, fun k h => by omega, fun k _ => by
    by_cases e : k < j
    · exact h.srt k e
    · rw [blk_nil (by have := Nat.mul_le_mul_right bs (show j ≤ k by omega); omega)]; exact srt_nil⟩
theorem Mrg1.step (H : SWO lt) {l0 l : List α} {bs j : Nat} (h : Mrg1 lt l0 bs j l) {A L R B : List α} (hl : l = A ++ (L ++ (R ++ B))) (hA : A.length = j * (2 * bs)) (hL : L.length = bs) (hR : R.length = bs ∨ (R.length ≤ bs ∧ B = [])) :
    Srt lt L ∧ Srt lt R ∧ Mrg1 lt l0 bs (j + 1) (A ++ (isort lt (L ++ R) ++ B)) := by
  have e2 : j * (2 * bs) = 2 * j * bs := by rw [← Nat.mul_assoc, Nat.mul_comm j 2]
  have e3 : (2 * j + 1) * bs = 2 * j * bs + bs := by rw [Nat.succ_mul]
  have e4 : (j + 1) * (2 * bs) = j * (2 * bs) + 2 * bs := by rw [Nat.succ_mul]
  obtain ⟨s1, s2, s3⟩ := isort_ok H (L ++ R)
  have s3' : (isort lt (L ++ R)).length = bs + R.length := by rw [s3]; simp [hL]
  refine ⟨?_, ?_, ⟨by rw [← h.len, hl]; simp [s3]; omega, (StP.append (StP.refl A) (StP.append s2 (StP.refl B))).trans (by have := h.stp; rw [hl] at this; simpa using this), fun k hk => ?_, fun k hk => ?_⟩⟩
  · have := h.one (2 * j) (by omega)
    rw [hl, blk_at (by omega) (.inl hL)] at this; exact this
  · have := h.one (2 * j + 1) (by omega)
    rw [hl, ← List.append_assoc A L, blk_at (by simp; omega) hR] at this; exact this
  · by_cases e : k = j
    · subst e
      rw [blk_at hA (hR.elim (fun h1 => .inl (by omega)) (fun h1 => .inr ⟨by omega, h1.2⟩))]; exact s1
    · have hle : (k + 1) * (2 * bs) ≤ A.length := by rw [hA]; exact Nat.mul_le_mul_right _ (by omega)
      rw [blk_left (X' := L ++ (R ++ B)) hle, ← hl]
      exact h.two k (by omega)
  · rcases hR with h1 | ⟨h1, h2⟩
    · have hle : A.length + bs + bs ≤ k * bs := by
        have := Nat.mul_le_mul_right bs (show 2 * j + 1 + 1 ≤ k by omega)
        rw [Nat.succ_mul, Nat.succ_mul] at this; omega
      have := h.one k (by omega)
      rw [hl, show A ++ (L ++ (R ++ B)) = (A ++ (L ++ R)) ++ B by simp] at this
      rw [← List.append_assoc A, blk_right (A' := A ++ (L ++ R)) (by simp [s3]) (by simp [s3, hL, h1]; omega)]
      exact this
    · subst h2
      have hle : A.length + bs + bs ≤ k * bs := by
        have := Nat.mul_le_mul_right bs (show 2 * j + 1 + 1 ≤ k by omega)
        rw [Nat.succ_mul, Nat.succ_mul] at this; omega
      rw [blk_nil (by simp [s3, hL]; omega)]; exact srt_nil
/-- What is left over stands as it is. -/
theorem Mrg1.stop {l0 l : List α} {bs j : Nat} (h : Mrg1 lt l0 bs j l) (hj : l.length ≤ j * (2 * bs) + bs) : Mrg1 lt l0 (2 * bs) 0 l :=
  ⟨h.len, h.stp, fun k h => by omega, fun k _ => by
    by_cases e : k < j
    · exact h.two k e
    · by_cases e2 : k = j
      · have e3 : j * (2 * bs) = 2 * j * bs := by rw [← Nat.mul_assoc, Nat.mul_comm j 2]
        have := h.one (2 * j) (by omega)
        have hb : blk (2 * bs) l k = blk bs l (2 * j) := by
          unfold blk
          rw [e2, e3, List.take_of_length_le (by simp; omega), List.take_of_length_le (by simp; omega)]
        rw [hb]; exact this
      · rw [blk_nil (by have := Nat.mul_le_mul_right (2 * bs) (show j + 1 ≤ k by omega); rw [Nat.succ_mul] at this; omega)]; exact srt_nil⟩
theorem Mrg1.over {l0 l : List α} {bs j : Nat} (h : Mrg1 lt l0 bs j l) (hj : l.length ≤ j * (2 * bs)) : Mrg1 lt l0 (2 * bs) 0 l := h.stop (by omega)
theorem Mrg1.done (H : SWO lt) {l0 l : List α} {bs : Nat} (h : Mrg1 lt l0 bs 0 l) (hb : l.length ≤ bs) : l = isort lt l0 := by
  refine isort_unique H ?_ h.stp
  have := h.one 0 (by omega)
  unfold blk at this
  rwa [Nat.zero_mul, List.drop_zero, List.take_of_length_le hb] at this
end
end Go.Proofs.Ytljpmnifkccbdaa
