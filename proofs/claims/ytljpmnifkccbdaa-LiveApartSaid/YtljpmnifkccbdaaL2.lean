import Derived.WalkKit
set_option linter.unusedSimpArgs false
set_option linter.unusedVariables false
namespace Go.Proofs.Ytljpmnifkccbdaa

/-! Stable sorting, in plain Lean. -/
section
variable {α : Type} {lt : α → α → Bool}
/-- A strict weak order. -/
structure SWO (lt : α → α → Bool) : Prop where
  asym : ∀ x y, lt x y = true → lt y x = false
  ntr : ∀ x y z, lt x z = true → lt x y = true ∨ lt y z = true
def Srt (lt : α → α → Bool) (l : List α) : Prop := l.Pairwise fun x y => lt y x = false
def eqv (lt : α → α → Bool) (x y : α) : Bool := !lt x y && !lt y x
/-- The same things, those that are alike in the same order. -/
def StP (lt : α → α → Bool) (l l' : List α) : Prop := ∀ x, l.filter (eqv lt x) = l'.filter (eqv lt x)
theorem StP.refl (l : List α) : StP lt l l := fun _ => rfl
theorem StP.symm {l l' : List α} (h : StP lt l l') : StP lt l' l := fun x => (h x).symm
theorem StP.trans {l m n : List α} (h : StP lt l m) (k : StP lt m n) : StP lt l n := fun x => (h x).trans (k x)
theorem StP.append {l l' m m' : List α} (h : StP lt l l') (k : StP lt m m') : StP lt (l ++ m) (l' ++ m') := fun x => by rw [List.filter_append, List.filter_append, h x, k x]
theorem SWO.irr (h : SWO lt) (x : α) : lt x x = false := by
  cases e : lt x x
  · rfl
  · have := h.asym x x e; rw [e] at this; exact this
theorem SWO.eqv_self (h : SWO lt) (x : α) : eqv lt x x = true := by simp [eqv, h.irr]
theorem SWO.le_trans (h : SWO lt) {x y z : α} (h1 : lt y x = false) (h2 : lt z y = false) : lt z x = false := by
  cases e : lt z x
  · rfl
  · rcases h.ntr z y x e with h3 | h3
    · rw [h3] at h2; exact h2
    · rw [h3] at h1; exact h1
theorem StP.mem (h : SWO lt) {l l' : List α} (hp : StP lt l l') {x : α} (hx : x ∈ l) : x ∈ l' := by
  have : x ∈ l.filter (eqv lt x) := List.mem_filter.2 ⟨hx, h.eqv_self x⟩
  rw [hp x] at this
  exact (List.mem_filter.1 this).1
theorem StP.swap (h : SWO lt) {l m : List α} (hs : ∀ x ∈ l, ∀ y ∈ m, lt y x = true) : StP lt (l ++ m) (m ++ l) := by
  intro z
  rw [List.filter_append, List.filter_append]
  by_cases e : ∃ x ∈ l, eqv lt z x = true
  · obtain ⟨x, hx, hzx⟩ := e
    have : m.filter (eqv lt z) = [] := by
      rw [List.filter_eq_nil_iff]
      intro y hy hzy
      simp only [eqv, Bool.and_eq_true, Bool.not_eq_true'] at hzx hzy
      have := hs x hx y hy
      rcases h.ntr y z x this with h1 | h1
      · rw [h1] at hzy; simp at hzy
      · rw [h1] at hzx; simp at hzx
    rw [this]; simp
  · have : l.filter (eqv lt z) = [] := by
      rw [List.filter_eq_nil_iff]
      intro y hy hzy
      exact e ⟨y, hy, hzy⟩
    rw [this]; simp
/-- Sorted, and the same things: the same. -/
theorem Srt.unique (h : SWO lt) : ∀ (l l' : List α), Srt lt l → Srt lt l' → StP lt l l' → l = l' := by
  intro l
  induction l with
  | nil =>
    intro l' _ _ hp
    cases l' with
    | nil => rfl
    | cons y t => have := hp.symm.mem h (x := y) List.mem_cons_self; simp at this
  | cons x t ih =>
    intro l' h1 h2 hp
    cases l' with
    | nil => have := hp.mem h (x := x) List.mem_cons_self; simp at this
    | cons y t' =>
      have hx : x ∈ y :: t' := hp.mem h List.mem_cons_self
      have hy : y ∈ x :: t := hp.symm.mem h List.mem_cons_self
      have l1 : lt x y = false := by
        rcases List.mem_cons.1 hx with e | e
        · rw [e]; exact h.irr _
        · exact (List.pairwise_cons.1 h2).1 x e
      have l2 : lt y x = false := by
        rcases List.mem_cons.1 hy with e | e
        · rw [e]; exact h.irr _
        · exact (List.pairwise_cons.1 h1).1 y e
      have e : x = y := by
        have := hp x
        rw [List.filter_cons_of_pos (h.eqv_self x), List.filter_cons_of_pos (by simp [eqv, l1, l2])] at this
        injection this
      subst e
      congr 1
      refine ih t' (List.pairwise_cons.1 h1).2 (List.pairwise_cons.1 h2).2 fun z => ?_
      have := hp z
      by_cases ez : eqv lt z x = true
      · rw [List.filter_cons_of_pos ez, List.filter_cons_of_pos ez] at this
        injection this
      · rwa [List.filter_cons_of_neg ez, List.filter_cons_of_neg ez] at this
/-- A thing into a sorted list, behind those that are alike. -/
def ins (lt : α → α → Bool) (x : α) : List α → List α
  | [] => [x]
  | y :: l => if lt x y = true then x :: y :: l else y :: ins lt x l
def isort (lt : α → α → Bool) (l : List α) : List α := l.foldl (fun acc x => ins lt x acc) []
theorem ins_split (h : SWO lt) (x : α) : ∀ (L1 L2 : List α), (∀ y ∈ L1, lt x y = false) → (∀ y ∈ L2, lt x y = true) → ins lt x (L1 ++ L2) = L1 ++ x :: L2 := by
  intro L1
  induction L1 with
  | nil =>
    intro L2 _ h2
    cases L2 with
    | nil => rfl
    | cons y l => simp [ins, h2 y List.mem_cons_self]
  | cons z L1 ih =>
    intro L2 h1 h2
    simp only [List.cons_append, ins]
    rw [if_neg (by simp [h1 z List.mem_cons_self]), ih L2 (fun y hy => h1 y (List.mem_cons_of_mem _ hy)) h2]
theorem ins_mem (x y : α) : ∀ (l : List α), y ∈ ins lt x l ↔ y = x ∨ y ∈ l := by
  intro l
  induction l with
  | nil => simp [ins]
  | cons z l ih =>
    simp only [ins]
    split
    · simp
    · simp only [List.mem_cons, ih]
      constructor
      · rintro (h | h | h)
        · exact .inr (.inl h)
        · exact .inl h
        · exact .inr (.inr h)
      · rintro (h | h | h)
        · exact .inr (.inl h)
        · exact .inl h
        · exact .inr (.inr h)
theorem ins_len (x : α) : ∀ (l : List α), (ins lt x l).length = l.length + 1 := by
  intro l
  induction l with
  | nil => rfl
  | cons z l ih =>
    simp only [ins]
    split
    · simp
    · simp [ih]
theorem ins_srt (h : SWO lt) (x : α) : ∀ (l : List α), Srt lt l → Srt lt (ins lt x l) := by
  intro l
  induction l with
  | nil => intro _; simp [ins, Srt]
  | cons z l ih =>
    intro hs
    obtain ⟨h1, h2⟩ := List.pairwise_cons.1 hs
    simp only [ins]
    split
    · rename_i e
      refine List.pairwise_cons.2 ⟨fun y hy => ?_, hs⟩
      rcases List.mem_cons.1 hy with rfl | hy
      · exact h.asym _ _ e
      · exact h.le_trans (h.asym _ _ e) (h1 y hy)
    · rename_i e
      refine List.pairwise_cons.2 ⟨fun y hy => ?_, ih h2⟩
      rcases (ins_mem x y l).1 hy with rfl | hy
      · simpa using e
      · exact h1 y hy
theorem ins_stp (h : SWO lt) (x : α) : ∀ (l : List α), Srt lt l → StP lt (ins lt x l) (l ++ [x]) := by
  intro l
  induction l with
  | nil => intro _; exact StP.refl _
  | cons z l ih =>
    intro hs
    obtain ⟨h1, h2⟩ := List.pairwise_cons.1 hs
    simp only [ins]
    split
    · rename_i e
      have : StP lt ([x] ++ (z :: l)) ((z :: l) ++ [x]) := (StP.swap h (fun a ha b hb => by
        simp only [List.mem_singleton] at hb
        subst hb
        rcases List.mem_cons.1 ha with rfl | ha
        · exact e
        · rcases h.ntr b a z e with h3 | h3
          · exact h3
          · have := h1 a ha; rw [h3] at this; simp at this)).symm
      exact this
    · exact StP.append (l := [z]) (l' := [z]) (StP.refl _) (ih h2)
theorem isort_snoc (l : List α) (x : α) : isort lt (l ++ [x]) = ins lt x (isort lt l) := by simp [isort, List.foldl_append]
theorem isort_ok (h : SWO lt) (l : List α) : Srt lt (isort lt l) ∧ StP lt (isort lt l) l ∧ (isort lt l).length = l.length := by
  have aux : ∀ n, ∀ l : List α, l.length = n → Srt lt (isort lt l) ∧ StP lt (isort lt l) l ∧ (isort lt l).length = l.length := by
    intro n
    induction n with
    | zero =>
      intro l hl
      have := List.eq_nil_of_length_eq_zero hl
      subst this
      exact ⟨List.Pairwise.nil, StP.refl _, rfl⟩
    | succ n ih =>
      intro l hl
      rcases List.eq_nil_or_concat l with rfl | ⟨m, x, rfl⟩
      · simp at hl
      · obtain ⟨h1, h2, h3⟩ := ih m (by simpa using hl)
        rw [List.concat_eq_append, isort_snoc]
        exact ⟨ins_srt h x _ h1, (ins_stp h x _ h1).trans (StP.append h2 (StP.refl _)), by simp [ins_len, h3]⟩
  exact aux _ l rfl
theorem isort_unique (h : SWO lt) {l m : List α} (hs : Srt lt m) (hp : StP lt m l) : m = isort lt l :=
  Srt.unique h _ _ hs (isort_ok h l).1 (hp.trans (isort_ok h l).2.1.symm)
theorem isort_stp (h : SWO lt) {l m : List α} (hp : StP lt m l) : isort lt m = isort lt l :=
  isort_unique h (isort_ok h m).1 ((isort_ok h m).2.1.trans hp)
theorem isort_mem (h : SWO lt) {l : List α} {x : α} (hx : x ∈ isort lt l) : x ∈ l := (isort_ok h l).2.1.mem h hx
end
end Go.Proofs.Ytljpmnifkccbdaa
