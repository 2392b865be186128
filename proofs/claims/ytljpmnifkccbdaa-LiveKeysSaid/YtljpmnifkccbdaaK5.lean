import Derived.Test.YtljpmnifkccbdaaK4
set_option linter.unusedSimpArgs false
set_option linter.unusedVariables false
namespace Go.Proofs.Ytljpmnifkccbdaa
open Go Go.RowKit Am Go.Sort

/-! The plain law: the reference's lists are the program's. -/
theorem adds_typ (k : Int) : addsB k = !(typI k == 0) := by
  unfold addsB typI
  repeat' split
  all_goals simp_all
theorem ends_same (b a : Ev) (h : (typI a.op.kind == 0) = false) : endsR b a = endsB b a := by
  have hk : a.op.kind = 1 ∨ a.op.kind = 2 ∨ a.op.kind = 3 ∨ a.op.kind = 5 ∨ a.op.kind = 7 ∨ a.op.kind = 9 := by
    unfold typI at h
    repeat' split at h
    all_goals simp_all
  have key : bodyR b.op.kind a.op.kind (b.op.fld == a.op.fld) (decide (b.op.ref.R = a.dot.R) && decide (b.op.ref.N = a.dot.N)) = endsK b.op.kind a.op.kind (b.op.fld == a.op.fld) (decide (b.op.ref.R = a.dot.R) && decide (b.op.ref.N = a.dot.N)) := by
    generalize (b.op.fld == a.op.fld) = o
    generalize (decide (b.op.ref.R = a.dot.R) && decide (b.op.ref.N = a.dot.N)) = q
    generalize b.op.kind = x
    unfold bodyR endsK wantK
    by_cases h11 : x = 11
    · subst h11
      rcases hk with e | e | e | e | e | e <;> rw [e] <;> rfl
    by_cases h1 : x = 1
    · subst h1
      rcases hk with e | e | e | e | e | e <;> rw [e] <;> simp
    by_cases h10 : x = 10
    · subst h10
      rcases hk with e | e | e | e | e | e <;> rw [e] <;> simp
    by_cases h3 : x = 3
    · subst h3
      rcases hk with e | e | e | e | e | e <;> rw [e] <;> simp
    by_cases h4 : x = 4
    · subst h4
      rcases hk with e | e | e | e | e | e <;> rw [e] <;> simp
    by_cases h5 : x = 5
    · subst h5
      rcases hk with e | e | e | e | e | e <;> rw [e] <;> simp
    by_cases h6 : x = 6
    · subst h6
      rcases hk with e | e | e | e | e | e <;> rw [e] <;> simp
    by_cases h7 : x = 7
    · subst h7
      rcases hk with e | e | e | e | e | e <;> rw [e] <;> simp
    by_cases h8 : x = 8
    · subst h8
      rcases hk with e | e | e | e | e | e <;> rw [e] <;> simp
    rcases hk with e | e | e | e | e | e <;> rw [e] <;> simp [h11, h1, h10, h3, h4, h5, h6, h7, h8]
  unfold endsR endsB
  rw [h, key]
  cases covers b a <;> cases (b.op.key == a.op.key) <;> simp
def refP (l : List Ev) (a : Ev) : Bool := !(typI a.op.kind == 0) && !(l.any fun b => endsR b a)
theorem refP_eq (l : List Ev) : refP l = liveP l := by
  funext a
  unfold refP liveP
  rw [adds_typ]
  cases h : (typI a.op.kind == 0) with
  | true => simp
  | false =>
    have : (fun b => endsR b a) = fun b => endsB b a := funext fun b => ends_same b a h
    rw [this]
def refAll (l : List Ev) : List Ev := isort ltE (l.filter (refP l))
theorem refAll_eq (l : List Ev) : refAll l = liveAll l := by unfold refAll liveAll; rw [refP_eq]
theorem isort_filter (p : Ev → Bool) (l : List Ev) : isort ltE (l.filter p) = (isort ltE l).filter p := by
  symm
  refine isort_unique swo_ltE ((isort_ok swo_ltE l).1.sublist List.filter_sublist) fun x => ?_
  have := (isort_ok swo_ltE l).2.1 x
  rw [List.filter_filter, List.filter_filter]
  have h : ∀ L : List Ev, L.filter (fun a => eqv ltE x a && p a) = (L.filter (eqv ltE x)).filter p := fun L => by
    rw [List.filter_filter]
    congr 1
    funext a
    exact Bool.and_comm _ _
  rw [h, h, this]
theorem ends_key {b a : Ev} (h : endsB b a = true) : b.op.key = a.op.key := by
  unfold endsB at h
  simp only [Bool.and_eq_true] at h
  exact (bytes_beq _ _).1 h.1.1
theorem ofL_filter (l : List Ev) (key : ByteArray) : ofL l key = (liveAll l).filter (keyP key) := by
  unfold ofL liveAll
  rw [← isort_filter, List.filter_filter, List.filter_filter]
  congr 1
  refine List.filter_congr fun a ha => ?_
  cases hk : keyP key a with
  | false => simp
  | true =>
    simp only [Bool.and_true, Bool.true_and]
    unfold liveP
    congr 2
    rw [Bool.eq_iff_iff, List.any_eq_true, List.any_eq_true]
    constructor
    · rintro ⟨x, hx, h⟩; exact ⟨x, (List.mem_filter.1 hx).1, h⟩
    · rintro ⟨x, hx, h⟩
      refine ⟨x, List.mem_filter.2 ⟨hx, ?_⟩, h⟩
      have := ends_key h
      unfold keyP at hk ⊢
      rw [this]; exact hk
def keyT (l : List Ev) (key : ByteArray) : Int := match (l.filter (keyP key)).getLast? with | some e => typI e.op.kind | none => 0
theorem ofT_keyT (l : List Ev) (key : ByteArray) : ofT l key = keyT (liveAll l) key := by
  unfold ofT keyT; rw [ofL_filter]; rfl
def ofR (l : List Ev) (key : ByteArray) : List Ev := l.filter fun e => keyP key e && typI e.op.kind == keyT l key
theorem ofV_ofR (l : List Ev) (key : ByteArray) : ofV l key = ofR (liveAll l) key := by
  unfold ofV ofR
  rw [ofL_filter, List.filter_filter, ofT_keyT]
  refine List.filter_congr fun a ha => ?_
  exact Bool.and_comm _ _
theorem keyT_snoc (l : List Ev) (e : Ev) (key : ByteArray) : keyT (l ++ [e]) key = if keyP key e = true then typI e.op.kind else keyT l key := by
  unfold keyT
  rw [List.filter_append]
  by_cases h : keyP key e = true
  · rw [if_pos h]; simp [h]
  · rw [if_neg h]; simp [h]
/-! A string put into a list that rises. -/
def wS (k : Str) (l : List Str) : Bool × List Str := l.foldl (fun a x => if (!a.1 && decide (k < x)) = true then (true, a.2 ++ [k] ++ [x]) else (a.1, a.2 ++ [x])) (false, [])
theorem wS_snoc (k : Str) (l : List Str) (x : Str) : wS k (l ++ [x]) = if (!(wS k l).1 && decide (k < x)) = true then (true, (wS k l).2 ++ [k] ++ [x]) else ((wS k l).1, (wS k l).2 ++ [x]) := by
  unfold wS; rw [List.foldl_append]; rfl
def wEnd (k : Str) (l : List Str) : List Str := if (wS k l).1 = true then (wS k l).2 else (wS k l).2 ++ [k]
def withS (l : List Str) (k : Str) : List Str := if k ∈ l then l else wEnd k l
theorem wS_len (k : Str) (l : List Str) : (wS k l).2.length ≤ l.length + 1 ∧ ((wS k l).1 = false → (wS k l).2.length = l.length) := by
  have : ∀ n (l : List Str), l.length = n → (wS k l).2.length ≤ l.length + 1 ∧ ((wS k l).1 = false → (wS k l).2.length = l.length) := by
    intro n
    induction n with
    | zero => intro l h; rw [List.eq_nil_of_length_eq_zero h]; simp [wS]
    | succ n ih =>
      intro l h
      have hne : l ≠ [] := fun e => by rw [e] at h; simp at h
      obtain ⟨l', x, rfl⟩ : ∃ l' x, l = l' ++ [x] := ⟨l.dropLast, l.getLast hne, (List.dropLast_concat_getLast hne).symm⟩
      obtain ⟨h1, h2⟩ := ih l' (by simp at h; exact h)
      rw [wS_snoc]
      split
      · rename_i hc
        simp only [Bool.and_eq_true, Bool.not_eq_true'] at hc
        have := h2 hc.1
        simp; omega
      · simp only [List.length_append, List.length_singleton]
        refine ⟨by omega, fun h => by have := h2 h; omega⟩
  exact this _ l rfl
theorem lt_of_ne {x k : Str} (h1 : ¬ k < x) (h2 : x ≠ k) : x < k := by
  rcases Classical.em (x < k) with h | h
  · exact h
  · exact absurd (List.le_antisymm (List.not_lt.1 h1) (List.not_lt.1 h)) h2
theorem wS_ok (k : Str) : ∀ n (l : List Str), l.length = n → l.Pairwise (· < ·) → k ∉ l →
    ((wS k l).1 = false → (wS k l).2 = l ∧ ∀ x ∈ l, x < k) ∧ ((wS k l).1 = true → (wS k l).2.Pairwise (· < ·) ∧ (∀ x, x ∈ (wS k l).2 ↔ x = k ∨ x ∈ l) ∧ ∃ y ∈ l, k < y) := by
  intro n
  induction n with
  | zero => intro l h _ _; rw [List.eq_nil_of_length_eq_zero h]; simp [wS]
  | succ n ih =>
    intro l h hp hk
    have hne : l ≠ [] := fun e => by rw [e] at h; simp at h
    obtain ⟨l', x, rfl⟩ : ∃ l' x, l = l' ++ [x] := ⟨l.dropLast, l.getLast hne, (List.dropLast_concat_getLast hne).symm⟩
    obtain ⟨p1, p2, p3⟩ := List.pairwise_append.1 hp
    have hk' : k ∉ l' := fun h => hk (List.mem_append_left _ h)
    have hkx : x ≠ k := fun e => hk (by rw [e]; simp)
    obtain ⟨h1, h2⟩ := ih l' (by simp at h; exact h) p1 hk'
    rw [wS_snoc]
    cases hf : (wS k l').1 with
    | false =>
      obtain ⟨e1, e2⟩ := h1 hf
      by_cases hx : k < x
      · rw [if_pos (by simp [hx])]
        refine ⟨fun h => by simp at h, fun _ => ⟨?_, fun z => ?_, x, by simp, hx⟩⟩
        · rw [e1]
          refine List.pairwise_append.2 ⟨List.pairwise_append.2 ⟨p1, by simp, fun a ha b hb => ?_⟩, by simp, fun a ha b hb => ?_⟩
          · rw [List.mem_singleton.1 hb]; exact e2 a ha
          · rw [List.mem_singleton.1 hb]
            rcases List.mem_append.1 ha with h | h
            · exact p3 a h x (by simp)
            · rw [List.mem_singleton.1 h]; exact hx
        · rw [e1]; simp only [List.mem_append, List.mem_singleton]
          constructor
          · rintro ((h | h) | h)
            · exact .inr (.inl h)
            · exact .inl h
            · exact .inr (.inr h)
          · rintro (h | h | h)
            · exact .inl (.inr h)
            · exact .inl (.inl h)
            · exact .inr h
      · rw [if_neg (by simp [hx])]
        refine ⟨fun _ => ⟨by rw [e1], fun z hz => ?_⟩, fun h => by simp at h⟩
        rcases List.mem_append.1 hz with h | h
        · exact e2 z h
        · rw [List.mem_singleton.1 h]; exact lt_of_ne hx hkx
    | true =>
      obtain ⟨q1, q2, y, hy, hky⟩ := h2 hf
      rw [if_neg (by simp)]
      refine ⟨fun h => by simp at h, fun _ => ⟨?_, fun z => ?_, y, List.mem_append_left _ hy, hky⟩⟩
      · refine List.pairwise_append.2 ⟨q1, by simp, fun a ha b hb => ?_⟩
        rw [List.mem_singleton.1 hb]
        rcases (q2 a).1 ha with h | h
        · rw [h]; exact List.lt_trans hky (p3 y hy x (by simp))
        · exact p3 a h x (by simp)
      · simp only [List.mem_append, List.mem_singleton, q2]
        constructor
        · rintro ((h | h) | h)
          · exact .inl h
          · exact .inr (.inl h)
          · exact .inr (.inr h)
        · rintro (h | h | h)
          · exact .inl (.inl h)
          · exact .inl (.inr h)
          · exact .inr h
theorem withS_ok {l : List Str} {k : Str} (hp : l.Pairwise (· < ·)) : (withS l k).Pairwise (· < ·) ∧ ∀ x, x ∈ withS l k ↔ x = k ∨ x ∈ l := by
  unfold withS
  by_cases h : k ∈ l
  · rw [if_pos h]
    exact ⟨hp, fun x => ⟨.inr, fun h1 => by rcases h1 with h1 | h1; rw [h1]; exact h; exact h1⟩⟩
  · rw [if_neg h, wEnd]
    obtain ⟨h1, h2⟩ := wS_ok k _ l rfl hp h
    cases hf : (wS k l).1 with
    | false =>
      obtain ⟨e1, e2⟩ := h1 hf
      rw [if_neg (by simp), e1]
      refine ⟨List.pairwise_append.2 ⟨hp, by simp, fun a ha b hb => by rw [List.mem_singleton.1 hb]; exact e2 a ha⟩, fun x => ?_⟩
      rw [List.mem_append, List.mem_singleton, or_comm]
    | true =>
      obtain ⟨q1, q2, _⟩ := h2 hf
      rw [if_pos rfl]
      exact ⟨q1, q2⟩
theorem withs_ok : ∀ (l acc : List Str), acc.Pairwise (· < ·) → (l.foldl withS acc).Pairwise (· < ·) ∧ ∀ x, x ∈ l.foldl withS acc ↔ x ∈ acc ∨ x ∈ l := by
  intro l
  induction l with
  | nil => intro acc h; exact ⟨h, fun x => by simp⟩
  | cons a l ih =>
    intro acc h
    obtain ⟨h1, h2⟩ := withS_ok (k := a) h
    obtain ⟨g1, g2⟩ := ih _ h1
    refine ⟨g1, fun x => ?_⟩
    rw [List.foldl_cons, g2, h2, List.mem_cons]
    constructor
    · rintro ((h | h) | h)
      · exact .inr (.inl h)
      · exact .inl h
      · exact .inr (.inr h)
    · rintro (h | h | h)
      · exact .inl (.inr h)
      · exact .inl (.inl h)
      · exact .inr h
theorem keysL_withs (l : List Ev) : keysL l = ((liveAll l).map keyK).foldl withS [] := by
  obtain ⟨h1, h2⟩ := withs_ok ((liveAll l).map keyK) [] List.Pairwise.nil
  exact srt_of h1 fun x => by rw [h2]; simp
end Go.Proofs.Ytljpmnifkccbdaa
