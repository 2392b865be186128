import Derived.Test.YtljpmnifkccbdaaB9
import Derived.Test.YtljpmnifkccbdaaX9
set_option linter.unusedSimpArgs false
set_option linter.unusedVariables false
namespace Go.Proofs.Ytljpmnifkccbdaa.Prn
open Go Go.RowKit Am

/-! Lists with the same events. -/
theorem unlike_pw {l : List Ev} (h : unlikeP l) : l.Pairwise fun a b => a.dot ≠ b.dot := by
  rw [List.pairwise_iff_getElem]
  intro i j hi hj hij e
  exact h j i l[j] l[i] hij (List.getElem?_eq_getElem hj) (List.getElem?_eq_getElem hi) e.symm
theorem eqv_dot {a b : Ev} (h : eqv ltE a b = true) : a.dot = b.dot := by
  simp only [eqv, Bool.and_eq_true, Bool.not_eq_true'] at h
  obtain ⟨h1, h2⟩ := h
  rw [Bool.eq_false_iff] at h1 h2
  unfold ltE at h1 h2
  rw [ne_eq, later_iff] at h1 h2
  have e1 : a.dot.R = b.dot.R := by omega
  have e2 : a.dot.N = b.dot.N := by omega
  cases ha : a.dot; cases hb : b.dot
  rw [ha, hb] at e1 e2
  simp only at e1 e2
  rw [e1, e2]
theorem one_of {l : List Ev} (h : l.Pairwise fun a b => a.dot ≠ b.dot) (x : Ev) : l.filter (eqv ltE x) = [] ∨ ∃ a, l.filter (eqv ltE x) = [a] := by
  have hp : (l.filter (eqv ltE x)).Pairwise fun a b => a.dot ≠ b.dot := h.sublist List.filter_sublist
  have hd : ∀ a ∈ l.filter (eqv ltE x), a.dot = x.dot := fun a ha => (eqv_dot (List.mem_filter.1 ha).2).symm
  match hm : l.filter (eqv ltE x) with
  | [] => exact .inl rfl
  | [a] => exact .inr ⟨a, rfl⟩
  | a :: b :: r =>
    rw [hm] at hp hd
    have h1 := (List.pairwise_cons.1 hp).1 b List.mem_cons_self
    exact absurd ((hd a List.mem_cons_self).trans (hd b (List.mem_cons_of_mem _ List.mem_cons_self)).symm) h1
theorem stp_of {l m : List Ev} (hl : l.Pairwise fun a b => a.dot ≠ b.dot) (hm : m.Pairwise fun a b => a.dot ≠ b.dot) (h : ∀ x, x ∈ m ↔ x ∈ l) : StP ltE m l := by
  intro x
  have hx : ∀ y, y ∈ m.filter (eqv ltE x) ↔ y ∈ l.filter (eqv ltE x) := fun y => by rw [List.mem_filter, List.mem_filter, h]
  rcases one_of hl x with e | ⟨a, e⟩ <;> rcases one_of hm x with e' | ⟨b, e'⟩
  · rw [e, e']
  · have := (hx b).1 (by rw [e']; exact List.mem_singleton.2 rfl)
    rw [e] at this; simp at this
  · have := (hx a).2 (by rw [e]; exact List.mem_singleton.2 rfl)
    rw [e'] at this; simp at this
  · have := (hx b).1 (by rw [e']; exact List.mem_singleton.2 rfl)
    rw [e, List.mem_singleton] at this
    rw [e, e', this]
theorem dot_inj {l : List Ev} (h : l.Pairwise fun a b => a.dot ≠ b.dot) {a b : Ev} (ha : a ∈ l) (hb : b ∈ l) (e : a.dot = b.dot) : a = b := by
  induction l with
  | nil => simp at ha
  | cons x l ih =>
    obtain ⟨h1, h2⟩ := List.pairwise_cons.1 h
    rcases List.mem_cons.1 ha with rfl | ha' <;> rcases List.mem_cons.1 hb with rfl | hb'
    · rfl
    · exact absurd e (h1 b hb')
    · exact absurd e.symm (h1 a ha')
    · exact ih h2 ha' hb'
def keptL (l : List Ev) (k : Nat) : List Ev := liveAll (l.take k) ++ l.drop k
theorem ins_perm {lt : Ev → Ev → Bool} (x : Ev) : ∀ l : List Ev, (ins lt x l).Perm (x :: l) := by
  intro l
  induction l with
  | nil => exact List.Perm.refl _
  | cons y l ih =>
    simp only [ins]
    split
    · exact List.Perm.refl _
    · exact (ih.cons y).trans (List.Perm.swap x y l)
theorem isort_perm {lt : Ev → Ev → Bool} (l : List Ev) : (isort lt l).Perm l := by
  have : ∀ (l acc : List Ev), (l.foldl (fun acc x => ins lt x acc) acc).Perm (acc ++ l) := by
    intro l
    induction l with
    | nil => intro acc; simp
    | cons x l ih =>
      intro acc
      refine (ih _).trans ?_
      refine ((ins_perm x acc).append_right l).trans ?_
      exact List.perm_middle.symm
  exact this l []
theorem isort_pw {l : List Ev} (h : l.Pairwise fun a b => a.dot ≠ b.dot) : (isort ltE l).Pairwise fun a b => a.dot ≠ b.dot :=
  (List.Perm.pairwise_iff (fun h e => h e.symm) (isort_perm l)).2 h
theorem kept_mem {l : List Ev} {k : Nat} {x : Ev} (h : x ∈ keptL l k) : x ∈ l := by
  rcases List.mem_append.1 h with h | h
  · exact List.mem_of_mem_take (liveAll_mem.1 h).1
  · exact List.mem_of_mem_drop h
theorem kept_pw {l : List Ev} {k : Nat} (h : l.Pairwise fun a b => a.dot ≠ b.dot) : (keptL l k).Pairwise fun a b => a.dot ≠ b.dot := by
  have h0 := h
  rw [← List.take_append_drop k l, List.pairwise_append] at h0
  obtain ⟨h1, h2, h3⟩ := h0
  unfold keptL
  rw [List.pairwise_append]
  exact ⟨isort_pw (h1.sublist List.filter_sublist), h2, fun a ha b hb => h3 a (liveAll_mem.1 ha).1 b hb⟩
/-- What was ended once need not be kept, nor what ended it. -/
theorem prunes (l : List Ev) (k : Nat) (h : l.Pairwise fun a b => a.dot ≠ b.dot) (hc : ∀ a ∈ l.take k, ∀ b ∈ l.drop k, covers a b = false) : liveAll (keptL l k) = liveAll l := by
  unfold liveAll
  refine isort_stp swo_ltE (stp_of (h.sublist List.filter_sublist) ((kept_pw h).sublist List.filter_sublist) fun x => ?_)
  rw [List.mem_filter, List.mem_filter]
  constructor
  · rintro ⟨hx, hl⟩
    refine ⟨kept_mem hx, ?_⟩
    unfold liveP at hl ⊢
    simp only [Bool.and_eq_true, Bool.not_eq_true', List.any_eq_false] at hl ⊢
    refine ⟨hl.1, fun b hb hbx => ?_⟩
    rw [← List.take_append_drop k l] at hb
    rcases List.mem_append.1 hb with hb | hb
    · rcases List.mem_append.1 hx with hx | hx
      · have h2 := (liveAll_mem.1 hx).2
        unfold liveP at h2
        simp only [Bool.and_eq_true, Bool.not_eq_true', List.any_eq_false] at h2
        exact h2.2 b hb hbx
      · have h2 := hc b hb x hx
        unfold endsB at hbx
        rw [h2] at hbx
        simp at hbx
    · exact hl.2 b (List.mem_append.2 (.inr hb)) hbx
  · rintro ⟨hx, hl⟩
    have hlk : liveP (keptL l k) x = true := by
      unfold liveP at hl ⊢
      simp only [Bool.and_eq_true, Bool.not_eq_true', List.any_eq_false] at hl ⊢
      exact ⟨hl.1, fun b hb => hl.2 b (kept_mem hb)⟩
    refine ⟨?_, hlk⟩
    have hx0 := hx
    rw [← List.take_append_drop k l] at hx
    rcases List.mem_append.1 hx with hx | hx
    · refine List.mem_append.2 (.inl ?_)
      exact stays l (l.take k) (fun e he => List.mem_of_mem_take he) x (liveAll_mem.2 ⟨hx0, hl⟩) hx
    · exact List.mem_append.2 (.inr hx)
end Go.Proofs.Ytljpmnifkccbdaa.Prn
