import Derived.Test.YtljpmnifkccbdaaX4
set_option linter.unusedVariables false
set_option linter.unusedSimpArgs false
namespace Go.Proofs.Ytljpmnifkccbdaa.Am
open Go Go.RowKit
variable {P : Program} {W0 : Bas} {S0 : Nat → Prop} {E : En}

def benX (all : List Oper) : Bool :=
  (List.range all.length).all fun i => match all[i]? with
    | none => true
    | some o => benignOne all i o && o.after.all (fun e => decide (e.on < i) || !Region.binds .any e)
theorem benX_spec {all : List Oper} (h : benX all = true) {i : Nat} {o : Oper} (ho : all[i]? = some o) :
    (∀ j d, dstOf all j = some d → (j = i ∨ o.dst ≠ some d) ∧ (d ∈ looks all o → (j < i ∧ ∃ e ∈ o.after, e.on = j ∧ Region.binds .any e = true) ∨ (i < j ∧ ∃ q, all[j]? = some q ∧ Ahead all i q))) ∧ (∀ e ∈ o.after, Region.binds .any e = true → e.on < i) := by
  have hi : i < all.length := (List.getElem?_eq_some_iff.1 ho).1
  have := List.all_eq_true.1 h i (List.mem_range.2 hi)
  rw [ho] at this
  simp only [Bool.and_eq_true] at this
  obtain ⟨h1, h2⟩ := this
  refine ⟨fun j d hd => ?_, fun e he hbd => ?_⟩
  · have hj : j < all.length := by
      unfold dstOf at hd
      split at hd
      · rename_i o' ho'; exact (List.getElem?_eq_some_iff.1 ho').1
      · simp at hd
    have := List.all_eq_true.1 h1 j (List.mem_range.2 hj)
    simp only [hd, Bool.and_eq_true, Bool.or_eq_true] at this
    obtain ⟨h4, h5⟩ := this
    refine ⟨?_, fun hl => ?_⟩
    · rcases h4 with h4 | h4
      · exact .inl (by simpa using h4)
      · exact .inr (by simpa using h4)
    · rcases h5 with (h5 | h5) | h5
      · simp only [Bool.not_eq_true', List.contains_eq_mem, decide_eq_false_iff_not] at h5
        exact absurd hl h5
      · obtain ⟨h6, h7⟩ := h5
        refine .inl ⟨by simpa using h6, ?_⟩
        obtain ⟨i, hi, he⟩ := Array.any_eq_true.1 h7
        simp only [Bool.and_eq_true, beq_iff_eq] at he
        exact ⟨_, Array.getElem_mem hi, he.1, he.2⟩
      · obtain ⟨h6, h7⟩ := h5
        refine .inr ⟨by simpa using h6, ?_⟩
        split at h7
        · rename_i q hq; exact ⟨q, hq, ahead_spec h7⟩
        · simp at h7
  · have := Array.all_eq_true_iff_forall_mem.1 h2 e he
    rw [hbd] at this
    simpa using this
theorem benX_dis {all : List Oper} (h : benX all = true) : ∀ i j t, dstOf all i = some t → dstOf all j = some t → i = j := by
  intro i j t hi hj
  cases ho : all[i]? with
  | none => unfold dstOf at hi; rw [ho] at hi; simp at hi
  | some o =>
    have hd : o.dst = some t := by unfold dstOf at hi; rw [ho] at hi; exact hi
    rcases ((benX_spec h ho).1 j t hj).1 with e | e
    · exact e.symm
    · exact absurd hd e
/-- What stands in the slots that an operation looks at. -/
theorem InvX.ev {all : List Oper} {st0 sti s : St} {K0 : Nat} {X : Nat → AV} {KD : Nat → Kd} {listed : Array Bool} {ρ : Nat → Nat} {i : Nat} {o : Oper} (h : InvX W0 S0 E all st0 K0 X KD listed s ρ) (hb : benX all = true) (ho : all[i]? = some o) (hnl : ¬ Lst listed i) (hafter : ∀ e ∈ o.after, Region.binds .any e = true → Lst listed e.on)
    (hst0 : ∀ t u, lk t st0.slots = some u → ment K0 (fun _ => False) u) (hsrc : SrcX all st0 X i sti) {y : Operand} (hy : y ∈ o.op.operands) {u : AV} (hu : ev sti y = some u) : Am.ev s y = some (rnF (kap K0 ρ) u) ∧ ment K0 (fun m => Lst listed m ∧ ∃ o, obOf (KD m) = some o) u ∧ fr0 s.ctr (rnF (kap K0 ρ) u) = true := by
  have via : ∀ (q : Oper) (n : Nat), (∀ e ∈ q.after, Region.binds .any e = true → Lst listed e.on) → Ahead all n q → Lst listed n := by
    intro q n hq h'
    rcases h' with ⟨e, he, heon, hbd⟩ | ⟨e, he, hbd, k, hk, e2, he2, heon, hbd2⟩
    · rw [← heon]; exact hq e he hbd
    · rw [← heon]; exact h.cl e.on k hk (hq e he hbd) e2 he2 hbd2
  cases y with
  | tmp t =>
    have ht : t ∈ looks all o := by
      unfold looks
      refine List.mem_append_left _ (List.mem_filterMap.2 ⟨_, by simpa using hy, rfl⟩)
    have hu : lk t sti.slots = some u := hu
    suffices h2 : lk t s.slots = some (rnF (kap K0 ρ) u) ∧ ment K0 (fun m => Lst listed m ∧ ∃ o, obOf (KD m) = some o) u by
      refine ⟨h2.1, h2.2, ?_⟩
      rcases frS_get h.fr t _ h2.1 with ⟨vs, he, _⟩ | ⟨_, hf⟩
      · rw [he]; rfl
      · exact hf
    have bs1 := (benX_spec hb ho).1
    by_cases hj : ∃ j, j < i ∧ dstOf all j = some t
    · obtain ⟨j, hji, hjt⟩ := hj
      rw [hsrc.1 j t hji hjt] at hu
      injection hu with hu
      subst hu
      rcases (bs1 j t hjt).2 ht with ⟨_, e, he, heon, hbd⟩ | ⟨h2, _⟩
      · exact ⟨h.new j t (by rw [← heon]; exact hafter e he hbd) hjt, h.men j (by rw [← heon]; exact hafter e he hbd)⟩
      · omega
    · rw [hsrc.2 t fun j hji hjt => hj ⟨j, hji, hjt⟩] at hu
      refine ⟨?_, ment_mono (fun _ h => h.elim) (hst0 t u hu)⟩
      rw [h.old t fun j hl hjt => by
        rcases (bs1 j t hjt).2 ht with ⟨h2, _⟩ | ⟨h2, q, hq, hah⟩
        · exact hj ⟨j, h2, hjt⟩
        · exact hnl (via q i (h.cl j q hq hl) hah), hu, rn_low (hst0 t u hu)]
  | const v =>
    simp only [Am.ev] at hu ⊢
    rw [hu]
    unfold evc at hu
    split at hu <;> simp at hu <;> subst hu <;> exact ⟨rfl, trivial, rfl⟩
  | global g => simp [Am.ev] at hu
  | func f =>
    simp only [Am.ev] at hu ⊢
    injection hu with hu
    subst hu
    exact ⟨rfl, trivial, rfl⟩
theorem srep_ren {w : World} {S : Nat → Prop} {β : Nat → Value} {obs : Obs} {κ : Nat → Nat} {u : AV} {v : Value} (h : SRep w S β obs (rnF κ u) v) (ht : ∀ x vs, u ≠ .tup (x :: vs)) : SRep w S (fun k => β (κ k)) [] u v := by
  cases u <;> try exact h
  · intro e sz rows m hk; simp [lk] at hk
  · intro e sz rows m hk; simp [lk] at hk
  · intro e sz rows m hk; simp [lk] at hk
  · rename_i vs
    cases vs with
    | nil => rw [tup_nil_inv h]; exact tup_nil
    | cons x vs => exact absurd rfl (ht x vs)
theorem ment_tup {K0 : Nat} {M : Nat → Prop} {u : AV} (h : ment K0 M u) : ∀ x vs, u ≠ .tup (x :: vs) := by
  rintro x vs rfl
  exact h
end Go.Proofs.Ytljpmnifkccbdaa.Am
