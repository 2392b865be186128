import Derived.Test.YtljpmnifkccbdaaX7
set_option linter.unusedVariables false
set_option linter.unusedSimpArgs false
namespace Go.Proofs.Ytljpmnifkccbdaa.Am
open Go Go.RowKit
variable {P : Program} {W0 : Bas} {S0 : Nat → Prop} {E : En}

theorem readyX {ops : Array Oper} (hb : benX ops.toList = true) {listed : Array Bool} (hs : listed.size = ops.size) (hr : Region.ready .any ops listed = []) : ∀ j, j < ops.size → listed.getD j false = true := by
  intro j
  induction j using Nat.strongRecOn with
  | _ j ih =>
    intro hj
    by_cases h : listed.getD j false = true
    · exact h
    · exfalso
      have hlt : j < listed.size := by omega
      have hf : listed.getD j true = false := by
        have : listed.getD j false = listed.getD j true := by simp [hlt]
        rw [← this]; simpa using h
      have ho : ops[j]? = some ops[j] := Array.getElem?_eq_getElem hj
      have ho' : ops.toList[j]? = some ops[j] := by simp
      have : j ∈ Region.ready .any ops listed := mem_ready.2 ⟨hf, ops[j], ho, fun e he hbd => by
        have h1 := (benX_spec hb ho').2 e he hbd
        exact ih e.on h1 (by omega)⟩
      rw [hr] at this
      simp at this
theorem anyX_ok (hΓ : TOKs P) {ops : Array Oper} {st0 : St} {K0 : Nat} {X : Nat → AV} {KD : Nat → Kd} (hb : benX ops.toList = true) (hst0 : ∀ t u, lk t st0.slots = some u → ment K0 (fun _ => False) u) (hpk : st0.par ≤ K0) (hglob : ∀ j q, ops.toList[j]? = some q → StepX' P E ops.toList st0 K0 X KD j q) {Q : Exit → Act → World → Prop}
    (hfin : ∀ listed s ρ a w, listed.size = ops.size → (∀ j, j < ops.size → listed.getD j false = true) → InvX W0 S0 E ops.toList st0 K0 X KD listed s ρ → Rel W0 S0 E.n s a w → Q .normal a w) :
    ∀ (fuel : Nat) (listed : Array Bool) (s : St) (ρ : Nat → Nat) (a : Act) (w : World), listed.size = ops.size → ((List.range ops.size).filter (fun j => listed.getD j false == false)).length ≤ fuel → InvX W0 S0 E ops.toList st0 K0 X KD listed s ρ → Rel W0 S0 E.n s a w → wpAny P .any ops Q fuel listed a w := by
  intro fuel
  induction fuel with
  | zero =>
    intro listed s ρ a w hs hf hinv hrel
    have hall : ∀ j, j < ops.size → listed.getD j false = true := by
      intro j hj
      have : (List.range ops.size).filter (fun j => listed.getD j false == false) = [] := List.eq_nil_of_length_eq_zero (by omega)
      rw [List.filter_eq_nil_iff] at this
      have := this j (List.mem_range.2 hj)
      simpa using this
    refine ⟨?_, hfin _ _ _ _ _ hs hall hinv hrel⟩
    rw [List.eq_nil_iff_forall_not_mem]
    intro j hj
    obtain ⟨h1, o, ho, _⟩ := mem_ready.1 hj
    have hlt : j < ops.size := (Array.getElem?_eq_some_iff.1 ho).1
    have h2 := hall j hlt
    have : listed.getD j false = listed.getD j true := by simp [show j < listed.size by omega]
    rw [this, h1] at h2
    simp at h2
  | succ fuel ih =>
    intro listed s ρ a w hs hf hinv hrel
    refine ⟨fun hr => hfin _ _ _ _ _ hs (readyX hb hs hr) hinv hrel, fun i hi => ?_⟩
    obtain ⟨h1, o, ho, hafter⟩ := mem_ready.1 hi
    have hlt : i < ops.size := (Array.getElem?_eq_some_iff.1 ho).1
    have hil : i < listed.size := by omega
    have hif : listed.getD i false = false := by
      have : listed.getD i false = listed.getD i true := by simp [hil]
      rw [this]; exact h1
    have ho' : ops.toList[i]? = some o := by simpa using ho
    have hfuel : ((List.range ops.size).filter (fun j => (listed.setIfInBounds i true).getD j false == false)).length ≤ fuel := by
      have : (List.range ops.size).filter (fun j => (listed.setIfInBounds i true).getD j false == false) = ((List.range ops.size).filter (fun j => listed.getD j false == false)).filter (fun j => !(j == i)) := by
        rw [List.filter_filter]
        apply List.filter_congr
        intro j _
        rw [getD_set hil]
        by_cases e : j = i <;> simp [e]
      rw [this]
      have hlt2 : (((List.range ops.size).filter (fun j => listed.getD j false == false)).filter (fun j => !(j == i))).length < ((List.range ops.size).filter (fun j => listed.getD j false == false)).length := by
        rw [List.length_filter_lt_length_iff_exists]
        exact ⟨i, List.mem_filter.2 ⟨List.mem_range.2 hlt, by simpa using hif⟩, by simp⟩
      omega
    obtain ⟨hd, hg, sti, hsrc, hstep⟩ := hglob i o ho'
    unfold wpOp
    rw [ho]
    have hw : Region.wanted o (yielded ops a.tmps) = true := by simp [Region.wanted, hg]
    simp only [hw, if_true]
    exact .inl (stepX_ok hΓ hb hst0 hpk hglob hstep hsrc ho' hd hil (by simpa using hs) (by simp [Lst, hif]) (fun e he hbd => hafter e he hbd) hinv hrel (fun s' ρ' a' w' hinv' hrel' => ih _ _ _ _ _ (by simp [hs]) hfuel hinv' hrel'))
end Go.Proofs.Ytljpmnifkccbdaa.Am
