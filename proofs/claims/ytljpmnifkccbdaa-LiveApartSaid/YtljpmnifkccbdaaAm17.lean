import Derived.Test.YtljpmnifkccbdaaAm16
set_option linter.unusedVariables false
set_option linter.unusedSimpArgs false
namespace Go.Proofs.Ytljpmnifkccbdaa.Am
open Go Go.RowKit

/-! ### 16. A nil slice is an empty row of the call's own -/
theorem le_nil (t e sz : Nat) {s : St} (ht : lk t s.slots = some (.v (.slice none 0 0))) (hf : frS s.ctr s.slots = true) :
    Le s { slots := (t, .own s.ctr 0) :: s.slots, obs := (s.ctr, .row e sz [] 0 0) :: s.obs, ctr := s.ctr + 1, par := s.par } := by
  rintro W0 S0 n a w ⟨S, β, hr⟩
  have hold : ∀ k o, k ≠ s.ctr → lk k ((s.ctr, Ob.row e sz [] 0 0) :: s.obs) = some o → lk k s.obs = some o := fun k o hk h => by
    simp only [lk] at h
    rwa [if_neg (fun e => hk e.symm)] at h
  have hnew : ∀ o, lk s.ctr ((s.ctr, Ob.row e sz [] 0 0) :: s.obs) = some o → o = .row e sz [] 0 0 := fun o h => by simp [lk] at h; exact h.symm
  refine ⟨S, fun j => if j = s.ctr then .slice none 0 0 else β j, hr.gr, hr.par, hr.defers, hr.size, fun t' x hx => ?_, fun k o hk => ?_, fun k o g hk hg => ?_, fun k k' o o' hk hk' hne g hg hg' => ?_, fun k o hk => ?_, Nat.le_trans hr.parc (Nat.le_succ _), fun k o hp hk => ?_⟩
  · simp only [lk] at hx
    split at hx
    · rename_i e1
      injection hx with hx
      subst e1 hx
      obtain ⟨h1, h2⟩ := hr.slots t _ ht
      refine ⟨h1, ?_⟩
      have := srep_v h2
      intro e' sz' rows' m' h
      simp only [if_true]
      exact this
    · obtain ⟨h1, h2⟩ := hr.slots t' x hx
      exact ⟨h1, srep_obs (c := s.ctr) (fun j hj => if_neg (by omega)) (fun j o hj h => hold j o (by omega) h) (frS_get hf t' x hx) h2⟩
  · by_cases e1 : k = s.ctr
    · subst e1
      rw [hnew o hk]
      simp only [if_true]
      exact ⟨[], World.ownsRow_nil _ _ _ _, RepL.nil _ _, fun r h => by simp at h, fun g h => by simp [Value.ownBlock] at h⟩
    · rw [if_neg e1]; exact hr.objs k o (hold k o e1 hk)
  · by_cases e1 : k = s.ctr
    · subst e1; simp [blkOf, Value.ownBlock] at hg
    · rw [if_neg e1] at hg; exact hr.up k o g (hold k o e1 hk) hg
  · by_cases e1 : k = s.ctr
    · subst e1; simp [blkOf, Value.ownBlock] at hg
    · by_cases e2 : k' = s.ctr
      · subst e2; simp [blkOf, Value.ownBlock] at hg'
      · rw [if_neg e1] at hg
        rw [if_neg e2] at hg'
        exact hr.sep k k' o o' (hold k o e1 hk) (hold k' o' e2 hk') hne g hg hg'
  · by_cases e1 : k = s.ctr
    · subst e1; exact Nat.lt_succ_self _
    · exact Nat.lt_succ_of_lt (hr.ctr k o (hold k o e1 hk))
  · have hpc : k < s.ctr := Nat.lt_of_lt_of_le hp hr.parc
    rw [if_neg (by omega)]
    exact hr.fix k o hp (hold k o (by omega) hk)
end Go.Proofs.Ytljpmnifkccbdaa.Am
