import Derived.Test.YtljpmnifkccbdaaEv
set_option linter.unusedSimpArgs false
set_option linter.unusedVariables false
namespace Go.Proofs.Ytljpmnifkccbdaa
open Go Go.RowKit Am

def replica (n : Int) : Bool := decide (0 ≤ n) && decide (n < 16)
theorem replica_ok (n : Int) (r : Bool) (hr : r = replica n) : CSem Try.prog (.fn 101) [aI n] (.pure [aB r]) := by
  refine of_text gam_ok mixed { n := 9 } Try.func101 (by kernel_rfl) rfl rfl (by simp) (by decide) fun F C D hF hC hD => ?_
  cbv
  refine ⟨fun h => ?_, fun h => ?_⟩ <;> cbv <;> subst hF <;> grind [sy, replica]

def dotB (d : Dt) : Bool := replica d.R && decide (1 ≤ d.N) && decide (d.N ≤ 1048576)
theorem dot_ok (d : Dt) (r : Bool) (hr : r = dotB d) : CSem Try.prog (.fn 80) [.agg d.ac] (.pure [aB r]) := by
  refine of_text gam_ok mixed { n := 16 } Try.func80 (by kernel_rfl) rfl rfl (by simp) (by decide) fun F C D hF hC hD => ?_
  cbv
  refine ⟨_, hC _ _ _ (replica_ok _ _ rfl), ?_⟩
  generalize h1 : replica d.R = c1
  cbv
  refine ⟨fun h => ?_, fun h => ?_⟩ <;> cbv
  · refine ⟨fun h => ?_, fun h => ?_⟩ <;> cbv <;> subst hF <;> grind [sy, dotB]
  · subst hF; grind [sy, dotB]

end Go.Proofs.Ytljpmnifkccbdaa
