import Derived.Test.YtljpmnifkccbdaaE1
set_option linter.unusedSimpArgs false
set_option linter.unusedVariables false
namespace Go.Proofs.Ytljpmnifkccbdaa
open Go Go.RowKit Am

theorem brf {c : Bool} {p q : Prop} (h1 : c = false → p) (h2 : c = true → q) : (c = false → p) ∧ (c = true → q) := ⟨h1, h2⟩
def wantK (x : Int) : Int := if x = 3 ∨ x = 4 then 3 else if x = 5 ∨ x = 6 then 5 else if x = 7 ∨ x = 8 then 7 else 0
def endsK (x y : Int) (one rf : Bool) : Bool := if x = 11 then addsB y else if x = 1 then y == 1 else if x = 10 then y == 9 && rf else y == wantK x && one
def endsB (b a : Ev) : Bool := (b.op.key == a.op.key) && covers b a && endsK b.op.kind a.op.kind (b.op.fld == a.op.fld) (decide (b.op.ref.R = a.dot.R) && decide (b.op.ref.N = a.dot.N))
theorem ends_ok (b a : Ev) (r : Bool) (hr : r = endsB b a) : CSem Try.prog (.fn 23) [.agg b.ac, .agg a.ac] (.pure [aB r]) := by
  obtain ⟨q, hq1, hq2⟩ := dtEq_ok b.op.ref a.dot
  have hq1 : q = (decide (b.op.ref.R = a.dot.R) && decide (b.op.ref.N = a.dot.N)) := by
    rw [Bool.eq_iff_iff, hq1]
    obtain ⟨x, y⟩ := a.dot
    obtain ⟨z, u⟩ := b.op.ref
    simp
  have hr2 : r = ((b.op.key == a.op.key) && covers b a && endsK b.op.kind a.op.kind (b.op.fld == a.op.fld) q) := by rw [hr, hq1]; rfl
  clear hr hq1
  rw [beq_toListBytes, beq_toListBytes] at hr2
  refine of_text gam_ok mixed { n := 71 } Try.func23 (by kernel_rfl) rfl rfl (by simp) (by decide) fun F C D hF hC hD => ?_
  generalize hco : covers b a = co at hr2
  have hcov : C (.fn 49) [.agg b.ac, .agg a.ac] (.pure [aB co]) := hC _ _ _ (covers_ok b a _ hco.symm)
  generalize had : addsB a.op.kind = ad
  have hadd : C (.fn 42) [aI a.op.kind] (.pure [aB ad]) := hC _ _ _ (adds_ok _ _ had.symm)
  have heq := hC _ _ _ hq2
  clear hco hq2
  cbv
  refine brf (fun h1 => ?_) (fun h1 => ?_) <;> cbv
  · refine ⟨_, hcov, ?_⟩
    cbv
    refine br (fun h2 => ?_) (fun h2 => ?_) <;> cbv
    · subst hF; simp_all [sy]
    iterate 11 (all_goals (try (first | (with_reducible refine br (fun h => ?_) (fun h => ?_)) | (with_reducible refine brf (fun h => ?_) (fun h => ?_)) | (refine ⟨_, hadd, ?_⟩) | (refine ⟨_, heq, ?_⟩))); all_goals (try cbv))
    all_goals (clear hC hD hcov hadd heq hq1; subst hF; simp [sy] at *)
    all_goals (rw [hr2]; clear hr2)
    all_goals (simp_all [endsK, wantK])
  · subst hF; simp_all [sy]
end Go.Proofs.Ytljpmnifkccbdaa
