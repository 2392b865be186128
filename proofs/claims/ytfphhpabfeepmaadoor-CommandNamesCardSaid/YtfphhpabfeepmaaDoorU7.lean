import Derived.Test.YtfphhpabfeepmaaDoorU6
set_option linter.unusedSimpArgs false
set_option linter.unusedVariables false
namespace Go.Proofs.YtfphhpabfeepmaaDoor
open Go Go.RowKit Am

theorem texts_nil : CSem Tryd.prog (.fn 54) [.v (.slice none 0 0), .v (.slice none 0 0)] (.pure [aB true]) := by
  refine of_text gam_ok mixed { n := 26 } Tryd.func54 (by kernel_rfl) rfl rfl (by simp) (by decide) fun F C D hF hC hD => ?_
  have h0 : F .len [] = 0 := by rw [lenF hF]; rfl
  have t1 : F .cmp .neq 0 0 = false := by rw [neF hF]; rfl
  have t2 : F .cmp .lss 0 0 = false := by rw [lsF hF]; rfl
  cbv
  rw [h0]
  refine bF (t1) ?_
  cbv
  rw [h0]
  refine ⟨Unit, fun _ => { slots := [(13, aI 0), (12, aI 0)], obs := [], ctr := 0 }, fun _ => True, fun _ => 0, ⟨(), trivial, (le_of [] (by simp [leSl, leOb, injK, memK, parK, noTup, lk, rn0, rnA, plain] <;> first | rfl | decide))⟩, fun _ _ => ?_⟩
  cbv
  refine bF (t2) ?_
  cbv
theorem same22_ok (r : ByteArray) : CSem Tryd.prog (.fn 30) [fltA r, fltA r] (.pure [aB true]) := by
  refine of_text gam_ok mixed { n := 31 } Tryd.func30 (by kernel_rfl) rfl rfl (by simp) (by decide) fun F C D hF hC hD => ?_
  have t1 : F .cmp .eql 2 2 = true := by rw [eqF hF]; rfl
  have t2 : F .scmp .eql r r = true := by rw [seqF hF]; simp
  have t3 : F .cmp .eql 0 0 = true := by rw [eqF hF]; rfl
  have ht := hC _ _ _ texts_nil
  cbv
  refine bT (t1) ?_
  cbv
  refine bT (t2) ?_
  cbv
  refine bT (t3) ?_
  cbv
  refine ⟨_, ht, ?_⟩
  cbv
  simp
end Go.Proofs.YtfphhpabfeepmaaDoor
