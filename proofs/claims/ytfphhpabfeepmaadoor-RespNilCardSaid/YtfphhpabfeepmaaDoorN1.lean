import Derived.Test.YtfphhpabfeepmaaDoorP11
set_option linter.unusedSimpArgs false
set_option linter.unusedVariables false
namespace Go.Proofs.YtfphhpabfeepmaaDoor
open Go Go.RowKit Am
theorem respNil_ok (s : ByteArray) (hs : s.size ≤ 9223372036854775807) : CSem Tryd.prog (.fn 8) [aS s] (.pure [aB true]) := by
  refine of_text gam_ok mixed { n := 22 } Tryd.func8 (by kernel_rfl) rfl rfl (by simp) (by decide) fun F C D hF hC hD => ?_
  obtain ⟨rw, hrw⟩ : ∃ rw, rw = byR (L s) := ⟨_, rfl⟩
  have hcv := hC _ _ _ (sb_ok s hs rw hrw)
  have hfeed := hC _ _ _ (feed_nil rw)
  have haw := hC _ _ _ awake_ok
  have t0 : F .cmp .eql 0 0 = true := by rw [eqF hF]; rfl
  have t1 : F .cmp .eql (F .len []) 0 = true := by rw [lenF hF, eqF hF]; rfl
  have t2 : F .bnot true = false := by rw [bnotF hF]; rfl
  clear hrw
  cbv
  refine ⟨_, haw, ?_⟩
  cbv
  refine bF (t2) ?_
  cbv
  refine ⟨_, hcv, ?_⟩
  cbv
  refine ⟨_, hfeed, ?_⟩
  cbv
  refine bT (t1) ?_
  cbv
  rw [t0]
  simp
end Go.Proofs.YtfphhpabfeepmaaDoor
