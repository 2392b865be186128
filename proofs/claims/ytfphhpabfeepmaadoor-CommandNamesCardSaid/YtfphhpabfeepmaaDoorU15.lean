import Derived.Test.YtfphhpabfeepmaaDoorU14
import Derived.Test.YtfphhpabfeepmaaDoorU1
set_option linter.unusedSimpArgs false
set_option linter.unusedVariables false
namespace Go.Proofs.YtfphhpabfeepmaaDoor
open Go Go.RowKit Am

/-! ### The law: any arguments are the call that the document says -/
def awC : Cl := ⟨BA [73, 78, 67, 82, 66, 89], BA [107], BA [], BA [], -5, 0⟩
theorem aw_parse : parseE [[105, 110, 99, 114, 98, 121], [107], [45, 53]] = (0, awC) := by kernel_rfl
theorem awake22_ok : CSem Tryd.prog (.fn 26) [] (.pure [aB true]) := by
  refine of_text gam_ok mixed { n := 20 } Tryd.func26 (by kernel_rfl) rfl rfl (by simp) (by decide) fun F C D hF hC hD => ?_
  have hp := hC _ _ _ (parse_ok [[105, 110, 99, 114, 98, 121], [107], [45, 53]] _ rfl (by decide) (by decide) 0 (by rw [aw_parse]) awC (by rw [aw_parse]))
  have t0 : F .cmp .eql 0 0 = true := by rw [eqF hF]; rfl
  have he := hC _ _ _ (eqC61_ok awC)
  have hr := hC _ _ _ (refuse_ok 13 (BA [69, 82, 82, 32, 105, 110, 116]) (by kernel_rfl))
  have hf := hC _ _ _ (fld_ok (BA [69, 82, 82, 32, 105, 110, 116]))
  have t1 : F .scmp .eql (BA [69, 82, 82, 32, 105, 110, 116]) (BA [69, 82, 82, 32, 105, 110, 116]) = true := by rw [seqF hF]; exact decide_eq_true rfl
  unfold awC at hp he
  unfold BA at hp he hr hf t1
  cbv
  refine ⟨_, hp, ?_⟩
  cbv
  refine bT (t0) ?_
  cbv
  refine ⟨_, he, ?_⟩
  cbv
  refine bT (rfl) ?_
  cbv
  refine ⟨_, hr, ?_⟩
  cbv
  refine ⟨_, hf, ?_⟩
  cbv
  rw [t1]
  simp
theorem commandParses_ok (ags : List (List UInt8)) (rows : List (List AV)) (hrows : rows = sR ags) (e : Int) : CSem Tryd.prog (.fn 11) [.sl rows, aI e] (.pure [aB true]) := by
  refine of_text gam_ok mixed { n := 42 } Tryd.func11 (by kernel_rfl) rfl rfl (by simp) (by decide) fun F C D hF hC hD => ?_
  have haw := hC _ _ _ awake22_ok
  have tn : F .bnot true = false := by rw [bnotF hF]; rfl
  have tm : F .bnot false = true := by rw [bnotF hF]; rfl
  by_cases hsm : ags.length ≤ 20 ∧ ∀ a ∈ ags, a.length ≤ 1000
  · have hs := hC _ _ _ (small_ok ags rows hrows true ⟨fun _ => hsm, fun _ => rfl⟩)
    obtain ⟨r, hr⟩ : ∃ r, r = (parseE ags).1 := ⟨_, rfl⟩
    obtain ⟨y, hy⟩ : ∃ y, y = (parseE ags).2 := ⟨_, rfl⟩
    have h20 : ags.length ≤ 1000 := by omega
    have hp := hC _ _ _ (parse_ok ags rows hrows h20 hsm.2 r hr y hy)
    have hq := hC _ _ _ (rparse_ok ags rows hrows h20 hsm.2 r hr y hy)
    have he := hC _ _ _ (eqC64_ok y)
    have t0 : F .cmp .eql r r = true := by rw [eqF hF]; exact decide_eq_true rfl
    obtain ⟨er, her⟩ : ∃ r, r = BA (errT e) := ⟨_, rfl⟩
    have h1 := hC _ _ _ (refuse_ok e er her)
    have h2 := hC _ _ _ (rrefuse_ok e er her)
    have h3 := hC _ _ _ (same22_ok er)
    clear hr hy her hrows hsm h20
    obtain ⟨nm, ky, fv, vl, nn, mm⟩ := y
    cbv
    refine ⟨_, haw, ?_⟩
    cbv
    refine cF (tn) ?_
    cbv
    refine ⟨_, hs, ?_⟩
    cbv
    refine bF (tn) ?_
    cbv
    refine ⟨_, hp, ?_⟩
    cbv
    refine ⟨_, hq, ?_⟩
    cbv
    refine ⟨_, he, ?_⟩
    cbv
    refine bT (rfl) ?_
    cbv
    refine bT (t0) ?_
    cbv
    refine ⟨_, h1, ?_⟩
    cbv
    refine ⟨_, h2, ?_⟩
    cbv
    refine ⟨_, h3, ?_⟩
    cbv
    simp
  · have hs := hC _ _ _ (small_ok ags rows hrows false ⟨fun h => (by cases h), fun h => absurd h hsm⟩)
    clear hrows hsm
    cbv
    refine ⟨_, haw, ?_⟩
    cbv
    refine cF (tn) ?_
    cbv
    refine ⟨_, hs, ?_⟩
    cbv
    refine bT (tm) ?_
    cbv
    refine ⟨_, haw, ?_⟩
    cbv
    simp
end Go.Proofs.YtfphhpabfeepmaaDoor
