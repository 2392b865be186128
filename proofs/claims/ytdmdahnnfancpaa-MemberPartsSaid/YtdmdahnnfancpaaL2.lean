import Derived.Test.YtdmdahnnfancpaaL1
set_option linter.unusedSimpArgs false
set_option linter.unusedVariables false
namespace Go.Proofs.Ytdmdahnnfancpaa
open Go Go.RowKit Am

/-! ### A member's score; ScoreSpans -/
def getS (l : List Ev) (s : ByteArray) : Option Ev := eget (latS l).1 (latS l).2 s
theorem get_ok (l : List Ev) (hl : l.length ≤ 1000000) (rows : List (List AV)) (hrows : rows = evR l) (s : ByteArray) (n : Int) (q : Bool) (h1 : ∀ e, getS l s = some e → n = e.op.num ∧ q = true) (h2 : getS l s = none → n = 0 ∧ q = false) : CSem Try.prog (.fn 16) [.sl rows, aS s] (.pure [aI n, aB q]) := by
  refine of_text gam_ok mixed { n := 19 } Try.func16 (by kernel_rfl) rfl rfl (by simp) (by decide) fun F C D hF hC hD => ?_
  obtain ⟨ks, hks⟩ : ∃ k, k = (latS l).1 := ⟨_, rfl⟩
  obtain ⟨vs, hvs⟩ : ∃ k, k = (latS l).2.map aE := ⟨_, rfl⟩
  have hlat := hC _ _ _ (latest_ok l hl rows hrows ks vs hks hvs)
  have hm : mget ks vs s = (getS l s).map aE := by rw [hks, hvs, mget_map]; rfl
  cases hg : getS l s with
  | none =>
    rw [hg] at hm
    have hm : mget ks vs s = none := hm
    obtain ⟨f1, f2⟩ := h2 hg
    subst f1 f2
    clear h1 h2 hks hvs hg
    cbv
    refine ⟨_, hlat, ?_⟩
    cbv
    refine ⟨_, .miss hm, fun _ => trivial, ?_⟩
    cbv
    simp
  | some e =>
    rw [hg] at hm
    have hm : mget ks vs s = some (aE e) := hm
    obtain ⟨f1, f2⟩ := h1 e hg
    subst f1 f2
    clear h1 h2 hks hvs hg
    cbv
    refine ⟨_, hlat, ?_⟩
    cbv
    refine ⟨_, .hit hm, fun _ => trivial, ?_⟩
    cbv
    simp
def awE : Ev := ⟨⟨0, 0⟩, 0, fun _ => 0, ⟨7, BA [], BA [102], BA [], 3, ⟨0, 0⟩⟩⟩
theorem aw_get : getS [awE] (BA [102]) = some awE := by
  unfold getS latS
  simp only [List.foldl_cons, List.foldl_nil]
  have h : latF ([], []) awE = ([BA [102]], [awE]) := rfl
  rw [h]
  unfold eget
  rw [if_pos rfl]
theorem aw_span : spanS 5 (-2) 9 = (3, 5) := by decide
theorem awake_ok : CSem Try.prog (.fn 12) [] (.pure [aB true]) := by
  refine of_text gam_ok mixed { n := 29 } Try.func12 (by kernel_rfl) rfl rfl (by simp) (by decide) fun F C D hF hC hD => ?_
  have hg := hC _ _ _ (get_ok [awE] (by decide) [awE.ac] rfl (BA [102]) 3 true (fun e h => by rw [aw_get] at h; injection h with h; rw [← h]; exact ⟨rfl, rfl⟩) (fun h => by rw [aw_get] at h; cases h))
  have hs := hC _ _ _ (span_ok 5 (-2) 9 (by unfold I64; decide) (by unfold I64; decide) (by unfold I64; decide) 3 5 (by rw [aw_span]) (by rw [aw_span]))
  have t3 : F .cmp .eql 3 3 = true := by rw [eqF hF]; rfl
  have t5 : F .cmp .eql 5 5 = true := by rw [eqF hF]; rfl
  unfold awE Ev.ac BA at hg
  cbv
  refine ⟨_, hg, ?_⟩
  cbv
  refine ⟨_, hs, ?_⟩
  cbv
  refine bT (t3) ?_
  cbv
  refine bT (rfl) ?_
  cbv
  refine bT (t3) ?_
  cbv
  rw [t5]
  simp
theorem scoreSpans_ok (many a b : Int) (hr1 : I64 many) (hr2 : I64 a) (hr3 : I64 b) : CSem Try.prog (.fn 3) [aI many, aI a, aI b] (.pure [aB true]) := by
  refine of_text gam_ok mixed { n := 50 } Try.func3 (by kernel_rfl) rfl rfl (by simp) (by decide) fun F C D hF hC hD => ?_
  have haw := hC _ _ _ awake_ok
  have tn : F .bnot true = false := by rw [bnotF hF]; rfl
  obtain ⟨x, hx⟩ : ∃ x, x = (spanS many a b).1 := ⟨_, rfl⟩
  obtain ⟨y, hy⟩ : ∃ y, y = (spanS many a b).2 := ⟨_, rfl⟩
  have hp := hC _ _ _ (span_ok many a b hr1 hr2 hr3 x y hx hy)
  have hq := hC _ _ _ (rspan_ok many a b hr1 hr2 hr3 x y hx hy)
  obtain ⟨g1, g2, g3⟩ := span_in many a b
  rw [← hx] at g1 g2
  rw [← hy] at g2 g3
  have t1 : F .cmp .eql x x = true := by rw [eqF hF]; exact decide_eq_true rfl
  have t2 : F .cmp .eql y y = true := by rw [eqF hF]; exact decide_eq_true rfl
  have t3 : F .cmp .geq x 0 = true := by rw [geF hF]; exact decide_eq_true g1
  have t4 : F .cmp .leq x y = true := by rw [leF hF]; exact decide_eq_true g2
  obtain ⟨m, hm⟩ : ∃ m, F .mx many 0 = m := ⟨_, rfl⟩
  have t5 : F .cmp .leq y m = true := by rw [leF hF, ← hm, mxF hF]; exact decide_eq_true g3
  clear hx hy g1 g2 g3 hr1 hr2 hr3
  cbv
  refine ⟨_, haw, ?_⟩
  cbv
  refine bF (tn) ?_
  cbv
  refine ⟨_, hp, ?_⟩
  cbv
  refine ⟨_, hq, ?_⟩
  cbv
  refine bT (t1) ?_
  cbv
  refine bT (t2) ?_
  cbv
  refine bT (t3) ?_
  cbv
  refine bT (t4) ?_
  cbv
  rw [hm, t5]
  simp
end Go.Proofs.Ytdmdahnnfancpaa
