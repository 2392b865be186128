import Derived.Test.YthepmpfkkhckpaaGreatDoorK12
import Derived.Test.YthepmpfkkhckpaaGreatDoorK14
set_option linter.unusedSimpArgs false
set_option linter.unusedVariables false
namespace Go.Proofs.YthepmpfkkhckpaaGreatDoor
open Go Go.RowKit Am

/-! ### The law -/
theorem both_ok (k node n ta turn : Int) (sb : ByteArray) (err : Int) (by_ : ByteArray) (num : Int) (hbs : by_.size ≤ 3000) (h0 : -9223372036854775808 ≤ node) (h1 : node ≤ 9223372036854775807) (g0 : -9223372036854775808 ≤ num) (g1 : num ≤ 9223372036854775807) :
    ∃ r, CSem Tryz.prog (.fn 5) [.agg (stepC k node n ta turn sb), .agg (ansC err by_ num)] (.pure [aS r]) ∧ CSem Tryz.prog (.fn 6) [.agg (stepC k node n ta turn sb), .agg (ansC err by_ num)] (.pure [aS r]) := by
  by_cases he : err = 0
  · by_cases hk1 : k = 1
    · by_cases hby : by_ = ⟨⟨[]⟩⟩
      · exact ⟨_, line_bare k node n ta turn sb err by_ num h0 h1 he hk1 hby _ rfl, rline_bare k node n ta turn sb err by_ num h0 h1 he hk1 hby _ rfl⟩
      · exact ⟨_, line_repl k node n ta turn sb err by_ num hbs h0 h1 he hk1 hby _ rfl _ rfl, rline_repl k node n ta turn sb err by_ num hbs h0 h1 he hk1 hby _ rfl _ rfl⟩
    · by_cases hk3 : k = 3
      · exact ⟨_, line_3 k node n ta turn sb err by_ num h0 h1 g0 g1 he hk3 _ rfl _ rfl, rline_3 k node n ta turn sb err by_ num h0 h1 g0 g1 he hk3 _ rfl _ rfl⟩
      · by_cases hk4 : k = 4
        · exact ⟨_, line_4 k node n ta turn sb err by_ num h0 h1 g0 g1 he hk4 _ rfl _ rfl, rline_4 k node n ta turn sb err by_ num h0 h1 g0 g1 he hk4 _ rfl _ rfl⟩
        · by_cases hk10 : k = 10
          · exact ⟨_, line_10 k node n ta turn sb err by_ num h0 h1 g0 g1 he hk10 _ rfl _ rfl, rline_10 k node n ta turn sb err by_ num h0 h1 g0 g1 he hk10 _ rfl _ rfl⟩
          · exact ⟨_, line_none k node n ta turn sb err by_ num h0 h1 he hk1 hk3 hk4 hk10 _ rfl, rline_none k node n ta turn sb err by_ num h0 h1 he hk1 hk3 hk4 hk10 _ rfl⟩
  · exact ⟨_, line_err k node n ta turn sb err by_ num h0 h1 he _ rfl, rline_err k node n ta turn sb err by_ num h0 h1 he _ rfl⟩
set_option maxHeartbeats 4000000 in
theorem lines_ok (k node n ta turn : Int) (sb : ByteArray) (err : Int) (by_ : ByteArray) (num : Int) (h0 : -9223372036854775808 ≤ node) (h1 : node ≤ 9223372036854775807) (g0 : -9223372036854775808 ≤ num) (g1 : num ≤ 9223372036854775807) :
    CSem Tryz.prog (.fn 3) [.agg (stepC k node n ta turn sb), .agg (ansC err by_ num)] (.pure [aB true]) := by
  refine of_text gam_ok mixed { n := 29, keep := [5] } Tryz.func3 (by kernel_rfl) rfl rfl (by simp) (by decide) fun F C D hF hC hD => ?_
  have haw := hC _ _ _ awake_ok
  have tn : F .bnot true = false := by rw [bnotF hF]; rfl
  obtain ⟨m, hm⟩ : ∃ m : Int, F .slen by_ = m := ⟨_, rfl⟩
  have em : m = (by_.size : Int) := by rw [← hm, slenF hF]
  have tg : F .cmp .gtr m 3000 = decide (m > 3000) := gtF hF m 3000
  by_cases hb : by_.size ≤ 3000
  · have tg : F .cmp .gtr m 3000 = false := by rw [tg]; exact decide_eq_false (by omega)
    obtain ⟨r, hr1, hr2⟩ := both_ok k node n ta turn sb err by_ num hb h0 h1 g0 g1
    have hl := hC _ _ _ hr1
    have hrl := hC _ _ _ hr2
    have te : F .scmp .eql r r = true := by rw [seqF hF]; exact decide_eq_true rfl
    clear hr1 hr2 em hb
    cbv
    refine ⟨_, haw, ?_⟩
    cbv
    refine cF (tn) ?_
    cbv
    rw [hm]
    refine bF (tg) ?_
    cbv
    refine ⟨hC _ _ _ (ben_ok (by kernel_rfl)), ?_⟩
    cbv
    refine ⟨_, hl, ?_⟩
    cbv
    refine ⟨_, hrl, ?_⟩
    cbv
    rw [te]
    simp
  · have tg : F .cmp .gtr m 3000 = true := by rw [tg]; exact decide_eq_true (by omega)
    clear em hb
    cbv
    refine ⟨_, haw, ?_⟩
    cbv
    refine cF (tn) ?_
    cbv
    rw [hm]
    refine bT (tg) ?_
    cbv
    refine ⟨_, haw, ?_⟩
    cbv
    simp
end Go.Proofs.YthepmpfkkhckpaaGreatDoor
