import Derived.Test.YtfphhpabfeepmaaDoorU8
import Derived.Test.YtfphhpabfeepmaaDoorU4
set_option linter.unusedSimpArgs false
set_option linter.unusedVariables false
namespace Go.Proofs.YtfphhpabfeepmaaDoor
open Go Go.RowKit Am

/-! ### One argument taken (the number's contract is handed in) -/
abbrev CO (a b c d : ByteArray) (e f : Int) : Obs := [(0, .box 61 [aS a, aS b, aS c, aS d, aI e, aI f] false)]
theorem takes_n (a b c' d : ByteArray) (e f : Int) (c : Int) (hc : c = 110) (s : ByteArray) (v : Int) (hnum : CSem Tryd.prog (.fn 67) [aS s] (.pure [aI v, aB true])) :
    CSem Tryd.prog (.wr 50 (CO a b c' d e f) (CO a b c' d v f)) [.ptr 0 0, aU c, aS s] (.pure [aI 0]) := by
  refine of_textW gam_ok mixed { n := 53 } Tryd.func50 (by kernel_rfl) rfl rfl (by simp) (by decide) rfl fun F C D hF hC hD => ?_
  have i110 : F .cmp .eql c 110 = decide (c = 110) := eqF hF c 110
  have i109 : F .cmp .eql c 109 = decide (c = 109) := eqF hF c 109
  have i107 : F .cmp .eql c 107 = decide (c = 107) := eqF hF c 107
  have i102 : F .cmp .eql c 102 = decide (c = 102) := eqF hF c 102
  have i118 : F .cmp .eql c 118 = decide (c = 118) := eqF hF c 118
  have i110 : F .cmp .eql c 110 = true := by rw [i110]; exact decide_eq_true hc
  have i109 : F .cmp .eql c 109 = false := by rw [i109]; exact decide_eq_false (by omega)
  have i107 : F .cmp .eql c 107 = false := by rw [i107]; exact decide_eq_false (by omega)
  have i102 : F .cmp .eql c 102 = false := by rw [i102]; exact decide_eq_false (by omega)
  have i118 : F .cmp .eql c 118 = false := by rw [i118]; exact decide_eq_false (by omega)
  have hn := hC _ _ _ hnum
  have t2 : F .bnot true = false := by rw [bnotF hF]; rfl
  cbv
  refine bT (i110) ?_
  cbv
  refine ⟨_, hn, ?_⟩
  cbv
  refine bF (t2) ?_
  cbv
  refine bT (i110) ?_
  cbv
  simp
theorem takes_nx (a b c' d : ByteArray) (e f : Int) (c : Int) (hc : c = 110) (s : ByteArray) (v : Int) (hnum : CSem Tryd.prog (.fn 67) [aS s] (.pure [aI v, aB false])) :
    CSem Tryd.prog (.wr 50 (CO a b c' d e f) (CO a b c' d e f)) [.ptr 0 0, aU c, aS s] (.pure [aI 13]) := by
  refine of_textW gam_ok mixed { n := 53 } Tryd.func50 (by kernel_rfl) rfl rfl (by simp) (by decide) rfl fun F C D hF hC hD => ?_
  have i110 : F .cmp .eql c 110 = decide (c = 110) := eqF hF c 110
  have i109 : F .cmp .eql c 109 = decide (c = 109) := eqF hF c 109
  have i107 : F .cmp .eql c 107 = decide (c = 107) := eqF hF c 107
  have i102 : F .cmp .eql c 102 = decide (c = 102) := eqF hF c 102
  have i118 : F .cmp .eql c 118 = decide (c = 118) := eqF hF c 118
  have i110 : F .cmp .eql c 110 = true := by rw [i110]; exact decide_eq_true hc
  have i109 : F .cmp .eql c 109 = false := by rw [i109]; exact decide_eq_false (by omega)
  have i107 : F .cmp .eql c 107 = false := by rw [i107]; exact decide_eq_false (by omega)
  have i102 : F .cmp .eql c 102 = false := by rw [i102]; exact decide_eq_false (by omega)
  have i118 : F .cmp .eql c 118 = false := by rw [i118]; exact decide_eq_false (by omega)
  have hn := hC _ _ _ hnum
  have t2 : F .bnot false = true := by rw [bnotF hF]; rfl
  cbv
  refine bT (i110) ?_
  cbv
  refine ⟨_, hn, ?_⟩
  cbv
  refine bT (t2) ?_
  cbv
  simp
theorem takes_m (a b c' d : ByteArray) (e f : Int) (c : Int) (hc : c = 109) (s : ByteArray) (v : Int) (hnum : CSem Tryd.prog (.fn 67) [aS s] (.pure [aI v, aB true])) :
    CSem Tryd.prog (.wr 50 (CO a b c' d e f) (CO a b c' d e v)) [.ptr 0 0, aU c, aS s] (.pure [aI 0]) := by
  refine of_textW gam_ok mixed { n := 53 } Tryd.func50 (by kernel_rfl) rfl rfl (by simp) (by decide) rfl fun F C D hF hC hD => ?_
  have i110 : F .cmp .eql c 110 = decide (c = 110) := eqF hF c 110
  have i109 : F .cmp .eql c 109 = decide (c = 109) := eqF hF c 109
  have i107 : F .cmp .eql c 107 = decide (c = 107) := eqF hF c 107
  have i102 : F .cmp .eql c 102 = decide (c = 102) := eqF hF c 102
  have i118 : F .cmp .eql c 118 = decide (c = 118) := eqF hF c 118
  have i110 : F .cmp .eql c 110 = false := by rw [i110]; exact decide_eq_false (by omega)
  have i109 : F .cmp .eql c 109 = true := by rw [i109]; exact decide_eq_true hc
  have i107 : F .cmp .eql c 107 = false := by rw [i107]; exact decide_eq_false (by omega)
  have i102 : F .cmp .eql c 102 = false := by rw [i102]; exact decide_eq_false (by omega)
  have i118 : F .cmp .eql c 118 = false := by rw [i118]; exact decide_eq_false (by omega)
  have hn := hC _ _ _ hnum
  have t2 : F .bnot true = false := by rw [bnotF hF]; rfl
  cbv
  refine bF (i110) ?_
  cbv
  refine bT (i109) ?_
  cbv
  refine ⟨_, hn, ?_⟩
  cbv
  refine bF (t2) ?_
  cbv
  refine bF (i110) ?_
  cbv
  simp
theorem takes_mx (a b c' d : ByteArray) (e f : Int) (c : Int) (hc : c = 109) (s : ByteArray) (v : Int) (hnum : CSem Tryd.prog (.fn 67) [aS s] (.pure [aI v, aB false])) :
    CSem Tryd.prog (.wr 50 (CO a b c' d e f) (CO a b c' d e f)) [.ptr 0 0, aU c, aS s] (.pure [aI 13]) := by
  refine of_textW gam_ok mixed { n := 53 } Tryd.func50 (by kernel_rfl) rfl rfl (by simp) (by decide) rfl fun F C D hF hC hD => ?_
  have i110 : F .cmp .eql c 110 = decide (c = 110) := eqF hF c 110
  have i109 : F .cmp .eql c 109 = decide (c = 109) := eqF hF c 109
  have i107 : F .cmp .eql c 107 = decide (c = 107) := eqF hF c 107
  have i102 : F .cmp .eql c 102 = decide (c = 102) := eqF hF c 102
  have i118 : F .cmp .eql c 118 = decide (c = 118) := eqF hF c 118
  have i110 : F .cmp .eql c 110 = false := by rw [i110]; exact decide_eq_false (by omega)
  have i109 : F .cmp .eql c 109 = true := by rw [i109]; exact decide_eq_true hc
  have i107 : F .cmp .eql c 107 = false := by rw [i107]; exact decide_eq_false (by omega)
  have i102 : F .cmp .eql c 102 = false := by rw [i102]; exact decide_eq_false (by omega)
  have i118 : F .cmp .eql c 118 = false := by rw [i118]; exact decide_eq_false (by omega)
  have hn := hC _ _ _ hnum
  have t2 : F .bnot false = true := by rw [bnotF hF]; rfl
  cbv
  refine bF (i110) ?_
  cbv
  refine bT (i109) ?_
  cbv
  refine ⟨_, hn, ?_⟩
  cbv
  refine bT (t2) ?_
  cbv
  simp
theorem takes_k0 (a b c' d : ByteArray) (e f : Int) (c : Int) (hc : c = 107) (s : ByteArray) (hs : L s = []) :
    CSem Tryd.prog (.wr 50 (CO a b c' d e f) (CO a b c' d e f)) [.ptr 0 0, aU c, aS s] (.pure [aI 1]) := by
  refine of_textW gam_ok mixed { n := 53 } Tryd.func50 (by kernel_rfl) rfl rfl (by simp) (by decide) rfl fun F C D hF hC hD => ?_
  have i110 : F .cmp .eql c 110 = decide (c = 110) := eqF hF c 110
  have i109 : F .cmp .eql c 109 = decide (c = 109) := eqF hF c 109
  have i107 : F .cmp .eql c 107 = decide (c = 107) := eqF hF c 107
  have i102 : F .cmp .eql c 102 = decide (c = 102) := eqF hF c 102
  have i118 : F .cmp .eql c 118 = decide (c = 118) := eqF hF c 118
  have i110 : F .cmp .eql c 110 = false := by rw [i110]; exact decide_eq_false (by omega)
  have i109 : F .cmp .eql c 109 = false := by rw [i109]; exact decide_eq_false (by omega)
  have i107 : F .cmp .eql c 107 = true := by rw [i107]; exact decide_eq_true hc
  have i102 : F .cmp .eql c 102 = false := by rw [i102]; exact decide_eq_false (by omega)
  have i118 : F .cmp .eql c 118 = false := by rw [i118]; exact decide_eq_false (by omega)
  have t2 : F .scmp .eql s (BA []) = true := by rw [empF hF s (L s) rfl]; exact decide_eq_true hs
  unfold BA at t2
  cbv
  refine bF (i110) ?_
  cbv
  refine bF (i109) ?_
  cbv
  refine bT (i107) ?_
  cbv
  refine bT (t2) ?_
  cbv
  simp
theorem takes_k (a b c' d : ByteArray) (e f : Int) (c : Int) (hc : c = 107) (s : ByteArray) (hs : L s ≠ []) (q : Int) (hq : q = if 64 < s.size then 4 else 0) :
    CSem Tryd.prog (.wr 50 (CO a b c' d e f) (CO a s c' d e f)) [.ptr 0 0, aU c, aS s] (.pure [aI q]) := by
  refine of_textW gam_ok mixed { n := 53 } Tryd.func50 (by kernel_rfl) rfl rfl (by simp) (by decide) rfl fun F C D hF hC hD => ?_
  have i110 : F .cmp .eql c 110 = decide (c = 110) := eqF hF c 110
  have i109 : F .cmp .eql c 109 = decide (c = 109) := eqF hF c 109
  have i107 : F .cmp .eql c 107 = decide (c = 107) := eqF hF c 107
  have i102 : F .cmp .eql c 102 = decide (c = 102) := eqF hF c 102
  have i118 : F .cmp .eql c 118 = decide (c = 118) := eqF hF c 118
  have i110 : F .cmp .eql c 110 = false := by rw [i110]; exact decide_eq_false (by omega)
  have i109 : F .cmp .eql c 109 = false := by rw [i109]; exact decide_eq_false (by omega)
  have i107 : F .cmp .eql c 107 = true := by rw [i107]; exact decide_eq_true hc
  have i102 : F .cmp .eql c 102 = false := by rw [i102]; exact decide_eq_false (by omega)
  have i118 : F .cmp .eql c 118 = false := by rw [i118]; exact decide_eq_false (by omega)
  have w : F .cmp .gtr (F .slen s) 64 = decide (64 < s.size) := by rw [slenF hF, gtF hF]; congr 1; exact propext ⟨fun h => by omega, fun h => by omega⟩
  have t2 : F .scmp .eql s (BA []) = false := by rw [empF hF s (L s) rfl]; exact decide_eq_false hs
  unfold BA at t2
  by_cases h64 : 64 < s.size
  · have w : F .cmp .gtr (F .slen s) 64 = true := by rw [w]; exact decide_eq_true h64
    rw [if_pos h64] at hq
    subst hq
    cbv
    refine bF (i110) ?_
    cbv
    refine bF (i109) ?_
    cbv
    refine bT (i107) ?_
    cbv
    refine bF (t2) ?_
    cbv
    refine bT (w) ?_
    cbv
    simp
  · have w : F .cmp .gtr (F .slen s) 64 = false := by rw [w]; exact decide_eq_false h64
    rw [if_neg h64] at hq
    subst hq
    cbv
    refine bF (i110) ?_
    cbv
    refine bF (i109) ?_
    cbv
    refine bT (i107) ?_
    cbv
    refine bF (t2) ?_
    cbv
    refine bF (w) ?_
    cbv
    simp
theorem takes_f (a b c' d : ByteArray) (e f : Int) (c : Int) (hc : c = 102) (s : ByteArray) (q : Int) (hq : q = if 64 < s.size then 4 else 0) :
    CSem Tryd.prog (.wr 50 (CO a b c' d e f) (CO a b s d e f)) [.ptr 0 0, aU c, aS s] (.pure [aI q]) := by
  refine of_textW gam_ok mixed { n := 53 } Tryd.func50 (by kernel_rfl) rfl rfl (by simp) (by decide) rfl fun F C D hF hC hD => ?_
  have i110 : F .cmp .eql c 110 = decide (c = 110) := eqF hF c 110
  have i109 : F .cmp .eql c 109 = decide (c = 109) := eqF hF c 109
  have i107 : F .cmp .eql c 107 = decide (c = 107) := eqF hF c 107
  have i102 : F .cmp .eql c 102 = decide (c = 102) := eqF hF c 102
  have i118 : F .cmp .eql c 118 = decide (c = 118) := eqF hF c 118
  have i110 : F .cmp .eql c 110 = false := by rw [i110]; exact decide_eq_false (by omega)
  have i109 : F .cmp .eql c 109 = false := by rw [i109]; exact decide_eq_false (by omega)
  have i107 : F .cmp .eql c 107 = false := by rw [i107]; exact decide_eq_false (by omega)
  have i102 : F .cmp .eql c 102 = true := by rw [i102]; exact decide_eq_true hc
  have i118 : F .cmp .eql c 118 = false := by rw [i118]; exact decide_eq_false (by omega)
  have w : F .cmp .gtr (F .slen s) 64 = decide (64 < s.size) := by rw [slenF hF, gtF hF]; congr 1; exact propext ⟨fun h => by omega, fun h => by omega⟩
  by_cases h64 : 64 < s.size
  · have w : F .cmp .gtr (F .slen s) 64 = true := by rw [w]; exact decide_eq_true h64
    rw [if_pos h64] at hq
    subst hq
    cbv
    refine bF (i110) ?_
    cbv
    refine bF (i109) ?_
    cbv
    refine bF (i107) ?_
    cbv
    refine bT (i102) ?_
    cbv
    refine bT (w) ?_
    cbv
    simp
  · have w : F .cmp .gtr (F .slen s) 64 = false := by rw [w]; exact decide_eq_false h64
    rw [if_neg h64] at hq
    subst hq
    cbv
    refine bF (i110) ?_
    cbv
    refine bF (i109) ?_
    cbv
    refine bF (i107) ?_
    cbv
    refine bT (i102) ?_
    cbv
    refine bF (w) ?_
    cbv
    simp
theorem takes_v (a b c' d : ByteArray) (e f : Int) (c : Int) (hc : c = 118) (s : ByteArray) (q : Int) (hq : q = if 64 < s.size then 4 else 0) :
    CSem Tryd.prog (.wr 50 (CO a b c' d e f) (CO a b c' s e f)) [.ptr 0 0, aU c, aS s] (.pure [aI q]) := by
  refine of_textW gam_ok mixed { n := 53 } Tryd.func50 (by kernel_rfl) rfl rfl (by simp) (by decide) rfl fun F C D hF hC hD => ?_
  have i110 : F .cmp .eql c 110 = decide (c = 110) := eqF hF c 110
  have i109 : F .cmp .eql c 109 = decide (c = 109) := eqF hF c 109
  have i107 : F .cmp .eql c 107 = decide (c = 107) := eqF hF c 107
  have i102 : F .cmp .eql c 102 = decide (c = 102) := eqF hF c 102
  have i118 : F .cmp .eql c 118 = decide (c = 118) := eqF hF c 118
  have i110 : F .cmp .eql c 110 = false := by rw [i110]; exact decide_eq_false (by omega)
  have i109 : F .cmp .eql c 109 = false := by rw [i109]; exact decide_eq_false (by omega)
  have i107 : F .cmp .eql c 107 = false := by rw [i107]; exact decide_eq_false (by omega)
  have i102 : F .cmp .eql c 102 = false := by rw [i102]; exact decide_eq_false (by omega)
  have i118 : F .cmp .eql c 118 = true := by rw [i118]; exact decide_eq_true hc
  have w : F .cmp .gtr (F .slen s) 64 = decide (64 < s.size) := by rw [slenF hF, gtF hF]; congr 1; exact propext ⟨fun h => by omega, fun h => by omega⟩
  by_cases h64 : 64 < s.size
  · have w : F .cmp .gtr (F .slen s) 64 = true := by rw [w]; exact decide_eq_true h64
    rw [if_pos h64] at hq
    subst hq
    cbv
    refine bF (i110) ?_
    cbv
    refine bF (i109) ?_
    cbv
    refine bF (i107) ?_
    cbv
    refine bF (i102) ?_
    cbv
    refine bT (i118) ?_
    cbv
    refine bT (w) ?_
    cbv
    simp
  · have w : F .cmp .gtr (F .slen s) 64 = false := by rw [w]; exact decide_eq_false h64
    rw [if_neg h64] at hq
    subst hq
    cbv
    refine bF (i110) ?_
    cbv
    refine bF (i109) ?_
    cbv
    refine bF (i107) ?_
    cbv
    refine bF (i102) ?_
    cbv
    refine bT (i118) ?_
    cbv
    refine bF (w) ?_
    cbv
    simp
theorem takes_o (a b c' d : ByteArray) (e f : Int) (c : Int) (hc : c ≠ 110 ∧ c ≠ 109 ∧ c ≠ 107 ∧ c ≠ 102 ∧ c ≠ 118) (s : ByteArray) (q : Int) (hq : q = if 64 < s.size then 4 else 0) :
    CSem Tryd.prog (.wr 50 (CO a b c' d e f) (CO a b c' d e f)) [.ptr 0 0, aU c, aS s] (.pure [aI q]) := by
  refine of_textW gam_ok mixed { n := 53 } Tryd.func50 (by kernel_rfl) rfl rfl (by simp) (by decide) rfl fun F C D hF hC hD => ?_
  have i110 : F .cmp .eql c 110 = decide (c = 110) := eqF hF c 110
  have i109 : F .cmp .eql c 109 = decide (c = 109) := eqF hF c 109
  have i107 : F .cmp .eql c 107 = decide (c = 107) := eqF hF c 107
  have i102 : F .cmp .eql c 102 = decide (c = 102) := eqF hF c 102
  have i118 : F .cmp .eql c 118 = decide (c = 118) := eqF hF c 118
  have i110 : F .cmp .eql c 110 = false := by rw [i110]; exact decide_eq_false (by omega)
  have i109 : F .cmp .eql c 109 = false := by rw [i109]; exact decide_eq_false (by omega)
  have i107 : F .cmp .eql c 107 = false := by rw [i107]; exact decide_eq_false (by omega)
  have i102 : F .cmp .eql c 102 = false := by rw [i102]; exact decide_eq_false (by omega)
  have i118 : F .cmp .eql c 118 = false := by rw [i118]; exact decide_eq_false (by omega)
  have w : F .cmp .gtr (F .slen s) 64 = decide (64 < s.size) := by rw [slenF hF, gtF hF]; congr 1; exact propext ⟨fun h => by omega, fun h => by omega⟩
  by_cases h64 : 64 < s.size
  · have w : F .cmp .gtr (F .slen s) 64 = true := by rw [w]; exact decide_eq_true h64
    rw [if_pos h64] at hq
    subst hq
    cbv
    refine bF (i110) ?_
    cbv
    refine bF (i109) ?_
    cbv
    refine bF (i107) ?_
    cbv
    refine bF (i102) ?_
    cbv
    refine bF (i118) ?_
    cbv
    refine bT (w) ?_
    cbv
    simp
  · have w : F .cmp .gtr (F .slen s) 64 = false := by rw [w]; exact decide_eq_false h64
    rw [if_neg h64] at hq
    subst hq
    cbv
    refine bF (i110) ?_
    cbv
    refine bF (i109) ?_
    cbv
    refine bF (i107) ?_
    cbv
    refine bF (i102) ?_
    cbv
    refine bF (i118) ?_
    cbv
    refine bF (w) ?_
    cbv
    simp
end Go.Proofs.YtfphhpabfeepmaaDoor
