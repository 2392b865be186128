import Derived.Test.YtdmdahnnfancpaaC1
set_option linter.unusedSimpArgs false
set_option linter.unusedVariables false
namespace Go.Proofs.Ytdmdahnnfancpaa
open Go Go.RowKit Am

/-! ### Spans -/
def I64 (x : Int) : Prop := -9223372036854775808 ≤ x ∧ x ≤ 9223372036854775807
def mxI (a b : Int) : Int := if b > a then b else a
def mnI (a b : Int) : Int := if b < a then b else a
theorem mxF {F : Sy} (hF : F = sy) (a b : Int) : F .mx a b = mxI a b := by rw [hF]; rfl
theorem mnF {F : Sy} (hF : F = sy) (a b : Int) : F .mn a b = mnI a b := by rw [hF]; rfl
def offS (x m : Int) : Int := if x < 0 then x + m else x
def spanS (many a b : Int) : Int × Int :=
  if mxI (offS a (mxI many 0)) 0 > mnI (offS b (mxI many 0)) (mxI many 0 - 1) then (0, 0) else (mxI (offS a (mxI many 0)) 0, mnI (offS b (mxI many 0)) (mxI many 0 - 1) + 1)
theorem span_in (many a b : Int) : 0 ≤ (spanS many a b).1 ∧ (spanS many a b).1 ≤ (spanS many a b).2 ∧ (spanS many a b).2 ≤ mxI many 0 := by
  have h0 : 0 ≤ mxI many 0 := by unfold mxI; split <;> omega
  have h1 : 0 ≤ mxI (offS a (mxI many 0)) 0 := by unfold mxI; split <;> omega
  have h2 : mnI (offS b (mxI many 0)) (mxI many 0 - 1) ≤ mxI many 0 - 1 := by unfold mnI; split <;> omega
  unfold spanS
  split
  · exact ⟨Int.le_refl _, Int.le_refl _, h0⟩
  · exact ⟨h1, by show mxI _ _ ≤ mnI _ _ + 1; omega, by show mnI _ _ + 1 ≤ _; omega⟩
theorem addI {F : Sy} (hF : F = sy) {x y : Int} (h : I64 (x + y)) : F .ar .add .i64 x y = x + y := by rw [hF]; exact wrap_in h.1 h.2
theorem subI {F : Sy} (hF : F = sy) {x y : Int} (h : I64 (x - y)) : F .ar .sub .i64 x y = x - y := by rw [hF]; exact wrap_in h.1 h.2
theorem span_ok (many a b : Int) (hr1 : I64 many) (hr2 : I64 a) (hr3 : I64 b) (x y : Int) (hx : x = (spanS many a b).1) (hy : y = (spanS many a b).2) : CSem Try.prog (.fn 13) [aI many, aI a, aI b] (.pure [aI x, aI y]) := by
  refine of_text gam_ok mixed { n := 32 } Try.func13 (by kernel_rfl) rfl rfl (by simp) (by decide) fun F C D hF hC hD => ?_
  obtain ⟨m, hm⟩ : ∃ m, F .mx many 0 = m := ⟨_, rfl⟩
  have em : m = mxI many 0 := by rw [← hm, mxF hF]
  have hm0 : 0 ≤ m ∧ I64 m := by rw [em]; unfold mxI; unfold I64 at *; split <;> omega
  have t1 : F .cmp .lss a 0 = decide (a < 0) := lsF hF a 0
  have t2 : F .cmp .lss b 0 = decide (b < 0) := lsF hF b 0
  obtain ⟨a1, ha1⟩ : ∃ x, F .ar .add .i64 a m = x := ⟨_, rfl⟩
  obtain ⟨b1, hb1⟩ : ∃ x, F .ar .add .i64 b m = x := ⟨_, rfl⟩
  have ea1 : a < 0 → a1 = a + m := fun h => by rw [← ha1]; exact addI hF (by unfold I64 at *; omega)
  have eb1 : b < 0 → b1 = b + m := fun h => by rw [← hb1]; exact addI hF (by unfold I64 at *; omega)
  obtain ⟨a2, ha2⟩ : ∃ x, x = offS a m := ⟨_, rfl⟩
  obtain ⟨b2, hb2⟩ : ∃ x, x = offS b m := ⟨_, rfl⟩
  have hb2i : I64 b2 := by rw [hb2]; unfold offS; unfold I64 at *; split <;> omega
  obtain ⟨m1, hm1⟩ : ∃ x, F .ar .sub .i64 m 1 = x := ⟨_, rfl⟩
  have em1 : m1 = m - 1 := by rw [← hm1]; exact subI hF (by unfold I64 at *; omega)
  obtain ⟨a3, ha3⟩ : ∃ x, F .mx a2 0 = x := ⟨_, rfl⟩
  obtain ⟨b3, hb3⟩ : ∃ x, F .mn b2 m1 = x := ⟨_, rfl⟩
  have ea3 : a3 = mxI a2 0 := by rw [← ha3, mxF hF]
  have eb3 : b3 = mnI b2 (m - 1) := by rw [← hb3, mnF hF, em1]
  obtain ⟨b4, hb4⟩ : ∃ x, F .ar .add .i64 b3 1 = x := ⟨_, rfl⟩
  have eb4 : b4 = b3 + 1 := by rw [← hb4]; exact addI hF (by rw [eb3]; unfold mnI; unfold I64 at *; split <;> omega)
  have t3 : F .cmp .gtr a3 b3 = decide (a3 > b3) := gtF hF a3 b3
  have hx : x = if a3 > b3 then 0 else a3 := by rw [hx]; unfold spanS; rw [← em, ← ha2, ← hb2, ← ea3, ← eb3]; split <;> rfl
  have hy : y = if a3 > b3 then 0 else b4 := by rw [hy]; unfold spanS; rw [← em, ← ha2, ← hb2, ← ea3, ← eb3]; split <;> first | rfl | exact eb4.symm
  by_cases h1 : a < 0
  · have t1 : F .cmp .lss a 0 = true := by rw [t1]; exact decide_eq_true h1
    have e1 : a1 = a2 := by rw [ea1 h1, ha2]; unfold offS; rw [if_pos h1]
    by_cases h2 : b < 0
    · have t2 : F .cmp .lss b 0 = true := by rw [t2]; exact decide_eq_true h2
      have e2 : b1 = b2 := by rw [eb1 h2, hb2]; unfold offS; rw [if_pos h2]
      rw [e1] at ha1
      rw [e2] at hb1
      clear em hm0 ea1 eb1 ha2 hb2 hb2i em1 ea3 eb3 eb4 e1 e2 hr1 hr2 hr3
      cbv
      rw [hm]
      refine bT (t1) ?_
      cbv
      rw [ha1]
      refine bT (t2) ?_
      cbv
      rw [hb1]
      rw [ha3, hm1, hb3]
      by_cases h3 : a3 > b3
      · have t3 : F .cmp .gtr a3 b3 = true := by rw [t3]; exact decide_eq_true h3
        rw [if_pos h3] at hx hy
        subst hx hy
        refine bT (t3) ?_
        cbv
        simp
      · have t3 : F .cmp .gtr a3 b3 = false := by rw [t3]; exact decide_eq_false h3
        rw [if_neg h3] at hx hy
        subst hx hy
        refine bF (t3) ?_
        cbv
        rw [hb4]
        simp
    · have t2 : F .cmp .lss b 0 = false := by rw [t2]; exact decide_eq_false h2
      have e2 : b = b2 := by rw [hb2]; unfold offS; rw [if_neg h2]
      rw [e1] at ha1
      subst e2
      clear em hm0 ea1 eb1 ha2 hb2 hb2i em1 ea3 eb3 eb4 e1 hr1 hr2 hr3
      cbv
      rw [hm]
      refine bT (t1) ?_
      cbv
      rw [ha1]
      refine bF (t2) ?_
      cbv
      rw [ha3, hm1, hb3]
      by_cases h3 : a3 > b3
      · have t3 : F .cmp .gtr a3 b3 = true := by rw [t3]; exact decide_eq_true h3
        rw [if_pos h3] at hx hy
        subst hx hy
        refine bT (t3) ?_
        cbv
        simp
      · have t3 : F .cmp .gtr a3 b3 = false := by rw [t3]; exact decide_eq_false h3
        rw [if_neg h3] at hx hy
        subst hx hy
        refine bF (t3) ?_
        cbv
        rw [hb4]
        simp
  · have t1 : F .cmp .lss a 0 = false := by rw [t1]; exact decide_eq_false h1
    have e1 : a = a2 := by rw [ha2]; unfold offS; rw [if_neg h1]
    subst e1
    by_cases h2 : b < 0
    · have t2 : F .cmp .lss b 0 = true := by rw [t2]; exact decide_eq_true h2
      have e2 : b1 = b2 := by rw [eb1 h2, hb2]; unfold offS; rw [if_pos h2]
      rw [e2] at hb1
      clear em hm0 ea1 eb1 ha2 hb2 hb2i em1 ea3 eb3 eb4 e2 hr1 hr2 hr3
      cbv
      rw [hm]
      refine bF (t1) ?_
      cbv
      refine bT (t2) ?_
      cbv
      rw [hb1]
      rw [ha3, hm1, hb3]
      by_cases h3 : a3 > b3
      · have t3 : F .cmp .gtr a3 b3 = true := by rw [t3]; exact decide_eq_true h3
        rw [if_pos h3] at hx hy
        subst hx hy
        refine bT (t3) ?_
        cbv
        simp
      · have t3 : F .cmp .gtr a3 b3 = false := by rw [t3]; exact decide_eq_false h3
        rw [if_neg h3] at hx hy
        subst hx hy
        refine bF (t3) ?_
        cbv
        rw [hb4]
        simp
    · have t2 : F .cmp .lss b 0 = false := by rw [t2]; exact decide_eq_false h2
      have e2 : b = b2 := by rw [hb2]; unfold offS; rw [if_neg h2]
      subst e2
      clear em hm0 ea1 eb1 ha2 hb2 hb2i em1 ea3 eb3 eb4 hr1 hr2 hr3
      cbv
      rw [hm]
      refine bF (t1) ?_
      cbv
      refine bF (t2) ?_
      cbv
      rw [ha3, hm1, hb3]
      by_cases h3 : a3 > b3
      · have t3 : F .cmp .gtr a3 b3 = true := by rw [t3]; exact decide_eq_true h3
        rw [if_pos h3] at hx hy
        subst hx hy
        refine bT (t3) ?_
        cbv
        simp
      · have t3 : F .cmp .gtr a3 b3 = false := by rw [t3]; exact decide_eq_false h3
        rw [if_neg h3] at hx hy
        subst hx hy
        refine bF (t3) ?_
        cbv
        rw [hb4]
        simp
theorem rspan_ok (many a b : Int) (hr1 : I64 many) (hr2 : I64 a) (hr3 : I64 b) (x y : Int) (hx : x = (spanS many a b).1) (hy : y = (spanS many a b).2) : CSem Try.prog (.fn 14) [aI many, aI a, aI b] (.pure [aI x, aI y]) := by
  refine of_text gam_ok mixed { n := 32 } Try.func14 (by kernel_rfl) rfl rfl (by simp) (by decide) fun F C D hF hC hD => ?_
  obtain ⟨m, hm⟩ : ∃ m, F .mx many 0 = m := ⟨_, rfl⟩
  have em : m = mxI many 0 := by rw [← hm, mxF hF]
  have hm0 : 0 ≤ m ∧ I64 m := by rw [em]; unfold mxI; unfold I64 at *; split <;> omega
  have t1 : F .cmp .lss a 0 = decide (a < 0) := lsF hF a 0
  have t2 : F .cmp .lss b 0 = decide (b < 0) := lsF hF b 0
  obtain ⟨a1, ha1⟩ : ∃ x, F .ar .add .i64 a m = x := ⟨_, rfl⟩
  obtain ⟨b1, hb1⟩ : ∃ x, F .ar .add .i64 b m = x := ⟨_, rfl⟩
  have ea1 : a < 0 → a1 = a + m := fun h => by rw [← ha1]; exact addI hF (by unfold I64 at *; omega)
  have eb1 : b < 0 → b1 = b + m := fun h => by rw [← hb1]; exact addI hF (by unfold I64 at *; omega)
  obtain ⟨a2, ha2⟩ : ∃ x, x = offS a m := ⟨_, rfl⟩
  obtain ⟨b2, hb2⟩ : ∃ x, x = offS b m := ⟨_, rfl⟩
  have hb2i : I64 b2 := by rw [hb2]; unfold offS; unfold I64 at *; split <;> omega
  obtain ⟨m1, hm1⟩ : ∃ x, F .ar .sub .i64 m 1 = x := ⟨_, rfl⟩
  have em1 : m1 = m - 1 := by rw [← hm1]; exact subI hF (by unfold I64 at *; omega)
  obtain ⟨a3, ha3⟩ : ∃ x, F .mx a2 0 = x := ⟨_, rfl⟩
  obtain ⟨b3, hb3⟩ : ∃ x, F .mn b2 m1 = x := ⟨_, rfl⟩
  have ea3 : a3 = mxI a2 0 := by rw [← ha3, mxF hF]
  have eb3 : b3 = mnI b2 (m - 1) := by rw [← hb3, mnF hF, em1]
  obtain ⟨b4, hb4⟩ : ∃ x, F .ar .add .i64 b3 1 = x := ⟨_, rfl⟩
  have eb4 : b4 = b3 + 1 := by rw [← hb4]; exact addI hF (by rw [eb3]; unfold mnI; unfold I64 at *; split <;> omega)
  have t3 : F .cmp .gtr a3 b3 = decide (a3 > b3) := gtF hF a3 b3
  have hx : x = if a3 > b3 then 0 else a3 := by rw [hx]; unfold spanS; rw [← em, ← ha2, ← hb2, ← ea3, ← eb3]; split <;> rfl
  have hy : y = if a3 > b3 then 0 else b4 := by rw [hy]; unfold spanS; rw [← em, ← ha2, ← hb2, ← ea3, ← eb3]; split <;> first | rfl | exact eb4.symm
  by_cases h1 : a < 0
  · have t1 : F .cmp .lss a 0 = true := by rw [t1]; exact decide_eq_true h1
    have e1 : a1 = a2 := by rw [ea1 h1, ha2]; unfold offS; rw [if_pos h1]
    by_cases h2 : b < 0
    · have t2 : F .cmp .lss b 0 = true := by rw [t2]; exact decide_eq_true h2
      have e2 : b1 = b2 := by rw [eb1 h2, hb2]; unfold offS; rw [if_pos h2]
      rw [e1] at ha1
      rw [e2] at hb1
      clear em hm0 ea1 eb1 ha2 hb2 hb2i em1 ea3 eb3 eb4 e1 e2 hr1 hr2 hr3
      cbv
      rw [hm]
      refine bT (t1) ?_
      cbv
      rw [ha1]
      refine bT (t2) ?_
      cbv
      rw [hb1]
      rw [ha3, hm1, hb3]
      by_cases h3 : a3 > b3
      · have t3 : F .cmp .gtr a3 b3 = true := by rw [t3]; exact decide_eq_true h3
        rw [if_pos h3] at hx hy
        subst hx hy
        refine bT (t3) ?_
        cbv
        simp
      · have t3 : F .cmp .gtr a3 b3 = false := by rw [t3]; exact decide_eq_false h3
        rw [if_neg h3] at hx hy
        subst hx hy
        refine bF (t3) ?_
        cbv
        rw [hb4]
        simp
    · have t2 : F .cmp .lss b 0 = false := by rw [t2]; exact decide_eq_false h2
      have e2 : b = b2 := by rw [hb2]; unfold offS; rw [if_neg h2]
      rw [e1] at ha1
      subst e2
      clear em hm0 ea1 eb1 ha2 hb2 hb2i em1 ea3 eb3 eb4 e1 hr1 hr2 hr3
      cbv
      rw [hm]
      refine bT (t1) ?_
      cbv
      rw [ha1]
      refine bF (t2) ?_
      cbv
      rw [ha3, hm1, hb3]
      by_cases h3 : a3 > b3
      · have t3 : F .cmp .gtr a3 b3 = true := by rw [t3]; exact decide_eq_true h3
        rw [if_pos h3] at hx hy
        subst hx hy
        refine bT (t3) ?_
        cbv
        simp
      · have t3 : F .cmp .gtr a3 b3 = false := by rw [t3]; exact decide_eq_false h3
        rw [if_neg h3] at hx hy
        subst hx hy
        refine bF (t3) ?_
        cbv
        rw [hb4]
        simp
  · have t1 : F .cmp .lss a 0 = false := by rw [t1]; exact decide_eq_false h1
    have e1 : a = a2 := by rw [ha2]; unfold offS; rw [if_neg h1]
    subst e1
    by_cases h2 : b < 0
    · have t2 : F .cmp .lss b 0 = true := by rw [t2]; exact decide_eq_true h2
      have e2 : b1 = b2 := by rw [eb1 h2, hb2]; unfold offS; rw [if_pos h2]
      rw [e2] at hb1
      clear em hm0 ea1 eb1 ha2 hb2 hb2i em1 ea3 eb3 eb4 e2 hr1 hr2 hr3
      cbv
      rw [hm]
      refine bF (t1) ?_
      cbv
      refine bT (t2) ?_
      cbv
      rw [hb1]
      rw [ha3, hm1, hb3]
      by_cases h3 : a3 > b3
      · have t3 : F .cmp .gtr a3 b3 = true := by rw [t3]; exact decide_eq_true h3
        rw [if_pos h3] at hx hy
        subst hx hy
        refine bT (t3) ?_
        cbv
        simp
      · have t3 : F .cmp .gtr a3 b3 = false := by rw [t3]; exact decide_eq_false h3
        rw [if_neg h3] at hx hy
        subst hx hy
        refine bF (t3) ?_
        cbv
        rw [hb4]
        simp
    · have t2 : F .cmp .lss b 0 = false := by rw [t2]; exact decide_eq_false h2
      have e2 : b = b2 := by rw [hb2]; unfold offS; rw [if_neg h2]
      subst e2
      clear em hm0 ea1 eb1 ha2 hb2 hb2i em1 ea3 eb3 eb4 hr1 hr2 hr3
      cbv
      rw [hm]
      refine bF (t1) ?_
      cbv
      refine bF (t2) ?_
      cbv
      rw [ha3, hm1, hb3]
      by_cases h3 : a3 > b3
      · have t3 : F .cmp .gtr a3 b3 = true := by rw [t3]; exact decide_eq_true h3
        rw [if_pos h3] at hx hy
        subst hx hy
        refine bT (t3) ?_
        cbv
        simp
      · have t3 : F .cmp .gtr a3 b3 = false := by rw [t3]; exact decide_eq_false h3
        rw [if_neg h3] at hx hy
        subst hx hy
        refine bF (t3) ?_
        cbv
        rw [hb4]
        simp
end Go.Proofs.Ytdmdahnnfancpaa
