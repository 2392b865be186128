import Derived.Test.YthepmpfkkhckpaaGreatDoorK11
set_option linter.unusedSimpArgs false
set_option linter.unusedVariables false
namespace Go.Proofs.YthepmpfkkhckpaaGreatDoor
open Go Go.RowKit Am

/-! ### The reference's line -/
theorem ba_assoc (a b c : ByteArray) : (a ++ b) ++ c = a ++ (b ++ c) := L_inj (by rw [L_cat, L_cat, L_cat, L_cat, List.append_assoc])
theorem BA_inj' {a b : List UInt8} (h : BA a = BA b) : a = b := by rw [← L_BA a, ← L_BA b, h]
set_option maxHeartbeats 8000000 in
theorem rline_err (k node n ta turn : Int) (sb : ByteArray) (err : Int) (by_ : ByteArray) (num : Int) (h0 : -9223372036854775808 ≤ node) (h1 : node ≤ 9223372036854775807) (he : err ≠ 0)
    (o2 : ByteArray) (ho2 : o2 = line2 k node err) : CSem Tryz.prog (.fn 6) [.agg (stepC k node n ta turn sb), .agg (ansC err by_ num)] (.pure [aS o2]) := by
  refine of_text gam_ok mixed { n := 93, cuts := [7] } Tryz.func6 (by kernel_rfl) rfl rfl (by simp) (by decide) fun F C D hF hC hD => ?_
  obtain ⟨w1, hw1⟩ : ∃ w, w = wordB kW k := ⟨_, rfl⟩
  have hwd1 := hC _ _ _ (word13_ok kW (by decide) _ rfl k w1 hw1)
  obtain ⟨w2, hw2⟩ : ∃ w, w = wordB eW err := ⟨_, rfl⟩
  have hwd2 := hC _ _ _ (word13_ok eW (by decide) _ rfl err w2 hw2)
  obtain ⟨q1, hq1⟩ : ∃ q : Bool, q = decide (k < 4) := ⟨_, rfl⟩
  obtain ⟨q2, hq2⟩ : ∃ q : Bool, q = decide (k > 6) := ⟨_, rfl⟩
  have l4 : F .cmp .lss k 4 = q1 := by rw [hq1]; exact lsF hF k 4
  have g6 : F .cmp .gtr k 6 = q2 := by rw [hq2]; exact gtF hF k 6
  obtain ⟨d1, hd1⟩ : ∃ d, d = itoaB node := ⟨_, rfl⟩
  have hit1 := hC _ _ _ (digs_ok node h0 h1 d1 hd1)
  obtain ⟨o1, ho1⟩ : ∃ o, o = line1 k node := ⟨_, rfl⟩
  have z1 : w1.size ≤ 10 := by rw [hw1]; exact kW_size k
  have z2 : w2.size ≤ 10 := by rw [hw2]; exact eW_size err
  have z3 : d1.size ≤ 21 := by rw [hd1]; exact itoa_size node h0 h1
  have zo1 : o1.size ≤ 40 := by rw [ho1]; exact line1_size k node h0 h1
  have zo2 : o2.size ≤ 60 := by rw [ho2]; exact line2_size k node err h0 h1
  have zs : spc.size ≤ 1 := by decide
  obtain ⟨x1, hx1⟩ : ∃ x, F .cat w1 spc = x := ⟨_, rfl⟩
  have zx1 : x1.size ≤ 11 := by rw [← hx1, catA hF, ba_app]; omega
  obtain ⟨x2, hx2⟩ : ∃ x, F .cat o1 spc = x := ⟨_, rfl⟩
  have zx2 : x2.size ≤ 41 := by rw [← hx2, catA hF, ba_app]; omega
  have b1 := catO hF z1 zs (by decide)
  have b2 := catO hF zx1 z3 (by decide)
  have b3 := catO hF zo1 zs (by decide)
  have b4 := catO hF zx2 z2 (by decide)
  have e2 : F .cat x2 w2 = o2 := by rw [ho2, ← hx2, catA hF, catA hF, ho1, hw2, ba_assoc]; rfl
  have e1t : ¬ (q1 = true ∨ q2 = true) → w1 = o1 := fun h => by
    rw [hq1, hq2] at h
    rw [ho1, hw1]; unfold line1; rw [if_pos (by simp only [decide_eq_true_eq] at h; omega)]
  have e1f : (q1 = true ∨ q2 = true) → F .cat x1 d1 = o1 := fun h => by
    rw [hq1, hq2] at h
    rw [ho1, ← hx1, catA hF, catA hF, hw1, hd1, ba_assoc]; unfold line1; rw [if_neg (by simp only [decide_eq_true_eq] at h; omega)]
  clear hw1 hw2 hd1 ho1 z1 z2 z3 zo1 zx1 zx2 hq1 hq2 ho2
  have te : F .cmp .neq err 0 = true := by rw [neF hF]; exact decide_eq_true he
  clear he
  cases q1 with
  | true =>
    have e1 := e1f (.inl rfl)
    clear e1t e1f
    cbv
    refine ⟨_, hwd1, ?_⟩
    cbv
    refine cT (l4) ?_
    cbv
    refine ⟨b1, ?_⟩
    cbv
    rw [hx1]
    refine ⟨_, hit1, ?_⟩
    cbv
    refine ⟨b2, ?_⟩
    cbv
    rw [e1]
    refine ⟨b3, ?_⟩
    cbv
    rw [hx2]
    refine ⟨_, hwd2, ?_⟩
    cbv
    refine ⟨b4, ?_⟩
    cbv
    rw [e2]
    refine ⟨{ slots := [(7, aS o2), (3, .ept (ansC err by_ num) 0), (2, .ept (stepC k node n ta turn sb) 0)], obs := [], ctr := 0 }, (le_of [] (by simp [leSl, leOb, injK, memK, parK, noTup, lk, rn0, rnA, plain] <;> first | rfl | decide)), hD _ _ _ ?_⟩
    cbv
    refine bT (te) ?_
    cbv
    simp
  | false =>
    cases q2 with
    | true =>
      have e1 := e1f (.inr rfl)
      clear e1t e1f
      cbv
      refine ⟨_, hwd1, ?_⟩
      cbv
      refine cF (l4) ?_
      cbv
      rw [g6]
      refine bT (rfl) ?_
      cbv
      refine ⟨b1, ?_⟩
      cbv
      rw [hx1]
      refine ⟨_, hit1, ?_⟩
      cbv
      refine ⟨b2, ?_⟩
      cbv
      rw [e1]
      refine ⟨b3, ?_⟩
      cbv
      rw [hx2]
      refine ⟨_, hwd2, ?_⟩
      cbv
      refine ⟨b4, ?_⟩
      cbv
      rw [e2]
      refine ⟨{ slots := [(7, aS o2), (3, .ept (ansC err by_ num) 0), (2, .ept (stepC k node n ta turn sb) 0)], obs := [], ctr := 0 }, (le_of [] (by simp [leSl, leOb, injK, memK, parK, noTup, lk, rn0, rnA, plain] <;> first | rfl | decide)), hD _ _ _ ?_⟩
      cbv
      refine bT (te) ?_
      cbv
      simp
    | false =>
      have e1 := e1t (by simp)
      subst e1
      clear e1t e1f
      cbv
      refine ⟨_, hwd1, ?_⟩
      cbv
      refine cF (l4) ?_
      cbv
      rw [g6]
      refine bF (rfl) ?_
      cbv
      refine ⟨b3, ?_⟩
      cbv
      rw [hx2]
      refine ⟨_, hwd2, ?_⟩
      cbv
      refine ⟨b4, ?_⟩
      cbv
      rw [e2]
      refine ⟨{ slots := [(7, aS o2), (3, .ept (ansC err by_ num) 0), (2, .ept (stepC k node n ta turn sb) 0)], obs := [], ctr := 0 }, (le_of [] (by simp [leSl, leOb, injK, memK, parK, noTup, lk, rn0, rnA, plain] <;> first | rfl | decide)), hD _ _ _ ?_⟩
      cbv
      refine bT (te) ?_
      cbv
      simp
set_option maxHeartbeats 8000000 in
theorem rline_none (k node n ta turn : Int) (sb : ByteArray) (err : Int) (by_ : ByteArray) (num : Int) (h0 : -9223372036854775808 ≤ node) (h1 : node ≤ 9223372036854775807) (he : err = 0) (hk1 : k ≠ 1) (hk3 : k ≠ 3) (hk4 : k ≠ 4) (hk10 : k ≠ 10)
    (o2 : ByteArray) (ho2 : o2 = line2 k node err) : CSem Tryz.prog (.fn 6) [.agg (stepC k node n ta turn sb), .agg (ansC err by_ num)] (.pure [aS o2]) := by
  refine of_text gam_ok mixed { n := 93, cuts := [7] } Tryz.func6 (by kernel_rfl) rfl rfl (by simp) (by decide) fun F C D hF hC hD => ?_
  obtain ⟨w1, hw1⟩ : ∃ w, w = wordB kW k := ⟨_, rfl⟩
  have hwd1 := hC _ _ _ (word13_ok kW (by decide) _ rfl k w1 hw1)
  obtain ⟨w2, hw2⟩ : ∃ w, w = wordB eW err := ⟨_, rfl⟩
  have hwd2 := hC _ _ _ (word13_ok eW (by decide) _ rfl err w2 hw2)
  obtain ⟨q1, hq1⟩ : ∃ q : Bool, q = decide (k < 4) := ⟨_, rfl⟩
  obtain ⟨q2, hq2⟩ : ∃ q : Bool, q = decide (k > 6) := ⟨_, rfl⟩
  have l4 : F .cmp .lss k 4 = q1 := by rw [hq1]; exact lsF hF k 4
  have g6 : F .cmp .gtr k 6 = q2 := by rw [hq2]; exact gtF hF k 6
  obtain ⟨d1, hd1⟩ : ∃ d, d = itoaB node := ⟨_, rfl⟩
  have hit1 := hC _ _ _ (digs_ok node h0 h1 d1 hd1)
  obtain ⟨o1, ho1⟩ : ∃ o, o = line1 k node := ⟨_, rfl⟩
  have z1 : w1.size ≤ 10 := by rw [hw1]; exact kW_size k
  have z2 : w2.size ≤ 10 := by rw [hw2]; exact eW_size err
  have z3 : d1.size ≤ 21 := by rw [hd1]; exact itoa_size node h0 h1
  have zo1 : o1.size ≤ 40 := by rw [ho1]; exact line1_size k node h0 h1
  have zo2 : o2.size ≤ 60 := by rw [ho2]; exact line2_size k node err h0 h1
  have zs : spc.size ≤ 1 := by decide
  obtain ⟨x1, hx1⟩ : ∃ x, F .cat w1 spc = x := ⟨_, rfl⟩
  have zx1 : x1.size ≤ 11 := by rw [← hx1, catA hF, ba_app]; omega
  obtain ⟨x2, hx2⟩ : ∃ x, F .cat o1 spc = x := ⟨_, rfl⟩
  have zx2 : x2.size ≤ 41 := by rw [← hx2, catA hF, ba_app]; omega
  have b1 := catO hF z1 zs (by decide)
  have b2 := catO hF zx1 z3 (by decide)
  have b3 := catO hF zo1 zs (by decide)
  have b4 := catO hF zx2 z2 (by decide)
  have e2 : F .cat x2 w2 = o2 := by rw [ho2, ← hx2, catA hF, catA hF, ho1, hw2, ba_assoc]; rfl
  have e1t : ¬ (q1 = true ∨ q2 = true) → w1 = o1 := fun h => by
    rw [hq1, hq2] at h
    rw [ho1, hw1]; unfold line1; rw [if_pos (by simp only [decide_eq_true_eq] at h; omega)]
  have e1f : (q1 = true ∨ q2 = true) → F .cat x1 d1 = o1 := fun h => by
    rw [hq1, hq2] at h
    rw [ho1, ← hx1, catA hF, catA hF, hw1, hd1, ba_assoc]; unfold line1; rw [if_neg (by simp only [decide_eq_true_eq] at h; omega)]
  clear hw1 hw2 hd1 ho1 z1 z2 z3 zo1 zx1 zx2 hq1 hq2 ho2
  have te : F .cmp .neq err 0 = false := by rw [neF hF]; exact decide_eq_false (by omega)
  have t1 : F .cmp .eql k 1 = false := by rw [eqF hF]; exact decide_eq_false hk1
  have t3 : F .cmp .eql k 3 = false := by rw [eqF hF]; exact decide_eq_false hk3
  have t4 : F .cmp .eql k 4 = false := by rw [eqF hF]; exact decide_eq_false hk4
  have t10 : F .cmp .eql k 10 = false := by rw [eqF hF]; exact decide_eq_false hk10
  clear he hk1 hk3 hk4 hk10
  cases q1 with
  | true =>
    have e1 := e1f (.inl rfl)
    clear e1t e1f
    cbv
    refine ⟨_, hwd1, ?_⟩
    cbv
    refine cT (l4) ?_
    cbv
    refine ⟨b1, ?_⟩
    cbv
    rw [hx1]
    refine ⟨_, hit1, ?_⟩
    cbv
    refine ⟨b2, ?_⟩
    cbv
    rw [e1]
    refine ⟨b3, ?_⟩
    cbv
    rw [hx2]
    refine ⟨_, hwd2, ?_⟩
    cbv
    refine ⟨b4, ?_⟩
    cbv
    rw [e2]
    refine ⟨{ slots := [(7, aS o2), (3, .ept (ansC err by_ num) 0), (2, .ept (stepC k node n ta turn sb) 0)], obs := [], ctr := 0 }, (le_of [] (by simp [leSl, leOb, injK, memK, parK, noTup, lk, rn0, rnA, plain] <;> first | rfl | decide)), hD _ _ _ ?_⟩
    cbv
    refine bF (te) ?_
    cbv
    refine bF (t1) ?_
    cbv
    refine cF (t3) ?_
    cbv
    refine cF (t4) ?_
    cbv
    rw [t10]
    refine bF (rfl) ?_
    cbv
    simp
  | false =>
    cases q2 with
    | true =>
      have e1 := e1f (.inr rfl)
      clear e1t e1f
      cbv
      refine ⟨_, hwd1, ?_⟩
      cbv
      refine cF (l4) ?_
      cbv
      rw [g6]
      refine bT (rfl) ?_
      cbv
      refine ⟨b1, ?_⟩
      cbv
      rw [hx1]
      refine ⟨_, hit1, ?_⟩
      cbv
      refine ⟨b2, ?_⟩
      cbv
      rw [e1]
      refine ⟨b3, ?_⟩
      cbv
      rw [hx2]
      refine ⟨_, hwd2, ?_⟩
      cbv
      refine ⟨b4, ?_⟩
      cbv
      rw [e2]
      refine ⟨{ slots := [(7, aS o2), (3, .ept (ansC err by_ num) 0), (2, .ept (stepC k node n ta turn sb) 0)], obs := [], ctr := 0 }, (le_of [] (by simp [leSl, leOb, injK, memK, parK, noTup, lk, rn0, rnA, plain] <;> first | rfl | decide)), hD _ _ _ ?_⟩
      cbv
      refine bF (te) ?_
      cbv
      refine bF (t1) ?_
      cbv
      refine cF (t3) ?_
      cbv
      refine cF (t4) ?_
      cbv
      rw [t10]
      refine bF (rfl) ?_
      cbv
      simp
    | false =>
      have e1 := e1t (by simp)
      subst e1
      clear e1t e1f
      cbv
      refine ⟨_, hwd1, ?_⟩
      cbv
      refine cF (l4) ?_
      cbv
      rw [g6]
      refine bF (rfl) ?_
      cbv
      refine ⟨b3, ?_⟩
      cbv
      rw [hx2]
      refine ⟨_, hwd2, ?_⟩
      cbv
      refine ⟨b4, ?_⟩
      cbv
      rw [e2]
      refine ⟨{ slots := [(7, aS o2), (3, .ept (ansC err by_ num) 0), (2, .ept (stepC k node n ta turn sb) 0)], obs := [], ctr := 0 }, (le_of [] (by simp [leSl, leOb, injK, memK, parK, noTup, lk, rn0, rnA, plain] <;> first | rfl | decide)), hD _ _ _ ?_⟩
      cbv
      refine bF (te) ?_
      cbv
      refine bF (t1) ?_
      cbv
      refine cF (t3) ?_
      cbv
      refine cF (t4) ?_
      cbv
      rw [t10]
      refine bF (rfl) ?_
      cbv
      simp
set_option maxHeartbeats 8000000 in
theorem rline_bare (k node n ta turn : Int) (sb : ByteArray) (err : Int) (by_ : ByteArray) (num : Int) (h0 : -9223372036854775808 ≤ node) (h1 : node ≤ 9223372036854775807) (he : err = 0) (hk1 : k = 1) (hby : by_ = ⟨⟨[]⟩⟩)
    (o2 : ByteArray) (ho2 : o2 = line2 k node err) : CSem Tryz.prog (.fn 6) [.agg (stepC k node n ta turn sb), .agg (ansC err by_ num)] (.pure [aS o2]) := by
  refine of_text gam_ok mixed { n := 93, cuts := [7] } Tryz.func6 (by kernel_rfl) rfl rfl (by simp) (by decide) fun F C D hF hC hD => ?_
  obtain ⟨w1, hw1⟩ : ∃ w, w = wordB kW k := ⟨_, rfl⟩
  have hwd1 := hC _ _ _ (word13_ok kW (by decide) _ rfl k w1 hw1)
  obtain ⟨w2, hw2⟩ : ∃ w, w = wordB eW err := ⟨_, rfl⟩
  have hwd2 := hC _ _ _ (word13_ok eW (by decide) _ rfl err w2 hw2)
  obtain ⟨q1, hq1⟩ : ∃ q : Bool, q = decide (k < 4) := ⟨_, rfl⟩
  obtain ⟨q2, hq2⟩ : ∃ q : Bool, q = decide (k > 6) := ⟨_, rfl⟩
  have l4 : F .cmp .lss k 4 = q1 := by rw [hq1]; exact lsF hF k 4
  have g6 : F .cmp .gtr k 6 = q2 := by rw [hq2]; exact gtF hF k 6
  obtain ⟨d1, hd1⟩ : ∃ d, d = itoaB node := ⟨_, rfl⟩
  have hit1 := hC _ _ _ (digs_ok node h0 h1 d1 hd1)
  obtain ⟨o1, ho1⟩ : ∃ o, o = line1 k node := ⟨_, rfl⟩
  have z1 : w1.size ≤ 10 := by rw [hw1]; exact kW_size k
  have z2 : w2.size ≤ 10 := by rw [hw2]; exact eW_size err
  have z3 : d1.size ≤ 21 := by rw [hd1]; exact itoa_size node h0 h1
  have zo1 : o1.size ≤ 40 := by rw [ho1]; exact line1_size k node h0 h1
  have zo2 : o2.size ≤ 60 := by rw [ho2]; exact line2_size k node err h0 h1
  have zs : spc.size ≤ 1 := by decide
  obtain ⟨x1, hx1⟩ : ∃ x, F .cat w1 spc = x := ⟨_, rfl⟩
  have zx1 : x1.size ≤ 11 := by rw [← hx1, catA hF, ba_app]; omega
  obtain ⟨x2, hx2⟩ : ∃ x, F .cat o1 spc = x := ⟨_, rfl⟩
  have zx2 : x2.size ≤ 41 := by rw [← hx2, catA hF, ba_app]; omega
  have b1 := catO hF z1 zs (by decide)
  have b2 := catO hF zx1 z3 (by decide)
  have b3 := catO hF zo1 zs (by decide)
  have b4 := catO hF zx2 z2 (by decide)
  have e2 : F .cat x2 w2 = o2 := by rw [ho2, ← hx2, catA hF, catA hF, ho1, hw2, ba_assoc]; rfl
  have e1t : ¬ (q1 = true ∨ q2 = true) → w1 = o1 := fun h => by
    rw [hq1, hq2] at h
    rw [ho1, hw1]; unfold line1; rw [if_pos (by simp only [decide_eq_true_eq] at h; omega)]
  have e1f : (q1 = true ∨ q2 = true) → F .cat x1 d1 = o1 := fun h => by
    rw [hq1, hq2] at h
    rw [ho1, ← hx1, catA hF, catA hF, hw1, hd1, ba_assoc]; unfold line1; rw [if_neg (by simp only [decide_eq_true_eq] at h; omega)]
  clear hw1 hw2 hd1 ho1 z1 z2 z3 zo1 zx1 zx2 hq1 hq2 ho2
  have te : F .cmp .neq err 0 = false := by rw [neF hF]; exact decide_eq_false (by omega)
  have t1 : F .cmp .eql k 1 = true := by rw [eqF hF]; exact decide_eq_true hk1
  have ts : F .scmp .neq by_ ⟨⟨[]⟩⟩ = false := by rw [sneF hF]; exact decide_eq_false (fun h => h hby)
  have t3 : F .cmp .eql k 3 = false := by rw [eqF hF]; exact decide_eq_false (by omega)
  have t4 : F .cmp .eql k 4 = false := by rw [eqF hF]; exact decide_eq_false (by omega)
  have t10 : F .cmp .eql k 10 = false := by rw [eqF hF]; exact decide_eq_false (by omega)
  clear he hk1 hby
  cases q1 with
  | true =>
    have e1 := e1f (.inl rfl)
    clear e1t e1f
    cbv
    refine ⟨_, hwd1, ?_⟩
    cbv
    refine cT (l4) ?_
    cbv
    refine ⟨b1, ?_⟩
    cbv
    rw [hx1]
    refine ⟨_, hit1, ?_⟩
    cbv
    refine ⟨b2, ?_⟩
    cbv
    rw [e1]
    refine ⟨b3, ?_⟩
    cbv
    rw [hx2]
    refine ⟨_, hwd2, ?_⟩
    cbv
    refine ⟨b4, ?_⟩
    cbv
    rw [e2]
    refine ⟨{ slots := [(7, aS o2), (3, .ept (ansC err by_ num) 0), (2, .ept (stepC k node n ta turn sb) 0)], obs := [], ctr := 0 }, (le_of [] (by simp [leSl, leOb, injK, memK, parK, noTup, lk, rn0, rnA, plain] <;> first | rfl | decide)), hD _ _ _ ?_⟩
    cbv
    refine bF (te) ?_
    cbv
    refine bT (t1) ?_
    cbv
    rw [ts]
    refine bF (rfl) ?_
    cbv
    refine cF (t3) ?_
    cbv
    refine cF (t4) ?_
    cbv
    rw [t10]
    refine bF (rfl) ?_
    cbv
    simp
  | false =>
    cases q2 with
    | true =>
      have e1 := e1f (.inr rfl)
      clear e1t e1f
      cbv
      refine ⟨_, hwd1, ?_⟩
      cbv
      refine cF (l4) ?_
      cbv
      rw [g6]
      refine bT (rfl) ?_
      cbv
      refine ⟨b1, ?_⟩
      cbv
      rw [hx1]
      refine ⟨_, hit1, ?_⟩
      cbv
      refine ⟨b2, ?_⟩
      cbv
      rw [e1]
      refine ⟨b3, ?_⟩
      cbv
      rw [hx2]
      refine ⟨_, hwd2, ?_⟩
      cbv
      refine ⟨b4, ?_⟩
      cbv
      rw [e2]
      refine ⟨{ slots := [(7, aS o2), (3, .ept (ansC err by_ num) 0), (2, .ept (stepC k node n ta turn sb) 0)], obs := [], ctr := 0 }, (le_of [] (by simp [leSl, leOb, injK, memK, parK, noTup, lk, rn0, rnA, plain] <;> first | rfl | decide)), hD _ _ _ ?_⟩
      cbv
      refine bF (te) ?_
      cbv
      refine bT (t1) ?_
      cbv
      rw [ts]
      refine bF (rfl) ?_
      cbv
      refine cF (t3) ?_
      cbv
      refine cF (t4) ?_
      cbv
      rw [t10]
      refine bF (rfl) ?_
      cbv
      simp
    | false =>
      have e1 := e1t (by simp)
      subst e1
      clear e1t e1f
      cbv
      refine ⟨_, hwd1, ?_⟩
      cbv
      refine cF (l4) ?_
      cbv
      rw [g6]
      refine bF (rfl) ?_
      cbv
      refine ⟨b3, ?_⟩
      cbv
      rw [hx2]
      refine ⟨_, hwd2, ?_⟩
      cbv
      refine ⟨b4, ?_⟩
      cbv
      rw [e2]
      refine ⟨{ slots := [(7, aS o2), (3, .ept (ansC err by_ num) 0), (2, .ept (stepC k node n ta turn sb) 0)], obs := [], ctr := 0 }, (le_of [] (by simp [leSl, leOb, injK, memK, parK, noTup, lk, rn0, rnA, plain] <;> first | rfl | decide)), hD _ _ _ ?_⟩
      cbv
      refine bF (te) ?_
      cbv
      refine bT (t1) ?_
      cbv
      rw [ts]
      refine bF (rfl) ?_
      cbv
      refine cF (t3) ?_
      cbv
      refine cF (t4) ?_
      cbv
      rw [t10]
      refine bF (rfl) ?_
      cbv
      simp
set_option maxHeartbeats 8000000 in
theorem rline_3 (k node n ta turn : Int) (sb : ByteArray) (err : Int) (by_ : ByteArray) (num : Int) (h0 : -9223372036854775808 ≤ node) (h1 : node ≤ 9223372036854775807) (g0 : -9223372036854775808 ≤ num) (g1 : num ≤ 9223372036854775807) (he : err = 0) (hk : k = 3)
    (o2 : ByteArray) (ho2 : o2 = line2 k node err) (r : ByteArray) (hr : r = o2 ++ (spc ++ itoaB num)) : CSem Tryz.prog (.fn 6) [.agg (stepC k node n ta turn sb), .agg (ansC err by_ num)] (.pure [aS r]) := by
  refine of_text gam_ok mixed { n := 93, cuts := [7] } Tryz.func6 (by kernel_rfl) rfl rfl (by simp) (by decide) fun F C D hF hC hD => ?_
  obtain ⟨w1, hw1⟩ : ∃ w, w = wordB kW k := ⟨_, rfl⟩
  have hwd1 := hC _ _ _ (word13_ok kW (by decide) _ rfl k w1 hw1)
  obtain ⟨w2, hw2⟩ : ∃ w, w = wordB eW err := ⟨_, rfl⟩
  have hwd2 := hC _ _ _ (word13_ok eW (by decide) _ rfl err w2 hw2)
  obtain ⟨q1, hq1⟩ : ∃ q : Bool, q = decide (k < 4) := ⟨_, rfl⟩
  obtain ⟨q2, hq2⟩ : ∃ q : Bool, q = decide (k > 6) := ⟨_, rfl⟩
  have l4 : F .cmp .lss k 4 = q1 := by rw [hq1]; exact lsF hF k 4
  have g6 : F .cmp .gtr k 6 = q2 := by rw [hq2]; exact gtF hF k 6
  obtain ⟨d1, hd1⟩ : ∃ d, d = itoaB node := ⟨_, rfl⟩
  have hit1 := hC _ _ _ (digs_ok node h0 h1 d1 hd1)
  obtain ⟨o1, ho1⟩ : ∃ o, o = line1 k node := ⟨_, rfl⟩
  have z1 : w1.size ≤ 10 := by rw [hw1]; exact kW_size k
  have z2 : w2.size ≤ 10 := by rw [hw2]; exact eW_size err
  have z3 : d1.size ≤ 21 := by rw [hd1]; exact itoa_size node h0 h1
  have zo1 : o1.size ≤ 40 := by rw [ho1]; exact line1_size k node h0 h1
  have zo2 : o2.size ≤ 60 := by rw [ho2]; exact line2_size k node err h0 h1
  have zs : spc.size ≤ 1 := by decide
  obtain ⟨x1, hx1⟩ : ∃ x, F .cat w1 spc = x := ⟨_, rfl⟩
  have zx1 : x1.size ≤ 11 := by rw [← hx1, catA hF, ba_app]; omega
  obtain ⟨x2, hx2⟩ : ∃ x, F .cat o1 spc = x := ⟨_, rfl⟩
  have zx2 : x2.size ≤ 41 := by rw [← hx2, catA hF, ba_app]; omega
  have b1 := catO hF z1 zs (by decide)
  have b2 := catO hF zx1 z3 (by decide)
  have b3 := catO hF zo1 zs (by decide)
  have b4 := catO hF zx2 z2 (by decide)
  have e2 : F .cat x2 w2 = o2 := by rw [ho2, ← hx2, catA hF, catA hF, ho1, hw2, ba_assoc]; rfl
  have e1t : ¬ (q1 = true ∨ q2 = true) → w1 = o1 := fun h => by
    rw [hq1, hq2] at h
    rw [ho1, hw1]; unfold line1; rw [if_pos (by simp only [decide_eq_true_eq] at h; omega)]
  have e1f : (q1 = true ∨ q2 = true) → F .cat x1 d1 = o1 := fun h => by
    rw [hq1, hq2] at h
    rw [ho1, ← hx1, catA hF, catA hF, hw1, hd1, ba_assoc]; unfold line1; rw [if_neg (by simp only [decide_eq_true_eq] at h; omega)]
  clear hw1 hw2 hd1 ho1 z1 z2 z3 zo1 zx1 zx2 hq1 hq2 ho2
  have te : F .cmp .neq err 0 = false := by rw [neF hF]; exact decide_eq_false (by omega)
  have t1 : F .cmp .eql k 1 = false := by rw [eqF hF]; exact decide_eq_false (by omega)
  obtain ⟨d2, hd2⟩ : ∃ d, d = itoaB num := ⟨_, rfl⟩
  have hit2 := hC _ _ _ (digs_ok num g0 g1 d2 hd2)
  have z4 : d2.size ≤ 21 := by rw [hd2]; exact itoa_size num g0 g1
  obtain ⟨y1, hy1⟩ : ∃ x, F .cat o2 spc = x := ⟨_, rfl⟩
  have zy1 : y1.size ≤ 61 := by rw [← hy1, catA hF, ba_app]; omega
  have b5 := catO hF zo2 zs (by decide)
  have b6 := catO hF zy1 z4 (by decide)
  have e3 : F .cat y1 d2 = r := by rw [hr, ← hy1, catA hF, catA hF, hd2, ba_assoc]
  clear hd2 z4 zy1 hr
  have t3 : F .cmp .eql k 3 = true := by rw [eqF hF]; exact decide_eq_true (by omega)
  clear he hk zo2 zs
  cases q1 with
  | true =>
    have e1 := e1f (.inl rfl)
    clear e1t e1f
    cbv
    refine ⟨_, hwd1, ?_⟩
    cbv
    refine cT (l4) ?_
    cbv
    refine ⟨b1, ?_⟩
    cbv
    rw [hx1]
    refine ⟨_, hit1, ?_⟩
    cbv
    refine ⟨b2, ?_⟩
    cbv
    rw [e1]
    refine ⟨b3, ?_⟩
    cbv
    rw [hx2]
    refine ⟨_, hwd2, ?_⟩
    cbv
    refine ⟨b4, ?_⟩
    cbv
    rw [e2]
    refine ⟨{ slots := [(7, aS o2), (3, .ept (ansC err by_ num) 0), (2, .ept (stepC k node n ta turn sb) 0)], obs := [], ctr := 0 }, (le_of [] (by simp [leSl, leOb, injK, memK, parK, noTup, lk, rn0, rnA, plain] <;> first | rfl | decide)), hD _ _ _ ?_⟩
    cbv
    refine bF (te) ?_
    cbv
    refine bF (t1) ?_
    cbv
    refine cT (t3) ?_
    cbv
    refine ⟨b5, ?_⟩
    cbv
    rw [hy1]
    refine ⟨_, hit2, ?_⟩
    cbv
    refine ⟨b6, ?_⟩
    cbv
    rw [e3]
    simp
  | false =>
    cases q2 with
    | true =>
      have e1 := e1f (.inr rfl)
      clear e1t e1f
      cbv
      refine ⟨_, hwd1, ?_⟩
      cbv
      refine cF (l4) ?_
      cbv
      rw [g6]
      refine bT (rfl) ?_
      cbv
      refine ⟨b1, ?_⟩
      cbv
      rw [hx1]
      refine ⟨_, hit1, ?_⟩
      cbv
      refine ⟨b2, ?_⟩
      cbv
      rw [e1]
      refine ⟨b3, ?_⟩
      cbv
      rw [hx2]
      refine ⟨_, hwd2, ?_⟩
      cbv
      refine ⟨b4, ?_⟩
      cbv
      rw [e2]
      refine ⟨{ slots := [(7, aS o2), (3, .ept (ansC err by_ num) 0), (2, .ept (stepC k node n ta turn sb) 0)], obs := [], ctr := 0 }, (le_of [] (by simp [leSl, leOb, injK, memK, parK, noTup, lk, rn0, rnA, plain] <;> first | rfl | decide)), hD _ _ _ ?_⟩
      cbv
      refine bF (te) ?_
      cbv
      refine bF (t1) ?_
      cbv
      refine cT (t3) ?_
      cbv
      refine ⟨b5, ?_⟩
      cbv
      rw [hy1]
      refine ⟨_, hit2, ?_⟩
      cbv
      refine ⟨b6, ?_⟩
      cbv
      rw [e3]
      simp
    | false =>
      have e1 := e1t (by simp)
      subst e1
      clear e1t e1f
      cbv
      refine ⟨_, hwd1, ?_⟩
      cbv
      refine cF (l4) ?_
      cbv
      rw [g6]
      refine bF (rfl) ?_
      cbv
      refine ⟨b3, ?_⟩
      cbv
      rw [hx2]
      refine ⟨_, hwd2, ?_⟩
      cbv
      refine ⟨b4, ?_⟩
      cbv
      rw [e2]
      refine ⟨{ slots := [(7, aS o2), (3, .ept (ansC err by_ num) 0), (2, .ept (stepC k node n ta turn sb) 0)], obs := [], ctr := 0 }, (le_of [] (by simp [leSl, leOb, injK, memK, parK, noTup, lk, rn0, rnA, plain] <;> first | rfl | decide)), hD _ _ _ ?_⟩
      cbv
      refine bF (te) ?_
      cbv
      refine bF (t1) ?_
      cbv
      refine cT (t3) ?_
      cbv
      refine ⟨b5, ?_⟩
      cbv
      rw [hy1]
      refine ⟨_, hit2, ?_⟩
      cbv
      refine ⟨b6, ?_⟩
      cbv
      rw [e3]
      simp
set_option maxHeartbeats 8000000 in
theorem rline_4 (k node n ta turn : Int) (sb : ByteArray) (err : Int) (by_ : ByteArray) (num : Int) (h0 : -9223372036854775808 ≤ node) (h1 : node ≤ 9223372036854775807) (g0 : -9223372036854775808 ≤ num) (g1 : num ≤ 9223372036854775807) (he : err = 0) (hk : k = 4)
    (o2 : ByteArray) (ho2 : o2 = line2 k node err) (r : ByteArray) (hr : r = o2 ++ (spc ++ itoaB num)) : CSem Tryz.prog (.fn 6) [.agg (stepC k node n ta turn sb), .agg (ansC err by_ num)] (.pure [aS r]) := by
  refine of_text gam_ok mixed { n := 93, cuts := [7] } Tryz.func6 (by kernel_rfl) rfl rfl (by simp) (by decide) fun F C D hF hC hD => ?_
  obtain ⟨w1, hw1⟩ : ∃ w, w = wordB kW k := ⟨_, rfl⟩
  have hwd1 := hC _ _ _ (word13_ok kW (by decide) _ rfl k w1 hw1)
  obtain ⟨w2, hw2⟩ : ∃ w, w = wordB eW err := ⟨_, rfl⟩
  have hwd2 := hC _ _ _ (word13_ok eW (by decide) _ rfl err w2 hw2)
  obtain ⟨q1, hq1⟩ : ∃ q : Bool, q = decide (k < 4) := ⟨_, rfl⟩
  obtain ⟨q2, hq2⟩ : ∃ q : Bool, q = decide (k > 6) := ⟨_, rfl⟩
  have l4 : F .cmp .lss k 4 = q1 := by rw [hq1]; exact lsF hF k 4
  have g6 : F .cmp .gtr k 6 = q2 := by rw [hq2]; exact gtF hF k 6
  obtain ⟨d1, hd1⟩ : ∃ d, d = itoaB node := ⟨_, rfl⟩
  have hit1 := hC _ _ _ (digs_ok node h0 h1 d1 hd1)
  obtain ⟨o1, ho1⟩ : ∃ o, o = line1 k node := ⟨_, rfl⟩
  have z1 : w1.size ≤ 10 := by rw [hw1]; exact kW_size k
  have z2 : w2.size ≤ 10 := by rw [hw2]; exact eW_size err
  have z3 : d1.size ≤ 21 := by rw [hd1]; exact itoa_size node h0 h1
  have zo1 : o1.size ≤ 40 := by rw [ho1]; exact line1_size k node h0 h1
  have zo2 : o2.size ≤ 60 := by rw [ho2]; exact line2_size k node err h0 h1
  have zs : spc.size ≤ 1 := by decide
  obtain ⟨x1, hx1⟩ : ∃ x, F .cat w1 spc = x := ⟨_, rfl⟩
  have zx1 : x1.size ≤ 11 := by rw [← hx1, catA hF, ba_app]; omega
  obtain ⟨x2, hx2⟩ : ∃ x, F .cat o1 spc = x := ⟨_, rfl⟩
  have zx2 : x2.size ≤ 41 := by rw [← hx2, catA hF, ba_app]; omega
  have b1 := catO hF z1 zs (by decide)
  have b2 := catO hF zx1 z3 (by decide)
  have b3 := catO hF zo1 zs (by decide)
  have b4 := catO hF zx2 z2 (by decide)
  have e2 : F .cat x2 w2 = o2 := by rw [ho2, ← hx2, catA hF, catA hF, ho1, hw2, ba_assoc]; rfl
  have e1t : ¬ (q1 = true ∨ q2 = true) → w1 = o1 := fun h => by
    rw [hq1, hq2] at h
    rw [ho1, hw1]; unfold line1; rw [if_pos (by simp only [decide_eq_true_eq] at h; omega)]
  have e1f : (q1 = true ∨ q2 = true) → F .cat x1 d1 = o1 := fun h => by
    rw [hq1, hq2] at h
    rw [ho1, ← hx1, catA hF, catA hF, hw1, hd1, ba_assoc]; unfold line1; rw [if_neg (by simp only [decide_eq_true_eq] at h; omega)]
  clear hw1 hw2 hd1 ho1 z1 z2 z3 zo1 zx1 zx2 hq1 hq2 ho2
  have te : F .cmp .neq err 0 = false := by rw [neF hF]; exact decide_eq_false (by omega)
  have t1 : F .cmp .eql k 1 = false := by rw [eqF hF]; exact decide_eq_false (by omega)
  obtain ⟨d2, hd2⟩ : ∃ d, d = itoaB num := ⟨_, rfl⟩
  have hit2 := hC _ _ _ (digs_ok num g0 g1 d2 hd2)
  have z4 : d2.size ≤ 21 := by rw [hd2]; exact itoa_size num g0 g1
  obtain ⟨y1, hy1⟩ : ∃ x, F .cat o2 spc = x := ⟨_, rfl⟩
  have zy1 : y1.size ≤ 61 := by rw [← hy1, catA hF, ba_app]; omega
  have b5 := catO hF zo2 zs (by decide)
  have b6 := catO hF zy1 z4 (by decide)
  have e3 : F .cat y1 d2 = r := by rw [hr, ← hy1, catA hF, catA hF, hd2, ba_assoc]
  clear hd2 z4 zy1 hr
  have t3 : F .cmp .eql k 3 = false := by rw [eqF hF]; exact decide_eq_false (by omega)
  have t4 : F .cmp .eql k 4 = true := by rw [eqF hF]; exact decide_eq_true (by omega)
  clear he hk zo2 zs
  cases q1 with
  | true =>
    have e1 := e1f (.inl rfl)
    clear e1t e1f
    cbv
    refine ⟨_, hwd1, ?_⟩
    cbv
    refine cT (l4) ?_
    cbv
    refine ⟨b1, ?_⟩
    cbv
    rw [hx1]
    refine ⟨_, hit1, ?_⟩
    cbv
    refine ⟨b2, ?_⟩
    cbv
    rw [e1]
    refine ⟨b3, ?_⟩
    cbv
    rw [hx2]
    refine ⟨_, hwd2, ?_⟩
    cbv
    refine ⟨b4, ?_⟩
    cbv
    rw [e2]
    refine ⟨{ slots := [(7, aS o2), (3, .ept (ansC err by_ num) 0), (2, .ept (stepC k node n ta turn sb) 0)], obs := [], ctr := 0 }, (le_of [] (by simp [leSl, leOb, injK, memK, parK, noTup, lk, rn0, rnA, plain] <;> first | rfl | decide)), hD _ _ _ ?_⟩
    cbv
    refine bF (te) ?_
    cbv
    refine bF (t1) ?_
    cbv
    refine cF (t3) ?_
    cbv
    refine cT (t4) ?_
    cbv
    refine ⟨b5, ?_⟩
    cbv
    rw [hy1]
    refine ⟨_, hit2, ?_⟩
    cbv
    refine ⟨b6, ?_⟩
    cbv
    rw [e3]
    simp
  | false =>
    cases q2 with
    | true =>
      have e1 := e1f (.inr rfl)
      clear e1t e1f
      cbv
      refine ⟨_, hwd1, ?_⟩
      cbv
      refine cF (l4) ?_
      cbv
      rw [g6]
      refine bT (rfl) ?_
      cbv
      refine ⟨b1, ?_⟩
      cbv
      rw [hx1]
      refine ⟨_, hit1, ?_⟩
      cbv
      refine ⟨b2, ?_⟩
      cbv
      rw [e1]
      refine ⟨b3, ?_⟩
      cbv
      rw [hx2]
      refine ⟨_, hwd2, ?_⟩
      cbv
      refine ⟨b4, ?_⟩
      cbv
      rw [e2]
      refine ⟨{ slots := [(7, aS o2), (3, .ept (ansC err by_ num) 0), (2, .ept (stepC k node n ta turn sb) 0)], obs := [], ctr := 0 }, (le_of [] (by simp [leSl, leOb, injK, memK, parK, noTup, lk, rn0, rnA, plain] <;> first | rfl | decide)), hD _ _ _ ?_⟩
      cbv
      refine bF (te) ?_
      cbv
      refine bF (t1) ?_
      cbv
      refine cF (t3) ?_
      cbv
      refine cT (t4) ?_
      cbv
      refine ⟨b5, ?_⟩
      cbv
      rw [hy1]
      refine ⟨_, hit2, ?_⟩
      cbv
      refine ⟨b6, ?_⟩
      cbv
      rw [e3]
      simp
    | false =>
      have e1 := e1t (by simp)
      subst e1
      clear e1t e1f
      cbv
      refine ⟨_, hwd1, ?_⟩
      cbv
      refine cF (l4) ?_
      cbv
      rw [g6]
      refine bF (rfl) ?_
      cbv
      refine ⟨b3, ?_⟩
      cbv
      rw [hx2]
      refine ⟨_, hwd2, ?_⟩
      cbv
      refine ⟨b4, ?_⟩
      cbv
      rw [e2]
      refine ⟨{ slots := [(7, aS o2), (3, .ept (ansC err by_ num) 0), (2, .ept (stepC k node n ta turn sb) 0)], obs := [], ctr := 0 }, (le_of [] (by simp [leSl, leOb, injK, memK, parK, noTup, lk, rn0, rnA, plain] <;> first | rfl | decide)), hD _ _ _ ?_⟩
      cbv
      refine bF (te) ?_
      cbv
      refine bF (t1) ?_
      cbv
      refine cF (t3) ?_
      cbv
      refine cT (t4) ?_
      cbv
      refine ⟨b5, ?_⟩
      cbv
      rw [hy1]
      refine ⟨_, hit2, ?_⟩
      cbv
      refine ⟨b6, ?_⟩
      cbv
      rw [e3]
      simp
set_option maxHeartbeats 8000000 in
theorem rline_10 (k node n ta turn : Int) (sb : ByteArray) (err : Int) (by_ : ByteArray) (num : Int) (h0 : -9223372036854775808 ≤ node) (h1 : node ≤ 9223372036854775807) (g0 : -9223372036854775808 ≤ num) (g1 : num ≤ 9223372036854775807) (he : err = 0) (hk : k = 10)
    (o2 : ByteArray) (ho2 : o2 = line2 k node err) (r : ByteArray) (hr : r = o2 ++ (spc ++ itoaB num)) : CSem Tryz.prog (.fn 6) [.agg (stepC k node n ta turn sb), .agg (ansC err by_ num)] (.pure [aS r]) := by
  refine of_text gam_ok mixed { n := 93, cuts := [7] } Tryz.func6 (by kernel_rfl) rfl rfl (by simp) (by decide) fun F C D hF hC hD => ?_
  obtain ⟨w1, hw1⟩ : ∃ w, w = wordB kW k := ⟨_, rfl⟩
  have hwd1 := hC _ _ _ (word13_ok kW (by decide) _ rfl k w1 hw1)
  obtain ⟨w2, hw2⟩ : ∃ w, w = wordB eW err := ⟨_, rfl⟩
  have hwd2 := hC _ _ _ (word13_ok eW (by decide) _ rfl err w2 hw2)
  obtain ⟨q1, hq1⟩ : ∃ q : Bool, q = decide (k < 4) := ⟨_, rfl⟩
  obtain ⟨q2, hq2⟩ : ∃ q : Bool, q = decide (k > 6) := ⟨_, rfl⟩
  have l4 : F .cmp .lss k 4 = q1 := by rw [hq1]; exact lsF hF k 4
  have g6 : F .cmp .gtr k 6 = q2 := by rw [hq2]; exact gtF hF k 6
  obtain ⟨d1, hd1⟩ : ∃ d, d = itoaB node := ⟨_, rfl⟩
  have hit1 := hC _ _ _ (digs_ok node h0 h1 d1 hd1)
  obtain ⟨o1, ho1⟩ : ∃ o, o = line1 k node := ⟨_, rfl⟩
  have z1 : w1.size ≤ 10 := by rw [hw1]; exact kW_size k
  have z2 : w2.size ≤ 10 := by rw [hw2]; exact eW_size err
  have z3 : d1.size ≤ 21 := by rw [hd1]; exact itoa_size node h0 h1
  have zo1 : o1.size ≤ 40 := by rw [ho1]; exact line1_size k node h0 h1
  have zo2 : o2.size ≤ 60 := by rw [ho2]; exact line2_size k node err h0 h1
  have zs : spc.size ≤ 1 := by decide
  obtain ⟨x1, hx1⟩ : ∃ x, F .cat w1 spc = x := ⟨_, rfl⟩
  have zx1 : x1.size ≤ 11 := by rw [← hx1, catA hF, ba_app]; omega
  obtain ⟨x2, hx2⟩ : ∃ x, F .cat o1 spc = x := ⟨_, rfl⟩
  have zx2 : x2.size ≤ 41 := by rw [← hx2, catA hF, ba_app]; omega
  have b1 := catO hF z1 zs (by decide)
  have b2 := catO hF zx1 z3 (by decide)
  have b3 := catO hF zo1 zs (by decide)
  have b4 := catO hF zx2 z2 (by decide)
  have e2 : F .cat x2 w2 = o2 := by rw [ho2, ← hx2, catA hF, catA hF, ho1, hw2, ba_assoc]; rfl
  have e1t : ¬ (q1 = true ∨ q2 = true) → w1 = o1 := fun h => by
    rw [hq1, hq2] at h
    rw [ho1, hw1]; unfold line1; rw [if_pos (by simp only [decide_eq_true_eq] at h; omega)]
  have e1f : (q1 = true ∨ q2 = true) → F .cat x1 d1 = o1 := fun h => by
    rw [hq1, hq2] at h
    rw [ho1, ← hx1, catA hF, catA hF, hw1, hd1, ba_assoc]; unfold line1; rw [if_neg (by simp only [decide_eq_true_eq] at h; omega)]
  clear hw1 hw2 hd1 ho1 z1 z2 z3 zo1 zx1 zx2 hq1 hq2 ho2
  have te : F .cmp .neq err 0 = false := by rw [neF hF]; exact decide_eq_false (by omega)
  have t1 : F .cmp .eql k 1 = false := by rw [eqF hF]; exact decide_eq_false (by omega)
  obtain ⟨d2, hd2⟩ : ∃ d, d = itoaB num := ⟨_, rfl⟩
  have hit2 := hC _ _ _ (digs_ok num g0 g1 d2 hd2)
  have z4 : d2.size ≤ 21 := by rw [hd2]; exact itoa_size num g0 g1
  obtain ⟨y1, hy1⟩ : ∃ x, F .cat o2 spc = x := ⟨_, rfl⟩
  have zy1 : y1.size ≤ 61 := by rw [← hy1, catA hF, ba_app]; omega
  have b5 := catO hF zo2 zs (by decide)
  have b6 := catO hF zy1 z4 (by decide)
  have e3 : F .cat y1 d2 = r := by rw [hr, ← hy1, catA hF, catA hF, hd2, ba_assoc]
  clear hd2 z4 zy1 hr
  have t3 : F .cmp .eql k 3 = false := by rw [eqF hF]; exact decide_eq_false (by omega)
  have t4 : F .cmp .eql k 4 = false := by rw [eqF hF]; exact decide_eq_false (by omega)
  have t10 : F .cmp .eql k 10 = true := by rw [eqF hF]; exact decide_eq_true (by omega)
  clear he hk zo2 zs
  cases q1 with
  | true =>
    have e1 := e1f (.inl rfl)
    clear e1t e1f
    cbv
    refine ⟨_, hwd1, ?_⟩
    cbv
    refine cT (l4) ?_
    cbv
    refine ⟨b1, ?_⟩
    cbv
    rw [hx1]
    refine ⟨_, hit1, ?_⟩
    cbv
    refine ⟨b2, ?_⟩
    cbv
    rw [e1]
    refine ⟨b3, ?_⟩
    cbv
    rw [hx2]
    refine ⟨_, hwd2, ?_⟩
    cbv
    refine ⟨b4, ?_⟩
    cbv
    rw [e2]
    refine ⟨{ slots := [(7, aS o2), (3, .ept (ansC err by_ num) 0), (2, .ept (stepC k node n ta turn sb) 0)], obs := [], ctr := 0 }, (le_of [] (by simp [leSl, leOb, injK, memK, parK, noTup, lk, rn0, rnA, plain] <;> first | rfl | decide)), hD _ _ _ ?_⟩
    cbv
    refine bF (te) ?_
    cbv
    refine bF (t1) ?_
    cbv
    refine cF (t3) ?_
    cbv
    refine cF (t4) ?_
    cbv
    rw [t10]
    refine bT (rfl) ?_
    cbv
    refine ⟨b5, ?_⟩
    cbv
    rw [hy1]
    refine ⟨_, hit2, ?_⟩
    cbv
    refine ⟨b6, ?_⟩
    cbv
    rw [e3]
    simp
  | false =>
    cases q2 with
    | true =>
      have e1 := e1f (.inr rfl)
      clear e1t e1f
      cbv
      refine ⟨_, hwd1, ?_⟩
      cbv
      refine cF (l4) ?_
      cbv
      rw [g6]
      refine bT (rfl) ?_
      cbv
      refine ⟨b1, ?_⟩
      cbv
      rw [hx1]
      refine ⟨_, hit1, ?_⟩
      cbv
      refine ⟨b2, ?_⟩
      cbv
      rw [e1]
      refine ⟨b3, ?_⟩
      cbv
      rw [hx2]
      refine ⟨_, hwd2, ?_⟩
      cbv
      refine ⟨b4, ?_⟩
      cbv
      rw [e2]
      refine ⟨{ slots := [(7, aS o2), (3, .ept (ansC err by_ num) 0), (2, .ept (stepC k node n ta turn sb) 0)], obs := [], ctr := 0 }, (le_of [] (by simp [leSl, leOb, injK, memK, parK, noTup, lk, rn0, rnA, plain] <;> first | rfl | decide)), hD _ _ _ ?_⟩
      cbv
      refine bF (te) ?_
      cbv
      refine bF (t1) ?_
      cbv
      refine cF (t3) ?_
      cbv
      refine cF (t4) ?_
      cbv
      rw [t10]
      refine bT (rfl) ?_
      cbv
      refine ⟨b5, ?_⟩
      cbv
      rw [hy1]
      refine ⟨_, hit2, ?_⟩
      cbv
      refine ⟨b6, ?_⟩
      cbv
      rw [e3]
      simp
    | false =>
      have e1 := e1t (by simp)
      subst e1
      clear e1t e1f
      cbv
      refine ⟨_, hwd1, ?_⟩
      cbv
      refine cF (l4) ?_
      cbv
      rw [g6]
      refine bF (rfl) ?_
      cbv
      refine ⟨b3, ?_⟩
      cbv
      rw [hx2]
      refine ⟨_, hwd2, ?_⟩
      cbv
      refine ⟨b4, ?_⟩
      cbv
      rw [e2]
      refine ⟨{ slots := [(7, aS o2), (3, .ept (ansC err by_ num) 0), (2, .ept (stepC k node n ta turn sb) 0)], obs := [], ctr := 0 }, (le_of [] (by simp [leSl, leOb, injK, memK, parK, noTup, lk, rn0, rnA, plain] <;> first | rfl | decide)), hD _ _ _ ?_⟩
      cbv
      refine bF (te) ?_
      cbv
      refine bF (t1) ?_
      cbv
      refine cF (t3) ?_
      cbv
      refine cF (t4) ?_
      cbv
      rw [t10]
      refine bT (rfl) ?_
      cbv
      refine ⟨b5, ?_⟩
      cbv
      rw [hy1]
      refine ⟨_, hit2, ?_⟩
      cbv
      refine ⟨b6, ?_⟩
      cbv
      rw [e3]
      simp
end Go.Proofs.YthepmpfkkhckpaaGreatDoor
