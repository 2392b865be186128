import Derived.Test.YthepmpfkkhckpaaGreatDoorK13
set_option linter.unusedSimpArgs false
set_option linter.unusedVariables false
namespace Go.Proofs.YthepmpfkkhckpaaGreatDoor
open Go Go.RowKit Am

theorem ba_BA (a : ByteArray) (l : List UInt8) (c : List UInt8) : (a ++ BA l) ++ BA c = a ++ BA (l ++ c) := by rw [ba_assoc]; congr 1
theorem ba_nil (a : ByteArray) : a ++ BA [] = a := L_inj (by rw [L_cat, L_BA, List.append_nil])
set_option maxHeartbeats 16000000 in
theorem rline_repl (k node n ta turn : Int) (sb : ByteArray) (err : Int) (by_ : ByteArray) (num : Int) (hbs : by_.size ≤ 3000) (h0 : -9223372036854775808 ≤ node) (h1 : node ≤ 9223372036854775807) (he : err = 0) (hk1 : k = 1) (hby : by_ ≠ ⟨⟨[]⟩⟩)
    (o2 : ByteArray) (ho2 : o2 = line2 k node err) (r : ByteArray) (hr0 : r = o2 ++ (spc ++ lineB by_)) : CSem Tryz.prog (.fn 6) [.agg (stepC k node n ta turn sb), .agg (ansC err by_ num)] (.pure [aS r]) := by
  refine of_text gam_ok mixed { n := 93, cuts := [7] } Tryz.func6 (by kernel_rfl) rfl rfl (by simp) (by decide) fun F C D hF hC hD => ?_
  obtain ⟨w1, hw1⟩ : ∃ w, w = wordB kW k := ⟨_, rfl⟩
  have hwd1 := hC _ _ _ (word13_ok kW (by decide) _ rfl k w1 hw1)
  obtain ⟨w2, hw2⟩ : ∃ w, w = wordB eW err := ⟨_, rfl⟩
  have hwd2 := hC _ _ _ (word13_ok eW (by decide) _ rfl err w2 hw2)
  obtain ⟨q1, hq1⟩ : ∃ q : Bool, q = decide (k < 4) := ⟨_, rfl⟩
  obtain ⟨q2, hq2⟩ : ∃ q : Bool, q = decide (k > 6) := ⟨_, rfl⟩
  have l4 : F .cmp .lss k 4 = q1 := by rw [hq1]; exact lsF hF k 4
  have g6 : F .cmp .gtr k 6 = q2 := by rw [hq2]; exact gtF hF k 6
  obtain ⟨d1, hd1⟩ : ∃ d, d = itoaB node := ⟨_, rfl⟩
  have hit1 := hC _ _ _ (digs_ok node h0 h1 d1 hd1)
  obtain ⟨o1, ho1⟩ : ∃ o, o = line1 k node := ⟨_, rfl⟩
  have z1 : w1.size ≤ 10 := by rw [hw1]; exact kW_size k
  have z2 : w2.size ≤ 10 := by rw [hw2]; exact eW_size err
  have z3 : d1.size ≤ 21 := by rw [hd1]; exact itoa_size node h0 h1
  have zo1 : o1.size ≤ 40 := by rw [ho1]; exact line1_size k node h0 h1
  have zo2 : o2.size ≤ 60 := by rw [ho2]; exact line2_size k node err h0 h1
  have zs : spc.size ≤ 1 := by decide
  obtain ⟨x1, hx1⟩ : ∃ x, F .cat w1 spc = x := ⟨_, rfl⟩
  have zx1 : x1.size ≤ 11 := by rw [← hx1, catA hF, ba_app]; omega
  obtain ⟨x2, hx2⟩ : ∃ x, F .cat o1 spc = x := ⟨_, rfl⟩
  have zx2 : x2.size ≤ 41 := by rw [← hx2, catA hF, ba_app]; omega
  have b1 := catO hF z1 zs (by decide)
  have b2 := catO hF zx1 z3 (by decide)
  have b3 := catO hF zo1 zs (by decide)
  have b4 := catO hF zx2 z2 (by decide)
  have e2 : F .cat x2 w2 = o2 := by rw [ho2, ← hx2, catA hF, catA hF, ho1, hw2, ba_assoc]; rfl
  have e1t : ¬ (q1 = true ∨ q2 = true) → w1 = o1 := fun h => by
    rw [hq1, hq2] at h
    rw [ho1, hw1]; unfold line1; rw [if_pos (by simp only [decide_eq_true_eq] at h; omega)]
  have e1f : (q1 = true ∨ q2 = true) → F .cat x1 d1 = o1 := fun h => by
    rw [hq1, hq2] at h
    rw [ho1, ← hx1, catA hF, catA hF, hw1, hd1, ba_assoc]; unfold line1; rw [if_neg (by simp only [decide_eq_true_eq] at h; omega)]
  clear hw1 hw2 hd1 ho1 z1 z2 z3 zo1 zx1 zx2 hq1 hq2 ho2
  obtain ⟨l, hs⟩ : ∃ l, l = L by_ := ⟨_, rfl⟩
  obtain ⟨sn, hsn⟩ : ∃ sn : Int, F .slen by_ = sn := ⟨_, rfl⟩
  have esn : sn = (l.length : Int) := by rw [← hsn, slenF hF, L_size, hs]
  have hll : l.length ≤ 3000 := by rw [hs, ← L_size]; exact hbs
  have te : F .cmp .neq err 0 = false := by rw [neF hF]; exact decide_eq_false (by omega)
  have t1 : F .cmp .eql k 1 = true := by rw [eqF hF]; exact decide_eq_true hk1
  have ts : F .scmp .neq by_ ⟨⟨[]⟩⟩ = true := by rw [sneF hF]; exact decide_eq_true hby
  have t3 : F .cmp .eql k 3 = false := by rw [eqF hF]; exact decide_eq_false (by omega)
  have t4 : F .cmp .eql k 4 = false := by rw [eqF hF]; exact decide_eq_false (by omega)
  have t10 : F .cmp .eql k 10 = false := by rw [eqF hF]; exact decide_eq_false (by omega)
  obtain ⟨y1, hy1⟩ : ∃ x, F .cat o2 spc = x := ⟨_, rfl⟩
  have zy1 : y1.size ≤ 61 := by rw [← hy1, catA hF, ba_app]; omega
  have b5 := catO hF zo2 zs (by decide)
  have hr : r = y1 ++ BA (l.map swapB) := by rw [hr0, ← hy1, catA hF, ba_assoc, hs]; rfl
  clear he hk1 hby hr0 zo2 zs hbs
  cases q1 with
  | true =>
    have e1 := e1f (.inl rfl)
    clear e1t e1f
    cbv
    refine ⟨_, hwd1, ?_⟩
    cbv
    refine cT (l4) ?_
    cbv
    refine ⟨b1, ?_⟩
    cbv
    rw [hx1]
    refine ⟨_, hit1, ?_⟩
    cbv
    refine ⟨b2, ?_⟩
    cbv
    rw [e1]
    refine ⟨b3, ?_⟩
    cbv
    rw [hx2]
    refine ⟨_, hwd2, ?_⟩
    cbv
    refine ⟨b4, ?_⟩
    cbv
    rw [e2]
    refine ⟨{ slots := [(7, aS o2), (3, .ept (ansC err by_ num) 0), (2, .ept (stepC k node n ta turn sb) 0)], obs := [], ctr := 0 }, (le_of [] (by simp [leSl, leOb, injK, memK, parK, noTup, lk, rn0, rnA, plain] <;> first | rfl | decide)), hD _ _ _ ?_⟩
    cbv
    refine bF (te) ?_
    cbv
    refine bT (t1) ?_
    cbv
    rw [ts]
    refine bT (rfl) ?_
    cbv
    refine ⟨b5, ?_⟩
    cbv
    rw [hy1]
    refine ⟨Nat × Int × ByteArray, fun x => { slots := [(8, aI x.2.1), (7, aS x.2.2), (3, .ept (ansC err by_ num) 0), (2, .ept (stepC k node n ta turn sb) 0)], obs := [], ctr := 0 }, fun x => x.2.1 = (x.1 : Int) ∧ x.1 ≤ l.length ∧ x.2.2 = y1 ++ BA ((l.take x.1).map swapB), fun x => l.length - x.1, ⟨(0, 0, y1), ⟨rfl, Nat.zero_le _, (ba_nil y1).symm⟩, (le_of [] (by simp [leSl, leOb, injK, memK, parK, noTup, lk, rn0, rnA, plain] <;> first | rfl | decide))⟩, fun x hx => ?_⟩
    obtain ⟨i, i', o⟩ := x
    obtain ⟨ei, hi, eo⟩ := hx
    simp only at ei hi eo
    have esn : sn = (l.length : Int) := esn
    have hs : l = L by_ := hs
    have hr : r = y1 ++ BA (l.map swapB) := hr
    have zy1 : y1.size ≤ 61 := zy1
    have hll : l.length ≤ 3000 := hll
    have tl := ltF hF i l.length i' sn ei esn
    obtain ⟨i2, hi2⟩ : ∃ i2, F .ar .add .i64 i' 1 = i2 := ⟨_, rfl⟩
    have ei2 : i2 = ((i + 1 : Nat) : Int) := hi2.symm.trans (incF hF ei (by omega))
    by_cases hil : i < l.length
    · have tl : F .cmp .lss i' sn = true := tl.2 hil
      obtain ⟨c, hc⟩ : ∃ c, l[i]? = some c := ⟨_, List.getElem?_eq_getElem hil⟩
      obtain ⟨xs, hxs⟩ : ∃ xs, xs = by_.extract i (i + 1) := ⟨_, rfl⟩
      have hxc : xs = BA [c] := by
        rw [hxs, ← BA_L (by_.extract i (i + 1)), L_extract, ← hs, drop_at hc, show i + 1 - i = 1 by omega]
        rfl
      have w1 : F .scmp .eql xs (BA [13]) = decide (c = 13) := by rw [seqF hF, hxc]; congr 1; exact propext ⟨fun h => by have := BA_inj' h; simpa using this, fun h => by rw [h]⟩
      have w2 : F .scmp .eql xs (BA [10]) = decide (c = 10) := by rw [seqF hF, hxc]; congr 1; exact propext ⟨fun h => by have := BA_inj' h; simpa using this, fun h => by rw [h]⟩
      have osz : o.size ≤ 1000000 := by rw [eo, ba_app, BA_size, List.length_map, List.length_take]; omega
      have htk : (l.take (i + 1)).map swapB = (l.take i).map swapB ++ [swapB c] := by rw [take_at hc, List.map_append]; rfl
      have e1 : i' = (i : Int) := ei
      have hb : ((i + 1 : Nat) : Int) ≤ F .slen by_ := by rw [hsn, esn]; exact Int.ofNat_le.2 hil
      by_cases h13 : c = 13
      · have w1 : F .scmp .eql xs (BA [13]) = true := by rw [w1]; exact decide_eq_true h13
        obtain ⟨o3, ho2'⟩ : ∃ o2, F .cat o (BA [124]) = o2 := ⟨_, rfl⟩
        have eo3 : o3 = y1 ++ BA ((l.take (i + 1)).map swapB) := by rw [← ho2', catA hF, eo, ba_BA, htk]; unfold swapB; rw [if_pos (.inl h13)]
        have hcs := catS hF (a := o) (b := BA [124]) (by rw [sz1]; omega)
        unfold BA at w1 ho2' hcs
        clear hr htk w2 hxc
        cbv
        rw [hsn]
        refine bT (tl) ?_
        cbv
        refine ⟨i, i + 1, by rw [e1]; rfl, by rw [hi2, ei2]; rfl, Nat.le_succ _, hb, xs, hxs, ?_⟩
        cbv
        refine cT (w1) ?_
        cbv
        refine ⟨hcs, ?_⟩
        cbv
        rw [ho2', hi2]
        exact ⟨(i + 1, i2, o3), ⟨ei2, hil, eo3⟩, (show l.length - (i + 1) < l.length - i by omega), (le_of [] (by simp [leSl, leOb, injK, memK, parK, noTup, lk, rn0, rnA, plain] <;> first | rfl | decide))⟩
      · have w1 : F .scmp .eql xs (BA [13]) = false := by rw [w1]; exact decide_eq_false h13
        by_cases h10 : c = 10
        · have w2 : F .scmp .eql xs (BA [10]) = true := by rw [w2]; exact decide_eq_true h10
          obtain ⟨o3, ho2'⟩ : ∃ o2, F .cat o (BA [124]) = o2 := ⟨_, rfl⟩
          have eo3 : o3 = y1 ++ BA ((l.take (i + 1)).map swapB) := by rw [← ho2', catA hF, eo, ba_BA, htk]; unfold swapB; rw [if_pos (.inr h10)]
          have hcs := catS hF (a := o) (b := BA [124]) (by rw [sz1]; omega)
          unfold BA at w1 w2 ho2' hcs
          clear hr htk hxc
          cbv
          rw [hsn]
          refine bT (tl) ?_
          cbv
          refine ⟨i, i + 1, by rw [e1]; rfl, by rw [hi2, ei2]; rfl, Nat.le_succ _, hb, xs, hxs, ?_⟩
          cbv
          refine cF (w1) ?_
          cbv
          refine bT (w2) ?_
          cbv
          refine ⟨hcs, ?_⟩
          cbv
          rw [ho2', hi2]
          exact ⟨(i + 1, i2, o3), ⟨ei2, hil, eo3⟩, (show l.length - (i + 1) < l.length - i by omega), (le_of [] (by simp [leSl, leOb, injK, memK, parK, noTup, lk, rn0, rnA, plain] <;> first | rfl | decide))⟩
        · have w2 : F .scmp .eql xs (BA [10]) = false := by rw [w2]; exact decide_eq_false h10
          obtain ⟨o3, ho2'⟩ : ∃ o2, F .cat o xs = o2 := ⟨_, rfl⟩
          have eo3 : o3 = y1 ++ BA ((l.take (i + 1)).map swapB) := by rw [← ho2', catA hF, eo, hxc, ba_BA, htk]; unfold swapB; rw [if_neg (by simp [h13, h10])]
          have hcs := catS hF (a := o) (b := xs) (by rw [hxc, sz1]; omega)
          unfold BA at w1 w2
          clear hr htk hxc
          cbv
          rw [hsn]
          refine bT (tl) ?_
          cbv
          refine ⟨i, i + 1, by rw [e1]; rfl, by rw [hi2, ei2]; rfl, Nat.le_succ _, hb, xs, hxs, ?_⟩
          cbv
          refine cF (w1) ?_
          cbv
          refine bF (w2) ?_
          cbv
          refine ⟨hcs, ?_⟩
          cbv
          rw [ho2', hi2]
          exact ⟨(i + 1, i2, o3), ⟨ei2, hil, eo3⟩, (show l.length - (i + 1) < l.length - i by omega), (le_of [] (by simp [leSl, leOb, injK, memK, parK, noTup, lk, rn0, rnA, plain] <;> first | rfl | decide))⟩
    · have tl : F .cmp .lss i' sn = false := by cases h : F .cmp .lss i' sn with | true => exact absurd (tl.1 h) hil | false => rfl
      have e3 : o = r := by rw [eo, hr, List.take_of_length_le (by omega)]
      rw [e3]
      clear hr eo e3
      cbv
      rw [hsn]
      refine bF (tl) ?_
      cbv
      refine cF (t3) ?_
      cbv
      refine cF (t4) ?_
      cbv
      rw [t10]
      refine bF (rfl) ?_
      cbv
      simp
  | false =>
    cases q2 with
    | true =>
      have e1 := e1f (.inr rfl)
      clear e1t e1f
      cbv
      refine ⟨_, hwd1, ?_⟩
      cbv
      refine cF (l4) ?_
      cbv
      rw [g6]
      refine bT (rfl) ?_
      cbv
      refine ⟨b1, ?_⟩
      cbv
      rw [hx1]
      refine ⟨_, hit1, ?_⟩
      cbv
      refine ⟨b2, ?_⟩
      cbv
      rw [e1]
      refine ⟨b3, ?_⟩
      cbv
      rw [hx2]
      refine ⟨_, hwd2, ?_⟩
      cbv
      refine ⟨b4, ?_⟩
      cbv
      rw [e2]
      refine ⟨{ slots := [(7, aS o2), (3, .ept (ansC err by_ num) 0), (2, .ept (stepC k node n ta turn sb) 0)], obs := [], ctr := 0 }, (le_of [] (by simp [leSl, leOb, injK, memK, parK, noTup, lk, rn0, rnA, plain] <;> first | rfl | decide)), hD _ _ _ ?_⟩
      cbv
      refine bF (te) ?_
      cbv
      refine bT (t1) ?_
      cbv
      rw [ts]
      refine bT (rfl) ?_
      cbv
      refine ⟨b5, ?_⟩
      cbv
      rw [hy1]
      refine ⟨Nat × Int × ByteArray, fun x => { slots := [(8, aI x.2.1), (7, aS x.2.2), (3, .ept (ansC err by_ num) 0), (2, .ept (stepC k node n ta turn sb) 0)], obs := [], ctr := 0 }, fun x => x.2.1 = (x.1 : Int) ∧ x.1 ≤ l.length ∧ x.2.2 = y1 ++ BA ((l.take x.1).map swapB), fun x => l.length - x.1, ⟨(0, 0, y1), ⟨rfl, Nat.zero_le _, (ba_nil y1).symm⟩, (le_of [] (by simp [leSl, leOb, injK, memK, parK, noTup, lk, rn0, rnA, plain] <;> first | rfl | decide))⟩, fun x hx => ?_⟩
      obtain ⟨i, i', o⟩ := x
      obtain ⟨ei, hi, eo⟩ := hx
      simp only at ei hi eo
      have esn : sn = (l.length : Int) := esn
      have hs : l = L by_ := hs
      have hr : r = y1 ++ BA (l.map swapB) := hr
      have zy1 : y1.size ≤ 61 := zy1
      have hll : l.length ≤ 3000 := hll
      have tl := ltF hF i l.length i' sn ei esn
      obtain ⟨i2, hi2⟩ : ∃ i2, F .ar .add .i64 i' 1 = i2 := ⟨_, rfl⟩
      have ei2 : i2 = ((i + 1 : Nat) : Int) := hi2.symm.trans (incF hF ei (by omega))
      by_cases hil : i < l.length
      · have tl : F .cmp .lss i' sn = true := tl.2 hil
        obtain ⟨c, hc⟩ : ∃ c, l[i]? = some c := ⟨_, List.getElem?_eq_getElem hil⟩
        obtain ⟨xs, hxs⟩ : ∃ xs, xs = by_.extract i (i + 1) := ⟨_, rfl⟩
        have hxc : xs = BA [c] := by
          rw [hxs, ← BA_L (by_.extract i (i + 1)), L_extract, ← hs, drop_at hc, show i + 1 - i = 1 by omega]
          rfl
        have w1 : F .scmp .eql xs (BA [13]) = decide (c = 13) := by rw [seqF hF, hxc]; congr 1; exact propext ⟨fun h => by have := BA_inj' h; simpa using this, fun h => by rw [h]⟩
        have w2 : F .scmp .eql xs (BA [10]) = decide (c = 10) := by rw [seqF hF, hxc]; congr 1; exact propext ⟨fun h => by have := BA_inj' h; simpa using this, fun h => by rw [h]⟩
        have osz : o.size ≤ 1000000 := by rw [eo, ba_app, BA_size, List.length_map, List.length_take]; omega
        have htk : (l.take (i + 1)).map swapB = (l.take i).map swapB ++ [swapB c] := by rw [take_at hc, List.map_append]; rfl
        have e1 : i' = (i : Int) := ei
        have hb : ((i + 1 : Nat) : Int) ≤ F .slen by_ := by rw [hsn, esn]; exact Int.ofNat_le.2 hil
        by_cases h13 : c = 13
        · have w1 : F .scmp .eql xs (BA [13]) = true := by rw [w1]; exact decide_eq_true h13
          obtain ⟨o3, ho2'⟩ : ∃ o2, F .cat o (BA [124]) = o2 := ⟨_, rfl⟩
          have eo3 : o3 = y1 ++ BA ((l.take (i + 1)).map swapB) := by rw [← ho2', catA hF, eo, ba_BA, htk]; unfold swapB; rw [if_pos (.inl h13)]
          have hcs := catS hF (a := o) (b := BA [124]) (by rw [sz1]; omega)
          unfold BA at w1 ho2' hcs
          clear hr htk w2 hxc
          cbv
          rw [hsn]
          refine bT (tl) ?_
          cbv
          refine ⟨i, i + 1, by rw [e1]; rfl, by rw [hi2, ei2]; rfl, Nat.le_succ _, hb, xs, hxs, ?_⟩
          cbv
          refine cT (w1) ?_
          cbv
          refine ⟨hcs, ?_⟩
          cbv
          rw [ho2', hi2]
          exact ⟨(i + 1, i2, o3), ⟨ei2, hil, eo3⟩, (show l.length - (i + 1) < l.length - i by omega), (le_of [] (by simp [leSl, leOb, injK, memK, parK, noTup, lk, rn0, rnA, plain] <;> first | rfl | decide))⟩
        · have w1 : F .scmp .eql xs (BA [13]) = false := by rw [w1]; exact decide_eq_false h13
          by_cases h10 : c = 10
          · have w2 : F .scmp .eql xs (BA [10]) = true := by rw [w2]; exact decide_eq_true h10
            obtain ⟨o3, ho2'⟩ : ∃ o2, F .cat o (BA [124]) = o2 := ⟨_, rfl⟩
            have eo3 : o3 = y1 ++ BA ((l.take (i + 1)).map swapB) := by rw [← ho2', catA hF, eo, ba_BA, htk]; unfold swapB; rw [if_pos (.inr h10)]
            have hcs := catS hF (a := o) (b := BA [124]) (by rw [sz1]; omega)
            unfold BA at w1 w2 ho2' hcs
            clear hr htk hxc
            cbv
            rw [hsn]
            refine bT (tl) ?_
            cbv
            refine ⟨i, i + 1, by rw [e1]; rfl, by rw [hi2, ei2]; rfl, Nat.le_succ _, hb, xs, hxs, ?_⟩
            cbv
            refine cF (w1) ?_
            cbv
            refine bT (w2) ?_
            cbv
            refine ⟨hcs, ?_⟩
            cbv
            rw [ho2', hi2]
            exact ⟨(i + 1, i2, o3), ⟨ei2, hil, eo3⟩, (show l.length - (i + 1) < l.length - i by omega), (le_of [] (by simp [leSl, leOb, injK, memK, parK, noTup, lk, rn0, rnA, plain] <;> first | rfl | decide))⟩
          · have w2 : F .scmp .eql xs (BA [10]) = false := by rw [w2]; exact decide_eq_false h10
            obtain ⟨o3, ho2'⟩ : ∃ o2, F .cat o xs = o2 := ⟨_, rfl⟩
            have eo3 : o3 = y1 ++ BA ((l.take (i + 1)).map swapB) := by rw [← ho2', catA hF, eo, hxc, ba_BA, htk]; unfold swapB; rw [if_neg (by simp [h13, h10])]
            have hcs := catS hF (a := o) (b := xs) (by rw [hxc, sz1]; omega)
            unfold BA at w1 w2
            clear hr htk hxc
            cbv
            rw [hsn]
            refine bT (tl) ?_
            cbv
            refine ⟨i, i + 1, by rw [e1]; rfl, by rw [hi2, ei2]; rfl, Nat.le_succ _, hb, xs, hxs, ?_⟩
            cbv
            refine cF (w1) ?_
            cbv
            refine bF (w2) ?_
            cbv
            refine ⟨hcs, ?_⟩
            cbv
            rw [ho2', hi2]
            exact ⟨(i + 1, i2, o3), ⟨ei2, hil, eo3⟩, (show l.length - (i + 1) < l.length - i by omega), (le_of [] (by simp [leSl, leOb, injK, memK, parK, noTup, lk, rn0, rnA, plain] <;> first | rfl | decide))⟩
      · have tl : F .cmp .lss i' sn = false := by cases h : F .cmp .lss i' sn with | true => exact absurd (tl.1 h) hil | false => rfl
        have e3 : o = r := by rw [eo, hr, List.take_of_length_le (by omega)]
        rw [e3]
        clear hr eo e3
        cbv
        rw [hsn]
        refine bF (tl) ?_
        cbv
        refine cF (t3) ?_
        cbv
        refine cF (t4) ?_
        cbv
        rw [t10]
        refine bF (rfl) ?_
        cbv
        simp
    | false =>
      have e1 := e1t (by simp)
      subst e1
      clear e1t e1f
      cbv
      refine ⟨_, hwd1, ?_⟩
      cbv
      refine cF (l4) ?_
      cbv
      rw [g6]
      refine bF (rfl) ?_
      cbv
      refine ⟨b3, ?_⟩
      cbv
      rw [hx2]
      refine ⟨_, hwd2, ?_⟩
      cbv
      refine ⟨b4, ?_⟩
      cbv
      rw [e2]
      refine ⟨{ slots := [(7, aS o2), (3, .ept (ansC err by_ num) 0), (2, .ept (stepC k node n ta turn sb) 0)], obs := [], ctr := 0 }, (le_of [] (by simp [leSl, leOb, injK, memK, parK, noTup, lk, rn0, rnA, plain] <;> first | rfl | decide)), hD _ _ _ ?_⟩
      cbv
      refine bF (te) ?_
      cbv
      refine bT (t1) ?_
      cbv
      rw [ts]
      refine bT (rfl) ?_
      cbv
      refine ⟨b5, ?_⟩
      cbv
      rw [hy1]
      refine ⟨Nat × Int × ByteArray, fun x => { slots := [(8, aI x.2.1), (7, aS x.2.2), (3, .ept (ansC err by_ num) 0), (2, .ept (stepC k node n ta turn sb) 0)], obs := [], ctr := 0 }, fun x => x.2.1 = (x.1 : Int) ∧ x.1 ≤ l.length ∧ x.2.2 = y1 ++ BA ((l.take x.1).map swapB), fun x => l.length - x.1, ⟨(0, 0, y1), ⟨rfl, Nat.zero_le _, (ba_nil y1).symm⟩, (le_of [] (by simp [leSl, leOb, injK, memK, parK, noTup, lk, rn0, rnA, plain] <;> first | rfl | decide))⟩, fun x hx => ?_⟩
      obtain ⟨i, i', o⟩ := x
      obtain ⟨ei, hi, eo⟩ := hx
      simp only at ei hi eo
      have esn : sn = (l.length : Int) := esn
      have hs : l = L by_ := hs
      have hr : r = y1 ++ BA (l.map swapB) := hr
      have zy1 : y1.size ≤ 61 := zy1
      have hll : l.length ≤ 3000 := hll
      have tl := ltF hF i l.length i' sn ei esn
      obtain ⟨i2, hi2⟩ : ∃ i2, F .ar .add .i64 i' 1 = i2 := ⟨_, rfl⟩
      have ei2 : i2 = ((i + 1 : Nat) : Int) := hi2.symm.trans (incF hF ei (by omega))
      by_cases hil : i < l.length
      · have tl : F .cmp .lss i' sn = true := tl.2 hil
        obtain ⟨c, hc⟩ : ∃ c, l[i]? = some c := ⟨_, List.getElem?_eq_getElem hil⟩
        obtain ⟨xs, hxs⟩ : ∃ xs, xs = by_.extract i (i + 1) := ⟨_, rfl⟩
        have hxc : xs = BA [c] := by
          rw [hxs, ← BA_L (by_.extract i (i + 1)), L_extract, ← hs, drop_at hc, show i + 1 - i = 1 by omega]
          rfl
        have w1 : F .scmp .eql xs (BA [13]) = decide (c = 13) := by rw [seqF hF, hxc]; congr 1; exact propext ⟨fun h => by have := BA_inj' h; simpa using this, fun h => by rw [h]⟩
        have w2 : F .scmp .eql xs (BA [10]) = decide (c = 10) := by rw [seqF hF, hxc]; congr 1; exact propext ⟨fun h => by have := BA_inj' h; simpa using this, fun h => by rw [h]⟩
        have osz : o.size ≤ 1000000 := by rw [eo, ba_app, BA_size, List.length_map, List.length_take]; omega
        have htk : (l.take (i + 1)).map swapB = (l.take i).map swapB ++ [swapB c] := by rw [take_at hc, List.map_append]; rfl
        have e1 : i' = (i : Int) := ei
        have hb : ((i + 1 : Nat) : Int) ≤ F .slen by_ := by rw [hsn, esn]; exact Int.ofNat_le.2 hil
        by_cases h13 : c = 13
        · have w1 : F .scmp .eql xs (BA [13]) = true := by rw [w1]; exact decide_eq_true h13
          obtain ⟨o3, ho2'⟩ : ∃ o2, F .cat o (BA [124]) = o2 := ⟨_, rfl⟩
          have eo3 : o3 = y1 ++ BA ((l.take (i + 1)).map swapB) := by rw [← ho2', catA hF, eo, ba_BA, htk]; unfold swapB; rw [if_pos (.inl h13)]
          have hcs := catS hF (a := o) (b := BA [124]) (by rw [sz1]; omega)
          unfold BA at w1 ho2' hcs
          clear hr htk w2 hxc
          cbv
          rw [hsn]
          refine bT (tl) ?_
          cbv
          refine ⟨i, i + 1, by rw [e1]; rfl, by rw [hi2, ei2]; rfl, Nat.le_succ _, hb, xs, hxs, ?_⟩
          cbv
          refine cT (w1) ?_
          cbv
          refine ⟨hcs, ?_⟩
          cbv
          rw [ho2', hi2]
          exact ⟨(i + 1, i2, o3), ⟨ei2, hil, eo3⟩, (show l.length - (i + 1) < l.length - i by omega), (le_of [] (by simp [leSl, leOb, injK, memK, parK, noTup, lk, rn0, rnA, plain] <;> first | rfl | decide))⟩
        · have w1 : F .scmp .eql xs (BA [13]) = false := by rw [w1]; exact decide_eq_false h13
          by_cases h10 : c = 10
          · have w2 : F .scmp .eql xs (BA [10]) = true := by rw [w2]; exact decide_eq_true h10
            obtain ⟨o3, ho2'⟩ : ∃ o2, F .cat o (BA [124]) = o2 := ⟨_, rfl⟩
            have eo3 : o3 = y1 ++ BA ((l.take (i + 1)).map swapB) := by rw [← ho2', catA hF, eo, ba_BA, htk]; unfold swapB; rw [if_pos (.inr h10)]
            have hcs := catS hF (a := o) (b := BA [124]) (by rw [sz1]; omega)
            unfold BA at w1 w2 ho2' hcs
            clear hr htk hxc
            cbv
            rw [hsn]
            refine bT (tl) ?_
            cbv
            refine ⟨i, i + 1, by rw [e1]; rfl, by rw [hi2, ei2]; rfl, Nat.le_succ _, hb, xs, hxs, ?_⟩
            cbv
            refine cF (w1) ?_
            cbv
            refine bT (w2) ?_
            cbv
            refine ⟨hcs, ?_⟩
            cbv
            rw [ho2', hi2]
            exact ⟨(i + 1, i2, o3), ⟨ei2, hil, eo3⟩, (show l.length - (i + 1) < l.length - i by omega), (le_of [] (by simp [leSl, leOb, injK, memK, parK, noTup, lk, rn0, rnA, plain] <;> first | rfl | decide))⟩
          · have w2 : F .scmp .eql xs (BA [10]) = false := by rw [w2]; exact decide_eq_false h10
            obtain ⟨o3, ho2'⟩ : ∃ o2, F .cat o xs = o2 := ⟨_, rfl⟩
            have eo3 : o3 = y1 ++ BA ((l.take (i + 1)).map swapB) := by rw [← ho2', catA hF, eo, hxc, ba_BA, htk]; unfold swapB; rw [if_neg (by simp [h13, h10])]
            have hcs := catS hF (a := o) (b := xs) (by rw [hxc, sz1]; omega)
            unfold BA at w1 w2
            clear hr htk hxc
            cbv
            rw [hsn]
            refine bT (tl) ?_
            cbv
            refine ⟨i, i + 1, by rw [e1]; rfl, by rw [hi2, ei2]; rfl, Nat.le_succ _, hb, xs, hxs, ?_⟩
            cbv
            refine cF (w1) ?_
            cbv
            refine bF (w2) ?_
            cbv
            refine ⟨hcs, ?_⟩
            cbv
            rw [ho2', hi2]
            exact ⟨(i + 1, i2, o3), ⟨ei2, hil, eo3⟩, (show l.length - (i + 1) < l.length - i by omega), (le_of [] (by simp [leSl, leOb, injK, memK, parK, noTup, lk, rn0, rnA, plain] <;> first | rfl | decide))⟩
      · have tl : F .cmp .lss i' sn = false := by cases h : F .cmp .lss i' sn with | true => exact absurd (tl.1 h) hil | false => rfl
        have e3 : o = r := by rw [eo, hr, List.take_of_length_le (by omega)]
        rw [e3]
        clear hr eo e3
        cbv
        rw [hsn]
        refine bF (tl) ?_
        cbv
        refine cF (t3) ?_
        cbv
        refine cF (t4) ?_
        cbv
        rw [t10]
        refine bF (rfl) ?_
        cbv
        simp
end Go.Proofs.YthepmpfkkhckpaaGreatDoor
