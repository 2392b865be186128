import Derived.Test.YtfphhpabfeepmaaDoorS3
import Derived.Test.YtfphhpabfeepmaaDoorS2
import Derived.Test.YtfphhpabfeepmaaDoorQ8
set_option linter.unusedSimpArgs false
set_option linter.unusedVariables false
namespace Go.Proofs.YtfphhpabfeepmaaDoor
open Go Go.RowKit Am

theorem BA_inj' {a b : List UInt8} (h : BA a = BA b) : a = b := by rw [← L_BA a, ← L_BA b, h]
theorem drop_cons' {l : List UInt8} {i : Nat} {c : UInt8} (h : l[i]? = some c) : l.drop i = c :: l.drop (i + 1) := by
  have hlt := (List.getElem?_eq_some_iff.1 h).1
  rw [List.drop_eq_getElem_cons hlt]; congr 1; exact (List.getElem?_eq_some_iff.1 h).2
def lnc (c : UInt8) : UInt8 := if c = 13 then 32 else if c = 10 then 32 else c
theorem rline_ok (s : ByteArray) (l : List UInt8) (hs : l = L s) (hl : l.length ≤ 1000000) (r : ByteArray) (hr : r = BA (lnL l)) : CSem Tryd.prog (.fn 36) [aS s] (.pure [aS r]) := by
  refine of_text gam_ok mixed { n := 27 } Tryd.func36 (by kernel_rfl) rfl rfl (by simp) (by decide) fun F C D hF hC hD => ?_
  obtain ⟨sn, hsn⟩ : ∃ sn : Int, F .slen s = sn := ⟨_, rfl⟩
  have esn : sn = (l.length : Int) := by rw [← hsn, slenF hF, L_size, hs]
  cbv
  refine ⟨Nat × Int × ByteArray, fun x => { slots := [(4, aI x.2.1), (3, aS x.2.2), (0, aS s)], obs := [], ctr := 0 }, fun x => x.2.1 = (x.1 : Int) ∧ x.1 ≤ l.length ∧ x.2.2 = BA (lnL (l.take x.1)), fun x => l.length - x.1, ⟨(0, 0, ⟨#[]⟩), ⟨rfl, Nat.zero_le _, rfl⟩, (le_of [] (by simp [leSl, leOb, injK, memK, parK, noTup, lk, rn0, rnA, plain] <;> first | rfl | decide))⟩, fun x hx => ?_⟩
  obtain ⟨i, i', o⟩ := x
  obtain ⟨ei, hi, eo⟩ := hx
  simp only at ei hi eo
  have esn : sn = (l.length : Int) := esn
  have hs : l = L s := hs
  have tl := ltF hF i l.length i' sn ei esn
  obtain ⟨i2, hi2⟩ : ∃ i2, F .ar .add .i64 i' 1 = i2 := ⟨_, rfl⟩
  have ei2 : i2 = ((i + 1 : Nat) : Int) := hi2.symm.trans (incF hF ei (by omega))
  by_cases hil : i < l.length
  · have tl : F .cmp .lss i' sn = true := tl.2 hil
    obtain ⟨c, hc⟩ : ∃ c, l[i]? = some c := ⟨_, List.getElem?_eq_getElem hil⟩
    obtain ⟨xs, hxs⟩ : ∃ xs, xs = s.extract i (i + 1) := ⟨_, rfl⟩
    have hxc : xs = BA [c] := by
      rw [hxs, ← BA_L (s.extract i (i + 1)), L_extract, ← hs, drop_cons' hc, show i + 1 - i = 1 by omega]
      rfl
    have w1 : F .scmp .eql xs (BA [13]) = decide (c = 13) := by rw [seqF hF, hxc]; congr 1; exact propext ⟨fun h => by have := BA_inj' h; simpa using this, fun h => by rw [h]⟩
    have w2 : F .scmp .eql xs (BA [10]) = decide (c = 10) := by rw [seqF hF, hxc]; congr 1; exact propext ⟨fun h => by have := BA_inj' h; simpa using this, fun h => by rw [h]⟩
    have osz : o.size ≤ 1000000 := by rw [eo, BA_size, ln_len, List.length_take]; omega
    have htk : lnL (l.take (i + 1)) = lnL (l.take i) ++ [lnc c] := by
      unfold lnL
      rw [List.take_add_one, hc]
      simp [lnc]
    have e1 : i' = (i : Int) := ei
    have hb : ((i + 1 : Nat) : Int) ≤ F .slen s := by rw [hsn, esn]; exact Int.ofNat_le.2 hil
    by_cases h13 : c = 13
    · have w1 : F .scmp .eql xs (BA [13]) = true := by rw [w1]; exact decide_eq_true h13
      obtain ⟨o2, ho2⟩ : ∃ o2, F .cat o (BA [32]) = o2 := ⟨_, rfl⟩
      have eo2 : o2 = BA (lnL (l.take (i + 1))) := by rw [← ho2, catF hF, eo, htk, lnc, if_pos h13]; rfl
      have hcs := catS hF (a := o) (b := BA [32]) (by rw [sz1]; omega)
      unfold BA at w1 ho2 hcs
      cbv
      rw [hsn]
      refine bT (tl) ?_
      cbv
      refine ⟨i, i + 1, by rw [e1]; rfl, by rw [hi2, ei2]; rfl, Nat.le_succ _, hb, xs, hxs, ?_⟩
      cbv
      refine cT (w1) ?_
      cbv
      refine ⟨hcs, ?_⟩
      cbv
      rw [ho2, hi2]
      exact ⟨(i + 1, i2, o2), ⟨ei2, hil, eo2⟩, (show l.length - (i + 1) < l.length - i by omega), (le_of [] (by simp [leSl, leOb, injK, memK, parK, noTup, lk, rn0, rnA, plain] <;> first | rfl | decide))⟩
    · have w1 : F .scmp .eql xs (BA [13]) = false := by rw [w1]; exact decide_eq_false h13
      by_cases h10 : c = 10
      · have w2 : F .scmp .eql xs (BA [10]) = true := by rw [w2]; exact decide_eq_true h10
        obtain ⟨o2, ho2⟩ : ∃ o2, F .cat o (BA [32]) = o2 := ⟨_, rfl⟩
        have eo2 : o2 = BA (lnL (l.take (i + 1))) := by rw [← ho2, catF hF, eo, htk, lnc, if_neg h13, if_pos h10]; rfl
        have hcs := catS hF (a := o) (b := BA [32]) (by rw [sz1]; omega)
        unfold BA at w1 w2 ho2 hcs
        cbv
        rw [hsn]
        refine bT (tl) ?_
        cbv
        refine ⟨i, i + 1, by rw [e1]; rfl, by rw [hi2, ei2]; rfl, Nat.le_succ _, hb, xs, hxs, ?_⟩
        cbv
        refine cF (w1) ?_
        cbv
        refine bT (w2) ?_
        cbv
        refine ⟨hcs, ?_⟩
        cbv
        rw [ho2, hi2]
        exact ⟨(i + 1, i2, o2), ⟨ei2, hil, eo2⟩, (show l.length - (i + 1) < l.length - i by omega), (le_of [] (by simp [leSl, leOb, injK, memK, parK, noTup, lk, rn0, rnA, plain] <;> first | rfl | decide))⟩
      · have w2 : F .scmp .eql xs (BA [10]) = false := by rw [w2]; exact decide_eq_false h10
        obtain ⟨o2, ho2⟩ : ∃ o2, F .cat o xs = o2 := ⟨_, rfl⟩
        have eo2 : o2 = BA (lnL (l.take (i + 1))) := by rw [← ho2, catF hF, eo, hxc, htk, lnc, if_neg h13, if_neg h10]; rfl
        have hcs := catS hF (a := o) (b := xs) (by rw [hxc, sz1]; omega)
        unfold BA at w1 w2
        cbv
        rw [hsn]
        refine bT (tl) ?_
        cbv
        refine ⟨i, i + 1, by rw [e1]; rfl, by rw [hi2, ei2]; rfl, Nat.le_succ _, hb, xs, hxs, ?_⟩
        cbv
        refine cF (w1) ?_
        cbv
        refine bF (w2) ?_
        cbv
        refine ⟨hcs, ?_⟩
        cbv
        rw [ho2, hi2]
        exact ⟨(i + 1, i2, o2), ⟨ei2, hil, eo2⟩, (show l.length - (i + 1) < l.length - i by omega), (le_of [] (by simp [leSl, leOb, injK, memK, parK, noTup, lk, rn0, rnA, plain] <;> first | rfl | decide))⟩
  · have tl : F .cmp .lss i' sn = false := by cases h : F .cmp .lss i' sn with | true => exact absurd (tl.1 h) hil | false => rfl
    have e3 : o = r := by rw [eo, hr, List.take_of_length_le (by omega)]
    rw [e3]
    cbv
    rw [hsn]
    refine bF (tl) ?_
    cbv
    simp
theorem rbulk_ok (l : List UInt8) (hl : l.length ≤ 1000000) (s : ByteArray) (hs : s = BA l) (r : ByteArray) (hr : r = BA (bulkL l)) : CSem Tryd.prog (.fn 38) [aS s] (.pure [aS r]) := by
  refine of_text gam_ok mixed { n := 11 } Tryd.func38 (by kernel_rfl) rfl rfl (by simp) (by decide) fun F C D hF hC hD => ?_
  obtain ⟨n, hn⟩ : ∃ n : Int, F .slen s = n := ⟨_, rfl⟩
  have en : n = (l.length : Int) := by rw [← hn, slenF hF, hs, BA_size]
  obtain ⟨d, hd⟩ : ∃ d, d = itoaB n := ⟨_, rfl⟩
  have hit := hC _ _ _ (digs_ok n (by omega) (by omega) d hd)
  obtain ⟨x1, hx1⟩ : ∃ x1, F .cat (BA [36]) d = x1 := ⟨_, rfl⟩
  obtain ⟨x2, hx2⟩ : ∃ x2, F .cat x1 (BA [13, 10]) = x2 := ⟨_, rfl⟩
  obtain ⟨x3, hx3⟩ : ∃ x3, F .cat x2 s = x3 := ⟨_, rfl⟩
  have e3 : F .cat x3 (BA [13, 10]) = r := by rw [← hx3, ← hx2, ← hx1, catF hF, catF hF, catF hF, catF hF, hd, hr, hs, en]; rfl
  have n1 := catN hF hx1
  have n2 := catN hF hx2
  have n3 := catN hF hx3
  have nd : d.size ≤ 21 := by rw [hd, itoaB, BA_size]; exact dec_len n (by omega) (by omega)
  have ns : s.size ≤ 1000000 := by rw [hs, BA_size]; exact hl
  rw [sz1] at n1
  rw [sz2] at n2
  have c1 := catS hF (a := BA [36]) (b := d) (by rw [sz1]; omega)
  have c2 := catS hF (a := x1) (b := BA [13, 10]) (by rw [sz2]; omega)
  have c3 := catS hF (a := x2) (b := s) (by omega)
  have c4 := catS hF (a := x3) (b := BA [13, 10]) (by rw [sz2]; omega)
  unfold BA at hx1 hx2 e3 c1 c2 c4
  clear hd hr hs en n1 n2 n3
  cbv
  rw [hn]
  refine ⟨_, hit, ?_⟩
  cbv
  rw [hx1, hx2, hx3, e3]
  refine ⟨c1, c2, c3, c4, ?_⟩
  simp
end Go.Proofs.YtfphhpabfeepmaaDoor
