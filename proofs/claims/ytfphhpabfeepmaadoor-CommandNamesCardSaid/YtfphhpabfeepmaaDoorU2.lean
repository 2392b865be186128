import Derived.Test.YtfphhpabfeepmaaDoorU1
import Derived.Test.YtfphhpabfeepmaaDoorP10
set_option linter.unusedSimpArgs false
set_option linter.unusedVariables false
namespace Go.Proofs.YtfphhpabfeepmaaDoor
open Go Go.RowKit Am

def upc (c : UInt8) : UInt8 := if 97 ≤ c.toNat ∧ c.toNat ≤ 122 then UInt8.ofNat (c.toNat - 32) else c
def upL (l : List UInt8) : List UInt8 := l.map upc
theorem upL_len (l : List UInt8) : (upL l).length = l.length := by simp [upL]
theorem up_val {F : Sy} (hF : F = sy) {c : UInt8} (h : 97 ≤ c.toNat ∧ c.toNat ≤ 122) {x : Int} (hx : x = (c.toNat : Int)) : F .ar .add .u8 (F .ar .sub .u8 x 97) 65 = ((upc c).toNat : Int) := by
  unfold upc
  rw [if_pos h, hF, hx]
  have e1 : sy .ar .sub .u8 (c.toNat : Int) 97 = ((c.toNat - 97 : Nat) : Int) := by
    show IntKind.u8.wrap _ = _
    simp [IntKind.wrap, IntKind.signed, IntKind.bits, BitVec.toNat_ofInt]
    omega
  rw [e1]
  have e2 : (UInt8.ofNat (c.toNat - 32)).toNat = c.toNat - 32 := by simp; omega
  rw [e2]
  show IntKind.u8.wrap _ = _
  simp [IntKind.wrap, IntKind.signed, IntKind.bits, BitVec.toNat_ofInt]
  omega
theorem upper_ok (s : ByteArray) (l : List UInt8) (hs : l = L s) (hl : l.length ≤ 1000000) (r : ByteArray) (hr : r = BA (upL l)) : CSem Tryd.prog (.fn 51) [aS s] (.pure [aS r]) := by
  refine of_text gam_ok mixed { n := 30 } Tryd.func51 (by kernel_rfl) rfl rfl (by simp) (by decide) fun F C D hF hC hD => ?_
  obtain ⟨sn, hsn⟩ : ∃ sn : Int, F .slen s = sn := ⟨_, rfl⟩
  have esn : sn = (l.length : Int) := by rw [← hsn, slenF hF, L_size, hs]
  cbv
  refine ⟨Nat × Int × ByteArray, fun x => { slots := [(4, aI x.2.1), (3, aS x.2.2), (0, aS s)], obs := [], ctr := 0 }, fun x => x.2.1 = (x.1 : Int) ∧ x.1 ≤ l.length ∧ x.2.2 = BA (upL (l.take x.1)), fun x => l.length - x.1, ⟨(0, 0, ⟨#[]⟩), ⟨rfl, Nat.zero_le _, rfl⟩, (le_of [] (by simp [leSl, leOb, injK, memK, parK, noTup, lk, rn0, rnA, plain] <;> first | rfl | decide))⟩, fun x hx => ?_⟩
  obtain ⟨i, i', o⟩ := x
  obtain ⟨ei, hi, eo⟩ := hx
  simp only at ei hi eo
  have esn : sn = (l.length : Int) := esn
  have hs : l = L s := hs
  have tl := ltF hF i l.length i' sn ei esn
  obtain ⟨i2, hi2⟩ : ∃ i2, F .ar .add .i64 i' 1 = i2 := ⟨_, rfl⟩
  have ei2 : i2 = ((i + 1 : Nat) : Int) := hi2.symm.trans (incF hF ei (by omega))
  by_cases hil : i < l.length
  · have tl : F .cmp .lss i' sn = true := tl.2 hil
    obtain ⟨c, hc⟩ : ∃ c, l[i]? = some c := ⟨_, List.getElem?_eq_getElem hil⟩
    obtain ⟨b, hb⟩ : ∃ b : Int, F .bt s i' = b := ⟨_, rfl⟩
    have eb : b = (c.toNat : Int) := by rw [← hb, ei]; exact btF hF (by rw [← hs]; exact hc)
    have hlo0 : 0 ≤ i' := by rw [ei]; omega
    have hlo1 : i' < F .slen s := by rw [hsn, ei, esn]; exact Int.ofNat_lt.2 hil
    have osz : o.size ≤ 1000000 := by rw [eo, BA_size, upL_len, List.length_take]; omega
    have htk : upL (l.take (i + 1)) = upL (l.take i) ++ [upc c] := by
      unfold upL
      rw [List.take_add_one, hc]
      simp
    obtain ⟨u, hu⟩ : ∃ u : Int, u = ((upc c).toNat : Int) := ⟨_, rfl⟩
    obtain ⟨us, hus⟩ : ∃ us, us = BA [upc c] := ⟨_, rfl⟩
    have hbs := hC _ _ _ (bs_ok [upc c] [[aU u]] (by rw [hu]; rfl) us hus)
    obtain ⟨o2, ho2⟩ : ∃ o2, F .cat o us = o2 := ⟨_, rfl⟩
    have eo2 : o2 = BA (upL (l.take (i + 1))) := by rw [← ho2, catF hF, eo, htk, hus]; rfl
    have hcs := catS hF (a := o) (b := us) (by rw [hus, sz1]; omega)
    have w1 : F .cmp .geq b 97 = decide (97 ≤ c.toNat) := by rw [geF hF, eb]; congr 1; exact propext ⟨fun h => by omega, fun h => by omega⟩
    have w2 : F .cmp .leq b 122 = decide (c.toNat ≤ 122) := by rw [leF hF, eb]; congr 1; exact propext ⟨fun h => by omega, fun h => by omega⟩
    by_cases h97 : 97 ≤ c.toNat
    · have w1 : F .cmp .geq b 97 = true := by rw [w1]; exact decide_eq_true h97
      by_cases h122 : c.toNat ≤ 122
      · have w2 : F .cmp .leq b 122 = true := by rw [w2]; exact decide_eq_true h122
        have hv := (up_val hF ⟨h97, h122⟩ eb).trans hu.symm
        cbv
        rw [hsn]
        refine bT (tl) ?_
        cbv
        refine ⟨hlo0, hlo1, ?_⟩
        cbv
        rw [hb]
        refine bT (w1) ?_
        cbv
        refine bT (w2) ?_
        cbv
        rw [hv]
        refine ⟨_, hbs, ?_⟩
        cbv
        rw [ho2, hi2]
        refine ⟨hcs, ?_⟩
        cbv
        exact ⟨(i + 1, i2, o2), ⟨ei2, hil, eo2⟩, (show l.length - (i + 1) < l.length - i by omega), (le_of [] (by simp [leSl, leOb, injK, memK, parK, noTup, lk, rn0, rnA, plain] <;> first | rfl | decide))⟩
      · have w2 : F .cmp .leq b 122 = false := by rw [w2]; exact decide_eq_false h122
        have hv : b = u := by rw [eb, hu, upc, if_neg (fun h => h122 h.2)]
        cbv
        rw [hsn]
        refine bT (tl) ?_
        cbv
        refine ⟨hlo0, hlo1, ?_⟩
        cbv
        rw [hb]
        refine bT (w1) ?_
        cbv
        refine bF (w2) ?_
        cbv
        rw [hv]
        refine ⟨_, hbs, ?_⟩
        cbv
        rw [ho2, hi2]
        refine ⟨hcs, ?_⟩
        cbv
        exact ⟨(i + 1, i2, o2), ⟨ei2, hil, eo2⟩, (show l.length - (i + 1) < l.length - i by omega), (le_of [] (by simp [leSl, leOb, injK, memK, parK, noTup, lk, rn0, rnA, plain] <;> first | rfl | decide))⟩
    · have w1 : F .cmp .geq b 97 = false := by rw [w1]; exact decide_eq_false h97
      have hv : b = u := by rw [eb, hu, upc, if_neg (fun h => h97 h.1)]
      cbv
      rw [hsn]
      refine bT (tl) ?_
      cbv
      refine ⟨hlo0, hlo1, ?_⟩
      cbv
      rw [hb]
      refine bF (w1) ?_
      cbv
      rw [hv]
      refine ⟨_, hbs, ?_⟩
      cbv
      rw [ho2, hi2]
      refine ⟨hcs, ?_⟩
      cbv
      exact ⟨(i + 1, i2, o2), ⟨ei2, hil, eo2⟩, (show l.length - (i + 1) < l.length - i by omega), (le_of [] (by simp [leSl, leOb, injK, memK, parK, noTup, lk, rn0, rnA, plain] <;> first | rfl | decide))⟩
  · have tl : F .cmp .lss i' sn = false := by cases h : F .cmp .lss i' sn with | true => exact absurd (tl.1 h) hil | false => rfl
    have e3 : o = r := by rw [eo, hr, List.take_of_length_le (by omega)]
    rw [e3]
    cbv
    rw [hsn]
    refine bF (tl) ?_
    cbv
    simp
end Go.Proofs.YtfphhpabfeepmaaDoor
