import Derived.Test.YtfphhpabfeepmaaDoorU5
set_option linter.unusedSimpArgs false
set_option linter.unusedVariables false
namespace Go.Proofs.YtfphhpabfeepmaaDoor
open Go Go.RowKit Am

/-! ### Errors, told -/
abbrev fltA (s : ByteArray) : AV := .agg [aI 2, aS s, aI 0, .v (.slice none 0 0)]
theorem fault_ok (s : ByteArray) : CSem Tryd.prog (.fn 55) [aS s] (.pure [fltA s]) := by
  refine of_text gam_ok mixed { n := 5 } Tryd.func55 (by kernel_rfl) rfl rfl (by simp) (by decide) fun F C D hF hC hD => ?_
  cbv
theorem rfault_ok (s : ByteArray) : CSem Tryd.prog (.fn 56) [aS s] (.pure [fltA s]) := by
  refine of_text gam_ok mixed { n := 5 } Tryd.func56 (by kernel_rfl) rfl rfl (by simp) (by decide) fun F C D hF hC hD => ?_
  cbv
def errN : List (List UInt8) := [[111, 107], [97, 114, 103], [115, 104, 111, 114, 116], [102, 111, 114, 109], [108, 111, 110, 103], [115, 117, 109], [111, 118, 101, 114], [110, 111, 110, 101], [116, 121, 112, 101], [102, 117, 108, 108], [108, 111, 115, 116], [115, 116, 97, 116, 101], [97, 114, 105, 116, 121], [105, 110, 116], [117, 110, 107, 110, 111, 119, 110], [100, 111, 119, 110]]
def errT (n : Int) : List UInt8 := if n < 0 ∨ 16 ≤ n then [69, 82, 82, 32, 63] else [69, 82, 82, 32] ++ (errN[n.toNat]?).getD []
theorem refuse_ok (n : Int) (r : ByteArray) (hr : r = BA (errT n)) : CSem Tryd.prog (.fn 31) [aI n] (.pure [fltA r]) := by
  refine of_text gam_ok mixed { n := 20 } Tryd.func31 (by kernel_rfl) rfl rfl (by simp) (by decide) fun F C D hF hC hD => ?_
  obtain ⟨rN, hrN⟩ : ∃ r : List (List AV), [[aS ⟨⟨[111, 107]⟩⟩], [aS ⟨⟨[97, 114, 103]⟩⟩], [aS ⟨⟨[115, 104, 111, 114, 116]⟩⟩], [aS ⟨⟨[102, 111, 114, 109]⟩⟩], [aS ⟨⟨[108, 111, 110, 103]⟩⟩], [aS ⟨⟨[115, 117, 109]⟩⟩], [aS ⟨⟨[111, 118, 101, 114]⟩⟩], [aS ⟨⟨[110, 111, 110, 101]⟩⟩], [aS ⟨⟨[116, 121, 112, 101]⟩⟩], [aS ⟨⟨[102, 117, 108, 108]⟩⟩], [aS ⟨⟨[108, 111, 115, 116]⟩⟩], [aS ⟨⟨[115, 116, 97, 116, 101]⟩⟩], [aS ⟨⟨[97, 114, 105, 116, 121]⟩⟩], [aS ⟨⟨[105, 110, 116]⟩⟩], [aS ⟨⟨[117, 110, 107, 110, 111, 119, 110]⟩⟩], [aS ⟨⟨[100, 111, 119, 110]⟩⟩]] = r := ⟨_, rfl⟩
  have eN : rN = sR errN := by rw [← hrN]; rfl
  obtain ⟨m, hm⟩ : ∃ n' : Int, F .len rN = n' := ⟨_, rfl⟩
  have em : m = 16 := by rw [← hm, lenF hF, eN, sR_len]; rfl
  have hflt := hC _ _ _ (fault_ok r)
  have w1 : F .cmp .lss n 0 = decide (n < 0) := lsF hF n 0
  have w2 : F .cmp .geq n m = decide (16 ≤ n) := by rw [geF hF, em]
  unfold errT at hr
  by_cases h0 : n < 0
  · have w1 : F .cmp .lss n 0 = true := by rw [w1]; exact decide_eq_true h0
    rw [if_pos (.inl h0)] at hr
    subst hr
    unfold BA at hflt
    cbv
    rw [hrN]
    refine cT (w1) ?_
    cbv
    refine ⟨_, hflt, ?_⟩
    cbv
  · have w1 : F .cmp .lss n 0 = false := by rw [w1]; exact decide_eq_false h0
    by_cases h16 : 16 ≤ n
    · have w2 : F .cmp .geq n m = true := by rw [w2]; exact decide_eq_true h16
      rw [if_pos (.inr h16)] at hr
      subst hr
      unfold BA at hflt
      cbv
      rw [hrN]
      refine cF (w1) ?_
      cbv
      rw [hm]
      refine bT (w2) ?_
      cbv
      refine ⟨_, hflt, ?_⟩
      cbv
    · have w2 : F .cmp .geq n m = false := by rw [w2]; exact decide_eq_false h16
      rw [if_neg (by omega)] at hr
      obtain ⟨i, hi⟩ : ∃ i : Nat, n = (i : Int) := ⟨n.toNat, by omega⟩
      have hil : i < errN.length := by show i < 16; omega
      obtain ⟨x, hx⟩ : ∃ x, errN[i]? = some x := ⟨_, List.getElem?_eq_getElem hil⟩
      obtain ⟨xs, hxs⟩ : ∃ s, s = BA x := ⟨_, rfl⟩
      have hrow : rN[i]? = some [aS xs] := by rw [eN, hxs]; exact sR_get hx
      rw [hi, Int.toNat_natCast, hx] at hr
      have hcat : F .cat (BA [69, 82, 82, 32]) xs = r := by rw [catF hF, hr, hxs]; rfl
      have hxl : x.length ≤ 7 := (show ∀ y ∈ errN, y.length ≤ 7 by decide) x (List.mem_of_getElem? hx)
      have hcs := catS hF (a := BA [69, 82, 82, 32]) (b := xs) (by rw [hxs, BA_size, BA_size]; simp only [List.length_cons, List.length_nil]; omega)
      unfold BA at hcat hcs
      clear hr
      cbv
      rw [hrN]
      refine cF (w1) ?_
      cbv
      rw [hm]
      refine bF (w2) ?_
      cbv
      refine ⟨i, _, hi, hrow, rfl, ?_⟩
      cbv
      rw [hcat]
      refine ⟨hcs, _, hflt, ?_⟩
      cbv
theorem rrefuse_ok (n : Int) (r : ByteArray) (hr : r = BA (errT n)) : CSem Tryd.prog (.fn 32) [aI n] (.pure [fltA r]) := by
  refine of_text gam_ok mixed { n := 20 } Tryd.func32 (by kernel_rfl) rfl rfl (by simp) (by decide) fun F C D hF hC hD => ?_
  obtain ⟨rN, hrN⟩ : ∃ r : List (List AV), [[aS ⟨⟨[111, 107]⟩⟩], [aS ⟨⟨[97, 114, 103]⟩⟩], [aS ⟨⟨[115, 104, 111, 114, 116]⟩⟩], [aS ⟨⟨[102, 111, 114, 109]⟩⟩], [aS ⟨⟨[108, 111, 110, 103]⟩⟩], [aS ⟨⟨[115, 117, 109]⟩⟩], [aS ⟨⟨[111, 118, 101, 114]⟩⟩], [aS ⟨⟨[110, 111, 110, 101]⟩⟩], [aS ⟨⟨[116, 121, 112, 101]⟩⟩], [aS ⟨⟨[102, 117, 108, 108]⟩⟩], [aS ⟨⟨[108, 111, 115, 116]⟩⟩], [aS ⟨⟨[115, 116, 97, 116, 101]⟩⟩], [aS ⟨⟨[97, 114, 105, 116, 121]⟩⟩], [aS ⟨⟨[105, 110, 116]⟩⟩], [aS ⟨⟨[117, 110, 107, 110, 111, 119, 110]⟩⟩], [aS ⟨⟨[100, 111, 119, 110]⟩⟩]] = r := ⟨_, rfl⟩
  have eN : rN = sR errN := by rw [← hrN]; rfl
  obtain ⟨m, hm⟩ : ∃ n' : Int, F .len rN = n' := ⟨_, rfl⟩
  have em : m = 16 := by rw [← hm, lenF hF, eN, sR_len]; rfl
  have hflt := hC _ _ _ (rfault_ok r)
  have w1 : F .cmp .lss n 0 = decide (n < 0) := lsF hF n 0
  have w2 : F .cmp .geq n m = decide (16 ≤ n) := by rw [geF hF, em]
  unfold errT at hr
  by_cases h0 : n < 0
  · have w1 : F .cmp .lss n 0 = true := by rw [w1]; exact decide_eq_true h0
    rw [if_pos (.inl h0)] at hr
    subst hr
    unfold BA at hflt
    cbv
    rw [hrN]
    refine cT (w1) ?_
    cbv
    refine ⟨_, hflt, ?_⟩
    cbv
  · have w1 : F .cmp .lss n 0 = false := by rw [w1]; exact decide_eq_false h0
    by_cases h16 : 16 ≤ n
    · have w2 : F .cmp .geq n m = true := by rw [w2]; exact decide_eq_true h16
      rw [if_pos (.inr h16)] at hr
      subst hr
      unfold BA at hflt
      cbv
      rw [hrN]
      refine cF (w1) ?_
      cbv
      rw [hm]
      refine bT (w2) ?_
      cbv
      refine ⟨_, hflt, ?_⟩
      cbv
    · have w2 : F .cmp .geq n m = false := by rw [w2]; exact decide_eq_false h16
      rw [if_neg (by omega)] at hr
      obtain ⟨i, hi⟩ : ∃ i : Nat, n = (i : Int) := ⟨n.toNat, by omega⟩
      have hil : i < errN.length := by show i < 16; omega
      obtain ⟨x, hx⟩ : ∃ x, errN[i]? = some x := ⟨_, List.getElem?_eq_getElem hil⟩
      obtain ⟨xs, hxs⟩ : ∃ s, s = BA x := ⟨_, rfl⟩
      have hrow : rN[i]? = some [aS xs] := by rw [eN, hxs]; exact sR_get hx
      rw [hi, Int.toNat_natCast, hx] at hr
      have hcat : F .cat (BA [69, 82, 82, 32]) xs = r := by rw [catF hF, hr, hxs]; rfl
      have hxl : x.length ≤ 7 := (show ∀ y ∈ errN, y.length ≤ 7 by decide) x (List.mem_of_getElem? hx)
      have hcs := catS hF (a := BA [69, 82, 82, 32]) (b := xs) (by rw [hxs, BA_size, BA_size]; simp only [List.length_cons, List.length_nil]; omega)
      unfold BA at hcat hcs
      clear hr
      cbv
      rw [hrN]
      refine cF (w1) ?_
      cbv
      rw [hm]
      refine bF (w2) ?_
      cbv
      refine ⟨i, _, hi, hrow, rfl, ?_⟩
      cbv
      rw [hcat]
      refine ⟨hcs, _, hflt, ?_⟩
      cbv
end Go.Proofs.YtfphhpabfeepmaaDoor
