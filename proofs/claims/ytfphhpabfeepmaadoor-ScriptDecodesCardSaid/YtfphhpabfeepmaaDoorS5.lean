import Derived.Test.YtfphhpabfeepmaaDoorS4
set_option linter.unusedSimpArgs false
set_option linter.unusedVariables false
namespace Go.Proofs.YtfphhpabfeepmaaDoor
open Go Go.RowKit Am

def encV (k : Int) (l : List UInt8) (n : Int) (ags : List (List UInt8)) : List UInt8 :=
  if k = 1 then 43 :: lnL l ++ [13, 10] else if k = 2 then 45 :: lnL l ++ [13, 10] else if k = 3 then 58 :: dec n ++ [13, 10] else if k = 4 then bulkL l else if k = 5 then [36, 45, 49, 13, 10] else if k = 6 then cmdB ags else []
set_option maxHeartbeats 4000000 in
theorem renc_ok (k : Int) (s : ByteArray) (l : List UInt8) (hs : l = L s) (hl : l.length ≤ 1000000) (n : Int) (h0 : -9223372036854775808 ≤ n) (h1 : n ≤ 9223372036854775807) (ags : List (List UInt8)) (hn : ags.length ≤ 1000) (ha : ∀ a ∈ ags, a.length ≤ 3000) (rows : List (List AV)) (hrows : rows = sR ags) (r : ByteArray) (hr : r = BA (encV k l n ags)) :
    CSem Tryd.prog (.fn 16) (repl k s n (.sl rows)) (.pure [aS r]) := by
  refine of_text gam_ok mixed { n := 59 } Tryd.func16 (by kernel_rfl) rfl rfl (by simp [repl]) (by decide) fun F C D hF hC hD => ?_
  have i1 : F .cmp .eql k 1 = decide (k = 1) := eqF hF k 1
  have i2 : F .cmp .eql k 2 = decide (k = 2) := eqF hF k 2
  have i3 : F .cmp .eql k 3 = decide (k = 3) := eqF hF k 3
  have i4 : F .cmp .eql k 4 = decide (k = 4) := eqF hF k 4
  have i5 : F .cmp .eql k 5 = decide (k = 5) := eqF hF k 5
  have i6 : F .cmp .eql k 6 = decide (k = 6) := eqF hF k 6
  have hsl : s = BA l := by rw [hs, BA_L]
  unfold encV at hr
  by_cases k1 : k = 1
  · rw [if_pos k1] at hr
    have i1 : F .cmp .eql k 1 = true := by rw [i1]; exact decide_eq_true k1
    obtain ⟨d, hd⟩ : ∃ d, d = BA (lnL l) := ⟨_, rfl⟩
    have hln := hC _ _ _ (rline_ok s l hs hl d hd)
    obtain ⟨x1, hx1⟩ : ∃ x1, F .cat (BA [43]) d = x1 := ⟨_, rfl⟩
    have hx2 : F .cat x1 (BA [13, 10]) = r := by rw [← hx1, catF hF, catF hF, hd, hr]; rfl
    have nd : d.size ≤ 1000000 := by rw [hd, BA_size, ln_len]; exact hl
    have n1 := catN hF hx1
    rw [sz1] at n1
    have c1 := catS hF (a := BA [43]) (b := d) (by rw [sz1]; omega)
    have c2 := catS hF (a := x1) (b := BA [13, 10]) (by rw [sz2]; omega)
    unfold BA at hx1 hx2 c1 c2
    clear hd hr hs hsl n1
    cbv
    refine bT (i1) ?_
    cbv
    refine ⟨_, hln, ?_⟩
    cbv
    rw [hx1, hx2]
    refine ⟨c1, c2, ?_⟩
    cbv
  · rw [if_neg k1] at hr
    have i1 : F .cmp .eql k 1 = false := by rw [i1]; exact decide_eq_false k1
    by_cases k2 : k = 2
    · rw [if_pos k2] at hr
      have i2 : F .cmp .eql k 2 = true := by rw [i2]; exact decide_eq_true k2
      obtain ⟨d, hd⟩ : ∃ d, d = BA (lnL l) := ⟨_, rfl⟩
      have hln := hC _ _ _ (rline_ok s l hs hl d hd)
      obtain ⟨x1, hx1⟩ : ∃ x1, F .cat (BA [45]) d = x1 := ⟨_, rfl⟩
      have hx2 : F .cat x1 (BA [13, 10]) = r := by rw [← hx1, catF hF, catF hF, hd, hr]; rfl
      have nd : d.size ≤ 1000000 := by rw [hd, BA_size, ln_len]; exact hl
      have n1 := catN hF hx1
      rw [sz1] at n1
      have c1 := catS hF (a := BA [45]) (b := d) (by rw [sz1]; omega)
      have c2 := catS hF (a := x1) (b := BA [13, 10]) (by rw [sz2]; omega)
      unfold BA at hx1 hx2 c1 c2
      clear hd hr hs hsl n1
      cbv
      refine bF (i1) ?_
      cbv
      refine bT (i2) ?_
      cbv
      refine ⟨_, hln, ?_⟩
      cbv
      rw [hx1, hx2]
      refine ⟨c1, c2, ?_⟩
      cbv
    · rw [if_neg k2] at hr
      have i2 : F .cmp .eql k 2 = false := by rw [i2]; exact decide_eq_false k2
      by_cases k3 : k = 3
      · rw [if_pos k3] at hr
        have i3 : F .cmp .eql k 3 = true := by rw [i3]; exact decide_eq_true k3
        obtain ⟨d, hd⟩ : ∃ d, d = itoaB n := ⟨_, rfl⟩
        have hln := hC _ _ _ (digs_ok n h0 h1 d hd)
        obtain ⟨x1, hx1⟩ : ∃ x1, F .cat (BA [58]) d = x1 := ⟨_, rfl⟩
        have hx2 : F .cat x1 (BA [13, 10]) = r := by rw [← hx1, catF hF, catF hF, hd, hr]; rfl
        have nd : d.size ≤ 21 := by rw [hd, itoaB, BA_size]; exact dec_len n h0 h1
        have n1 := catN hF hx1
        rw [sz1] at n1
        have c1 := catS hF (a := BA [58]) (b := d) (by rw [sz1]; omega)
        have c2 := catS hF (a := x1) (b := BA [13, 10]) (by rw [sz2]; omega)
        unfold BA at hx1 hx2 c1 c2
        clear hd hr hs hsl n1
        cbv
        refine bF (i1) ?_
        cbv
        refine bF (i2) ?_
        cbv
        refine bT (i3) ?_
        cbv
        refine ⟨_, hln, ?_⟩
        cbv
        rw [hx1, hx2]
        refine ⟨c1, c2, ?_⟩
        cbv
      · rw [if_neg k3] at hr
        have i3 : F .cmp .eql k 3 = false := by rw [i3]; exact decide_eq_false k3
        by_cases k4 : k = 4
        · rw [if_pos k4] at hr
          have i4 : F .cmp .eql k 4 = true := by rw [i4]; exact decide_eq_true k4
          have hbk := hC _ _ _ (rbulk_ok l hl s hsl r hr)
          clear hr hs hsl
          cbv
          refine bF (i1) ?_
          cbv
          refine bF (i2) ?_
          cbv
          refine bF (i3) ?_
          cbv
          refine bT (i4) ?_
          cbv
          refine ⟨_, hbk, ?_⟩
          cbv
          simp
        · rw [if_neg k4] at hr
          have i4 : F .cmp .eql k 4 = false := by rw [i4]; exact decide_eq_false k4
          by_cases k5 : k = 5
          · rw [if_pos k5] at hr
            have i5 : F .cmp .eql k 5 = true := by rw [i5]; exact decide_eq_true k5
            subst hr
            clear hs hsl
            cbv
            refine bF (i1) ?_
            cbv
            refine bF (i2) ?_
            cbv
            refine bF (i3) ?_
            cbv
            refine bF (i4) ?_
            cbv
            refine bT (i5) ?_
            cbv
            simp
          · rw [if_neg k5] at hr
            have i5 : F .cmp .eql k 5 = false := by rw [i5]; exact decide_eq_false k5
            by_cases k6 : k = 6
            · rw [if_pos k6] at hr
              have i6 : F .cmp .eql k 6 = true := by rw [i6]; exact decide_eq_true k6
              obtain ⟨n', hn'⟩ : ∃ n' : Int, F .len rows = n' := ⟨_, rfl⟩
              have en : n' = (ags.length : Int) := by rw [← hn', lenF hF, hrows, sR_len]
              obtain ⟨d, hd⟩ : ∃ d, d = itoaB n' := ⟨_, rfl⟩
              have hit := hC _ _ _ (digs_ok n' (by omega) (by omega) d hd)
              obtain ⟨x1, hx1⟩ : ∃ x1, F .cat (BA [42]) d = x1 := ⟨_, rfl⟩
              obtain ⟨x2, hx2⟩ : ∃ x2, F .cat x1 (BA [13, 10]) = x2 := ⟨_, rfl⟩
              have e2 : x2 = BA (42 :: dec ags.length ++ [13, 10]) := by rw [← hx2, ← hx1, catF hF, catF hF, hd, en]; rfl
              have nd : d.size ≤ 21 := by rw [hd, itoaB, BA_size]; exact dec_len n' (by omega) (by omega)
              have n1 := catN hF hx1
              rw [sz1] at n1
              have hdl := dec_len (ags.length : Int) (by omega) (by omega)
              have c1 := catS hF (a := BA [42]) (b := d) (by rw [sz1]; omega)
              have c2 := catS hF (a := x1) (b := BA [13, 10]) (by rw [sz2]; omega)
              unfold BA at hx1 hx2 c1 c2
              clear hd hs hsl n1
              cbv
              refine bF (i1) ?_
              cbv
              refine bF (i2) ?_
              cbv
              refine bF (i3) ?_
              cbv
              refine bF (i4) ?_
              cbv
              refine bF (i5) ?_
              cbv
              refine bT (i6) ?_
              cbv
              rw [hn']
              refine ⟨_, hit, ?_⟩
              cbv
              rw [hx1, hx2]
              refine ⟨c1, c2, ?_⟩
              cbv
              rw [hn']
              refine ⟨Nat × Int × ByteArray, fun x => { slots := [(46, aI x.2.1), (45, aI n'), (3, aS x.2.2), (1, .ept [aI k, aS s, aI n, .sl rows] 0)], obs := [], ctr := 0 }, fun x => x.2.1 = (x.1 : Int) ∧ x.1 ≤ ags.length ∧ x.2.2 = BA (42 :: dec ags.length ++ [13, 10] ++ ((ags.take x.1).map bulkL).flatten), fun x => ags.length - x.1, ⟨(0, 0, x2), ⟨rfl, Nat.zero_le _, by simp only; rw [e2]; simp⟩, (le_of [] (by simp [leSl, leOb, injK, memK, parK, noTup, lk, rn0, rnA, plain] <;> first | rfl | decide))⟩, fun x hx => ?_⟩
              obtain ⟨i, i', o⟩ := x
              obtain ⟨ei, hi, eo⟩ := hx
              simp only at ei hi eo
              have en : n' = (ags.length : Int) := en
              have hdl : (dec (ags.length : Int)).length ≤ 21 := hdl
              have tl := ltF hF i ags.length i' n' ei en
              obtain ⟨i2', hi2⟩ : ∃ i2, F .ar .add .i64 i' 1 = i2 := ⟨_, rfl⟩
              have ei2 : i2' = ((i + 1 : Nat) : Int) := hi2.symm.trans (incF hF ei (by omega))
              by_cases hil : i < ags.length
              · have tl : F .cmp .lss i' n' = true := tl.2 hil
                obtain ⟨a, hga⟩ : ∃ a, ags[i]? = some a := ⟨_, List.getElem?_eq_getElem hil⟩
                have hla := ha a (List.mem_of_getElem? hga)
                obtain ⟨sa, hsa⟩ : ∃ sa, sa = BA a := ⟨_, rfl⟩
                have hrow : rows[i]? = some [aS sa] := by rw [hrows, hsa]; exact sR_get hga
                obtain ⟨bs, hbs⟩ : ∃ b, b = BA (bulkL a) := ⟨_, rfl⟩
                have hbk := hC _ _ _ (rbulk_ok a (by omega) sa hsa bs hbs)
                have hf1 := flat_bulk ags ha i
                have hb1 := bulk_len a (by omega)
                obtain ⟨o2, ho2⟩ : ∃ o2, F .cat o bs = o2 := ⟨_, rfl⟩
                have eo2 : o2 = BA (42 :: dec ags.length ++ [13, 10] ++ ((ags.take (i + 1)).map bulkL).flatten) := by
                  rw [← ho2, catF hF, eo, hbs, L_BA, L_BA, List.take_add_one, hga]
                  simp
                have hos : o.size ≤ 10000000 := by
                  rw [eo, BA_size]
                  simp only [List.length_append, List.length_cons, List.length_nil]
                  omega
                have hcs := catS hF (a := o) (b := bs) (by rw [hbs, BA_size]; omega)
                cbv
                refine bT (tl) ?_
                cbv
                refine ⟨i, _, ei, hrow, rfl, ?_⟩
                cbv
                refine ⟨_, hbk, ?_⟩
                cbv
                rw [ho2, hi2]
                refine ⟨hcs, ?_⟩
                cbv
                exact ⟨(i + 1, i2', o2), ⟨ei2, hil, eo2⟩, (show ags.length - (i + 1) < ags.length - i by omega), (le_of [] (by simp [leSl, leOb, injK, memK, parK, noTup, lk, rn0, rnA, plain] <;> first | rfl | decide))⟩
              · have tl : F .cmp .lss i' n' = false := by cases h : F .cmp .lss i' n' with | true => exact absurd (tl.1 h) hil | false => rfl
                have e3 : o = r := by rw [eo, hr, List.take_of_length_le (by omega)]; rfl
                rw [e3]
                cbv
                refine bF (tl) ?_
                cbv
                simp
            · rw [if_neg k6] at hr
              have i6 : F .cmp .eql k 6 = false := by rw [i6]; exact decide_eq_false k6
              subst hr
              clear hs hsl
              cbv
              refine bF (i1) ?_
              cbv
              refine bF (i2) ?_
              cbv
              refine bF (i3) ?_
              cbv
              refine bF (i4) ?_
              cbv
              refine bF (i5) ?_
              cbv
              refine bF (i6) ?_
              cbv
              simp
theorem rcmd_ok (ags : List (List UInt8)) (hn : ags.length ≤ 1000) (ha : ∀ a ∈ ags, a.length ≤ 3000) (rows : List (List AV)) (hrows : rows = sR ags) (r : ByteArray) (hr : r = BA (cmdB ags)) : CSem Tryd.prog (.fn 18) [.sl rows] (.pure [aS r]) := by
  refine of_text gam_ok mixed { n := 6 } Tryd.func18 (by kernel_rfl) rfl rfl (by simp) (by decide) fun F C D hF hC hD => ?_
  have h := hC _ _ _ (renc_ok 6 ⟨#[]⟩ [] rfl (by simp) 0 (by omega) (by omega) ags hn ha rows hrows r (by rw [hr]; rfl))
  clear hr
  cbv
  refine ⟨_, h, ?_⟩
  cbv
  simp
theorem enc6_ok (k : Int) (hk : k = 6) (s : ByteArray) (n : Int) (ags : List (List UInt8)) (hn : ags.length ≤ 1000) (ha : ∀ a ∈ ags, a.length ≤ 3000) (rows : List (List AV)) (hrows : rows = sR ags) (r : List (List AV)) (hr : r = byR (cmdB ags)) : CSem Tryd.prog (.fn 15) (repl k s n (.sl rows)) (.pure [.sl r]) := by
  refine of_text gam_ok mixed { n := 44 } Tryd.func15 (by kernel_rfl) rfl rfl (by simp [repl]) (by decide) fun F C D hF hC hD => ?_
  have i1 : F .cmp .eql k 1 = false := by rw [eqF hF, hk]; rfl
  have i2 : F .cmp .eql k 2 = false := by rw [eqF hF, hk]; rfl
  have i3 : F .cmp .eql k 3 = false := by rw [eqF hF, hk]; rfl
  have i4 : F .cmp .eql k 4 = false := by rw [eqF hF, hk]; rfl
  have i5 : F .cmp .eql k 5 = false := by rw [eqF hF, hk]; rfl
  have i6 : F .cmp .eql k 6 = true := by rw [eqF hF, hk]; rfl
  have h := hC _ _ _ (fn_frz (enc_cmd ags hn ha rows hrows r hr))
  clear hr hk
  cbv
  refine bF (i1) ?_
  cbv
  refine bF (i2) ?_
  cbv
  refine bF (i3) ?_
  cbv
  refine bF (i4) ?_
  cbv
  refine bF (i5) ?_
  cbv
  refine bT (i6) ?_
  cbv
  refine ⟨_, h, ?_⟩
  cbv
theorem penc_ok (k : Int) (s : ByteArray) (l : List UInt8) (hs : l = L s) (hl : l.length ≤ 1000000) (n : Int) (h0 : -9223372036854775808 ≤ n) (h1 : n ≤ 9223372036854775807) (ags : List (List UInt8)) (hn : ags.length ≤ 1000) (ha : ∀ a ∈ ags, a.length ≤ 3000) (rows : List (List AV)) (hrows : rows = sR ags) (r : List (List AV)) (hr : r = byR (encV k l n ags)) :
    CSem Tryd.prog (.fn 15) (repl k s n (.sl rows)) (.pure [.sl r]) := by
  have hsl : s = BA l := by rw [hs, BA_L]
  unfold encV at hr
  by_cases k1 : k = 1
  · rw [if_pos k1] at hr; exact encode_line k (.inl k1) l hl s hsl n _ 43 (by rw [if_pos k1]) r hr
  · rw [if_neg k1] at hr
    by_cases k2 : k = 2
    · rw [if_pos k2] at hr; exact encode_line k (.inr k2) l hl s hsl n _ 45 (by rw [if_neg k1]) r hr
    · rw [if_neg k2] at hr
      by_cases k3 : k = 3
      · rw [if_pos k3] at hr; exact encode_int k k3 s n _ h0 h1 r hr
      · rw [if_neg k3] at hr
        by_cases k4 : k = 4
        · rw [if_pos k4] at hr; exact encode_bulk k k4 l hl s hsl n _ r hr
        · rw [if_neg k4] at hr
          by_cases k5 : k = 5
          · rw [if_pos k5] at hr; exact fn_frz (encode_null k k5 s n _ r hr)
          · rw [if_neg k5] at hr
            by_cases k6 : k = 6
            · rw [if_pos k6] at hr; exact enc6_ok k k6 s n ags hn ha rows hrows r hr
            · rw [if_neg k6] at hr
              have : r = [] := hr
              rw [this]
              exact encode_none k ⟨k1, k2, k3, k4, k5, k6⟩ s n _
end Go.Proofs.YtfphhpabfeepmaaDoor
