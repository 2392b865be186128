import Derived.Test.YtfphhpabfeepmaaDoorP9
import Derived.Lib.ItoaLen
set_option linter.unusedSimpArgs false
set_option linter.unusedVariables false
namespace Go.Proofs.YtfphhpabfeepmaaDoor
open Go Go.RowKit Am

def dec (n : Int) : List UInt8 := Lib.itoa n
theorem dec_len (n : Int) (h0 : -9223372036854775808 ≤ n) (h1 : n ≤ 9223372036854775807) : (dec n).length ≤ 21 := Lib.itoa_length_le n h0 h1
theorem BA_size (l : List UInt8) : (BA l).size = l.length := by rw [L_size, L_BA]
theorem catS {F : Sy} (hF : F = sy) {a b : ByteArray} (h : a.size + b.size ≤ 1000000000) : F .slen a + F .slen b ≤ 9223372036854775807 := by rw [slenF hF, slenF hF]; omega
theorem catN {F : Sy} (hF : F = sy) {a b x : ByteArray} (h : F .cat a b = x) : x.size = a.size + b.size := by rw [← h, catF hF, BA_size, List.length_append, L_size, L_size]
theorem sz1 (b : UInt8) : (BA [b]).size = 1 := rfl
theorem sz2 : (BA [13, 10]).size = 2 := rfl
def bulkL (l : List UInt8) : List UInt8 := 36 :: dec l.length ++ [13, 10] ++ l ++ [13, 10]
theorem bulk_len (l : List UInt8) (h : l.length ≤ 1000000) : (bulkL l).length ≤ l.length + 30 := by
  have := dec_len l.length (by omega) (by omega)
  simp only [bulkL, List.length_append, List.length_cons, List.length_nil]; omega
theorem bulk_ok (l : List UInt8) (hl : l.length ≤ 1000000) (s : ByteArray) (hs : s = BA l) (r : ByteArray) (hr : r = BA (bulkL l)) : CSem Tryd.prog (.fn 35) [aS s] (.pure [aS r]) := by
  refine of_text gam_ok mixed { n := 11 } Tryd.func35 (by kernel_rfl) rfl rfl (by simp) (by decide) fun F C D hF hC hD => ?_
  obtain ⟨n, hn⟩ : ∃ n : Int, F .slen s = n := ⟨_, rfl⟩
  have en : n = (l.length : Int) := by rw [← hn, slenF hF, hs, BA_size]
  obtain ⟨d, hd⟩ : ∃ d, d = itoaB n := ⟨_, rfl⟩
  have hit := hC _ _ _ (itoa_ok n (by omega) (by omega) d hd)
  obtain ⟨x1, hx1⟩ : ∃ x1, F .cat (BA [36]) d = x1 := ⟨_, rfl⟩
  obtain ⟨x2, hx2⟩ : ∃ x2, F .cat x1 (BA [13, 10]) = x2 := ⟨_, rfl⟩
  obtain ⟨x3, hx3⟩ : ∃ x3, F .cat x2 s = x3 := ⟨_, rfl⟩
  have e3 : F .cat x3 (BA [13, 10]) = r := by rw [← hx3, ← hx2, ← hx1, catF hF, catF hF, catF hF, catF hF, hd, hr, hs, en]; rfl
  have n1 := catN hF hx1
  have n2 := catN hF hx2
  have n3 := catN hF hx3
  have nd : d.size ≤ 21 := by rw [hd, itoaB, BA_size]; exact dec_len n (by omega) (by omega)
  have ns : s.size ≤ 1000000 := by rw [hs, BA_size]; exact hl
  rw [sz1] at n1
  rw [sz2] at n2
  have c1 := catS hF (a := BA [36]) (b := d) (by rw [sz1]; omega)
  have c2 := catS hF (a := x1) (b := BA [13, 10]) (by rw [sz2]; omega)
  have c3 := catS hF (a := x2) (b := s) (by omega)
  have c4 := catS hF (a := x3) (b := BA [13, 10]) (by rw [sz2]; omega)
  unfold BA at hx1 hx2 e3 c1 c2 c4
  clear hd hr hs en n1 n2 n3
  cbv
  rw [hn]
  refine ⟨_, hit, ?_⟩
  cbv
  rw [hx1, hx2, hx3, e3]
  refine ⟨c1, c2, c3, c4, ?_⟩
  simp
/-! ### Encode -/
def repl (k : Int) (s : ByteArray) (n : Int) (R : AV) : List AV := [.agg [aI k, aS s, aI n, R]]
theorem encode_int (k : Int) (hk : k = 3) (s : ByteArray) (n : Int) (R : AV) (h0 : -9223372036854775808 ≤ n) (h1 : n ≤ 9223372036854775807) (r : List (List AV)) (hr : r = byR (58 :: dec n ++ [13, 10])) :
    CSem Tryd.prog (.fn 15) (repl k s n R) (.pure [.sl r]) := by
  refine of_text gam_ok mixed { n := 44 } Tryd.func15 (by kernel_rfl) rfl rfl (by simp [repl]) (by decide) fun F C D hF hC hD => ?_
  have i1 : F .cmp .eql k 1 = false := by rw [eqF hF, hk]; rfl
  have i2 : F .cmp .eql k 2 = false := by rw [eqF hF, hk]; rfl
  have i3 : F .cmp .eql k 3 = true := by rw [eqF hF, hk]; rfl
  obtain ⟨d, hd⟩ : ∃ d, d = itoaB n := ⟨_, rfl⟩
  have hit := hC _ _ _ (itoa_ok n h0 h1 d hd)
  obtain ⟨x1, hx1⟩ : ∃ x1, F .cat (BA [58]) d = x1 := ⟨_, rfl⟩
  obtain ⟨x2, hx2⟩ : ∃ x2, F .cat x1 (BA [13, 10]) = x2 := ⟨_, rfl⟩
  have e2 : x2 = BA (58 :: dec n ++ [13, 10]) := by rw [← hx2, ← hx1, catF hF, catF hF, hd]; rfl
  have hsz : x2.size ≤ 9223372036854775807 := by
    have := dec_len n h0 h1
    rw [e2, BA_size]; simp only [List.length_append, List.length_cons, List.length_nil]; omega
  have hcv := hC _ _ _ (sb_ok x2 hsz r (by rw [e2]; exact hr))
  have n1 := catN hF hx1
  have nd : d.size ≤ 21 := by rw [hd, itoaB, BA_size]; exact dec_len n h0 h1
  rw [sz1] at n1
  have c1 := catS hF (a := BA [58]) (b := d) (by rw [sz1]; omega)
  have c2 := catS hF (a := x1) (b := BA [13, 10]) (by rw [sz2]; omega)
  unfold BA at hx1 hx2 c1 c2
  clear hr hd e2 hk n1
  cbv
  refine bF (i1) ?_
  cbv
  refine bF (i2) ?_
  cbv
  refine bT (i3) ?_
  cbv
  refine ⟨_, hit, ?_⟩
  cbv
  rw [hx1, hx2]
  refine ⟨c1, c2, _, hcv, ?_⟩
  cbv
theorem encode_bulk (k : Int) (hk : k = 4) (l : List UInt8) (hl : l.length ≤ 1000000) (s : ByteArray) (hs : s = BA l) (n : Int) (R : AV) (r : List (List AV)) (hr : r = byR (bulkL l)) :
    CSem Tryd.prog (.fn 15) (repl k s n R) (.pure [.sl r]) := by
  refine of_text gam_ok mixed { n := 44 } Tryd.func15 (by kernel_rfl) rfl rfl (by simp [repl]) (by decide) fun F C D hF hC hD => ?_
  have i1 : F .cmp .eql k 1 = false := by rw [eqF hF, hk]; rfl
  have i2 : F .cmp .eql k 2 = false := by rw [eqF hF, hk]; rfl
  have i3 : F .cmp .eql k 3 = false := by rw [eqF hF, hk]; rfl
  have i4 : F .cmp .eql k 4 = true := by rw [eqF hF, hk]; rfl
  obtain ⟨b, hb⟩ : ∃ b, b = BA (bulkL l) := ⟨_, rfl⟩
  have hbk := hC _ _ _ (bulk_ok l hl s hs b hb)
  have hsz : b.size ≤ 9223372036854775807 := by
    have := bulk_len l hl
    rw [hb, BA_size]; omega
  have hcv := hC _ _ _ (sb_ok b hsz r (by rw [hb]; exact hr))
  clear hr hb hk hs
  cbv
  refine bF (i1) ?_
  cbv
  refine bF (i2) ?_
  cbv
  refine bF (i3) ?_
  cbv
  refine bT (i4) ?_
  cbv
  refine ⟨_, hbk, ?_⟩
  cbv
  refine ⟨_, hcv, ?_⟩
  cbv
theorem encode_null (k : Int) (hk : k = 5) (s : ByteArray) (n : Int) (R : AV) (r : List (List AV)) (hr : r = byR [36, 45, 49, 13, 10]) :
    CSem Tryd.prog (.fn 15) (repl k s n R) (.own 5 1 r []) := by
  refine of_text gam_ok mixed { n := 44, keep := [37, 38] } Tryd.func15 (by kernel_rfl) rfl rfl (by simp [repl]) (by decide) fun F C D hF hC hD => ?_
  have i1 : F .cmp .eql k 1 = false := by rw [eqF hF, hk]; rfl
  have i2 : F .cmp .eql k 2 = false := by rw [eqF hF, hk]; rfl
  have i3 : F .cmp .eql k 3 = false := by rw [eqF hF, hk]; rfl
  have i4 : F .cmp .eql k 4 = false := by rw [eqF hF, hk]; rfl
  have i5 : F .cmp .eql k 5 = true := by rw [eqF hF, hk]; rfl
  have er : [[aU 36], [aU 45], [aU 49], [aU 13], [aU 10]] = r := by rw [hr]; rfl
  clear hr hk
  cbv
  refine bF (i1) ?_
  cbv
  refine bF (i2) ?_
  cbv
  refine bF (i3) ?_
  cbv
  refine bF (i4) ?_
  cbv
  refine bT (i5) ?_
  cbv
  simpa using er
theorem encode_none (k : Int) (hk : k ≠ 1 ∧ k ≠ 2 ∧ k ≠ 3 ∧ k ≠ 4 ∧ k ≠ 5 ∧ k ≠ 6) (s : ByteArray) (n : Int) (R : AV) :
    CSem Tryd.prog (.fn 15) (repl k s n R) (.pure [.sl []]) := by
  refine of_text gam_ok mixed { n := 44 } Tryd.func15 (by kernel_rfl) rfl rfl (by simp [repl]) (by decide) fun F C D hF hC hD => ?_
  obtain ⟨h1, h2, h3, h4, h5, h6⟩ := hk
  have i1 : F .cmp .eql k 1 = false := by rw [eqF hF]; simp [h1]
  have i2 : F .cmp .eql k 2 = false := by rw [eqF hF]; simp [h2]
  have i3 : F .cmp .eql k 3 = false := by rw [eqF hF]; simp [h3]
  have i4 : F .cmp .eql k 4 = false := by rw [eqF hF]; simp [h4]
  have i5 : F .cmp .eql k 5 = false := by rw [eqF hF]; simp [h5]
  have i6 : F .cmp .eql k 6 = false := by rw [eqF hF]; simp [h6]
  cbv
  refine bF (i1) ?_
  cbv
  refine bF (i2) ?_
  cbv
  refine bF (i3) ?_
  cbv
  refine bF (i4) ?_
  cbv
  refine bF (i5) ?_
  cbv
  refine bF (i6) ?_
  cbv
end Go.Proofs.YtfphhpabfeepmaaDoor
