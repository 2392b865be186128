import Derived.Test.YtfphhpabfeepmaaDoorS1
set_option linter.unusedSimpArgs false
set_option linter.unusedVariables false
namespace Go.Proofs.YtfphhpabfeepmaaDoor
open Go Go.RowKit Am

theorem itoaB_dec (n : Int) : itoaB n = BA (dec n) := rfl
theorem dec_nat (n : Nat) : dec (n : Int) = Lib.decDigits n := by
  unfold dec Lib.itoa; rw [if_neg (by omega), Int.toNat_natCast]
theorem dec_neg (n : Nat) (h : 0 < n) : dec (-(n : Int)) = 45 :: Lib.decDigits n := by
  unfold dec Lib.itoa
  rw [if_pos (by omega)]
  simp
theorem dig_step (n : Nat) (h : ¬ n < 10) : Lib.decDigits n = Lib.decDigits (n / 10) ++ [UInt8.ofNat (48 + n % 10)] := by
  rw [Lib.decDigits, dif_neg h]
theorem u8n' (n : Nat) (h : n < 256) : (UInt8.ofNat n).toNat = n := by simp; omega
theorem wrp8 {F : Sy} (hF : F = sy) {x : Int} {n : Nat} (h : x = (n : Int)) (h2 : n < 256) : F .wrp .u8 x = (n : Int) := by
  rw [hF, h]
  show IntKind.u8.wrap _ = _
  simp [IntKind.wrap, IntKind.signed, IntKind.bits, BitVec.toNat_ofInt]
  omega
theorem digs_nn : ∀ (m n : Nat), n ≤ m → n ≤ 9223372036854775807 → ∀ (n' : Int), n' = (n : Int) → ∀ r, r = itoaB n' → CSem Tryd.prog (.fn 37) [aI n'] (.pure [aS r]) := by
  intro m
  induction m with
  | zero =>
    intro n hm h1 n' hn' r hr
    have hn0 : n = 0 := by omega
    subst hn0
    refine of_text gam_ok mixed { n := 38 } Tryd.func37 (by kernel_rfl) rfl rfl (by simp) (by decide) fun F C D hF hC hD => ?_
    have t0 : F .cmp .lss n' 0 = false := by rw [lsF hF]; exact decide_eq_false (by omega)
    have t1 : F .cmp .lss n' 10 = true := by rw [lsF hF]; exact decide_eq_true (by omega)
    obtain ⟨x, hx⟩ : ∃ x : Int, F .wrp .u8 (F .ar .add .i64 48 n') = x := ⟨_, rfl⟩
    have ex : x = ((UInt8.ofNat 48).toNat : Int) := hx.symm.trans (wrp8 hF (n := 48) ((addF hF (i := 48) (j := 0) rfl hn' (by omega)).trans rfl) (by omega))
    have hbs := hC _ _ _ (bs_ok [UInt8.ofNat 48] [[aU x]] (by rw [ex]; rfl) r (by rw [hr, itoaB_dec, hn', dec_nat, Lib.decDigits_one (by omega)]))
    cbv
    refine bF (t0) ?_
    cbv
    refine bT (t1) ?_
    cbv
    rw [hx]
    refine ⟨_, hbs, ?_⟩
    cbv
    simp
  | succ m ih =>
    intro n hm h1 n' hn' r hr
    refine of_text gam_ok mixed { n := 38 } Tryd.func37 (by kernel_rfl) rfl rfl (by simp) (by decide) fun F C D hF hC hD => ?_
    have t0 : F .cmp .lss n' 0 = false := by rw [lsF hF]; exact decide_eq_false (by omega)
    have t1 := lsF hF n' 10
    by_cases h9 : n < 10
    · have t1 : F .cmp .lss n' 10 = true := by rw [t1]; exact decide_eq_true (by omega)
      obtain ⟨x, hx⟩ : ∃ x : Int, F .wrp .u8 (F .ar .add .i64 48 n') = x := ⟨_, rfl⟩
      have ex : x = ((UInt8.ofNat (48 + n)).toNat : Int) := hx.symm.trans ((wrp8 hF (n := 48 + n) (addF hF (i := 48) (j := n) rfl hn' (by omega)) (by omega)).trans (by rw [u8n' _ (by omega)]))
      have hbs := hC _ _ _ (bs_ok [UInt8.ofNat (48 + n)] [[aU x]] (by rw [ex]; rfl) r (by rw [hr, itoaB_dec, hn', dec_nat, Lib.decDigits_one h9]))
      cbv
      refine bF (t0) ?_
      cbv
      refine bT (t1) ?_
      cbv
      rw [hx]
      refine ⟨_, hbs, ?_⟩
      cbv
      simp
    · have t1 : F .cmp .lss n' 10 = false := by rw [t1]; exact decide_eq_false (by omega)
      obtain ⟨q, hq⟩ : ∃ q : Int, F .ar .quo .i64 n' 10 = q := ⟨_, rfl⟩
      have eq : q = ((n / 10 : Nat) : Int) := by
        have e1 : F .ar .quo .i64 n' 10 = IntKind.i64.wrap (n'.tdiv 10) := by rw [hF]; rfl
        rw [← hq, e1, hn', Int.tdiv_eq_ediv_of_nonneg (by omega)]
        exact (wrap_in (by omega) (by omega)).trans (by omega)
      obtain ⟨rm, hrm⟩ : ∃ q : Int, F .ar .rem .i64 n' 10 = q := ⟨_, rfl⟩
      have erm : rm = ((n % 10 : Nat) : Int) := by
        have e1 : F .ar .rem .i64 n' 10 = n'.tmod 10 := by rw [hF]; rfl
        rw [← hrm, e1, hn', Int.tmod_eq_emod_of_nonneg (by omega)]
        omega
      obtain ⟨x, hx⟩ : ∃ x : Int, F .wrp .u8 (F .ar .add .i64 48 rm) = x := ⟨_, rfl⟩
      have ex : x = ((UInt8.ofNat (48 + n % 10)).toNat : Int) := hx.symm.trans ((wrp8 hF (n := 48 + n % 10) (addF hF (i := 48) (j := n % 10) rfl erm (by omega)) (by omega)).trans (by rw [u8n' _ (by omega)]))
      obtain ⟨s1, hs1⟩ : ∃ s, s = BA [UInt8.ofNat (48 + n % 10)] := ⟨_, rfl⟩
      have hbs := hC _ _ _ (bs_ok [UInt8.ofNat (48 + n % 10)] [[aU x]] (by rw [ex]; rfl) s1 hs1)
      obtain ⟨s0, hs0⟩ : ∃ s, s = itoaB q := ⟨_, rfl⟩
      have hrec := hC _ _ _ (ih (n / 10) (by omega) (by omega) q eq s0 hs0)
      have hcat : F .cat s0 s1 = r := by rw [catF hF, hr, itoaB_dec, hn', dec_nat, dig_step n h9, hs0, itoaB_dec, eq, dec_nat, hs1, L_BA, L_BA]
      have hn0 : s0.size ≤ 21 := by rw [hs0, itoaB, BA_size]; exact dec_len q (by omega) (by omega)
      have hcs := catS hF (a := s0) (b := s1) (by rw [hs1, sz1]; omega)
      clear hs0 hs1 hr
      cbv
      refine bF (t0) ?_
      cbv
      refine bF (t1) ?_
      cbv
      refine ⟨hC _ _ _ (ben_ok (by kernel_rfl)), ?_⟩
      cbv
      rw [hq]
      refine ⟨_, hrec, ?_⟩
      cbv
      rw [hrm, hx]
      refine ⟨_, hbs, ?_⟩
      cbv
      rw [hcat]
      refine ⟨hcs, ?_⟩
      cbv
theorem digs_neg : ∀ (m n : Nat), n ≤ m → 0 < n → n ≤ 9223372036854775808 → ∀ (n' : Int), n' = -(n : Int) → ∀ r, r = itoaB n' → CSem Tryd.prog (.fn 37) [aI n'] (.pure [aS r]) := by
  intro m
  induction m with
  | zero => intro n hm h0; omega
  | succ m ih =>
    intro n hm h0 h1 n' hn' r hr
    refine of_text gam_ok mixed { n := 38 } Tryd.func37 (by kernel_rfl) rfl rfl (by simp) (by decide) fun F C D hF hC hD => ?_
    have t0 : F .cmp .lss n' 0 = true := by rw [lsF hF]; exact decide_eq_true (by omega)
    have t1 := gtF hF n' (-10)
    by_cases h9 : n < 10
    · have t1 : F .cmp .gtr n' (-10) = true := by rw [t1]; exact decide_eq_true (by omega)
      obtain ⟨q, hq⟩ : ∃ q : Int, F .ar .sub .i64 0 n' = q := ⟨_, rfl⟩
      have eq : q = (n : Int) := by
        rw [← hq, hF, hn']
        exact (wrap_in (by omega) (by omega)).trans (by omega)
      obtain ⟨s0, hs0⟩ : ∃ s, s = itoaB q := ⟨_, rfl⟩
      have hrec := hC _ _ _ (digs_nn n n (Nat.le_refl _) (by omega) q eq s0 hs0)
      have hcat : F .cat (BA [45]) s0 = r := by rw [catF hF, hr, itoaB_dec, hn', dec_neg n h0, hs0, itoaB_dec, eq, dec_nat, L_BA, L_BA]; rfl
      have hn0 : s0.size ≤ 21 := by rw [hs0, itoaB, BA_size]; exact dec_len q (by omega) (by omega)
      have hcs := catS hF (a := BA [45]) (b := s0) (by rw [sz1]; omega)
      unfold BA at hcat hcs
      clear hs0 hr
      cbv
      refine bT (t0) ?_
      cbv
      refine bT (t1) ?_
      cbv
      rw [hq]
      refine ⟨_, hrec, ?_⟩
      cbv
      rw [hcat]
      refine ⟨hcs, ?_⟩
      cbv
    · have t1 : F .cmp .gtr n' (-10) = false := by rw [t1]; exact decide_eq_false (by omega)
      obtain ⟨q, hq⟩ : ∃ q : Int, F .ar .quo .i64 n' 10 = q := ⟨_, rfl⟩
      have eq : q = -((n / 10 : Nat) : Int) := by
        have e1 : F .ar .quo .i64 n' 10 = IntKind.i64.wrap (n'.tdiv 10) := by rw [hF]; rfl
        rw [← hq, e1, hn', Int.neg_tdiv, Int.tdiv_eq_ediv_of_nonneg (by omega)]
        exact (wrap_in (by omega) (by omega)).trans (by omega)
      obtain ⟨rm, hrm⟩ : ∃ q : Int, F .ar .rem .i64 n' 10 = q := ⟨_, rfl⟩
      have erm : rm = -((n % 10 : Nat) : Int) := by
        have e1 : F .ar .rem .i64 n' 10 = n'.tmod 10 := by rw [hF]; rfl
        rw [← hrm, e1, hn', Int.neg_tmod, Int.tmod_eq_emod_of_nonneg (by omega)]
        omega
      obtain ⟨sb, hsb⟩ : ∃ q : Int, F .ar .sub .i64 48 rm = q := ⟨_, rfl⟩
      have esb : sb = ((48 + n % 10 : Nat) : Int) := by
        rw [← hsb, hF, erm]
        exact (wrap_in (by omega) (by omega)).trans (by omega)
      obtain ⟨x, hx⟩ : ∃ x : Int, F .wrp .u8 sb = x := ⟨_, rfl⟩
      have ex : x = ((UInt8.ofNat (48 + n % 10)).toNat : Int) := by rw [← hx, wrp8 hF (n := 48 + n % 10) esb (by omega), u8n' _ (by omega)]
      obtain ⟨s1, hs1⟩ : ∃ s, s = BA [UInt8.ofNat (48 + n % 10)] := ⟨_, rfl⟩
      have hbs := hC _ _ _ (bs_ok [UInt8.ofNat (48 + n % 10)] [[aU x]] (by rw [ex]; rfl) s1 hs1)
      obtain ⟨s0, hs0⟩ : ∃ s, s = itoaB q := ⟨_, rfl⟩
      have hrec := hC _ _ _ (ih (n / 10) (by omega) (by omega) (by omega) q eq s0 hs0)
      have hcat : F .cat s0 s1 = r := by rw [catF hF, hr, itoaB_dec, hn', dec_neg n h0, dig_step n h9, hs0, itoaB_dec, eq, dec_neg (n / 10) (by omega), hs1, L_BA, L_BA]; rfl
      have hn0 : s0.size ≤ 21 := by rw [hs0, itoaB, BA_size]; exact dec_len q (by omega) (by omega)
      have hcs := catS hF (a := s0) (b := s1) (by rw [hs1, sz1]; omega)
      clear hs0 hs1 hr
      cbv
      refine bT (t0) ?_
      cbv
      refine bF (t1) ?_
      cbv
      refine ⟨hC _ _ _ (ben_ok (by kernel_rfl)), ?_⟩
      cbv
      rw [hq]
      refine ⟨_, hrec, ?_⟩
      cbv
      rw [hrm, hsb, hx]
      refine ⟨_, hbs, ?_⟩
      cbv
      rw [hcat]
      refine ⟨hcs, ?_⟩
      cbv
theorem digs_ok (n : Int) (h0 : -9223372036854775808 ≤ n) (h1 : n ≤ 9223372036854775807) (r : ByteArray) (hr : r = itoaB n) : CSem Tryd.prog (.fn 37) [aI n] (.pure [aS r]) := by
  by_cases h : n < 0
  · exact digs_neg n.natAbs n.natAbs (Nat.le_refl _) (by omega) (by omega) n (by omega) r hr
  · exact digs_nn n.natAbs n.natAbs (Nat.le_refl _) (by omega) n (by omega) r hr
end Go.Proofs.YtfphhpabfeepmaaDoor
