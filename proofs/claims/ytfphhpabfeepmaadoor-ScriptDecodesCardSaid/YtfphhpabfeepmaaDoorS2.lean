import Derived.Test.YtfphhpabfeepmaaDoorS1
import Derived.Test.YtfphhpabfeepmaaDoorP11
set_option linter.unusedSimpArgs false
set_option linter.unusedVariables false
namespace Go.Proofs.YtfphhpabfeepmaaDoor
open Go Go.RowKit Am

theorem subF0 {F : Sy} (hF : F = sy) {i j : Nat} {i' j' : Int} (hi : i' = (i : Int)) (hj : j' = (j : Int)) (h : i ≤ 4000000000) (h2 : j ≤ i) : F .ar .sub .i64 i' j' = ((i - j : Nat) : Int) := by rw [hF, hi, hj]; exact (wrap_in (by omega) (by omega)).trans (by omega)
def flat (c : UInt8) : Prop := c ≠ 13 ∧ c ≠ 10
theorem digit_flat (n : Nat) (h : n < 10) : flat (UInt8.ofNat (48 + n)) := by
  have : n = 0 ∨ n = 1 ∨ n = 2 ∨ n = 3 ∨ n = 4 ∨ n = 5 ∨ n = 6 ∨ n = 7 ∨ n = 8 ∨ n = 9 := by omega
  rcases this with h | h | h | h | h | h | h | h | h | h <;> subst h <;> exact ⟨by decide, by decide⟩
theorem digits_flat : ∀ (m n : Nat), n ≤ m → ∀ c ∈ Lib.decDigits n, flat c := by
  intro m
  induction m with
  | zero =>
    intro n hn c hc
    rw [Lib.decDigits_one (by omega)] at hc
    rw [List.mem_singleton.1 hc]
    exact digit_flat n (by omega)
  | succ m ih =>
    intro n hn c hc
    by_cases h : n < 10
    · rw [Lib.decDigits_one h] at hc
      rw [List.mem_singleton.1 hc]
      exact digit_flat n h
    · rw [Lib.decDigits, dif_neg h] at hc
      rcases List.mem_append.1 hc with hc | hc
      · exact ih (n / 10) (by omega) c hc
      · rw [List.mem_singleton.1 hc]
        exact digit_flat (n % 10) (by omega)
theorem dec_flat (n : Int) : ∀ c ∈ dec n, flat c := by
  intro c hc
  unfold dec Lib.itoa at hc
  split at hc
  · rcases List.mem_cons.1 hc with hc | hc
    · rw [hc]; exact ⟨by decide, by decide⟩
    · exact digits_flat _ _ (Nat.le_refl _) c hc
  · exact digits_flat _ _ (Nat.le_refl _) c hc
/-- The three kinds that take one line. -/
def preL (k : Nat) (l : List UInt8) (n : Int) : List UInt8 := if k = 1 then 43 :: lnL l else if k = 2 then 45 :: lnL l else 58 :: dec n
theorem pre_flat (k : Nat) (l : List UInt8) (n : Int) : ∀ c ∈ preL k l n, flat c := by
  intro c hc
  unfold preL at hc
  split at hc
  · rcases List.mem_cons.1 hc with hc | hc
    · rw [hc]; exact ⟨by decide, by decide⟩
    · exact ln_no l c hc
  · split at hc
    · rcases List.mem_cons.1 hc with hc | hc
      · rw [hc]; exact ⟨by decide, by decide⟩
      · exact ln_no l c hc
    · rcases List.mem_cons.1 hc with hc | hc
      · rw [hc]; exact ⟨by decide, by decide⟩
      · exact dec_flat n c hc
theorem pre_len (k : Nat) (l : List UInt8) (n : Int) (hl : l.length ≤ 3000) (h0 : -9223372036854775808 ≤ n) (h1 : n ≤ 9223372036854775807) : 1 ≤ (preL k l n).length ∧ (preL k l n).length ≤ 3001 := by
  have := dec_len n h0 h1
  unfold preL
  split
  · simp only [List.length_cons, ln_len]; omega
  · split
    · simp only [List.length_cons, ln_len]; omega
    · simp only [List.length_cons]; omega
theorem encode_three (k : Nat) (hk : 1 ≤ k ∧ k ≤ 3) (k' : Int) (hk' : k' = (k : Int)) (l : List UInt8) (hl : l.length ≤ 1000000) (s : ByteArray) (hs : s = BA l) (n : Int) (h0 : -9223372036854775808 ≤ n) (h1 : n ≤ 9223372036854775807) (R : AV) (r : List (List AV)) (hr : r = byR (preL k l n ++ [13, 10])) :
    CSem Tryd.prog (.fn 15) (repl k' s n R) (.pure [.sl r]) := by
  unfold preL at hr
  by_cases e1 : k = 1
  · rw [if_pos e1] at hr
    exact encode_line k' (.inl (by omega)) l hl s hs n R 43 (by rw [if_pos (by omega)]) r hr
  · rw [if_neg e1] at hr
    by_cases e2 : k = 2
    · rw [if_pos e2] at hr
      exact encode_line k' (.inr (by omega)) l hl s hs n R 45 (by rw [if_neg (by omega)]) r hr
    · rw [if_neg e2] at hr
      exact encode_int k' (by omega) s n R h0 h1 r hr
set_option maxHeartbeats 4000000 in
theorem respLines_go (k0 : Int) (s : ByteArray) (hs : s.size ≤ 3000) (n : Int) (h0 : -9223372036854775808 ≤ n) (h1 : n ≤ 9223372036854775807) (R : List (List AV)) : CSem Tryd.prog (.fn 7) (repl k0 s n (.sl R)) (.pure [aB true]) := by
  refine of_text gam_ok mixed { n := 66 } Tryd.func7 (by kernel_rfl) rfl rfl (by simp [repl]) (by decide) fun F C D hF hC hD => ?_
  have haw := hC _ _ _ awake_ok
  have t2 : F .bnot true = false := by rw [bnotF hF]; rfl
  have g1 : F .cmp .gtr (F .slen s) 3000 = false := by rw [slenF hF, gtF hF]; simp; omega
  obtain ⟨l, hl⟩ : ∃ l, l = L s := ⟨_, rfl⟩
  have hll : l.length ≤ 3000 := by rw [hl, ← L_size]; exact hs
  have hsl : s = BA l := by rw [hl, BA_L]
  cbv
  refine ⟨_, haw, ?_⟩
  cbv
  refine cF (t2) ?_
  cbv
  refine bF (g1) ?_
  cbv
  refine ⟨Nat × Int, fun x => { slots := [(3, aI x.2), (1, .ept [aI k0, aS s, aI n, .sl R] 0)], obs := [], ctr := 0 }, fun x => x.2 = (x.1 : Int) ∧ 1 ≤ x.1 ∧ x.1 ≤ 4, fun x => 4 - x.1, ⟨(1, 1), ⟨rfl, by omega, by omega⟩, (le_of [] (by simp [leSl, leOb, injK, memK, parK, noTup, lk, rn0, rnA, plain] <;> first | rfl | decide))⟩, fun x hx => ?_⟩
  obtain ⟨k, k'⟩ := x
  obtain ⟨ek, hk1, hk4⟩ := hx
  simp only at ek hk1 hk4
  obtain ⟨k2, hk2⟩ : ∃ i2, F .ar .add .i64 k' 1 = i2 := ⟨_, rfl⟩
  have ek2 : k2 = ((k + 1 : Nat) : Int) := hk2.symm.trans (incF hF ek (by omega))
  have v0 : F .cmp .leq k' 3 = decide (k ≤ 3) := by rw [leF hF, ek]; congr 1; exact propext ⟨fun h => by omega, fun h => by omega⟩
  by_cases h3 : k ≤ 3
  · have v0 : F .cmp .leq k' 3 = true := by rw [v0]; exact decide_eq_true h3
    obtain ⟨p, hp⟩ : ∃ p, p = preL k l n := ⟨_, rfl⟩
    have hpl := pre_len k l n hll h0 h1
    have hpf := pre_flat k l n
    rw [← hp] at hpl hpf
    obtain ⟨r, hr⟩ : ∃ r, r = byR (p ++ [13, 10]) := ⟨_, rfl⟩
    have henc := hC _ _ _ (encode_three k ⟨hk1, h3⟩ k' ek l (by omega) s hsl n h0 h1 (.v (.slice none 0 0)) r (by rw [hr, hp]))
    obtain ⟨rn, hrn⟩ : ∃ b : Int, F .len r = b := ⟨_, rfl⟩
    have ern : rn = ((p.length + 2 : Nat) : Int) := by rw [← hrn, lenF hF, hr, byR_len]; simp
    have v1 : F .cmp .lss rn 3 = false := by rw [lsF hF, ern]; exact decide_eq_false (by omega)
    obtain ⟨m1, hm1⟩ : ∃ b : Int, F .ar .sub .i64 rn 2 = b := ⟨_, rfl⟩
    have em1 : m1 = (p.length : Int) := hm1.symm.trans (subF0 hF ern (j := 2) rfl (by omega) (by omega))
    obtain ⟨m2, hm2⟩ : ∃ b : Int, F .ar .sub .i64 rn 1 = b := ⟨_, rfl⟩
    have em2 : m2 = ((p.length + 1 : Nat) : Int) := hm2.symm.trans (subF0 hF ern (j := 1) rfl (by omega) (by omega))
    have hrow1 : r[p.length]? = some [aU 13] := by rw [hr]; exact byR_get (b := 13) (by rw [List.getElem?_append_right (Nat.le_refl _), Nat.sub_self]; rfl)
    have hrow2 : r[p.length + 1]? = some [aU 10] := by rw [hr]; exact byR_get (b := 10) (by rw [List.getElem?_append_right (by omega), show p.length + 1 - p.length = 1 by omega]; rfl)
    have v2 : F .cmp .neq 13 13 = false := by rw [neF hF]; rfl
    have v3 : F .cmp .neq 10 10 = false := by rw [neF hF]; rfl
    cbv
    refine bT (v0) ?_
    cbv
    refine ⟨_, henc, ?_⟩
    cbv
    rw [hrn]
    refine cF (v1) ?_
    cbv
    rw [hrn, hm1]
    refine ⟨p.length, _, em1, hrow1, rfl, ?_⟩
    cbv
    refine cF (v2) ?_
    cbv
    rw [hrn, hm2]
    refine ⟨(p.length+1), _, em2, hrow2, rfl, ?_⟩
    cbv
    refine bF (v3) ?_
    cbv
    refine ⟨Nat × Int, fun x => { slots := [(5, aI x.2), (4, .sl r), (3, aI k'), (1, .ept [aI k0, aS s, aI n, .sl R] 0)], obs := [], ctr := 0 }, fun x => x.2 = (x.1 : Int) ∧ x.1 ≤ p.length, fun x => p.length - x.1, ⟨(0, 0), ⟨rfl, Nat.zero_le _⟩, (le_of [] (by simp [leSl, leOb, injK, memK, parK, noTup, lk, rn0, rnA, plain] <;> first | rfl | decide))⟩, fun x hx => ?_⟩
    obtain ⟨j, j'⟩ := x
    obtain ⟨ej, hj⟩ := hx
    simp only at ej hj
    have tl := ltF hF j p.length j' m1 ej em1
    obtain ⟨j2, hj2⟩ : ∃ i2, F .ar .add .i64 j' 1 = i2 := ⟨_, rfl⟩
    have ej2 : j2 = ((j + 1 : Nat) : Int) := hj2.symm.trans (incF hF ej (by omega))
    by_cases hjl : j < p.length
    · have tl : F .cmp .lss j' m1 = true := tl.2 hjl
      obtain ⟨c, hc⟩ : ∃ c, p[j]? = some c := ⟨_, List.getElem?_eq_getElem hjl⟩
      have hfl := hpf c (List.mem_of_getElem? hc)
      obtain ⟨ci, hci⟩ : ∃ ci : Int, ci = (c.toNat : Int) := ⟨_, rfl⟩
      have hrow : r[j]? = some [aU ci] := by rw [hr, hci]; exact byR_get (by rw [List.getElem?_append_left hjl]; exact hc)
      have n13 : c.toNat ≠ 13 := fun h => hfl.1 (UInt8.toNat_inj.1 h)
      have n10 : c.toNat ≠ 10 := fun h => hfl.2 (UInt8.toNat_inj.1 h)
      have w1 : F .cmp .eql ci 13 = false := by rw [eqF hF, hci]; exact decide_eq_false (by omega)
      have w2 : F .cmp .eql ci 10 = false := by rw [eqF hF, hci]; exact decide_eq_false (by omega)
      cbv
      rw [hrn, hm1]
      refine bT (tl) ?_
      cbv
      refine ⟨j, _, ej, hrow, rfl, ?_⟩
      cbv
      refine cF (w1) ?_
      cbv
      refine ⟨j, _, ej, hrow, rfl, ?_⟩
      cbv
      refine bF (w2) ?_
      cbv
      rw [hj2]
      exact ⟨(j + 1, j2), ⟨ej2, hjl⟩, (show p.length - (j + 1) < p.length - j by omega), (le_of [] (by simp [leSl, leOb, injK, memK, parK, noTup, lk, rn0, rnA, plain] <;> first | rfl | decide))⟩
    · have tl : F .cmp .lss j' m1 = false := by cases h : F .cmp .lss j' m1 with | true => exact absurd (tl.1 h) hjl | false => rfl
      cbv
      rw [hrn, hm1]
      refine bF (tl) ?_
      cbv
      rw [hk2]
      exact ⟨(k + 1, k2), ⟨ek2, by simp only; omega, by simp only; omega⟩, (show 4 - (k + 1) < 4 - k by omega), (le_of [] (by simp [leSl, leOb, injK, memK, parK, noTup, lk, rn0, rnA, plain] <;> first | rfl | decide))⟩
  · have v0 : F .cmp .leq k' 3 = false := by rw [v0]; exact decide_eq_false h3
    cbv
    refine bF (v0) ?_
    cbv
theorem respLines_ok (k0 : Int) (s : ByteArray) (n : Int) (h0 : -9223372036854775808 ≤ n) (h1 : n ≤ 9223372036854775807) (R : List (List AV)) : CSem Tryd.prog (.fn 7) (repl k0 s n (.sl R)) (.pure [aB true]) := by
  by_cases hs : s.size ≤ 3000
  · exact respLines_go k0 s hs n h0 h1 R
  · refine of_text gam_ok mixed { n := 66 } Tryd.func7 (by kernel_rfl) rfl rfl (by simp [repl]) (by decide) fun F C D hF hC hD => ?_
    have haw := hC _ _ _ awake_ok
    have t2 : F .bnot true = false := by rw [bnotF hF]; rfl
    have g1 : F .cmp .gtr (F .slen s) 3000 = true := by rw [slenF hF, gtF hF]; simp; omega
    cbv
    refine ⟨_, haw, ?_⟩
    cbv
    refine cF (t2) ?_
    cbv
    refine bT (g1) ?_
    cbv
    refine ⟨_, haw, ?_⟩
    cbv
    simp
end Go.Proofs.YtfphhpabfeepmaaDoor
