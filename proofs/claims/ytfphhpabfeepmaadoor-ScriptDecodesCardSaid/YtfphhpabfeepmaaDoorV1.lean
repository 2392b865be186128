import Derived.Test.YtfphhpabfeepmaaDoorP10
set_option linter.unusedSimpArgs false
set_option linter.unusedVariables false
namespace Go.Proofs.YtfphhpabfeepmaaDoor
open Go Go.RowKit Am

/-! ### Scripts: one byte, two bytes -/
/-- Bytes that are left, and whether they ended. -/
abbrev RS := List UInt8 × Bool
def oneS : RS → Nat × RS
  | ([], _) => (0, ([], true))
  | (c :: t, o) => (c.toNat, (t, o))
theorem oneS_lt (s : RS) : (oneS s).1 < 256 := by
  obtain ⟨r, o⟩ := s
  cases r with
  | nil => exact (by decide : 0 < 256)
  | cons c t => exact c.toNat_lt
theorem oneS_len (s : RS) : (oneS s).2.1.length ≤ s.1.length := by
  obtain ⟨r, o⟩ := s
  cases r with
  | nil => exact Nat.le_refl _
  | cons c t => exact Nat.le_succ _
abbrev RD (rows : List (List AV)) (o : Bool) : Obs := [(0, .box 85 [.sl rows, aB o] false)]
theorem one_ok (s : RS) (hl : s.1.length ≤ 1000000) (rows : List (List AV)) (hr : rows = byR s.1) (n : Int) (hn : n = ((oneS s).1 : Int)) (rows2 : List (List AV)) (hr2 : rows2 = byR (oneS s).2.1) (o o2 : Bool) (ho : o = s.2) (ho2 : o2 = (oneS s).2.2) :
    CSem Tryd.prog (.wr 44 (RD rows o) (RD rows2 o2)) [.ptr 0 0] (.pure [aI n]) := by
  refine of_textW gam_ok mixed { n := 29 } Tryd.func44 (by kernel_rfl) rfl rfl (by simp) (by decide) rfl fun F C D hF hC hD => ?_
  obtain ⟨r, b⟩ := s
  obtain ⟨m, hm⟩ : ∃ m : Int, F .len rows = m := ⟨_, rfl⟩
  have em : m = (r.length : Int) := by rw [← hm, lenF hF, hr, byR_len]
  cases r with
  | nil =>
    have t1 : F .cmp .eql m 0 = true := by rw [eqF hF, em]; rfl
    have e1 : rows2 = rows := by rw [hr2, hr]; rfl
    have e2 : o2 = true := ho2
    have e3 : n = 0 := hn
    subst e1 e2 e3
    clear hr hr2 ho ho2 hn em
    cbv
    rw [hm]
    refine bT (t1) ?_
    cbv
    simp
  | cons c t =>
    have t1 : F .cmp .eql m 0 = false := by rw [eqF hF, em]; exact decide_eq_false (by simp only [List.length_cons]; omega)
    have e2 : o2 = o := by rw [ho2, ho]; rfl
    have hrow : rows[0]? = some [aU c.toNat] := by rw [hr]; rfl
    obtain ⟨b0, hb0⟩ : ∃ b : Int, b = (c.toNat : Int) := ⟨_, rfl⟩
    rw [← hb0] at hrow
    have hw : F .wrp .i64 b0 = n := by
      rw [hF, hb0, hn]
      have := c.toNat_lt
      exact wrap_in (by omega) (by omega)
    have h1 : ((t.length + 1 : Nat) : Int) = F .len rows := by rw [hm, em]; rfl
    have h2 : ((t.length + 1 : Nat) : Int) ≤ F .len rows := by rw [hm, em]; exact Int.le_refl _
    have hone : ∀ r ∈ rows, r.length = 1 := by rw [hr]; exact byR_one _
    have hrs : rows2 = (rows.drop 1).take (t.length + 1 - 1) := by
      rw [hr2, hr]
      show byR t = (byR t).take t.length
      exact (List.take_of_length_le (by rw [byR_len]; exact Nat.le_refl _)).symm
    subst e2
    clear hr hr2 hn em ho ho2
    cbv
    rw [hm]
    refine bF (t1) ?_
    cbv
    refine ⟨0, _, rfl, hrow, rfl, ?_⟩
    cbv
    rw [hw]
    refine ⟨1, t.length + 1, rfl, h1, Nat.succ_le_succ (Nat.zero_le _), h2, hone, rows2, hrs, ?_⟩
    cbv
    simp
/-- The reference's reader: all bytes, a place, whether they ended. -/
abbrev RR (b : ByteArray) (a : Int) (o : Bool) : Obs := [(0, .box 90 [aS b, aI a, aB o] false)]
/-- What a reader at a place has left. -/
def at_ (l : List UInt8) (a : Nat) (o : Bool) : RS := (l.drop a, o)
def nextA (l : List UInt8) (a : Nat) : Nat := if a < l.length then a + 1 else a
theorem next_at (l : List UInt8) (a : Nat) (o : Bool) (ha : a ≤ l.length) : (oneS (at_ l a o)).2 = at_ l (nextA l a) ((oneS (at_ l a o)).2.2) ∧ nextA l a ≤ l.length := by
  unfold at_ nextA
  by_cases h : a < l.length
  · rw [if_pos h, List.drop_eq_getElem_cons h]
    exact ⟨rfl, h⟩
  · rw [if_neg h, List.drop_eq_nil_of_le (by omega)]
    exact ⟨rfl, ha⟩
theorem next_ok (l : List UInt8) (hl : l.length ≤ 1000000) (b : ByteArray) (hb : l = L b) (a : Nat) (ha : a ≤ l.length) (o : Bool) (a1 a2 n : Int) (h1 : a1 = (a : Int)) (h2 : a2 = (nextA l a : Nat)) (hn : n = ((oneS (at_ l a o)).1 : Int)) (o2 : Bool) (ho2 : o2 = (oneS (at_ l a o)).2.2) :
    CSem Tryd.prog (.wr 46 (RR b a1 o) (RR b a2 o2)) [.ptr 0 0] (.pure [aI n]) := by
  refine of_textW gam_ok mixed { n := 34 } Tryd.func46 (by kernel_rfl) rfl rfl (by simp) (by decide) rfl fun F C D hF hC hD => ?_
  obtain ⟨m, hm⟩ : ∃ m : Int, F .slen b = m := ⟨_, rfl⟩
  have em : m = (l.length : Int) := by rw [← hm, slenF hF, L_size, hb]
  have t1 : F .cmp .geq a1 m = decide (l.length ≤ a) := by rw [geF hF, em, h1]; congr 1; exact propext ⟨fun h => by omega, fun h => by omega⟩
  by_cases h : a < l.length
  · have t1 : F .cmp .geq a1 m = false := by rw [t1]; exact decide_eq_false (by omega)
    obtain ⟨c, hc⟩ : ∃ c, l[a]? = some c := ⟨_, List.getElem?_eq_getElem h⟩
    have hd : l.drop a = c :: l.drop (a + 1) := by
      obtain ⟨g1, g2⟩ := List.getElem?_eq_some_iff.1 hc
      rw [List.drop_eq_getElem_cons g1, g2]
    have ea2 : F .ar .add .i64 a1 1 = a2 := by rw [incF hF h1 (by omega), h2]; unfold nextA; rw [if_pos h]
    have ea3 : F .ar .sub .i64 a2 1 = a1 := by
      rw [hF, h2, h1]
      unfold nextA
      rw [if_pos h]
      exact (wrap_in (by omega) (by omega)).trans (by omega)
    have eo : o2 = o := by rw [ho2]; unfold at_; rw [hd]; rfl
    have en : n = (c.toNat : Int) := by rw [hn]; unfold at_; rw [hd]; rfl
    have hbt : F .bt b a1 = n := by rw [h1, en]; exact btF hF (by rw [← hb]; exact hc)
    have hlo0 : 0 ≤ a1 := by rw [h1]; omega
    have hlo1 : a1 < F .slen b := by rw [hm, h1, em]; exact Int.ofNat_lt.2 h
    have hw : F .wrp .i64 n = n := by
      rw [hF, en]
      have := c.toNat_lt
      exact wrap_in (by omega) (by omega)
    subst eo
    clear hn ho2 en
    cbv
    refine ⟨hC _ _ _ (ben_ok (by kernel_rfl)), ?_⟩
    cbv
    rw [hm]
    refine bF (t1) ?_
    cbv
    rw [ea2]
    refine ⟨hC _ _ _ (ben_ok (by kernel_rfl)), ?_⟩
    cbv
    rw [ea3]
    refine ⟨hlo0, hlo1, ?_⟩
    cbv
    rw [hbt, hw]
    simp
  · have t1 : F .cmp .geq a1 m = true := by rw [t1]; exact decide_eq_true (by omega)
    have hd : l.drop a = [] := List.drop_eq_nil_of_le (by omega)
    have eo : o2 = true := by rw [ho2]; unfold at_; rw [hd]; rfl
    have en : n = 0 := by rw [hn]; unfold at_; rw [hd]; rfl
    have ea : a2 = a1 := by rw [h2, h1]; unfold nextA; rw [if_neg h]
    subst eo en ea
    clear hn ho2
    cbv
    refine ⟨hC _ _ _ (ben_ok (by kernel_rfl)), ?_⟩
    cbv
    rw [hm]
    refine bT (t1) ?_
    cbv
    simp
theorem net_ok (k : Int) (q : Bool) (hq : q = decide (4 ≤ k ∧ k ≤ 6)) : CSem Tryd.prog (.fn 63) [aI k] (.pure [aB q]) := by
  refine of_text gam_ok mixed { n := 9 } Tryd.func63 (by kernel_rfl) rfl rfl (by simp) (by decide) fun F C D hF hC hD => ?_
  have t1 : F .cmp .geq k 4 = decide (4 ≤ k) := geF hF k 4
  have t2 : F .cmp .leq k 6 = decide (k ≤ 6) := leF hF k 6
  by_cases h1 : 4 ≤ k
  · have t1 : F .cmp .geq k 4 = true := by rw [t1]; exact decide_eq_true h1
    have t2 : F .cmp .leq k 6 = q := by rw [t2, hq]; congr 1; exact propext ⟨fun h => ⟨h1, h⟩, fun h => h.2⟩
    clear hq
    cbv
    refine bT (t1) ?_
    cbv
    rw [t2]
    simp
  · have t1 : F .cmp .geq k 4 = false := by rw [t1]; exact decide_eq_false h1
    have hq : q = false := by rw [hq]; exact decide_eq_false (fun h => h1 h.1)
    subst hq
    cbv
    refine bF (t1) ?_
    cbv
def twoS (s : RS) : Nat × RS := (256 * (oneS s).1 + (oneS (oneS s).2).1, (oneS (oneS s).2).2)
theorem or_val : ∀ a b : Nat, a < 256 → b < 256 → sy .ar .or .i64 ((a * 256 : Nat) : Int) (b : Int) = ((256 * a + b : Nat) : Int) := by
  intro a b ha hb
  show IntKind.i64.wrap _ = _
  have e : (BitVec.ofInt 64 ((a * 256 : Nat) : Int) ||| BitVec.ofInt 64 (b : Int)).toNat = 256 * a + b := by
    simp only [BitVec.toNat_or, BitVec.toNat_ofInt]
    have h1 : (((a * 256 : Nat) : Int) % ((2 ^ 64 : Nat) : Int)).toNat = a * 256 := by omega
    have h2 : ((b : Int) % ((2 ^ 64 : Nat) : Int)).toNat = b := by omega
    rw [h1, h2]
    have h3 := Nat.shiftLeft_add_eq_or_of_lt (i := 8) (b := b) (by omega) a
    rw [Nat.shiftLeft_eq] at h3
    rw [show a * 256 = a * 2 ^ 8 by rfl, ← h3]
    omega
  rw [show IntKind.i64.bits = 64 from rfl, e]
  exact wrap_in (by omega) (by omega)
theorem two_ok (s : RS) (hl : s.1.length ≤ 1000000) (rows : List (List AV)) (hr : rows = byR s.1) (n : Int) (hn : n = ((twoS s).1 : Int)) (rows2 : List (List AV)) (hr2 : rows2 = byR (twoS s).2.1) (o o2 : Bool) (ho : o = s.2) (ho2 : o2 = (twoS s).2.2) :
    CSem Tryd.prog (.wr 65 (RD rows o) (RD rows2 o2)) [.ptr 0 0] (.pure [aI n]) := by
  refine of_textW gam_ok mixed { n := 11, wrs := [44] } Tryd.func65 (by kernel_rfl) rfl rfl (by simp) (by decide) rfl fun F C D hF hC hD => ?_
  obtain ⟨n1, hn1⟩ : ∃ n1 : Int, n1 = ((oneS s).1 : Int) := ⟨_, rfl⟩
  obtain ⟨r1, hr1⟩ : ∃ r, r = byR (oneS s).2.1 := ⟨_, rfl⟩
  obtain ⟨o1, ho1⟩ : ∃ r, r = (oneS s).2.2 := ⟨_, rfl⟩
  obtain ⟨n2, hn2⟩ : ∃ n1 : Int, n1 = ((oneS (oneS s).2).1 : Int) := ⟨_, rfl⟩
  have hc1 := hC _ _ _ (one_ok s hl rows hr n1 hn1 r1 hr1 o o1 ho ho1)
  have hc2 := hC _ _ _ (one_ok (oneS s).2 (Nat.le_trans (oneS_len s) hl) r1 hr1 n2 hn2 rows2 hr2 o1 o2 ho1 ho2)
  obtain ⟨x, hx⟩ : ∃ x, F .ar .shl .i64 n1 8 = x := ⟨_, rfl⟩
  have ex : x = (((oneS s).1 * 256 : Nat) : Int) := by
    rw [← hx, hF, hn1]
    have := oneS_lt s
    show IntKind.i64.wrap _ = _
    exact (wrap_in (by simp [IntKind.bits]; omega) (by simp [IntKind.bits]; omega)).trans (by simp [IntKind.bits])
  have ho : F .ar .or .i64 x n2 = n := by rw [ex, hn2, hn, hF]; exact or_val _ _ (oneS_lt s) (oneS_lt _)
  have h8 : (0 : Int) ≤ 8 := by decide
  cbv
  refine ⟨_, _, hc1, ?_⟩
  cbv
  refine ⟨_, _, hc2, ?_⟩
  cbv
  rw [hx, ho]
  simp
end Go.Proofs.YtfphhpabfeepmaaDoor
