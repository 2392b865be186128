import Derived.Test.YthepmpfkkhckpaaGreatDoorK8
set_option linter.unusedSimpArgs false
set_option linter.unusedVariables false
namespace Go.Proofs.YthepmpfkkhckpaaGreatDoor
open Go Go.RowKit Am

/-- Bytes that are left, and whether they ended. -/
abbrev RS := List UInt8 × Bool
def oneS : RS → Nat × RS
  | ([], _) => (0, ([], true))
  | (c :: t, o) => (c.toNat, (t, o))
theorem oneS_lt (s : RS) : (oneS s).1 < 256 := by
  obtain ⟨r, o⟩ := s
  cases r with
  | nil => exact (by decide : 0 < 256)
  | cons c t => exact c.toNat_lt
theorem oneS_len (s : RS) : (oneS s).2.1.length ≤ s.1.length := by
  obtain ⟨r, o⟩ := s
  cases r with
  | nil => exact Nat.le_refl _
  | cons c t => exact Nat.le_succ _
abbrev RD (rows : List (List AV)) (o : Bool) : Obs := [(0, .box 48 [.sl rows, aB o] false)]
theorem one_ok (s : RS) (hl : s.1.length ≤ 1000000) (rows : List (List AV)) (hr : rows = byR s.1) (n : Int) (hn : n = ((oneS s).1 : Int)) (rows2 : List (List AV)) (hr2 : rows2 = byR (oneS s).2.1) (o o2 : Bool) (ho : o = s.2) (ho2 : o2 = (oneS s).2.2) :
    CSem Tryz.prog (.wr 15 (RD rows o) (RD rows2 o2)) [.ptr 0 0] (.pure [aI n]) := by
  refine of_textW gam_ok mixed { n := 29 } Tryz.func15 (by kernel_rfl) rfl rfl (by simp) (by decide) rfl fun F C D hF hC hD => ?_
  obtain ⟨r, b⟩ := s
  obtain ⟨m, hm⟩ : ∃ m : Int, F .len rows = m := ⟨_, rfl⟩
  have em : m = (r.length : Int) := by rw [← hm, lenF hF, hr, byR_len]
  cases r with
  | nil =>
    have t1 : F .cmp .eql m 0 = true := by rw [eqF hF, em]; rfl
    have e1 : rows2 = rows := by rw [hr2, hr]; rfl
    have e2 : o2 = true := ho2
    have e3 : n = 0 := hn
    subst e1 e2 e3
    clear hr hr2 ho ho2 hn em
    cbv
    rw [hm]
    refine bT (t1) ?_
    cbv
    simp
  | cons c t =>
    have t1 : F .cmp .eql m 0 = false := by rw [eqF hF, em]; exact decide_eq_false (by simp only [List.length_cons]; omega)
    have e2 : o2 = o := by rw [ho2, ho]; rfl
    have hrow : rows[0]? = some [aU c.toNat] := by rw [hr]; rfl
    obtain ⟨b0, hb0⟩ : ∃ b : Int, b = (c.toNat : Int) := ⟨_, rfl⟩
    rw [← hb0] at hrow
    have hw : F .wrp .i64 b0 = n := by
      rw [hF, hb0, hn]
      have := c.toNat_lt
      exact wrap_in (by omega) (by omega)
    have h1 : ((t.length + 1 : Nat) : Int) = F .len rows := by rw [hm, em]; rfl
    have h2 : ((t.length + 1 : Nat) : Int) ≤ F .len rows := by rw [hm, em]; exact Int.le_refl _
    have hone : ∀ r ∈ rows, r.length = 1 := by rw [hr]; exact byR_one _
    have hrs : rows2 = (rows.drop 1).take (t.length + 1 - 1) := by
      rw [hr2, hr]
      show byR t = (byR t).take t.length
      exact (List.take_of_length_le (by rw [byR_len]; exact Nat.le_refl _)).symm
    subst e2
    clear hr hr2 hn em ho ho2
    cbv
    rw [hm]
    refine bF (t1) ?_
    cbv
    refine ⟨0, _, rfl, hrow, rfl, ?_⟩
    cbv
    rw [hw]
    refine ⟨1, t.length + 1, rfl, h1, Nat.succ_le_succ (Nat.zero_le _), h2, hone, rows2, hrs, ?_⟩
    cbv
    simp
theorem net_ok (k : Int) (q : Bool) (hq : q = decide (4 ≤ k ∧ k ≤ 6)) : CSem Tryz.prog (.fn 9) [aI k] (.pure [aB q]) := by
  refine of_text gam_ok mixed { n := 9 } Tryz.func9 (by kernel_rfl) rfl rfl (by simp) (by decide) fun F C D hF hC hD => ?_
  have t1 : F .cmp .geq k 4 = decide (4 ≤ k) := geF hF k 4
  have t2 : F .cmp .leq k 6 = decide (k ≤ 6) := leF hF k 6
  by_cases h1 : 4 ≤ k
  · have t1 : F .cmp .geq k 4 = true := by rw [t1]; exact decide_eq_true h1
    have t2 : F .cmp .leq k 6 = q := by rw [t2, hq]; congr 1; exact propext ⟨fun h => ⟨h1, h⟩, fun h => h.2⟩
    clear hq
    cbv
    refine bT (t1) ?_
    cbv
    rw [t2]
    simp
  · have t1 : F .cmp .geq k 4 = false := by rw [t1]; exact decide_eq_false h1
    have hq : q = false := by rw [hq]; exact decide_eq_false (fun h => h1 h.1)
    subst hq
    cbv
    refine bF (t1) ?_
    cbv
structure Stp where
  kind : Int
  node : Int
  n : Int
  ta : Int
  turn : Int
  by_ : ByteArray
abbrev Stp.cs (x : Stp) : List AV := [aI x.kind, aI x.node, aI x.n, aI x.ta, aI x.turn, aS x.by_]
theorem remF {F : Sy} (hF : F = sy) {a b : Nat} {a' b' : Int} (ha : a' = (a : Int)) (hb : b' = (b : Int)) : F .ar .rem .i64 a' b' = ((a % b : Nat) : Int) := by
  rw [hF, ha, hb]
  change Int.tmod (a : Int) (b : Int) = _
  exact (Int.ofNat_tmod a b).symm
theorem le_frzV (s : St) (l : List Operand) : Le s (frzArgs s l) := by
  rintro W0 S0 n a w ⟨S, β, h⟩
  obtain ⟨S', h'⟩ := rel_frzArgs l h
  exact ⟨S', β, h'⟩

/-- What an entry of a plain kind tells. -/
def entryP (k many : Nat) (s : RS) : Stp × RS := if 4 ≤ k ∧ k ≤ 6 then (⟨k, 0, (oneS s).1, 0, 0, BA []⟩, (oneS s).2) else (⟨k, ((oneS s).1 % many : Nat), 0, 0, 0, BA []⟩, (oneS s).2)
set_option maxHeartbeats 4000000 in
theorem entry_ok (s : RS) (hl : s.1.length ≤ 1000000) (k many : Nat) (hk1 : k ≠ 1) (hk7 : k ≠ 7) (hk11 : k ≠ 11) (hm : 0 < many) (k' many' : Int) (hk : k' = (k : Int)) (hmany : many' = (many : Int)) (rows : List (List AV)) (hr : rows = byR s.1) (x : Stp) (hx : x = (entryP k many s).1) (rows2 : List (List AV)) (hr2 : rows2 = byR (entryP k many s).2.1) (o o2 : Bool) (ho : o = s.2) (ho2 : o2 = (entryP k many s).2.2) :
    CSem Tryz.prog (.wr 16 (RD rows o) (RD rows2 o2)) [.ptr 0 0, aI k', aI many'] (.pure [.agg x.cs]) := by
  refine of_textW gam_ok mixed { n := 57, keep := [7, 34], wrs := [15, 20, 22] } Tryz.func16 (by kernel_rfl) rfl rfl (by simp) (by decide) rfl fun F C D hF hC hD => ?_
  obtain ⟨q, hq⟩ : ∃ q : Bool, q = decide (4 ≤ k' ∧ k' ≤ 6) := ⟨_, rfl⟩
  have hnet := hC _ _ _ (net_ok k' q hq)
  obtain ⟨n1, hn1⟩ : ∃ n1 : Int, n1 = ((oneS s).1 : Int) := ⟨_, rfl⟩
  obtain ⟨s1, hs1⟩ : ∃ s1, s1 = (oneS s).2 := ⟨_, rfl⟩
  obtain ⟨r1, hr1⟩ : ∃ r, r = byR s1.1 := ⟨_, rfl⟩
  obtain ⟨o1, ho1⟩ : ∃ r, r = s1.2 := ⟨_, rfl⟩
  have hc1 := hC _ _ _ (one_ok s hl rows hr n1 hn1 r1 (by rw [hr1, hs1]) o o1 ho (by rw [ho1, hs1]))
  unfold entryP at hx hr2 ho2
  rw [← hs1] at hx hr2 ho2
  by_cases h46 : 4 ≤ k ∧ k ≤ 6
  · rw [if_pos h46] at hx hr2 ho2
    have hq : q = true := by rw [hq]; exact decide_eq_true (by omega)
    have e1 : rows2 = r1 := by rw [hr2, hr1]
    have e2 : o2 = o1 := by rw [ho2, ho1]
    rw [← hk, ← hn1] at hx
    subst hq e1 e2 hx
    clear hr hr1 hr2 ho ho1 ho2 hn1 hs1 hk hmany
    cbv
    refine ⟨_, hnet, ?_⟩
    cbv
    refine bT (rfl) ?_
    cbv
    refine ⟨_, _, hc1, ?_⟩
    cbv
    simp
  rw [if_neg h46] at hx hr2 ho2
  have hq : q = false := by rw [hq]; exact decide_eq_false (by omega)
  subst hq
  have hmz : many' ≠ 0 := by rw [hmany]; omega
  obtain ⟨nd, hnd⟩ : ∃ nd, F .ar .rem .i64 n1 many' = nd := ⟨_, rfl⟩
  have end_ : nd = (((oneS s).1 % many : Nat) : Int) := by rw [← hnd]; exact remF hF hn1 hmany
  rw [← end_, ← hk] at hx
  have i1 : F .cmp .eql k' 1 = false := by rw [eqF hF, hk]; exact decide_eq_false (by omega)
  have i7 : F .cmp .eql k' 7 = false := by rw [eqF hF, hk]; exact decide_eq_false (by omega)
  have i11 : F .cmp .eql k' 11 = false := by rw [eqF hF, hk]; exact decide_eq_false (by omega)
  have e1 : rows2 = r1 := by rw [hr2, hr1]
  have e2 : o2 = o1 := by rw [ho2, ho1]
  subst e1 e2 hx
  clear hr hr1 hr2 ho ho1 ho2 hn1 hs1 hk hmany end_
  cbv
  refine ⟨_, hnet, ?_⟩
  cbv
  refine bF (rfl) ?_
  cbv
  refine ⟨_, _, hc1, ?_⟩
  cbv
  refine ⟨hmz, ?_⟩
  cbv
  rw [hnd]
  refine bF (i1) ?_
  cbv
  refine bF (i7) ?_
  cbv
  refine bF (i11) ?_
  cbv
  simp

/-! ### One of some words -/
def wordB (ws : List ByteArray) (n : Int) : ByteArray := if n < 0 ∨ (ws.length : Int) ≤ n then BA [63] else ws.getD n.toNat (BA [])
def stR (l : List Stp) : List (List AV) := l.map Stp.cs
def saR (ws : List ByteArray) : List (List AV) := ws.map fun s => [aS s]
theorem saR_len (ws : List ByteArray) : (saR ws).length = ws.length := by simp [saR]
theorem word8_ok (ws : List ByteArray) (hl : ws.length ≤ 1000) (rows : List (List AV)) (hr : rows = saR ws) (n : Int) (r : ByteArray) (hrr : r = wordB ws n) : CSem Tryz.prog (.fn 8) [aI n, .sl rows] (.pure [aS r]) := by
  refine of_text gam_ok mixed { n := 17 } Tryz.func8 (by kernel_rfl) rfl rfl (by simp) (by decide) fun F C D hF hC hD => ?_
  obtain ⟨m, hm⟩ : ∃ m : Int, F .len rows = m := ⟨_, rfl⟩
  have em : m = (ws.length : Int) := by rw [← hm, lenF hF, hr, saR_len]
  have t1 : F .cmp .lss n 0 = decide (n < 0) := lsF hF n 0
  have t2 : F .cmp .geq n m = decide (n ≥ m) := geF hF n m
  unfold wordB at hrr
  by_cases h : n < 0
  · have t1 : F .cmp .lss n 0 = true := by rw [t1]; exact decide_eq_true h
    rw [if_pos (.inl h)] at hrr
    subst hrr
    clear em
    cbv
    refine cT (t1) ?_
    cbv
    simp
  · have t1 : F .cmp .lss n 0 = false := by rw [t1]; exact decide_eq_false h
    by_cases h2 : m ≤ n
    · have t2 : F .cmp .geq n m = true := by rw [t2]; exact decide_eq_true h2
      rw [if_pos (.inr (by omega))] at hrr
      subst hrr
      clear em
      cbv
      refine cF (t1) ?_
      cbv
      rw [hm]
      refine bT (t2) ?_
      cbv
      simp
    · have t2 : F .cmp .geq n m = false := by rw [t2]; exact decide_eq_false h2
      rw [if_neg (by omega)] at hrr
      have hlt : n.toNat < ws.length := by omega
      have hrow : rows[n.toNat]? = some [aS r] := by
        rw [hr, hrr]
        unfold saR
        rw [List.getElem?_map, List.getElem?_eq_getElem hlt, List.getD_eq_getElem?_getD, List.getElem?_eq_getElem hlt]
        rfl
      obtain ⟨i, hi⟩ : ∃ i, i = n.toNat := ⟨_, rfl⟩
      have en : n = (i : Int) := by omega
      rw [← hi] at hrow
      clear em hrr hi hr
      cbv
      refine cF (t1) ?_
      cbv
      rw [hm]
      refine bF (t2) ?_
      cbv
      refine ⟨i, _, en, hrow, rfl, ?_⟩
      cbv
      simp
theorem word13_ok (ws : List ByteArray) (hl : ws.length ≤ 1000) (rows : List (List AV)) (hr : rows = saR ws) (n : Int) (r : ByteArray) (hrr : r = wordB ws n) : CSem Tryz.prog (.fn 13) [.sl rows, aI n] (.pure [aS r]) := by
  refine of_text gam_ok mixed { n := 17 } Tryz.func13 (by kernel_rfl) rfl rfl (by simp) (by decide) fun F C D hF hC hD => ?_
  obtain ⟨m, hm⟩ : ∃ m : Int, F .len rows = m := ⟨_, rfl⟩
  have em : m = (ws.length : Int) := by rw [← hm, lenF hF, hr, saR_len]
  have t1 : F .cmp .lss n 0 = decide (n < 0) := lsF hF n 0
  have t2 : F .cmp .geq n m = decide (n ≥ m) := geF hF n m
  unfold wordB at hrr
  by_cases h : n < 0
  · have t1 : F .cmp .lss n 0 = true := by rw [t1]; exact decide_eq_true h
    rw [if_pos (.inl h)] at hrr
    subst hrr
    clear em
    cbv
    refine cT (t1) ?_
    cbv
    simp
  · have t1 : F .cmp .lss n 0 = false := by rw [t1]; exact decide_eq_false h
    by_cases h2 : m ≤ n
    · have t2 : F .cmp .geq n m = true := by rw [t2]; exact decide_eq_true h2
      rw [if_pos (.inr (by omega))] at hrr
      subst hrr
      clear em
      cbv
      refine cF (t1) ?_
      cbv
      rw [hm]
      refine bT (t2) ?_
      cbv
      simp
    · have t2 : F .cmp .geq n m = false := by rw [t2]; exact decide_eq_false h2
      rw [if_neg (by omega)] at hrr
      have hlt : n.toNat < ws.length := by omega
      have hrow : rows[n.toNat]? = some [aS r] := by
        rw [hr, hrr]
        unfold saR
        rw [List.getElem?_map, List.getElem?_eq_getElem hlt, List.getD_eq_getElem?_getD, List.getElem?_eq_getElem hlt]
        rfl
      obtain ⟨i, hi⟩ : ∃ i, i = n.toNat := ⟨_, rfl⟩
      have en : n = (i : Int) := by omega
      rw [← hi] at hrow
      clear em hrr hi hr
      cbv
      refine cF (t1) ?_
      cbv
      rw [hm]
      refine bF (t2) ?_
      cbv
      refine ⟨i, _, en, hrow, rfl, ?_⟩
      cbv
      simp
end Go.Proofs.YthepmpfkkhckpaaGreatDoor
