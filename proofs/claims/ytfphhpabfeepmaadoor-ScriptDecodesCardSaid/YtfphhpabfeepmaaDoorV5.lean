import Derived.Test.YtfphhpabfeepmaaDoorV4
set_option linter.unusedSimpArgs false
set_option linter.unusedVariables false
namespace Go.Proofs.YtfphhpabfeepmaaDoor
open Go Go.RowKit Am

/-! ### Scripts: all entries -/
theorem le_frzV (s : St) (l : List Operand) : Le s (frzArgs s l) := by
  rintro W0 S0 n a w ⟨S, β, h⟩
  obtain ⟨S', h'⟩ := rel_frzArgs l h
  exact ⟨S', β, h'⟩
def decS (many : Nat) : Nat → List UInt8 → List Stp
  | 0, _ => []
  | _ + 1, [] => []
  | n + 1, c :: t => if c.toNat < 1 ∨ 11 < c.toNat then decS many n t else if (entryS c.toNat many (t, false)).2.2 = true then [] else (entryS c.toNat many (t, false)).1 :: decS many n (entryS c.toNat many (t, false)).2.1
theorem decS_nil (many n : Nat) : decS many n [] = [] := by cases n <;> rfl
theorem decS_cons (many n : Nat) (c : UInt8) (t : List UInt8) : decS many (n + 1) (c :: t) = if c.toNat < 1 ∨ 11 < c.toNat then decS many n t else if (entryS c.toNat many (t, false)).2.2 = true then [] else (entryS c.toNat many (t, false)).1 :: decS many n (entryS c.toNat many (t, false)).2.1 := rfl
def manyS (l : List UInt8) : Nat := 1 + (oneS (l.take 4096, false)).1 % 16
def outS (l : List UInt8) : List Stp := decS (manyS l) 5000 (oneS (l.take 4096, false)).2.1
def stR (l : List Stp) : List (List AV) := l.map Stp.cs
theorem stR_len (l : List Stp) : (stR l).length = l.length := by simp [stR]
theorem entry_len (k many : Nat) (s : RS) : (entryS k many s).2.1.length ≤ s.1.length := by
  have h1 := oneS_len s
  unfold entryS
  split
  · exact h1
  split
  · exact Nat.le_trans (words_len _ _).1 (Nat.le_trans (oneS_len _) h1)
  split
  · exact Nat.le_trans (twoS_len _) (Nat.le_trans (oneS_len _) (Nat.le_trans (oneS_len _) h1))
  split
  · exact Nat.le_trans (twoS_len _) h1
  · exact h1
set_option maxHeartbeats 4000000 in
theorem decode_ok (l : List UInt8) (hl : l.length ≤ 100000) (rows : List (List AV)) (hrows : rows = byR l) (m' : Int) (hm' : m' = (manyS l : Nat)) (out : List (List AV)) (hout : out = stR (outS l)) : CSem Tryd.prog (.fn 24) [.sl rows] (.pure [aI m', .sl out]) := by
  refine of_text gam_ok mixed { n := 51, keep := [15, 48], wrs := [44, 45], cuts := [11] } Tryd.func24 (by kernel_rfl) rfl rfl (by simp) (by decide) fun F C D hF hC hD => ?_
  obtain ⟨n', hn'⟩ : ∃ n' : Int, F .len rows = n' := ⟨_, rfl⟩
  have en : n' = (l.length : Int) := by rw [← hn', lenF hF, hrows, byR_len]
  obtain ⟨l4, hl4⟩ : ∃ l4, l4 = l.take 4096 := ⟨_, rfl⟩
  have hl4n : l4.length ≤ 4096 := by rw [hl4, List.length_take]; omega
  obtain ⟨mn, hmn⟩ : ∃ mn, F .mn n' 4096 = mn := ⟨_, rfl⟩
  have emn : mn = (l4.length : Int) := by
    rw [← hmn, hF, en, hl4, List.length_take]
    show (if (4096 : Int) < (l.length : Int) then (4096 : Int) else (l.length : Int)) = _
    split <;> omega
  obtain ⟨rs, hrs⟩ : ∃ rs, rs = (rows.drop 0).take (l4.length - 0) := ⟨_, rfl⟩
  have ers : rs = byR l4 := by
    rw [hrs, hrows, List.drop_zero, Nat.sub_zero]
    have hmin : l4.length = min 4096 l.length := by rw [hl4, List.length_take]
    unfold byR
    rw [← List.map_take, hmin, hl4]
    congr 1
    by_cases h : l.length ≤ 4096
    · rw [Nat.min_eq_right h, List.take_of_length_le (Nat.le_refl _), List.take_of_length_le h]
    · rw [Nat.min_eq_left (by omega)]
  have hone : ∀ r ∈ rows, r.length = 1 := by rw [hrows]; exact byR_one _
  have esl : some (aI mn) = some (aI (l4.length : Int)) := by rw [emn]
  have hsl : ((l4.length : Nat) : Int) ≤ n' := by rw [en, hl4, List.length_take]; exact Int.ofNat_le.2 (Nat.min_le_right _ _)
  obtain ⟨n1, hn1⟩ : ∃ n1 : Int, n1 = ((oneS (l4, false)).1 : Int) := ⟨_, rfl⟩
  obtain ⟨l5, hl5⟩ : ∃ l5, l5 = (oneS (l4, false)).2.1 := ⟨_, rfl⟩
  obtain ⟨r1, hr1⟩ : ∃ r, r = byR l5 := ⟨_, rfl⟩
  obtain ⟨o1, ho1⟩ : ∃ r, r = (oneS (l4, false)).2.2 := ⟨_, rfl⟩
  have hc1 := hC _ _ _ (one_ok (l4, false) (by show l4.length ≤ _; omega) rs ers n1 hn1 r1 (by rw [hr1, hl5]) false o1 rfl ho1)
  have hl5n : l5.length ≤ 4096 := by rw [hl5]; exact Nat.le_trans (oneS_len (l4, false)) hl4n
  obtain ⟨q, hq⟩ : ∃ q, F .ar .rem .i64 n1 16 = q := ⟨_, rfl⟩
  have eq : q = (((oneS (l4, false)).1 % 16 : Nat) : Int) := by rw [← hq]; exact remF (b := 16) hF hn1 rfl
  have hadd : F .ar .add .i64 1 q = m' := by
    rw [hm']
    unfold manyS
    rw [← hl4]
    exact addF (i := 1) hF rfl eq (by omega)
  obtain ⟨many, hmany⟩ : ∃ m, m = manyS l := ⟨_, rfl⟩
  have hmp : 0 < many := by rw [hmany]; unfold manyS; omega
  rw [← hmany] at hm'
  unfold outS at hout
  rw [← hmany, ← hl4, ← hl5] at hout
  clear hn1 hl5 ho1 hl4 hmany eq emn
  cbv
  rw [hn', hmn]
  refine ⟨0, l4.length, rfl, esl, Nat.zero_le _, hsl, hone, rs, hrs, ?_⟩
  cbv
  refine ⟨_, _, hc1, ?_⟩
  cbv
  rw [hq, hadd]
  refine ⟨Nat × List UInt8 × List (List AV) × List Stp × List (List AV), fun x => { slots := [(6, .own 1 0), (5, aI m'), (4, .ptr 0 0)], obs := [(1, .row 59 6 x.2.2.2.2 0 0), (0, .box 85 [.sl x.2.2.1, aB false] false)], ctr := 2 },
    fun x => x.2.1.length ≤ x.1 ∧ x.2.2.1 = byR x.2.1 ∧ x.2.2.2.2 = stR x.2.2.2.1 ∧ x.2.2.2.1.length + x.2.1.length ≤ 4096 ∧ decS many 5000 l5 = x.2.2.2.1 ++ decS many x.1 x.2.1,
    fun x => x.2.1.length, ⟨(5000, l5, r1, [], []), ⟨by simp only; omega, hr1, rfl, by simp only [List.length_nil]; omega, rfl⟩, Le.trans (le_nil 6 59 6 (by rfl) (by rfl)) (le_of [] (by simp [leSl, leOb, injK, memK, parK, noTup, lk, rn0, rnA, plain] <;> first | rfl | decide))⟩, fun x hx => ?_⟩
  obtain ⟨n, r, rr, acc, oR⟩ := x
  obtain ⟨hn, er, eR, hal, hdec⟩ := hx
  simp only at hn er eR hal hdec
  have hm' : m' = (many : Int) := hm'
  have hout : out = stR (decS many 5000 l5) := hout
  obtain ⟨k5, hk5⟩ : ∃ k, F .len rr = k := ⟨_, rfl⟩
  have ek5 : k5 = (r.length : Int) := by rw [← hk5, lenF hF, er, byR_len]
  have t5 : F .cmp .gtr k5 0 = decide (0 < r.length) := by rw [gtF hF, ek5]; congr 1; exact propext ⟨fun h => by omega, fun h => by omega⟩
  cases r with
  | nil =>
    have t5 : F .cmp .gtr k5 0 = false := t5
    rw [decS_nil, List.append_nil] at hdec
    have e : oR = out := by rw [hout, hdec, eR]
    subst e
    clear hout hdec er eR ek5
    cbv
    rw [hk5]
    refine bF (t5) ?_
    cbv
    refine ⟨_, le_frzV _ [.tmp 6], hD _ _ _ ?_⟩
    cbv
    simp
  | cons c t =>
    have t5 : F .cmp .gtr k5 0 = true := by rw [t5]; exact decide_eq_true (Nat.succ_pos _)
    obtain ⟨n2, rfl⟩ : ∃ n2, n = n2 + 1 := ⟨n - 1, by simp only [List.length_cons] at hn; omega⟩
    have hn2 : t.length ≤ n2 := by simp only [List.length_cons] at hn; omega
    have htl : acc.length + (t.length + 1) ≤ 4096 := hal
    rw [decS_cons] at hdec
    obtain ⟨kc, hkc⟩ : ∃ k : Int, k = (c.toNat : Int) := ⟨_, rfl⟩
    obtain ⟨rr2, hrr2⟩ : ∃ r, r = byR t := ⟨_, rfl⟩
    have hc2 := hC _ _ _ (one_ok (c :: t, false) (by show t.length + 1 ≤ _; omega) rr er kc hkc rr2 hrr2 false false rfl rfl)
    have u1 : F .cmp .lss kc 1 = decide (c.toNat < 1) := by rw [lsF hF, hkc]; congr 1; exact propext ⟨fun h => by omega, fun h => by omega⟩
    have u2 : F .cmp .gtr kc 11 = decide (11 < c.toNat) := by rw [gtF hF, hkc]; congr 1; exact propext ⟨fun h => by omega, fun h => by omega⟩
    have hmu : t.length < (c :: t).length := Nat.lt_succ_self _
    by_cases h1 : c.toNat < 1
    · have u1 : F .cmp .lss kc 1 = true := by rw [u1]; exact decide_eq_true h1
      rw [if_pos (.inl h1)] at hdec
      clear hout hkc ek5
      cbv
      rw [hk5]
      refine bT (t5) ?_
      cbv
      refine ⟨_, _, hc2, ?_⟩
      cbv
      refine cT (u1) ?_
      cbv
      exact ⟨(n2, t, rr2, acc, oR), ⟨hn2, hrr2, eR, (by show acc.length + t.length ≤ 4096; exact Nat.le_trans (Nat.add_le_add_left (Nat.le_succ _) _) htl), hdec⟩, hmu, (le_of [] (by simp [leSl, leOb, injK, memK, parK, noTup, lk, rn0, rnA, plain] <;> first | rfl | decide))⟩
    have u1 : F .cmp .lss kc 1 = false := by rw [u1]; exact decide_eq_false h1
    by_cases h11 : 11 < c.toNat
    · have u2 : F .cmp .gtr kc 11 = true := by rw [u2]; exact decide_eq_true h11
      rw [if_pos (.inr h11)] at hdec
      clear hout hkc ek5
      cbv
      rw [hk5]
      refine bT (t5) ?_
      cbv
      refine ⟨_, _, hc2, ?_⟩
      cbv
      refine cF (u1) ?_
      cbv
      refine bT (u2) ?_
      cbv
      exact ⟨(n2, t, rr2, acc, oR), ⟨hn2, hrr2, eR, (by show acc.length + t.length ≤ 4096; exact Nat.le_trans (Nat.add_le_add_left (Nat.le_succ _) _) htl), hdec⟩, hmu, (le_of [] (by simp [leSl, leOb, injK, memK, parK, noTup, lk, rn0, rnA, plain] <;> first | rfl | decide))⟩
    have u2 : F .cmp .gtr kc 11 = false := by rw [u2]; exact decide_eq_false h11
    rw [if_neg (by omega)] at hdec
    obtain ⟨x, hx⟩ : ∃ x, x = (entryS c.toNat many (t, false)).1 := ⟨_, rfl⟩
    obtain ⟨t2, ht2⟩ : ∃ x, x = (entryS c.toNat many (t, false)).2.1 := ⟨_, rfl⟩
    obtain ⟨rr3, hrr3⟩ : ∃ x, x = byR (entryS c.toNat many (t, false)).2.1 := ⟨_, rfl⟩
    obtain ⟨o2, ho2⟩ : ∃ x, x = (entryS c.toNat many (t, false)).2.2 := ⟨_, rfl⟩
    have hent := hC _ _ _ (entry_ok (t, false) (by show t.length ≤ _; omega) c.toNat many hmp kc m' hkc hm' rr2 hrr2 x hx rr3 hrr3 false o2 rfl ho2)
    have ht2n : t2.length ≤ t.length := by rw [ht2]; exact entry_len _ _ (t, false)
    rw [← ht2] at hrr3
    rw [← ho2, ← hx, ← ht2] at hdec
    obtain ⟨oR2, hoR2⟩ : ∃ o2, F .app oR [x.cs] = o2 := ⟨_, rfl⟩
    have eR2 : oR2 = stR (acc ++ [x]) := by rw [← hoR2, hF, eR]; simp [sy, stR]
    have hrm : (F .len oR + F .len [x.cs]) * 56 ≤ 140737488355328 := by rw [lenF hF, lenF hF, eR, stR_len]; simp; omega
    have hel : ∀ r ∈ [x.cs], r.length = 6 := fun r h => by rw [List.mem_singleton.1 h]; rfl
    obtain ⟨xk, xn, xm, xa, xt, xb⟩ := x
    by_cases hov : o2 = true
    · subst hov
      rw [if_pos rfl, List.append_nil] at hdec
      have e : oR = out := by rw [hout, hdec, eR]
      subst e
      clear hout hdec er eR ek5 hkc hx ho2 ht2 hrr2 hrr3 eR2 hoR2
      cbv
      rw [hk5]
      refine bT (t5) ?_
      cbv
      refine ⟨_, _, hc2, ?_⟩
      cbv
      refine cF (u1) ?_
      cbv
      refine bF (u2) ?_
      cbv
      refine ⟨_, _, hent, ?_⟩
      cbv
      refine bT (rfl) ?_
      cbv
      refine ⟨_, le_frzV _ [.tmp 6], hD _ _ _ ?_⟩
      cbv
      simp
    · have hov : o2 = false := by cases o2 with
        | true => exact absurd rfl hov
        | false => rfl
      subst hov
      rw [if_neg (by decide)] at hdec
      have hdec2 : decS many 5000 l5 = (acc ++ [⟨xk, xn, xm, xa, xt, xb⟩]) ++ decS many n2 t2 := by rw [hdec]; simp
      have hal2 : (acc ++ [(⟨xk, xn, xm, xa, xt, xb⟩ : Stp)]).length + t2.length ≤ 4096 := by simp only [List.length_append, List.length_cons, List.length_nil]; omega
      have hn3 : t2.length ≤ n2 := by omega
      have hmu2 : t2.length < (c :: t).length := by simp only [List.length_cons]; omega
      clear hout hdec ek5 hkc hx ho2 ht2
      cbv
      rw [hk5]
      refine bT (t5) ?_
      cbv
      refine ⟨_, _, hc2, ?_⟩
      cbv
      refine cF (u1) ?_
      cbv
      refine bF (u2) ?_
      cbv
      refine ⟨_, _, hent, ?_⟩
      cbv
      refine bF (rfl) ?_
      cbv
      refine ⟨hel, hrm, ?_⟩
      cbv
      rw [hoR2]
      exact ⟨(n2, t2, rr3, acc ++ [⟨xk, xn, xm, xa, xt, xb⟩], oR2), ⟨hn3, hrr3, eR2, hal2, hdec2⟩, hmu2, (le_of [(1, 3)] (by simp [leSl, leOb, injK, memK, parK, noTup, lk, rn0, rnA, plain] <;> first | rfl | decide))⟩
end Go.Proofs.YtfphhpabfeepmaaDoor
