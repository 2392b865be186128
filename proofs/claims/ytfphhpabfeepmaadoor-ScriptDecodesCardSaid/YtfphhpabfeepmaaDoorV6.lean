import Derived.Test.YtfphhpabfeepmaaDoorV5
set_option linter.unusedSimpArgs false
set_option linter.unusedVariables false
namespace Go.Proofs.YtfphhpabfeepmaaDoor
open Go Go.RowKit Am

/-! ### Scripts: the reference's reading -/
theorem sfx_len {l : List UInt8} {s : RS} (h : Sfx l s) : s.1.length ≤ l.length := by
  obtain ⟨a, ha, he⟩ := h
  rw [he, List.length_drop]; omega
set_option maxHeartbeats 4000000 in
theorem rdecode_ok (b : ByteArray) (l : List UInt8) (hb : l = L b) (hl : l.length ≤ 100000) (m' : Int) (hm' : m' = (manyS l : Nat)) (out : List (List AV)) (hout : out = stR (outS l)) : CSem Tryd.prog (.fn 25) [aS b] (.pure [aI m', .sl out]) := by
  refine of_text gam_ok mixed { n := 50, keep := [16, 47], wrs := [46, 47], cuts := [3, 12] } Tryd.func25 (by kernel_rfl) rfl rfl (by simp) (by decide) fun F C D hF hC hD => ?_
  obtain ⟨n', hn'⟩ : ∃ n' : Int, F .slen b = n' := ⟨_, rfl⟩
  have en : n' = (l.length : Int) := by rw [← hn', slenF hF, L_size, hb]
  have t0 : F .cmp .gtr n' 4096 = decide (4096 < l.length) := by rw [gtF hF, en]; congr 1; exact propext ⟨fun h => by omega, fun h => by omega⟩
  obtain ⟨l4, hl4⟩ : ∃ l4, l4 = l.take 4096 := ⟨_, rfl⟩
  have hl4n : l4.length ≤ 4096 := by rw [hl4, List.length_take]; omega
  obtain ⟨many, hmany⟩ : ∃ m, m = manyS l := ⟨_, rfl⟩
  rw [← hmany] at hm'
  unfold outS at hout
  rw [← hmany, ← hl4] at hout
  unfold manyS at hmany
  rw [← hl4] at hmany
  by_cases h4 : 4096 < l.length
  · have t0 : F .cmp .gtr n' 4096 = true := by rw [t0]; exact decide_eq_true h4
    obtain ⟨b4, hb4e⟩ : ∃ x, x = b.extract 0 4096 := ⟨_, rfl⟩
    have hb4 : l4 = L b4 := by rw [hb4e, L_extract, ← hb, hl4]; rfl
    have hle : ((4096 : Nat) : Int) ≤ F .slen b := by rw [hn', en]; omega
    have he : some (aI 4096) = some (aI ((4096 : Nat) : Int)) := rfl
    clear hl4
    cbv
    rw [hn']
    refine bT (t0) ?_
    cbv
    refine ⟨0, 4096, rfl, he, by decide, hle, b4, hb4e, ?_⟩
    cbv
    refine ⟨{ slots := [(0, aS b4)], obs := [], ctr := 0 }, (le_of [] (by simp [leSl, leOb, injK, memK, parK, noTup, lk, rn0, rnA, plain] <;> first | rfl | decide)), hD _ _ _ ?_⟩
    clear hb4e hle en t0 h4 he
    have hl4n : l4.length ≤ 4096 := hl4n
    have hb4 : l4 = L b4 := hb4
    have hm' : m' = (many : Int) := hm'
    obtain ⟨n1, hn1⟩ : ∃ n1 : Int, n1 = ((oneS (l4, false)).1 : Int) := ⟨_, rfl⟩
    obtain ⟨s1, hs1⟩ : ∃ s1, s1 = (oneS (l4, false)).2 := ⟨_, rfl⟩
    have g0 : Sfx l4 (l4, false) := ⟨0, Nat.zero_le _, rfl⟩
    have g1 : Sfx l4 s1 := by rw [hs1]; exact (sfx_one g0).1
    have e1 : s1.1 ≠ [] → s1.2 = false := by
      rw [hs1]
      cases l4 with
      | nil => intro h; exact absurd rfl h
      | cons c t => intro _; rfl
    obtain ⟨p1, hp1⟩ : ∃ p : Int, p = (pos l4 s1 : Nat) := ⟨_, rfl⟩
    obtain ⟨o1, ho1⟩ : ∃ r, r = s1.2 := ⟨_, rfl⟩
    have hp0 : (0 : Int) = ((pos l4 (l4, false) : Nat) : Int) := by unfold pos; rw [Nat.sub_self]; rfl
    have hc1 := hC _ _ _ (next_S l4 (by omega) b4 hb4 (l4, false) g0 0 hp0 n1 hn1 p1 (by rw [hp1, hs1]) false o1 rfl (by rw [ho1, hs1]))
    obtain ⟨q, hq⟩ : ∃ q, F .ar .rem .i64 n1 16 = q := ⟨_, rfl⟩
    have eq : q = (((oneS (l4, false)).1 % 16 : Nat) : Int) := by rw [← hq]; exact remF (b := 16) hF hn1 rfl
    have hadd : F .ar .add .i64 1 q = m' := by
      rw [hm', hmany]
      exact addF (i := 1) hF rfl eq (by omega)
    have hout : out = stR (decS many 5000 s1.1) := by rw [hs1]; exact hout
    have hmp : 0 < many := by rw [hmany]; omega
    have hs1n : s1.1.length ≤ 4096 := Nat.le_trans (sfx_len g1) hl4n
    clear hn1 hs1 hmany eq g0 hp0
    cbv
    refine ⟨_, _, hc1, ?_⟩
    cbv
    rw [hq, hadd]
    refine ⟨Nat × RS × Int × Bool × List Stp × List (List AV), fun x => { slots := [(6, .own 1 0), (5, aI m'), (4, .ptr 0 0), (0, aS b4)], obs := [(1, .row 58 6 x.2.2.2.2.2 0 0), (0, .box 90 [aS b4, aI x.2.2.1, aB x.2.2.2.1] false)], ctr := 2 },
      fun x => x.2.1.1.length ≤ x.1 ∧ x.2.2.1 = (pos l4 x.2.1 : Nat) ∧ x.2.2.2.1 = x.2.1.2 ∧ Sfx l4 x.2.1 ∧ (x.2.1.1 ≠ [] → x.2.1.2 = false) ∧ x.2.2.2.2.2 = stR x.2.2.2.2.1 ∧ x.2.2.2.2.1.length + x.2.1.1.length ≤ 4096 ∧ decS many 5000 s1.1 = x.2.2.2.2.1 ++ decS many x.1 x.2.1.1,
      fun x => x.2.1.1.length, ⟨(5000, s1, p1, o1, [], []), ⟨by simp only; omega, hp1, ho1, g1, e1, rfl, by simp only [List.length_nil]; omega, rfl⟩, Le.trans (le_nil 6 58 6 (by rfl) (by rfl)) (le_of [] (by simp [leSl, leOb, injK, memK, parK, noTup, lk, rn0, rnA, plain] <;> first | rfl | decide))⟩, fun x hx => ?_⟩
    obtain ⟨n, ⟨r, fg⟩, pp, oo, acc, oR⟩ := x
    obtain ⟨hn, ep, eo, gs, hfg, eR, hal, hdec⟩ := hx
    simp only at hn ep eo gs hfg eR hal hdec
    have hb4 : l4 = L b4 := hb4
    have hm' : m' = (many : Int) := hm'
    have hout : out = stR (decS many 5000 s1.1) := hout
    obtain ⟨k5, hk5⟩ : ∃ k, F .slen b4 = k := ⟨_, rfl⟩
    have ek5 : k5 = (l4.length : Int) := by rw [← hk5, slenF hF, L_size, hb4]
    have hrl : r.length ≤ l4.length := sfx_len gs
    have epos : pos l4 (r, fg) = l4.length - r.length := rfl
    have t5 : F .cmp .lss pp k5 = decide (0 < r.length) := by rw [lsF hF, ek5, ep, epos]; congr 1; exact propext ⟨fun h => by omega, fun h => by omega⟩
    cases r with
    | nil =>
      have t5 : F .cmp .lss pp k5 = false := t5
      rw [decS_nil, List.append_nil] at hdec
      have e : oR = out := by rw [hout, hdec, eR]
      subst e
      clear hout hdec ep eo eR ek5 gs hfg
      cbv
      rw [hk5]
      refine bF (t5) ?_
      cbv
      refine ⟨_, le_frzV _ [.tmp 6], hD _ _ _ ?_⟩
      cbv
      simp
    | cons c t =>
      have hf0 : fg = false := hfg (List.cons_ne_nil _ _)
      subst hf0
      have t5 : F .cmp .lss pp k5 = true := by rw [t5]; exact decide_eq_true (Nat.succ_pos _)
      obtain ⟨n2, rfl⟩ : ∃ n2, n = n2 + 1 := ⟨n - 1, by simp only [List.length_cons] at hn; omega⟩
      have hn2 : t.length ≤ n2 := by simp only [List.length_cons] at hn; omega
      have htl : acc.length + (t.length + 1) ≤ 4096 := hal
      rw [decS_cons] at hdec
      obtain ⟨kc, hkc⟩ : ∃ k : Int, k = (c.toNat : Int) := ⟨_, rfl⟩
      have gt : Sfx l4 (t, false) := (sfx_one gs).1
      obtain ⟨pp2, hpp2⟩ : ∃ r : Int, r = (pos l4 (t, false) : Nat) := ⟨_, rfl⟩
      have hc2 := hC _ _ _ (next_S l4 (by omega) b4 hb4 (c :: t, false) gs pp ep kc hkc pp2 hpp2 oo false eo rfl)
      have u1 : F .cmp .lss kc 1 = decide (c.toNat < 1) := by rw [lsF hF, hkc]; congr 1; exact propext ⟨fun h => by omega, fun h => by omega⟩
      have u2 : F .cmp .gtr kc 11 = decide (11 < c.toNat) := by rw [gtF hF, hkc]; congr 1; exact propext ⟨fun h => by omega, fun h => by omega⟩
      have hmu : t.length < (c :: t).length := Nat.lt_succ_self _
      have hft : t ≠ [] → false = false := fun _ => rfl
      have hatl : acc.length + t.length ≤ 4096 := Nat.le_trans (Nat.add_le_add_left (Nat.le_succ _) _) htl
      by_cases h1 : c.toNat < 1
      · have u1 : F .cmp .lss kc 1 = true := by rw [u1]; exact decide_eq_true h1
        rw [if_pos (.inl h1)] at hdec
        clear hout hkc ek5 ep eo
        cbv
        rw [hk5]
        refine bT (t5) ?_
        cbv
        refine ⟨_, _, hc2, ?_⟩
        cbv
        refine cT (u1) ?_
        cbv
        exact ⟨(n2, (t, false), pp2, false, acc, oR), ⟨hn2, hpp2, rfl, gt, hft, eR, hatl, hdec⟩, hmu, (le_of [] (by simp [leSl, leOb, injK, memK, parK, noTup, lk, rn0, rnA, plain] <;> first | rfl | decide))⟩
      have u1 : F .cmp .lss kc 1 = false := by rw [u1]; exact decide_eq_false h1
      by_cases h11 : 11 < c.toNat
      · have u2 : F .cmp .gtr kc 11 = true := by rw [u2]; exact decide_eq_true h11
        rw [if_pos (.inr h11)] at hdec
        clear hout hkc ek5 ep eo
        cbv
        rw [hk5]
        refine bT (t5) ?_
        cbv
        refine ⟨_, _, hc2, ?_⟩
        cbv
        refine cF (u1) ?_
        cbv
        refine bT (u2) ?_
        cbv
        exact ⟨(n2, (t, false), pp2, false, acc, oR), ⟨hn2, hpp2, rfl, gt, hft, eR, hatl, hdec⟩, hmu, (le_of [] (by simp [leSl, leOb, injK, memK, parK, noTup, lk, rn0, rnA, plain] <;> first | rfl | decide))⟩
      have u2 : F .cmp .gtr kc 11 = false := by rw [u2]; exact decide_eq_false h11
      rw [if_neg (by omega)] at hdec
      obtain ⟨x, hx⟩ : ∃ x, x = (entryS c.toNat many (t, false)).1 := ⟨_, rfl⟩
      obtain ⟨s2, hs2⟩ : ∃ x, x = (entryS c.toNat many (t, false)).2 := ⟨_, rfl⟩
      obtain ⟨pp3, hpp3⟩ : ∃ x : Int, x = (pos l4 (entryS c.toNat many (t, false)).2 : Nat) := ⟨_, rfl⟩
      obtain ⟨o2, ho2⟩ : ∃ x, x = (entryS c.toNat many (t, false)).2.2 := ⟨_, rfl⟩
      have hent := hC _ _ _ (rentry_ok l4 (by omega) b4 hb4 (t, false) gt c.toNat many hmp kc m' hkc hm' pp2 hpp2 x hx pp3 hpp3 false o2 rfl ho2)
      have g2 : Sfx l4 s2 := by rw [hs2]; exact sfx_entry _ _ gt
      have ht2n : s2.1.length ≤ t.length := by rw [hs2]; exact entry_len _ _ (t, false)
      rw [← hs2] at hpp3 ho2
      rw [← hx, ← hs2, ← ho2] at hdec
      obtain ⟨oR2, hoR2⟩ : ∃ o2, F .app oR [x.cs] = o2 := ⟨_, rfl⟩
      have eR2 : oR2 = stR (acc ++ [x]) := by rw [← hoR2, hF, eR]; simp [sy, stR]
      have hrm : (F .len oR + F .len [x.cs]) * 56 ≤ 140737488355328 := by rw [lenF hF, lenF hF, eR, stR_len]; simp; omega
      have hel : ∀ r ∈ [x.cs], r.length = 6 := fun r h => by rw [List.mem_singleton.1 h]; rfl
      obtain ⟨xk, xn, xm, xa, xt, xb⟩ := x
      by_cases hov : o2 = true
      · subst hov
        rw [if_pos rfl, List.append_nil] at hdec
        have e : oR = out := by rw [hout, hdec, eR]
        subst e
        clear hout hdec ep eo eR ek5 hkc hx ho2 hs2 hpp2 hpp3 eR2 hoR2 gs gt g2
        cbv
        rw [hk5]
        refine bT (t5) ?_
        cbv
        refine ⟨_, _, hc2, ?_⟩
        cbv
        refine cF (u1) ?_
        cbv
        refine bF (u2) ?_
        cbv
        refine ⟨_, _, hent, ?_⟩
        cbv
        refine bT (rfl) ?_
        cbv
        refine ⟨_, le_frzV _ [.tmp 6], hD _ _ _ ?_⟩
        cbv
        simp
      · have hov : o2 = false := by cases o2 with
            | true => exact absurd rfl hov
            | false => rfl
        subst hov
        rw [if_neg (by decide)] at hdec
        have hdec2 : decS many 5000 s1.1 = (acc ++ [⟨xk, xn, xm, xa, xt, xb⟩]) ++ decS many n2 s2.1 := by rw [hdec]; simp
        have hal2 : (acc ++ [(⟨xk, xn, xm, xa, xt, xb⟩ : Stp)]).length + s2.1.length ≤ 4096 := by simp only [List.length_append, List.length_cons, List.length_nil]; omega
        have hn3 : s2.1.length ≤ n2 := by omega
        have hmu2 : s2.1.length < (c :: t).length := by simp only [List.length_cons]; omega
        have hf2 : s2.1 ≠ [] → s2.2 = false := fun _ => ho2.symm
        clear hout hdec ek5 hkc hx hs2 ep eo gs gt
        cbv
        rw [hk5]
        refine bT (t5) ?_
        cbv
        refine ⟨_, _, hc2, ?_⟩
        cbv
        refine cF (u1) ?_
        cbv
        refine bF (u2) ?_
        cbv
        refine ⟨_, _, hent, ?_⟩
        cbv
        refine bF (rfl) ?_
        cbv
        refine ⟨hel, hrm, ?_⟩
        cbv
        rw [hoR2]
        exact ⟨(n2, s2, pp3, false, acc ++ [⟨xk, xn, xm, xa, xt, xb⟩], oR2), ⟨hn3, hpp3, ho2, g2, hf2, eR2, hal2, hdec2⟩, hmu2, (le_of [(1, 3)] (by simp [leSl, leOb, injK, memK, parK, noTup, lk, rn0, rnA, plain] <;> first | rfl | decide))⟩
  · have t0 : F .cmp .gtr n' 4096 = false := by rw [t0]; exact decide_eq_false h4
    have hb4 : l4 = L b := by rw [← hb, hl4]; exact List.take_of_length_le (by omega)
    clear hl4
    cbv
    rw [hn']
    refine bF (t0) ?_
    cbv
    refine ⟨{ slots := [(0, aS b)], obs := [], ctr := 0 }, (le_of [] (by simp [leSl, leOb, injK, memK, parK, noTup, lk, rn0, rnA, plain] <;> first | rfl | decide)), hD _ _ _ ?_⟩
    clear en t0 h4 hn' hb
    revert hb4
    generalize b = b4
    intro hb4
    have hl4n : l4.length ≤ 4096 := hl4n
    have hb4 : l4 = L b4 := hb4
    have hm' : m' = (many : Int) := hm'
    obtain ⟨n1, hn1⟩ : ∃ n1 : Int, n1 = ((oneS (l4, false)).1 : Int) := ⟨_, rfl⟩
    obtain ⟨s1, hs1⟩ : ∃ s1, s1 = (oneS (l4, false)).2 := ⟨_, rfl⟩
    have g0 : Sfx l4 (l4, false) := ⟨0, Nat.zero_le _, rfl⟩
    have g1 : Sfx l4 s1 := by rw [hs1]; exact (sfx_one g0).1
    have e1 : s1.1 ≠ [] → s1.2 = false := by
      rw [hs1]
      cases l4 with
      | nil => intro h; exact absurd rfl h
      | cons c t => intro _; rfl
    obtain ⟨p1, hp1⟩ : ∃ p : Int, p = (pos l4 s1 : Nat) := ⟨_, rfl⟩
    obtain ⟨o1, ho1⟩ : ∃ r, r = s1.2 := ⟨_, rfl⟩
    have hp0 : (0 : Int) = ((pos l4 (l4, false) : Nat) : Int) := by unfold pos; rw [Nat.sub_self]; rfl
    have hc1 := hC _ _ _ (next_S l4 (by omega) b4 hb4 (l4, false) g0 0 hp0 n1 hn1 p1 (by rw [hp1, hs1]) false o1 rfl (by rw [ho1, hs1]))
    obtain ⟨q, hq⟩ : ∃ q, F .ar .rem .i64 n1 16 = q := ⟨_, rfl⟩
    have eq : q = (((oneS (l4, false)).1 % 16 : Nat) : Int) := by rw [← hq]; exact remF (b := 16) hF hn1 rfl
    have hadd : F .ar .add .i64 1 q = m' := by
      rw [hm', hmany]
      exact addF (i := 1) hF rfl eq (by omega)
    have hout : out = stR (decS many 5000 s1.1) := by rw [hs1]; exact hout
    have hmp : 0 < many := by rw [hmany]; omega
    have hs1n : s1.1.length ≤ 4096 := Nat.le_trans (sfx_len g1) hl4n
    clear hn1 hs1 hmany eq g0 hp0
    cbv
    refine ⟨_, _, hc1, ?_⟩
    cbv
    rw [hq, hadd]
    refine ⟨Nat × RS × Int × Bool × List Stp × List (List AV), fun x => { slots := [(6, .own 1 0), (5, aI m'), (4, .ptr 0 0), (0, aS b4)], obs := [(1, .row 58 6 x.2.2.2.2.2 0 0), (0, .box 90 [aS b4, aI x.2.2.1, aB x.2.2.2.1] false)], ctr := 2 },
      fun x => x.2.1.1.length ≤ x.1 ∧ x.2.2.1 = (pos l4 x.2.1 : Nat) ∧ x.2.2.2.1 = x.2.1.2 ∧ Sfx l4 x.2.1 ∧ (x.2.1.1 ≠ [] → x.2.1.2 = false) ∧ x.2.2.2.2.2 = stR x.2.2.2.2.1 ∧ x.2.2.2.2.1.length + x.2.1.1.length ≤ 4096 ∧ decS many 5000 s1.1 = x.2.2.2.2.1 ++ decS many x.1 x.2.1.1,
      fun x => x.2.1.1.length, ⟨(5000, s1, p1, o1, [], []), ⟨by simp only; omega, hp1, ho1, g1, e1, rfl, by simp only [List.length_nil]; omega, rfl⟩, Le.trans (le_nil 6 58 6 (by rfl) (by rfl)) (le_of [] (by simp [leSl, leOb, injK, memK, parK, noTup, lk, rn0, rnA, plain] <;> first | rfl | decide))⟩, fun x hx => ?_⟩
    obtain ⟨n, ⟨r, fg⟩, pp, oo, acc, oR⟩ := x
    obtain ⟨hn, ep, eo, gs, hfg, eR, hal, hdec⟩ := hx
    simp only at hn ep eo gs hfg eR hal hdec
    have hb4 : l4 = L b4 := hb4
    have hm' : m' = (many : Int) := hm'
    have hout : out = stR (decS many 5000 s1.1) := hout
    obtain ⟨k5, hk5⟩ : ∃ k, F .slen b4 = k := ⟨_, rfl⟩
    have ek5 : k5 = (l4.length : Int) := by rw [← hk5, slenF hF, L_size, hb4]
    have hrl : r.length ≤ l4.length := sfx_len gs
    have epos : pos l4 (r, fg) = l4.length - r.length := rfl
    have t5 : F .cmp .lss pp k5 = decide (0 < r.length) := by rw [lsF hF, ek5, ep, epos]; congr 1; exact propext ⟨fun h => by omega, fun h => by omega⟩
    cases r with
    | nil =>
      have t5 : F .cmp .lss pp k5 = false := t5
      rw [decS_nil, List.append_nil] at hdec
      have e : oR = out := by rw [hout, hdec, eR]
      subst e
      clear hout hdec ep eo eR ek5 gs hfg
      cbv
      rw [hk5]
      refine bF (t5) ?_
      cbv
      refine ⟨_, le_frzV _ [.tmp 6], hD _ _ _ ?_⟩
      cbv
      simp
    | cons c t =>
      have hf0 : fg = false := hfg (List.cons_ne_nil _ _)
      subst hf0
      have t5 : F .cmp .lss pp k5 = true := by rw [t5]; exact decide_eq_true (Nat.succ_pos _)
      obtain ⟨n2, rfl⟩ : ∃ n2, n = n2 + 1 := ⟨n - 1, by simp only [List.length_cons] at hn; omega⟩
      have hn2 : t.length ≤ n2 := by simp only [List.length_cons] at hn; omega
      have htl : acc.length + (t.length + 1) ≤ 4096 := hal
      rw [decS_cons] at hdec
      obtain ⟨kc, hkc⟩ : ∃ k : Int, k = (c.toNat : Int) := ⟨_, rfl⟩
      have gt : Sfx l4 (t, false) := (sfx_one gs).1
      obtain ⟨pp2, hpp2⟩ : ∃ r : Int, r = (pos l4 (t, false) : Nat) := ⟨_, rfl⟩
      have hc2 := hC _ _ _ (next_S l4 (by omega) b4 hb4 (c :: t, false) gs pp ep kc hkc pp2 hpp2 oo false eo rfl)
      have u1 : F .cmp .lss kc 1 = decide (c.toNat < 1) := by rw [lsF hF, hkc]; congr 1; exact propext ⟨fun h => by omega, fun h => by omega⟩
      have u2 : F .cmp .gtr kc 11 = decide (11 < c.toNat) := by rw [gtF hF, hkc]; congr 1; exact propext ⟨fun h => by omega, fun h => by omega⟩
      have hmu : t.length < (c :: t).length := Nat.lt_succ_self _
      have hft : t ≠ [] → false = false := fun _ => rfl
      have hatl : acc.length + t.length ≤ 4096 := Nat.le_trans (Nat.add_le_add_left (Nat.le_succ _) _) htl
      by_cases h1 : c.toNat < 1
      · have u1 : F .cmp .lss kc 1 = true := by rw [u1]; exact decide_eq_true h1
        rw [if_pos (.inl h1)] at hdec
        clear hout hkc ek5 ep eo
        cbv
        rw [hk5]
        refine bT (t5) ?_
        cbv
        refine ⟨_, _, hc2, ?_⟩
        cbv
        refine cT (u1) ?_
        cbv
        exact ⟨(n2, (t, false), pp2, false, acc, oR), ⟨hn2, hpp2, rfl, gt, hft, eR, hatl, hdec⟩, hmu, (le_of [] (by simp [leSl, leOb, injK, memK, parK, noTup, lk, rn0, rnA, plain] <;> first | rfl | decide))⟩
      have u1 : F .cmp .lss kc 1 = false := by rw [u1]; exact decide_eq_false h1
      by_cases h11 : 11 < c.toNat
      · have u2 : F .cmp .gtr kc 11 = true := by rw [u2]; exact decide_eq_true h11
        rw [if_pos (.inr h11)] at hdec
        clear hout hkc ek5 ep eo
        cbv
        rw [hk5]
        refine bT (t5) ?_
        cbv
        refine ⟨_, _, hc2, ?_⟩
        cbv
        refine cF (u1) ?_
        cbv
        refine bT (u2) ?_
        cbv
        exact ⟨(n2, (t, false), pp2, false, acc, oR), ⟨hn2, hpp2, rfl, gt, hft, eR, hatl, hdec⟩, hmu, (le_of [] (by simp [leSl, leOb, injK, memK, parK, noTup, lk, rn0, rnA, plain] <;> first | rfl | decide))⟩
      have u2 : F .cmp .gtr kc 11 = false := by rw [u2]; exact decide_eq_false h11
      rw [if_neg (by omega)] at hdec
      obtain ⟨x, hx⟩ : ∃ x, x = (entryS c.toNat many (t, false)).1 := ⟨_, rfl⟩
      obtain ⟨s2, hs2⟩ : ∃ x, x = (entryS c.toNat many (t, false)).2 := ⟨_, rfl⟩
      obtain ⟨pp3, hpp3⟩ : ∃ x : Int, x = (pos l4 (entryS c.toNat many (t, false)).2 : Nat) := ⟨_, rfl⟩
      obtain ⟨o2, ho2⟩ : ∃ x, x = (entryS c.toNat many (t, false)).2.2 := ⟨_, rfl⟩
      have hent := hC _ _ _ (rentry_ok l4 (by omega) b4 hb4 (t, false) gt c.toNat many hmp kc m' hkc hm' pp2 hpp2 x hx pp3 hpp3 false o2 rfl ho2)
      have g2 : Sfx l4 s2 := by rw [hs2]; exact sfx_entry _ _ gt
      have ht2n : s2.1.length ≤ t.length := by rw [hs2]; exact entry_len _ _ (t, false)
      rw [← hs2] at hpp3 ho2
      rw [← hx, ← hs2, ← ho2] at hdec
      obtain ⟨oR2, hoR2⟩ : ∃ o2, F .app oR [x.cs] = o2 := ⟨_, rfl⟩
      have eR2 : oR2 = stR (acc ++ [x]) := by rw [← hoR2, hF, eR]; simp [sy, stR]
      have hrm : (F .len oR + F .len [x.cs]) * 56 ≤ 140737488355328 := by rw [lenF hF, lenF hF, eR, stR_len]; simp; omega
      have hel : ∀ r ∈ [x.cs], r.length = 6 := fun r h => by rw [List.mem_singleton.1 h]; rfl
      obtain ⟨xk, xn, xm, xa, xt, xb⟩ := x
      by_cases hov : o2 = true
      · subst hov
        rw [if_pos rfl, List.append_nil] at hdec
        have e : oR = out := by rw [hout, hdec, eR]
        subst e
        clear hout hdec ep eo eR ek5 hkc hx ho2 hs2 hpp2 hpp3 eR2 hoR2 gs gt g2
        cbv
        rw [hk5]
        refine bT (t5) ?_
        cbv
        refine ⟨_, _, hc2, ?_⟩
        cbv
        refine cF (u1) ?_
        cbv
        refine bF (u2) ?_
        cbv
        refine ⟨_, _, hent, ?_⟩
        cbv
        refine bT (rfl) ?_
        cbv
        refine ⟨_, le_frzV _ [.tmp 6], hD _ _ _ ?_⟩
        cbv
        simp
      · have hov : o2 = false := by cases o2 with
            | true => exact absurd rfl hov
            | false => rfl
        subst hov
        rw [if_neg (by decide)] at hdec
        have hdec2 : decS many 5000 s1.1 = (acc ++ [⟨xk, xn, xm, xa, xt, xb⟩]) ++ decS many n2 s2.1 := by rw [hdec]; simp
        have hal2 : (acc ++ [(⟨xk, xn, xm, xa, xt, xb⟩ : Stp)]).length + s2.1.length ≤ 4096 := by simp only [List.length_append, List.length_cons, List.length_nil]; omega
        have hn3 : s2.1.length ≤ n2 := by omega
        have hmu2 : s2.1.length < (c :: t).length := by simp only [List.length_cons]; omega
        have hf2 : s2.1 ≠ [] → s2.2 = false := fun _ => ho2.symm
        clear hout hdec ek5 hkc hx hs2 ep eo gs gt
        cbv
        rw [hk5]
        refine bT (t5) ?_
        cbv
        refine ⟨_, _, hc2, ?_⟩
        cbv
        refine cF (u1) ?_
        cbv
        refine bF (u2) ?_
        cbv
        refine ⟨_, _, hent, ?_⟩
        cbv
        refine bF (rfl) ?_
        cbv
        refine ⟨hel, hrm, ?_⟩
        cbv
        rw [hoR2]
        exact ⟨(n2, s2, pp3, false, acc ++ [⟨xk, xn, xm, xa, xt, xb⟩], oR2), ⟨hn3, hpp3, ho2, g2, hf2, eR2, hal2, hdec2⟩, hmu2, (le_of [(1, 3)] (by simp [leSl, leOb, injK, memK, parK, noTup, lk, rn0, rnA, plain] <;> first | rfl | decide))⟩
end Go.Proofs.YtfphhpabfeepmaaDoor
