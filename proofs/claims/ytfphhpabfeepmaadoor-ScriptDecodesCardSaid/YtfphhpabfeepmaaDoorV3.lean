import Derived.Test.YtfphhpabfeepmaaDoorV2
import Derived.Test.YtfphhpabfeepmaaDoorQ8
set_option linter.unusedSimpArgs false
set_option linter.unusedVariables false
namespace Go.Proofs.YtfphhpabfeepmaaDoor
open Go Go.RowKit Am

/-! ### Scripts: an entry -/
structure Stp where
  kind : Int
  node : Int
  n : Int
  ta : Int
  turn : Int
  by_ : ByteArray
abbrev Stp.cs (x : Stp) : List AV := [aI x.kind, aI x.node, aI x.n, aI x.ta, aI x.turn, aS x.by_]
def wordsS : Nat → RS → List (List UInt8) × RS
  | 0, s => ([], s)
  | k + 1, s => ((textS s).1 :: (wordsS k (textS s).2).1, (wordsS k (textS s).2).2)
theorem words_len : ∀ (k : Nat) (s : RS), (wordsS k s).2.1.length ≤ s.1.length ∧ (wordsS k s).1.length = k ∧ ∀ w ∈ (wordsS k s).1, w.length ≤ 255
  | 0, s => ⟨Nat.le_refl _, rfl, fun w h => by cases h⟩
  | k + 1, s => by
    obtain ⟨h1, h2, h3⟩ := words_len k (textS s).2
    obtain ⟨h4, h5⟩ := textS_len s
    refine ⟨Nat.le_trans h1 h4, by unfold wordsS; simp [h2], fun w h => ?_⟩
    unfold wordsS at h
    rcases List.mem_cons.1 h with h | h
    · rw [h]; exact h5
    · exact h3 w h
def entryS (k many : Nat) (s : RS) : Stp × RS :=
  if 4 ≤ k ∧ k ≤ 6 then (⟨k, 0, (oneS s).1, 0, 0, BA []⟩, (oneS s).2)
  else if k = 1 then (⟨k, ((oneS s).1 % many : Nat), 0, 0, 0, BA (cmdB (wordsS ((oneS (oneS s).2).1 % 5) (oneS (oneS s).2).2).1)⟩, (wordsS ((oneS (oneS s).2).1 % 5) (oneS (oneS s).2).2).2)
  else if k = 7 then (⟨k, ((oneS s).1 % many : Nat), (oneS (oneS s).2).1, (oneS (oneS (oneS s).2).2).1, (twoS (oneS (oneS (oneS s).2).2).2).1, BA []⟩, (twoS (oneS (oneS (oneS s).2).2).2).2)
  else if k = 11 then (⟨k, ((oneS s).1 % many : Nat), (twoS (oneS s).2).1, 0, 0, BA []⟩, (twoS (oneS s).2).2)
  else (⟨k, ((oneS s).1 % many : Nat), 0, 0, 0, BA []⟩, (oneS s).2)
theorem remF {F : Sy} (hF : F = sy) {a b : Nat} {a' b' : Int} (ha : a' = (a : Int)) (hb : b' = (b : Int)) : F .ar .rem .i64 a' b' = ((a % b : Nat) : Int) := by
  rw [hF, ha, hb]
  change Int.tmod (a : Int) (b : Int) = _
  exact (Int.ofNat_tmod a b).symm
theorem twoS_len (s : RS) : (twoS s).2.1.length ≤ s.1.length := Nat.le_trans (oneS_len _) (oneS_len s)
/-- The words that stand behind a place: as the loop reads them. -/
theorem words_snoc (k : Nat) : ∀ (i : Nat) (s : RS), i < k → ∃ w s', wordsS k s = ((wordsS i s).1 ++ w :: (wordsS (k - (i + 1)) s').1, (wordsS (k - (i + 1)) s').2) ∧ textS (wordsS i s).2 = (w, s') ∧ wordsS (i + 1) s = ((wordsS i s).1 ++ [w], s') := by
  intro i
  induction i generalizing k with
  | zero =>
    intro s h
    obtain ⟨m, rfl⟩ : ∃ m, k = m + 1 := ⟨k - 1, by omega⟩
    exact ⟨(textS s).1, (textS s).2, rfl, rfl, rfl⟩
  | succ i ih =>
    intro s h
    obtain ⟨m, rfl⟩ : ∃ m, k = m + 1 := ⟨k - 1, by omega⟩
    obtain ⟨w, s', h1, h2, h3⟩ := ih m (textS s).2 (by omega)
    refine ⟨w, s', ?_, h2, ?_⟩
    · rw [show m + 1 - (i + 1 + 1) = m - (i + 1) by omega]
      show ((textS s).1 :: (wordsS m (textS s).2).1, (wordsS m (textS s).2).2) = _
      rw [h1]
      rfl
    · show ((textS s).1 :: (wordsS (i + 1) (textS s).2).1, (wordsS (i + 1) (textS s).2).2) = _
      rw [h3]
      rfl
theorem words_step (i : Nat) (s : RS) : wordsS (i + 1) s = ((wordsS i s).1 ++ [(textS (wordsS i s).2).1], (textS (wordsS i s).2).2) := by
  obtain ⟨w, s', _, h2, h3⟩ := words_snoc (i + 1) i s (Nat.lt_succ_self i)
  rw [h3, h2]
set_option maxHeartbeats 4000000 in
theorem entry_ok (s : RS) (hl : s.1.length ≤ 100000) (k many : Nat) (hm : 0 < many) (k' many' : Int) (hk : k' = (k : Int)) (hmany : many' = (many : Int)) (rows : List (List AV)) (hr : rows = byR s.1) (x : Stp) (hx : x = (entryS k many s).1) (rows2 : List (List AV)) (hr2 : rows2 = byR (entryS k many s).2.1) (o o2 : Bool) (ho : o = s.2) (ho2 : o2 = (entryS k many s).2.2) :
    CSem Tryd.prog (.wr 45 (RD rows o) (RD rows2 o2)) [.ptr 0 0, aI k', aI many'] (.pure [.agg x.cs]) := by
  refine of_textW gam_ok mixed { n := 57, keep := [7, 34], wrs := [44, 64, 65] } Tryd.func45 (by kernel_rfl) rfl rfl (by simp) (by decide) rfl fun F C D hF hC hD => ?_
  have hl : s.1.length ≤ 1000000 := by omega
  obtain ⟨q, hq⟩ : ∃ q : Bool, q = decide (4 ≤ k' ∧ k' ≤ 6) := ⟨_, rfl⟩
  have hnet := hC _ _ _ (net_ok k' q hq)
  obtain ⟨n1, hn1⟩ : ∃ n1 : Int, n1 = ((oneS s).1 : Int) := ⟨_, rfl⟩
  obtain ⟨s1, hs1⟩ : ∃ s1, s1 = (oneS s).2 := ⟨_, rfl⟩
  have hl1 : s1.1.length ≤ 1000000 := by rw [hs1]; exact Nat.le_trans (oneS_len s) hl
  obtain ⟨r1, hr1⟩ : ∃ r, r = byR s1.1 := ⟨_, rfl⟩
  obtain ⟨o1, ho1⟩ : ∃ r, r = s1.2 := ⟨_, rfl⟩
  have hc1 := hC _ _ _ (one_ok s hl rows hr n1 hn1 r1 (by rw [hr1, hs1]) o o1 ho (by rw [ho1, hs1]))
  unfold entryS at hx hr2 ho2
  rw [← hs1] at hx hr2 ho2
  by_cases h46 : 4 ≤ k ∧ k ≤ 6
  · rw [if_pos h46] at hx hr2 ho2
    have hq : q = true := by rw [hq]; exact decide_eq_true (by omega)
    have e1 : rows2 = r1 := by rw [hr2, hr1]
    have e2 : o2 = o1 := by rw [ho2, ho1]
    rw [← hk, ← hn1] at hx
    subst hq e1 e2 hx
    clear hr hr1 hr2 ho ho1 ho2 hn1 hs1 hk hmany
    cbv
    refine ⟨_, hnet, ?_⟩
    cbv
    refine bT (rfl) ?_
    cbv
    refine ⟨_, _, hc1, ?_⟩
    cbv
    simp
  rw [if_neg h46] at hx hr2 ho2
  have hq : q = false := by rw [hq]; exact decide_eq_false (by omega)
  subst hq
  have hmz : many' ≠ 0 := by rw [hmany]; omega
  obtain ⟨nd, hnd⟩ : ∃ nd, F .ar .rem .i64 n1 many' = nd := ⟨_, rfl⟩
  have end_ : nd = (((oneS s).1 % many : Nat) : Int) := by rw [← hnd]; exact remF hF hn1 hmany
  rw [← end_, ← hk] at hx
  have i1 : F .cmp .eql k' 1 = decide (k = 1) := by rw [eqF hF, hk]; congr 1; exact propext ⟨fun h => by omega, fun h => by omega⟩
  have i7 : F .cmp .eql k' 7 = decide (k = 7) := by rw [eqF hF, hk]; congr 1; exact propext ⟨fun h => by omega, fun h => by omega⟩
  have i11 : F .cmp .eql k' 11 = decide (k = 11) := by rw [eqF hF, hk]; congr 1; exact propext ⟨fun h => by omega, fun h => by omega⟩
  by_cases h1 : k = 1
  · rw [if_pos h1] at hx hr2 ho2
    have i1 : F .cmp .eql k' 1 = true := by rw [i1]; exact decide_eq_true h1
    obtain ⟨n2, hn2⟩ : ∃ n1 : Int, n1 = ((oneS s1).1 : Int) := ⟨_, rfl⟩
    obtain ⟨s2, hs2⟩ : ∃ s2, s2 = (oneS s1).2 := ⟨_, rfl⟩
    have hl2 : s2.1.length ≤ 1000000 := by rw [hs2]; exact Nat.le_trans (oneS_len s1) hl1
    obtain ⟨r2, hr2'⟩ : ∃ r, r = byR s2.1 := ⟨_, rfl⟩
    obtain ⟨o2', ho2'⟩ : ∃ r, r = s2.2 := ⟨_, rfl⟩
    have hc2 := hC _ _ _ (one_ok s1 hl1 r1 hr1 n2 hn2 r2 (by rw [hr2', hs2]) o1 o2' ho1 (by rw [ho2', hs2]))
    obtain ⟨N, hN⟩ : ∃ N : Nat, N = (oneS s1).1 % 5 := ⟨_, rfl⟩
    obtain ⟨N', hN'⟩ : ∃ N' : Int, F .ar .rem .i64 n2 5 = N' := ⟨_, rfl⟩
    have eN : N' = (N : Int) := by rw [← hN', hN]; exact remF (b := 5) hF hn2 rfl
    have hN5 : N ≤ 4 := by omega
    rw [← hN, ← hs2] at hx hr2 ho2
    obtain ⟨hwl, hwn, hw255⟩ := words_len N s2
    have hx1 : x.by_ = BA (cmdB (wordsS N s2).1) := by rw [hx]
    obtain ⟨xs, hxs⟩ : ∃ xs, xs = BA (cmdB (wordsS N s2).1) := ⟨_, rfl⟩
    rw [← hxs] at hx
    subst hx
    clear hr hr1 ho1 hs1 hs2 hn1 hn2 hk hmany end_ hx1 hN
    cbv
    refine ⟨_, hnet, ?_⟩
    cbv
    refine bF (rfl) ?_
    cbv
    refine ⟨_, _, hc1, ?_⟩
    cbv
    refine ⟨hmz, ?_⟩
    cbv
    rw [hnd]
    refine bT (i1) ?_
    cbv
    refine ⟨_, _, hc2, ?_⟩
    cbv
    rw [hN']
    refine ⟨Nat × Int × RS × List (List AV) × Bool × List (List UInt8) × List (List AV), fun x => { slots := [(28, aI x.2.1), (27, aI N'), (8, .own 5 0), (7, .ptr 4 0), (6, .ptr 3 0), (0, .ptr 0 0)], obs := [(5, .row 9 1 x.2.2.2.2.2.2 0 0), (4, .box 59 [aI k', aI nd, aI 0, aI 0, aI 0, aS (BA [])] false), (3, .box 59 [aI 0, aI 0, aI 0, aI 0, aI 0, aS (BA [])] true), (0, .box 85 [.sl x.2.2.2.1, aB x.2.2.2.2.1] false)], ctr := 6, par := 3 },
      fun x => x.2.1 = (x.1 : Int) ∧ x.1 ≤ N ∧ wordsS x.1 s2 = (x.2.2.2.2.2.1, x.2.2.1) ∧ x.2.2.2.1 = byR x.2.2.1.1 ∧ x.2.2.2.2.1 = x.2.2.1.2 ∧ x.2.2.2.2.2.2 = sR x.2.2.2.2.2.1,
      fun x => N - x.1, ⟨(0, 0, s2, r2, o2', [], []), ⟨rfl, Nat.zero_le _, rfl, hr2', ho2', rfl⟩, Le.trans (le_nil 8 9 1 (by rfl) (by rfl)) (le_of [] (by simp [leSl, leOb, injK, memK, parK, noTup, lk, rn0, rnA, plain] <;> first | rfl | decide))⟩, fun x hx => ?_⟩
    obtain ⟨i, i', sc, rr, oo, wd, oR⟩ := x
    obtain ⟨ei, hi, ew, er, eo, eR⟩ := hx
    simp only at ei hi ew er eo eR
    have eN : N' = (N : Int) := eN
    have hxs : xs = BA (cmdB (wordsS N s2).1) := hxs
    have hr2 : rows2 = byR (wordsS N s2).2.1 := hr2
    have ho2 : o2 = (wordsS N s2).2.2 := ho2
    have tl := ltF hF i N i' N' ei eN
    obtain ⟨i2, hi2⟩ : ∃ i2, F .ar .add .i64 i' 1 = i2 := ⟨_, rfl⟩
    have ei2 : i2 = ((i + 1 : Nat) : Int) := hi2.symm.trans (incF hF ei (by omega))
    obtain ⟨hcl, hcn, hc255⟩ := words_len i s2
    rw [ew] at hcl hcn hc255
    simp only at hcl hcn hc255
    by_cases hil : i < N
    · have tl : F .cmp .lss i' N' = true := tl.2 hil
      obtain ⟨ts, hts⟩ : ∃ ts, ts = BA (textS sc).1 := ⟨_, rfl⟩
      obtain ⟨rr2, hrr2⟩ : ∃ ts, ts = byR (textS sc).2.1 := ⟨_, rfl⟩
      obtain ⟨oo2, hoo2⟩ : ∃ ts, ts = (textS sc).2.2 := ⟨_, rfl⟩
      have htx := hC _ _ _ (text_ok sc (by omega) rr er ts hts rr2 hrr2 oo oo2 eo hoo2)
      obtain ⟨oR2, hoR2⟩ : ∃ o2, F .app oR [[aS ts]] = o2 := ⟨_, rfl⟩
      have eR2 : oR2 = sR (wd ++ [(textS sc).1]) := by rw [← hoR2, hF, eR, hts]; simp [sy, sR]
      have hrm : (F .len oR + F .len [[aS ts]]) * 16 ≤ 140737488355328 := by rw [lenF hF, lenF hF, eR, sR_len, hcn]; simp; omega
      have hel : ∀ r ∈ [[aS ts]], r.length = 1 := fun r h => by rw [List.mem_singleton.1 h]; rfl
      have ew2 : wordsS (i + 1) s2 = (wd ++ [(textS sc).1], (textS sc).2) := by rw [words_step, ew]
      have hmu : N - (i + 1) < N - i := by omega
      clear hxs hr2 ho2 hwl hwn hw255
      cbv
      refine bT (tl) ?_
      cbv
      refine ⟨_, _, htx, ?_⟩
      cbv
      refine ⟨hel, hrm, ?_⟩
      cbv
      rw [hoR2, hi2]
      exact ⟨(i + 1, i2, (textS sc).2, rr2, oo2, wd ++ [(textS sc).1], oR2), ⟨ei2, hil, ew2, hrr2, hoo2, eR2⟩, hmu, (le_of [(5, 6)] (by simp [leSl, leOb, injK, memK, parK, noTup, lk, rn0, rnA, plain] <;> first | rfl | decide))⟩
    · have tl : F .cmp .lss i' N' = false := by cases h : F .cmp .lss i' N' with | true => exact absurd (tl.1 h) hil | false => rfl
      have hiN : i = N := by omega
      rw [hiN] at ew
      rw [ew] at hxs hr2 ho2
      obtain ⟨out, hout⟩ : ∃ o, o = byR (cmdB wd) := ⟨_, rfl⟩
      have henc := hC _ _ _ (fn_frz (enc_cmd wd (by omega) (fun a h => by have := hc255 a h; omega) oR eR out hout))
      have hbs := hC _ _ _ (bs_ok (cmdB wd) out hout xs hxs)
      have e1 : rr = rows2 := by rw [er, hr2]
      have e2 : oo = o2 := by rw [eo, ho2]
      subst e1 e2
      clear hxs hr2 ho2 er eo eR hwl hwn hw255 hout
      cbv
      refine bF (tl) ?_
      cbv
      refine ⟨_, henc, ?_⟩
      cbv
      refine ⟨_, hbs, ?_⟩
      cbv
      simp
  rw [if_neg h1] at hx hr2 ho2
  have i1 : F .cmp .eql k' 1 = false := by rw [i1]; exact decide_eq_false h1
  by_cases h7 : k = 7
  · rw [if_pos h7] at hx hr2 ho2
    have i7 : F .cmp .eql k' 7 = true := by rw [i7]; exact decide_eq_true h7
    obtain ⟨n2, hn2⟩ : ∃ n1 : Int, n1 = ((oneS s1).1 : Int) := ⟨_, rfl⟩
    obtain ⟨s2, hs2⟩ : ∃ s2, s2 = (oneS s1).2 := ⟨_, rfl⟩
    have hl2 : s2.1.length ≤ 1000000 := by rw [hs2]; exact Nat.le_trans (oneS_len s1) hl1
    obtain ⟨r2, hr2'⟩ : ∃ r, r = byR s2.1 := ⟨_, rfl⟩
    obtain ⟨o2', ho2'⟩ : ∃ r, r = s2.2 := ⟨_, rfl⟩
    have hc2 := hC _ _ _ (one_ok s1 hl1 r1 hr1 n2 hn2 r2 (by rw [hr2', hs2]) o1 o2' ho1 (by rw [ho2', hs2]))
    obtain ⟨n3, hn3⟩ : ∃ n1 : Int, n1 = ((oneS s2).1 : Int) := ⟨_, rfl⟩
    obtain ⟨s3, hs3⟩ : ∃ s2', s2' = (oneS s2).2 := ⟨_, rfl⟩
    have hl3 : s3.1.length ≤ 1000000 := by rw [hs3]; exact Nat.le_trans (oneS_len s2) hl2
    obtain ⟨r3, hr3⟩ : ∃ r, r = byR s3.1 := ⟨_, rfl⟩
    obtain ⟨o3, ho3⟩ : ∃ r, r = s3.2 := ⟨_, rfl⟩
    have hc3 := hC _ _ _ (one_ok s2 hl2 r2 hr2' n3 hn3 r3 (by rw [hr3, hs3]) o2' o3 ho2' (by rw [ho3, hs3]))
    rw [← hs2, ← hs3] at hx hr2 ho2
    obtain ⟨n4, hn4⟩ : ∃ n1 : Int, n1 = ((twoS s3).1 : Int) := ⟨_, rfl⟩
    have hc4 := hC _ _ _ (two_ok s3 hl3 r3 hr3 n4 hn4 rows2 hr2 o3 o2 ho3 ho2)
    rw [← hn2, ← hn3, ← hn4] at hx
    subst hx
    clear hr2 ho2 hr ho hr1 ho1 hr2' ho2' hr3 ho3 hn1 hn2 hn3 hn4 hs1 hs2 hs3 hk hmany end_
    cbv
    refine ⟨_, hnet, ?_⟩
    cbv
    refine bF (rfl) ?_
    cbv
    refine ⟨_, _, hc1, ?_⟩
    cbv
    refine ⟨hmz, ?_⟩
    cbv
    rw [hnd]
    refine bF (i1) ?_
    cbv
    refine bT (i7) ?_
    cbv
    refine ⟨_, _, hc2, ?_⟩
    cbv
    refine ⟨_, _, hc3, ?_⟩
    cbv
    refine ⟨_, _, hc4, ?_⟩
    cbv
    simp
  rw [if_neg h7] at hx hr2 ho2
  have i7 : F .cmp .eql k' 7 = false := by rw [i7]; exact decide_eq_false h7
  by_cases h11 : k = 11
  · rw [if_pos h11] at hx hr2 ho2
    have i11 : F .cmp .eql k' 11 = true := by rw [i11]; exact decide_eq_true h11
    obtain ⟨n4, hn4⟩ : ∃ n1 : Int, n1 = ((twoS s1).1 : Int) := ⟨_, rfl⟩
    have hc4 := hC _ _ _ (two_ok s1 hl1 r1 hr1 n4 hn4 rows2 hr2 o1 o2 ho1 ho2)
    rw [← hn4] at hx
    subst hx
    clear hr2 ho2 hr ho hr1 ho1 hn1 hn4 hs1 hk hmany end_
    cbv
    refine ⟨_, hnet, ?_⟩
    cbv
    refine bF (rfl) ?_
    cbv
    refine ⟨_, _, hc1, ?_⟩
    cbv
    refine ⟨hmz, ?_⟩
    cbv
    rw [hnd]
    refine bF (i1) ?_
    cbv
    refine bF (i7) ?_
    cbv
    refine bT (i11) ?_
    cbv
    refine ⟨_, _, hc4, ?_⟩
    cbv
    simp
  rw [if_neg h11] at hx hr2 ho2
  have i11 : F .cmp .eql k' 11 = false := by rw [i11]; exact decide_eq_false h11
  have e1 : rows2 = r1 := by rw [hr2, hr1]
  have e2 : o2 = o1 := by rw [ho2, ho1]
  subst e1 e2 hx
  clear hr hr1 hr2 ho ho1 ho2 hn1 hs1 hk hmany end_
  cbv
  refine ⟨_, hnet, ?_⟩
  cbv
  refine bF (rfl) ?_
  cbv
  refine ⟨_, _, hc1, ?_⟩
  cbv
  refine ⟨hmz, ?_⟩
  cbv
  rw [hnd]
  refine bF (i1) ?_
  cbv
  refine bF (i7) ?_
  cbv
  refine bF (i11) ?_
  cbv
  simp
end Go.Proofs.YtfphhpabfeepmaaDoor
