import Derived.Test.YtfphhpabfeepmaaDoorV3
import Derived.Test.YtfphhpabfeepmaaDoorS5
import Derived.Test.YtfphhpabfeepmaaDoorAmY
set_option linter.unusedSimpArgs false
set_option linter.unusedVariables false
namespace Go.Proofs.YtfphhpabfeepmaaDoor
open Go Go.RowKit Am

/-! ### Scripts: the reference's entry -/
def Sfx (l : List UInt8) (s : RS) : Prop := ∃ a, a ≤ l.length ∧ s.1 = l.drop a
def pos (l : List UInt8) (s : RS) : Nat := l.length - s.1.length
theorem sfx_at {l : List UInt8} {s : RS} (h : Sfx l s) : s = at_ l (pos l s) s.2 ∧ pos l s ≤ l.length := by
  obtain ⟨a, ha, he⟩ := h
  have : pos l s = a := by unfold pos; rw [he, List.length_drop]; omega
  rw [this]
  exact ⟨by unfold at_; rw [← he], ha⟩
theorem pos_at {l : List UInt8} {s : RS} {a : Nat} {o : Bool} (ha : a ≤ l.length) (h : s = at_ l a o) : pos l s = a := by
  rw [h]; unfold pos at_; rw [List.length_drop]; omega
theorem sfx_of {l : List UInt8} {s : RS} {a : Nat} {o : Bool} (ha : a ≤ l.length) (h : s = at_ l a o) : Sfx l s := ⟨a, ha, by rw [h]; rfl⟩
theorem sfx_one {l : List UInt8} {s : RS} (h : Sfx l s) : Sfx l (oneS s).2 ∧ pos l (oneS s).2 = nextA l (pos l s) := by
  obtain ⟨h1, h2⟩ := sfx_at h
  obtain ⟨h3, h4⟩ := next_at l (pos l s) s.2 h2
  rw [← h1] at h3
  exact ⟨sfx_of h4 h3, pos_at h4 h3⟩
theorem sfx_text {l : List UInt8} {s : RS} (h : Sfx l s) : Sfx l (textS s).2 ∧ pos l (textS s).2 = textA l (pos l s) := by
  obtain ⟨h1, h2⟩ := sfx_at h
  obtain ⟨h3, h4⟩ := text_at l (pos l s) s.2 h2
  rw [← h1] at h3
  exact ⟨sfx_of h4 h3, pos_at h4 h3⟩
theorem next_S (l : List UInt8) (hl : l.length ≤ 1000000) (b : ByteArray) (hb : l = L b) (s : RS) (hs : Sfx l s) (a1 : Int) (h1 : a1 = (pos l s : Nat)) (n : Int) (hn : n = ((oneS s).1 : Int)) (a2 : Int) (h2 : a2 = (pos l (oneS s).2 : Nat)) (o o2 : Bool) (ho : o = s.2) (ho2 : o2 = (oneS s).2.2) :
    CSem Tryd.prog (.wr 46 (RR b a1 o) (RR b a2 o2)) [.ptr 0 0] (.pure [aI n]) := by
  obtain ⟨g1, g2⟩ := sfx_at hs
  refine next_ok l hl b hb (pos l s) g2 o a1 a2 n h1 (by rw [h2, (sfx_one hs).2]) ?_ o2 ?_
  · rw [hn, ho, ← g1]
  · rw [ho2, ho, ← g1]
theorem rtext_S (l : List UInt8) (hl : l.length ≤ 1000000) (b : ByteArray) (hb : l = L b) (s : RS) (hs : Sfx l s) (a1 : Int) (h1 : a1 = (pos l s : Nat)) (x : ByteArray) (hx : x = BA (textS s).1) (a2 : Int) (h2 : a2 = (pos l (textS s).2 : Nat)) (o o2 : Bool) (ho : o = s.2) (ho2 : o2 = (textS s).2.2) :
    CSem Tryd.prog (.wr 66 (RR b a1 o) (RR b a2 o2)) [.ptr 0 0] (.pure [aS x]) := by
  obtain ⟨g1, g2⟩ := sfx_at hs
  refine rtext_ok l hl b hb (pos l s) g2 o a1 a2 h1 (by rw [h2, (sfx_text hs).2]) x ?_ o2 ?_
  · rw [hx, ho, ← g1]
  · rw [ho2, ho, ← g1]
theorem sfx_words {l : List UInt8} : ∀ (k : Nat) {s : RS}, Sfx l s → Sfx l (wordsS k s).2
  | 0, s, h => h
  | k + 1, s, h => sfx_words k (sfx_text h).1
theorem sfx_two {l : List UInt8} {s : RS} (h : Sfx l s) : Sfx l (twoS s).2 := (sfx_one (sfx_one h).1).1
theorem sfx_entry {l : List UInt8} (k many : Nat) {s : RS} (h : Sfx l s) : Sfx l (entryS k many s).2 := by
  unfold entryS
  have h1 := (sfx_one h).1
  split
  · exact h1
  split
  · exact sfx_words _ (sfx_one h1).1
  split
  · exact sfx_two (sfx_one (sfx_one h1).1).1
  split
  · exact sfx_two h1
  · exact h1
set_option maxHeartbeats 8000000 in
theorem rentry_ok (l : List UInt8) (hl : l.length ≤ 100000) (b : ByteArray) (hb : l = L b) (s : RS) (hs : Sfx l s) (k many : Nat) (hm : 0 < many) (k' many' : Int) (hk : k' = (k : Int)) (hmany : many' = (many : Int)) (a1 : Int) (h1 : a1 = (pos l s : Nat)) (x : Stp) (hx : x = (entryS k many s).1) (a2 : Int) (h2 : a2 = (pos l (entryS k many s).2 : Nat)) (o o2 : Bool) (ho : o = s.2) (ho2 : o2 = (entryS k many s).2.2) :
    CSem Tryd.prog (.wr 47 (RR b a1 o) (RR b a2 o2)) [.ptr 0 0, aI k', aI many'] (.pure [.agg x.cs]) := by
  refine of_textWY gam_ok mixed { n := 81, keep := [7, 39], wrs := [46, 66], cuts := [21, 24] } Tryd.func47 (by kernel_rfl) rfl rfl (by simp) (by decide) rfl fun F C D hF hC hD hY => ?_
  have hl : l.length ≤ 1000000 := by omega
  have j1 : F .cmp .lss k' 4 = decide (k < 4) := by rw [lsF hF, hk]; congr 1; exact propext ⟨fun h => by omega, fun h => by omega⟩
  have j2 : F .cmp .gtr k' 6 = decide (6 < k) := by rw [gtF hF, hk]; congr 1; exact propext ⟨fun h => by omega, fun h => by omega⟩
  have i1 : F .cmp .eql k' 1 = decide (k = 1) := by rw [eqF hF, hk]; congr 1; exact propext ⟨fun h => by omega, fun h => by omega⟩
  have i4 : F .cmp .eql k' 4 = decide (k = 4) := by rw [eqF hF, hk]; congr 1; exact propext ⟨fun h => by omega, fun h => by omega⟩
  have i5 : F .cmp .eql k' 5 = decide (k = 5) := by rw [eqF hF, hk]; congr 1; exact propext ⟨fun h => by omega, fun h => by omega⟩
  have i6 : F .cmp .eql k' 6 = decide (k = 6) := by rw [eqF hF, hk]; congr 1; exact propext ⟨fun h => by omega, fun h => by omega⟩
  have i7 : F .cmp .eql k' 7 = decide (k = 7) := by rw [eqF hF, hk]; congr 1; exact propext ⟨fun h => by omega, fun h => by omega⟩
  have i11 : F .cmp .eql k' 11 = decide (k = 11) := by rw [eqF hF, hk]; congr 1; exact propext ⟨fun h => by omega, fun h => by omega⟩
  obtain ⟨n1, hn1⟩ : ∃ n1 : Int, n1 = ((oneS s).1 : Int) := ⟨_, rfl⟩
  obtain ⟨s1, hs1⟩ : ∃ s1, s1 = (oneS s).2 := ⟨_, rfl⟩
  have g1 : Sfx l s1 := by rw [hs1]; exact (sfx_one hs).1
  obtain ⟨p1, hp1⟩ : ∃ p : Int, p = (pos l s1 : Nat) := ⟨_, rfl⟩
  obtain ⟨o1, ho1⟩ : ∃ r, r = s1.2 := ⟨_, rfl⟩
  have hc1 := hC _ _ _ (next_S l hl b hb s hs a1 h1 n1 hn1 p1 (by rw [hp1, hs1]) o o1 ho (by rw [ho1, hs1]))
  unfold entryS at hx h2 ho2
  rw [← hs1] at hx h2 ho2
  by_cases h46 : 4 ≤ k ∧ k ≤ 6
  · rw [if_pos h46] at hx h2 ho2
    have j1 : F .cmp .lss k' 4 = false := by rw [j1]; exact decide_eq_false (by omega)
    have j2 : F .cmp .gtr k' 6 = false := by rw [j2]; exact decide_eq_false (by omega)
    have i1 : F .cmp .eql k' 1 = false := by rw [i1]; exact decide_eq_false (by omega)
    have e1 : a2 = p1 := by rw [h2, hp1]
    have e2 : o2 = o1 := by rw [ho2, ho1]
    rw [← hk, ← hn1] at hx
    subst e1 e2 hx
    have c4 : k = 4 ∨ k = 5 ∨ k = 6 := by omega
    clear h1 h2 ho ho1 ho2 hp1 hn1 hs1 hk hmany hs g1
    rcases c4 with h | h | h
    · have i4 : F .cmp .eql k' 4 = true := by rw [i4]; exact decide_eq_true h
      cbv
      refine cF (j1) ?_
      cbv
      refine bF (j2) ?_
      cbv
      refine bF (i1) ?_
      cbv
      refine bT (i4) ?_
      cbv
      refine ⟨_, _, hc1, ?_⟩
      cbv
      simp
    · have i4 : F .cmp .eql k' 4 = false := by rw [i4]; exact decide_eq_false (by omega)
      have i5 : F .cmp .eql k' 5 = true := by rw [i5]; exact decide_eq_true h
      cbv
      refine cF (j1) ?_
      cbv
      refine bF (j2) ?_
      cbv
      refine bF (i1) ?_
      cbv
      refine bF (i4) ?_
      cbv
      refine bT (i5) ?_
      cbv
      refine ⟨_, _, hc1, ?_⟩
      cbv
      simp
    · have i4 : F .cmp .eql k' 4 = false := by rw [i4]; exact decide_eq_false (by omega)
      have i5 : F .cmp .eql k' 5 = false := by rw [i5]; exact decide_eq_false (by omega)
      have i6 : F .cmp .eql k' 6 = true := by rw [i6]; exact decide_eq_true h
      cbv
      refine cF (j1) ?_
      cbv
      refine bF (j2) ?_
      cbv
      refine bF (i1) ?_
      cbv
      refine bF (i4) ?_
      cbv
      refine bF (i5) ?_
      cbv
      refine bT (i6) ?_
      cbv
      refine ⟨_, _, hc1, ?_⟩
      cbv
      simp
  rw [if_neg h46] at hx h2 ho2
  have i4 : F .cmp .eql k' 4 = false := by rw [i4]; exact decide_eq_false (by omega)
  have i5 : F .cmp .eql k' 5 = false := by rw [i5]; exact decide_eq_false (by omega)
  have i6 : F .cmp .eql k' 6 = false := by rw [i6]; exact decide_eq_false (by omega)
  have hmz : many' ≠ 0 := by rw [hmany]; omega
  obtain ⟨nd, hnd⟩ : ∃ nd, F .ar .rem .i64 n1 many' = nd := ⟨_, rfl⟩
  have end_ : nd = (((oneS s).1 % many : Nat) : Int) := by rw [← hnd]; exact remF hF hn1 hmany
  rw [← end_, ← hk] at hx
  by_cases hk1 : k = 1
  · rw [if_pos hk1] at hx h2 ho2
    have j1 : F .cmp .lss k' 4 = true := by rw [j1]; exact decide_eq_true (by omega)
    have i1 : F .cmp .eql k' 1 = true := by rw [i1]; exact decide_eq_true hk1
    obtain ⟨n2, hn2⟩ : ∃ n1 : Int, n1 = ((oneS s1).1 : Int) := ⟨_, rfl⟩
    obtain ⟨s2, hs2⟩ : ∃ s2, s2 = (oneS s1).2 := ⟨_, rfl⟩
    have g2 : Sfx l s2 := by rw [hs2]; exact (sfx_one g1).1
    obtain ⟨p2, hp2⟩ : ∃ p : Int, p = (pos l s2 : Nat) := ⟨_, rfl⟩
    obtain ⟨o2', ho2'⟩ : ∃ r, r = s2.2 := ⟨_, rfl⟩
    have hc2 := hC _ _ _ (next_S l hl b hb s1 g1 p1 hp1 n2 hn2 p2 (by rw [hp2, hs2]) o1 o2' ho1 (by rw [ho2', hs2]))
    obtain ⟨N, hN⟩ : ∃ N : Nat, N = (oneS s1).1 % 5 := ⟨_, rfl⟩
    obtain ⟨N', hN'⟩ : ∃ N' : Int, F .ar .rem .i64 n2 5 = N' := ⟨_, rfl⟩
    have eN : N' = (N : Int) := by rw [← hN', hN]; exact remF (b := 5) hF hn2 rfl
    have hN5 : N ≤ 4 := by omega
    rw [← hN, ← hs2] at hx h2 ho2
    obtain ⟨xs, hxs⟩ : ∃ xs, xs = BA (cmdB (wordsS N s2).1) := ⟨_, rfl⟩
    rw [← hxs] at hx
    subst hx
    clear h1 ho1 hs1 hs2 hn1 hn2 hk hmany end_ hN hp1 hs g1
    cbv
    refine cT (j1) ?_
    cbv
    refine ⟨_, _, hc1, ?_⟩
    cbv
    refine ⟨hmz, ?_⟩
    cbv
    rw [hnd]
    refine bT (i1) ?_
    cbv
    refine ⟨_, _, hc2, ?_⟩
    cbv
    rw [hN']
    refine ⟨Nat × Int × RS × Int × Bool × List (List UInt8) × List (List AV), fun x => { slots := [(10, aI x.2.1), (8, aI N'), (9, .own 5 0), (7, .ptr 4 0), (6, .ptr 3 0), (0, .ptr 0 0)], obs := [(5, .row 9 1 x.2.2.2.2.2.2 0 0), (4, .box 58 [aI k', aI nd, aI 0, aI 0, aI 0, aS (BA [])] false), (3, .box 58 [aI 0, aI 0, aI 0, aI 0, aI 0, aS (BA [])] true), (0, .box 90 [aS b, aI x.2.2.2.1, aB x.2.2.2.2.1] false)], ctr := 6, par := 3 },
      fun x => x.2.1 = (x.1 : Int) ∧ x.1 ≤ N ∧ wordsS x.1 s2 = (x.2.2.2.2.2.1, x.2.2.1) ∧ x.2.2.2.1 = (pos l x.2.2.1 : Nat) ∧ x.2.2.2.2.1 = x.2.2.1.2 ∧ x.2.2.2.2.2.2 = sR x.2.2.2.2.2.1 ∧ Sfx l x.2.2.1,
      fun x => N - x.1, ⟨(0, 0, s2, p2, o2', [], []), ⟨rfl, Nat.zero_le _, rfl, hp2, ho2', rfl, g2⟩, Le.trans (le_nil 9 9 1 (by rfl) (by rfl)) (le_of [] (by simp [leSl, leOb, injK, memK, parK, noTup, lk, rn0, rnA, plain] <;> first | rfl | decide))⟩, fun x hx => ?_⟩
    obtain ⟨i, i', sc, pp, oo, wd, oR⟩ := x
    obtain ⟨ei, hi, ew, ep, eo, eR, gs⟩ := hx
    simp only at ei hi ew ep eo eR gs
    have eN : N' = (N : Int) := eN
    have hb : l = L b := hb
    have hxs : xs = BA (cmdB (wordsS N s2).1) := hxs
    have h2 : a2 = (pos l (wordsS N s2).2 : Nat) := h2
    have ho2 : o2 = (wordsS N s2).2.2 := ho2
    have tl := ltF hF i N i' N' ei eN
    obtain ⟨i2, hi2⟩ : ∃ i2, F .ar .add .i64 i' 1 = i2 := ⟨_, rfl⟩
    have ei2 : i2 = ((i + 1 : Nat) : Int) := hi2.symm.trans (incF hF ei (by omega))
    obtain ⟨hcl, hcn, hc255⟩ := words_len i s2
    rw [ew] at hcl hcn hc255
    simp only at hcl hcn hc255
    by_cases hil : i < N
    · have tl : F .cmp .lss i' N' = true := tl.2 hil
      obtain ⟨ts, hts⟩ : ∃ ts, ts = BA (textS sc).1 := ⟨_, rfl⟩
      obtain ⟨pp2, hpp2⟩ : ∃ ts : Int, ts = (pos l (textS sc).2 : Nat) := ⟨_, rfl⟩
      obtain ⟨oo2, hoo2⟩ : ∃ ts, ts = (textS sc).2.2 := ⟨_, rfl⟩
      have htx := hC _ _ _ (rtext_S l hl b hb sc gs pp ep ts hts pp2 hpp2 oo oo2 eo hoo2)
      obtain ⟨oR2, hoR2⟩ : ∃ o2, F .app oR [[aS ts]] = o2 := ⟨_, rfl⟩
      have eR2 : oR2 = sR (wd ++ [(textS sc).1]) := by rw [← hoR2, hF, eR, hts]; simp [sy, sR]
      have hrm : (F .len oR + F .len [[aS ts]]) * 16 ≤ 140737488355328 := by rw [lenF hF, lenF hF, eR, sR_len, hcn]; simp; omega
      have hel : ∀ r ∈ [[aS ts]], r.length = 1 := fun r h => by rw [List.mem_singleton.1 h]; rfl
      have ew2 : wordsS (i + 1) s2 = (wd ++ [(textS sc).1], (textS sc).2) := by rw [words_step, ew]
      have hmu : N - (i + 1) < N - i := by omega
      have gs2 := (sfx_text gs).1
      clear hxs h2 ho2
      cbv
      refine bT (tl) ?_
      cbv
      refine ⟨_, _, htx, ?_⟩
      cbv
      refine ⟨hel, hrm, ?_⟩
      cbv
      rw [hoR2, hi2]
      exact ⟨(i + 1, i2, (textS sc).2, pp2, oo2, wd ++ [(textS sc).1], oR2), ⟨ei2, hil, ew2, hpp2, hoo2, eR2, gs2⟩, hmu, (le_of [(5, 6)] (by simp [leSl, leOb, injK, memK, parK, noTup, lk, rn0, rnA, plain] <;> first | rfl | decide))⟩
    · have tl : F .cmp .lss i' N' = false := by cases h : F .cmp .lss i' N' with | true => exact absurd (tl.1 h) hil | false => rfl
      have hiN : i = N := by omega
      rw [hiN] at ew
      rw [ew] at hxs h2 ho2
      have henc := hC _ _ _ (rcmd_ok wd (by omega) (fun a h => by have := hc255 a h; omega) oR eR xs hxs)
      have e1 : pp = a2 := by rw [ep, h2]
      have e2 : oo = o2 := by rw [eo, ho2]
      subst e1 e2
      clear hxs h2 ho2 ep eo eR
      cbv
      refine bF (tl) ?_
      cbv
      refine ⟨_, henc, ?_⟩
      cbv
      simp
  rw [if_neg hk1] at hx h2 ho2
  have i1 : F .cmp .eql k' 1 = false := by rw [i1]; exact decide_eq_false hk1
  by_cases h7 : k = 7
  · rw [if_pos h7] at hx h2 ho2
    have i7 : F .cmp .eql k' 7 = true := by rw [i7]; exact decide_eq_true h7
    have j1 : F .cmp .lss k' 4 = false := by rw [j1]; exact decide_eq_false (by omega)
    have j2 : F .cmp .gtr k' 6 = true := by rw [j2]; exact decide_eq_true (by omega)
    obtain ⟨n2, hn2⟩ : ∃ n1 : Int, n1 = ((oneS s1).1 : Int) := ⟨_, rfl⟩
    obtain ⟨s2, hs2⟩ : ∃ s2, s2 = (oneS s1).2 := ⟨_, rfl⟩
    have g2 : Sfx l s2 := by rw [hs2]; exact (sfx_one g1).1
    obtain ⟨p2, hp2⟩ : ∃ p : Int, p = (pos l s2 : Nat) := ⟨_, rfl⟩
    obtain ⟨o2', ho2'⟩ : ∃ r, r = s2.2 := ⟨_, rfl⟩
    have hc2 := hC _ _ _ (next_S l hl b hb s1 g1 p1 hp1 n2 hn2 p2 (by rw [hp2, hs2]) o1 o2' ho1 (by rw [ho2', hs2]))
    obtain ⟨n3, hn3⟩ : ∃ n1 : Int, n1 = ((oneS s2).1 : Int) := ⟨_, rfl⟩
    obtain ⟨s3, hs3⟩ : ∃ s2', s2' = (oneS s2).2 := ⟨_, rfl⟩
    have g3 : Sfx l s3 := by rw [hs3]; exact (sfx_one g2).1
    obtain ⟨p3, hp3⟩ : ∃ p : Int, p = (pos l s3 : Nat) := ⟨_, rfl⟩
    obtain ⟨o3, ho3⟩ : ∃ r, r = s3.2 := ⟨_, rfl⟩
    have hc3 := hC _ _ _ (next_S l hl b hb s2 g2 p2 hp2 n3 hn3 p3 (by rw [hp3, hs3]) o2' o3 ho2' (by rw [ho3, hs3]))
    rw [← hs2, ← hs3] at hx h2 ho2
    obtain ⟨n4, hn4⟩ : ∃ n1 : Int, n1 = ((oneS s3).1 : Int) := ⟨_, rfl⟩
    obtain ⟨s4, hs4⟩ : ∃ s2', s2' = (oneS s3).2 := ⟨_, rfl⟩
    have g4 : Sfx l s4 := by rw [hs4]; exact (sfx_one g3).1
    obtain ⟨p4, hp4⟩ : ∃ p : Int, p = (pos l s4 : Nat) := ⟨_, rfl⟩
    obtain ⟨o4, ho4⟩ : ∃ r, r = s4.2 := ⟨_, rfl⟩
    have hc4 := hC _ _ _ (next_S l hl b hb s3 g3 p3 hp3 n4 hn4 p4 (by rw [hp4, hs4]) o3 o4 ho3 (by rw [ho4, hs4]))
    unfold twoS at hx h2 ho2
    rw [← hs4] at hx h2 ho2
    obtain ⟨n5, hn5⟩ : ∃ n1 : Int, n1 = ((oneS s4).1 : Int) := ⟨_, rfl⟩
    have hc5 := hC _ _ _ (next_S l hl b hb s4 g4 p4 hp4 n5 hn5 a2 h2 o4 o2 ho4 ho2)
    obtain ⟨z, hz⟩ : ∃ z, F .ar .mul .i64 256 n4 = z := ⟨_, rfl⟩
    have q4 := oneS_lt s3
    have q5 := oneS_lt s4
    have ez : z = ((256 * (oneS s3).1 : Nat) : Int) := by
      rw [← hz, hF, hn4]
      exact (wrap_in (by omega) (by omega)).trans (by omega)
    obtain ⟨tt, htt⟩ : ∃ tt, F .ar .add .i64 z n5 = tt := ⟨_, rfl⟩
    have et : tt = ((256 * (oneS s3).1 + (oneS s4).1 : Nat) : Int) := by rw [← htt]; exact addF hF ez hn5 (by omega)
    rw [← hn2, ← hn3, ← et] at hx
    subst hx
    clear h2 ho2 h1 ho hp1 ho1 hp2 ho2' hp3 ho3 hp4 ho4 hn1 hn2 hn3 hn4 hn5 hs1 hs2 hs3 hs4 hk hmany end_ ez et
    cbv
    refine cF (j1) ?_
    cbv
    refine bT (j2) ?_
    cbv
    refine ⟨_, _, hc1, ?_⟩
    cbv
    refine ⟨hmz, ?_⟩
    cbv
    rw [hnd]
    refine bF (i1) ?_
    cbv
    refine bF (i4) ?_
    cbv
    refine bF (i5) ?_
    cbv
    refine bF (i6) ?_
    cbv
    refine bT (i7) ?_
    cbv
    refine ⟨_, _, hc2, ?_⟩
    cbv
    refine ⟨_, _, hc3, ?_⟩
    cbv
    refine ⟨_, _, hc4, ?_⟩
    cbv
    rw [hz]
    refine ⟨{ slots := [(7, .ptr 4 0), (6, .ptr 3 0), (0, .ptr 0 0)], obs := [(4, .box 58 [aI k', aI nd, aI n2, aI n3, aI z, aS (BA [])] false), (3, .box 58 [aI 0, aI 0, aI 0, aI 0, aI 0, aS (BA [])] true), (0, .box 90 [aS b, aI p4, aB o4] false)], ctr := 5, par := 3 }, (le_of [] (by simp [leSl, leOb, injK, memK, parK, noTup, lk, rn0, rnA, plain] <;> first | rfl | decide)), hY _ _ _ _ { slots := [(7, .ptr 4 0), (6, .ptr 3 0), (0, .ptr 0 0)], obs := [(4, .box 58 [aI k', aI nd, aI n2, aI n3, aI tt, aS (BA [])] false), (3, .box 58 [aI 0, aI 0, aI 0, aI 0, aI 0, aS (BA [])] true), (0, .box 90 [aS b, aI a2, aB o2] false)], ctr := 5, par := 3 } ?_ ?_⟩
    · cbv
      repeat' (first | refine And.intro ?_ ?_ | (refine ⟨_, _, hc5, ?_⟩; cbv) | (rw [htt]; exact (le_of [] (by simp [leSl, leOb, injK, memK, parK, noTup, lk, rn0, rnA, plain] <;> first | rfl | decide))) | trivial)
    · cbv
      simp
  rw [if_neg h7] at hx h2 ho2
  have i7 : F .cmp .eql k' 7 = false := by rw [i7]; exact decide_eq_false h7
  by_cases h11 : k = 11
  · rw [if_pos h11] at hx h2 ho2
    have i11 : F .cmp .eql k' 11 = true := by rw [i11]; exact decide_eq_true h11
    have j1 : F .cmp .lss k' 4 = false := by rw [j1]; exact decide_eq_false (by omega)
    have j2 : F .cmp .gtr k' 6 = true := by rw [j2]; exact decide_eq_true (by omega)
    obtain ⟨n4, hn4⟩ : ∃ n1 : Int, n1 = ((oneS s1).1 : Int) := ⟨_, rfl⟩
    obtain ⟨s4, hs4⟩ : ∃ s2', s2' = (oneS s1).2 := ⟨_, rfl⟩
    have g4 : Sfx l s4 := by rw [hs4]; exact (sfx_one g1).1
    obtain ⟨p4, hp4⟩ : ∃ p : Int, p = (pos l s4 : Nat) := ⟨_, rfl⟩
    obtain ⟨o4, ho4⟩ : ∃ r, r = s4.2 := ⟨_, rfl⟩
    have hc4 := hC _ _ _ (next_S l hl b hb s1 g1 p1 hp1 n4 hn4 p4 (by rw [hp4, hs4]) o1 o4 ho1 (by rw [ho4, hs4]))
    unfold twoS at hx h2 ho2
    rw [← hs4] at hx h2 ho2
    obtain ⟨n5, hn5⟩ : ∃ n1 : Int, n1 = ((oneS s4).1 : Int) := ⟨_, rfl⟩
    have hc5 := hC _ _ _ (next_S l hl b hb s4 g4 p4 hp4 n5 hn5 a2 h2 o4 o2 ho4 ho2)
    obtain ⟨z, hz⟩ : ∃ z, F .ar .mul .i64 256 n4 = z := ⟨_, rfl⟩
    have q4 := oneS_lt s1
    have q5 := oneS_lt s4
    have ez : z = ((256 * (oneS s1).1 : Nat) : Int) := by
      rw [← hz, hF, hn4]
      exact (wrap_in (by omega) (by omega)).trans (by omega)
    obtain ⟨tt, htt⟩ : ∃ tt, F .ar .add .i64 z n5 = tt := ⟨_, rfl⟩
    have et : tt = ((256 * (oneS s1).1 + (oneS s4).1 : Nat) : Int) := by rw [← htt]; exact addF hF ez hn5 (by omega)
    rw [← et] at hx
    subst hx
    clear h2 ho2 h1 ho hp1 ho1 hp4 ho4 hn1 hn4 hn5 hs1 hs4 hk hmany end_ ez et
    cbv
    refine cF (j1) ?_
    cbv
    refine bT (j2) ?_
    cbv
    refine ⟨_, _, hc1, ?_⟩
    cbv
    refine ⟨hmz, ?_⟩
    cbv
    rw [hnd]
    refine bF (i1) ?_
    cbv
    refine bF (i4) ?_
    cbv
    refine bF (i5) ?_
    cbv
    refine bF (i6) ?_
    cbv
    refine bF (i7) ?_
    cbv
    refine bT (i11) ?_
    cbv
    refine ⟨_, _, hc4, ?_⟩
    cbv
    rw [hz]
    refine ⟨{ slots := [(7, .ptr 4 0), (6, .ptr 3 0), (0, .ptr 0 0)], obs := [(4, .box 58 [aI k', aI nd, aI z, aI 0, aI 0, aS (BA [])] false), (3, .box 58 [aI 0, aI 0, aI 0, aI 0, aI 0, aS (BA [])] true), (0, .box 90 [aS b, aI p4, aB o4] false)], ctr := 5, par := 3 }, (le_of [] (by simp [leSl, leOb, injK, memK, parK, noTup, lk, rn0, rnA, plain] <;> first | rfl | decide)), hY _ _ _ _ { slots := [(7, .ptr 4 0), (6, .ptr 3 0), (0, .ptr 0 0)], obs := [(4, .box 58 [aI k', aI nd, aI tt, aI 0, aI 0, aS (BA [])] false), (3, .box 58 [aI 0, aI 0, aI 0, aI 0, aI 0, aS (BA [])] true), (0, .box 90 [aS b, aI a2, aB o2] false)], ctr := 5, par := 3 } ?_ ?_⟩
    · cbv
      repeat' (first | refine And.intro ?_ ?_ | (refine ⟨_, _, hc5, ?_⟩; cbv) | (rw [htt]; exact (le_of [] (by simp [leSl, leOb, injK, memK, parK, noTup, lk, rn0, rnA, plain] <;> first | rfl | decide))) | trivial)
    · cbv
      simp
  rw [if_neg h11] at hx h2 ho2
  have i11 : F .cmp .eql k' 11 = false := by rw [i11]; exact decide_eq_false h11
  have e1 : a2 = p1 := by rw [h2, hp1]
  have e2 : o2 = o1 := by rw [ho2, ho1]
  subst e1 e2 hx
  by_cases h4 : k < 4
  · have j1 : F .cmp .lss k' 4 = true := by rw [j1]; exact decide_eq_true h4
    clear h1 h2 ho ho1 ho2 hp1 hn1 hs1 hk hmany hs g1 end_
    cbv
    refine cT (j1) ?_
    cbv
    refine ⟨_, _, hc1, ?_⟩
    cbv
    refine ⟨hmz, ?_⟩
    cbv
    rw [hnd]
    refine bF (i1) ?_
    cbv
    refine bF (i4) ?_
    cbv
    refine bF (i5) ?_
    cbv
    refine bF (i6) ?_
    cbv
    refine bF (i7) ?_
    cbv
    refine bF (i11) ?_
    cbv
    simp
  · have j1 : F .cmp .lss k' 4 = false := by rw [j1]; exact decide_eq_false h4
    have j2 : F .cmp .gtr k' 6 = true := by rw [j2]; exact decide_eq_true (by omega)
    clear h1 h2 ho ho1 ho2 hp1 hn1 hs1 hk hmany hs g1 end_
    cbv
    refine cF (j1) ?_
    cbv
    refine bT (j2) ?_
    cbv
    refine ⟨_, _, hc1, ?_⟩
    cbv
    refine ⟨hmz, ?_⟩
    cbv
    rw [hnd]
    refine bF (i1) ?_
    cbv
    refine bF (i4) ?_
    cbv
    refine bF (i5) ?_
    cbv
    refine bF (i6) ?_
    cbv
    refine bF (i7) ?_
    cbv
    refine bF (i11) ?_
    cbv
    simp
end Go.Proofs.YtfphhpabfeepmaaDoor
