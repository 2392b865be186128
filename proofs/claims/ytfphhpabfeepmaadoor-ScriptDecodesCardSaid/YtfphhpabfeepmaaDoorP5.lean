import Derived.Test.YtfphhpabfeepmaaDoorP4
set_option linter.unusedSimpArgs false
set_option linter.unusedVariables false
namespace Go.Proofs.YtfphhpabfeepmaaDoor
open Go Go.RowKit Am

/-! ### A command -/
def cmdL (l : List UInt8) : Nat → Sc → List (List UInt8) → Sc × List (List UInt8)
  | 0, s, out => (s, out)
  | k + 1, s, out => if stp s then (s, out) else cmdL l k (txtS l (cntS l 36 0 64 s).2 (cntS l 36 0 64 s).1).1 (out ++ [(txtS l (cntS l 36 0 64 s).2 (cntS l 36 0 64 s).1).2])
def cmdS (l : List UInt8) (s : Sc) : Sc × List (List UInt8) := cmdL l (cntS l 42 1 8 s).2 (cntS l 42 1 8 s).1 []
theorem cmdL_le {l : List UInt8} : ∀ (k : Nat) (s : Sc) (out : List (List UInt8)), s.a ≤ l.length → (cmdL l k s out).1.a ≤ l.length := by
  intro k
  induction k with
  | zero => intro s out h; exact h
  | succ k ih =>
    intro s out h
    unfold cmdL
    split
    · exact h
    · exact ih _ _ (txtS_le (cntS_le h))
theorem cmdS_le {l : List UInt8} {s : Sc} (h : s.a ≤ l.length) : (cmdS l s).1.a ≤ l.length := cmdL_le _ _ _ (cntS_le h)
theorem stp_ns {a : Nat} {m : Bool} {e : Int} (h : ¬ stp ⟨a, m, e⟩) : m = false ∧ e = 0 := by
  refine ⟨?_, ?_⟩
  · cases m; rfl; exact absurd (.inl rfl) h
  · by_cases h0 : e = 0
    · exact h0
    · exact absurd (.inr h0) h
set_option maxHeartbeats 1000000 in
theorem command_ok (l : List UInt8) (hl : l.length ≤ 1000000) (rows : List (List AV)) (hrows : rows = byR l) (s : Sc) (hle : s.a ≤ l.length) (s0 : Int) (hs0 : s0 = (s.a : Int)) (m0 : Bool) (hm0 : m0 = s.m) (e0 : Int) (he0 : e0 = s.e) (b : Int) (m2 : Bool) (e2 : Int) (outf : List (List AV))
    (hb : b = ((cmdS l s).1.a : Int)) (hm2 : m2 = (cmdS l s).1.m) (he2 : e2 = (cmdS l s).1.e) (ho : outf = sR (cmdS l s).2) :
    CSem Tryd.prog (.wr 41 (SO rows s0 m0 e0) (SO rows b m2 e2)) [.ptr 0 0] (.own 9 1 outf []) := by
  refine of_textW gam_ok mixed { n := 21, wrs := [42, 60, 61], keep := [18] } Tryd.func41 (by kernel_rfl) rfl rfl (by simp) (by decide) rfl fun F C D hF hC hD => ?_
  have hcnt := hC _ _ _ (count_S l hl rows hrows 42 1 8 s hle)
  rw [← hs0, ← hm0, ← he0] at hcnt
  have hle1 := cntS_le (c := 42) (lo := 1) (hi := 8) hle
  have hn1 := cntS_lt l 42 1 8 s
  unfold cmdS at hb hm2 he2 ho
  obtain ⟨⟨⟨a1, m1, e1⟩, N⟩, hp⟩ : ∃ p, cntS l 42 1 8 s = p := ⟨_, rfl⟩
  rw [hp] at hcnt hle1 hn1 hb hm2 he2 ho
  simp only at hcnt hle1 hn1 hb hm2 he2 ho
  obtain ⟨N', hN⟩ : ∃ N' : Int, N' = (N : Int) := ⟨_, rfl⟩
  obtain ⟨a1', ha1⟩ : ∃ a1' : Int, a1' = (a1 : Int) := ⟨_, rfl⟩
  rw [← hN, ← ha1] at hcnt
  obtain ⟨⟨⟨af, mf, ef⟩, of⟩, hf⟩ : ∃ p, cmdL l N ⟨a1, m1, e1⟩ [] = p := ⟨_, rfl⟩
  rw [hf] at hb hm2 he2 ho
  simp only at hb hm2 he2 ho
  subst hm2 he2
  clear hs0 hm0 he0 hp
  cbv
  refine ⟨_, _, hcnt, ?_⟩
  cbv
  refine ⟨Nat × Int × Nat × Int × Bool × Int × List (List UInt8) × List (List AV), fun x => { slots := [(7, aI x.2.1), (6, aI N'), (3, .own 1 0), (0, .ptr 0 0)], obs := (1, .row 9 1 x.2.2.2.2.2.2.2 0 0) :: SO rows x.2.2.2.1 x.2.2.2.2.1 x.2.2.2.2.2.1, ctr := 2, par := 1 },
    fun x => x.2.1 = (x.1 : Int) ∧ x.1 ≤ N ∧ x.2.2.2.1 = (x.2.2.1 : Int) ∧ x.2.2.1 ≤ l.length ∧ x.2.2.2.2.2.2.2 = sR x.2.2.2.2.2.2.1 ∧ x.2.2.2.2.2.2.1.length = x.1 ∧ cmdL l (N - x.1) ⟨x.2.2.1, x.2.2.2.2.1, x.2.2.2.2.2.1⟩ x.2.2.2.2.2.2.1 = (⟨af, m2, e2⟩, of),
    fun x => N - x.1, ⟨(0, 0, a1, a1', m1, e1, [], []), ⟨rfl, Nat.zero_le _, ha1, hle1, rfl, rfl, hf⟩, Le.trans (le_nil 3 9 1 (by rfl) (by rfl)) (le_of [] (by simp [leSl, leOb, injK, memK, parK, noTup, lk, rn0, rnA, plain] <;> first | rfl | decide))⟩, fun x hx => ?_⟩
  obtain ⟨i, i', a, a', m, e, o, oR⟩ := x
  obtain ⟨ei, hi, ea, hale, eo, hol, hrec⟩ := hx
  simp only at ei hi ea hale eo hol hrec
  have hN : N' = (N : Int) := hN
  have hb : b = (af : Int) := hb
  have tl := ltF hF i N i' N' ei hN
  obtain ⟨i2, hi2⟩ : ∃ i2, F .ar .add .i64 i' 1 = i2 := ⟨_, rfl⟩
  have ei2 : i2 = ((i + 1 : Nat) : Int) := hi2.symm.trans (incF hF ei (by omega))
  obtain ⟨st, hst⟩ : ∃ st : Bool, st = (m || decide (e ≠ 0)) := ⟨_, rfl⟩
  have hstop := hC _ _ _ (stopped_ok rows a' m e st hst)
  have hcnt2 := hC _ _ _ (count_S l hl rows hrows 36 0 64 ⟨a, m, e⟩ hale)
  simp only at hcnt2
  rw [← ea] at hcnt2
  have hle2 := cntS_le (c := 36) (lo := 0) (hi := 64) (l := l) (s := ⟨a, m, e⟩) hale
  have hlt2 := cntS_lt l 36 0 64 ⟨a, m, e⟩
  have htx := fun (p : Sc × Nat) (h : p.1.a ≤ l.length) (h2 : p.2 < 1000000) => hC _ _ _ (text_S l hl rows hrows p.2 (by omega) p.1 h)
  have htx2 := htx _ hle2 hlt2
  have hle3 := txtS_le (l := l) (n := (cntS l 36 0 64 ⟨a, m, e⟩).2) hle2
  have hstep : stp ⟨a, m, e⟩ → a = af ∧ m = m2 ∧ e = e2 ∧ o = of := fun h => by
    by_cases hz : N - i = 0
    · rw [hz] at hrec; simp only [cmdL, Prod.mk.injEq, Sc.mk.injEq] at hrec; exact ⟨hrec.1.1, hrec.1.2.1, hrec.1.2.2, hrec.2⟩
    · obtain ⟨k, hk⟩ : ∃ k, N - i = k + 1 := ⟨N - i - 1, by omega⟩
      rw [hk] at hrec
      unfold cmdL at hrec
      rw [if_pos h] at hrec
      simp only [Prod.mk.injEq, Sc.mk.injEq] at hrec
      exact ⟨hrec.1.1, hrec.1.2.1, hrec.1.2.2, hrec.2⟩
  have hnext : ¬ stp ⟨a, m, e⟩ → i < N → cmdL l (N - (i + 1)) (txtS l (cntS l 36 0 64 ⟨a, m, e⟩).2 (cntS l 36 0 64 ⟨a, m, e⟩).1).1 (o ++ [(txtS l (cntS l 36 0 64 ⟨a, m, e⟩).2 (cntS l 36 0 64 ⟨a, m, e⟩).1).2]) = (⟨af, m2, e2⟩, of) := fun h hlt => by
    obtain ⟨k, hk⟩ : ∃ k, N - i = k + 1 := ⟨N - i - 1, by omega⟩
    rw [hk] at hrec
    unfold cmdL at hrec
    rw [if_neg h] at hrec
    rw [show N - (i + 1) = k by omega]
    exact hrec
  have hend : ¬ i < N → a = af ∧ m = m2 ∧ e = e2 ∧ o = of := fun h => by
    rw [show N - i = 0 by omega] at hrec; simp only [cmdL, Prod.mk.injEq, Sc.mk.injEq] at hrec; exact ⟨hrec.1.1, hrec.1.2.1, hrec.1.2.2, hrec.2⟩
  obtain ⟨⟨⟨a2, mm2, ee2⟩, k2⟩, hp2⟩ : ∃ p, cntS l 36 0 64 ⟨a, m, e⟩ = p := ⟨_, rfl⟩
  rw [hp2] at hcnt2 htx2 hle3 hnext
  simp only at hcnt2 htx2 hle3 hnext
  obtain ⟨⟨⟨a3, m3, e3⟩, tx⟩, hp3⟩ : ∃ p, txtS l k2 ⟨a2, mm2, ee2⟩ = p := ⟨_, rfl⟩
  rw [hp3] at htx2 hle3 hnext
  simp only at htx2 hle3 hnext
  obtain ⟨k2', hk2'⟩ : ∃ k2' : Int, k2' = (k2 : Int) := ⟨_, rfl⟩
  obtain ⟨a2', ha2'⟩ : ∃ a2' : Int, a2' = (a2 : Int) := ⟨_, rfl⟩
  obtain ⟨a3', ha3'⟩ : ∃ a3' : Int, a3' = (a3 : Int) := ⟨_, rfl⟩
  obtain ⟨ts, hts⟩ : ∃ ts, ts = BA tx := ⟨_, rfl⟩
  rw [← hk2', ← ha2'] at hcnt2
  rw [← hk2', ← ha2', ← ha3', ← hts] at htx2
  obtain ⟨o2, ho2⟩ : ∃ o2, F .app oR [[aS ts]] = o2 := ⟨_, rfl⟩
  have eo2 : o2 = sR (o ++ [tx]) := by rw [← ho2, hF, eo, hts]; simp [sy, sR]
  have hrm : (F .len oR + F .len [[aS ts]]) * 16 ≤ 140737488355328 := by rw [lenF hF, lenF hF, eo, sR_len, hol]; simp; omega
  have hel : ∀ r ∈ [[aS ts]], r.length = 1 := fun r h => by rw [List.mem_singleton.1 h]; rfl
  have hstT : st = true → stp ⟨a, m, e⟩ := fun h => stop_iff.1 (hst.symm.trans h)
  have hstF : st = false → ¬ stp ⟨a, m, e⟩ := fun h h2 => by have := stop_iff.2 h2; rw [← hst, h] at this; cases this
  clear hst htx hp2 hp3 hrec
  have fin : (a = af ∧ m = m2 ∧ e = e2 ∧ o = of) → a' = b ∧ m = m2 ∧ e = e2 ∧ oR = outf := fun h => ⟨by omega, h.2.1, h.2.2.1, by rw [eo, ho, h.2.2.2]⟩
  cbv
  refine br (fun h => ?_) (fun h => ?_) <;> cbv
  · have hlt := tl.1 h
    refine ⟨_, _, hstop, ?_⟩
    cbv
    refine br (fun z => ?_) (fun z => ?_) <;> cbv
    · obtain ⟨f1, f2, f3, f4⟩ := fin (hstep (hstT z))
      subst f1 f2 f3 f4
      simp
    · have hns := hstF z
      refine ⟨_, _, hcnt2, ?_⟩
      cbv
      refine ⟨_, _, htx2, ?_⟩
      cbv
      refine ⟨hel, hrm, ?_⟩
      cbv
      rw [ho2, hi2]
      exact ⟨(i + 1, i2, a3, a3', m3, e3, o ++ [tx], o2), ⟨ei2, hlt, ha3', hle3, eo2, by simp [hol], hnext hns hlt⟩, (show N - (i + 1) < N - i by omega), (le_of [(1, 2)] (by simp [leSl, leOb, injK, memK, parK, noTup, lk, rn0, rnA, plain] <;> first | rfl | decide))⟩
  · obtain ⟨f1, f2, f3, f4⟩ := fin (hend (nfB tl h))
    subst f1 f2 f3 f4
    simp
end Go.Proofs.YtfphhpabfeepmaaDoor
