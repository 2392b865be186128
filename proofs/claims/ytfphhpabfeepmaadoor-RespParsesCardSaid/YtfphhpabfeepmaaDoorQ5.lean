import Derived.Test.YtfphhpabfeepmaaDoorQ4
set_option linter.unusedSimpArgs false
set_option linter.unusedVariables false
namespace Go.Proofs.YtfphhpabfeepmaaDoor
open Go Go.RowKit Am

theorem txt_err {r : List UInt8} {n e : Nat} (h : txt r n = .err e) : e = 3 := by
  unfold txt at h
  split at h
  · cases h
  · split at h
    · cases h
    · split at h
      · injection h with h; exact h.symm
      · split at h
        · cases h
        · split at h
          · injection h with h; exact h.symm
          · cases h
theorem args_err : ∀ (n : Nat) (r : List UInt8) (e : Nat), argsR n r = .err e → e = 3 ∨ e = 4 := by
  intro n
  induction n with
  | zero => intro r e h; cases h
  | succ n ih =>
    intro r e h
    simp only [argsR] at h
    split at h
    · cases h
    · rename_i h1; injection h with h; rw [← h]; exact cnt_err h1
    · split at h
      · cases h
      · rename_i h1; injection h with h; rw [← h]; exact .inl (txt_err h1)
      · split at h
        · cases h
        · rename_i h1; injection h with h; rw [← h]; exact ih _ _ h1
        · cases h
theorem one_e1 {r : List UInt8} {e : Nat} (h : one r = .err e) : e ≠ 1 := by
  have : e = 3 ∨ e = 4 := by
    unfold one at h
    split at h
    · cases h
    · rename_i h1; injection h with h; rw [← h]; exact cnt_err h1
    · split at h
      · cases h
      · rename_i h1; injection h with h; rw [← h]; exact args_err _ _ _ h1
      · cases h
  omega
set_option maxHeartbeats 4000000 in
theorem rparse_ok (s : ByteArray) (l : List UInt8) (hs : l = L s) (hl : l.length ≤ 1000000) (outf : List (List AV)) (e2 : Int) (hout : outf = cR (P l).1) (he2 : e2 = ((P l).2.2 : Int)) :
    CSem Tryd.prog (.fn 21) [aS s] (.own 22 1 outf [aI e2]) := by
  refine of_text gam_ok mixed { n := 28, keep := [26] } Tryd.func21 (by kernel_rfl) rfl rfl (by simp) (by decide) fun F C D hF hC hD => ?_
  have t11 : F .cmp .eql 1 1 = true := by rw [eqF hF]; rfl
  have t01 : F .cmp .eql 0 1 = false := by rw [eqF hF]; rfl
  have t00 : F .cmp .neq 0 0 = false := by rw [neF hF]; rfl
  cbv
  refine ⟨Nat × Int × List (List (List UInt8)) × List (List AV), fun x => { slots := [(5, aI x.2.1), (4, .own 0 0), (0, aS s)], obs := [(0, .row 22 1 x.2.2.2 0 0)], ctr := 1 },
    fun x => x.2.1 = (x.1 : Int) ∧ x.1 ≤ l.length ∧ x.2.2.2 = cR x.2.2.1 ∧ x.2.2.1.length ≤ x.1 ∧ P l = (x.2.2.1 ++ (P (l.drop x.1)).1, (P (l.drop x.1)).2),
    fun x => l.length - x.1, ⟨(0, 0, [], []), ⟨rfl, Nat.zero_le _, rfl, Nat.le_refl _, by simp⟩, Le.trans (le_nil 4 22 1 (by rfl) (by rfl)) (le_of [] (by simp [leSl, leOb, injK, memK, parK, noTup, lk, rn0, rnA, plain] <;> first | rfl | decide))⟩, fun x hx => ?_⟩
  obtain ⟨a, a', o, oR⟩ := x
  obtain ⟨ea, ha, eoR, hol, hrec⟩ := hx
  simp only at ea ha eoR hol hrec
  cases h1 : one (l.drop a) with
  | more =>
    have hone := hC _ _ _ (rone_ok s l hs hl a a' ea ha [] 0 1 (fun _ => ⟨rfl, rfl, rfl⟩) (fun e h => by rw [h1] at h; cases h) (fun ts k h => by rw [h1] at h; cases h))
    rw [P_more h1] at hrec
    have g1 : outf = oR := by rw [hout, hrec, eoR]; simp
    have g2 : e2 = 0 := by rw [he2, hrec]; rfl
    subst g1 g2
    clear hrec hout he2
    cbv
    refine ⟨_, hone, ?_⟩
    cbv
    refine bT (t11) ?_
    cbv
    simp
  | err e =>
    have hz := one_nz h1
    have hn1 : e ≠ 1 := one_e1 h1
    obtain ⟨e', he'⟩ : ∃ e' : Int, e' = (e : Int) := ⟨_, rfl⟩
    have hone := hC _ _ _ (rone_ok s l hs hl a a' ea ha [] 0 e' (fun h => by rw [h1] at h; cases h) (fun e h => by rw [h1] at h; injection h with h; subst h; exact ⟨rfl, rfl, he'⟩) (fun ts k h => by rw [h1] at h; cases h))
    rw [P_err h1] at hrec
    have g1 : outf = oR := by rw [hout, hrec, eoR]; simp
    have g2 : e2 = e' := by rw [he2, hrec, he']
    have t1 : F .cmp .eql e' 1 = false := by rw [eqF hF, he']; simp; omega
    have t2 : F .cmp .neq e' 0 = true := by rw [neF hF, he']; simp; omega
    subst g1 g2
    clear hrec hout he2
    cbv
    refine ⟨_, hone, ?_⟩
    cbv
    refine bF (t1) ?_
    cbv
    refine bT (t2) ?_
    cbv
    simp
  | ok ts k =>
    have hk := one_pos h1
    have hk2 := one_le h1
    rw [List.length_drop] at hk2
    obtain ⟨a2, ha2⟩ : ∃ a2 : Int, a2 = ((a + k : Nat) : Int) := ⟨_, rfl⟩
    obtain ⟨tR, htR⟩ : ∃ r, r = sR ts := ⟨_, rfl⟩
    have hone := hC _ _ _ (rone_ok s l hs hl a a' ea ha tR a2 0 (fun h => by rw [h1] at h; cases h) (fun e h => by rw [h1] at h; cases h) (fun ts k h => by rw [h1] at h; injection h with h3 h4; subst h3 h4; exact ⟨htR, ha2, rfl⟩))
    rw [P_step h1, List.drop_drop] at hrec
    obtain ⟨o2, ho2⟩ : ∃ o2, F .app oR [[.sl tR]] = o2 := ⟨_, rfl⟩
    have eo2 : o2 = cR (o ++ [ts]) := by rw [← ho2, hF, eoR, htR]; simp [sy, cR]
    have hrm : (F .len oR + F .len [[AV.sl tR]]) * 24 ≤ 140737488355328 := by rw [lenF hF, lenF hF, eoR, cR_len]; simp; omega
    have hel : ∀ r ∈ [[AV.sl tR]], r.length = 1 := fun r h => by rw [List.mem_singleton.1 h]; rfl
    cbv
    refine ⟨_, hone, ?_⟩
    cbv
    refine bF (t01) ?_
    cbv
    refine bF (t00) ?_
    cbv
    refine ⟨hel, hrm, ?_⟩
    cbv
    rw [ho2]
    exact ⟨(a + k, a2, o ++ [ts], o2), ⟨ha2, by simp only; omega, eo2, by simp only [List.length_append, List.length_singleton]; omega, by simp only; rw [hrec]; simp⟩, (show l.length - (a + k) < l.length - a by omega), (le_of [(0, 1)] (by simp [leSl, leOb, injK, memK, parK, noTup, lk, rn0, rnA, plain] <;> first | rfl | decide))⟩
end Go.Proofs.YtfphhpabfeepmaaDoor
