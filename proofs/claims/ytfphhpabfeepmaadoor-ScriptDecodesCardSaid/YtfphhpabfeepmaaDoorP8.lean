import Derived.Test.YtfphhpabfeepmaaDoorP7
set_option linter.unusedSimpArgs false
set_option linter.unusedVariables false
namespace Go.Proofs.YtfphhpabfeepmaaDoor
open Go Go.RowKit Am

/-- The row that a call hands back, taken as something that stays as it is. -/
theorem fn_frz {f e sz : Nat} {args rest : List AV} {rows : List (List AV)} (h : CSem Tryd.prog (.fn f) args (.own e sz rows rest)) : CSem Tryd.prog (.fn f) args (.pure (.sl rows :: rest)) := by
  refine ⟨h.1, fun w S xs hS hgd hx => (h.2 w S xs hS hgd hx).mono ?_⟩
  rintro ex w' ⟨y, S', rfl, hg, z, ys, zs, hy, hown, hr, hl, hSz, hrest, hm⟩
  have hblk : ∀ g, z.ownBlock = some g → w.heap.size ≤ g ∧ g < w'.heap.size := fun g hg => hown.lt g hg
  have hm2 : SameOn S' w' w' := fun _ _ => rfl
  have hsub : ∀ g, S' g → (S' g ∨ z.ownBlock = some g) := fun _ h => Or.inl h
  refine ⟨y, fun g => S' g ∨ z.ownBlock = some g, rfl, ⟨hg.below, fun g h => .inl (hg.sub g h), fun g h => ?_, fun g h => ?_⟩, z :: ys, hy, Reps.cons (.c (repc_of_own hown (hr.mono hm2 hsub) hl (fun g h => Or.inr h))) (hrest.mono hm2 hsub)⟩
  · rcases h with h | h
    · exact hg.new g h
    · exact .inr (hblk g h).1
  · rcases h with h | h
    · exact hg.lt g h
    · exact (hblk g h).2
def pars : Nat → List UInt8 → List (List (List UInt8)) → List (List (List UInt8)) × List UInt8 × Nat
  | 0, r, o => (o, r, 0)
  | n + 1, r, o => match one r with
    | .more => (o, r, 0)
    | .err e => (o, r, e)
    | .ok ts k => pars n (r.drop k) (o ++ [ts])
theorem cnt_pos {r : List UInt8} {s lo hi n k : Nat} (h : cnt r s lo hi = .ok n k) : 0 < k := by
  unfold cnt at h
  split at h
  · cases h
  · split at h
    · cases h
    · split at h
      · cases h
      · split at h
        · cases h
        · split at h
          · cases h
          · split at h
            · cases h
            · split at h
              · cases h
              · injection h with _ h; omega
theorem one_pos {r : List UInt8} {ts : List (List UInt8)} {k : Nat} (h : one r = .ok ts k) : 0 < k := by
  unfold one at h
  split at h
  · cases h
  · cases h
  · rename_i n k1 h1
    have := cnt_pos h1
    split at h
    · cases h
    · cases h
    · injection h with _ h; omega
theorem one_le {r : List UInt8} {ts : List (List UInt8)} {k : Nat} (h : one r = .ok ts k) : k ≤ r.length := by
  have := one_says r
  rw [h] at this
  have h2 := cmdS_le (l := r) (s := ⟨0, false, 0⟩) (Nat.zero_le _)
  have h3 := this.2.2.1
  omega
set_option maxHeartbeats 1000000 in
theorem feed_ok (l0 l1 : List UInt8) (hl : (l0 ++ l1).length ≤ 1000000) (left rows : List (List AV)) (hleft : left = byR l0) (hrows : rows = byR l1) (cs : List (List (List UInt8))) (rl : List UInt8) (e : Nat) (hp : pars ((l0 ++ l1).length + 1) (l0 ++ l1) [] = (cs, rl, e)) (rest outf : List (List AV)) (hrest : rest = byR rl) (ho : outf = cR cs) (e' : Int) (he : e' = (e : Int)) :
    CSem Tryd.prog (.wr 20 (PO left 0) (PO rest e')) [.ptr 0 0, .sl rows] (.own 22 1 outf [aI e']) := by
  refine of_textW gam_ok mixed { n := 68, wrs := [41, 42], keep := [35, 55] } Tryd.func20 (by kernel_rfl) rfl rfl (by simp) (by decide) rfl fun F C D hF hC hD => ?_
  have t1 : F .cmp .neq 0 0 = false := by rw [neF hF]; simp
  obtain ⟨all, hall⟩ : ∃ all, all = byR (l0 ++ l1) := ⟨_, rfl⟩
  have hcon := hC _ _ _ (fn_frz (concat_ok [l0, l1] (by simpa using hl) (by simp) [[.sl left], [.sl rows]] (by rw [hleft, hrows]; rfl) all (by rw [hall]; simp)))
  obtain ⟨N, hN⟩ : ∃ N, (l0 ++ l1).length = N := ⟨_, rfl⟩
  rw [hN] at hp hl
  clear hleft hrows
  cbv
  refine ⟨hC _ _ _ nilp34, ?_⟩
  cbv
  refine bF (t1) ?_
  cbv
  refine ⟨_, hcon, ?_⟩
  cbv
  refine ⟨Nat × List UInt8 × List (List AV) × List (List (List UInt8)) × List (List AV), fun x => { slots := [(6, .own 2 0), (0, .ptr 0 0)], obs := (2, .row 22 1 x.2.2.2.2 0 0) :: PO x.2.2.1 0, ctr := 3, par := 2 },
    fun x => x.2.1.length < x.1 ∧ x.2.1.length ≤ 1000000 ∧ x.2.2.1 = byR x.2.1 ∧ x.2.2.2.2 = cR x.2.2.2.1 ∧ x.2.2.2.1.length + x.2.1.length ≤ 1000000 ∧ pars x.1 x.2.1 x.2.2.2.1 = (cs, rl, e),
    fun x => x.2.1.length, ⟨(N + 1, l0 ++ l1, all, [], []), ⟨by simp only; omega, by simp only; omega, hall, rfl, by simp only [List.length_nil]; omega, hp⟩, Le.trans (le_nil 6 22 1 (by rfl) (by rfl)) (le_of [] (by simp [leSl, leOb, injK, memK, parK, noTup, lk, rn0, rnA, plain] <;> first | rfl | decide))⟩, fun x hx => ?_⟩
  obtain ⟨n, r, rR, o, oR⟩ := x
  obtain ⟨hn, hr, er, eo, hcap, hrec⟩ := hx
  simp only at hn hr er eo hcap hrec
  have hone := one_says r
  have hale := cmdS_le (l := r) (s := ⟨0, false, 0⟩) (Nat.zero_le _)
  have hle1 : ∀ ts k, one r = .ok ts k → k ≤ r.length := fun ts k h => one_le h
  obtain ⟨⟨⟨a, m, es⟩, cm⟩, hcm⟩ : ∃ p, cmdS r ⟨0, false, 0⟩ = p := ⟨_, rfl⟩
  obtain ⟨a', ha'⟩ : ∃ a' : Int, a' = (a : Int) := ⟨_, rfl⟩
  obtain ⟨cR1, hcR1⟩ : ∃ c, c = sR cm := ⟨_, rfl⟩
  have hcmd := hC _ _ _ (wr_frz (command_ok r hr rR er ⟨0, false, 0⟩ (Nat.zero_le _) 0 rfl false rfl 0 rfl a' m es cR1 (by rw [hcm]; exact ha') (by rw [hcm]) (by rw [hcm]) (by rw [hcm]; exact hcR1)))
  rw [hcm] at hone hale
  simp only at hone hale
  obtain ⟨st, hst⟩ : ∃ st : Bool, st = (m || decide (es ≠ 0)) := ⟨_, rfl⟩
  have hstop := hC _ _ _ (stopped_ok rR a' m es st hst)
  have hsay := hone.stp
  have hstT : st = true → outf = oR ∧ rest = rR ∧ e' = es := fun h => by
    have h2 := hsay.1 (stop_iff.1 (hst.symm.trans h))
    obtain ⟨n', rfl⟩ : ∃ n', n = n' + 1 := ⟨n - 1, by omega⟩
    unfold pars at hrec
    cases h1 : one r with
    | more => rw [h1] at hrec hone; simp only [Prod.mk.injEq] at hrec; exact ⟨by rw [ho, eo, hrec.1], by rw [hrest, er, hrec.2.1], by rw [he, ← hrec.2.2]; exact hone.2.symm⟩
    | err e0 => rw [h1] at hrec hone; simp only [Prod.mk.injEq] at hrec; exact ⟨by rw [ho, eo, hrec.1], by rw [hrest, er, hrec.2.1], by rw [he, ← hrec.2.2]; exact hone.2.1.symm⟩
    | ok ts k => exact absurd h1 (h2 ts k)
  have hstF : st = false → ∃ n', n = n' + 1 ∧ 0 < a ∧ a ≤ r.length ∧ pars n' (r.drop a) (o ++ [cm]) = (cs, rl, e) := fun h => by
    obtain ⟨n', rfl⟩ : ∃ n', n = n' + 1 := ⟨n - 1, by omega⟩
    unfold pars at hrec
    cases h1 : one r with
    | more => rw [h1] at hone; have := stop_iff.2 (show stp ⟨a, m, es⟩ from .inl hone.1); rw [← hst, h] at this; cases this
    | err e0 => rw [h1] at hone; have := stop_iff.2 (show stp ⟨a, m, es⟩ from .inr (by have h1 := hone.2.1; have h2 := hone.2.2; simp only at h1 ⊢; omega)); rw [← hst, h] at this; cases this
    | ok ts k =>
      rw [h1] at hrec hone
      have h3 := one_pos h1
      have h4 := one_le h1
      have h5 : a = 0 + k := hone.2.2.1
      have h6 : cm = ts := hone.2.2.2
      refine ⟨n', rfl, by omega, by omega, ?_⟩
      rw [h5, h6, Nat.zero_add]
      exact hrec
  obtain ⟨o2, ho2⟩ : ∃ o2, F .app oR [[.sl cR1]] = o2 := ⟨_, rfl⟩
  have eo2 : o2 = cR (o ++ [cm]) := by rw [← ho2, hF, eo, hcR1]; simp [sy, cR]
  have hrm : (F .len oR + F .len [[AV.sl cR1]]) * 24 ≤ 140737488355328 := by rw [lenF hF, lenF hF, eo, cR_len]; simp; omega
  have hel : ∀ r ∈ [[AV.sl cR1]], r.length = 1 := fun r h => by rw [List.mem_singleton.1 h]; rfl
  have hele : ∀ x ∈ rR, x.length = 1 := by rw [er]; exact byR_one r
  obtain ⟨nl, hnl⟩ : ∃ nl, F .len rR = nl := ⟨_, rfl⟩
  have en : nl = (r.length : Int) := by rw [← hnl, lenF hF, er, byR_len]
  clear hst hone hsay hcm hrec
  cbv
  refine ⟨_, _, hcmd, ?_⟩
  cbv
  refine ⟨_, _, hstop, ?_⟩
  cbv
  refine br (fun z => ?_) (fun z => ?_) <;> cbv
  · obtain ⟨f1, f2, f3⟩ := hstT z
    subst f1 f2 f3
    refine ⟨hC _ _ _ (ben_ok (by kernel_rfl)), ?_⟩
    simp
  · obtain ⟨n', f1, f2, f3, f4⟩ := hstF z
    refine ⟨hel, hrm, ?_⟩
    cbv
    rw [ho2]
    refine ⟨hC _ _ _ (ben_ok (by kernel_rfl)), ?_⟩
    cbv
    obtain ⟨rs, hrs⟩ : ∃ rs, rs = (rR.drop a).take (r.length - a) := ⟨_, rfl⟩
    have hrs2 : rs = byR (r.drop a) := by
      rw [hrs, er, List.take_of_length_le (by rw [List.length_drop, byR_len]; exact Nat.le_refl _)]
      simp [byR, List.map_drop]
    have ha2 : a' = (a : Int) := ha'
    refine ⟨a, r.length, by rw [ha2]; rfl, by rw [hnl]; exact en.symm, f3, by rw [hnl, en]; exact Int.le_refl _, hele, rs, hrs, ?_⟩
    cbv
    refine ⟨(n', r.drop a, rs, o ++ [cm], o2), ⟨?_, ?_, hrs2, eo2, ?_, f4⟩, ?_, (le_of [(2, 4)] (by simp [leSl, leOb, injK, memK, parK, noTup, lk, rn0, rnA, plain] <;> first | rfl | decide))⟩
    · simp only [List.length_drop]; omega
    · simp only [List.length_drop]; omega
    · simp only [List.length_drop, List.length_append, List.length_singleton]; omega
    · show (r.drop a).length < r.length
      simp only [List.length_drop]; omega
end Go.Proofs.YtfphhpabfeepmaaDoor
