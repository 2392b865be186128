import Derived.Test.YtdmdahnnfancpaaO3
set_option linter.unusedSimpArgs false
set_option linter.unusedVariables false
namespace Go.Proofs.Ytdmdahnnfancpaa
open Go Go.RowKit Am

/-! ### score.Rank -/
theorem is_ok (p : Pr) (s : ByteArray) (r : Bool) (hr : r = decide (p.m = s)) : CSem Try.prog (.fn 47) [.agg [aS p.m, aI p.n], .ept [aS s] 0] (.pure [aB r]) := by
  refine of_text gam_ok mixed { n := 8 } Try.func47 (by kernel_rfl) rfl rfl (by simp) (by decide) fun F C D hF hC hD => ?_
  have h := seqF hF p.m s
  rw [← hr] at h
  clear hr
  cbv
  have h : F .scmp .eql p.1 s = r := h
  simp [h]
def ixP (P : List Pr) (s : ByteArray) : Option Nat := P.findIdx? fun p => decide (p.m = s)
theorem idx_ok (P : List Pr) (hl : P.length ≤ 1000000) (rows : List (List AV)) (hrows : rows = pR P) (s : ByteArray) (r : Int) (h1 : ∀ i, ixP P s = some i → r = (i : Int)) (h2 : ixP P s = none → r = -1) : CSem Try.prog (.fn 46) [.sl rows, .clo 47 [.ept [aS s] 0]] (.pure [aI r]) := by
  refine of_text gam_ok mixed { n := 19 } Try.func46 (by kernel_rfl) rfl rfl (by simp) (by decide) fun F C D hF hC hD => ?_
  obtain ⟨n', hn'⟩ : ∃ n' : Int, F .len rows = n' := ⟨_, rfl⟩
  have en : n' = (P.length : Int) := by rw [← hn', lenF hF, hrows, pR_len]
  cbv
  rw [hn']
  refine ⟨Nat × Int, fun x => { slots := [(8, aI x.2), (7, aI n'), (4, aI 0), (1, .clo 47 [.ept [aS s] 0]), (0, .sl rows)], obs := [], ctr := 0 }, fun x => x.2 = (x.1 : Int) ∧ x.1 ≤ P.length ∧ ∀ j p, j < x.1 → P[j]? = some p → ¬ p.m = s, fun x => P.length - x.1, ⟨(0, 0), ⟨rfl, Nat.zero_le _, fun j p h => by omega⟩, (le_of [] (by simp [leSl, leOb, injK, memK, parK, noTup, lk, rn0, rnA, plain] <;> first | rfl | decide))⟩, fun x hx => ?_⟩
  obtain ⟨i, i'⟩ := x
  obtain ⟨ei, hi, hno⟩ := hx
  simp only at ei hi hno
  have en : n' = (P.length : Int) := en
  have tl := ltF hF i P.length i' n' ei en
  obtain ⟨i2, hi2⟩ : ∃ i2, F .ar .add .i64 i' 1 = i2 := ⟨_, rfl⟩
  have ei2 : i2 = ((i + 1 : Nat) : Int) := hi2.symm.trans (incF hF ei (by omega))
  by_cases hil : i < P.length
  · have tl : F .cmp .lss i' n' = true := tl.2 hil
    obtain ⟨p, hp⟩ : ∃ s, P[i]? = some s := ⟨_, List.getElem?_eq_getElem hil⟩
    have hrow : rows[i]? = some [aS p.m, aI p.n] := by rw [hrows]; exact pR_get hp
    have hmu : P.length - (i + 1) < P.length - i := by omega
    obtain ⟨q, hq⟩ : ∃ q, q = decide (p.m = s) := ⟨_, rfl⟩
    have hc := hC _ _ _ (is_ok p s q hq)
    by_cases hs : p.m = s
    · have hq : q = true := by rw [hq]; exact decide_eq_true hs
      have hr : r = i' := by
        rw [ei]
        refine h1 i ?_
        unfold ixP
        rw [List.findIdx?_eq_some_iff_getElem]
        obtain ⟨g1, g2⟩ := List.getElem?_eq_some_iff.1 hp
        refine ⟨g1, by rw [g2]; exact decide_eq_true hs, fun j hj => ?_⟩
        have := hno j _ hj (List.getElem?_eq_getElem (by omega))
        simpa using this
      subst hr hq
      clear h1 h2 hno
      cbv
      refine bT (tl) ?_
      cbv
      refine ⟨i, _, ei, hrow, rfl, ?_⟩
      cbv
      refine ⟨_, hc, ?_⟩
      cbv
      refine bT (rfl) ?_
      cbv
      try simp
    · have hq : q = false := by rw [hq]; exact decide_eq_false hs
      have hno2 : ∀ j p, j < i + 1 → P[j]? = some p → ¬ p.m = s := fun j p' hj h => by
        by_cases hji : j < i
        · exact hno j p' hji h
        · have : j = i := by omega
          rw [this, hp] at h; injection h with h; rw [← h]; exact hs
      subst hq
      clear h1 h2 hno
      cbv
      refine bT (tl) ?_
      cbv
      refine ⟨i, _, ei, hrow, rfl, ?_⟩
      cbv
      refine ⟨_, hc, ?_⟩
      cbv
      refine bF (rfl) ?_
      cbv
      rw [hi2]
      exact ⟨(i + 1, i2), ⟨ei2, hil, hno2⟩, hmu, (le_of [] (by simp [leSl, leOb, injK, memK, parK, noTup, lk, rn0, rnA, plain] <;> first | rfl | decide))⟩
  · have tl : F .cmp .lss i' n' = false := by cases h : F .cmp .lss i' n' with | true => exact absurd (tl.1 h) hil | false => rfl
    have hr : r = -1 := by
      refine h2 ?_
      unfold ixP
      rw [List.findIdx?_eq_none_iff]
      intro p hp
      obtain ⟨j, hj, hje⟩ := List.getElem_of_mem hp
      have := hno j p (by omega) (by rw [List.getElem?_eq_getElem hj, hje])
      simpa using this
    subst hr
    clear h1 h2 hno
    cbv
    refine bF (tl) ?_
    cbv
    try simp
theorem rank_ok (l : List Ev) (hl : l.length ≤ 1000000) (rows : List (List AV)) (hrows : rows = evR l) (s : ByteArray) (k : Int) (q : Bool) (h1 : ∀ i, ixP (allS l) s = some i → k = (i : Int) ∧ q = true) (h2 : ixP (allS l) s = none → k = 0 ∧ q = false) : CSem Try.prog (.fn 19) [.sl rows, aS s] (.pure [aI k, aB q]) := by
  refine of_text gam_ok mixed { n := 15 } Try.func19 (by kernel_rfl) rfl rfl (by simp) (by decide) fun F C D hF hC hD => ?_
  obtain ⟨A, hA⟩ : ∃ A, A = pR (allS l) := ⟨_, rfl⟩
  have hall := hC _ _ _ (all_ok l hl rows hrows A hA)
  have hle := allS_le l
  obtain ⟨r, hr1, hr2, hk, hq⟩ : ∃ r : Int, (∀ i, ixP (allS l) s = some i → r = (i : Int)) ∧ (ixP (allS l) s = none → r = -1) ∧ mxI r 0 = k ∧ decide (r ≥ 0) = q := by
    cases h : ixP (allS l) s with
    | none => exact ⟨-1, fun i e => (by cases e), fun _ => rfl, by rw [(h2 h).1]; decide, by rw [(h2 h).2]; rfl⟩
    | some i => exact ⟨(i : Int), fun j e => (by injection e with e; rw [e]), fun e => (by cases e), by rw [(h1 i h).1]; unfold mxI; split <;> omega, by rw [(h1 i h).2]; exact decide_eq_true (by omega)⟩
  have hix := hC _ _ _ (idx_ok (allS l) (by omega) A hA s r hr1 hr2)
  have t1 : F .mx r 0 = k := (mxF hF r 0).trans hk
  have t2 : F .cmp .geq r 0 = q := (geF hF r 0).trans hq
  clear h1 h2 hr1 hr2 hA hk hq
  cbv
  refine ⟨_, hall, ?_⟩
  cbv
  refine ⟨_, hix, ?_⟩
  cbv
  rw [t1, t2]
  try simp
end Go.Proofs.Ytdmdahnnfancpaa
