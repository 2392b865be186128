import Derived.Test.YtdmdahnnfancpaaT4
import Derived.Test.YtdmdahnnfancpaaT2
set_option linter.unusedSimpArgs false
set_option linter.unusedVariables false
namespace Go.Proofs.Ytdmdahnnfancpaa
open Go Go.RowKit Am

/-! ### The reference's Rank; pairs compared -/
theorem rrank_ok (l : List Ev) (hl : l.length ≤ 1000) (rows : List (List AV)) (hrows : rows = evR l) (s : ByteArray) (k : Int) (q : Bool) (h1 : ∀ i, ixP (allS l) s = some i → k = (i : Int) ∧ q = true) (h2 : ixP (allS l) s = none → k = 0 ∧ q = false) : CSem Try.prog (.fn 20) [.sl rows, aS s] (.pure [aI k, aB q]) := by
  refine of_text gam_ok mixed { n := 24 } Try.func20 (by kernel_rfl) rfl rfl (by simp) (by decide) fun F C D hF hC hD => ?_
  obtain ⟨A, hA⟩ : ∃ A, A = pR (allS l) := ⟨_, rfl⟩
  have hall := hC _ _ _ (rall_ok l hl rows hrows A hA)
  have hle := allS_le l
  obtain ⟨P, hP⟩ : ∃ P, P = allS l := ⟨_, rfl⟩
  rw [← hP] at hA h1 h2 hle
  clear hP
  obtain ⟨n', hn'⟩ : ∃ n' : Int, F .len A = n' := ⟨_, rfl⟩
  have en : n' = (P.length : Int) := by rw [← hn', lenF hF, hA, pR_len]
  cbv
  refine ⟨_, hall, ?_⟩
  cbv
  rw [hn']
  refine ⟨Nat × Int, fun x => { slots := [(12, aI x.2), (11, aI n'), (6, .sl A), (5, aB false), (4, aI 0), (1, aS s), (0, .sl rows)], obs := [], ctr := 0 }, fun x => x.2 = (x.1 : Int) ∧ x.1 ≤ P.length ∧ ∀ j p, j < x.1 → P[j]? = some p → ¬ p.m = s, fun x => P.length - x.1, ⟨(0, 0), ⟨rfl, Nat.zero_le _, fun j p h => by omega⟩, (le_of [] (by simp [leSl, leOb, injK, memK, parK, noTup, lk, rn0, rnA, plain] <;> first | rfl | decide))⟩, fun x hx => ?_⟩
  obtain ⟨i, i'⟩ := x
  obtain ⟨ei, hi, hno⟩ := hx
  simp only at ei hi hno
  have en : n' = (P.length : Int) := en
  have tl := ltF hF i P.length i' n' ei en
  obtain ⟨i2, hi2⟩ : ∃ i2, F .ar .add .i64 i' 1 = i2 := ⟨_, rfl⟩
  have ei2 : i2 = ((i + 1 : Nat) : Int) := hi2.symm.trans (incF hF ei (by omega))
  by_cases hil : i < P.length
  · have tl : F .cmp .lss i' n' = true := tl.2 hil
    obtain ⟨p, hp⟩ : ∃ s, P[i]? = some s := ⟨_, List.getElem?_eq_getElem hil⟩
    have hrow : A[i]? = some [aS p.m, aI p.n] := by rw [hA]; exact pR_get hp
    have hmu : P.length - (i + 1) < P.length - i := by omega
    have ts : F .scmp .eql p.m s = decide (p.m = s) := seqF hF _ _
    by_cases hs : p.m = s
    · have ts : F .scmp .eql p.m s = true := by rw [ts]; exact decide_eq_true hs
      obtain ⟨hk, hq⟩ : k = i' ∧ q = true := by
        rw [ei]
        refine h1 i ?_
        unfold ixP
        rw [List.findIdx?_eq_some_iff_getElem]
        obtain ⟨g1, g2⟩ := List.getElem?_eq_some_iff.1 hp
        refine ⟨g1, by rw [g2]; exact decide_eq_true hs, fun j hj => ?_⟩
        have := hno j _ hj (List.getElem?_eq_getElem (by omega))
        simpa using this
      subst hk hq
      clear h1 h2 hno hall
      cbv
      refine bT (tl) ?_
      cbv
      refine ⟨i, _, ei, hrow, rfl, ?_⟩
      cbv
      refine bT (ts) ?_
      cbv
      try simp
    · have ts : F .scmp .eql p.m s = false := by rw [ts]; exact decide_eq_false hs
      have hno2 : ∀ j p, j < i + 1 → P[j]? = some p → ¬ p.m = s := fun j p' hj h => by
        by_cases hji : j < i
        · exact hno j p' hji h
        · have : j = i := by omega
          rw [this, hp] at h; injection h with h; rw [← h]; exact hs
      clear h1 h2 hno hall
      cbv
      refine bT (tl) ?_
      cbv
      refine ⟨i, _, ei, hrow, rfl, ?_⟩
      cbv
      refine bF (ts) ?_
      cbv
      rw [hi2]
      exact ⟨(i + 1, i2), ⟨ei2, hil, hno2⟩, hmu, (le_of [] (by simp [leSl, leOb, injK, memK, parK, noTup, lk, rn0, rnA, plain] <;> first | rfl | decide))⟩
  · have tl : F .cmp .lss i' n' = false := by cases h : F .cmp .lss i' n' with | true => exact absurd (tl.1 h) hil | false => rfl
    obtain ⟨hk, hq⟩ : k = 0 ∧ q = false := by
      refine h2 ?_
      unfold ixP
      rw [List.findIdx?_eq_none_iff]
      intro p hp
      obtain ⟨j, hj, hje⟩ := List.getElem_of_mem hp
      have := hno j p (by omega) (by rw [List.getElem?_eq_getElem hj, hje])
      simpa using this
    subst hk hq
    clear h1 h2 hno hall
    cbv
    refine bF (tl) ?_
    cbv
    try simp
theorem same_ok (P : List Pr) (hl : P.length ≤ 1000000) (A B : List (List AV)) (hA : A = pR P) (hB : B = pR P) : CSem Try.prog (.fn 21) [.sl A, .sl B] (.pure [aB true]) := by
  refine of_text gam_ok mixed { n := 26 } Try.func21 (by kernel_rfl) rfl rfl (by simp) (by decide) fun F C D hF hC hD => ?_
  obtain ⟨n', hn'⟩ : ∃ n' : Int, F .len A = n' := ⟨_, rfl⟩
  have en : n' = (P.length : Int) := by rw [← hn', lenF hF, hA, pR_len]
  have hm' : F .len B = n' := by rw [en, lenF hF, hB, pR_len]
  have tn : F .cmp .neq n' n' = false := by rw [neF hF]; simp
  have tb : F .bnot true = false := by rw [bnotF hF]; rfl
  cbv
  rw [hn', hm']
  refine bF (tn) ?_
  cbv
  rw [hn']
  refine ⟨Nat × Int, fun x => { slots := [(13, aI x.2), (12, aI n'), (4, aB false), (1, .sl B), (0, .sl A)], obs := [], ctr := 0 }, fun x => x.2 = (x.1 : Int) ∧ x.1 ≤ P.length, fun x => P.length - x.1, ⟨(0, 0), ⟨rfl, Nat.zero_le _⟩, (le_of [] (by simp [leSl, leOb, injK, memK, parK, noTup, lk, rn0, rnA, plain] <;> first | rfl | decide))⟩, fun x hx => ?_⟩
  obtain ⟨i, i'⟩ := x
  obtain ⟨ei, hi⟩ := hx
  simp only at ei hi
  have en : n' = (P.length : Int) := en
  have tl := ltF hF i P.length i' n' ei en
  obtain ⟨i2, hi2⟩ : ∃ i2, F .ar .add .i64 i' 1 = i2 := ⟨_, rfl⟩
  have ei2 : i2 = ((i + 1 : Nat) : Int) := hi2.symm.trans (incF hF ei (by omega))
  by_cases hil : i < P.length
  · have tl : F .cmp .lss i' n' = true := tl.2 hil
    obtain ⟨p, hp⟩ : ∃ s, P[i]? = some s := ⟨_, List.getElem?_eq_getElem hil⟩
    have hrow : A[i]? = some [aS p.m, aI p.n] := by rw [hA]; exact pR_get hp
    have hrow2 : B[i]? = some [aS p.m, aI p.n] := by rw [hB]; exact pR_get hp
    have hmu : P.length - (i + 1) < P.length - i := by omega
    have heq := hC _ _ _ (prEq73 p p true (by simp))
    cbv
    refine bT (tl) ?_
    cbv
    refine ⟨hC _ _ _ (ben_ok (by kernel_rfl)), ?_⟩
    cbv
    refine ⟨i, _, ei, hrow, rfl, ?_⟩
    cbv
    refine ⟨i, _, ei, hrow2, rfl, ?_⟩
    cbv
    refine ⟨_, heq, ?_⟩
    cbv
    refine bF (tb) ?_
    cbv
    rw [hi2]
    exact ⟨(i + 1, i2), ⟨ei2, hil⟩, hmu, (le_of [] (by simp [leSl, leOb, injK, memK, parK, noTup, lk, rn0, rnA, plain] <;> first | rfl | decide))⟩
  · have tl : F .cmp .lss i' n' = false := by cases h : F .cmp .lss i' n' with | true => exact absurd (tl.1 h) hil | false => rfl
    cbv
    refine bF (tl) ?_
    cbv
    try simp
end Go.Proofs.Ytdmdahnnfancpaa
