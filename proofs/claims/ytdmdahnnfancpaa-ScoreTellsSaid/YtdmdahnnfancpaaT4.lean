import Derived.Test.YtdmdahnnfancpaaT3
set_option linter.unusedSimpArgs false
set_option linter.unusedVariables false
namespace Go.Proofs.Ytdmdahnnfancpaa
open Go Go.RowKit Am

/-! ### The reference's All -/
theorem less_ok (a b : Pr) (r : Bool) (hr : r = ltP a b) : CSem Try.prog (.fn 48) [.agg [aS a.m, aI a.n], .agg [aS b.m, aI b.n]] (.pure [aB r]) := by
  refine of_text gam_ok mixed { n := 24 } Try.func48 (by kernel_rfl) rfl rfl (by simp) (by decide) fun F C D hF hC hD => ?_
  have t1 : F .cmp .lss a.n b.n = decide (a.n < b.n) := lsF hF _ _
  have t2 : F .cmp .eql a.n b.n = decide (a.n = b.n) := eqF hF _ _
  have t3 : F .scmp .lss a.m b.m = decide (L a.m < L b.m) := slsF hF _ _
  have hi := ltP_iff a b
  rw [← hr] at hi
  clear hr
  by_cases h1 : a.n < b.n
  · have t1 : F .cmp .lss a.n b.n = true := by rw [t1]; exact decide_eq_true h1
    have hr : r = true := hi.2 (.inl h1)
    clear hi
    subst hr
    cbv
    refine cT (t1) ?_
    cbv
    try simp
  · have t1 : F .cmp .lss a.n b.n = false := by rw [t1]; exact decide_eq_false h1
    by_cases h2 : a.n = b.n
    · have t2 : F .cmp .eql a.n b.n = true := by rw [t2]; exact decide_eq_true h2
      have t3 : F .scmp .lss a.m b.m = r := by
        rw [t3]
        cases r with
        | true => rcases hi.1 rfl with h | ⟨_, h⟩
                  · exact absurd h h1
                  · exact decide_eq_true h
        | false => exact decide_eq_false fun h => by have := hi.2 (.inr ⟨h2, h⟩); cases this
      clear hi
      cbv
      refine cF (t1) ?_
      cbv
      refine bT (t2) ?_
      cbv
      have t3 : F .scmp .lss a.1 b.1 = r := t3
      rw [t3]
      try simp
    · have t2 : F .cmp .eql a.n b.n = false := by rw [t2]; exact decide_eq_false h2
      have hr : r = false := by
        cases r with
        | false => rfl
        | true => rcases hi.1 rfl with h | ⟨h, _⟩
                  · exact absurd h h1
                  · exact absurd h h2
      clear hi
      subst hr
      cbv
      refine cF (t1) ?_
      cbv
      refine bF (t2) ?_
      cbv
      try simp
theorem le_nilS (t : Nat) {s : St} (ht : lk t s.slots = some (.v (.slice none 0 0))) : Le s { slots := (t, .sl []) :: s.slots, obs := s.obs, ctr := s.ctr, par := s.par } := by
  rintro W0 S0 n a w ⟨S, β, hr⟩
  refine ⟨S, β, hr.gr, hr.par, hr.defers, hr.size, fun t' x hx => ?_, hr.objs, hr.up, hr.sep, hr.ctr, hr.parc, hr.fix⟩
  simp only [lk] at hx
  split at hx
  · rename_i e1
    injection hx with hx
    subst e1 hx
    obtain ⟨h1, h2⟩ := hr.slots _ _ ht
    refine ⟨h1, ?_⟩
    rw [srep_v h2]
    exact srep_c (.nil none 0 (fun _ => rfl))
  · exact hr.slots _ _ hx
abbrev raS (n' : Int) (rows : List (List AV)) (i' : Int) (O : List (List AV)) : St := { slots := [(14, aI i'), (13, aI n'), (3, .sl O), (2, .v (.slice none 0 0)), (0, .sl rows)], obs := [], ctr := 0 }
set_option maxHeartbeats 8000000 in
theorem rall_ok (l : List Ev) (hl : l.length ≤ 1000) (rows : List (List AV)) (hrows : rows = evR l) (A : List (List AV)) (hA : A = pR (allS l)) : CSem Try.prog (.fn 22) [.sl rows] (.pure [.sl A]) := by
  refine of_text gam_ok mixed { n := 83, keep := [71, 75] } Try.func22 (by kernel_rfl) rfl rfl (by simp) (by decide) fun F C D hF hC hD => ?_
  obtain ⟨n', hn'⟩ : ∃ n' : Int, F .len rows = n' := ⟨_, rfl⟩
  have en : n' = (l.length : Int) := by rw [← hn', lenF hF, hrows, evR_len]
  cbv
  rw [hn']
  refine ⟨Nat × Int × List Pr × List (List AV), fun x => raS n' rows x.2.1 x.2.2.2, fun x => x.2.1 = (x.1 : Int) ∧ x.1 ≤ l.length ∧ x.2.2.2 = pR x.2.2.1 ∧ strictP x.2.2.1 ∧ x.2.2.1.length ≤ x.1 ∧ ∀ p, p ∈ x.2.2.1 ↔ ∃ e ∈ l.take x.1, e.op.kind = 7 ∧ p = prE l e, fun x => l.length - x.1, ⟨(0, 0, [], []), ⟨rfl, Nat.zero_le _, rfl, List.Pairwise.nil, Nat.zero_le _, fun p => by simp⟩, Le.trans (le_nilS 3 (by rfl)) (le_of [] (by simp [leSl, leOb, injK, memK, parK, noTup, lk, rn0, rnA, plain] <;> first | rfl | decide))⟩, fun x hx => ?_⟩
  obtain ⟨i, i', O, R⟩ := x
  obtain ⟨ei, hi, hR, hst, hOl, hmem⟩ := hx
  simp only at ei hi hR hst hOl hmem
  have en : n' = (l.length : Int) := en
  have tl := ltF hF i l.length i' n' ei en
  obtain ⟨i2, hi2⟩ : ∃ i2, F .ar .add .i64 i' 1 = i2 := ⟨_, rfl⟩
  have ei2 : i2 = ((i + 1 : Nat) : Int) := hi2.symm.trans (incF hF ei (by omega))
  by_cases hil : i < l.length
  · have tl : F .cmp .lss i' n' = true := tl.2 hil
    obtain ⟨e, he⟩ : ∃ s, l[i]? = some s := ⟨_, List.getElem?_eq_getElem hil⟩
    have hrow : rows[i]? = some e.ac := by rw [hrows]; exact evR_get he
    have hmu : l.length - (i + 1) < l.length - i := by omega
    have t7 : F .cmp .neq e.op.kind 7 = decide (e.op.kind ≠ 7) := neF hF _ _
    have htk : l.take (i + 1) = l.take i ++ [e] := by rw [List.take_add_one, he]; rfl
    by_cases h7 : e.op.kind = 7
    · have t7 : F .cmp .neq e.op.kind 7 = false := by rw [t7]; exact decide_eq_false (fun h => h h7)
      obtain ⟨n, q, g1, g2, hpn⟩ : ∃ (n : Int) (q : Bool), (∀ x, getS l e.op.fld = some x → n = x.op.num ∧ q = true) ∧ (getS l e.op.fld = none → n = 0 ∧ q = false) ∧ n = numS l e.op.fld := by
        unfold numS
        cases h : getS l e.op.fld with
        | none => exact ⟨0, false, (fun e h => by cases h), (fun _ => ⟨rfl, rfl⟩), rfl⟩
        | some e => exact ⟨e.op.num, true, (fun e' h => by injection h with h; rw [h]; exact ⟨rfl, rfl⟩), (fun h => by cases h), rfl⟩
      have hget := hC _ _ _ (rget_ok l hl rows hrows e.op.fld n q g1 g2)
      obtain ⟨p, hp⟩ : ∃ p : Pr, p = ⟨e.op.fld, n⟩ := ⟨_, rfl⟩
      have hpe : p = prE l e := by rw [hp, hpn]; rfl
      have hmem2 : ∀ x, (x ∈ O ∨ x = p) ↔ ∃ e' ∈ l.take (i + 1), e'.op.kind = 7 ∧ x = prE l e' := fun x => by
        rw [htk, hmem]
        simp only [List.mem_append, List.mem_singleton]
        constructor
        · rintro (⟨e', h1, h2⟩ | h)
          · exact ⟨e', .inl h1, h2⟩
          · exact ⟨e, .inr rfl, h7, h.trans hpe⟩
        · rintro ⟨e', h1 | h1, h2⟩
          · exact .inl ⟨e', h1, h2⟩
          · subst h1; exact .inr (h2.2.trans hpe.symm)
      have heq := fun (x : Pr) (q : Bool) (hq : q = true ↔ x = p) => hC _ _ _ (prEq73 x ⟨e.op.fld, n⟩ q (by rw [← hp]; exact hq))
      have hless := fun (x : Pr) (q : Bool) (hq : q = ltP x p) => hC _ _ _ (less_ok x ⟨e.op.fld, n⟩ q (by rw [← hp]; exact hq))
      clear g1 g2 hpn hmem htk hpe
      obtain ⟨m', hm'⟩ : ∃ m' : Int, F .len R = m' := ⟨_, rfl⟩
      have em : m' = (O.length : Int) := by rw [← hm', lenF hF, hR, pR_len]
      cbv
      refine bT (tl) ?_
      cbv
      refine ⟨i, _, ei, hrow, rfl, ?_⟩
      cbv
      refine bF (t7) ?_
      cbv
      refine ⟨i, _, ei, hrow, rfl, ?_⟩
      cbv
      refine ⟨_, hget, ?_⟩
      cbv
      refine ⟨i, _, ei, hrow, rfl, ?_⟩
      cbv
      rw [hm']
      refine ⟨Nat × Int × Nat × Int × Bool, fun x => { slots := [(45, aI x.2.1), (44, aI m'), (9, aI x.2.2.2.1), (8, aB x.2.2.2.2), (7, .ept [aS e.op.fld, aI n] 0), (14, aI i'), (13, aI n'), (3, .sl R), (2, .v (.slice none 0 0)), (0, .sl rows)], obs := [], ctr := 1 }, fun x => x.2.1 = (x.1 : Int) ∧ x.1 ≤ O.length ∧ x.2.2.2.1 = (x.2.2.1 : Int) ∧ x.2.2.1 ≤ x.1 ∧ (x.2.2.2.2 = true ↔ p ∈ O.take x.1) ∧ (∀ k y, k < x.2.2.1 → O[k]? = some y → ltP y p = true) ∧ (∀ k y, x.2.2.1 ≤ k → k < x.1 → O[k]? = some y → ltP y p = false), fun x => O.length - x.1, ⟨(0, 0, 0, 0, false), ⟨rfl, Nat.zero_le _, rfl, Nat.le_refl _, by simp, fun k y h => absurd h (Nat.not_lt_zero _), fun k y _ h => absurd h (Nat.not_lt_zero _)⟩, (le_of [] (by simp [leSl, leOb, injK, memK, parK, noTup, lk, rn0, rnA, plain] <;> first | rfl | decide))⟩, fun x hx => ?_⟩
      obtain ⟨j, j', a, a', kn⟩ := x
      obtain ⟨ej, hj, ea, haj, hkn, ha1, ha2⟩ := hx
      simp only at ej hj ea haj hkn ha1 ha2
      have em : m' = (O.length : Int) := em
      have ei2 : i2 = ((i + 1 : Nat) : Int) := ei2
      have tj := ltF hF j O.length j' m' ej em
      obtain ⟨j2, hj2⟩ : ∃ i2, F .ar .add .i64 j' 1 = i2 := ⟨_, rfl⟩
      have ej2 : j2 = ((j + 1 : Nat) : Int) := hj2.symm.trans (incF hF ej (by omega))
      by_cases hjl : j < O.length
      · have tj : F .cmp .lss j' m' = true := tj.2 hjl
        obtain ⟨x, hx⟩ : ∃ s, O[j]? = some s := ⟨_, List.getElem?_eq_getElem hjl⟩
        have hrx : R[j]? = some [aS x.m, aI x.n] := by rw [hR]; exact pR_get hx
        have hmj : O.length - (j + 1) < O.length - j := by omega
        obtain ⟨q2, hq2'⟩ : ∃ q : Bool, q = true ↔ x = p := by
          by_cases h : x = p
          · exact ⟨true, by simp [h]⟩
          · exact ⟨false, by simp [h]⟩
        obtain ⟨c, hc⟩ : ∃ q, q = ltP x p := ⟨_, rfl⟩
        have h1 := heq x q2 hq2'
        have h2 := hless x c hc
        have htk : O.take (j + 1) = O.take j ++ [x] := by rw [List.take_add_one, hx]; rfl
        have hkn2 : (kn || q2) = true ↔ p ∈ O.take (j + 1) := by
          rw [htk, Bool.or_eq_true, hkn, hq2', List.mem_append, List.mem_singleton]
          exact ⟨fun h => h.imp id Eq.symm, fun h => h.imp id Eq.symm⟩
        have hct : c = true → (∀ k y, k < j + 1 → O[k]? = some y → ltP y p = true) := fun hct k y hk hy => by
          by_cases hkj : k = j
          · subst hkj; rw [hx] at hy; injection hy with hy; subst hy; rw [← hc, hct]
          · obtain ⟨u1, u2⟩ := List.getElem?_eq_some_iff.1 hy
            obtain ⟨v1, v2⟩ := List.getElem?_eq_some_iff.1 hx
            have := List.pairwise_iff_getElem.1 hst k j u1 v1 (by omega)
            rw [u2, v2] at this
            exact ltP_trans this (by rw [← hc, hct])
        have hcf : c = false → (∀ k y, a ≤ k → k < j + 1 → O[k]? = some y → ltP y p = false) := fun hcf k y hk1 hk hy => by
          by_cases hkj : k = j
          · subst hkj; rw [hx] at hy; injection hy with hy; subst hy; rw [← hc, hcf]
          · exact ha2 k y hk1 (by omega) hy
        have hno : ∀ k y, j + 1 ≤ k → k < j + 1 → O[k]? = some y → ltP y p = false := fun k y h1 h2 => by omega
        obtain ⟨aj, haj2⟩ : ∃ i2, F .ar .add .i64 j' 1 = i2 := ⟨_, rfl⟩
        clear hq2' hc htk heq hless hmem2 hst ha2 hget
        cases kn with
        | true =>
          cbv
          refine bT (tj) ?_
          cbv
          refine ⟨hC _ _ _ (ben_ok (by kernel_rfl)), ?_⟩
          cbv
          refine cT (rfl) ?_
          cbv
          refine ⟨hC _ _ _ (ben_ok (by kernel_rfl)), ?_⟩
          cbv
          refine ⟨j, _, ej, hrx, rfl, ?_⟩
          cbv
          refine ⟨_, h2, ?_⟩
          cbv
          cases c with
          | true =>
            cbv
            refine bT (rfl) ?_
            cbv
            rw [hj2]
            exact ⟨(j + 1, j2, j + 1, j2, true), ⟨ej2, hjl, ej2, Nat.le_refl _, hkn2, hct rfl, hno⟩, hmj, (le_of [] (by simp [leSl, leOb, injK, memK, parK, noTup, lk, rn0, rnA, plain] <;> first | rfl | decide))⟩
          | false =>
            cbv
            refine bF (rfl) ?_
            cbv
            rw [hj2]
            exact ⟨(j + 1, j2, a, a', true), ⟨ej2, hjl, ea, Nat.le_succ_of_le haj, hkn2, ha1, hcf rfl⟩, hmj, (le_of [] (by simp [leSl, leOb, injK, memK, parK, noTup, lk, rn0, rnA, plain] <;> first | rfl | decide))⟩
        | false =>
          cbv
          refine bT (tj) ?_
          cbv
          refine ⟨hC _ _ _ (ben_ok (by kernel_rfl)), ?_⟩
          cbv
          refine cF (rfl) ?_
          cbv
          refine ⟨j, _, ej, hrx, rfl, ?_⟩
          cbv
          refine ⟨_, h1, ?_⟩
          cbv
          refine ⟨hC _ _ _ (ben_ok (by kernel_rfl)), ?_⟩
          cbv
          refine ⟨j, _, ej, hrx, rfl, ?_⟩
          cbv
          refine ⟨_, h2, ?_⟩
          cbv
          have hkn2 : q2 = true ↔ p ∈ O.take (j + 1) := hkn2
          cases c with
          | true =>
            cbv
            refine bT (rfl) ?_
            cbv
            rw [hj2]
            exact ⟨(j + 1, j2, j + 1, j2, q2), ⟨ej2, hjl, ej2, Nat.le_refl _, hkn2, hct rfl, hno⟩, hmj, (le_of [] (by simp [leSl, leOb, injK, memK, parK, noTup, lk, rn0, rnA, plain] <;> first | rfl | decide))⟩
          | false =>
            cbv
            refine bF (rfl) ?_
            cbv
            rw [hj2]
            exact ⟨(j + 1, j2, a, a', q2), ⟨ej2, hjl, ea, Nat.le_succ_of_le haj, hkn2, ha1, hcf rfl⟩, hmj, (le_of [] (by simp [leSl, leOb, injK, memK, parK, noTup, lk, rn0, rnA, plain] <;> first | rfl | decide))⟩
      · have tj : F .cmp .lss j' m' = false := by cases h : F .cmp .lss j' m' with | true => exact absurd (tj.1 h) hjl | false => rfl
        have hjO : j = O.length := by omega
        rw [hjO, List.take_length] at hkn
        rw [hjO] at ha2 haj
        cases kn with
        | true =>
          have hpO := hkn.1 rfl
          have hmem3 : ∀ x, x ∈ O ↔ ∃ e' ∈ l.take (i + 1), e'.op.kind = 7 ∧ x = prE l e' := fun x => by
            rw [← hmem2]
            exact ⟨.inl, fun h => h.elim id fun h => h ▸ hpO⟩
          clear heq hless hmem2 ha2 ha1 hget hkn
          cbv
          refine bF (tj) ?_
          cbv
          refine bT (rfl) ?_
          cbv
          rw [hi2]
          exact ⟨(i + 1, i2, O, R), ⟨ei2, hil, hR, hst, Nat.le_succ_of_le hOl, hmem3⟩, hmu, (le_of [] (by simp [leSl, leOb, injK, memK, parK, noTup, lk, rn0, rnA, plain] <;> first | rfl | decide))⟩
        | false =>
          have hpO : p ∉ O := fun h => by have := hkn.2 h; cases this
          obtain ⟨s1, s2⟩ := ins_ok hst haj ha1 (fun k y h1 h2 => ha2 k y h1 (List.getElem?_eq_some_iff.1 h2).1 h2) hpO
          obtain ⟨O2, hO2⟩ : ∃ O2, O2 = (O.take a ++ [p]) ++ O.drop a := ⟨_, rfl⟩
          rw [← hO2] at s1 s2
          have hmem3 : ∀ x, x ∈ O2 ↔ ∃ e' ∈ l.take (i + 1), e'.op.kind = 7 ∧ x = prE l e' := fun x => by rw [s2, hmem2]
          have hO2l : O2.length ≤ i + 1 := by rw [hO2]; simp only [List.length_append, List.length_take, List.length_drop, List.length_singleton]; omega
          have hRl : ∀ r ∈ R, r.length = 2 := fun r hr => by
            rw [hR] at hr
            obtain ⟨p, _, rfl⟩ := List.mem_map.1 hr
            rfl
          have hal : (a : Int) ≤ F .len R := by rw [hm', em]; omega
          have hOl2 : (O.length : Int) = F .len R := by rw [hm', em]
          have hOl3 : (O.length : Int) ≤ F .len R := by rw [hm', em]; exact Int.le_refl _
          obtain ⟨R1, hR1⟩ : ∃ x, x = List.take (a - 0) (List.drop 0 R) := ⟨_, rfl⟩
          obtain ⟨R2, hR2⟩ : ∃ x, x = List.take (O.length - a) (List.drop a R) := ⟨_, rfl⟩
          have eR1 : R1 = pR (O.take a) := by rw [hR1, hR]; simp [pR]
          have eR2 : R2 = pR (O.drop a) := by
            rw [hR2, hR, List.take_of_length_le (by rw [List.length_drop, pR_len]; omega)]
            simp [pR]
          obtain ⟨A1, hA1⟩ : ∃ x, F .app [] R1 = x := ⟨_, rfl⟩
          obtain ⟨A2, hA2⟩ : ∃ x, F .app A1 [[aS e.op.fld, aI n]] = x := ⟨_, rfl⟩
          obtain ⟨A3, hA3⟩ : ∃ x, F .app A2 R2 = x := ⟨_, rfl⟩
          have eA1 : A1 = pR (O.take a) := by rw [← hA1, hF, eR1]; rfl
          have eA2 : A2 = pR (O.take a ++ [p]) := by rw [← hA2, hF, eA1, pR_snoc, hp]; rfl
          have eA3 : A3 = pR O2 := by
            rw [← hA3, hF, eA2, eR2, hO2]
            show pR _ ++ pR _ = _
            simp [pR]
          have pl : ∀ (P : List Pr), ∀ r ∈ pR P, r.length = 2 := fun P r hr => by
            obtain ⟨p, _, rfl⟩ := List.mem_map.1 hr
            rfl
          have l1 : ∀ r ∈ R1, r.length = 2 := by rw [eR1]; exact pl _
          have l2 : ∀ r ∈ R2, r.length = 2 := by rw [eR2]; exact pl _
          have l3 : ∀ r ∈ [[aS e.op.fld, aI n]], r.length = 2 := fun r h => by rw [List.mem_singleton.1 h]; rfl
          have b1 : (F .len [] + F .len R1) * 24 ≤ 140737488355328 := by rw [lenF hF, lenF hF, eR1, pR_len, List.length_take]; simp only [List.length_nil]; omega
          have b2 : (F .len A1 + F .len [[aS e.op.fld, aI n]]) * 24 ≤ 140737488355328 := by rw [lenF hF, lenF hF, eA1, pR_len, List.length_take]; simp only [List.length_singleton]; omega
          have b3 : (F .len A2 + F .len R2) * 24 ≤ 140737488355328 := by rw [lenF hF, lenF hF, eA2, eR2, pR_len, pR_len, List.length_append, List.length_take, List.length_drop]; simp only [List.length_singleton]; omega
          clear hO2 eR1 eR2 eA1 eA2 pl
          clear heq hless hmem2 ha2 ha1 hget hkn hst s2
          cbv
          refine bF (tj) ?_
          cbv
          refine bF (rfl) ?_
          cbv
          refine ⟨0, a, rfl, by show some (AV.v (Value.int .i64 a')) = _; rw [ea], Nat.zero_le _, hal, hRl, R1, hR1, ?_⟩
          cbv
          refine ⟨l1, b1, ?_⟩
          cbv
          rw [hA1]
          refine ⟨l3, b2, ?_⟩
          cbv
          have hA2 : F .app A1 [[aS e.4.3, aI n]] = A2 := hA2
          rw [hA2]
          refine ⟨a, O.length, by show some (AV.v (Value.int .i64 a')) = _; rw [ea], hOl2, haj, hOl3, hRl, R2, hR2, ?_⟩
          cbv
          refine ⟨l2, b3, ?_⟩
          cbv
          rw [hA3, hi2]
          exact ⟨(i + 1, i2, O2, A3), ⟨ei2, hil, eA3, s1, hO2l, hmem3⟩, hmu, (le_of [] (by simp [leSl, leOb, injK, memK, parK, noTup, lk, rn0, rnA, plain] <;> first | rfl | decide))⟩
    · have t7 : F .cmp .neq e.op.kind 7 = true := by rw [t7]; exact decide_eq_true h7
      have hmem2 : ∀ x, x ∈ O ↔ ∃ e' ∈ l.take (i + 1), e'.op.kind = 7 ∧ x = prE l e' := fun x => by
        rw [htk, hmem]
        simp only [List.mem_append, List.mem_singleton]
        constructor
        · rintro ⟨e', h1, h2⟩
          exact ⟨e', .inl h1, h2⟩
        · rintro ⟨e', h1 | h1, h2⟩
          · exact ⟨e', h1, h2⟩
          · subst h1; exact absurd h2.1 h7
      clear hmem htk
      cbv
      refine bT (tl) ?_
      cbv
      refine ⟨i, _, ei, hrow, rfl, ?_⟩
      cbv
      refine bT (t7) ?_
      cbv
      rw [hi2]
      exact ⟨(i + 1, i2, O, R), ⟨ei2, hil, hR, hst, Nat.le_succ_of_le hOl, hmem2⟩, hmu, (le_of [] (by simp [leSl, leOb, injK, memK, parK, noTup, lk, rn0, rnA, plain] <;> first | rfl | decide))⟩
  · have tl : F .cmp .lss i' n' = false := by cases h : F .cmp .lss i' n' with | true => exact absurd (tl.1 h) hil | false => rfl
    have hOA : O = allS l := by
      refine eq_of_strict hst (allS_strict l) fun x => ?_
      rw [hmem, allS_mem, List.take_of_length_le (by omega)]
    have hRA : R = A := by rw [hR, hOA, hA]
    clear hmem
    subst hRA
    cbv
    refine bF (tl) ?_
    cbv
    try simp
end Go.Proofs.Ytdmdahnnfancpaa
