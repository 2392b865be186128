import Derived.Test.YtdmdahnnfancpaaO3
set_option linter.unusedSimpArgs false
set_option linter.unusedVariables false
namespace Go.Proofs.Ytdmdahnnfancpaa
open Go Go.RowKit Am

/-! ### The reference's Get -/
abbrev rgS (n' : Int) (rows : List (List AV)) (s : ByteArray) (i' : Int) (ow : List (List AV)) : St := { slots := [(12, aI i'), (11, aI n'), (6, .own 0 0), (5, aB false), (4, aI 0), (1, aS s), (0, .sl rows)], obs := [(0, .row 35 26 ow 0 0)], ctr := 1 }
set_option maxHeartbeats 8000000 in
theorem rget_ok (l : List Ev) (hl : l.length ≤ 1000) (rows : List (List AV)) (hrows : rows = evR l) (s : ByteArray) (n : Int) (q : Bool) (g1 : ∀ e, getS l s = some e → n = e.op.num ∧ q = true) (g2 : getS l s = none → n = 0 ∧ q = false) : CSem Try.prog (.fn 18) [.sl rows, aS s] (.pure [aI n, aB q]) := by
  refine of_text gam_ok mixed { n := 49, keep := [38] } Try.func18 (by kernel_rfl) rfl rfl (by simp) (by decide) fun F C D hF hC hD => ?_
  obtain ⟨n', hn'⟩ : ∃ n' : Int, F .len rows = n' := ⟨_, rfl⟩
  have en : n' = (l.length : Int) := by rw [← hn', lenF hF, hrows, evR_len]
  obtain ⟨rows2, hrows2⟩ : ∃ r, r = evR (ownE l s) := ⟨_, rfl⟩
  have hol : (ownE l s).length ≤ l.length := List.length_filter_le _ _
  obtain ⟨x, hx1, hx2, hxn⟩ : ∃ x : Ev, (∀ e, latR (ownE l s) = some e → x = e ∧ q = true) ∧ (latR (ownE l s) = none → x = zE ∧ q = false) ∧ x.op.num = n := by
    have hgo := getS_own l s
    cases h : getS l s with
    | none =>
      rw [h] at hgo
      refine ⟨zE, fun e he => by rw [he] at hgo; (cases hgo), fun _ => ⟨rfl, (g2 h).2⟩, by rw [(g2 h).1]; rfl⟩
    | some e =>
      rw [h] at hgo
      refine ⟨e, fun e' he => by rw [he] at hgo; (injection hgo with hgo); exact ⟨hgo, (g1 e h).2⟩, fun he => by rw [he] at hgo; (cases hgo), (g1 e h).1.symm⟩
  have hlat := hC _ _ _ (rlatest_ok (ownE l s) (by omega) rows2 hrows2 x q hx1 hx2)
  clear g1 g2 hx1 hx2
  cbv
  rw [hn']
  refine ⟨Nat × Int × List (List AV), fun x => rgS n' rows s x.2.1 x.2.2, fun x => x.2.1 = (x.1 : Int) ∧ x.1 ≤ l.length ∧ x.2.2 = evR (ownE (l.take x.1) s), fun x => l.length - x.1, ⟨(0, 0, []), ⟨rfl, Nat.zero_le _, rfl⟩, Le.trans (le_nil 6 35 26 (by rfl) (by rfl)) (le_of [] (by simp [leSl, leOb, injK, memK, parK, noTup, lk, rn0, rnA, plain] <;> first | rfl | decide))⟩, fun x hx => ?_⟩
  obtain ⟨i, i', ow⟩ := x
  obtain ⟨ei, hi, how⟩ := hx
  simp only at ei hi how
  have en : n' = (l.length : Int) := en
  have tl := ltF hF i l.length i' n' ei en
  obtain ⟨i2, hi2⟩ : ∃ i2, F .ar .add .i64 i' 1 = i2 := ⟨_, rfl⟩
  have ei2 : i2 = ((i + 1 : Nat) : Int) := hi2.symm.trans (incF hF ei (by omega))
  by_cases hil : i < l.length
  · have tl : F .cmp .lss i' n' = true := tl.2 hil
    obtain ⟨e, he⟩ : ∃ s, l[i]? = some s := ⟨_, List.getElem?_eq_getElem hil⟩
    have hrow : rows[i]? = some e.ac := by rw [hrows]; exact evR_get he
    have hmu : l.length - (i + 1) < l.length - i := by omega
    have t7 : F .cmp .eql e.op.kind 7 = decide (e.op.kind = 7) := eqF hF _ _
    have ts : F .scmp .eql e.op.fld s = decide (e.op.fld = s) := seqF hF _ _
    have hlo : (ownE (l.take i) s).length ≤ 1000 := Nat.le_trans (List.length_filter_le _ _) (by rw [List.length_take]; omega)
    by_cases h7 : e.op.kind = 7
    · have t7 : F .cmp .eql e.op.kind 7 = true := by rw [t7]; exact decide_eq_true h7
      by_cases hs : e.op.fld = s
      · have ts : F .scmp .eql e.op.fld s = true := by rw [ts]; exact decide_eq_true hs
        have hst : ownE (l.take (i + 1)) s = ownE (l.take i) s ++ [e] := by unfold ownE; rw [List.take_add_one, he]; simp [hs, h7]
        obtain ⟨o2, ho2⟩ : ∃ x, x = F .app ow [e.ac] := ⟨_, rfl⟩
        have how2 : o2 = evR (ownE (l.take (i + 1)) s) := by rw [ho2, hst, evR_snoc, how, hF]; rfl
        have hrm : (F .len ow + F .len [e.ac]) * 232 ≤ 140737488355328 := by rw [lenF hF, lenF hF, how, evR_len]; simp only [List.length_singleton]; omega
        have hel : ∀ r ∈ [e.ac], r.length = 26 := fun r h => by rw [List.mem_singleton.1 h]; rfl
        clear hst how hlat
        cbv
        refine bT (tl) ?_
        cbv
        refine ⟨i, _, ei, hrow, rfl, ?_⟩
        cbv
        refine bT (t7) ?_
        cbv
        refine ⟨i, _, ei, hrow, rfl, ?_⟩
        cbv
        refine bT (ts) ?_
        cbv
        refine ⟨i, _, ei, hrow, rfl, ?_⟩
        cbv
        refine ⟨hel, hrm, ?_⟩
        cbv
        rw [hi2]
        exact ⟨(i + 1, i2, o2), ⟨ei2, hil, how2⟩, hmu, le_of [(0, 1)] (by simp [leSl, leOb, injK, memK, parK, noTup, lk, rn0, rnA, plain]; repeat (first | exact ho2.symm | refine And.intro ?_ ?_ | rfl | trivial))⟩
      · have ts : F .scmp .eql e.op.fld s = false := by rw [ts]; exact decide_eq_false hs
        have hst : ownE (l.take (i + 1)) s = ownE (l.take i) s := by unfold ownE; rw [List.take_add_one, he]; simp [hs]
        have how2 : ow = evR (ownE (l.take (i + 1)) s) := by rw [hst]; exact how
        clear hst how hlat
        cbv
        refine bT (tl) ?_
        cbv
        refine ⟨i, _, ei, hrow, rfl, ?_⟩
        cbv
        refine bT (t7) ?_
        cbv
        refine ⟨i, _, ei, hrow, rfl, ?_⟩
        cbv
        refine bF (ts) ?_
        cbv
        rw [hi2]
        exact ⟨(i + 1, i2, ow), ⟨ei2, hil, how2⟩, hmu, (le_of [] (by simp [leSl, leOb, injK, memK, parK, noTup, lk, rn0, rnA, plain] <;> first | rfl | decide))⟩
    · have t7 : F .cmp .eql e.op.kind 7 = false := by rw [t7]; exact decide_eq_false h7
      have hst : ownE (l.take (i + 1)) s = ownE (l.take i) s := by unfold ownE; rw [List.take_add_one, he]; simp [h7]
      have how2 : ow = evR (ownE (l.take (i + 1)) s) := by rw [hst]; exact how
      clear hst how hlat
      cbv
      refine bT (tl) ?_
      cbv
      refine ⟨i, _, ei, hrow, rfl, ?_⟩
      cbv
      refine bF (t7) ?_
      cbv
      rw [hi2]
      exact ⟨(i + 1, i2, ow), ⟨ei2, hil, how2⟩, hmu, (le_of [] (by simp [leSl, leOb, injK, memK, parK, noTup, lk, rn0, rnA, plain] <;> first | rfl | decide))⟩
  · have tl : F .cmp .lss i' n' = false := by cases h : F .cmp .lss i' n' with | true => exact absurd (tl.1 h) hil | false => rfl
    have how : ow = rows2 := by rw [how, hrows2, List.take_of_length_le (by omega)]
    subst how
    clear hrows2
    cbv
    refine bF (tl) ?_
    cbv
    refine ⟨_, hlat, ?_⟩
    cbv
    have hxn : x.4.5 = n := hxn
    simp [hxn]
end Go.Proofs.Ytdmdahnnfancpaa
