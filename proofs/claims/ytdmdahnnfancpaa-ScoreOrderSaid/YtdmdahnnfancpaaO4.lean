import Derived.Test.YtdmdahnnfancpaaO3
set_option linter.unusedSimpArgs false
set_option linter.unusedVariables false
namespace Go.Proofs.Ytdmdahnnfancpaa
open Go Go.RowKit Am

theorem eq_bool (d : Nat) (a b : Bool) (w : World) : (Op.equalIn (d + 1) 4 (.bool a) (.bool b)).run Try.prog w = .ok (a == b) w := by
  have h := run_underlying (w := w) Try.underlying4
  unfold Op.equalIn
  simp [h]
theorem csem_bool (c d : Bool) (q : Bool) (hq : q = (c == d)) : CSem Try.prog (.eq 4) [aB c, aB d] (.pure [aB q]) := by
  refine ⟨_, _, q, rfl, rfl, fun w S x y hx hy => ⟨0, fun ox oy => ?_, fun ox oy => ?_⟩⟩
  · have h := eq_bool 9999 c d w
    rw [rep_v hx, rep_v hy]
    simp [eqGuard, binOp, Op.equal, h, World.drewN, hq, show Op.maxDepth = 10000 from rfl]
  · have h := eq_bool 9999 c d w
    rw [rep_v hx, rep_v hy]
    simp [eqGuard, binOp, Op.equal, h, World.drewN, hq, show Op.maxDepth = 10000 from rfl]
abbrev apS (l : List Ev) (n' : Int) (rows : List (List AV)) (s : ByteArray) (i' : Int) (ow : List (List AV)) : St := { slots := [(24, aI i'), (23, aI n'), (5, .own 0 0), (4, aB false), (1, aS s), (0, .sl rows)], obs := [(0, .row 35 26 ow 0 0)], ctr := 1 }
set_option maxHeartbeats 8000000 in
theorem apart_ok (l : List Ev) (s : ByteArray) : CSem Try.prog (.fn 4) [.sl (evR l), aS s] (.pure [aB true]) := by
  obtain ⟨rows, hrows⟩ : ∃ r, r = evR l := ⟨_, rfl⟩
  rw [← hrows]
  refine of_text gam_ok mixed { n := 97, keep := [41] } Try.func4 (by kernel_rfl) rfl rfl (by simp) (by decide) fun F C D hF hC hD => ?_
  have haw := hC _ _ _ awake_ok
  have tn : F .bnot true = false := by rw [bnotF hF]; rfl
  have tn2 : F .bnot false = true := by rw [bnotF hF]; rfl
  obtain ⟨f, hf⟩ : ∃ f, f = fewB l := ⟨_, rfl⟩
  have hfew := hC _ _ _ (few_ok l rows hrows f hf)
  cases f with
  | false =>
    clear hf
    cbv
    refine ⟨_, haw, ?_⟩
    cbv
    refine cF (tn) ?_
    cbv
    refine ⟨_, hfew, ?_⟩
    cbv
    rw [tn2]
    refine bT (rfl) ?_
    cbv
    refine ⟨_, haw, ?_⟩
    cbv
    try simp
  | true =>
    have hl : l.length ≤ 150 := by
      unfold fewB at hf
      have := (Bool.and_eq_true_iff).1 hf.symm
      exact of_decide_eq_true this.1
    clear hf
    obtain ⟨n, q, g1, g2⟩ : ∃ (n : Int) (q : Bool), (∀ e, getS l s = some e → n = e.op.num ∧ q = true) ∧ (getS l s = none → n = 0 ∧ q = false) := by
      cases h : getS l s with
      | none => exact ⟨0, false, (fun e h => by cases h), fun _ => ⟨rfl, rfl⟩⟩
      | some e => exact ⟨e.op.num, true, (fun e' h => by injection h with h; rw [h]; exact ⟨rfl, rfl⟩), fun h => by cases h⟩
    have hget := hC _ _ _ (get_ok l (by omega) rows hrows s n q g1 g2)
    obtain ⟨rows2, hrows2⟩ : ∃ r, r = evR (ownF l s) := ⟨_, rfl⟩
    have hol : (ownF l s).length ≤ l.length := List.length_filter_le _ _
    have hget2 := hC _ _ _ (get_ok (ownF l s) (by omega) rows2 hrows2 s n q (by rw [getS_ownF]; exact g1) (by rw [getS_ownF]; exact g2))
    obtain ⟨A, hA⟩ : ∃ A, A = pR (allS l) := ⟨_, rfl⟩
    have hall := hC _ _ _ (all_ok l (by omega) rows hrows A hA)
    obtain ⟨a1, a2⟩ := all_in l s
    have hAl := allS_le l
    obtain ⟨P, hP⟩ : ∃ P, P = allS l := ⟨_, rfl⟩
    rw [← hP] at hA a1 a2 hAl
    have hcnt : P.countP (fun p => decide (p.m = s)) = if q = true then 1 else 0 := by
      rw [a1]
      cases h : getS l s with
      | none => rw [(g2 h).2]; rfl
      | some e => rw [(g1 e h).2]; rfl
    have hsc : ∀ p ∈ P, p.m = s → p.n = n := fun p hp hm => by
      obtain ⟨e, h1, h2⟩ := a2 p hp hm
      rw [h2, (g1 e h1).1]
    obtain ⟨n', hn'⟩ : ∃ n' : Int, F .len rows = n' := ⟨_, rfl⟩
    have en : n' = (l.length : Int) := by rw [← hn', lenF hF, hrows, evR_len]
    clear g1 g2 a1 a2 hP
    cbv
    refine ⟨_, haw, ?_⟩
    cbv
    refine cF (tn) ?_
    cbv
    refine ⟨_, hfew, ?_⟩
    cbv
    rw [tn]
    refine bF (rfl) ?_
    cbv
    rw [hn']
    refine ⟨Nat × Int × List (List AV), fun x => apS l n' rows s x.2.1 x.2.2, fun x => x.2.1 = (x.1 : Int) ∧ x.1 ≤ l.length ∧ x.2.2 = evR (ownF (l.take x.1) s), fun x => l.length - x.1, ⟨(0, 0, []), ⟨rfl, Nat.zero_le _, rfl⟩, Le.trans (le_nil 5 35 26 (by rfl) (by rfl)) (le_of [] (by simp [leSl, leOb, injK, memK, parK, noTup, lk, rn0, rnA, plain] <;> first | rfl | decide))⟩, fun x hx => ?_⟩
    obtain ⟨i, i', ow⟩ := x
    obtain ⟨ei, hi, how⟩ := hx
    simp only at ei hi how
    have en : n' = (l.length : Int) := en
    have tl := ltF hF i l.length i' n' ei en
    obtain ⟨i2, hi2⟩ : ∃ i2, F .ar .add .i64 i' 1 = i2 := ⟨_, rfl⟩
    have ei2 : i2 = ((i + 1 : Nat) : Int) := hi2.symm.trans (incF hF ei (by omega))
    by_cases hil : i < l.length
    · have tl : F .cmp .lss i' n' = true := tl.2 hil
      obtain ⟨e, he⟩ : ∃ s, l[i]? = some s := ⟨_, List.getElem?_eq_getElem hil⟩
      have hrow : rows[i]? = some e.ac := by rw [hrows]; exact evR_get he
      have hmu : l.length - (i + 1) < l.length - i := by omega
      have ts : F .scmp .eql e.op.fld s = decide (e.op.fld = s) := seqF hF _ _
      have hlo : (ownF (l.take i) s).length ≤ 150 := Nat.le_trans (List.length_filter_le _ _) (by rw [List.length_take]; omega)
      by_cases hs : e.op.fld = s
      · have ts : F .scmp .eql e.op.fld s = true := by rw [ts]; exact decide_eq_true hs
        have hst : ownF (l.take (i + 1)) s = ownF (l.take i) s ++ [e] := by unfold ownF; rw [List.take_add_one, he]; simp [hs]
        obtain ⟨o2, ho2⟩ : ∃ x, x = F .app ow [e.ac] := ⟨_, rfl⟩
        have how2 : o2 = evR (ownF (l.take (i + 1)) s) := by rw [ho2, hst, evR_snoc, how, hF]; rfl
        have hrm : (F .len ow + F .len [e.ac]) * 232 ≤ 140737488355328 := by rw [lenF hF, lenF hF, how, evR_len]; simp only [List.length_singleton]; omega
        have hel : ∀ r ∈ [e.ac], r.length = 26 := fun r h => by rw [List.mem_singleton.1 h]; rfl
        clear hst how hget hget2 hall hcnt hsc hA
        cbv
        refine bT (tl) ?_
        cbv
        refine ⟨i, _, ei, hrow, rfl, ?_⟩
        cbv
        refine bT (ts) ?_
        cbv
        refine ⟨i, _, ei, hrow, rfl, ?_⟩
        cbv
        refine ⟨hel, hrm, ?_⟩
        cbv
        rw [hi2]
        exact ⟨(i + 1, i2, o2), ⟨ei2, hil, how2⟩, hmu, le_of [(0, 1)] (by simp [leSl, leOb, injK, memK, parK, noTup, lk, rn0, rnA, plain]; repeat (first | exact ho2.symm | refine And.intro ?_ ?_ | rfl | trivial))⟩
      · have ts : F .scmp .eql e.op.fld s = false := by rw [ts]; exact decide_eq_false hs
        have hst : ownF (l.take (i + 1)) s = ownF (l.take i) s := by unfold ownF; rw [List.take_add_one, he]; simp [hs]
        have how2 : ow = evR (ownF (l.take (i + 1)) s) := by rw [hst]; exact how
        clear hst how hget hget2 hall hcnt hsc hA
        cbv
        refine bT (tl) ?_
        cbv
        refine ⟨i, _, ei, hrow, rfl, ?_⟩
        cbv
        refine bF (ts) ?_
        cbv
        rw [hi2]
        exact ⟨(i + 1, i2, ow), ⟨ei2, hil, how2⟩, hmu, (le_of [] (by simp [leSl, leOb, injK, memK, parK, noTup, lk, rn0, rnA, plain] <;> first | rfl | decide))⟩
    · have tl : F .cmp .lss i' n' = false := by cases h : F .cmp .lss i' n' with | true => exact absurd (tl.1 h) hil | false => rfl
      have how : ow = rows2 := by rw [how, hrows2, List.take_of_length_le (by omega)]
      subst how
      obtain ⟨m', hm'⟩ : ∃ n' : Int, F .len A = n' := ⟨_, rfl⟩
      have em : m' = (P.length : Int) := by rw [← hm', lenF hF, hA, pR_len]
      clear hrows2
      cbv
      refine bF (tl) ?_
      cbv
      refine ⟨_, hget, ?_⟩
      cbv
      refine ⟨_, hget2, ?_⟩
      cbv
      refine ⟨_, hall, ?_⟩
      cbv
      rw [hm']
      refine ⟨Nat × Int × Int, fun x => { slots := [(59, aI x.2.1), (58, aI m'), (12, aI x.2.2), (11, .sl A), (10, aB q), (9, aI n), (8, aB q), (7, aI n), (4, aB false), (1, aS s), (0, .sl rows)], obs := [], ctr := 1 }, fun x => x.2.1 = (x.1 : Int) ∧ x.1 ≤ P.length ∧ x.2.2 = (((P.take x.1).countP (fun p => decide (p.m = s)) : Nat) : Int), fun x => P.length - x.1, ⟨(0, 0, 0), ⟨rfl, Nat.zero_le _, rfl⟩, (le_of [] (by simp [leSl, leOb, injK, memK, parK, noTup, lk, rn0, rnA, plain] <;> first | rfl | decide))⟩, fun x hx => ?_⟩
      obtain ⟨k, k', c⟩ := x
      obtain ⟨ek, hk, ec⟩ := hx
      simp only at ek hk ec
      have em : m' = (P.length : Int) := em
      have tk := ltF hF k P.length k' m' ek em
      obtain ⟨k2, hk2⟩ : ∃ i2, F .ar .add .i64 k' 1 = i2 := ⟨_, rfl⟩
      have ek2 : k2 = ((k + 1 : Nat) : Int) := hk2.symm.trans (incF hF ek (by omega))
      have hcl := List.countP_le_length (p := fun p => decide (p.m = s)) (l := P.take k)
      rw [List.length_take] at hcl
      by_cases hkl : k < P.length
      · have tk : F .cmp .lss k' m' = true := tk.2 hkl
        obtain ⟨p, hp⟩ : ∃ s, P[k]? = some s := ⟨_, List.getElem?_eq_getElem hkl⟩
        have hrow : A[k]? = some [aS p.m, aI p.n] := by rw [hA]; exact pR_get hp
        have hmk : P.length - (k + 1) < P.length - k := by omega
        have ts : F .scmp .eql p.m s = decide (p.m = s) := seqF hF _ _
        by_cases hs : p.m = s
        · have ts : F .scmp .eql p.m s = true := by rw [ts]; exact decide_eq_true hs
          have tn3 : F .cmp .neq p.n n = false := by rw [neF hF, hsc p (List.mem_of_getElem? hp) hs]; simp
          obtain ⟨c2, hc2⟩ : ∃ i2, F .ar .add .i64 c 1 = i2 := ⟨_, rfl⟩
          have ec2 : c2 = (((P.take (k + 1)).countP (fun p => decide (p.m = s)) : Nat) : Int) := by
            rw [← hc2, incF hF ec (by omega), List.take_add_one, hp]
            simp [hs]
          clear hget hget2 hall hcnt hsc hA ec
          cbv
          refine bT (tk) ?_
          cbv
          refine ⟨k, _, ek, hrow, rfl, ?_⟩
          cbv
          refine bT (ts) ?_
          cbv
          refine ⟨k, _, ek, hrow, rfl, ?_⟩
          cbv
          refine bF (tn3) ?_
          cbv
          rw [hk2, hc2]
          exact ⟨(k + 1, k2, c2), ⟨ek2, hkl, ec2⟩, hmk, (le_of [] (by simp [leSl, leOb, injK, memK, parK, noTup, lk, rn0, rnA, plain] <;> first | rfl | decide))⟩
        · have ts : F .scmp .eql p.m s = false := by rw [ts]; exact decide_eq_false hs
          have ec2 : c = (((P.take (k + 1)).countP (fun p => decide (p.m = s)) : Nat) : Int) := by
            rw [ec, List.take_add_one, hp]
            simp [hs]
          clear hget hget2 hall hcnt hsc hA ec
          cbv
          refine bT (tk) ?_
          cbv
          refine ⟨k, _, ek, hrow, rfl, ?_⟩
          cbv
          refine bF (ts) ?_
          cbv
          rw [hk2]
          exact ⟨(k + 1, k2, c), ⟨ek2, hkl, ec2⟩, hmk, (le_of [] (by simp [leSl, leOb, injK, memK, parK, noTup, lk, rn0, rnA, plain] <;> first | rfl | decide))⟩
      · have tk : F .cmp .lss k' m' = false := by cases h : F .cmp .lss k' m' with | true => exact absurd (tk.1 h) hkl | false => rfl
        rw [List.take_of_length_le (by omega), hcnt] at ec
        have t1 : F .cmp .eql n n = true := by rw [eqF hF]; exact decide_eq_true rfl
        have t2 : F .cmp .eql c 1 = q := by rw [eqF hF, ec]; cases q <;> rfl
        have t3 : F .cmp .lss c 2 = true := by rw [lsF hF, ec]; cases q <;> rfl
        clear hget hget2 hall hcnt hsc hA ec
        cbv
        refine bF (tk) ?_
        cbv
        refine bT (t1) ?_
        cbv
        refine ⟨_, hC _ _ _ (csem_bool q q true (by cases q <;> rfl)), ?_⟩
        cbv
        refine bT (rfl) ?_
        cbv
        rw [t2]
        refine ⟨_, hC _ _ _ (csem_bool q q true (by cases q <;> rfl)), ?_⟩
        cbv
        refine bT (rfl) ?_
        cbv
        rw [t3]
        simp
end Go.Proofs.Ytdmdahnnfancpaa
