import Derived.Test.YtdmdahnnfancpaaH6
set_option linter.unusedSimpArgs false
set_option linter.unusedVariables false
namespace Go.Proofs.Ytdmdahnnfancpaa
open Go Go.RowKit Am

theorem evR_snocH (l : List Ev) (e : Ev) : evR (l ++ [e]) = evR l ++ [e.ac] := by simp [evR]
/-! ### few -/
def fewH (l : List Ev) : Bool := decide (l.length ≤ 200) && l.all fun e => decide (¬ IntKind.i64.wrap ((e.op.fld.size : Int) + (e.op.val.size : Int)) > 1000)
theorem addW {F : Sy} (hF : F = sy) (a b : Int) : F .ar .add .i64 a b = IntKind.i64.wrap (a + b) := by rw [hF]; rfl
theorem fewH_ok (l : List Ev) (rows : List (List AV)) (hrows : rows = evR l) (r : Bool) (hr : r = fewH l) : CSem Try.prog (.fn 24) [.sl rows] (.pure [aB r]) := by
  refine of_text gam_ok mixed { n := 29 } Try.func24 (by kernel_rfl) rfl rfl (by simp) (by decide) fun F C D hF hC hD => ?_
  obtain ⟨n', hn'⟩ : ∃ n' : Int, F .len rows = n' := ⟨_, rfl⟩
  have en : n' = (l.length : Int) := by rw [← hn', lenF hF, hrows, evR_len]
  have tg : F .cmp .gtr n' 200 = decide (n' > 200) := gtF hF _ _
  by_cases h150 : l.length ≤ 200
  · have tg : F .cmp .gtr n' 200 = false := by rw [tg]; exact decide_eq_false (by omega)
    have hr : r = l.all fun e => decide (¬ IntKind.i64.wrap ((e.op.fld.size : Int) + (e.op.val.size : Int)) > 1000) := by rw [hr]; unfold fewH; rw [decide_eq_true h150]; rfl
    cbv
    rw [hn']
    refine bF (tg) ?_
    cbv
    rw [hn']
    refine ⟨Nat × Int, fun x => { slots := [(9, aI x.2), (8, aI n'), (2, aB false), (0, .sl rows)], obs := [], ctr := 0 }, fun x => x.2 = (x.1 : Int) ∧ x.1 ≤ l.length ∧ (l.take x.1).all (fun e => decide (¬ IntKind.i64.wrap ((e.op.fld.size : Int) + (e.op.val.size : Int)) > 1000)) = true, fun x => l.length - x.1, ⟨(0, 0), ⟨rfl, Nat.zero_le _, rfl⟩, (le_of [] (by simp [leSl, leOb, injK, memK, parK, noTup, lk, rn0, rnA, plain] <;> first | rfl | decide))⟩, fun x hx => ?_⟩
    obtain ⟨i, i'⟩ := x
    obtain ⟨ei, hi, hall⟩ := hx
    simp only at ei hi hall
    have en : n' = (l.length : Int) := en
    have tl := ltF hF i l.length i' n' ei en
    obtain ⟨i2, hi2⟩ : ∃ i2, F .ar .add .i64 i' 1 = i2 := ⟨_, rfl⟩
    have ei2 : i2 = ((i + 1 : Nat) : Int) := hi2.symm.trans (incF hF ei (by omega))
    by_cases hil : i < l.length
    · have tl : F .cmp .lss i' n' = true := tl.2 hil
      obtain ⟨e, he⟩ : ∃ s, l[i]? = some s := ⟨_, List.getElem?_eq_getElem hil⟩
      have hrow : rows[i]? = some e.ac := by rw [hrows]; exact evR_get he
      have hmu : l.length - (i + 1) < l.length - i := by omega
      obtain ⟨z, hz⟩ : ∃ z : Int, F .ar .add .i64 (F .slen e.op.fld) (F .slen e.op.val) = z := ⟨_, rfl⟩
      have ez : z = IntKind.i64.wrap ((e.op.fld.size : Int) + (e.op.val.size : Int)) := by rw [← hz, slenF hF, slenF hF, addW hF]
      have t1 : F .cmp .gtr z 1000 = decide (z > 1000) := gtF hF _ _
      by_cases hsz : z > 1000
      · have t1 : F .cmp .gtr z 1000 = true := by rw [t1]; exact decide_eq_true hsz
        have hr : r = false := by
          rw [hr, List.all_eq_false]
          refine ⟨e, List.mem_of_getElem? he, ?_⟩
          rw [← ez]
          simpa using hsz
        subst hr
        clear hall ez
        cbv
        refine bT (tl) ?_
        cbv
        refine ⟨hC _ _ _ (ben_ok (by kernel_rfl)), ?_⟩
        cbv
        refine ⟨i, _, ei, hrow, rfl, ?_⟩
        cbv
        refine ⟨i, _, ei, hrow, rfl, ?_⟩
        cbv
        have hz : F .ar .add .i64 (F .slen e.4.3) (F .slen e.4.4) = z := hz
        rw [hz]
        refine bT (t1) ?_
        cbv
        try simp
      · have t1 : F .cmp .gtr z 1000 = false := by rw [t1]; exact decide_eq_false hsz
        have hall2 : (l.take (i + 1)).all (fun e => decide (¬ IntKind.i64.wrap ((e.op.fld.size : Int) + (e.op.val.size : Int)) > 1000)) = true := by
          rw [List.take_add_one, he, List.all_append, hall]
          simp only [Option.toList, List.all_cons, List.all_nil, ← ez]
          simpa using hsz
        clear hr hall ez
        cbv
        refine bT (tl) ?_
        cbv
        refine ⟨hC _ _ _ (ben_ok (by kernel_rfl)), ?_⟩
        cbv
        refine ⟨i, _, ei, hrow, rfl, ?_⟩
        cbv
        refine ⟨i, _, ei, hrow, rfl, ?_⟩
        cbv
        have hz : F .ar .add .i64 (F .slen e.4.3) (F .slen e.4.4) = z := hz
        rw [hz]
        refine bF (t1) ?_
        cbv
        rw [hi2]
        exact ⟨(i + 1, i2), ⟨ei2, hil, hall2⟩, hmu, (le_of [] (by simp [leSl, leOb, injK, memK, parK, noTup, lk, rn0, rnA, plain] <;> first | rfl | decide))⟩
    · have tl : F .cmp .lss i' n' = false := by cases h : F .cmp .lss i' n' with | true => exact absurd (tl.1 h) hil | false => rfl
      have hr : r = true := by rw [hr, ← hall, List.take_of_length_le (by omega)]
      subst hr
      clear hall
      cbv
      refine bF (tl) ?_
      cbv
      try simp
  · have tg : F .cmp .gtr n' 200 = true := by rw [tg]; exact decide_eq_true (by omega)
    have hr : r = false := by rw [hr]; unfold fewH; rw [decide_eq_false h150]; rfl
    subst hr
    cbv
    rw [hn']
    refine bT (tg) ?_
    cbv
    try simp
/-! ### The reference's Get -/
abbrev rgH (n' : Int) (rows : List (List AV)) (s : ByteArray) (i' : Int) (ow : List (List AV)) : St := { slots := [(12, aI i'), (11, aI n'), (6, .own 0 0), (5, aB false), (4, aS (BA [])), (1, aS s), (0, .sl rows)], obs := [(0, .row 35 26 ow 0 0)], ctr := 1 }
set_option maxHeartbeats 8000000 in
theorem rgetF_ok (l : List Ev) (hl : l.length ≤ 1000) (rows : List (List AV)) (hrows : rows = evR l) (s v : ByteArray) (q : Bool) (g1 : ∀ e, getH l s = some e → v = e.op.val ∧ q = true) (g2 : getH l s = none → v = BA [] ∧ q = false) : CSem Try.prog (.fn 26) [.sl rows, aS s] (.pure [aS v, aB q]) := by
  refine of_text gam_ok mixed { n := 49, keep := [38] } Try.func26 (by kernel_rfl) rfl rfl (by simp) (by decide) fun F C D hF hC hD => ?_
  obtain ⟨n', hn'⟩ : ∃ n' : Int, F .len rows = n' := ⟨_, rfl⟩
  have en : n' = (l.length : Int) := by rw [← hn', lenF hF, hrows, evR_len]
  obtain ⟨rows2, hrows2⟩ : ∃ r, r = evR (ownH l s) := ⟨_, rfl⟩
  have hol : (ownH l s).length ≤ l.length := List.length_filter_le _ _
  obtain ⟨x, hx1, hx2, hxn⟩ : ∃ x : Ev, (∀ e, latR (ownH l s) = some e → x = e ∧ q = true) ∧ (latR (ownH l s) = none → x = zE ∧ q = false) ∧ x.op.val = v := by
    unfold getH at g1 g2
    cases h : latR (ownH l s) with
    | none => exact ⟨zE, (fun e he => by cases he), fun _ => ⟨rfl, (g2 h).2⟩, by rw [(g2 h).1]; rfl⟩
    | some e => exact ⟨e, (fun e' he => by injection he with he; exact ⟨he, (g1 e h).2⟩), (fun he => by cases he), (g1 e h).1.symm⟩
  have hlat := hC _ _ _ (rlatest_ok (ownH l s) (by omega) rows2 hrows2 x q hx1 hx2)
  clear g1 g2 hx1 hx2
  cbv
  rw [hn']
  refine ⟨Nat × Int × List (List AV), fun x => rgH n' rows s x.2.1 x.2.2, fun x => x.2.1 = (x.1 : Int) ∧ x.1 ≤ l.length ∧ x.2.2 = evR (ownH (l.take x.1) s), fun x => l.length - x.1, ⟨(0, 0, []), ⟨rfl, Nat.zero_le _, rfl⟩, Le.trans (le_nil 6 35 26 (by rfl) (by rfl)) (le_of [] (by simp [leSl, leOb, injK, memK, parK, noTup, lk, rn0, rnA, plain] <;> first | rfl | decide))⟩, fun x hx => ?_⟩
  obtain ⟨i, i', ow⟩ := x
  obtain ⟨ei, hi, how⟩ := hx
  simp only at ei hi how
  have en : n' = (l.length : Int) := en
  have tl := ltF hF i l.length i' n' ei en
  obtain ⟨i2, hi2⟩ : ∃ i2, F .ar .add .i64 i' 1 = i2 := ⟨_, rfl⟩
  have ei2 : i2 = ((i + 1 : Nat) : Int) := hi2.symm.trans (incF hF ei (by omega))
  by_cases hil : i < l.length
  · have tl : F .cmp .lss i' n' = true := tl.2 hil
    obtain ⟨e, he⟩ : ∃ s, l[i]? = some s := ⟨_, List.getElem?_eq_getElem hil⟩
    have hrow : rows[i]? = some e.ac := by rw [hrows]; exact evR_get he
    have hmu : l.length - (i + 1) < l.length - i := by omega
    have t7 : F .cmp .eql e.op.kind 5 = decide (e.op.kind = 5) := eqF hF _ _
    have ts : F .scmp .eql e.op.fld s = decide (e.op.fld = s) := seqF hF _ _
    have hlo : (ownH (l.take i) s).length ≤ 1000 := Nat.le_trans (List.length_filter_le _ _) (by rw [List.length_take]; omega)
    by_cases h7 : e.op.kind = 5
    · have t7 : F .cmp .eql e.op.kind 5 = true := by rw [t7]; exact decide_eq_true h7
      by_cases hs : e.op.fld = s
      · have ts : F .scmp .eql e.op.fld s = true := by rw [ts]; exact decide_eq_true hs
        have hst : ownH (l.take (i + 1)) s = ownH (l.take i) s ++ [e] := by unfold ownH; rw [List.take_add_one, he]; simp [hs, h7]
        obtain ⟨o2, ho2⟩ : ∃ x, x = F .app ow [e.ac] := ⟨_, rfl⟩
        have how2 : o2 = evR (ownH (l.take (i + 1)) s) := by rw [ho2, hst, evR_snocH, how, hF]; rfl
        have hrm : (F .len ow + F .len [e.ac]) * 232 ≤ 140737488355328 := by rw [lenF hF, lenF hF, how, evR_len]; simp only [List.length_singleton]; omega
        have hel : ∀ r ∈ [e.ac], r.length = 26 := fun r h => by rw [List.mem_singleton.1 h]; rfl
        clear hst how hlat
        cbv
        refine bT (tl) ?_
        cbv
        refine ⟨i, _, ei, hrow, rfl, ?_⟩
        cbv
        refine bT (t7) ?_
        cbv
        refine ⟨i, _, ei, hrow, rfl, ?_⟩
        cbv
        refine bT (ts) ?_
        cbv
        refine ⟨i, _, ei, hrow, rfl, ?_⟩
        cbv
        refine ⟨hel, hrm, ?_⟩
        cbv
        rw [hi2]
        exact ⟨(i + 1, i2, o2), ⟨ei2, hil, how2⟩, hmu, le_of [(0, 1)] (by simp [leSl, leOb, injK, memK, parK, noTup, lk, rn0, rnA, plain]; repeat (first | exact ho2.symm | refine And.intro ?_ ?_ | rfl | trivial))⟩
      · have ts : F .scmp .eql e.op.fld s = false := by rw [ts]; exact decide_eq_false hs
        have hst : ownH (l.take (i + 1)) s = ownH (l.take i) s := by unfold ownH; rw [List.take_add_one, he]; simp [hs]
        have how2 : ow = evR (ownH (l.take (i + 1)) s) := by rw [hst]; exact how
        clear hst how hlat
        cbv
        refine bT (tl) ?_
        cbv
        refine ⟨i, _, ei, hrow, rfl, ?_⟩
        cbv
        refine bT (t7) ?_
        cbv
        refine ⟨i, _, ei, hrow, rfl, ?_⟩
        cbv
        refine bF (ts) ?_
        cbv
        rw [hi2]
        exact ⟨(i + 1, i2, ow), ⟨ei2, hil, how2⟩, hmu, (le_of [] (by simp [leSl, leOb, injK, memK, parK, noTup, lk, rn0, rnA, plain] <;> first | rfl | decide))⟩
    · have t7 : F .cmp .eql e.op.kind 5 = false := by rw [t7]; exact decide_eq_false h7
      have hst : ownH (l.take (i + 1)) s = ownH (l.take i) s := by unfold ownH; rw [List.take_add_one, he]; simp [h7]
      have how2 : ow = evR (ownH (l.take (i + 1)) s) := by rw [hst]; exact how
      clear hst how hlat
      cbv
      refine bT (tl) ?_
      cbv
      refine ⟨i, _, ei, hrow, rfl, ?_⟩
      cbv
      refine bF (t7) ?_
      cbv
      rw [hi2]
      exact ⟨(i + 1, i2, ow), ⟨ei2, hil, how2⟩, hmu, (le_of [] (by simp [leSl, leOb, injK, memK, parK, noTup, lk, rn0, rnA, plain] <;> first | rfl | decide))⟩
  · have tl : F .cmp .lss i' n' = false := by cases h : F .cmp .lss i' n' with | true => exact absurd (tl.1 h) hil | false => rfl
    have how : ow = rows2 := by rw [how, hrows2, List.take_of_length_le (by omega)]
    subst how
    clear hrows2
    cbv
    refine bF (tl) ?_
    cbv
    refine ⟨_, hlat, ?_⟩
    cbv
    have hxn : x.4.4 = v := hxn
    simp [hxn]
/-! ### Pairs of texts compared -/
theorem pfEq0 (t : Nat) (fs : Array Field) (hu : Try.prog.underlying t = some (.struct fs)) (hp : Try.prog.stoodInHeld t = false) (hm : Try.prog.eqGuardType Try.prog.depth t = false)
    (hF : ∀ a b : Pf, FOK 9999 #[.string a.1, .string a.2] #[.string b.1, .string b.2] fs.toList [a.1 == b.1, a.2 == b.2]) (a b : Pf) (q : Bool) (hq : q = true ↔ a = b) : CSem Try.prog (.eq t) [.agg [aS a.1, aS a.2], .agg [aS b.1, aS b.2]] (.pure [aB q]) := by
  have h := fun w => eq_struct 9999 hu hp (hF a b) w
  have e : ([a.1 == b.1, a.2 == b.2].all id) = q := by
    have e1 : ([a.1 == b.1, a.2 == b.2].all id) = true ↔ a = b := by
      obtain ⟨am, an⟩ := a
      obtain ⟨bm, bn⟩ := b
      simp only [List.all_cons, List.all_nil, id, Bool.and_eq_true, Bool.and_true, bytes_beq, Prod.mk.injEq]
    cases h1 : ([a.1 == b.1, a.2 == b.2].all id) with
    | true => exact (hq.2 (e1.1 h1)).symm
    | false =>
      cases h2 : q with
      | false => rfl
      | true => have := e1.2 (hq.1 h2); rw [h1] at this; cases this
  rw [e] at h
  exact csem_eq (t := t) (xs := [.string a.1, .string a.2]) (ys := [.string b.1, .string b.2]) hm h
theorem pfEq77 (a b : Pf) (q : Bool) (hq : q = true ↔ a = b) : CSem Try.prog (.eq 77) [.agg [aS a.1, aS a.2], .agg [aS b.1, aS b.2]] (.pure [aB q]) :=
  pfEq0 77 _ Try.underlying77 (by kernel_rfl) (by kernel_rfl) (fun a b => .cons (by decide) (a := .string a.1) (b := .string b.1) (fun w => by kernel_rfl) (fun w => by kernel_rfl) (fun w => eq_str _ _ _ w) (.cons (by decide) (a := .string a.2) (b := .string b.2) (fun w => by kernel_rfl) (fun w => by kernel_rfl) (fun w => eq_str _ _ _ w) .nil)) a b q hq
theorem pfEq54 (a b : Pf) (q : Bool) (hq : q = true ↔ a = b) : CSem Try.prog (.eq 54) [.agg [aS a.1, aS a.2], .agg [aS b.1, aS b.2]] (.pure [aB q]) :=
  pfEq0 54 _ Try.underlying54 (by kernel_rfl) (by kernel_rfl) (fun a b => .cons (by decide) (a := .string a.1) (b := .string b.1) (fun w => by kernel_rfl) (fun w => by kernel_rfl) (fun w => eq_str _ _ _ w) (.cons (by decide) (a := .string a.2) (b := .string b.2) (fun w => by kernel_rfl) (fun w => by kernel_rfl) (fun w => eq_str _ _ _ w) .nil)) a b q hq
theorem sameF_ok (P : List Pf) (hl : P.length ≤ 1000000) (A B : List (List AV)) (hA : A = pfR P) (hB : B = pfR P) : CSem Try.prog (.fn 27) [.sl A, .sl B] (.pure [aB true]) := by
  refine of_text gam_ok mixed { n := 26 } Try.func27 (by kernel_rfl) rfl rfl (by simp) (by decide) fun F C D hF hC hD => ?_
  obtain ⟨n', hn'⟩ : ∃ n' : Int, F .len A = n' := ⟨_, rfl⟩
  have en : n' = (P.length : Int) := by rw [← hn', lenF hF, hA, pfR_len]
  have hm' : F .len B = n' := by rw [en, lenF hF, hB, pfR_len]
  have tn : F .cmp .neq n' n' = false := by rw [neF hF]; simp
  have tb : F .bnot true = false := by rw [bnotF hF]; rfl
  cbv
  rw [hn', hm']
  refine bF (tn) ?_
  cbv
  rw [hn']
  refine ⟨Nat × Int, fun x => { slots := [(13, aI x.2), (12, aI n'), (4, aB false), (1, .sl B), (0, .sl A)], obs := [], ctr := 0 }, fun x => x.2 = (x.1 : Int) ∧ x.1 ≤ P.length, fun x => P.length - x.1, ⟨(0, 0), ⟨rfl, Nat.zero_le _⟩, (le_of [] (by simp [leSl, leOb, injK, memK, parK, noTup, lk, rn0, rnA, plain] <;> first | rfl | decide))⟩, fun x hx => ?_⟩
  obtain ⟨i, i'⟩ := x
  obtain ⟨ei, hi⟩ := hx
  simp only at ei hi
  have en : n' = (P.length : Int) := en
  have tl := ltF hF i P.length i' n' ei en
  obtain ⟨i2, hi2⟩ : ∃ i2, F .ar .add .i64 i' 1 = i2 := ⟨_, rfl⟩
  have ei2 : i2 = ((i + 1 : Nat) : Int) := hi2.symm.trans (incF hF ei (by omega))
  by_cases hil : i < P.length
  · have tl : F .cmp .lss i' n' = true := tl.2 hil
    obtain ⟨p, hp⟩ : ∃ s, P[i]? = some s := ⟨_, List.getElem?_eq_getElem hil⟩
    have hrow : A[i]? = some [aS p.1, aS p.2] := by rw [hA]; exact pfR_get hp
    have hrow2 : B[i]? = some [aS p.1, aS p.2] := by rw [hB]; exact pfR_get hp
    have hmu : P.length - (i + 1) < P.length - i := by omega
    have heq := hC _ _ _ (pfEq77 p p true (by simp))
    cbv
    refine bT (tl) ?_
    cbv
    refine ⟨hC _ _ _ (ben_ok (by kernel_rfl)), ?_⟩
    cbv
    refine ⟨i, _, ei, hrow, rfl, ?_⟩
    cbv
    refine ⟨i, _, ei, hrow2, rfl, ?_⟩
    cbv
    refine ⟨_, heq, ?_⟩
    cbv
    refine bF (tb) ?_
    cbv
    rw [hi2]
    exact ⟨(i + 1, i2), ⟨ei2, hil⟩, hmu, (le_of [] (by simp [leSl, leOb, injK, memK, parK, noTup, lk, rn0, rnA, plain] <;> first | rfl | decide))⟩
  · have tl : F .cmp .lss i' n' = false := by cases h : F .cmp .lss i' n' with | true => exact absurd (tl.1 h) hil | false => rfl
    cbv
    refine bF (tl) ?_
    cbv
    try simp
end Go.Proofs.Ytdmdahnnfancpaa
