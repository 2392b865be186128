import Derived.Test.YtdmdahnnfancpaaJ6
set_option linter.unusedSimpArgs false
set_option linter.unusedVariables false
namespace Go.Proofs.Ytdmdahnnfancpaa
open Go Go.RowKit Am

theorem dotsEq_ok (P : List Dt) (hl : P.length ≤ 1000000) (A B : List (List AV)) (hA : A = dR P) (hB : B = dR P) : CSem Try.prog (.fn 35) [.sl A, .sl B] (.pure [aB true]) := by
  refine of_text gam_ok mixed { n := 26 } Try.func35 (by kernel_rfl) rfl rfl (by simp) (by decide) fun F C D hF hC hD => ?_
  obtain ⟨n', hn'⟩ : ∃ n' : Int, F .len A = n' := ⟨_, rfl⟩
  have en : n' = (P.length : Int) := by rw [← hn', lenF hF, hA, dR_len]
  have hm' : F .len B = n' := by rw [en, lenF hF, hB, dR_len]
  have tn : F .cmp .neq n' n' = false := by rw [neF hF]; simp
  have tb : F .bnot true = false := by rw [bnotF hF]; rfl
  cbv
  rw [hn', hm']
  refine bF (tn) ?_
  cbv
  rw [hn']
  refine ⟨Nat × Int, fun x => { slots := [(13, aI x.2), (12, aI n'), (4, aB false), (1, .sl B), (0, .sl A)], obs := [], ctr := 0 }, fun x => x.2 = (x.1 : Int) ∧ x.1 ≤ P.length, fun x => P.length - x.1, ⟨(0, 0), ⟨rfl, Nat.zero_le _⟩, (le_of [] (by simp [leSl, leOb, injK, memK, parK, noTup, lk, rn0, rnA, plain] <;> first | rfl | decide))⟩, fun x hx => ?_⟩
  obtain ⟨i, i'⟩ := x
  obtain ⟨ei, hi⟩ := hx
  simp only at ei hi
  have en : n' = (P.length : Int) := en
  have tl := ltF hF i P.length i' n' ei en
  obtain ⟨i2, hi2⟩ : ∃ i2, F .ar .add .i64 i' 1 = i2 := ⟨_, rfl⟩
  have ei2 : i2 = ((i + 1 : Nat) : Int) := hi2.symm.trans (incF hF ei (by omega))
  by_cases hil : i < P.length
  · have tl : F .cmp .lss i' n' = true := tl.2 hil
    obtain ⟨p, hp⟩ : ∃ s, P[i]? = some s := ⟨_, List.getElem?_eq_getElem hil⟩
    have hrow : A[i]? = some [aI p.R, aI p.N] := by rw [hA]; exact dR_get hp
    have hrow2 : B[i]? = some [aI p.R, aI p.N] := by rw [hB]; exact dR_get hp
    have hmu : P.length - (i + 1) < P.length - i := by omega
    have heq := hC _ _ _ (dtEq p p true (by simp))
    cbv
    refine bT (tl) ?_
    cbv
    refine ⟨hC _ _ _ (ben_ok (by kernel_rfl)), ?_⟩
    cbv
    refine ⟨i, _, ei, hrow, rfl, ?_⟩
    cbv
    refine ⟨i, _, ei, hrow2, rfl, ?_⟩
    cbv
    refine ⟨_, heq, ?_⟩
    cbv
    refine bF (tb) ?_
    cbv
    rw [hi2]
    exact ⟨(i + 1, i2), ⟨ei2, hil⟩, hmu, (le_of [] (by simp [leSl, leOb, injK, memK, parK, noTup, lk, rn0, rnA, plain] <;> first | rfl | decide))⟩
  · have tl : F .cmp .lss i' n' = false := by cases h : F .cmp .lss i' n' with | true => exact absurd (tl.1 h) hil | false => rfl
    cbv
    refine bF (tl) ?_
    cbv
    try simp

theorem riseD_ext {a b : List Dt} (ha : a.Pairwise fun x y => ltD x y = true) (hb : b.Pairwise fun x y => ltD x y = true) (h : ∀ x, x ∈ a ↔ x ∈ b) : a = b := by
  have nd : ∀ {l : List Dt}, (l.Pairwise fun x y => ltD x y = true) → l.Nodup := fun h => h.imp fun {x y} hlt he => by rw [he, ltD_irr] at hlt; cases hlt
  exact List.Perm.eq_of_pairwise (le := fun x y => ltD x y = true) (fun x y _ _ h1 h2 => by have := ltD_trans h1 h2; rw [ltD_irr] at this; cases this) ha hb ((List.perm_ext_iff_of_nodup (nd ha) (nd hb)).2 h)
theorem puts_ok : ∀ (m acc : List Dt), (acc.Pairwise fun x y => ltD x y = true) → ((m.foldl putD acc).Pairwise fun x y => ltD x y = true) ∧ (∀ x, x ∈ m.foldl putD acc ↔ x ∈ acc ∨ x ∈ m) ∧ (m.foldl putD acc).length ≤ acc.length + m.length
  | [], acc, h => ⟨h, fun x => by simp, by simp⟩
  | d :: m, acc, h => by
    obtain ⟨h1, h2⟩ := putD_ok d h
    obtain ⟨g1, g2, g3⟩ := puts_ok m _ h1
    have hl := putD_len acc d
    refine ⟨g1, fun x => ?_, by simp only [List.foldl_cons, List.length_cons]; omega⟩
    rw [List.foldl_cons, g2, h2, List.mem_cons]
    constructor
    · rintro ((h | h) | h)
      · exact .inr (.inl h)
      · exact .inl h
      · exact .inr (.inr h)
    · rintro (h | h | h)
      · exact .inl (.inr h)
      · exact .inl (.inl h)
      · exact .inr h
theorem puts_eq (l : List Ev) (s : ByteArray) : (dotsM l s).foldl putD [] = dotS l s := by
  obtain ⟨h1, h2, _⟩ := puts_ok (dotsM l s) [] List.Pairwise.nil
  obtain ⟨g1, g2⟩ := dotS_spec l s
  refine riseD_ext h1 g1 fun x => ?_
  rw [h2, g2]
  unfold dotsM
  simp [List.mem_filter, and_assoc]
theorem nil_box (w : World) (S : Nat → Prop) (xs : List Value) (h : RepL w S [.v (.slice none 0 0)] xs) : RepL w S [.sl []] xs := by
  obtain ⟨y, ys, rfl, h1, h2⟩ := RepL.uncons h
  cases h1
  exact RepL.cons (.nil _ _ (fun _ => rfl)) h2
set_option maxHeartbeats 8000000 in
theorem rDots_ok (l : List Ev) (hl : l.length ≤ 900) (rows : List (List AV)) (hrows : rows = evR l) (s : ByteArray) (out : List (List AV)) (hout : out = dR (dotS l s)) : CSem Try.prog (.fn 37) [.sl rows, aS s] (.own 29 2 out []) := by
  refine of_text gam_ok mixed { n := 62, keep := [10, 59], wrs := [59] } Try.func37 (by kernel_rfl) rfl rfl (by simp) (by decide) fun F C D hF hC hD => ?_
  obtain ⟨n', hn'⟩ : ∃ n' : Int, F .len rows = n' := ⟨_, rfl⟩
  have en : n' = (l.length : Int) := by rw [← hn', lenF hF, hrows, evR_len]
  cbv
  rw [hn']
  refine ⟨Nat × Int × List (List AV), fun x => { slots := [(13, aI x.2.1), (12, aI n'), (5, .ptr 0 0), (4, .v (.slice none 0 0)), (1, aS s), (0, .sl rows)], obs := [(0, .box 93 [.sl x.2.2] false)], ctr := 1 }, fun x => x.2.1 = (x.1 : Int) ∧ x.1 ≤ l.length ∧ x.2.2 = iR ((dotsM (l.take x.1) s).foldl putD []), fun x => l.length - x.1, ⟨(0, 0, []), ⟨rfl, Nat.zero_le _, rfl⟩, Le.trans (le_box 0 93 _ [.sl []] (by rfl) (fun w S xs h => nil_box w S xs h)) (le_of [] (by simp [leSl, leOb, injK, memK, parK, noTup, lk, rn0, rnA, plain] <;> first | rfl | decide))⟩, fun x hx => ?_⟩
  obtain ⟨i, i', B⟩ := x
  obtain ⟨ei, hi, hB⟩ := hx
  simp only at ei hi hB
  have en : n' = (l.length : Int) := en
  have tlI := ltF hF i l.length i' n' ei en
  obtain ⟨i2, hi2⟩ : ∃ i2, F .ar .add .i64 i' 1 = i2 := ⟨_, rfl⟩
  have ei2 : i2 = ((i + 1 : Nat) : Int) := hi2.symm.trans (incF hF ei (by omega))
  by_cases hil : i < l.length
  · have tl : F .cmp .lss i' n' = true := tlI.2 hil
    obtain ⟨e, he⟩ : ∃ s, l[i]? = some s := ⟨_, List.getElem?_eq_getElem hil⟩
    have hrow : rows[i]? = some e.ac := by rw [hrows]; exact evR_get he
    have hmu : l.length - (i + 1) < l.length - i := by omega
    have t3 : F .cmp .eql e.op.kind 3 = decide (e.op.kind = 3) := eqF hF _ _
    have ts : F .scmp .eql e.op.fld s = decide (e.op.fld = s) := seqF hF _ _
    have hst := dotsM_step he s
    unfold telB at hst
    by_cases h3 : e.op.kind = 3
    · have t3 : F .cmp .eql e.op.kind 3 = true := by rw [t3]; exact decide_eq_true h3
      by_cases hs : e.op.fld = s
      · have ts : F .scmp .eql e.op.fld s = true := by rw [ts]; exact decide_eq_true hs
        rw [if_pos (by simp [h3, hs])] at hst
        have hBl := (puts_ok (dotsM (l.take i) s) [] List.Pairwise.nil).2.2
        have hdl := dotsM_len (l.take i) s
        rw [List.length_take] at hdl
        simp only [List.length_nil] at hBl
        obtain ⟨B2, hB2⟩ : ∃ b, b = iR (putD ((dotsM (l.take i) s).foldl putD []) e.dot) := ⟨_, rfl⟩
        have hput := hC _ _ _ (put_ok ((dotsM (l.take i) s).foldl putD []) (by omega) e.dot B hB B2 hB2)
        have hB3 : B2 = iR ((dotsM (l.take (i + 1)) s).foldl putD []) := by rw [hst, List.foldl_append]; exact hB2
        clear hst hB hB2 hBl hdl hout tlI
        cbv
        refine bT (tl) ?_
        cbv
        refine ⟨i, _, ei, hrow, rfl, ?_⟩
        cbv
        refine bT (t3) ?_
        cbv
        refine ⟨i, _, ei, hrow, rfl, ?_⟩
        cbv
        refine bT (ts) ?_
        cbv
        refine ⟨i, _, ei, hrow, rfl, ?_⟩
        cbv
        refine ⟨_, _, hput, ?_⟩
        cbv
        rw [hi2]
        exact ⟨(i + 1, i2, B2), ⟨ei2, hil, hB3⟩, hmu, (le_of [] (by simp [leSl, leOb, injK, memK, parK, noTup, lk, rn0, rnA, plain] <;> first | rfl | decide))⟩
      · have ts : F .scmp .eql e.op.fld s = false := by rw [ts]; exact decide_eq_false hs
        rw [if_neg (by simp [hs])] at hst
        have hB3 : B = iR ((dotsM (l.take (i + 1)) s).foldl putD []) := by rw [hst]; exact hB
        clear hst hB hout tlI
        cbv
        refine bT (tl) ?_
        cbv
        refine ⟨i, _, ei, hrow, rfl, ?_⟩
        cbv
        refine bT (t3) ?_
        cbv
        refine ⟨i, _, ei, hrow, rfl, ?_⟩
        cbv
        refine bF (ts) ?_
        cbv
        rw [hi2]
        exact ⟨(i + 1, i2, B), ⟨ei2, hil, hB3⟩, hmu, (le_of [] (by simp [leSl, leOb, injK, memK, parK, noTup, lk, rn0, rnA, plain] <;> first | rfl | decide))⟩
    · have t3 : F .cmp .eql e.op.kind 3 = false := by rw [t3]; exact decide_eq_false h3
      rw [if_neg (by simp [h3])] at hst
      have hB3 : B = iR ((dotsM (l.take (i + 1)) s).foldl putD []) := by rw [hst]; exact hB
      clear hst hB hout tlI
      cbv
      refine bT (tl) ?_
      cbv
      refine ⟨i, _, ei, hrow, rfl, ?_⟩
      cbv
      refine bF (t3) ?_
      cbv
      rw [hi2]
      exact ⟨(i + 1, i2, B), ⟨ei2, hil, hB3⟩, hmu, (le_of [] (by simp [leSl, leOb, injK, memK, parK, noTup, lk, rn0, rnA, plain] <;> first | rfl | decide))⟩
  · have tl : F .cmp .lss i' n' = false := by cases h : F .cmp .lss i' n' with | true => exact absurd (tlI.1 h) hil | false => rfl
    rw [List.take_of_length_le (by omega), puts_eq] at hB
    have hPl : (dotS l s).length ≤ 1000 := by
      rw [← puts_eq]
      have h1 := (puts_ok (dotsM l s) [] List.Pairwise.nil).2.2
      have h2 := dotsM_len l s
      simp only [List.length_nil] at h1
      omega
    obtain ⟨P, hP⟩ : ∃ P, P = dotS l s := ⟨_, rfl⟩
    rw [← hP] at hB hPl hout
    obtain ⟨m', hm'⟩ : ∃ n' : Int, F .len B = n' := ⟨_, rfl⟩
    have em : m' = (P.length : Int) := by rw [← hm', lenF hF, hB, iR_len]
    clear hP tlI
    cbv
    refine bF (tl) ?_
    cbv
    rw [hm']
    refine ⟨Nat × Int × List (List AV), fun x => { slots := [(46, aI x.2.1), (45, aI m'), (7, .own 1 0), (5, .ptr 0 0), (4, .v (.slice none 0 0)), (1, aS s), (0, .sl rows)], obs := [(1, .row 29 2 x.2.2 0 0), (0, .box 93 [.sl B] false)], ctr := 2 }, fun x => x.2.1 = (x.1 : Int) ∧ x.1 ≤ P.length ∧ x.2.2 = dR (P.take x.1), fun x => P.length - x.1, ⟨(0, 0, []), ⟨rfl, Nat.zero_le _, rfl⟩, Le.trans (le_nil 7 29 2 (by rfl) (by rfl)) (le_of [] (by simp [leSl, leOb, injK, memK, parK, noTup, lk, rn0, rnA, plain] <;> first | rfl | decide))⟩, fun x hx => ?_⟩
    obtain ⟨j, j', ow⟩ := x
    obtain ⟨ej, hj, how⟩ := hx
    simp only at ej hj how
    have em : m' = (P.length : Int) := em
    have tjI := ltF hF j P.length j' m' ej em
    obtain ⟨j2, hj2⟩ : ∃ i2, F .ar .add .i64 j' 1 = i2 := ⟨_, rfl⟩
    have ej2 : j2 = ((j + 1 : Nat) : Int) := hj2.symm.trans (incF hF ej (by omega))
    by_cases hjl : j < P.length
    · have tj : F .cmp .lss j' m' = true := tjI.2 hjl
      obtain ⟨p, hp⟩ : ∃ s, P[j]? = some s := ⟨_, List.getElem?_eq_getElem hjl⟩
      have hrow : B[j]? = some [aI p.R, aI p.N, aI 0] := by rw [hB]; exact iR_get hp
      have hmj : P.length - (j + 1) < P.length - j := by omega
      obtain ⟨o2, ho2⟩ : ∃ x, x = F .app ow [[aI p.R, aI p.N]] := ⟨_, rfl⟩
      have how2 : o2 = dR (P.take (j + 1)) := by rw [ho2, List.take_add_one, hp, hF, how]; show dR _ ++ _ = _; rw [show (some p).toList = [p] from rfl, dR_snoc]
      have hrm : (F .len ow + F .len [[aI p.R, aI p.N]]) * 16 ≤ 140737488355328 := by rw [lenF hF, lenF hF, how, dR_len, List.length_take]; simp only [List.length_singleton]; omega
      have hel : ∀ r ∈ [[aI p.R, aI p.N]], r.length = 2 := fun r h => by rw [List.mem_singleton.1 h]; rfl
      clear how hout tjI hB
      cbv
      refine bT (tj) ?_
      cbv
      refine ⟨j, _, ej, hrow, rfl, ?_⟩
      cbv
      refine ⟨hel, hrm, ?_⟩
      cbv
      rw [hj2]
      exact ⟨(j + 1, j2, o2), ⟨ej2, hjl, how2⟩, hmj, le_of [(1, 2)] (by simp [leSl, leOb, injK, memK, parK, noTup, lk, rn0, rnA, plain]; repeat (first | exact ho2.symm | refine And.intro ?_ ?_ | rfl | trivial))⟩
    · have tj : F .cmp .lss j' m' = false := by cases h : F .cmp .lss j' m' with | true => exact absurd (tjI.1 h) hjl | false => rfl
      have how : ow = out := by rw [how, hout, List.take_of_length_le (by omega)]
      subst how
      clear hout hB tjI
      cbv
      refine bF (tj) ?_
      cbv
      try simp
end Go.Proofs.Ytdmdahnnfancpaa
