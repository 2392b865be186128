import Derived.Test.YtdmdahnnfancpaaV1
import Derived.Test.YtdmdahnnfancpaaO4
set_option linter.unusedSimpArgs false
set_option linter.unusedVariables false
namespace Go.Proofs.Ytdmdahnnfancpaa
open Go Go.RowKit Am

/-! ### ScoreOrder -/
theorem dtEq0 (t : Nat) (fs : Array Field) (hu : Try.prog.underlying t = some (.struct fs)) (hp : Try.prog.stoodInHeld t = false) (hm : Try.prog.eqGuardType Try.prog.depth t = false)
    (hF : ∀ a b : Dt, FOK 9999 #[.int .i64 a.R, .int .i64 a.N] #[.int .i64 b.R, .int .i64 b.N] fs.toList [a.R == b.R, a.N == b.N]) (a b : Dt) (q : Bool) (hq : q = true ↔ a = b) : CSem Try.prog (.eq t) [.agg [aI a.R, aI a.N], .agg [aI b.R, aI b.N]] (.pure [aB q]) := by
  have h := fun w => eq_struct 9999 hu hp (hF a b) w
  have e : ([a.R == b.R, a.N == b.N].all id) = q := by
    have e1 : ([a.R == b.R, a.N == b.N].all id) = true ↔ a = b := by
      obtain ⟨am, an⟩ := a
      obtain ⟨bm, bn⟩ := b
      simp only [List.all_cons, List.all_nil, id, Bool.and_eq_true, Bool.and_true, beq_iff_eq, Dt.mk.injEq]
    cases h1 : ([a.R == b.R, a.N == b.N].all id) with
    | true => exact (hq.2 (e1.1 h1)).symm
    | false =>
      cases h2 : q with
      | false => rfl
      | true => have := e1.2 (hq.1 h2); rw [h1] at this; cases this
  rw [e] at h
  exact csem_eq (t := t) (xs := [.int .i64 a.R, .int .i64 a.N]) (ys := [.int .i64 b.R, .int .i64 b.N]) hm h
theorem dtEq (a b : Dt) (q : Bool) (hq : q = true ↔ a = b) : CSem Try.prog (.eq 29) [.agg [aI a.R, aI a.N], .agg [aI b.R, aI b.N]] (.pure [aB q]) :=
  dtEq0 29 _ Try.underlying29 (by kernel_rfl) (by kernel_rfl) (fun a b => .cons (by decide) (a := .int .i64 a.R) (b := .int .i64 b.R) (fun w => by kernel_rfl) (fun w => by kernel_rfl) (fun w => eq_int _ _ _ w) (.cons (by decide) (a := .int .i64 a.N) (b := .int .i64 b.N) (fun w => by kernel_rfl) (fun w => by kernel_rfl) (fun w => eq_int _ _ _ w) .nil)) a b q hq
theorem sgeF {F : Sy} (hF : F = sy) (a b : ByteArray) : F .scmp .geq a b = !decide (L a < L b) := by
  rw [← slsF hF, hF]; rfl
abbrev orS (rows : List (List AV)) (i' : Int) (ow : List (List AV)) : St := { slots := [(4, aI i'), (3, .own 0 0), (2, aB false), (0, .sl rows)], obs := [(0, .row 35 26 ow 0 0)], ctr := 1 }
set_option maxHeartbeats 8000000 in
theorem order_ok (l : List Ev) : CSem Try.prog (.fn 6) [.sl (evR l)] (.pure [aB true]) := by
  obtain ⟨rows, hrows⟩ : ∃ r, r = evR l := ⟨_, rfl⟩
  rw [← hrows]
  refine of_text gam_ok mixed { n := 136, keep := [48] } Try.func6 (by kernel_rfl) rfl rfl (by simp) (by decide) fun F C D hF hC hD => ?_
  have haw := hC _ _ _ awake_ok
  have tn : F .bnot true = false := by rw [bnotF hF]; rfl
  have tn2 : F .bnot false = true := by rw [bnotF hF]; rfl
  obtain ⟨f, hf⟩ : ∃ f, f = fewB l := ⟨_, rfl⟩
  have hfew := hC _ _ _ (few_ok l rows hrows f hf)
  cases f with
  | false =>
    clear hf
    cbv
    refine ⟨_, haw, ?_⟩
    cbv
    refine cF (tn) ?_
    cbv
    refine ⟨_, hfew, ?_⟩
    cbv
    rw [tn2]
    refine bT (rfl) ?_
    cbv
    refine ⟨_, haw, ?_⟩
    cbv
    try simp
  | true =>
    have hl : l.length ≤ 150 := by
      unfold fewB at hf
      have := (Bool.and_eq_true_iff).1 hf.symm
      exact of_decide_eq_true this.1
    clear hf
    obtain ⟨n', hn'⟩ : ∃ n' : Int, F .len rows = n' := ⟨_, rfl⟩
    have en : n' = (l.length : Int) := by rw [← hn', lenF hF, hrows, evR_len]
    obtain ⟨n1, hn1⟩ : ∃ n1 : Int, F .ar .sub .i64 n' 1 = n1 := ⟨_, rfl⟩
    have en1 : n1 = (l.length : Int) - 1 := by rw [← hn1, subI hF (by unfold I64; omega), en]
    cbv
    refine ⟨_, haw, ?_⟩
    cbv
    refine cF (tn) ?_
    cbv
    refine ⟨_, hfew, ?_⟩
    cbv
    rw [tn]
    refine bF (rfl) ?_
    cbv
    rw [hn', hn1]
    have en1 : n1 = (l.length : Int) - 1 := en1
    refine ⟨Nat × Int × List (List AV), fun x => orS rows x.2.1 x.2.2, fun x => x.2.1 = (l.length : Int) - 1 - (x.1 : Int) ∧ x.1 ≤ l.length ∧ x.2.2 = evR (l.reverse.take x.1) ∧ ∀ a b x' y, l.length - x.1 ≤ a → b < a → l[a]? = some x' → l[b]? = some y → x'.dot ≠ y.dot, fun x => l.length - x.1, ⟨(0, n1, []), ⟨by show n1 = (l.length : Int) - 1 - ((0 : Nat) : Int); omega, Nat.zero_le _, rfl, fun a b x' y h1 _ h2 _ => absurd (List.getElem?_eq_some_iff.1 h2).1 (by omega)⟩, Le.trans (le_nil 3 35 26 (by rfl) (by rfl)) (le_of [] (by simp [leSl, leOb, injK, memK, parK, noTup, lk, rn0, rnA, plain] <;> first | rfl | decide))⟩, fun x hx => ?_⟩
    obtain ⟨c, i', ow⟩ := x
    obtain ⟨ei, hc, how, hun⟩ := hx
    simp only at ei hc how hun
    have tg : F .cmp .geq i' 0 = decide (i' ≥ 0) := geF hF _ _
    by_cases hcl : c < l.length
    · have tg : F .cmp .geq i' 0 = true := by rw [tg]; exact decide_eq_true (by omega)
      obtain ⟨I, hI⟩ : ∃ I, I = l.length - 1 - c := ⟨_, rfl⟩
      have eI : i' = (I : Int) := by rw [ei, hI]; omega
      have hIl : I < l.length := by omega
      obtain ⟨e, he⟩ : ∃ s, l[I]? = some s := ⟨_, List.getElem?_eq_getElem hIl⟩
      have hrow : rows[I]? = some e.ac := by rw [hrows]; exact evR_get he
      obtain ⟨i2, hi2⟩ : ∃ i2, F .ar .sub .i64 i' 1 = i2 := ⟨_, rfl⟩
      have ei2 : i2 = (l.length : Int) - 1 - ((c + 1 : Nat) : Int) := by rw [← hi2, subI hF (by unfold I64; omega), ei]; omega
      have hmu : l.length - (c + 1) < l.length - c := by omega
      obtain ⟨o2, ho2⟩ : ∃ x, x = F .app ow [e.ac] := ⟨_, rfl⟩
      have how2 : o2 = evR (l.reverse.take (c + 1)) := by rw [ho2, rev_take hcl (by rw [← hI]; exact he), evR_snoc, how, hF]; rfl
      have hol : (l.reverse.take c).length ≤ 150 := by rw [List.length_take, List.length_reverse]; omega
      have hrm : (F .len ow + F .len [e.ac]) * 232 ≤ 140737488355328 := by rw [lenF hF, lenF hF, how, evR_len]; simp only [List.length_singleton]; omega
      have hel : ∀ r ∈ [e.ac], r.length = 26 := fun r h => by rw [List.mem_singleton.1 h]; rfl
      have hun2 : (∀ b y, b < I → l[b]? = some y → e.dot ≠ y.dot) → ∀ a b x' y, l.length - (c + 1) ≤ a → b < a → l[a]? = some x' → l[b]? = some y → x'.dot ≠ y.dot := fun hk a b x' y h1 h2 h3 h4 => by
        by_cases ha : a = I
        · subst ha
          rw [he] at h3
          injection h3 with h3
          subst h3
          exact hk b y h2 h4
        · exact hun a b x' y (by omega) h2 h3 h4
      clear hun how hol
      cbv
      refine bT (tg) ?_
      cbv
      refine ⟨Nat × Int, fun x => { slots := [(5, aI x.2), (4, aI i'), (3, .own 0 0), (2, aB false), (0, .sl rows)], obs := [(0, .row 35 26 ow 0 0)], ctr := 1 }, fun x => x.2 = (x.1 : Int) ∧ x.1 ≤ I ∧ ∀ b y, b < x.1 → l[b]? = some y → e.dot ≠ y.dot, fun x => I - x.1, ⟨(0, 0), ⟨rfl, Nat.zero_le _, fun b y h => by omega⟩, (le_of [] (by simp [leSl, leOb, injK, memK, parK, noTup, lk, rn0, rnA, plain] <;> first | rfl | decide))⟩, fun x hx => ?_⟩
      obtain ⟨k, k'⟩ := x
      obtain ⟨ek, hk, hno⟩ := hx
      simp only at ek hk hno
      have eI : i' = (I : Int) := eI
      have tl := ltF hF k I k' i' ek eI
      obtain ⟨k2, hk2⟩ : ∃ i2, F .ar .add .i64 k' 1 = i2 := ⟨_, rfl⟩
      have ek2 : k2 = ((k + 1 : Nat) : Int) := hk2.symm.trans (incF hF ek (by omega))
      by_cases hkI : k < I
      · have tl : F .cmp .lss k' i' = true := tl.2 hkI
        obtain ⟨y, hy⟩ : ∃ s, l[k]? = some s := ⟨_, List.getElem?_eq_getElem (by omega)⟩
        have hrow2 : rows[k]? = some y.ac := by rw [hrows]; exact evR_get hy
        have hmk : I - (k + 1) < I - k := by omega
        by_cases hd : e.dot = y.dot
        · have heq := hC _ _ _ (dtEq e.dot y.dot true (by simp [hd]))
          clear hun2 hno ho2 how2 hrm hel
          cbv
          refine bT (tl) ?_
          cbv
          refine ⟨hC _ _ _ (ben_ok (by kernel_rfl)), ?_⟩
          cbv
          refine ⟨I, _, eI, hrow, rfl, ?_⟩
          cbv
          refine ⟨k, _, ek, hrow2, rfl, ?_⟩
          cbv
          refine ⟨_, heq, ?_⟩
          cbv
          refine bT (rfl) ?_
          cbv
          try simp
        · have heq := hC _ _ _ (dtEq e.dot y.dot false (by simp [hd]))
          have hno2 : ∀ b y, b < k + 1 → l[b]? = some y → e.dot ≠ y.dot := fun b y' hb h => by
            by_cases hbk : b < k
            · exact hno b y' hbk h
            · have : b = k := by omega
              rw [this, hy] at h; injection h with h; rw [← h]; exact hd
          clear hun2 hno ho2 how2 hrm hel
          cbv
          refine bT (tl) ?_
          cbv
          refine ⟨hC _ _ _ (ben_ok (by kernel_rfl)), ?_⟩
          cbv
          refine ⟨I, _, eI, hrow, rfl, ?_⟩
          cbv
          refine ⟨k, _, ek, hrow2, rfl, ?_⟩
          cbv
          refine ⟨_, heq, ?_⟩
          cbv
          refine bF (rfl) ?_
          cbv
          rw [hk2]
          exact ⟨(k + 1, k2), ⟨ek2, hkI, hno2⟩, hmk, (le_of [] (by simp [leSl, leOb, injK, memK, parK, noTup, lk, rn0, rnA, plain] <;> first | rfl | decide))⟩
      · have tl : F .cmp .lss k' i' = false := by cases h : F .cmp .lss k' i' with | true => exact absurd (tl.1 h) hkI | false => rfl
        have hun3 := hun2 fun b y hb h => hno b y (by omega) h
        clear hun2 hno
        cbv
        refine bF (tl) ?_
        cbv
        refine ⟨I, _, eI, hrow, rfl, ?_⟩
        cbv
        refine ⟨hel, hrm, ?_⟩
        cbv
        rw [hi2]
        exact ⟨(c + 1, i2, o2), ⟨ei2, hcl, how2, hun3⟩, hmu, le_of [(0, 1)] (by simp [leSl, leOb, injK, memK, parK, noTup, lk, rn0, rnA, plain]; repeat (first | exact ho2.symm | refine And.intro ?_ ?_ | rfl | trivial))⟩
    · have tg : F .cmp .geq i' 0 = false := by rw [tg]; exact decide_eq_false (by omega)
      have hu : unlikeL l := unlike_of fun a b x y h1 h2 h3 => hun a b x y (by omega) h1 h2 h3
      obtain ⟨rows2, hrows2⟩ : ∃ r, r = evR l.reverse := ⟨_, rfl⟩
      have how : ow = rows2 := by rw [how, hrows2, List.take_of_length_le (by rw [List.length_reverse]; omega)]
      subst how
      obtain ⟨A, hA⟩ : ∃ A, A = pR (allS l) := ⟨_, rfl⟩
      have hall := hC _ _ _ (all_ok l (by omega) rows hrows A hA)
      have hall2 := hC _ _ _ (all_ok l.reverse (by rw [List.length_reverse]; omega) ow hrows2 A (by rw [hA, allS_rev hu]))
      have hix := fun i p h => allS_ix l (i := i) (p := p) h
      have hlt := fun i p q h1 h2 => allS_lt l (i := i) (p := p) (q := q) h1 h2
      have hrank := fun (i : Nat) (p : Pr) (i' : Int) (ei : i' = (i : Int)) (h : (allS l)[i]? = some p) => hC _ _ _ (rank_ok l (by omega) rows hrows p.m i' true (fun j hj => by rw [allS_ix l h] at hj; injection hj with hj; rw [← hj]; exact ⟨ei, rfl⟩) (fun hj => by rw [allS_ix l h] at hj; cases hj))
      have hAl := allS_le l
      obtain ⟨P, hP⟩ : ∃ P, P = allS l := ⟨_, rfl⟩
      rw [← hP] at hA hix hlt hrank hAl
      obtain ⟨m', hm'⟩ : ∃ n' : Int, F .len A = n' := ⟨_, rfl⟩
      have em : m' = (P.length : Int) := by rw [← hm', lenF hF, hA, pR_len]
      have tm : F .cmp .neq m' m' = false := by rw [neF hF]; simp
      clear hrows2 hun hu hP
      cbv
      refine bF (tg) ?_
      cbv
      refine ⟨_, hall, ?_⟩
      cbv
      refine ⟨_, hall2, ?_⟩
      cbv
      rw [hm']
      refine bF (tm) ?_
      cbv
      rw [hm']
      refine ⟨Nat × Int, fun x => { slots := [(60, aI x.2), (59, aI m'), (7, .sl A), (6, .sl A), (2, aB false), (0, .sl rows)], obs := [], ctr := 1 }, fun x => x.2 = (x.1 : Int) ∧ x.1 ≤ P.length, fun x => P.length - x.1, ⟨(0, 0), ⟨rfl, Nat.zero_le _⟩, (le_of [] (by simp [leSl, leOb, injK, memK, parK, noTup, lk, rn0, rnA, plain] <;> first | rfl | decide))⟩, fun x hx => ?_⟩
      obtain ⟨j, j'⟩ := x
      obtain ⟨ej, hj⟩ := hx
      simp only at ej hj
      have em : m' = (P.length : Int) := em
      have tjI := ltF hF j P.length j' m' ej em
      obtain ⟨j2, hj2⟩ : ∃ i2, F .ar .add .i64 j' 1 = i2 := ⟨_, rfl⟩
      have ej2 : j2 = ((j + 1 : Nat) : Int) := hj2.symm.trans (incF hF ej (by omega))
      by_cases hjl : j < P.length
      · have tj : F .cmp .lss j' m' = true := tjI.2 hjl
        clear tjI
        obtain ⟨p, hp⟩ : ∃ s, P[j]? = some s := ⟨_, List.getElem?_eq_getElem hjl⟩
        have hrow : A[j]? = some [aS p.m, aI p.n] := by rw [hA]; exact pR_get hp
        have hmj : P.length - (j + 1) < P.length - j := by omega
        have hrk := hrank j p j' ej hp
        have heq := hC _ _ _ (prEq41 p p true (by simp))
        have tnj : F .cmp .neq j' j' = false := by rw [neF hF]; simp
        have tz : F .cmp .gtr j' 0 = decide (j' > 0) := gtF hF _ _
        cases j with
        | zero =>
          have tz : F .cmp .gtr j' 0 = false := by rw [tz]; exact decide_eq_false (by omega)
          clear hrank hix hlt hall hall2
          cbv
          refine bT (tj) ?_
          cbv
          refine ⟨0, _, ej, hrow, rfl, ?_⟩
          cbv
          refine ⟨_, hrk, ?_⟩
          cbv
          refine ⟨hC _ _ _ (ben_ok (by kernel_rfl)), ?_⟩
          cbv
          refine ⟨0, _, ej, hrow, rfl, ?_⟩
          cbv
          refine ⟨0, _, ej, hrow, rfl, ?_⟩
          cbv
          refine ⟨_, heq, ?_⟩
          cbv
          refine cF (tn) ?_
          cbv
          refine cF (tnj) ?_
          cbv
          rw [tn]
          refine bF (rfl) ?_
          cbv
          refine ⟨hC _ _ _ (ben_ok (by kernel_rfl)), ?_⟩
          cbv
          refine bF (tz) ?_
          cbv
          rw [hj2]
          exact ⟨(1, j2), ⟨ej2, hjl⟩, hmj, (le_of [] (by simp [leSl, leOb, injK, memK, parK, noTup, lk, rn0, rnA, plain] <;> first | rfl | decide))⟩
        | succ j0 =>
          have tz : F .cmp .gtr j' 0 = true := by rw [tz]; exact decide_eq_true (by omega)
          obtain ⟨z, hz⟩ : ∃ s, P[j0]? = some s := ⟨_, List.getElem?_eq_getElem (by omega)⟩
          have hrow0 : A[j0]? = some [aS z.m, aI z.n] := by rw [hA]; exact pR_get hz
          obtain ⟨jm, hjm⟩ : ∃ x, F .ar .sub .i64 j' 1 = x := ⟨_, rfl⟩
          have ejm : jm = (j0 : Int) := by rw [← hjm, subI hF (by unfold I64; omega)]; omega
          have hz1 := (ltP_iff z p).1 (hlt j0 z p hz hp)
          have tg2 : F .cmp .gtr z.n p.n = false := by rw [gtF hF]; exact decide_eq_false (by omega)
          have te : F .cmp .eql z.n p.n = decide (z.n = p.n) := eqF hF _ _
          have tge : F .scmp .geq z.m p.m = !decide (L z.m < L p.m) := sgeF hF _ _
          by_cases hzn : z.n = p.n
          · have te : F .cmp .eql z.n p.n = true := by rw [te]; exact decide_eq_true hzn
            have tge : F .scmp .geq z.m p.m = false := by
              rw [tge]
              have : L z.m < L p.m := by
                rcases hz1 with h | h
                · omega
                · exact h.2
              simp [this]
            clear hrank hix hlt hall hall2 hz1
            cbv
            refine bT (tj) ?_
            cbv
            refine ⟨j0 + 1, _, ej, hrow, rfl, ?_⟩
            cbv
            refine ⟨_, hrk, ?_⟩
            cbv
            refine ⟨hC _ _ _ (ben_ok (by kernel_rfl)), ?_⟩
            cbv
            refine ⟨j0 + 1, _, ej, hrow, rfl, ?_⟩
            cbv
            refine ⟨j0 + 1, _, ej, hrow, rfl, ?_⟩
            cbv
            refine ⟨_, heq, ?_⟩
            cbv
            refine cF (tn) ?_
            cbv
            refine cF (tnj) ?_
            cbv
            rw [tn]
            refine bF (rfl) ?_
            cbv
            refine ⟨hC _ _ _ (ben_ok (by kernel_rfl)), ?_⟩
            cbv
            refine bT (tz) ?_
            cbv
            refine ⟨j0, _, hjm.trans ejm, hrow0, rfl, ?_⟩
            cbv
            refine ⟨j0 + 1, _, ej, hrow, rfl, ?_⟩
            cbv
            refine cF (tg2) ?_
            cbv
            refine ⟨j0, _, hjm.trans ejm, hrow0, rfl, ?_⟩
            cbv
            refine ⟨j0 + 1, _, ej, hrow, rfl, ?_⟩
            cbv
            refine bT (te) ?_
            cbv
            refine ⟨j0, _, hjm.trans ejm, hrow0, rfl, ?_⟩
            cbv
            refine ⟨j0 + 1, _, ej, hrow, rfl, ?_⟩
            cbv
            refine bF (tge) ?_
            cbv
            rw [hj2]
            exact ⟨(j0 + 1 + 1, j2), ⟨ej2, hjl⟩, hmj, (le_of [] (by simp [leSl, leOb, injK, memK, parK, noTup, lk, rn0, rnA, plain] <;> first | rfl | decide))⟩
          · have te : F .cmp .eql z.n p.n = false := by rw [te]; exact decide_eq_false hzn
            clear hrank hix hlt hall hall2 hz1
            cbv
            refine bT (tj) ?_
            cbv
            refine ⟨j0 + 1, _, ej, hrow, rfl, ?_⟩
            cbv
            refine ⟨_, hrk, ?_⟩
            cbv
            refine ⟨hC _ _ _ (ben_ok (by kernel_rfl)), ?_⟩
            cbv
            refine ⟨j0 + 1, _, ej, hrow, rfl, ?_⟩
            cbv
            refine ⟨j0 + 1, _, ej, hrow, rfl, ?_⟩
            cbv
            refine ⟨_, heq, ?_⟩
            cbv
            refine cF (tn) ?_
            cbv
            refine cF (tnj) ?_
            cbv
            rw [tn]
            refine bF (rfl) ?_
            cbv
            refine ⟨hC _ _ _ (ben_ok (by kernel_rfl)), ?_⟩
            cbv
            refine bT (tz) ?_
            cbv
            refine ⟨j0, _, hjm.trans ejm, hrow0, rfl, ?_⟩
            cbv
            refine ⟨j0 + 1, _, ej, hrow, rfl, ?_⟩
            cbv
            refine cF (tg2) ?_
            cbv
            refine ⟨j0, _, hjm.trans ejm, hrow0, rfl, ?_⟩
            cbv
            refine ⟨j0 + 1, _, ej, hrow, rfl, ?_⟩
            cbv
            refine bF (te) ?_
            cbv
            rw [hj2]
            exact ⟨(j0 + 1 + 1, j2), ⟨ej2, hjl⟩, hmj, (le_of [] (by simp [leSl, leOb, injK, memK, parK, noTup, lk, rn0, rnA, plain] <;> first | rfl | decide))⟩
      · have tj : F .cmp .lss j' m' = false := by cases h : F .cmp .lss j' m' with | true => exact absurd (tjI.1 h) hjl | false => rfl
        clear hrank hix hlt hall hall2
        cbv
        refine bF (tj) ?_
        cbv
        try simp
end Go.Proofs.Ytdmdahnnfancpaa
