import Derived.Test.YtdmdahnnfancpaaH8
set_option linter.unusedSimpArgs false
set_option linter.unusedVariables false
namespace Go.Proofs.Ytdmdahnnfancpaa
open Go Go.RowKit Am

/-! ### FieldTells -/
theorem fewH_le {l : List Ev} (h : true = fewH l) : l.length ≤ 200 := by
  unfold fewH at h
  have := (Bool.and_eq_true_iff).1 h.symm
  exact of_decide_eq_true this.1
theorem getH_vq (l : List Ev) (s : ByteArray) : ∃ (v : ByteArray) (q : Bool), (∀ e, getH l s = some e → v = e.op.val ∧ q = true) ∧ (getH l s = none → v = BA [] ∧ q = false) ∧ v = valH l s ∧ (q = true ↔ s ∈ keysH l) := by
  have hk : s ∈ keysH l ↔ ownH l s ≠ [] := by
    have := ownH_nil l s
    constructor
    · intro h h2; exact this.2 h2 h
    · intro h
      by_cases hs : s ∈ keysH l
      · exact hs
      · exact absurd (this.1 hs) h
  unfold valH
  cases h : getH l s with
  | none => exact ⟨BA [], false, (fun e h => by cases h), (fun _ => ⟨rfl, rfl⟩), rfl, ⟨(fun h => by cases h), fun hs => absurd (latR_none _ h) (hk.1 hs)⟩⟩
  | some e =>
    refine ⟨e.op.val, true, (fun e' h => by injection h with h; rw [h]; exact ⟨rfl, rfl⟩), (fun h => by cases h), rfl, ⟨fun _ => hk.2 fun h0 => ?_, fun _ => rfl⟩⟩
    unfold getH at h
    rw [h0] at h
    cases h
set_option maxHeartbeats 4000000 in
theorem fieldTells_ok (l : List Ev) (hz : ∀ e ∈ l, e.op.fld.size ≤ maxLen) (s : ByteArray) : CSem Try.prog (.fn 7) [.sl (evR l), aS s] (.pure [aB true]) := by
  obtain ⟨rows, hrows⟩ : ∃ r, r = evR l := ⟨_, rfl⟩
  rw [← hrows]
  refine of_text gam_ok mixed { n := 44 } Try.func7 (by kernel_rfl) rfl rfl (by simp) (by decide) fun F C D hF hC hD => ?_
  have haw := hC _ _ _ awakeF_ok
  have tn : F .bnot true = false := by rw [bnotF hF]; rfl
  have tn2 : F .bnot false = true := by rw [bnotF hF]; rfl
  obtain ⟨f, hf⟩ : ∃ f, f = fewH l := ⟨_, rfl⟩
  have hfew := hC _ _ _ (fewH_ok l rows hrows f hf)
  cases f with
  | false =>
    clear hf
    cbv
    refine ⟨_, haw, ?_⟩
    cbv
    refine cF (tn) ?_
    cbv
    refine ⟨_, hfew, ?_⟩
    cbv
    rw [tn2]
    refine bT (rfl) ?_
    cbv
    refine ⟨_, haw, ?_⟩
    cbv
    try simp
  | true =>
    have hl := fewH_le hf
    clear hf
    obtain ⟨v, q, g1, g2, _, _⟩ := getH_vq l s
    have hget := hC _ _ _ (getF_ok l (by omega) rows hrows s v q g1 g2)
    have hrget := hC _ _ _ (rgetF_ok l (by omega) rows hrows s v q g1 g2)
    obtain ⟨A, hA⟩ : ∃ A, A = pfR (allH l) := ⟨_, rfl⟩
    have hall := hC _ _ _ (allF_ok l (by omega) hz rows hrows A hA)
    have hrall := hC _ _ _ (rallF_ok l (by omega) rows hrows A hA)
    have hle : (allH l).length ≤ 1000000 := by rw [allH_len]; have := keysH_le l; omega
    have hsame := hC _ _ _ (sameF_ok (allH l) hle A A hA hA)
    have t1 : F .scmp .eql v v = true := by rw [seqF hF]; exact decide_eq_true rfl
    have hb1 := hC _ _ _ (csem_bool q q true (by cases q <;> rfl))
    clear g1 g2 hA hle
    cbv
    refine ⟨_, haw, ?_⟩
    cbv
    refine cF (tn) ?_
    cbv
    refine ⟨_, hfew, ?_⟩
    cbv
    rw [tn]
    refine bF (rfl) ?_
    cbv
    refine ⟨_, hget, ?_⟩
    cbv
    refine ⟨_, hrget, ?_⟩
    cbv
    refine bT (t1) ?_
    cbv
    refine ⟨_, hb1, ?_⟩
    cbv
    refine bT (rfl) ?_
    cbv
    refine ⟨_, hall, ?_⟩
    cbv
    refine ⟨_, hrall, ?_⟩
    cbv
    refine ⟨_, hsame, ?_⟩
    cbv
    try simp
/-! ### FieldOrder -/
theorem rev_takeH {l : List Ev} {c : Nat} {e : Ev} (hc : c < l.length) (he : l[l.length - 1 - c]? = some e) : l.reverse.take (c + 1) = l.reverse.take c ++ [e] := by
  rw [List.take_add_one, List.getElem?_reverse hc, he]; rfl
theorem getH_rev {l : List Ev} (hu : unlikeL l) (s : ByteArray) : getH l.reverse s = getH l s := by
  unfold getH
  refine (latR_ext (unlike_filter hu _) fun x => ?_).symm
  unfold ownH
  simp [List.mem_filter]
theorem allH_rev {l : List Ev} (hu : unlikeL l) : allH l.reverse = allH l := by
  have hk : srtK (keysH l.reverse) = srtK (keysH l) := by
    rw [← names_eq, ← names_eq]
    refine rise_ext (nameF_rise _ _) (nameF_rise _ _) fun x => ?_
    rw [nameF_mem, nameF_mem]
    simp only [List.mem_reverse]
  unfold allH
  rw [hk]
  refine List.map_congr_left fun k _ => ?_
  unfold valH
  rw [getH_rev hu]
abbrev orH (rows : List (List AV)) (i' : Int) (ow : List (List AV)) : St := { slots := [(4, aI i'), (3, .own 0 0), (2, aB false), (0, .sl rows)], obs := [(0, .row 35 26 ow 0 0)], ctr := 1 }
set_option maxHeartbeats 8000000 in
theorem fieldOrder_ok (l : List Ev) (hz : ∀ e ∈ l, e.op.fld.size ≤ maxLen) : CSem Try.prog (.fn 8) [.sl (evR l)] (.pure [aB true]) := by
  obtain ⟨rows, hrows⟩ : ∃ r, r = evR l := ⟨_, rfl⟩
  rw [← hrows]
  refine of_text gam_ok mixed { n := 71, keep := [46] } Try.func8 (by kernel_rfl) rfl rfl (by simp) (by decide) fun F C D hF hC hD => ?_
  have haw := hC _ _ _ awakeF_ok
  have tn : F .bnot true = false := by rw [bnotF hF]; rfl
  have tn2 : F .bnot false = true := by rw [bnotF hF]; rfl
  obtain ⟨f, hf⟩ : ∃ f, f = fewH l := ⟨_, rfl⟩
  have hfew := hC _ _ _ (fewH_ok l rows hrows f hf)
  cases f with
  | false =>
    clear hf
    cbv
    refine ⟨_, haw, ?_⟩
    cbv
    refine cF (tn) ?_
    cbv
    refine ⟨_, hfew, ?_⟩
    cbv
    rw [tn2]
    refine bT (rfl) ?_
    cbv
    refine ⟨_, haw, ?_⟩
    cbv
    try simp
  | true =>
    have hl := fewH_le hf
    clear hf
    obtain ⟨n', hn'⟩ : ∃ n' : Int, F .len rows = n' := ⟨_, rfl⟩
    have en : n' = (l.length : Int) := by rw [← hn', lenF hF, hrows, evR_len]
    obtain ⟨n1, hn1⟩ : ∃ n1 : Int, F .ar .sub .i64 n' 1 = n1 := ⟨_, rfl⟩
    have en1 : n1 = (l.length : Int) - 1 := by rw [← hn1, subI hF (by unfold I64; omega), en]
    cbv
    refine ⟨_, haw, ?_⟩
    cbv
    refine cF (tn) ?_
    cbv
    refine ⟨_, hfew, ?_⟩
    cbv
    rw [tn]
    refine bF (rfl) ?_
    cbv
    rw [hn', hn1]
    have en1 : n1 = (l.length : Int) - 1 := en1
    refine ⟨Nat × Int × List (List AV), fun x => orH rows x.2.1 x.2.2, fun x => x.2.1 = (l.length : Int) - 1 - (x.1 : Int) ∧ x.1 ≤ l.length ∧ x.2.2 = evR (l.reverse.take x.1) ∧ ∀ a b x' y, l.length - x.1 ≤ a → b < a → l[a]? = some x' → l[b]? = some y → x'.dot ≠ y.dot, fun x => l.length - x.1, ⟨(0, n1, []), ⟨by show n1 = (l.length : Int) - 1 - ((0 : Nat) : Int); omega, Nat.zero_le _, rfl, fun a b x' y h1 _ h2 _ => absurd (List.getElem?_eq_some_iff.1 h2).1 (by omega)⟩, Le.trans (le_nil 3 35 26 (by rfl) (by rfl)) (le_of [] (by simp [leSl, leOb, injK, memK, parK, noTup, lk, rn0, rnA, plain] <;> first | rfl | decide))⟩, fun x hx => ?_⟩
    obtain ⟨c, i', ow⟩ := x
    obtain ⟨ei, hc, how, hun⟩ := hx
    simp only at ei hc how hun
    have tg : F .cmp .geq i' 0 = decide (i' ≥ 0) := geF hF _ _
    by_cases hcl : c < l.length
    · have tg : F .cmp .geq i' 0 = true := by rw [tg]; exact decide_eq_true (by omega)
      obtain ⟨I, hI⟩ : ∃ I, I = l.length - 1 - c := ⟨_, rfl⟩
      have eI : i' = (I : Int) := by rw [ei, hI]; omega
      have hIl : I < l.length := by omega
      obtain ⟨e, he⟩ : ∃ s, l[I]? = some s := ⟨_, List.getElem?_eq_getElem hIl⟩
      have hrow : rows[I]? = some e.ac := by rw [hrows]; exact evR_get he
      obtain ⟨i2, hi2⟩ : ∃ i2, F .ar .sub .i64 i' 1 = i2 := ⟨_, rfl⟩
      have ei2 : i2 = (l.length : Int) - 1 - ((c + 1 : Nat) : Int) := by rw [← hi2, subI hF (by unfold I64; omega), ei]; omega
      have hmu : l.length - (c + 1) < l.length - c := by omega
      obtain ⟨o2, ho2⟩ : ∃ x, x = F .app ow [e.ac] := ⟨_, rfl⟩
      have how2 : o2 = evR (l.reverse.take (c + 1)) := by rw [ho2, rev_takeH hcl (by rw [← hI]; exact he), evR_snocH, how, hF]; rfl
      have hol : (l.reverse.take c).length ≤ 200 := by rw [List.length_take, List.length_reverse]; omega
      have hrm : (F .len ow + F .len [e.ac]) * 232 ≤ 140737488355328 := by rw [lenF hF, lenF hF, how, evR_len]; simp only [List.length_singleton]; omega
      have hel : ∀ r ∈ [e.ac], r.length = 26 := fun r h => by rw [List.mem_singleton.1 h]; rfl
      have hun2 : (∀ b y, b < I → l[b]? = some y → e.dot ≠ y.dot) → ∀ a b x' y, l.length - (c + 1) ≤ a → b < a → l[a]? = some x' → l[b]? = some y → x'.dot ≠ y.dot := fun hk a b x' y h1 h2 h3 h4 => by
        by_cases ha : a = I
        · subst ha
          rw [he] at h3
          injection h3 with h3
          subst h3
          exact hk b y h2 h4
        · exact hun a b x' y (by omega) h2 h3 h4
      clear hun how hol
      cbv
      refine bT (tg) ?_
      cbv
      refine ⟨Nat × Int, fun x => { slots := [(5, aI x.2), (4, aI i'), (3, .own 0 0), (2, aB false), (0, .sl rows)], obs := [(0, .row 35 26 ow 0 0)], ctr := 1 }, fun x => x.2 = (x.1 : Int) ∧ x.1 ≤ I ∧ ∀ b y, b < x.1 → l[b]? = some y → e.dot ≠ y.dot, fun x => I - x.1, ⟨(0, 0), ⟨rfl, Nat.zero_le _, fun b y h => by omega⟩, (le_of [] (by simp [leSl, leOb, injK, memK, parK, noTup, lk, rn0, rnA, plain] <;> first | rfl | decide))⟩, fun x hx => ?_⟩
      obtain ⟨k, k'⟩ := x
      obtain ⟨ek, hk, hno⟩ := hx
      simp only at ek hk hno
      have eI : i' = (I : Int) := eI
      have tl := ltF hF k I k' i' ek eI
      obtain ⟨k2, hk2⟩ : ∃ i2, F .ar .add .i64 k' 1 = i2 := ⟨_, rfl⟩
      have ek2 : k2 = ((k + 1 : Nat) : Int) := hk2.symm.trans (incF hF ek (by omega))
      by_cases hkI : k < I
      · have tl : F .cmp .lss k' i' = true := tl.2 hkI
        obtain ⟨y, hy⟩ : ∃ s, l[k]? = some s := ⟨_, List.getElem?_eq_getElem (by omega)⟩
        have hrow2 : rows[k]? = some y.ac := by rw [hrows]; exact evR_get hy
        have hmk : I - (k + 1) < I - k := by omega
        by_cases hd : e.dot = y.dot
        · have heq := hC _ _ _ (dtEq e.dot y.dot true (by simp [hd]))
          clear hun2 hno ho2 how2 hrm hel
          cbv
          refine bT (tl) ?_
          cbv
          refine ⟨hC _ _ _ (ben_ok (by kernel_rfl)), ?_⟩
          cbv
          refine ⟨I, _, eI, hrow, rfl, ?_⟩
          cbv
          refine ⟨k, _, ek, hrow2, rfl, ?_⟩
          cbv
          refine ⟨_, heq, ?_⟩
          cbv
          refine bT (rfl) ?_
          cbv
          try simp
        · have heq := hC _ _ _ (dtEq e.dot y.dot false (by simp [hd]))
          have hno2 : ∀ b y, b < k + 1 → l[b]? = some y → e.dot ≠ y.dot := fun b y' hb h => by
            by_cases hbk : b < k
            · exact hno b y' hbk h
            · have : b = k := by omega
              rw [this, hy] at h; injection h with h; rw [← h]; exact hd
          clear hun2 hno ho2 how2 hrm hel
          cbv
          refine bT (tl) ?_
          cbv
          refine ⟨hC _ _ _ (ben_ok (by kernel_rfl)), ?_⟩
          cbv
          refine ⟨I, _, eI, hrow, rfl, ?_⟩
          cbv
          refine ⟨k, _, ek, hrow2, rfl, ?_⟩
          cbv
          refine ⟨_, heq, ?_⟩
          cbv
          refine bF (rfl) ?_
          cbv
          rw [hk2]
          exact ⟨(k + 1, k2), ⟨ek2, hkI, hno2⟩, hmk, (le_of [] (by simp [leSl, leOb, injK, memK, parK, noTup, lk, rn0, rnA, plain] <;> first | rfl | decide))⟩
      · have tl : F .cmp .lss k' i' = false := by cases h : F .cmp .lss k' i' with | true => exact absurd (tl.1 h) hkI | false => rfl
        have hun3 := hun2 fun b y hb h => hno b y (by omega) h
        clear hun2 hno
        cbv
        refine bF (tl) ?_
        cbv
        refine ⟨I, _, eI, hrow, rfl, ?_⟩
        cbv
        refine ⟨hel, hrm, ?_⟩
        cbv
        rw [hi2]
        exact ⟨(c + 1, i2, o2), ⟨ei2, hcl, how2, hun3⟩, hmu, le_of [(0, 1)] (by simp [leSl, leOb, injK, memK, parK, noTup, lk, rn0, rnA, plain]; repeat (first | exact ho2.symm | refine And.intro ?_ ?_ | rfl | trivial))⟩
    · have tg : F .cmp .geq i' 0 = false := by rw [tg]; exact decide_eq_false (by omega)
      have hu : unlikeL l := unlike_of fun a b x y h1 h2 h3 => hun a b x y (by omega) h1 h2 h3
      obtain ⟨rows2, hrows2⟩ : ∃ r, r = evR l.reverse := ⟨_, rfl⟩
      have how : ow = rows2 := by rw [how, hrows2, List.take_of_length_le (by rw [List.length_reverse]; omega)]
      subst how
      obtain ⟨A, hA⟩ : ∃ A, A = pfR (allH l) := ⟨_, rfl⟩
      have hall := hC _ _ _ (allF_ok l (by omega) hz rows hrows A hA)
      have hall2 := hC _ _ _ (allF_ok l.reverse (by rw [List.length_reverse]; omega) (fun e he => hz e (List.mem_reverse.1 he)) ow hrows2 A (by rw [hA, allH_rev hu]))
      have hAl : (allH l).length ≤ 200 := by rw [allH_len]; have := keysH_le l; omega
      obtain ⟨P, hP⟩ : ∃ P, P = allH l := ⟨_, rfl⟩
      rw [← hP] at hA hAl
      obtain ⟨m', hm'⟩ : ∃ n' : Int, F .len A = n' := ⟨_, rfl⟩
      have em : m' = (P.length : Int) := by rw [← hm', lenF hF, hA, pfR_len]
      have tm : F .cmp .neq m' m' = false := by rw [neF hF]; simp
      clear hrows2 hun hu hP hz
      cbv
      refine bF (tg) ?_
      cbv
      refine ⟨_, hall, ?_⟩
      cbv
      refine ⟨_, hall2, ?_⟩
      cbv
      rw [hm']
      refine bF (tm) ?_
      cbv
      rw [hm']
      refine ⟨Nat × Int, fun x => { slots := [(58, aI x.2), (57, aI m'), (7, .sl A), (6, .sl A), (2, aB false), (0, .sl rows)], obs := [], ctr := 1 }, fun x => x.2 = (x.1 : Int) ∧ x.1 ≤ P.length, fun x => P.length - x.1, ⟨(0, 0), ⟨rfl, Nat.zero_le _⟩, (le_of [] (by simp [leSl, leOb, injK, memK, parK, noTup, lk, rn0, rnA, plain] <;> first | rfl | decide))⟩, fun x hx => ?_⟩
      obtain ⟨j, j'⟩ := x
      obtain ⟨ej, hj⟩ := hx
      simp only at ej hj
      have em : m' = (P.length : Int) := em
      have tjI := ltF hF j P.length j' m' ej em
      obtain ⟨j2, hj2⟩ : ∃ i2, F .ar .add .i64 j' 1 = i2 := ⟨_, rfl⟩
      have ej2 : j2 = ((j + 1 : Nat) : Int) := hj2.symm.trans (incF hF ej (by omega))
      by_cases hjl : j < P.length
      · have tj : F .cmp .lss j' m' = true := tjI.2 hjl
        clear tjI
        obtain ⟨p, hp⟩ : ∃ s, P[j]? = some s := ⟨_, List.getElem?_eq_getElem hjl⟩
        have hrow : A[j]? = some [aS p.1, aS p.2] := by rw [hA]; exact pfR_get hp
        have hmj : P.length - (j + 1) < P.length - j := by omega
        have heq := hC _ _ _ (pfEq54 p p true (by simp))
        clear hall hall2
        cbv
        refine bT (tj) ?_
        cbv
        refine ⟨hC _ _ _ (ben_ok (by kernel_rfl)), ?_⟩
        cbv
        refine ⟨j, _, ej, hrow, rfl, ?_⟩
        cbv
        refine ⟨j, _, ej, hrow, rfl, ?_⟩
        cbv
        refine ⟨_, heq, ?_⟩
        cbv
        refine bF (tn) ?_
        cbv
        rw [hj2]
        exact ⟨(j + 1, j2), ⟨ej2, hjl⟩, hmj, (le_of [] (by simp [leSl, leOb, injK, memK, parK, noTup, lk, rn0, rnA, plain] <;> first | rfl | decide))⟩
      · have tj : F .cmp .lss j' m' = false := by cases h : F .cmp .lss j' m' with | true => exact absurd (tjI.1 h) hjl | false => rfl
        clear hall hall2
        cbv
        refine bF (tj) ?_
        cbv
        try simp
/-! ### FieldApart -/
def ownG (l : List Ev) (s : ByteArray) : List Ev := l.filter fun e => decide (e.op.fld = s)
theorem own_ownG (l : List Ev) (s : ByteArray) : ownH (ownG l s) s = ownH l s := by
  unfold ownH ownG
  rw [List.filter_filter]
  refine List.filter_congr fun e _ => ?_
  by_cases h : e.op.fld = s <;> simp [h]
abbrev apH (l : List Ev) (n' : Int) (rows : List (List AV)) (s : ByteArray) (i' : Int) (ow : List (List AV)) : St := { slots := [(24, aI i'), (23, aI n'), (5, .own 0 0), (4, aB false), (1, aS s), (0, .sl rows)], obs := [(0, .row 35 26 ow 0 0)], ctr := 1 }
set_option maxHeartbeats 8000000 in
theorem fieldApart_ok (l : List Ev) (hz : ∀ e ∈ l, e.op.fld.size ≤ maxLen) (s : ByteArray) : CSem Try.prog (.fn 9) [.sl (evR l), aS s] (.pure [aB true]) := by
  obtain ⟨rows, hrows⟩ : ∃ r, r = evR l := ⟨_, rfl⟩
  rw [← hrows]
  refine of_text gam_ok mixed { n := 103, keep := [41] } Try.func9 (by kernel_rfl) rfl rfl (by simp) (by decide) fun F C D hF hC hD => ?_
  have haw := hC _ _ _ awakeF_ok
  have tn : F .bnot true = false := by rw [bnotF hF]; rfl
  have tn2 : F .bnot false = true := by rw [bnotF hF]; rfl
  obtain ⟨f, hf⟩ : ∃ f, f = fewH l := ⟨_, rfl⟩
  have hfew := hC _ _ _ (fewH_ok l rows hrows f hf)
  cases f with
  | false =>
    clear hf
    cbv
    refine ⟨_, haw, ?_⟩
    cbv
    refine cF (tn) ?_
    cbv
    refine ⟨_, hfew, ?_⟩
    cbv
    rw [tn2]
    refine bT (rfl) ?_
    cbv
    refine ⟨_, haw, ?_⟩
    cbv
    try simp
  | true =>
    have hl := fewH_le hf
    clear hf
    obtain ⟨v, q, g1, g2, gv, gq⟩ := getH_vq l s
    have hget := hC _ _ _ (getF_ok l (by omega) rows hrows s v q g1 g2)
    obtain ⟨rows2, hrows2⟩ : ∃ r, r = evR (ownG l s) := ⟨_, rfl⟩
    have hol : (ownG l s).length ≤ l.length := List.length_filter_le _ _
    have hgo : getH (ownG l s) s = getH l s := by unfold getH; rw [own_ownG]
    have hget2 := hC _ _ _ (getF_ok (ownG l s) (by omega) rows2 hrows2 s v q (by rw [hgo]; exact g1) (by rw [hgo]; exact g2))
    obtain ⟨A, hA⟩ : ∃ A, A = pfR (allH l) := ⟨_, rfl⟩
    have hall := hC _ _ _ (allF_ok l (by omega) hz rows hrows A hA)
    have hAl : (allH l).length ≤ 200 := by rw [allH_len]; have := keysH_le l; omega
    have hmem : (s, v) ∈ allH l ↔ q = true := by
      rw [gq, gv]
      unfold allH
      rw [List.mem_map]
      constructor
      · rintro ⟨k, hk, he⟩
        have h1 := (srtK_mem _ _).1 hk
        have h2 : BA k = s := congrArg Prod.fst he
        rw [← h2]; exact h1
      · intro h
        exact ⟨L s, (srtK_mem _ _).2 (by rw [BA_L]; exact h), by rw [BA_L]⟩
    have hris : ∀ (j : Nat) (x y : Pf), (allH l)[j]? = some x → (allH l)[j + 1]? = some y → L x.1 < L y.1 := fun j x y hx hy => by
      unfold allH at hx hy
      rw [List.getElem?_map] at hx hy
      obtain ⟨a, ha, rfl⟩ := Option.map_eq_some_iff.1 hx
      obtain ⟨b, hb, rfl⟩ := Option.map_eq_some_iff.1 hy
      obtain ⟨u1, u2⟩ := List.getElem?_eq_some_iff.1 ha
      obtain ⟨v1, v2⟩ := List.getElem?_eq_some_iff.1 hb
      have := List.pairwise_iff_getElem.1 (srtK_rise (keysH_nd l)) j (j + 1) u1 v1 (by omega)
      rw [u2, v2] at this
      exact this
    obtain ⟨P, hP⟩ : ∃ P, P = allH l := ⟨_, rfl⟩
    rw [← hP] at hA hmem hris hAl
    clear g1 g2 gv gq hP hz hgo
    obtain ⟨n', hn'⟩ : ∃ n' : Int, F .len rows = n' := ⟨_, rfl⟩
    have en : n' = (l.length : Int) := by rw [← hn', lenF hF, hrows, evR_len]
    cbv
    refine ⟨_, haw, ?_⟩
    cbv
    refine cF (tn) ?_
    cbv
    refine ⟨_, hfew, ?_⟩
    cbv
    rw [tn]
    refine bF (rfl) ?_
    cbv
    rw [hn']
    refine ⟨Nat × Int × List (List AV), fun x => apH l n' rows s x.2.1 x.2.2, fun x => x.2.1 = (x.1 : Int) ∧ x.1 ≤ l.length ∧ x.2.2 = evR (ownG (l.take x.1) s), fun x => l.length - x.1, ⟨(0, 0, []), ⟨rfl, Nat.zero_le _, rfl⟩, Le.trans (le_nil 5 35 26 (by rfl) (by rfl)) (le_of [] (by simp [leSl, leOb, injK, memK, parK, noTup, lk, rn0, rnA, plain] <;> first | rfl | decide))⟩, fun x hx => ?_⟩
    obtain ⟨i, i', ow⟩ := x
    obtain ⟨ei, hi, how⟩ := hx
    simp only at ei hi how
    have en : n' = (l.length : Int) := en
    have tl := ltF hF i l.length i' n' ei en
    obtain ⟨i2, hi2⟩ : ∃ i2, F .ar .add .i64 i' 1 = i2 := ⟨_, rfl⟩
    have ei2 : i2 = ((i + 1 : Nat) : Int) := hi2.symm.trans (incF hF ei (by omega))
    by_cases hil : i < l.length
    · have tl : F .cmp .lss i' n' = true := tl.2 hil
      obtain ⟨e, he⟩ : ∃ s, l[i]? = some s := ⟨_, List.getElem?_eq_getElem hil⟩
      have hrow : rows[i]? = some e.ac := by rw [hrows]; exact evR_get he
      have hmu : l.length - (i + 1) < l.length - i := by omega
      have ts : F .scmp .eql e.op.fld s = decide (e.op.fld = s) := seqF hF _ _
      have hlo : (ownG (l.take i) s).length ≤ 200 := Nat.le_trans (List.length_filter_le _ _) (by rw [List.length_take]; omega)
      by_cases hs : e.op.fld = s
      · have ts : F .scmp .eql e.op.fld s = true := by rw [ts]; exact decide_eq_true hs
        have hst : ownG (l.take (i + 1)) s = ownG (l.take i) s ++ [e] := by unfold ownG; rw [List.take_add_one, he]; simp [hs]
        obtain ⟨o2, ho2⟩ : ∃ x, x = F .app ow [e.ac] := ⟨_, rfl⟩
        have how2 : o2 = evR (ownG (l.take (i + 1)) s) := by rw [ho2, hst, evR_snocH, how, hF]; rfl
        have hrm : (F .len ow + F .len [e.ac]) * 232 ≤ 140737488355328 := by rw [lenF hF, lenF hF, how, evR_len]; simp only [List.length_singleton]; omega
        have hel : ∀ r ∈ [e.ac], r.length = 26 := fun r h => by rw [List.mem_singleton.1 h]; rfl
        clear hst how hget hget2 hall hmem hris hA
        cbv
        refine bT (tl) ?_
        cbv
        refine ⟨i, _, ei, hrow, rfl, ?_⟩
        cbv
        refine bT (ts) ?_
        cbv
        refine ⟨i, _, ei, hrow, rfl, ?_⟩
        cbv
        refine ⟨hel, hrm, ?_⟩
        cbv
        rw [hi2]
        exact ⟨(i + 1, i2, o2), ⟨ei2, hil, how2⟩, hmu, le_of [(0, 1)] (by simp [leSl, leOb, injK, memK, parK, noTup, lk, rn0, rnA, plain]; repeat (first | exact ho2.symm | refine And.intro ?_ ?_ | rfl | trivial))⟩
      · have ts : F .scmp .eql e.op.fld s = false := by rw [ts]; exact decide_eq_false hs
        have hst : ownG (l.take (i + 1)) s = ownG (l.take i) s := by unfold ownG; rw [List.take_add_one, he]; simp [hs]
        have how2 : ow = evR (ownG (l.take (i + 1)) s) := by rw [hst]; exact how
        clear hst how hget hget2 hall hmem hris hA
        cbv
        refine bT (tl) ?_
        cbv
        refine ⟨i, _, ei, hrow, rfl, ?_⟩
        cbv
        refine bF (ts) ?_
        cbv
        rw [hi2]
        exact ⟨(i + 1, i2, ow), ⟨ei2, hil, how2⟩, hmu, (le_of [] (by simp [leSl, leOb, injK, memK, parK, noTup, lk, rn0, rnA, plain] <;> first | rfl | decide))⟩
    · have tl : F .cmp .lss i' n' = false := by cases h : F .cmp .lss i' n' with | true => exact absurd (tl.1 h) hil | false => rfl
      have how : ow = rows2 := by rw [how, hrows2, List.take_of_length_le (by omega)]
      subst how
      obtain ⟨m', hm'⟩ : ∃ n' : Int, F .len A = n' := ⟨_, rfl⟩
      have em : m' = (P.length : Int) := by rw [← hm', lenF hF, hA, pfR_len]
      clear hrows2
      cbv
      refine bF (tl) ?_
      cbv
      refine ⟨_, hget, ?_⟩
      cbv
      refine ⟨_, hget2, ?_⟩
      cbv
      refine ⟨_, hall, ?_⟩
      cbv
      rw [hm']
      refine ⟨Nat × Int × Bool, fun x => { slots := [(59, aI x.2.1), (58, aI m'), (12, aB x.2.2), (11, .sl A), (10, aB q), (9, aS v), (8, aB q), (7, aS v), (4, aB false), (1, aS s), (0, .sl rows)], obs := [], ctr := 1 }, fun x => x.2.1 = (x.1 : Int) ∧ x.1 ≤ P.length ∧ (x.2.2 = true ↔ (s, v) ∈ P.take x.1), fun x => P.length - x.1, ⟨(0, 0, false), ⟨rfl, Nat.zero_le _, by simp⟩, (le_of [] (by simp [leSl, leOb, injK, memK, parK, noTup, lk, rn0, rnA, plain] <;> first | rfl | decide))⟩, fun x hx => ?_⟩
      obtain ⟨k, k', fd⟩ := x
      obtain ⟨ek, hk, efd⟩ := hx
      simp only at ek hk efd
      have em : m' = (P.length : Int) := em
      have tkI := ltF hF k P.length k' m' ek em
      obtain ⟨k2, hk2⟩ : ∃ i2, F .ar .add .i64 k' 1 = i2 := ⟨_, rfl⟩
      have ek2 : k2 = ((k + 1 : Nat) : Int) := hk2.symm.trans (incF hF ek (by omega))
      by_cases hkl : k < P.length
      · have tk : F .cmp .lss k' m' = true := tkI.2 hkl
        clear tkI
        obtain ⟨p, hp⟩ : ∃ s, P[k]? = some s := ⟨_, List.getElem?_eq_getElem hkl⟩
        have hrow : A[k]? = some [aS p.1, aS p.2] := by rw [hA]; exact pfR_get hp
        have hmk : P.length - (k + 1) < P.length - k := by omega
        obtain ⟨b, hb⟩ : ∃ b : Bool, b = true ↔ p = (s, v) := by
          by_cases h : p = (s, v)
          · exact ⟨true, by simp [h]⟩
          · exact ⟨false, by simp [h]⟩
        have heq := hC _ _ _ (pfEq54 p (s, v) b hb)
        have tz : F .cmp .gtr k' 0 = decide (k' > 0) := gtF hF _ _
        have efd2 : (fd || b) = true ↔ (s, v) ∈ P.take (k + 1) := by
          rw [List.take_add_one, hp, Bool.or_eq_true, efd, hb]
          simp only [Option.toList, List.mem_append, List.mem_singleton]
          exact ⟨fun h => h.imp id Eq.symm, fun h => h.imp id Eq.symm⟩
        cases k with
        | zero =>
          have tz : F .cmp .gtr k' 0 = false := by rw [tz]; exact decide_eq_false (by omega)
          clear hget hget2 hall hmem hris efd hb hA
          cases fd with
          | true =>
            cbv
            refine bT (tk) ?_
            cbv
            refine cT (rfl) ?_
            cbv
            refine ⟨hC _ _ _ (ben_ok (by kernel_rfl)), ?_⟩
            cbv
            refine bF (tz) ?_
            cbv
            rw [hk2]
            exact ⟨(1, k2, true), ⟨ek2, hkl, efd2⟩, hmk, (le_of [] (by simp [leSl, leOb, injK, memK, parK, noTup, lk, rn0, rnA, plain] <;> first | rfl | decide))⟩
          | false =>
            cbv
            refine bT (tk) ?_
            cbv
            refine cF (rfl) ?_
            cbv
            refine ⟨0, _, ek, hrow, rfl, ?_⟩
            cbv
            refine ⟨_, heq, ?_⟩
            cbv
            refine ⟨hC _ _ _ (ben_ok (by kernel_rfl)), ?_⟩
            cbv
            refine bF (tz) ?_
            cbv
            rw [hk2]
            have efd2 : b = true ↔ (s, v) ∈ P.take 1 := efd2
            exact ⟨(1, k2, b), ⟨ek2, hkl, efd2⟩, hmk, (le_of [] (by simp [leSl, leOb, injK, memK, parK, noTup, lk, rn0, rnA, plain] <;> first | rfl | decide))⟩
        | succ k0 =>
          have tz : F .cmp .gtr k' 0 = true := by rw [tz]; exact decide_eq_true (by omega)
          obtain ⟨z, hz⟩ : ∃ s, P[k0]? = some s := ⟨_, List.getElem?_eq_getElem (by omega)⟩
          have hrow0 : A[k0]? = some [aS z.1, aS z.2] := by rw [hA]; exact pfR_get hz
          obtain ⟨km, hkm⟩ : ∃ x, F .ar .sub .i64 k' 1 = x := ⟨_, rfl⟩
          have ekm : km = (k0 : Int) := by rw [← hkm, subI hF (by unfold I64; omega)]; omega
          have tge : F .scmp .geq z.1 p.1 = false := by
            rw [sgeF hF]
            have := hris k0 z p hz hp
            simp [this]
          clear hget hget2 hall hmem hris efd hb hA
          cases fd with
          | true =>
            cbv
            refine bT (tk) ?_
            cbv
            refine cT (rfl) ?_
            cbv
            refine ⟨hC _ _ _ (ben_ok (by kernel_rfl)), ?_⟩
            cbv
            refine bT (tz) ?_
            cbv
            refine ⟨k0, _, hkm.trans ekm, hrow0, rfl, ?_⟩
            cbv
            refine ⟨k0 + 1, _, ek, hrow, rfl, ?_⟩
            cbv
            refine bF (tge) ?_
            cbv
            rw [hk2]
            exact ⟨(k0 + 1 + 1, k2, true), ⟨ek2, hkl, efd2⟩, hmk, (le_of [] (by simp [leSl, leOb, injK, memK, parK, noTup, lk, rn0, rnA, plain] <;> first | rfl | decide))⟩
          | false =>
            cbv
            refine bT (tk) ?_
            cbv
            refine cF (rfl) ?_
            cbv
            refine ⟨k0 + 1, _, ek, hrow, rfl, ?_⟩
            cbv
            refine ⟨_, heq, ?_⟩
            cbv
            refine ⟨hC _ _ _ (ben_ok (by kernel_rfl)), ?_⟩
            cbv
            refine bT (tz) ?_
            cbv
            refine ⟨k0, _, hkm.trans ekm, hrow0, rfl, ?_⟩
            cbv
            refine ⟨k0 + 1, _, ek, hrow, rfl, ?_⟩
            cbv
            refine bF (tge) ?_
            cbv
            rw [hk2]
            have efd2 : b = true ↔ (s, v) ∈ P.take (k0 + 1 + 1) := efd2
            exact ⟨(k0 + 1 + 1, k2, b), ⟨ek2, hkl, efd2⟩, hmk, (le_of [] (by simp [leSl, leOb, injK, memK, parK, noTup, lk, rn0, rnA, plain] <;> first | rfl | decide))⟩
      · have tk : F .cmp .lss k' m' = false := by cases h : F .cmp .lss k' m' with | true => exact absurd (tkI.1 h) hkl | false => rfl
        rw [List.take_of_length_le (by omega), hmem] at efd
        have hfq : fd = q := by cases fd <;> cases q <;> simp_all
        subst hfq
        have t1 : F .scmp .eql v v = true := by rw [seqF hF]; exact decide_eq_true rfl
        have hb1 := hC _ _ _ (csem_bool fd fd true (by cases fd <;> rfl))
        clear hget hget2 hall hmem hris hA efd
        cbv
        refine bF (tk) ?_
        cbv
        refine bT (t1) ?_
        cbv
        refine ⟨_, hb1, ?_⟩
        cbv
        refine bT (rfl) ?_
        cbv
        refine ⟨_, hb1, ?_⟩
        cbv
        try simp
end Go.Proofs.Ytdmdahnnfancpaa
