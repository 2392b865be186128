import Derived.Test.YtdmdahnnfancpaaJ7
set_option linter.unusedSimpArgs false
set_option linter.unusedVariables false
namespace Go.Proofs.Ytdmdahnnfancpaa
open Go Go.RowKit Am

/-! ### MemberTells -/
theorem fewM_le {l : List Ev} (h : true = fewM l) : l.length ≤ 300 := by
  unfold fewM at h
  have := (Bool.and_eq_true_iff).1 h.symm
  exact of_decide_eq_true this.1
theorem hasB_names (l : List Ev) (s : ByteArray) : hasB l s = true ↔ L s ∈ nameF 3 l := by
  unfold hasB telB
  rw [nameF_mem, List.any_eq_true]
  simp only [Bool.and_eq_true, decide_eq_true_eq]
  constructor
  · rintro ⟨e, h1, h2, h3⟩; exact ⟨e, h1, h2, by rw [h3]; rfl⟩
  · rintro ⟨e, h1, h2, h3⟩; exact ⟨e, h1, h2, L_inj h3⟩
set_option maxHeartbeats 8000000 in
theorem memberTells_ok (l : List Ev) (hz : ∀ e ∈ l, e.op.fld.size ≤ maxLen) (s : ByteArray) : CSem Try.prog (.fn 10) [.sl (evR l), aS s] (.pure [aB true]) := by
  obtain ⟨rows, hrows⟩ : ∃ r, r = evR l := ⟨_, rfl⟩
  rw [← hrows]
  refine of_text gam_ok mixed { n := 76 } Try.func10 (by kernel_rfl) rfl rfl (by simp) (by decide) fun F C D hF hC hD => ?_
  have haw := hC _ _ _ awakeM_ok
  have tn : F .bnot true = false := by rw [bnotF hF]; rfl
  have tn2 : F .bnot false = true := by rw [bnotF hF]; rfl
  obtain ⟨f, hf⟩ : ∃ f, f = fewM l := ⟨_, rfl⟩
  have hfew := hC _ _ _ (fewM_ok l rows hrows f hf)
  cases f with
  | false =>
    clear hf
    cbv
    refine ⟨_, haw, ?_⟩
    cbv
    refine cF (tn) ?_
    cbv
    refine ⟨_, hfew, ?_⟩
    cbv
    rw [tn2]
    refine bT (rfl) ?_
    cbv
    refine ⟨_, haw, ?_⟩
    cbv
    try simp
  | true =>
    have hl := fewM_le hf
    clear hf
    obtain ⟨A, hA⟩ : ∃ A, A = sR (nameF 3 l) := ⟨_, rfl⟩
    have hrall := hC _ _ _ (rallM_ok l (by omega) rows hrows A hA)
    have hall := hC _ _ _ (memAll_ok l (by omega) hz rows hrows A hA)
    have hNl := nameF_le 3 l
    have htx := hC _ _ _ (texts_ok (nameF 3 l) (nameF 3 l) (by omega) (by omega) A A hA hA true (by simp))
    have hdl : ∀ s, (dotS l s).length ≤ 1000000 := fun s => by
      rw [← puts_eq]
      have h1 := (puts_ok (dotsM l s) [] List.Pairwise.nil).2.2
      have h2 := dotsM_len l s
      simp only [List.length_nil] at h1
      omega
    have hdots := fun (s : ByteArray) (o : List (List AV)) (ho : o = dR (dotS l s)) => hC _ _ _ (memDots_ok l (by omega) rows hrows s o ho)
    have hrdots := fun (s : ByteArray) (o : List (List AV)) (ho : o = dR (dotS l s)) => hC _ _ _ (rDots_ok l (by omega) rows hrows s o ho)
    have hdeq := fun (s : ByteArray) (o : List (List AV)) (ho : o = dR (dotS l s)) => hC _ _ _ (dotsEq_ok (dotS l s) (hdl s) o o ho ho)
    obtain ⟨o0, ho0⟩ : ∃ o, o = dR (dotS l s) := ⟨_, rfl⟩
    have hd1 := hdots s o0 ho0
    have hd2 := hrdots s o0 ho0
    have hd3 := hdeq s o0 ho0
    obtain ⟨q, hq⟩ : ∃ q, q = hasB l s := ⟨_, rfl⟩
    have hhas := hC _ _ _ (hasM_ok l (by omega) rows hrows s q hq)
    have hqN : q = true ↔ L s ∈ nameF 3 l := by rw [hq]; exact hasB_names l s
    have hhasK := fun (k : List UInt8) (hk : k ∈ nameF 3 l) => hC _ _ _ (hasM_ok l (by omega) rows hrows (BA k) true (by symm; rw [hasB_names]; exact hk))
    obtain ⟨NM, hNM⟩ : ∃ NM, NM = nameF 3 l := ⟨_, rfl⟩
    rw [← hNM] at hA hNl hqN hhasK
    obtain ⟨m', hm'⟩ : ∃ n' : Int, F .len A = n' := ⟨_, rfl⟩
    have em : m' = (NM.length : Int) := by rw [← hm', lenF hF, hA, sR_len]
    clear hNM hq ho0 hdl hz
    cbv
    refine ⟨_, haw, ?_⟩
    cbv
    refine cF (tn) ?_
    cbv
    refine ⟨_, hfew, ?_⟩
    cbv
    rw [tn]
    refine bF (rfl) ?_
    cbv
    refine ⟨_, hrall, ?_⟩
    cbv
    refine ⟨_, hall, ?_⟩
    cbv
    refine ⟨_, htx, ?_⟩
    cbv
    refine cF (tn) ?_
    cbv
    refine ⟨_, hd1, ?_⟩
    cbv
    refine ⟨_, hd2, ?_⟩
    cbv
    refine ⟨_, hd3, ?_⟩
    cbv
    rw [tn]
    refine bF (rfl) ?_
    cbv
    rw [hm']
    refine ⟨Nat × Int × Bool, fun x => { slots := [(35, aI x.2.1), (34, aI m'), (6, aB x.2.2), (5, .sl A), (4, aB false), (1, aS s), (0, .sl rows)], obs := [], ctr := 0 }, fun x => x.2.1 = (x.1 : Int) ∧ x.1 ≤ NM.length ∧ (x.2.2 = true ↔ L s ∈ NM.take x.1), fun x => NM.length - x.1, ⟨(0, 0, false), ⟨rfl, Nat.zero_le _, by simp⟩, (le_of [] (by simp [leSl, leOb, injK, memK, parK, noTup, lk, rn0, rnA, plain] <;> first | rfl | decide))⟩, fun x hx => ?_⟩
    obtain ⟨j, j', th⟩ := x
    obtain ⟨ej, hj, eth⟩ := hx
    simp only at ej hj eth
    have em : m' = (NM.length : Int) := em
    have tjI := ltF hF j NM.length j' m' ej em
    obtain ⟨j2, hj2⟩ : ∃ i2, F .ar .add .i64 j' 1 = i2 := ⟨_, rfl⟩
    have ej2 : j2 = ((j + 1 : Nat) : Int) := hj2.symm.trans (incF hF ej (by omega))
    by_cases hjl : j < NM.length
    · have tj : F .cmp .lss j' m' = true := tjI.2 hjl
      obtain ⟨k, hk⟩ : ∃ s, NM[j]? = some s := ⟨_, List.getElem?_eq_getElem hjl⟩
      have hrow : A[j]? = some [aS (BA k)] := by rw [hA]; exact sR_get hk
      have hmj : NM.length - (j + 1) < NM.length - j := by omega
      have hhk := hhasK k (List.mem_of_getElem? hk)
      obtain ⟨z, hz⟩ : ∃ z, z = BA k := ⟨_, rfl⟩
      have hkz : k = L z := by rw [hz, L_BA]
      rw [← hz] at hrow hhk
      obtain ⟨o1, ho1⟩ : ∃ o, o = dR (dotS l z) := ⟨_, rfl⟩
      have g1 := hdots z o1 ho1
      have g2 := hrdots z o1 ho1
      have g3 := hdeq z o1 ho1
      obtain ⟨b, hb⟩ : ∃ b, F .scmp .eql z s = b := ⟨_, rfl⟩
      have hb2 : b = true ↔ z = s := by rw [← hb, seqF hF]; exact decide_eq_true_iff
      have eth2 : (th || b) = true ↔ L s ∈ NM.take (j + 1) := by
        rw [List.take_add_one, hk, Bool.or_eq_true, eth, hb2]
        simp only [Option.toList, List.mem_append, List.mem_singleton]
        rw [hkz]
        exact ⟨fun h => h.imp id (fun e => by rw [e]), fun h => h.imp id (fun e => (L_inj e).symm)⟩
      clear hhasK hdots hrdots hdeq hd1 hd2 hd3 hrall hall htx hhas hqN eth hb2 ho1 hz hkz tjI hA
      cases th with
      | true =>
        cbv
        refine bT (tj) ?_
        cbv
        refine cT (rfl) ?_
        cbv
        refine ⟨hC _ _ _ (ben_ok (by kernel_rfl)), ?_⟩
        cbv
        refine ⟨j, _, ej, hrow, rfl, ?_⟩
        cbv
        refine ⟨_, hhk, ?_⟩
        cbv
        refine cF (tn) ?_
        cbv
        refine ⟨j, _, ej, hrow, rfl, ?_⟩
        cbv
        refine ⟨_, g1, ?_⟩
        cbv
        refine ⟨j, _, ej, hrow, rfl, ?_⟩
        cbv
        refine ⟨_, g2, ?_⟩
        cbv
        refine ⟨_, g3, ?_⟩
        cbv
        rw [tn]
        refine bF (rfl) ?_
        cbv
        rw [hj2]
        exact ⟨(j + 1, j2, true), ⟨ej2, hjl, eth2⟩, hmj, (le_of [] (by simp [leSl, leOb, injK, memK, parK, noTup, lk, rn0, rnA, plain] <;> first | rfl | decide))⟩
      | false =>
        cbv
        refine bT (tj) ?_
        cbv
        refine cF (rfl) ?_
        cbv
        refine ⟨j, _, ej, hrow, rfl, ?_⟩
        cbv
        rw [hb]
        refine ⟨hC _ _ _ (ben_ok (by kernel_rfl)), ?_⟩
        cbv
        refine ⟨j, _, ej, hrow, rfl, ?_⟩
        cbv
        refine ⟨_, hhk, ?_⟩
        cbv
        refine cF (tn) ?_
        cbv
        refine ⟨j, _, ej, hrow, rfl, ?_⟩
        cbv
        refine ⟨_, g1, ?_⟩
        cbv
        refine ⟨j, _, ej, hrow, rfl, ?_⟩
        cbv
        refine ⟨_, g2, ?_⟩
        cbv
        refine ⟨_, g3, ?_⟩
        cbv
        rw [tn]
        refine bF (rfl) ?_
        cbv
        rw [hj2]
        have eth2 : b = true ↔ L s ∈ NM.take (j + 1) := eth2
        exact ⟨(j + 1, j2, b), ⟨ej2, hjl, eth2⟩, hmj, (le_of [] (by simp [leSl, leOb, injK, memK, parK, noTup, lk, rn0, rnA, plain] <;> first | rfl | decide))⟩
    · have tj : F .cmp .lss j' m' = false := by cases h : F .cmp .lss j' m' with | true => exact absurd (tjI.1 h) hjl | false => rfl
      rw [List.take_of_length_le (by omega), ← hqN] at eth
      have hqt : q = th := by cases q <;> cases th <;> simp_all
      subst hqt
      have hb1 := hC _ _ _ (csem_bool q q true (by cases q <;> rfl))
      clear hhasK hdots hrdots hdeq hd1 hd2 hd3 hrall hall htx hqN eth tjI hA
      cbv
      refine bF (tj) ?_
      cbv
      refine ⟨_, hhas, ?_⟩
      cbv
      refine ⟨_, hb1, ?_⟩
      cbv
      try simp
/-! ### MemberParts -/
theorem names_ext {l m : List Ev} (h : ∀ x, x ∈ l ↔ x ∈ m) : nameF 3 l = nameF 3 m := by
  refine rise_ext (nameF_rise _ _) (nameF_rise _ _) fun x => ?_
  rw [nameF_mem, nameF_mem]
  simp only [h]
theorem dotS_ext {l m : List Ev} (h : ∀ x, x ∈ l ↔ x ∈ m) (s : ByteArray) : dotS l s = dotS m s := by
  obtain ⟨h1, h2⟩ := dotS_spec l s
  obtain ⟨g1, g2⟩ := dotS_spec m s
  refine riseD_ext h1 g1 fun x => ?_
  rw [h2, g2]
  simp only [h]
theorem evR_app (a b : List Ev) : evR (a ++ b) = evR a ++ evR b := by simp [evR]
theorem evR_26 (l : List Ev) : ∀ r ∈ evR l, r.length = 26 := fun r h => by
  obtain ⟨e, _, rfl⟩ := List.mem_map.1 h
  rfl
set_option maxHeartbeats 8000000 in
theorem memberParts_ok (l m : List Ev) (hz : ∀ e ∈ l, e.op.fld.size ≤ maxLen) (hz2 : ∀ e ∈ m, e.op.fld.size ≤ maxLen) (s : ByteArray) : CSem Try.prog (.fn 11) [.sl (evR l), .sl (evR m), aS s] (.pure [aB true]) := by
  obtain ⟨ra, hra⟩ : ∃ r, r = evR l := ⟨_, rfl⟩
  obtain ⟨rb, hrb⟩ : ∃ r, r = evR m := ⟨_, rfl⟩
  rw [← hra, ← hrb]
  refine of_text gam_ok mixed { n := 62, keep := [22, 24, 26, 27, 29, 31, 33] } Try.func11 (by kernel_rfl) rfl rfl (by simp) (by decide) fun F C D hF hC hD => ?_
  have haw := hC _ _ _ awakeM_ok
  have tn : F .bnot true = false := by rw [bnotF hF]; rfl
  have tn2 : F .bnot false = true := by rw [bnotF hF]; rfl
  obtain ⟨f, hf⟩ : ∃ f, f = fewM l := ⟨_, rfl⟩
  have hfew := hC _ _ _ (fewM_ok l ra hra f hf)
  obtain ⟨f2, hf2⟩ : ∃ f, f = fewM m := ⟨_, rfl⟩
  have hfew2 := hC _ _ _ (fewM_ok m rb hrb f2 hf2)
  cases f with
  | false =>
    clear hf hf2 hfew2
    cbv
    refine ⟨_, haw, ?_⟩
    cbv
    refine cF (tn) ?_
    cbv
    refine ⟨_, hfew, ?_⟩
    cbv
    rw [tn2]
    refine cT (rfl) ?_
    cbv
    refine ⟨_, haw, ?_⟩
    cbv
    try simp
  | true =>
    cases f2 with
    | false =>
      clear hf hf2
      cbv
      refine ⟨_, haw, ?_⟩
      cbv
      refine cF (tn) ?_
      cbv
      refine ⟨_, hfew, ?_⟩
      cbv
      rw [tn]
      refine cF (rfl) ?_
      cbv
      refine ⟨_, hfew2, ?_⟩
      cbv
      rw [tn2]
      refine bT (rfl) ?_
      cbv
      refine ⟨_, haw, ?_⟩
      cbv
      try simp
    | true =>
      have hl := fewM_le hf
      have hl2 := fewM_le hf2
      clear hf hf2
      obtain ⟨x, hx⟩ : ∃ x, x = l ++ m := ⟨_, rfl⟩
      obtain ⟨y, hy⟩ : ∃ y, y = (m ++ l) ++ m := ⟨_, rfl⟩
      have hxl : x.length ≤ 600 := by rw [hx, List.length_append]; omega
      have hyl : y.length ≤ 900 := by rw [hy, List.length_append, List.length_append]; omega
      have hxz : ∀ e ∈ x, e.op.fld.size ≤ maxLen := fun e he => by
        rw [hx] at he
        rcases List.mem_append.1 he with h | h
        · exact hz e h
        · exact hz2 e h
      have hyz : ∀ e ∈ y, e.op.fld.size ≤ maxLen := fun e he => by
        rw [hy] at he
        rcases List.mem_append.1 he with h | h
        · rcases List.mem_append.1 h with h | h
          · exact hz2 e h
          · exact hz e h
        · exact hz2 e h
      have hxy : ∀ e, e ∈ x ↔ e ∈ y := fun e => by
        rw [hx, hy]
        simp only [List.mem_append]
        exact ⟨fun h => h.elim (fun h => .inl (.inr h)) .inr, fun h => h.elim (fun h => h.elim .inr .inl) .inr⟩
      obtain ⟨A1, hA1⟩ : ∃ o, F .app [] ra = o := ⟨_, rfl⟩
      obtain ⟨A2, hA2⟩ : ∃ o, F .app A1 rb = o := ⟨_, rfl⟩
      obtain ⟨B1, hB1⟩ : ∃ o, F .app [] rb = o := ⟨_, rfl⟩
      obtain ⟨B2, hB2⟩ : ∃ o, F .app B1 ra = o := ⟨_, rfl⟩
      obtain ⟨B3, hB3⟩ : ∃ o, F .app B2 rb = o := ⟨_, rfl⟩
      have eA1 : A1 = evR l := by rw [← hA1, hF, hra]; rfl
      have eA2 : A2 = evR x := by rw [← hA2, hF, eA1, hrb, hx, evR_app]; rfl
      have eB1 : B1 = evR m := by rw [← hB1, hF, hrb]; rfl
      have eB2 : B2 = evR (m ++ l) := by rw [← hB2, hF, eB1, hra, evR_app]; rfl
      have eB3 : B3 = evR y := by rw [← hB3, hF, eB2, hrb, hy, evR_app _ m]; rfl
      have la : ∀ r ∈ ra, r.length = 26 := by rw [hra]; exact evR_26 l
      have lb : ∀ r ∈ rb, r.length = 26 := by rw [hrb]; exact evR_26 m
      have b1 : (F .len [] + F .len ra) * 232 ≤ 140737488355328 := by rw [lenF hF, lenF hF, hra, evR_len]; simp only [List.length_nil]; omega
      have b2 : (F .len A1 + F .len rb) * 232 ≤ 140737488355328 := by rw [lenF hF, lenF hF, eA1, hrb, evR_len, evR_len]; omega
      have b3 : (F .len [] + F .len rb) * 232 ≤ 140737488355328 := by rw [lenF hF, lenF hF, hrb, evR_len]; simp only [List.length_nil]; omega
      have b4 : (F .len B1 + F .len ra) * 232 ≤ 140737488355328 := by rw [lenF hF, lenF hF, eB1, hra, evR_len, evR_len]; omega
      have b5 : (F .len B2 + F .len rb) * 232 ≤ 140737488355328 := by rw [lenF hF, lenF hF, eB2, hrb, evR_len, evR_len, List.length_append]; omega
      obtain ⟨N, hN⟩ : ∃ N, N = sR (nameF 3 x) := ⟨_, rfl⟩
      have h1 := hC _ _ _ (memAll_ok x (by omega) hxz A2 eA2 N hN)
      have h2 := hC _ _ _ (memAll_ok y (by omega) hyz B3 eB3 N (by rw [hN, names_ext hxy]))
      have hNl := nameF_le 3 x
      have h3 := hC _ _ _ (texts_ok (nameF 3 x) (nameF 3 x) (by omega) (by omega) N N hN hN true (by simp))
      obtain ⟨p, hp⟩ : ∃ q, q = hasB x s := ⟨_, rfl⟩
      obtain ⟨q1, hq1⟩ : ∃ q, q = hasB l s := ⟨_, rfl⟩
      obtain ⟨q2, hq2⟩ : ∃ q, q = hasB m s := ⟨_, rfl⟩
      have h4 := hC _ _ _ (hasM_ok x (by omega) A2 eA2 s p hp)
      have h5 := hC _ _ _ (hasM_ok l (by omega) ra hra s q1 hq1)
      have h6 := hC _ _ _ (hasM_ok m (by omega) rb hrb s q2 hq2)
      have hpq : p = (q1 || q2) := by rw [hp, hq1, hq2, hx]; unfold hasB; rw [List.any_append]
      obtain ⟨o, ho⟩ : ∃ o, o = dR (dotS x s) := ⟨_, rfl⟩
      have h7 := hC _ _ _ (memDots_ok x (by omega) A2 eA2 s o ho)
      have h8 := hC _ _ _ (memDots_ok y (by omega) B3 eB3 s o (by rw [ho, dotS_ext hxy]))
      have hdl : (dotS x s).length ≤ 1000000 := by
        rw [← puts_eq]
        have g1 := (puts_ok (dotsM x s) [] List.Pairwise.nil).2.2
        have g2 := dotsM_len x s
        simp only [List.length_nil] at g1
        omega
      have h9 := hC _ _ _ (dotsEq_ok (dotS x s) hdl o o ho ho)
      clear hx hy hxz hyz hxy eA1 eA2 eB1 eB2 eB3 hN hNl hp hq1 hq2 ho hdl hz hz2
      cases q1 with
      | true =>
        rw [Bool.true_or] at hpq
        subst hpq
        have hb := hC _ _ _ (csem_bool true true true rfl)
        cbv
        refine ⟨_, haw, ?_⟩
        cbv
        refine cF (tn) ?_
        cbv
        refine ⟨_, hfew, ?_⟩
        cbv
        rw [tn]
        refine cF (rfl) ?_
        cbv
        refine ⟨_, hfew2, ?_⟩
        cbv
        rw [tn]
        refine bF (rfl) ?_
        cbv
        refine ⟨la, b1, ?_⟩
        cbv
        rw [hA1]
        refine ⟨lb, b2, ?_⟩
        cbv
        rw [hA2]
        refine ⟨lb, b3, ?_⟩
        cbv
        rw [hB1]
        refine ⟨la, b4, ?_⟩
        cbv
        rw [hB2]
        refine ⟨lb, b5, ?_⟩
        cbv
        rw [hB3]
        refine ⟨_, h1, ?_⟩
        cbv
        refine ⟨_, h2, ?_⟩
        cbv
        refine ⟨_, h3, ?_⟩
        cbv
        refine bT (rfl) ?_
        cbv
        refine ⟨_, h4, ?_⟩
        cbv
        refine ⟨_, h5, ?_⟩
        cbv
        refine cT (rfl) ?_
        cbv
        refine ⟨_, hb, ?_⟩
        cbv
        refine bT (rfl) ?_
        cbv
        refine ⟨_, h7, ?_⟩
        cbv
        refine ⟨_, h8, ?_⟩
        cbv
        refine ⟨_, h9, ?_⟩
        cbv
        try simp
      | false =>
        rw [Bool.false_or] at hpq
        subst hpq
        have hb := hC _ _ _ (csem_bool p p true (by cases p <;> rfl))
        cbv
        refine ⟨_, haw, ?_⟩
        cbv
        refine cF (tn) ?_
        cbv
        refine ⟨_, hfew, ?_⟩
        cbv
        rw [tn]
        refine cF (rfl) ?_
        cbv
        refine ⟨_, hfew2, ?_⟩
        cbv
        rw [tn]
        refine bF (rfl) ?_
        cbv
        refine ⟨la, b1, ?_⟩
        cbv
        rw [hA1]
        refine ⟨lb, b2, ?_⟩
        cbv
        rw [hA2]
        refine ⟨lb, b3, ?_⟩
        cbv
        rw [hB1]
        refine ⟨la, b4, ?_⟩
        cbv
        rw [hB2]
        refine ⟨lb, b5, ?_⟩
        cbv
        rw [hB3]
        refine ⟨_, h1, ?_⟩
        cbv
        refine ⟨_, h2, ?_⟩
        cbv
        refine ⟨_, h3, ?_⟩
        cbv
        refine bT (rfl) ?_
        cbv
        refine ⟨_, h4, ?_⟩
        cbv
        refine ⟨_, h5, ?_⟩
        cbv
        refine cF (rfl) ?_
        cbv
        refine ⟨_, h6, ?_⟩
        cbv
        refine ⟨_, hb, ?_⟩
        cbv
        refine bT (rfl) ?_
        cbv
        refine ⟨_, h7, ?_⟩
        cbv
        refine ⟨_, h8, ?_⟩
        cbv
        refine ⟨_, h9, ?_⟩
        cbv
        try simp
end Go.Proofs.Ytdmdahnnfancpaa
