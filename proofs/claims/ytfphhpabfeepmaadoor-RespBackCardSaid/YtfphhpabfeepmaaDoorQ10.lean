import Derived.Test.YtfphhpabfeepmaaDoorQ9
set_option linter.unusedSimpArgs false
set_option linter.unusedVariables false
namespace Go.Proofs.YtfphhpabfeepmaaDoor
open Go Go.RowKit Am

def okC (c : List (List UInt8)) : Prop := 1 ≤ c.length ∧ c.length ≤ 8 ∧ ∀ a ∈ c, a.length ≤ 64
theorem okC_le {c : List (List UInt8)} (h : okC c) : (cmdB c).length ≤ 24270 := by
  have := cmdB_le c (by have := h.2.1; omega) (fun a ha => Nat.le_trans (h.2.2 a ha) (by omega))
  have := h.2.1
  omega
theorem flat_cmd (cs : List (List (List UInt8))) : ∀ i, (∀ j c, j < i → cs[j]? = some c → okC c) → ((cs.take i).map cmdB).flatten.length ≤ 24270 * i := by
  intro i
  induction i with
  | zero => intro _; simp
  | succ i ih =>
    intro h
    have h1 := ih (fun j c hj hc => h j c (by omega) hc)
    rw [List.take_add_one]
    cases hc : cs[i]? with
    | none => simp only [Option.toList_none, List.append_nil]; omega
    | some c =>
      have h2 := okC_le (h i c (by omega) hc)
      simp only [Option.toList_some, List.map_append, List.map_cons, List.map_nil, List.flatten_append, List.flatten_cons, List.flatten_nil, List.append_nil, List.length_append]
      omega
set_option maxHeartbeats 8000000 in
theorem respBack_go (cs : List (List (List UInt8))) (h40 : cs.length ≤ 40) (rows : List (List AV)) (hrows : rows = cR cs) : CSem Tryd.prog (.fn 6) [.sl rows] (.pure [aB true]) := by
  refine of_text gam_ok mixed { n := 74, keep := [59, 62], bxs := [62], wrs := [20] } Tryd.func6 (by kernel_rfl) rfl rfl (by simp) (by decide) fun F C D hF hC hD => ?_
  have haw := hC _ _ _ awake_ok
  have t2 : F .bnot true = false := by rw [bnotF hF]; rfl
  obtain ⟨n', hn'⟩ : ∃ n' : Int, F .len rows = n' := ⟨_, rfl⟩
  have en : n' = (cs.length : Int) := by rw [← hn', lenF hF, hrows, cR_len]
  have g1 : F .cmp .gtr n' 40 = decide (40 < cs.length) := by rw [gtF hF, en]; congr 1; exact propext ⟨fun h => by omega, fun h => by omega⟩
  have g1 : F .cmp .gtr n' 40 = false := by rw [g1]; exact decide_eq_false (by omega)
  have hnew := hC _ _ _ new_ok
  cbv
  refine ⟨_, haw, ?_⟩
  cbv
  refine cF (t2) ?_
  cbv
  rw [hn']
  refine bF (g1) ?_
  cbv
  rw [hn']
  refine ⟨Nat × Int × List (List AV), fun x => { slots := [(18, aI x.2.1), (17, aI n'), (3, .own 0 0), (0, .sl rows)], obs := [(0, .row 5 1 x.2.2 0 0)], ctr := 1 }, fun x => x.2.1 = (x.1 : Int) ∧ x.1 ≤ cs.length ∧ x.2.2 = byR ((cs.take x.1).map cmdB).flatten ∧ ∀ j c, j < x.1 → cs[j]? = some c → okC c, fun x => cs.length - x.1, ⟨(0, 0, []), ⟨rfl, Nat.zero_le _, rfl, fun j c h => by omega⟩, Le.trans (le_nil 3 5 1 (by rfl) (by rfl)) (le_of [] (by simp [leSl, leOb, injK, memK, parK, noTup, lk, rn0, rnA, plain] <;> first | rfl | decide))⟩, fun x hx => ?_⟩
  obtain ⟨i, i', oR⟩ := x
  obtain ⟨ei, hi, eo, hsm⟩ := hx
  simp only at ei hi eo hsm
  have en : n' = (cs.length : Int) := en
  have tl := ltF hF i cs.length i' n' ei en
  obtain ⟨i2, hi2⟩ : ∃ i2, F .ar .add .i64 i' 1 = i2 := ⟨_, rfl⟩
  have ei2 : i2 = ((i + 1 : Nat) : Int) := hi2.symm.trans (incF hF ei (by omega))
  by_cases hil : i < cs.length
  · have tl : F .cmp .lss i' n' = true := tl.2 hil
    obtain ⟨c, hc⟩ : ∃ c, cs[i]? = some c := ⟨_, List.getElem?_eq_getElem hil⟩
    obtain ⟨cR1, hcR1⟩ : ∃ r, r = sR c := ⟨_, rfl⟩
    have hrow : rows[i]? = some [.sl cR1] := by rw [hrows, hcR1]; exact cR_get hc
    obtain ⟨m', hm'⟩ : ∃ n' : Int, F .len cR1 = n' := ⟨_, rfl⟩
    have em : m' = (c.length : Int) := by rw [← hm', lenF hF, hcR1, sR_len]
    have v1 : F .cmp .lss m' 1 = decide (c.length < 1) := by rw [lsF hF, em]; congr 1; exact propext ⟨fun h => by omega, fun h => by omega⟩
    have v2 : F .cmp .gtr m' 8 = decide (8 < c.length) := by rw [gtF hF, em]; congr 1; exact propext ⟨fun h => by omega, fun h => by omega⟩
    by_cases hc1 : c.length < 1
    · have v1 : F .cmp .lss m' 1 = true := by rw [v1]; exact decide_eq_true hc1
      cbv
      refine bT (tl) ?_
      cbv
      refine ⟨i, _, ei, hrow, rfl, ?_⟩
      cbv
      rw [hm']
      refine cT (v1) ?_
      cbv
    · have v1 : F .cmp .lss m' 1 = false := by rw [v1]; exact decide_eq_false hc1
      by_cases hc8 : 8 < c.length
      · have v2 : F .cmp .gtr m' 8 = true := by rw [v2]; exact decide_eq_true hc8
        cbv
        refine bT (tl) ?_
        cbv
        refine ⟨i, _, ei, hrow, rfl, ?_⟩
        cbv
        rw [hm']
        refine cF (v1) ?_
        cbv
        refine ⟨i, _, ei, hrow, rfl, ?_⟩
        cbv
        rw [hm']
        refine bT (v2) ?_
        cbv
      · have v2 : F .cmp .gtr m' 8 = false := by rw [v2]; exact decide_eq_false hc8
        cbv
        refine bT (tl) ?_
        cbv
        refine ⟨i, _, ei, hrow, rfl, ?_⟩
        cbv
        rw [hm']
        refine cF (v1) ?_
        cbv
        refine ⟨i, _, ei, hrow, rfl, ?_⟩
        cbv
        rw [hm']
        refine bF (v2) ?_
        cbv
        refine ⟨i, _, ei, hrow, rfl, ?_⟩
        cbv
        rw [hm']
        refine ⟨Nat × Int, fun x => { slots := [(40, aI x.2), (39, aI m'), (4, aI i'), (18, aI i'), (17, aI n'), (3, .own 0 0), (0, .sl rows)], obs := [(0, .row 5 1 oR 0 0)], ctr := 1 }, fun x => x.2 = (x.1 : Int) ∧ x.1 ≤ c.length ∧ ∀ j a, j < x.1 → c[j]? = some a → a.length ≤ 64, fun x => c.length - x.1, ⟨(0, 0), ⟨rfl, Nat.zero_le _, fun j a h => by omega⟩, (le_of [] (by simp [leSl, leOb, injK, memK, parK, noTup, lk, rn0, rnA, plain] <;> first | rfl | decide))⟩, fun x hx => ?_⟩
        obtain ⟨k, k'⟩ := x
        obtain ⟨ek, hk, hks⟩ := hx
        simp only at ek hk hks
        have em : m' = (c.length : Int) := em
        have tl2 := ltF hF k c.length k' m' ek em
        obtain ⟨k2, hk2⟩ : ∃ i2, F .ar .add .i64 k' 1 = i2 := ⟨_, rfl⟩
        have ek2 : k2 = ((k + 1 : Nat) : Int) := hk2.symm.trans (incF hF ek (by omega))
        by_cases hkl : k < c.length
        · have tl2 : F .cmp .lss k' m' = true := tl2.2 hkl
          obtain ⟨a, ha⟩ : ∃ a, c[k]? = some a := ⟨_, List.getElem?_eq_getElem hkl⟩
          obtain ⟨sa, hsa⟩ : ∃ sa, sa = BA a := ⟨_, rfl⟩
          have hrow2 : cR1[k]? = some [aS sa] := by rw [hcR1, hsa]; exact sR_get ha
          have v3 : F .cmp .gtr (F .slen sa) 64 = decide (64 < a.length) := by rw [slenF hF, gtF hF, hsa, BA_size]; congr 1; exact propext ⟨fun h => by omega, fun h => by omega⟩
          by_cases hbig : 64 < a.length
          · have v3 : F .cmp .gtr (F .slen sa) 64 = true := by rw [v3]; exact decide_eq_true hbig
            cbv
            refine bT (tl2) ?_
            cbv
            refine ⟨i, _, ei, hrow, rfl, ?_⟩
            cbv
            refine ⟨k, _, ek, hrow2, rfl, ?_⟩
            cbv
            refine bT (v3) ?_
            cbv
          · have v3 : F .cmp .gtr (F .slen sa) 64 = false := by rw [v3]; exact decide_eq_false hbig
            cbv
            refine bT (tl2) ?_
            cbv
            refine ⟨i, _, ei, hrow, rfl, ?_⟩
            cbv
            refine ⟨k, _, ek, hrow2, rfl, ?_⟩
            cbv
            refine bF (v3) ?_
            cbv
            rw [hk2]
            exact ⟨(k + 1, k2), ⟨ek2, hkl, fun j b hj hb => by
              by_cases hjn : j < k
              · exact hks j b hjn hb
              · have hji : j = k := by omega
                rw [hji, ha] at hb; injection hb with hb; rw [← hb]; omega⟩, (show c.length - (k + 1) < c.length - k by omega), (le_of [] (by simp [leSl, leOb, injK, memK, parK, noTup, lk, rn0, rnA, plain] <;> first | rfl | decide))⟩
        · have tl2 : F .cmp .lss k' m' = false := by cases h : F .cmp .lss k' m' with | true => exact absurd (tl2.1 h) hkl | false => rfl
          have h64 : ∀ a ∈ c, a.length ≤ 64 := fun a ha => by
            obtain ⟨j, hj, hja⟩ := List.getElem_of_mem ha
            exact hks j a (by omega) (by rw [List.getElem?_eq_getElem hj, hja])
          have hokc : okC c := ⟨by omega, by omega, h64⟩
          have hcl := okC_le hokc
          have hfl := flat_cmd cs i hsm
          obtain ⟨bR, hbR⟩ : ∃ r, r = byR (cmdB c) := ⟨_, rfl⟩
          have henc := hC _ _ _ (fn_frz (enc_cmd c (by omega) (fun a ha => Nat.le_trans (h64 a ha) (by omega)) cR1 hcR1 bR hbR))
          have hel : ∀ r ∈ bR, r.length = 1 := by rw [hbR]; exact byR_one _
          have hrm : (F .len oR + F .len bR) * 1 ≤ 140737488355328 := by rw [lenF hF, lenF hF, eo, hbR, byR_len, byR_len]; omega
          obtain ⟨o2, ho2⟩ : ∃ o2, F .app oR bR = o2 := ⟨_, rfl⟩
          have eo2 : o2 = byR ((cs.take (i + 1)).map cmdB).flatten := by
            rw [← ho2, hF, eo, hbR, List.take_add_one, hc]
            simp [sy, byR]
          cbv
          refine bF (tl2) ?_
          cbv
          refine ⟨i, _, ei, hrow, rfl, ?_⟩
          cbv
          refine ⟨_, henc, ?_⟩
          cbv
          refine ⟨hel, hrm, ?_⟩
          cbv
          rw [ho2, hi2]
          exact ⟨(i + 1, i2, o2), ⟨ei2, hil, eo2, fun j b hj hb => by
            by_cases hjn : j < i
            · exact hsm j b hjn hb
            · have hji : j = i := by omega
              rw [hji, hc] at hb; injection hb with hb; rw [← hb]; exact hokc⟩, (show cs.length - (i + 1) < cs.length - i by omega), (le_of [(0, 1)] (by simp [leSl, leOb, injK, memK, parK, noTup, lk, rn0, rnA, plain] <;> first | rfl | decide))⟩
  · have tl : F .cmp .lss i' n' = false := by cases h : F .cmp .lss i' n' with | true => exact absurd (tl.1 h) hil | false => rfl
    have hge : cs.length ≤ i := by omega
    have hall : ∀ c ∈ cs, okC c := fun c hc => by
      obtain ⟨j, hj, hjc⟩ := List.getElem_of_mem hc
      exact hsm j c (by omega) (by rw [List.getElem?_eq_getElem hj, hjc])
    obtain ⟨B, hB⟩ : ∃ B, B = (cs.map cmdB).flatten := ⟨_, rfl⟩
    have hBl : B.length ≤ 24270 * i := by
      have := flat_cmd cs i hsm
      rw [List.take_of_length_le hge] at this
      rw [hB]; exact this
    have eo2 : oR = byR B := by rw [eo, List.take_of_length_le hge, hB]
    have hP : P B = (cs, [], 0) := by rw [hB]; exact P_cmds cs hall
    have hi3 : i ≤ 40 := by omega
    have hf := hC _ _ _ (wr_own (e := 5) (sz := 1) (v := 0) (m := 0) (feed_any [] B 0 (by rw [List.nil_append]; omega) [] oR rfl eo2 0 rfl [] rows 0 (by unfold FD; rw [if_neg (by decide), List.nil_append, hP]; rfl) (by rw [hrows]; unfold FD; rw [if_neg (by decide), List.nil_append, hP]) (by unfold FD; rw [if_neg (by decide), List.nil_append, hP]; rfl)))
    have hsame := hC _ _ _ (same_ok cs cs (by omega) (by omega) (fun x hx => by have := (hall x hx).2.1; omega) (fun x hx => by have := (hall x hx).2.1; omega) rows rows hrows hrows true (by simp))
    have v5 : F .cmp .eql 0 0 = true := by rw [eqF hF]; rfl
    cbv
    refine bF (tl) ?_
    cbv
    refine ⟨_, _, _, hnew, ?_⟩
    cbv
    refine ⟨_, _, hf, ?_⟩
    cbv
    refine bT (v5) ?_
    cbv
    refine ⟨_, hsame, ?_⟩
    cbv
    simp
theorem respBack_ok (cs : List (List (List UInt8))) : CSem Tryd.prog (.fn 6) [.sl (cR cs)] (.pure [aB true]) := by
  obtain ⟨rows, hrows⟩ : ∃ r, r = cR cs := ⟨_, rfl⟩
  rw [← hrows]
  by_cases h40 : 40 < cs.length
  · refine of_text gam_ok mixed { n := 74, keep := [59, 62], bxs := [62], wrs := [20] } Tryd.func6 (by kernel_rfl) rfl rfl (by simp) (by decide) fun F C D hF hC hD => ?_
    have haw := hC _ _ _ awake_ok
    have t2 : F .bnot true = false := by rw [bnotF hF]; rfl
    obtain ⟨n', hn'⟩ : ∃ n' : Int, F .len rows = n' := ⟨_, rfl⟩
    have en : n' = (cs.length : Int) := by rw [← hn', lenF hF, hrows, cR_len]
    have g1 : F .cmp .gtr n' 40 = decide (40 < cs.length) := by rw [gtF hF, en]; congr 1; exact propext ⟨fun h => by omega, fun h => by omega⟩
    have g1 : F .cmp .gtr n' 40 = true := by rw [g1]; exact decide_eq_true h40
    cbv
    refine ⟨_, haw, ?_⟩
    cbv
    refine cF (t2) ?_
    cbv
    rw [hn']
    refine bT (g1) ?_
    cbv
    refine ⟨_, haw, ?_⟩
    cbv
    simp
  · exact respBack_go cs (by omega) rows hrows
end Go.Proofs.YtfphhpabfeepmaaDoor
