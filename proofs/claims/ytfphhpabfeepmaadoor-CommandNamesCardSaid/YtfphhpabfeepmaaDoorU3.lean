import Derived.Test.YtfphhpabfeepmaaDoorU2
set_option linter.unusedSimpArgs false
set_option linter.unusedVariables false
namespace Go.Proofs.YtfphhpabfeepmaaDoor
open Go Go.RowKit Am

theorem capitals_ok (s : ByteArray) (l : List UInt8) (hs : l = L s) (hl : l.length ≤ 1000000) (r : ByteArray) (hr : r = BA (upL l)) : CSem Tryd.prog (.fn 48) [aS s] (.pure [aS r]) := by
  refine of_text gam_ok mixed { n := 30, keep := [7] } Tryd.func48 (by kernel_rfl) rfl rfl (by simp) (by decide) fun F C D hF hC hD => ?_
  obtain ⟨r0, hr0⟩ : ∃ r, r = byR l := ⟨_, rfl⟩
  have hcv := hC _ _ _ (sb_own s (by rw [L_size, ← hs]; omega) r0 (by rw [hr0, hs]))
  obtain ⟨n', hn'⟩ : ∃ n' : Int, F .len r0 = n' := ⟨_, rfl⟩
  have en : n' = (l.length : Int) := by rw [← hn', lenF hF, hr0, byR_len]
  cbv
  refine ⟨_, _, _, hcv, ?_⟩
  cbv
  rw [hn']
  refine ⟨Nat × Int × List (List AV) × Nat, fun x => { slots := [(10, aI x.2.1), (9, aI n'), (8, .own 0 0), (3, .own 0 0)], obs := [(0, .row 5 1 x.2.2.1 0 x.2.2.2)], ctr := 1 }, fun x => x.2.1 = (x.1 : Int) ∧ x.1 ≤ l.length ∧ x.2.2.1 = byR (upL (l.take x.1) ++ l.drop x.1), fun x => l.length - x.1, ⟨(0, 0, r0, 0), ⟨rfl, Nat.zero_le _, by simp only; rw [hr0]; rfl⟩, (le_of [] (by simp [leSl, leOb, injK, memK, parK, noTup, lk, rn0, rnA, plain] <;> first | rfl | decide))⟩, fun x hx => ?_⟩
  obtain ⟨i, i', rows, mv⟩ := x
  obtain ⟨ei, hi, eo⟩ := hx
  simp only at ei hi eo
  have en : n' = (l.length : Int) := en
  have tl := ltF hF i l.length i' n' ei en
  obtain ⟨i2, hi2⟩ : ∃ i2, F .ar .add .i64 i' 1 = i2 := ⟨_, rfl⟩
  have ei2 : i2 = ((i + 1 : Nat) : Int) := hi2.symm.trans (incF hF ei (by omega))
  by_cases hil : i < l.length
  · have tl : F .cmp .lss i' n' = true := tl.2 hil
    obtain ⟨c, hc⟩ : ∃ c, l[i]? = some c := ⟨_, List.getElem?_eq_getElem hil⟩
    obtain ⟨b, hb⟩ : ∃ b : Int, b = (c.toNat : Int) := ⟨_, rfl⟩
    have hlen1 : (upL (l.take i)).length = i := by rw [upL_len, List.length_take]; omega
    have hrow : rows[i]? = some [aU b] := by
      rw [eo, hb]
      refine byR_get ?_
      rw [List.getElem?_append_right (by omega), hlen1, List.getElem?_drop, show i + (i - i) = i by omega]
      exact hc
    have w1 : F .cmp .geq b 97 = decide (97 ≤ c.toNat) := by rw [geF hF, hb]; congr 1; exact propext ⟨fun h => by omega, fun h => by omega⟩
    have w2 : F .cmp .leq b 122 = decide (c.toNat ≤ 122) := by rw [leF hF, hb]; congr 1; exact propext ⟨fun h => by omega, fun h => by omega⟩
    have hdrop : l.drop i = c :: l.drop (i + 1) := by
      rw [List.drop_eq_getElem_cons hil]; congr 1; exact (List.getElem?_eq_some_iff.1 hc).2
    have htk : upL (l.take (i + 1)) = upL (l.take i) ++ [upc c] := by
      unfold upL
      rw [List.take_add_one, hc]
      simp
    by_cases h97 : 97 ≤ c.toNat
    · have w1 : F .cmp .geq b 97 = true := by rw [w1]; exact decide_eq_true h97
      by_cases h122 : c.toNat ≤ 122
      · have w2 : F .cmp .leq b 122 = true := by rw [w2]; exact decide_eq_true h122
        have hv := up_val hF ⟨h97, h122⟩ hb
        cbv
        refine bT (tl) ?_
        cbv
        refine ⟨i, _, ei, hrow, ?_⟩
        cbv
        refine bT (w1) ?_
        cbv
        refine bT (w2) ?_
        cbv
        refine ⟨i, _, ei, hrow, ?_⟩
        cbv
        obtain ⟨o2, ho2⟩ : ∃ o2, F .set rows i [.v (.int .u8 (F .ar .add .u8 (F .ar .sub .u8 b 97) 65))] = o2 := ⟨_, rfl⟩
        have eo2 : o2 = byR (upL (l.take (i + 1)) ++ l.drop (i + 1)) := by
          rw [← ho2, hv, hF, eo, htk, hdrop]
          show List.set _ _ _ = _
          rw [byR, List.map_append, List.set_append, if_neg (by rw [List.length_map, hlen1]; omega), List.length_map, hlen1, Nat.sub_self, List.map_cons, List.set_cons_zero]
          simp [byR]
        rw [ho2, hi2]
        exact ⟨by first | rfl | trivial | exact ⟨rfl⟩, (i + 1, i2, o2, mv + 1), ⟨ei2, hil, eo2⟩, (show l.length - (i + 1) < l.length - i by omega), (le_of [] (by simp [leSl, leOb, injK, memK, parK, noTup, lk, rn0, rnA, plain] <;> first | rfl | decide))⟩
      · have w2 : F .cmp .leq b 122 = false := by rw [w2]; exact decide_eq_false h122
        have eo2 : rows = byR (upL (l.take (i + 1)) ++ l.drop (i + 1)) := by
          rw [eo, htk, hdrop, upc, if_neg (fun h => h122 h.2)]; simp
        cbv
        refine bT (tl) ?_
        cbv
        refine ⟨i, _, ei, hrow, ?_⟩
        cbv
        refine bT (w1) ?_
        cbv
        refine bF (w2) ?_
        cbv
        rw [hi2]
        exact ⟨(i + 1, i2, rows, mv), ⟨ei2, hil, eo2⟩, (show l.length - (i + 1) < l.length - i by omega), (le_of [] (by simp [leSl, leOb, injK, memK, parK, noTup, lk, rn0, rnA, plain] <;> first | rfl | decide))⟩
    · have w1 : F .cmp .geq b 97 = false := by rw [w1]; exact decide_eq_false h97
      have eo2 : rows = byR (upL (l.take (i + 1)) ++ l.drop (i + 1)) := by
        rw [eo, htk, hdrop, upc, if_neg (fun h => h97 h.1)]; simp
      cbv
      refine bT (tl) ?_
      cbv
      refine ⟨i, _, ei, hrow, ?_⟩
      cbv
      refine bF (w1) ?_
      cbv
      rw [hi2]
      exact ⟨(i + 1, i2, rows, mv), ⟨ei2, hil, eo2⟩, (show l.length - (i + 1) < l.length - i by omega), (le_of [] (by simp [leSl, leOb, injK, memK, parK, noTup, lk, rn0, rnA, plain] <;> first | rfl | decide))⟩
  · have tl : F .cmp .lss i' n' = false := by cases h : F .cmp .lss i' n' with | true => exact absurd (tl.1 h) hil | false => rfl
    have hge : i = l.length := by omega
    have e3 : rows = byR (upL l) := by rw [eo, List.take_of_length_le (by omega), List.drop_eq_nil_iff.2 (by omega), List.append_nil]
    have hbs := hC _ _ _ (bs_ok (upL l) rows e3 r hr)
    cbv
    refine bF (tl) ?_
    cbv
    refine ⟨_, hbs, ?_⟩
    cbv
    simp
end Go.Proofs.YtfphhpabfeepmaaDoor
