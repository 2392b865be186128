import Derived.Test.YtfphhpabfeepmaaDoorQ8
import Derived.Test.YtfphhpabfeepmaaDoorP11
set_option linter.unusedSimpArgs false
set_option linter.unusedVariables false
namespace Go.Proofs.YtfphhpabfeepmaaDoor
open Go Go.RowKit Am

theorem cmdB_len (ags : List (List UInt8)) : 3 ≤ (cmdB ags).length := by
  simp only [cmdB, List.length_append, List.length_cons, List.length_nil]; omega
theorem cmdB_le (ags : List (List UInt8)) (hn : ags.length ≤ 1000) (h : ∀ a ∈ ags, a.length ≤ 3000) : (cmdB ags).length ≤ 30 + 3030 * ags.length := by
  have h1 := flat_bulk ags h ags.length
  rw [List.take_of_length_le (Nat.le_refl _)] at h1
  have h2 := dec_len (ags.length : Int) (by omega) (by omega)
  simp only [cmdB, List.length_append, List.length_cons, List.length_nil]
  omega
set_option maxHeartbeats 4000000 in
theorem respPrefix_go (ags : List (List UInt8)) (h1 : 1 ≤ ags.length) (h8 : ags.length ≤ 8) (rows : List (List AV)) (hrows : rows = sR ags) (cut : Int) (hc0 : 0 ≤ cut) (hc1 : cut < 18446744073709551616) : CSem Tryd.prog (.fn 9) [.sl rows, .v (.int .u64 cut)] (.pure [aB true]) := by
  refine of_text gam_ok mixed { n := 83, keep := [49], bxs := [49], wrs := [20] } Tryd.func9 (by kernel_rfl) rfl rfl (by simp) (by decide) fun F C D hF hC hD => ?_
  have haw := hC _ _ _ awake_ok
  have t2 : F .bnot true = false := by rw [bnotF hF]; rfl
  obtain ⟨n', hn'⟩ : ∃ n' : Int, F .len rows = n' := ⟨_, rfl⟩
  have en : n' = (ags.length : Int) := by rw [← hn', lenF hF, hrows, sR_len]
  have g1 : F .cmp .lss n' 1 = decide (ags.length < 1) := by rw [lsF hF, en]; congr 1; exact propext ⟨fun h => by omega, fun h => by omega⟩
  have g2 : F .cmp .gtr n' 8 = decide (8 < ags.length) := by rw [gtF hF, en]; congr 1; exact propext ⟨fun h => by omega, fun h => by omega⟩
  have g1 : F .cmp .lss n' 1 = false := by rw [g1]; exact decide_eq_false (by omega)
  have g2 : F .cmp .gtr n' 8 = false := by rw [g2]; exact decide_eq_false (by omega)
  have hnew := hC _ _ _ new_ok
  cbv
  refine ⟨_, haw, ?_⟩
  cbv
  refine cF (t2) ?_
  cbv
  rw [hn']
  refine cF (g1) ?_
  cbv
  rw [hn']
  refine bF (g2) ?_
  cbv
  rw [hn']
  refine ⟨Nat × Int, fun x => { slots := [(28, aI x.2), (27, aI n'), (1, .v (.int .u64 cut)), (0, .sl rows)], obs := [], ctr := 0 }, fun x => x.2 = (x.1 : Int) ∧ x.1 ≤ ags.length ∧ ∀ j a, j < x.1 → ags[j]? = some a → a.length ≤ 64, fun x => ags.length - x.1, ⟨(0, 0), ⟨rfl, Nat.zero_le _, fun j a h => by omega⟩, (le_of [] (by simp [leSl, leOb, injK, memK, parK, noTup, lk, rn0, rnA, plain] <;> first | rfl | decide))⟩, fun x hx => ?_⟩
  obtain ⟨i, i'⟩ := x
  obtain ⟨ei, hi, hsm⟩ := hx
  simp only at ei hi hsm
  have en : n' = (ags.length : Int) := en
  have tl := ltF hF i ags.length i' n' ei en
  obtain ⟨i2, hi2⟩ : ∃ i2, F .ar .add .i64 i' 1 = i2 := ⟨_, rfl⟩
  have ei2 : i2 = ((i + 1 : Nat) : Int) := hi2.symm.trans (incF hF ei (by omega))
  by_cases hil : i < ags.length
  · have tl : F .cmp .lss i' n' = true := tl.2 hil
    obtain ⟨a, ha⟩ : ∃ a, ags[i]? = some a := ⟨_, List.getElem?_eq_getElem hil⟩
    obtain ⟨sa, hsa⟩ : ∃ sa, sa = BA a := ⟨_, rfl⟩
    have hrow : rows[i]? = some [aS sa] := by rw [hrows, hsa]; exact sR_get ha
    have v1 : F .cmp .gtr (F .slen sa) 64 = decide (64 < a.length) := by rw [slenF hF, gtF hF, hsa, BA_size]; congr 1; exact propext ⟨fun h => by omega, fun h => by omega⟩
    by_cases hbig : 64 < a.length
    · have v1 : F .cmp .gtr (F .slen sa) 64 = true := by rw [v1]; exact decide_eq_true hbig
      cbv
      refine bT (tl) ?_
      cbv
      refine ⟨i, _, ei, hrow, rfl, ?_⟩
      cbv
      refine bT (v1) ?_
      cbv
    · have v1 : F .cmp .gtr (F .slen sa) 64 = false := by rw [v1]; exact decide_eq_false hbig
      cbv
      refine bT (tl) ?_
      cbv
      refine ⟨i, _, ei, hrow, rfl, ?_⟩
      cbv
      refine bF (v1) ?_
      cbv
      rw [hi2]
      exact ⟨(i + 1, i2), ⟨ei2, hil, fun j b hj hb => by
        by_cases hjn : j < i
        · exact hsm j b hjn hb
        · have hji : j = i := by omega
          rw [hji, ha] at hb; injection hb with hb; rw [← hb]; omega⟩, (show ags.length - (i + 1) < ags.length - i by omega), (le_of [] (by simp [leSl, leOb, injK, memK, parK, noTup, lk, rn0, rnA, plain] <;> first | rfl | decide))⟩
  · have tl : F .cmp .lss i' n' = false := by cases h : F .cmp .lss i' n' with | true => exact absurd (tl.1 h) hil | false => rfl
    have h64 : ∀ a ∈ ags, a.length ≤ 64 := fun a ha => by
      obtain ⟨j, hj, hja⟩ := List.getElem_of_mem ha
      exact hsm j a (by omega) (by rw [List.getElem?_eq_getElem hj, hja])
    have h3k : ∀ a ∈ ags, a.length ≤ 3000 := fun a ha => Nat.le_trans (h64 a ha) (by omega)
    obtain ⟨B, hB⟩ : ∃ B, B = cmdB ags := ⟨_, rfl⟩
    have hBl : B.length ≤ 30 + 3030 * ags.length := by rw [hB]; exact cmdB_le ags (by omega) h3k
    have hB3 : 3 ≤ B.length := by rw [hB]; exact cmdB_len ags
    obtain ⟨bR, hbR⟩ : ∃ r, r = byR B := ⟨_, rfl⟩
    have henc := hC _ _ _ (fn_frz (enc_cmd ags (by omega) h3k rows hrows bR (by rw [hbR, hB])))
    obtain ⟨bn, hbn⟩ : ∃ b : Int, F .len bR = b := ⟨_, rfl⟩
    have ebn : bn = (B.length : Int) := by rw [← hbn, lenF hF, hbR, byR_len]
    have v2 : F .cmp .eql bn 0 = false := by rw [eqF hF, ebn]; exact decide_eq_false (by omega)
    cbv
    refine bF (tl) ?_
    cbv
    refine ⟨_, henc, ?_⟩
    cbv
    rw [hbn]
    refine bF (v2) ?_
    cbv
    rw [hbn]
    have ebn : bn = (B.length : Int) := ebn
    have w1 : F .wrp .u64 bn = bn := by
      rw [hF, ebn]
      show IntKind.u64.wrap _ = _
      simp [IntKind.wrap, IntKind.signed, IntKind.bits, BitVec.toNat_ofInt]
      omega
    rw [w1]
    refine ⟨fun h => by omega, ?_⟩
    have w0 : (0 : Int) < bn := by omega
    obtain ⟨k, hk⟩ : ∃ k : Nat, k = (cut % bn).toNat := ⟨_, rfl⟩
    have hm0 := Int.emod_nonneg cut (show bn ≠ 0 by omega)
    have hm1 := Int.emod_lt_of_pos cut w0
    have hkB : k < B.length := by omega
    obtain ⟨k', hk'⟩ : ∃ k' : Int, F .wrp .i64 (F .ar .rem .u64 cut bn) = k' := ⟨_, rfl⟩
    have ek : k' = (k : Int) := by
      have e1 : F .ar .rem .u64 cut bn = cut.tmod bn := by rw [hF]; rfl
      rw [← hk', e1, Int.tmod_eq_emod_of_nonneg hc0, hF]
      show IntKind.i64.wrap _ = _
      rw [wrap_in (by omega) (by omega)]
      omega
    obtain ⟨r1, hr1⟩ : ∃ r, r = (bR.drop 0).take (k - 0) := ⟨_, rfl⟩
    obtain ⟨r2, hr2⟩ : ∃ r, r = (bR.drop k).take (B.length - k) := ⟨_, rfl⟩
    have er1 : r1 = byR (B.take k) := by rw [hr1, hbR]; simp [byR, List.map_take]
    have er2 : r2 = byR (B.drop k) := by rw [hr2, hbR, List.take_of_length_le (by rw [List.length_drop, byR_len]; exact Nat.le_refl _)]; simp [byR, List.map_drop]
    have hP1 : P (B.take k) = ([], B.take k, 0) := P_more (by rw [hB]; exact one_short ags h1 h8 h64 k (by rw [← hB]; exact hkB))
    have hP2 : P B = ([ags], [], 0) := by
      have := P_cmds [ags] (fun c hc => by rw [List.mem_singleton.1 hc]; exact ⟨h1, h8, h64⟩)
      rw [hB]; simpa using this
    have hln : (B.take k).length ≤ 1000000 := by rw [List.length_take]; omega
    obtain ⟨lR, hlR⟩ : ∃ r, r = byR (B.take k) := ⟨_, rfl⟩
    have hf1 := hC _ _ _ (feed_any [] (B.take k) 0 (by rw [List.nil_append]; exact hln) [] r1 rfl er1 0 rfl lR [] 0 (by rw [hlR]; unfold FD; rw [if_neg (by decide), List.nil_append, hP1]) (by unfold FD; rw [if_neg (by decide), List.nil_append, hP1]; rfl) (by unfold FD; rw [if_neg (by decide), List.nil_append, hP1]; rfl))
    obtain ⟨oR, hoR⟩ : ∃ r, r = cR [ags] := ⟨_, rfl⟩
    have hf2 := hC _ _ _ (feed_any (B.take k) (B.drop k) 0 (by rw [List.take_append_drop]; omega) lR r2 hlR er2 0 rfl [] oR 0 (by unfold FD; rw [if_neg (by decide), List.take_append_drop, hP2]; rfl) (by rw [hoR]; unfold FD; rw [if_neg (by decide), List.take_append_drop, hP2]) (by unfold FD; rw [if_neg (by decide), List.take_append_drop, hP2]; rfl))
    have hsame := hC _ _ _ (same_ok [ags] [ags] (by simp) (by simp) (fun x hx => by rw [List.mem_singleton.1 hx]; omega) (fun x hx => by rw [List.mem_singleton.1 hx]; omega) oR [[.sl rows]] hoR (by rw [hrows]; rfl) true (by simp))
    have hone : ∀ r ∈ bR, r.length = 1 := by rw [hbR]; exact byR_one B
    have v5 : F .cmp .eql (F .len []) 0 = true := by rw [lenF hF, eqF hF]; rfl
    have v6 : F .cmp .eql 0 0 = true := by rw [eqF hF]; rfl
    have hkn : ((k : Nat) : Int) ≤ F .len bR := by rw [hbn, ebn]; exact Int.ofNat_le.2 (Nat.le_of_lt hkB)
    have hBn : ((B.length : Nat) : Int) ≤ F .len bR := by rw [hbn, ebn]; exact Int.le_refl _
    have hBn2 : ((B.length : Nat) : Int) = F .len bR := by rw [hbn, ebn]
    refine ⟨_, _, _, hnew, ?_⟩
    cbv
    rw [hk']
    refine ⟨0, k, rfl, by rw [ek]; rfl, Nat.zero_le _, hkn, hone, r1, hr1, ?_⟩
    cbv
    refine ⟨_, _, hf1, ?_⟩
    cbv
    refine ⟨k, B.length, by rw [ek]; rfl, hBn2, Nat.le_of_lt hkB, hBn, hone, r2, hr2, ?_⟩
    cbv
    refine ⟨_, _, hf2, ?_⟩
    cbv
    refine bT (v5) ?_
    cbv
    refine bT (v6) ?_
    cbv
    refine bT (v6) ?_
    cbv
    refine ⟨_, hsame, ?_⟩
    cbv
    simp
theorem respPrefix_ok (ags : List (List UInt8)) (cut : Int) (hc0 : 0 ≤ cut) (hc1 : cut < 18446744073709551616) : CSem Tryd.prog (.fn 9) [.sl (sR ags), .v (.int .u64 cut)] (.pure [aB true]) := by
  obtain ⟨rows, hrows⟩ : ∃ r, r = sR ags := ⟨_, rfl⟩
  rw [← hrows]
  by_cases h1 : ags.length < 1
  · refine of_text gam_ok mixed { n := 83, keep := [49], bxs := [49], wrs := [20] } Tryd.func9 (by kernel_rfl) rfl rfl (by simp) (by decide) fun F C D hF hC hD => ?_
    have haw := hC _ _ _ awake_ok
    have t2 : F .bnot true = false := by rw [bnotF hF]; rfl
    obtain ⟨n', hn'⟩ : ∃ n' : Int, F .len rows = n' := ⟨_, rfl⟩
    have en : n' = (ags.length : Int) := by rw [← hn', lenF hF, hrows, sR_len]
    have g1 : F .cmp .lss n' 1 = decide (ags.length < 1) := by rw [lsF hF, en]; congr 1; exact propext ⟨fun h => by omega, fun h => by omega⟩
    have g2 : F .cmp .gtr n' 8 = decide (8 < ags.length) := by rw [gtF hF, en]; congr 1; exact propext ⟨fun h => by omega, fun h => by omega⟩
    have g1 : F .cmp .lss n' 1 = true := by rw [g1]; exact decide_eq_true h1
    cbv
    refine ⟨_, haw, ?_⟩
    cbv
    refine cF (t2) ?_
    cbv
    rw [hn']
    refine cT (g1) ?_
    cbv
    refine ⟨_, haw, ?_⟩
    cbv
    simp
  · by_cases h8 : 8 < ags.length
    · refine of_text gam_ok mixed { n := 83, keep := [49], bxs := [49], wrs := [20] } Tryd.func9 (by kernel_rfl) rfl rfl (by simp) (by decide) fun F C D hF hC hD => ?_
      have haw := hC _ _ _ awake_ok
      have t2 : F .bnot true = false := by rw [bnotF hF]; rfl
      obtain ⟨n', hn'⟩ : ∃ n' : Int, F .len rows = n' := ⟨_, rfl⟩
      have en : n' = (ags.length : Int) := by rw [← hn', lenF hF, hrows, sR_len]
      have g1 : F .cmp .lss n' 1 = decide (ags.length < 1) := by rw [lsF hF, en]; congr 1; exact propext ⟨fun h => by omega, fun h => by omega⟩
      have g2 : F .cmp .gtr n' 8 = decide (8 < ags.length) := by rw [gtF hF, en]; congr 1; exact propext ⟨fun h => by omega, fun h => by omega⟩
      have g1 : F .cmp .lss n' 1 = false := by rw [g1]; exact decide_eq_false h1
      have g2 : F .cmp .gtr n' 8 = true := by rw [g2]; exact decide_eq_true h8
      cbv
      refine ⟨_, haw, ?_⟩
      cbv
      refine cF (t2) ?_
      cbv
      rw [hn']
      refine cF (g1) ?_
      cbv
      rw [hn']
      refine bT (g2) ?_
      cbv
      refine ⟨_, haw, ?_⟩
      cbv
      simp
    · exact respPrefix_go ags (by omega) (by omega) rows hrows cut hc0 hc1
end Go.Proofs.YtfphhpabfeepmaaDoor
