import Derived.Test.YtfphhpabfeepmaaDoorS5
set_option linter.unusedSimpArgs false
set_option linter.unusedVariables false
namespace Go.Proofs.YtfphhpabfeepmaaDoor
open Go Go.RowKit Am

theorem few_ok (ags : List (List UInt8)) (rows : List (List AV)) (hrows : rows = sR ags) (q : Bool) (hq : q = true ↔ (ags.length ≤ 100 ∧ ∀ a ∈ ags, a.length ≤ 3000)) : CSem Tryd.prog (.fn 14) [.sl rows] (.pure [aB q]) := by
  refine of_text gam_ok mixed { n := 19 } Tryd.func14 (by kernel_rfl) rfl rfl (by simp) (by decide) fun F C D hF hC hD => ?_
  obtain ⟨n', hn'⟩ : ∃ n' : Int, F .len rows = n' := ⟨_, rfl⟩
  have en : n' = (ags.length : Int) := by rw [← hn', lenF hF, hrows, sR_len]
  have g1 : F .cmp .gtr n' 100 = decide (100 < ags.length) := by rw [gtF hF, en]; congr 1; exact propext ⟨fun h => by omega, fun h => by omega⟩
  have fal : ¬ (ags.length ≤ 100 ∧ ∀ a ∈ ags, a.length ≤ 3000) → q = false := fun h => by cases hqq : q with | false => rfl | true => exact absurd (hq.1 hqq) h
  by_cases h100 : 100 < ags.length
  · have g1 : F .cmp .gtr n' 100 = true := by rw [g1]; exact decide_eq_true h100
    have hqf := fal (fun h => by have := h.1; omega)
    subst hqf
    clear hq fal
    cbv
    rw [hn']
    refine bT (g1) ?_
    cbv
  · have g1 : F .cmp .gtr n' 100 = false := by rw [g1]; exact decide_eq_false h100
    cbv
    rw [hn']
    refine bF (g1) ?_
    cbv
    rw [hn']
    refine ⟨Nat × Int, fun x => { slots := [(9, aI x.2), (8, aI n'), (0, .sl rows)], obs := [], ctr := 0 }, fun x => x.2 = (x.1 : Int) ∧ x.1 ≤ ags.length ∧ ∀ j a, j < x.1 → ags[j]? = some a → a.length ≤ 3000, fun x => ags.length - x.1, ⟨(0, 0), ⟨rfl, Nat.zero_le _, fun j a h => by omega⟩, (le_of [] (by simp [leSl, leOb, injK, memK, parK, noTup, lk, rn0, rnA, plain] <;> first | rfl | decide))⟩, fun x hx => ?_⟩
    obtain ⟨i, i'⟩ := x
    obtain ⟨ei, hi, hsm⟩ := hx
    simp only at ei hi hsm
    have en : n' = (ags.length : Int) := en
    have tl := ltF hF i ags.length i' n' ei en
    obtain ⟨i2, hi2⟩ : ∃ i2, F .ar .add .i64 i' 1 = i2 := ⟨_, rfl⟩
    have ei2 : i2 = ((i + 1 : Nat) : Int) := hi2.symm.trans (incF hF ei (by omega))
    by_cases hil : i < ags.length
    · have tl : F .cmp .lss i' n' = true := tl.2 hil
      obtain ⟨a, ha⟩ : ∃ a, ags[i]? = some a := ⟨_, List.getElem?_eq_getElem hil⟩
      obtain ⟨sa, hsa⟩ : ∃ sa, sa = BA a := ⟨_, rfl⟩
      have hrow : rows[i]? = some [aS sa] := by rw [hrows, hsa]; exact sR_get ha
      have v1 : F .cmp .gtr (F .slen sa) 3000 = decide (3000 < a.length) := by rw [slenF hF, gtF hF, hsa, BA_size]; congr 1; exact propext ⟨fun h => by omega, fun h => by omega⟩
      by_cases hbig : 3000 < a.length
      · have v1 : F .cmp .gtr (F .slen sa) 3000 = true := by rw [v1]; exact decide_eq_true hbig
        have hqf := fal (fun h => by have := h.2 a (List.mem_of_getElem? ha); omega)
        subst hqf
        clear hq fal
        cbv
        refine bT (tl) ?_
        cbv
        refine ⟨i, _, ei, hrow, rfl, ?_⟩
        cbv
        refine bT (v1) ?_
        cbv
      · have v1 : F .cmp .gtr (F .slen sa) 3000 = false := by rw [v1]; exact decide_eq_false hbig
        cbv
        refine bT (tl) ?_
        cbv
        refine ⟨i, _, ei, hrow, rfl, ?_⟩
        cbv
        refine bF (v1) ?_
        cbv
        rw [hi2]
        exact ⟨(i + 1, i2), ⟨ei2, hil, fun j b hj hb => by
          by_cases hjn : j < i
          · exact hsm j b hjn hb
          · have hji : j = i := by omega
            rw [hji, ha] at hb; injection hb with hb; rw [← hb]; omega⟩, (show ags.length - (i + 1) < ags.length - i by omega), (le_of [] (by simp [leSl, leOb, injK, memK, parK, noTup, lk, rn0, rnA, plain] <;> first | rfl | decide))⟩
    · have tl : F .cmp .lss i' n' = false := by cases h : F .cmp .lss i' n' with | true => exact absurd (tl.1 h) hil | false => rfl
      have hqt : q = true := hq.2 ⟨by omega, fun a ha => by
        obtain ⟨j, hj, hja⟩ := List.getElem_of_mem ha
        exact hsm j a (by omega) (by rw [List.getElem?_eq_getElem hj, hja])⟩
      subst hqt
      clear hq fal
      cbv
      refine bF (tl) ?_
      cbv
set_option maxHeartbeats 4000000 in
theorem respReplies_ok (k : Int) (s : ByteArray) (n : Int) (h0 : -9223372036854775808 ≤ n) (h1 : n ≤ 9223372036854775807) (ags : List (List UInt8)) : CSem Tryd.prog (.fn 3) (repl k s n (.sl (sR ags))) (.pure [aB true]) := by
  obtain ⟨rows, hrows⟩ : ∃ r, r = sR ags := ⟨_, rfl⟩
  rw [← hrows]
  refine of_text gam_ok mixed { n := 34 } Tryd.func3 (by kernel_rfl) rfl rfl (by simp [repl]) (by decide) fun F C D hF hC hD => ?_
  have haw := hC _ _ _ awake_ok
  have t2 : F .bnot true = false := by rw [bnotF hF]; rfl
  have t3 : F .bnot false = true := by rw [bnotF hF]; rfl
  have g1 : F .cmp .gtr (F .slen s) 3000 = decide (3000 < s.size) := by rw [slenF hF, gtF hF]; congr 1; exact propext ⟨fun h => by omega, fun h => by omega⟩
  by_cases hfew : ags.length ≤ 100 ∧ ∀ a ∈ ags, a.length ≤ 3000
  · have hf := hC _ _ _ (few_ok ags rows hrows true ⟨fun _ => hfew, fun _ => rfl⟩)
    by_cases hs : 3000 < s.size
    · have g1 : F .cmp .gtr (F .slen s) 3000 = true := by rw [g1]; exact decide_eq_true hs
      cbv
      refine ⟨_, haw, ?_⟩
      cbv
      refine cF (t2) ?_
      cbv
      refine ⟨_, hf, ?_⟩
      cbv
      refine cF (t2) ?_
      cbv
      refine bT (g1) ?_
      cbv
      refine ⟨_, haw, ?_⟩
      cbv
      simp
    · have g1 : F .cmp .gtr (F .slen s) 3000 = false := by rw [g1]; exact decide_eq_false hs
      obtain ⟨l, hl⟩ : ∃ l, l = L s := ⟨_, rfl⟩
      have hll : l.length ≤ 1000000 := by rw [hl, ← L_size]; omega
      obtain ⟨r1, hr1⟩ : ∃ r, r = byR (encV k l n ags) := ⟨_, rfl⟩
      obtain ⟨r2, hr2⟩ : ∃ r, r = BA (encV k l n ags) := ⟨_, rfl⟩
      have he1 := hC _ _ _ (penc_ok k s l hl hll n h0 h1 ags (by omega) hfew.2 rows hrows r1 hr1)
      have he2 := hC _ _ _ (renc_ok k s l hl hll n h0 h1 ags (by omega) hfew.2 rows hrows r2 hr2)
      have hb1 := hC _ _ _ (bs_ok (encV k l n ags) r1 hr1 r2 hr2)
      obtain ⟨r3, hr3⟩ : ∃ r, r = byR (cmdB ags) := ⟨_, rfl⟩
      obtain ⟨r4, hr4⟩ : ∃ r, r = BA (cmdB ags) := ⟨_, rfl⟩
      have hc1 := hC _ _ _ (fn_frz (enc_cmd ags (by omega) hfew.2 rows hrows r3 hr3))
      have hc2 := hC _ _ _ (rcmd_ok ags (by omega) hfew.2 rows hrows r4 hr4)
      have hb2 := hC _ _ _ (bs_ok (cmdB ags) r3 hr3 r4 hr4)
      have v1 : F .scmp .eql r2 r2 = true := by rw [seqF hF]; simp
      have v2 : F .scmp .eql r4 r4 = true := by rw [seqF hF]; simp
      clear hr1 hr2 hr3 hr4
      cbv
      refine ⟨_, haw, ?_⟩
      cbv
      refine cF (t2) ?_
      cbv
      refine ⟨_, hf, ?_⟩
      cbv
      refine cF (t2) ?_
      cbv
      refine bF (g1) ?_
      cbv
      refine ⟨hC _ _ _ (ben_ok (by kernel_rfl)), ?_⟩
      cbv
      refine ⟨_, he1, ?_⟩
      cbv
      refine ⟨_, hb1, ?_⟩
      cbv
      refine ⟨_, he2, ?_⟩
      cbv
      refine bT (v1) ?_
      cbv
      refine ⟨_, hc1, ?_⟩
      cbv
      refine ⟨_, hb2, ?_⟩
      cbv
      refine ⟨_, hc2, ?_⟩
      cbv
      rw [v2]
      simp
  · have hf := hC _ _ _ (few_ok ags rows hrows false ⟨fun h => by simp at h, fun h => absurd h hfew⟩)
    cbv
    refine ⟨_, haw, ?_⟩
    cbv
    refine cF (t2) ?_
    cbv
    refine ⟨_, hf, ?_⟩
    cbv
    refine cT (t3) ?_
    cbv
    refine ⟨_, haw, ?_⟩
    cbv
    simp
end Go.Proofs.YtfphhpabfeepmaaDoor
