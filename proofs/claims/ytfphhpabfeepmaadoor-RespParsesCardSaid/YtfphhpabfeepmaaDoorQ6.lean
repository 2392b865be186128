import Derived.Test.YtfphhpabfeepmaaDoorQ5
set_option linter.unusedSimpArgs false
set_option linter.unusedVariables false
namespace Go.Proofs.YtfphhpabfeepmaaDoor
open Go Go.RowKit Am

set_option maxHeartbeats 4000000 in
theorem respParses_go (s t : ByteArray) (hs : s.size ≤ 3000) (ht : t.size ≤ 3000) : CSem Tryd.prog (.fn 4) [aS s, aS t] (.pure [aB true]) := by
  refine of_text gam_ok mixed { n := 85, keep := [27, 73, 75, 77], bxs := [27], wrs := [20] } Tryd.func4 (by kernel_rfl) rfl rfl (by simp) (by decide) fun F C D hF hC hD => ?_
  have haw := hC _ _ _ awake_ok
  have hnew := hC _ _ _ new_ok
  have t2 : F .bnot true = false := by rw [bnotF hF]; rfl
  have g1 : F .cmp .gtr (F .slen s) 3000 = false := by rw [slenF hF, gtF hF]; simp; omega
  have g2 : F .cmp .gtr (F .slen t) 3000 = false := by rw [slenF hF, gtF hF]; simp; omega
  obtain ⟨ls, hls⟩ : ∃ l, l = L s := ⟨_, rfl⟩
  obtain ⟨lt, hlt⟩ : ∃ l, l = L t := ⟨_, rfl⟩
  have nls : ls.length ≤ 3000 := by rw [hls, ← L_size]; exact hs
  have nlt : lt.length ≤ 3000 := by rw [hlt, ← L_size]; exact ht
  obtain ⟨sR1, hsR1⟩ : ∃ r, r = byR ls := ⟨_, rfl⟩
  obtain ⟨tR1, htR1⟩ : ∃ r, r = byR lt := ⟨_, rfl⟩
  have hcs := hC _ _ _ (sb_ok s (by omega) sR1 (by rw [hsR1, hls]))
  have hct := hC _ _ _ (sb_ok t (by omega) tR1 (by rw [htR1, hlt]))
  obtain ⟨lR, hlR⟩ : ∃ r, r = byR (P ls).2.1 := ⟨_, rfl⟩
  obtain ⟨oR, hoR⟩ : ∃ r, r = cR (P ls).1 := ⟨_, rfl⟩
  obtain ⟨e1, he1⟩ : ∃ r : Int, r = ((P ls).2.2 : Int) := ⟨_, rfl⟩
  have hf1 := hC _ _ _ (feed_any [] ls 0 (by rw [List.nil_append]; omega) [] sR1 rfl hsR1 0 rfl lR oR e1 hlR hoR he1)
  have hp1 := hC _ _ _ (fn_frz (rparse_ok s ls hls (by omega) oR e1 hoR he1))
  have hsm1 := P_small _ ls (Nat.le_refl _)
  have hln1 := P_len _ ls (Nat.le_refl _)
  have b8 : ∀ c : List (List (List UInt8)), (∀ x ∈ c, x.length ≤ 8) → ∀ x ∈ c, x.length ≤ 1000000 := fun c h x hx => Nat.le_trans (h x hx) (by omega)
  have hsame1 := hC _ _ _ (same_ok (P ls).1 (P ls).1 (by omega) (by omega) (b8 _ hsm1) (b8 _ hsm1) oR oR hoR hoR true (by simp))
  have hat : At ls (P ls).2.1 (P ls).2.2 := ⟨rfl, fun _ => rfl, by omega⟩
  obtain ⟨V, hV⟩ : ∃ V, V = FD (P ls).2.1 (P ls).2.2 lt := ⟨_, rfl⟩
  have hst := at_step hat lt
  rw [← hV] at hst
  obtain ⟨hst1, hst2⟩ := hst
  obtain ⟨lR2, hlR2⟩ : ∃ r, r = byR V.2.1 := ⟨_, rfl⟩
  obtain ⟨oR2, hoR2⟩ : ∃ r, r = cR V.1 := ⟨_, rfl⟩
  obtain ⟨e2, he2⟩ : ∃ r : Int, r = (V.2.2 : Int) := ⟨_, rfl⟩
  have hf2 := hC _ _ _ (feed_any (P ls).2.1 lt (P ls).2.2 (by rw [List.length_append]; omega) lR tR1 hlR htR1 e1 he1 lR2 oR2 e2 (by rw [hlR2, hV]) (by rw [hoR2, hV]) (by rw [he2, hV]))
  obtain ⟨st, hst3⟩ : ∃ r, F .cat s t = r := ⟨_, rfl⟩
  have est : ls ++ lt = L st := by rw [← hst3, catF hF, L_BA, hls, hlt]
  have hcat := catS hF (a := s) (b := t) (by omega)
  obtain ⟨oR3, hoR3⟩ : ∃ r, r = cR (P (ls ++ lt)).1 := ⟨_, rfl⟩
  have he3 : e2 = ((P (ls ++ lt)).2.2 : Int) := by rw [he2, hst2.1]
  have hp2 := hC _ _ _ (fn_frz (rparse_ok st (ls ++ lt) est (by rw [List.length_append]; omega) oR3 e2 hoR3 he3))
  have v1 : F .cmp .neq e1 e1 = false := by rw [neF hF]; simp
  have v2 : F .cmp .eql e2 e2 = true := by rw [eqF hF]; simp
  by_cases h0 : (P ls).2.2 = 0
  · have v3 : F .cmp .neq e1 0 = false := by rw [neF hF, he1, h0]; rfl
    obtain ⟨o1, ho1⟩ : ∃ r, F .app [] oR = r := ⟨_, rfl⟩
    have eo1 : o1 = cR (P ls).1 := by rw [← ho1, hF, hoR]; simp [sy]
    obtain ⟨o2, ho2⟩ : ∃ r, F .app o1 oR2 = r := ⟨_, rfl⟩
    have eo2 : o2 = cR ((P ls).1 ++ V.1) := by rw [← ho2, hF, eo1, hoR2]; simp [sy, cR]
    have hsm2 := P_small _ (ls ++ lt) (Nat.le_refl _)
    have hln2 := P_len _ (ls ++ lt) (Nat.le_refl _)
    rw [List.length_append] at hln2
    have hsame2 := hC _ _ _ (same_ok ((P ls).1 ++ V.1) (P (ls ++ lt)).1 (by rw [← hst1]; omega) (by omega) (by rw [← hst1]; exact b8 _ hsm2) (b8 _ hsm2) o2 oR3 eo2 hoR3 true (by rw [hst1]; simp))
    have hlv : (P ls).1.length + V.1.length ≤ 6000 := by rw [← List.length_append, ← hst1]; omega
    have hel1 : ∀ r ∈ oR, r.length = 1 := by rw [hoR]; exact cR_one _
    have hel2 : ∀ r ∈ oR2, r.length = 1 := by rw [hoR2]; exact cR_one _
    have hrm1 : (F .len [] + F .len oR) * 24 ≤ 140737488355328 := by rw [lenF hF, lenF hF, hoR, cR_len]; simp only [List.length_nil]; omega
    have hrm2 : (F .len o1 + F .len oR2) * 24 ≤ 140737488355328 := by rw [lenF hF, lenF hF, eo1, hoR2, cR_len, cR_len]; omega
    clear hst1 hst2 hV hlR hlR2
    cbv
    refine ⟨_, haw, ?_⟩
    cbv
    refine cF (t2) ?_
    cbv
    refine cF (g1) ?_
    cbv
    refine bF (g2) ?_
    cbv
    refine ⟨_, _, _, hnew, ?_⟩
    cbv
    refine ⟨_, hcs, ?_⟩
    cbv
    refine ⟨_, _, hf1, ?_⟩
    cbv
    refine ⟨_, hp1, ?_⟩
    cbv
    refine ⟨_, hsame1, ?_⟩
    cbv
    refine cF (t2) ?_
    cbv
    refine bF (v1) ?_
    cbv
    refine ⟨_, hct, ?_⟩
    cbv
    refine ⟨_, _, hf2, ?_⟩
    cbv
    rw [hst3]
    refine ⟨hcat, _, hp2, ?_⟩
    cbv
    refine bF (v3) ?_
    cbv
    refine ⟨hel1, hrm1, ?_⟩
    cbv
    rw [ho1]
    refine ⟨hel2, hrm2, ?_⟩
    cbv
    rw [ho2]
    refine ⟨_, hsame2, ?_⟩
    cbv
    refine bT (by first | assumption | rfl) ?_
    cbv
    rw [v2]
    simp
  · have v3 : F .cmp .neq e1 0 = true := by rw [neF hF, he1]; simp; omega
    have hVe : V = ([], (P ls).2.1, (P ls).2.2) := by rw [hV]; unfold FD; rw [if_pos h0]
    have w1 : oR2 = [] := by rw [hoR2, hVe]; rfl
    have w2 : e2 = e1 := by rw [he2, hVe, he1]
    subst w1 w2
    have v4 : F .cmp .eql (F .len []) 0 = true := by rw [lenF hF, eqF hF]; rfl
    clear hst1 hst2 hV hlR hlR2
    cbv
    refine ⟨_, haw, ?_⟩
    cbv
    refine cF (t2) ?_
    cbv
    refine cF (g1) ?_
    cbv
    refine bF (g2) ?_
    cbv
    refine ⟨_, _, _, hnew, ?_⟩
    cbv
    refine ⟨_, hcs, ?_⟩
    cbv
    refine ⟨_, _, hf1, ?_⟩
    cbv
    refine ⟨_, hp1, ?_⟩
    cbv
    refine ⟨_, hsame1, ?_⟩
    cbv
    refine cF (t2) ?_
    cbv
    refine bF (v1) ?_
    cbv
    refine ⟨_, hct, ?_⟩
    cbv
    refine ⟨_, _, hf2, ?_⟩
    cbv
    rw [hst3]
    refine ⟨hcat, _, hp2, ?_⟩
    cbv
    refine bT (v3) ?_
    cbv
    refine bT (v4) ?_
    cbv
    rw [v2]
    simp
theorem respParses_ok (s t : ByteArray) : CSem Tryd.prog (.fn 4) [aS s, aS t] (.pure [aB true]) := by
  by_cases hs : s.size ≤ 3000
  · by_cases ht : t.size ≤ 3000
    · exact respParses_go s t hs ht
    · refine of_text gam_ok mixed { n := 85, keep := [27, 73, 75, 77], bxs := [27], wrs := [20] } Tryd.func4 (by kernel_rfl) rfl rfl (by simp) (by decide) fun F C D hF hC hD => ?_
      have haw := hC _ _ _ awake_ok
      have t2 : F .bnot true = false := by rw [bnotF hF]; rfl
      have g1 : F .cmp .gtr (F .slen s) 3000 = false := by rw [slenF hF, gtF hF]; simp; omega
      have g2 : F .cmp .gtr (F .slen t) 3000 = true := by rw [slenF hF, gtF hF]; simp; omega
      cbv
      refine ⟨_, haw, ?_⟩
      cbv
      refine cF (t2) ?_
      cbv
      refine cF (g1) ?_
      cbv
      refine bT (g2) ?_
      cbv
      refine ⟨_, haw, ?_⟩
      cbv
      simp
  · refine of_text gam_ok mixed { n := 85, keep := [27, 73, 75, 77], bxs := [27], wrs := [20] } Tryd.func4 (by kernel_rfl) rfl rfl (by simp) (by decide) fun F C D hF hC hD => ?_
    have haw := hC _ _ _ awake_ok
    have t2 : F .bnot true = false := by rw [bnotF hF]; rfl
    have g1 : F .cmp .gtr (F .slen s) 3000 = true := by rw [slenF hF, gtF hF]; simp; omega
    cbv
    refine ⟨_, haw, ?_⟩
    cbv
    refine cF (t2) ?_
    cbv
    refine cT (g1) ?_
    cbv
    refine ⟨_, haw, ?_⟩
    cbv
    simp
end Go.Proofs.YtfphhpabfeepmaaDoor
