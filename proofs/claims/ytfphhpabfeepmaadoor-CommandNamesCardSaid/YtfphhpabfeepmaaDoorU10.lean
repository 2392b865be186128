import Derived.Test.YtfphhpabfeepmaaDoorU9
set_option linter.unusedSimpArgs false
set_option linter.unusedVariables false
namespace Go.Proofs.YtfphhpabfeepmaaDoor
open Go Go.RowKit Am

/-! ### A minus ahead, cut off -/
def cutM : List UInt8 → List UInt8
  | [] => []
  | c :: t => if c = 45 then t else c :: t
theorem hasM_ok (s : ByteArray) (l : List UInt8) (hs : l = L s) (q : Bool) (hq : q = decide (l[0]? = some 45)) : CSem Tryd.prog (.fn 106) [aS s, aS (BA [45])] (.pure [aB q]) := by
  refine of_text gam_ok mixed { n := 18 } Tryd.func106 (by kernel_rfl) rfl rfl (by simp) (by decide) fun F C D hF hC hD => ?_
  obtain ⟨sn, hsn⟩ : ∃ sn : Int, F .slen s = sn := ⟨_, rfl⟩
  have esn : sn = (l.length : Int) := by rw [← hsn, slenF hF, L_size, hs]
  have e1 : F .slen (BA [45]) = 1 := by rw [slenF hF, sz1]; rfl
  have w : F .cmp .geq sn 1 = decide (1 ≤ l.length) := by rw [geF hF, esn]; congr 1; exact propext ⟨fun h => by omega, fun h => by omega⟩
  cases l with
  | nil =>
    have w : F .cmp .geq sn 1 = false := by rw [w]; rfl
    have hq : q = false := by rw [hq]; rfl
    subst hq
    unfold BA at e1
    cbv
    rw [hsn, e1]
    refine bF (w) ?_
    cbv
  | cons c t =>
    have w : F .cmp .geq sn 1 = true := by rw [w]; simp
    obtain ⟨xs, hxs⟩ : ∃ xs, xs = s.extract 0 1 := ⟨_, rfl⟩
    have hx : xs = BA [c] := by rw [hxs, ← BA_L (s.extract 0 1), L_extract, ← hs]; rfl
    have e2 : F .scmp .eql xs (BA [45]) = q := by
      rw [seqF hF, hx, hq]
      congr 1
      exact propext ⟨fun h => by have := BA_inj h; simpa using this, fun h => by simp at h; rw [h]⟩
    have hle : ((1 : Nat) : Int) ≤ F .slen s := by rw [hsn, esn]; simp only [List.length_cons]; omega
    have h1 : F .slen (BA [45]) = ((1 : Nat) : Int) := e1
    unfold BA at e1 e2
    cbv
    rw [hsn, e1]
    refine bT (w) ?_
    cbv
    rw [e1]
    refine ⟨0, 1, rfl, rfl, by decide, hle, xs, hxs, ?_⟩
    cbv
    rw [e2]
    simp
theorem cutM_in (s : ByteArray) (l : List UInt8) (hs : l = L s) (r : ByteArray) (hr : r = BA (cutM l)) : CSem Tryd.prog (.fn 85) [aS s, aS (BA [45])] (.pure [aS r]) := by
  refine of_text gam_ok mixed { n := 13 } Tryd.func85 (by kernel_rfl) rfl rfl (by simp) (by decide) fun F C D hF hC hD => ?_
  obtain ⟨q, hq⟩ : ∃ q, q = decide (l[0]? = some 45) := ⟨_, rfl⟩
  have hp := hC _ _ _ (hasM_ok s l hs q hq)
  have e1 : F .slen (BA [45]) = 1 := by rw [slenF hF, sz1]; rfl
  have hln : F .slen s = (l.length : Int) := by rw [slenF hF, L_size, hs]
  cases hqq : q with
  | false =>
    subst hqq
    have : s = r := by
      rw [hr, ← BA_L s, ← hs]
      cases l with
      | nil => rfl
      | cons c t =>
        have : c ≠ 45 := by intro h; rw [h] at hq; simp at hq
        rw [cutM, if_neg this]
    subst this
    unfold BA at hp e1
    clear hr hs hq
    cbv
    refine ⟨_, hp, ?_⟩
    cbv
    refine bF (by first | assumption | rfl) ?_
    cbv
    simp
  | true =>
    subst hqq
    cases l with
    | nil => simp at hq
    | cons c t =>
      have hc : c = 45 := by simpa using hq.symm
      have hx : r = s.extract 1 (t.length + 1) := by rw [hr, cutM, if_pos hc, ← BA_L (s.extract 1 (t.length + 1)), L_extract, ← hs]; simp
      have hle : ((t.length + 1 : Nat) : Int) ≤ F .slen s := by rw [hln]; exact Int.le_refl _
      have hle2 : ((t.length + 1 : Nat) : Int) = F .slen s := by rw [hln]; rfl
      unfold BA at hp e1
      cbv
      refine ⟨_, hp, ?_⟩
      cbv
      refine bT (by first | assumption | rfl) ?_
      cbv
      rw [e1]
      refine ⟨1, t.length + 1, rfl, hle2, Nat.succ_le_succ (Nat.zero_le _), hle, r, hx, ?_⟩
      cbv
      simp
theorem cutM_ok (s : ByteArray) (l : List UInt8) (hs : l = L s) (r : ByteArray) (hr : r = BA (cutM l)) : CSem Tryd.prog (.fn 72) [aS s, aS (BA [45])] (.pure [aS r]) := by
  refine of_text gam_ok mixed { n := 8 } Tryd.func72 (by kernel_rfl) rfl rfl (by simp) (by decide) fun F C D hF hC hD => ?_
  have h := hC _ _ _ (cutM_in s l hs r hr)
  unfold BA at h
  cbv
  refine ⟨_, h, ?_⟩
  cbv
  simp
end Go.Proofs.YtfphhpabfeepmaaDoor
