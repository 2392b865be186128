import Derived.Test.YtdmdahnnfancpaaT5
import Derived.Test.YtdmdahnnfancpaaO4
set_option linter.unusedSimpArgs false
set_option linter.unusedVariables false
namespace Go.Proofs.Ytdmdahnnfancpaa
open Go Go.RowKit Am

/-! ### ScoreTells -/
set_option maxHeartbeats 4000000 in
theorem tells_ok (l : List Ev) (s : ByteArray) : CSem Try.prog (.fn 5) [.sl (evR l), aS s] (.pure [aB true]) := by
  obtain ⟨rows, hrows⟩ : ∃ r, r = evR l := ⟨_, rfl⟩
  rw [← hrows]
  refine of_text gam_ok mixed { n := 70 } Try.func5 (by kernel_rfl) rfl rfl (by simp) (by decide) fun F C D hF hC hD => ?_
  have haw := hC _ _ _ awake_ok
  have tn : F .bnot true = false := by rw [bnotF hF]; rfl
  have tn2 : F .bnot false = true := by rw [bnotF hF]; rfl
  obtain ⟨f, hf⟩ : ∃ f, f = fewB l := ⟨_, rfl⟩
  have hfew := hC _ _ _ (few_ok l rows hrows f hf)
  cases f with
  | false =>
    clear hf
    cbv
    refine ⟨_, haw, ?_⟩
    cbv
    refine cF (tn) ?_
    cbv
    refine ⟨_, hfew, ?_⟩
    cbv
    rw [tn2]
    refine bT (rfl) ?_
    cbv
    refine ⟨_, haw, ?_⟩
    cbv
    try simp
  | true =>
    have hl : l.length ≤ 150 := by
      unfold fewB at hf
      have := (Bool.and_eq_true_iff).1 hf.symm
      exact of_decide_eq_true this.1
    clear hf
    obtain ⟨n, q, g1, g2⟩ : ∃ (n : Int) (q : Bool), (∀ e, getS l s = some e → n = e.op.num ∧ q = true) ∧ (getS l s = none → n = 0 ∧ q = false) := by
      cases h : getS l s with
      | none => exact ⟨0, false, (fun e h => by cases h), fun _ => ⟨rfl, rfl⟩⟩
      | some e => exact ⟨e.op.num, true, (fun e' h => by injection h with h; rw [h]; exact ⟨rfl, rfl⟩), fun h => by cases h⟩
    have hget := hC _ _ _ (get_ok l (by omega) rows hrows s n q g1 g2)
    have hrget := hC _ _ _ (rget_ok l (by omega) rows hrows s n q g1 g2)
    obtain ⟨k, t, k1, k2⟩ : ∃ (k : Int) (t : Bool), (∀ i, ixP (allS l) s = some i → k = (i : Int) ∧ t = true) ∧ (ixP (allS l) s = none → k = 0 ∧ t = false) := by
      cases h : ixP (allS l) s with
      | none => exact ⟨0, false, (fun e h => by cases h), fun _ => ⟨rfl, rfl⟩⟩
      | some i => exact ⟨(i : Int), true, (fun j h => by injection h with h; rw [h]; exact ⟨rfl, rfl⟩), fun h => by cases h⟩
    have hrank := hC _ _ _ (rank_ok l (by omega) rows hrows s k t k1 k2)
    have hrrank := hC _ _ _ (rrank_ok l (by omega) rows hrows s k t k1 k2)
    obtain ⟨A, hA⟩ : ∃ A, A = pR (allS l) := ⟨_, rfl⟩
    have hall := hC _ _ _ (all_ok l (by omega) rows hrows A hA)
    have hrall := hC _ _ _ (rall_ok l (by omega) rows hrows A hA)
    have hle := allS_le l
    have hsame := hC _ _ _ (same_ok (allS l) (by omega) A A hA hA)
    have t1 : F .cmp .eql n n = true := by rw [eqF hF]; exact decide_eq_true rfl
    have t2 : F .cmp .eql k k = true := by rw [eqF hF]; exact decide_eq_true rfl
    have hb1 := hC _ _ _ (csem_bool q q true (by cases q <;> rfl))
    have hb2 := hC _ _ _ (csem_bool t t true (by cases t <;> rfl))
    clear g1 g2 k1 k2 hA hle
    cbv
    refine ⟨_, haw, ?_⟩
    cbv
    refine cF (tn) ?_
    cbv
    refine ⟨_, hfew, ?_⟩
    cbv
    rw [tn]
    refine bF (rfl) ?_
    cbv
    refine ⟨_, hget, ?_⟩
    cbv
    refine ⟨_, hrget, ?_⟩
    cbv
    refine ⟨_, hrank, ?_⟩
    cbv
    refine ⟨_, hrrank, ?_⟩
    cbv
    refine bT (t1) ?_
    cbv
    refine ⟨_, hb1, ?_⟩
    cbv
    refine bT (rfl) ?_
    cbv
    refine bT (t2) ?_
    cbv
    refine ⟨_, hb2, ?_⟩
    cbv
    refine bT (rfl) ?_
    cbv
    refine ⟨_, hall, ?_⟩
    cbv
    refine ⟨_, hrall, ?_⟩
    cbv
    refine ⟨_, hsame, ?_⟩
    cbv
    try simp
end Go.Proofs.Ytdmdahnnfancpaa
