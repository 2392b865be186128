import Derived.Test.YtdmdahnnfancpaaN1
import Derived.Sort.Walk0
import Derived.Shelf.SlSortCmp.WholeK
set_option linter.unusedSimpArgs false
set_option linter.unusedVariables false
namespace Go.Proofs.Ytdmdahnnfancpaa
open Go Go.RowKit Am Go.Shelf Go.Lib Go.Sort

/-! ### The order of pairs -/
def ltP (x y : Pr) : Bool := decide (x.n < y.n ∨ (x.n = y.n ∧ L x.m < L y.m))
theorem ltP_iff (x y : Pr) : ltP x y = true ↔ (x.n < y.n ∨ (x.n = y.n ∧ L x.m < L y.m)) := by unfold ltP; exact decide_eq_true_iff
theorem ltP_irr (x : Pr) : ltP x x = false := by
  cases h : ltP x x with
  | false => rfl
  | true =>
    rcases (ltP_iff x x).1 h with h | ⟨_, h⟩
    · omega
    · exact absurd h (List.lt_irrefl _)
theorem ltP_trans {x y z : Pr} (h1 : ltP x y = true) (h2 : ltP y z = true) : ltP x z = true := by
  rw [ltP_iff] at *
  rcases h1 with h1 | ⟨h1, h1'⟩ <;> rcases h2 with h2 | ⟨h2, h2'⟩
  · left; omega
  · left; omega
  · left; omega
  · right; exact ⟨h1.trans h2, List.lt_trans h1' h2'⟩
theorem ltP_tri {x y : Pr} (h1 : ltP x y = false) (h2 : ltP y x = false) : x = y := by
  have h1 : ¬ ltP x y = true := by rw [h1]; simp
  have h2 : ¬ ltP y x = true := by rw [h2]; simp
  rw [ltP_iff] at h1 h2
  have hn : x.n = y.n := by
    have := fun h => h1 (.inl h)
    have := fun h => h2 (.inl h)
    omega
  have hm : L x.m = L y.m := by
    have a1 : ¬ L x.m < L y.m := fun h => h1 (.inr ⟨hn, h⟩)
    have a2 : ¬ L y.m < L x.m := fun h => h2 (.inr ⟨hn.symm, h⟩)
    exact List.le_antisymm (List.not_lt.1 a2) (List.not_lt.1 a1)
  cases x; cases y
  simp only at hn hm
  rw [hn, L_inj hm]
theorem ltP_asymm {x y : Pr} (h : ltP x y = true) : ltP y x = false := by
  cases h2 : ltP y x with
  | false => rfl
  | true => have := ltP_trans h h2; rw [ltP_irr] at this; cases this
theorem ltP_ntrans {x y z : Pr} (h1 : ltP x y = false) (h2 : ltP y z = false) : ltP x z = false := by
  cases h : ltP x z with
  | false => rfl
  | true =>
    cases h3 : ltP z y with
    | true => have := ltP_trans h h3; rw [h1] at this; cases this
    | false =>
      have := ltP_tri h2 h3
      subst this
      rw [h1] at h; cases h
theorem compareI_neg (x y : Int) : compareI x y < 0 ↔ x < y := by
  unfold compareI
  split
  · constructor <;> intro <;> omega
  · split
    · constructor <;> intro <;> omega
    · constructor <;> intro <;> omega
theorem compareI_zero (x y : Int) : compareI x y = 0 ↔ x = y := by
  unfold compareI
  split
  · constructor <;> intro <;> omega
  · split
    · constructor <;> intro <;> omega
    · constructor <;> intro <;> omega
theorem cmpS_neg (a b : ByteArray) : cmpS a b < 0 ↔ L a < L b := by
  unfold cmpS
  rw [bytesLess_eq, ByteArray.toList_eq, ByteArray.toList_eq]
  by_cases h : L a < L b
  · rw [if_pos (decide_eq_true h)]
    exact ⟨fun _ => h, fun _ => by decide⟩
  · rw [if_neg (by simpa using h)]
    refine ⟨fun h' => ?_, fun h' => absurd h' h⟩
    split at h' <;> omega
theorem ltOf_cfP (x y : Pr) : ltOf cfP x y = ltP x y := by
  have key : cfP x y < 0 ↔ (x.n < y.n ∨ (x.n = y.n ∧ L x.m < L y.m)) := by
    unfold cfP
    simp only [orF]
    by_cases h0 : compareI x.n y.n = 0
    · have e := (compareI_zero _ _).1 h0
      rw [if_pos h0]
      by_cases h1 : cmpS x.m y.m = 0
      · rw [if_pos h1]
        have : ¬ L x.m < L y.m := fun h => by have := (cmpS_neg _ _).2 h; omega
        constructor
        · intro h; omega
        · rintro (h | ⟨_, h⟩)
          · omega
          · exact absurd h this
      · rw [if_neg h1, cmpS_neg]
        constructor
        · intro h; exact .inr ⟨e, h⟩
        · rintro (h | ⟨_, h⟩)
          · omega
          · exact h
    · rw [if_neg h0, compareI_neg]
      have e : ¬ x.n = y.n := fun h => h0 ((compareI_zero _ _).2 h)
      constructor
      · intro h; exact .inl h
      · rintro (h | ⟨h, _⟩)
        · exact h
        · exact absurd h e
  unfold ltOf ltP
  exact decide_eq_decide.2 key
theorem swoP : Go.Sort.SWO (ltOf cfP) where
  irrefl x := by rw [ltOf_cfP]; exact ltP_irr x
  trans x y z h1 h2 := by rw [ltOf_cfP] at *; exact ltP_trans h1 h2
  ntrans x y z h1 h2 := by rw [ltOf_cfP] at *; exact ltP_ntrans h1 h2
/-- Pairs, sorted. -/
def srtP (l : List Pr) : List Pr := l.mergeSort fun x y => !ltP y x
theorem srtP_perm (l : List Pr) : (srtP l).Perm l := List.mergeSort_perm _ _
theorem srtP_sorted (l : List Pr) : (srtP l).Pairwise fun x y => ltP y x = false := by
  have := List.pairwise_mergeSort (le := fun (x y : Pr) => !ltP y x) (fun a b c h1 h2 => by
    simp only [Bool.not_eq_true'] at *
    exact ltP_ntrans h2 h1) (fun a b => by
    cases h : ltP b a with
    | false => simp
    | true => simp [ltP_asymm h]) l
  exact this.imp fun h => by simpa using h
theorem eq_of_sorted {a b : List Pr} (hp : a.Perm b) (ha : a.Pairwise fun x y => ltP y x = false) (hb : b.Pairwise fun x y => ltP y x = false) : a = b :=
  List.Perm.eq_of_pairwise (le := fun x y => ltP y x = false) (fun x y _ _ h1 h2 => ltP_tri h2 h1) ha hb hp
theorem srtP_of {l m : List Pr} (hp : m.Perm l) (hm : m.Pairwise fun x y => ltP y x = false) : srtP l = m :=
  eq_of_sorted ((srtP_perm l).trans hp.symm) (srtP_sorted l) hm
theorem srtP_ext {l m : List Pr} (hp : l.Perm m) : srtP l = srtP m :=
  srtP_of ((srtP_perm m).trans hp.symm) (srtP_sorted m)
end Go.Proofs.Ytdmdahnnfancpaa
