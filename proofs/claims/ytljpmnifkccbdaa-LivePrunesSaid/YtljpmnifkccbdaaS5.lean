import Derived.Test.YtljpmnifkccbdaaS4
import Derived.Test.YtljpmnifkccbdaaL2
set_option linter.unusedSimpArgs false
set_option linter.unusedVariables false
namespace Go.Proofs.Ytljpmnifkccbdaa
open Go Go.RowKit Am

theorem half_eq (i j : Nat) (hi : i ≤ 1000000000) (hj : j ≤ 1000000000) : sy .wrp .i64 (sy .ar .shr .u64 (sy .wrp .u64 ((i + j : Nat) : Int)) 1) = (((i + j) / 2 : Nat) : Int) := by
  have e1 : IntKind.u64.wrap ((i + j : Nat) : Int) = ((i + j : Nat) : Int) := by
    simp [IntKind.wrap, IntKind.signed, IntKind.bits]
    omega
  have e2 : Int.fdiv ((i + j : Nat) : Int) (2 ^ (min (1 : Int).toNat 64)) = (((i + j) / 2 : Nat) : Int) := by
    simp
    rw [Int.fdiv_eq_ediv_of_nonneg _ (by omega)]
  simp only [sy]
  rw [e1]
  show IntKind.i64.wrap (Int.fdiv _ (2 ^ (min (1 : Int).toNat 64))) = _
  rw [e2]
  exact wrap_in (by omega) (by omega)

/-- One thing on its way up through a list. -/
def FwdI (A R rest : List (List AV)) (x : List AV) (k : Nat) (r : List (List AV)) : Prop :=
  ∃ P Q, R = P ++ Q ∧ r = A ++ (P ++ (x :: (Q ++ rest))) ∧ A.length + P.length = k
theorem FwdI.step {A R rest r : List (List AV)} {x : List AV} {k : Nat} (h : FwdI A R rest x k r) (hk : k < A.length + R.length) :
    r[k]? = some x ∧ ∃ y, r[k + 1]? = some y ∧ FwdI A R rest x (k + 1) ((r.set k y).set (k + 1) x) := by
  obtain ⟨P, Q, rfl, rfl, h1⟩ := h
  cases Q with
  | nil => simp at hk; omega
  | cons y Q =>
    have e : A ++ (P ++ (x :: ((y :: Q) ++ rest))) = (A ++ P) ++ (x :: y :: (Q ++ rest)) := by simp
    have hl : (A ++ P).length = k := by simpa using h1
    refine ⟨?_, y, ?_, P ++ [y], Q, by simp, ?_, by simp; omega⟩
    · rw [e, List.getElem?_append_right (by omega), hl, Nat.sub_self]; rfl
    · rw [e, List.getElem?_append_right (by omega), hl, show k + 1 - k = 1 by omega]; rfl
    · rw [e, List.set_append_right _ _ (by omega), List.set_append_right _ _ (by omega), hl, Nat.sub_self, show k + 1 - k = 1 by omega]
      simp
theorem FwdI.stop {A R rest r : List (List AV)} {x : List AV} {k : Nat} (h : FwdI A R rest x k r) (hk : A.length + R.length ≤ k) : r = A ++ (R ++ (x :: rest)) := by
  obtain ⟨P, Q, rfl, rfl, h1⟩ := h
  have : Q = [] := List.eq_nil_of_length_eq_zero (by simp at hk; omega)
  subst this
  simp
theorem FwdI.mem {A R rest r : List (List AV)} {x : List AV} {k : Nat} (h : FwdI A R rest x k r) {q : List AV} (hq : q ∈ r) : q ∈ A ++ (x :: (R ++ rest)) := by
  obtain ⟨P, Q, rfl, rfl, h1⟩ := h
  simp only [List.mem_append, List.mem_cons] at hq ⊢
  rcases hq with h | h | h | h | h <;> simp [h]
theorem FwdI.len {A R rest r : List (List AV)} {x : List AV} {k : Nat} (h : FwdI A R rest x k r) : r.length = A.length + R.length + 1 + rest.length := by
  obtain ⟨P, Q, rfl, rfl, h1⟩ := h
  simp; omega
/-- One thing on its way down through a list. -/
def BwdI (A L rest : List (List AV)) (x : List AV) (k : Nat) (r : List (List AV)) : Prop :=
  ∃ P Q, L = P ++ Q ∧ r = A ++ (P ++ (x :: (Q ++ rest))) ∧ A.length + P.length = k
theorem BwdI.step {A R rest r : List (List AV)} {x : List AV} {k : Nat} (h : BwdI A R rest x k r) (hk : A.length < k) :
    r[k]? = some x ∧ ∃ y, r[k - 1]? = some y ∧ BwdI A R rest x (k - 1) ((r.set k y).set (k - 1) x) := by
  obtain ⟨P, Q, rfl, rfl, h1⟩ := h
  rcases List.eq_nil_or_concat P with rfl | ⟨P, y, rfl⟩
  · simp at h1; omega
  · rw [List.concat_eq_append] at h1 ⊢
    have e : A ++ ((P ++ [y]) ++ (x :: (Q ++ rest))) = (A ++ P) ++ (y :: x :: (Q ++ rest)) := by simp
    have hl : (A ++ P).length = k - 1 := by simp at h1 ⊢; omega
    refine ⟨?_, y, ?_, P, y :: Q, by simp, ?_, by simp at h1 ⊢; omega⟩
    · rw [e, List.getElem?_append_right (by omega), hl, show k - (k - 1) = 1 by omega]; rfl
    · rw [e, List.getElem?_append_right (by omega), hl, Nat.sub_self]; rfl
    · rw [e, List.set_append_right _ _ (by omega), List.set_append_right _ _ (by omega), hl, Nat.sub_self, show k - (k - 1) = 1 by omega]
      simp
theorem BwdI.stop {A R rest r : List (List AV)} {x : List AV} {k : Nat} (h : BwdI A R rest x k r) (hk : k ≤ A.length) : r = A ++ (x :: (R ++ rest)) := by
  obtain ⟨P, Q, rfl, rfl, h1⟩ := h
  have : P = [] := List.eq_nil_of_length_eq_zero (by omega)
  subst this
  simp
theorem BwdI.mem {A R rest r : List (List AV)} {x : List AV} {k : Nat} (h : BwdI A R rest x k r) {q : List AV} (hq : q ∈ r) : q ∈ A ++ (x :: (R ++ rest)) := by
  obtain ⟨P, Q, rfl, rfl, h1⟩ := h
  simp only [List.mem_append, List.mem_cons] at hq ⊢
  rcases hq with h | h | h | h | h <;> simp [h]
theorem BwdI.len {A R rest r : List (List AV)} {x : List AV} {k : Nat} (h : BwdI A R rest x k r) : r.length = A.length + R.length + 1 + rest.length := by
  obtain ⟨P, Q, rfl, rfl, h1⟩ := h
  simp; omega
/-- Where a thing belongs in what rises: behind all that is less. -/
theorem low_split (R : List (List AV)) (hR : Srt ltR R) (x : List AV) : ∃ R1 R2, R = R1 ++ R2 ∧ (∀ y ∈ R1, ltR y x = true) ∧ (∀ y ∈ R2, ltR y x = false) := by
  induction R with
  | nil => exact ⟨[], [], rfl, fun y h => by simp at h, fun y h => by simp at h⟩
  | cons z R ih =>
    obtain ⟨h1, h2⟩ := List.pairwise_cons.1 hR
    by_cases e : ltR z x = true
    · obtain ⟨R1, R2, rfl, h3, h4⟩ := ih h2
      exact ⟨z :: R1, R2, rfl, fun y hy => by rcases List.mem_cons.1 hy with rfl | hy; exact e; exact h3 y hy, h4⟩
    · refine ⟨[], z :: R, rfl, fun y h => by simp at h, fun y hy => ?_⟩
      have e : ltR z x = false := by simpa using e
      rcases List.mem_cons.1 hy with rfl | hy
      · exact e
      · cases e2 : ltR y x
        · rfl
        · rcases swo_ltR.ntr y z x e2 with h | h
          · rw [h1 y hy] at h; simp at h
          · rw [e] at h; simp at h
theorem high_split (L : List (List AV)) (hL : Srt ltR L) (x : List AV) : ∃ L1 L2, L = L1 ++ L2 ∧ (∀ y ∈ L1, ltR x y = false) ∧ (∀ y ∈ L2, ltR x y = true) := by
  induction L with
  | nil => exact ⟨[], [], rfl, fun y h => by simp at h, fun y h => by simp at h⟩
  | cons z R ih =>
    obtain ⟨h1, h2⟩ := List.pairwise_cons.1 hL
    by_cases e : ltR x z = true
    · refine ⟨[], z :: R, rfl, fun y h => by simp at h, fun y hy => ?_⟩
      rcases List.mem_cons.1 hy with rfl | hy
      · exact e
      · rcases swo_ltR.ntr x y z e with h | h
        · exact h
        · rw [h1 y hy] at h; simp at h
    · obtain ⟨R1, R2, rfl, h3, h4⟩ := ih h2
      exact ⟨z :: R1, R2, rfl, fun y hy => by rcases List.mem_cons.1 hy with rfl | hy; simpa using e; exact h3 y hy, h4⟩
end Go.Proofs.Ytljpmnifkccbdaa
