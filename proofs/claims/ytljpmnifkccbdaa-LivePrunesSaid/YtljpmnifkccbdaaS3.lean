import Derived.Test.YtljpmnifkccbdaaS2
import Derived.Test.YtljpmnifkccbdaaC1
import Derived.Test.YtljpmnifkccbdaaL2
set_option linter.unusedSimpArgs false
set_option linter.unusedVariables false
namespace Go.Proofs.Ytljpmnifkccbdaa
open Go Go.RowKit Am

def getI : AV → Int | .v (.int _ n) => n | _ => 0
def getS : AV → ByteArray | .v (.string s) => s | _ => ⟨#[]⟩
def getEv (l : List AV) : Ev :=
  { dot := ⟨getI (l.getD 0 .dead), getI (l.getD 1 .dead)⟩, time := getI (l.getD 2 .dead), deps := fun i => getI (l.getD (3 + i.1) .dead),
    op := { kind := getI (l.getD 19 .dead), key := getS (l.getD 20 .dead), fld := getS (l.getD 21 .dead), val := getS (l.getD 22 .dead), num := getI (l.getD 23 .dead), ref := ⟨getI (l.getD 24 .dead), getI (l.getD 25 .dead)⟩ } }
theorem getEv_ac (e : Ev) : getEv e.ac = e := by
  obtain ⟨⟨r, n⟩, t, d, ⟨k, ky, f, v, m, ⟨rr, rn⟩⟩⟩ := e
  have : (fun i : Fin 16 => getI ((Ev.ac ⟨⟨r, n⟩, t, d, ⟨k, ky, f, v, m, ⟨rr, rn⟩⟩⟩).getD (3 + i.1) .dead)) = d := by
    funext i
    match i with
    | ⟨0, _⟩ => rfl | ⟨1, _⟩ => rfl | ⟨2, _⟩ => rfl | ⟨3, _⟩ => rfl | ⟨4, _⟩ => rfl | ⟨5, _⟩ => rfl | ⟨6, _⟩ => rfl | ⟨7, _⟩ => rfl
    | ⟨8, _⟩ => rfl | ⟨9, _⟩ => rfl | ⟨10, _⟩ => rfl | ⟨11, _⟩ => rfl | ⟨12, _⟩ => rfl | ⟨13, _⟩ => rfl | ⟨14, _⟩ => rfl | ⟨15, _⟩ => rfl
    | ⟨k + 16, h⟩ => exact absurd h (by omega)
  unfold getEv
  rw [this]
  rfl
def isEv (l : List AV) : Prop := ∃ e : Ev, l = e.ac
theorem isEv.len {l : List AV} (h : isEv l) : l.length = 26 := by obtain ⟨e, rfl⟩ := h; rfl
theorem isEv.ac {l : List AV} (h : isEv l) : (getEv l).ac = l := by obtain ⟨e, rfl⟩ := h; rw [getEv_ac]
def ltR (x y : List AV) : Bool := laterB (getEv y) (getEv x)
theorem swo_ltR : SWO ltR where
  asym x y h := by
    unfold ltR at h ⊢
    rw [later_iff] at h
    rw [Bool.eq_false_iff]
    intro h2
    rw [later_iff] at h2
    omega
  ntr x y z h := by
    unfold ltR at h ⊢
    rw [later_iff] at h ⊢
    rw [later_iff]
    omega
def orderR (x y : List AV) : Int := orderI (getEv x) (getEv y)
theorem orderR_neg (x y : List AV) : orderR x y < 0 ↔ ltR x y = true := by
  unfold orderR orderI
  have := swo_ltR.asym x y
  have := swo_ltR.asym y x
  unfold ltR at *
  split
  · rename_i h; simp [this h]
  · split
    · rename_i h; simp [h]
    · rename_i h; simp [h]
theorem orderR_ok (x y : List AV) (hx : isEv x) (hy : isEv y) (r : Int) (hr : r = orderR x y) : CSem Try.prog (.fn 46) [.agg x, .agg y] (.pure [aI r]) := by
  have := order_ok (getEv x) (getEv y) r hr
  rwa [hx.ac, hy.ac] at this

/-- How an insertion goes on. -/
def InsI (A L rest : List (List AV)) (x : List AV) (j : Nat) (r : List (List AV)) : Prop :=
  ∃ L1 L2, L = L1 ++ L2 ∧ r = A ++ (L1 ++ (x :: (L2 ++ rest))) ∧ A.length + L1.length = j ∧ ∀ y ∈ L2, ltR x y = true
theorem InsI.at {A L rest r : List (List AV)} {x : List AV} {j : Nat} (h : InsI A L rest x j r) : r[j]? = some x := by
  obtain ⟨L1, L2, rfl, rfl, h1, h2⟩ := h
  rw [List.getElem?_append_right (by omega), List.getElem?_append_right (by omega), show j - A.length - L1.length = 0 by omega]
  rfl
theorem InsI.step {A L rest r : List (List AV)} {x : List AV} {j : Nat} (h : InsI A L rest x j r) (hj : A.length < j) :
    ∃ y, r[j - 1]? = some y ∧ (ltR x y = true → InsI A L rest x (j - 1) ((r.set j y).set (j - 1) x)) ∧ (ltR x y = false → Srt ltR L → r = A ++ (ins ltR x L ++ rest)) := by
  obtain ⟨L1, L2, rfl, rfl, h1, h2⟩ := h
  rcases List.eq_nil_or_concat L1 with rfl | ⟨L, y, rfl⟩
  · simp at h1; omega
  · rw [List.concat_eq_append] at h1 ⊢
    have hl : A.length + L.length + 1 = j := by simpa [Nat.add_assoc] using h1
    refine ⟨y, ?_, fun hxy => ⟨L, y :: L2, by simp, ?_, by omega, fun z hz => ?_⟩, fun hxy hs => ?_⟩
    · rw [List.getElem?_append_right (by omega), List.append_assoc, List.getElem?_append_right (by omega), show j - 1 - A.length - L.length = 0 by omega]
      rfl
    · have e : A ++ ((L ++ [y]) ++ (x :: (L2 ++ rest))) = (A ++ L) ++ (y :: x :: (L2 ++ rest)) := by simp
      have hAL : (A ++ L).length = j - 1 := by simp; omega
      rw [e, List.set_append_right _ _ (by omega), List.set_append_right _ _ (by omega), hAL, show j - (j - 1) = 1 by omega, show j - 1 - (j - 1) = 0 by omega]
      simp
    · rcases List.mem_cons.1 hz with rfl | hz
      · exact hxy
      · exact h2 z hz
    · rw [ins_split swo_ltR x (L ++ [y]) L2 (fun z hz => ?_) h2]
      · simp
      · have hs1 : Srt ltR (L ++ [y]) := (List.pairwise_append.1 hs).1
        rcases List.mem_append.1 hz with hz | hz
        · have := (List.pairwise_append.1 hs1).2.2 z hz y (by simp)
          exact swo_ltR.le_trans this hxy
        · simp at hz; subst hz; exact hxy
theorem InsI.stop {A L rest r : List (List AV)} {x : List AV} {j : Nat} (h : InsI A L rest x j r) (hj : j ≤ A.length) : r = A ++ (ins ltR x L ++ rest) := by
  obtain ⟨L1, L2, rfl, rfl, h1, h2⟩ := h
  have : L1 = [] := List.eq_nil_of_length_eq_zero (by omega)
  subst this
  have := ins_split swo_ltR x [] L2 (fun y hy => by simp at hy) h2
  simp at this
  simp [this]
theorem InsI.start (A L rest : List (List AV)) (x : List AV) : InsI A L rest x (A.length + L.length) (A ++ (L ++ (x :: rest))) := ⟨L, [], by simp, by simp, rfl, fun y hy => by simp at hy⟩
theorem InsI.mem {A L rest r : List (List AV)} {x : List AV} {j : Nat} (h : InsI A L rest x j r) {q : List AV} (hq : q ∈ r) : q ∈ A ++ (L ++ (x :: rest)) := by
  obtain ⟨L1, L2, rfl, rfl, h1, h2⟩ := h
  simp only [List.mem_append, List.mem_cons] at hq ⊢
  rcases hq with h | h | h | h | h <;> simp [h]
theorem InsI.len {A L rest r : List (List AV)} {x : List AV} {j : Nat} (h : InsI A L rest x j r) : r.length = A.length + L.length + 1 + rest.length := by
  obtain ⟨L1, L2, rfl, rfl, h1, h2⟩ := h
  simp; omega
end Go.Proofs.Ytljpmnifkccbdaa
