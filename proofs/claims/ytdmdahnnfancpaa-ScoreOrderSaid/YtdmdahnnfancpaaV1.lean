import Derived.Test.YtdmdahnnfancpaaT3
import Derived.Test.YtdmdahnnfancpaaT2
set_option linter.unusedSimpArgs false
set_option linter.unusedVariables false
namespace Go.Proofs.Ytdmdahnnfancpaa
open Go Go.RowKit Am

/-! ### ScoreOrder: its plain law -/
def unlikeL (l : List Ev) : Prop := (l.map Ev.dot).Nodup
theorem dot_inj {l : List Ev} (h : unlikeL l) {a b : Ev} (ha : a ∈ l) (hb : b ∈ l) (hd : a.dot = b.dot) : a = b := by
  unfold unlikeL at h
  revert h ha hb
  induction l with
  | nil => intro h ha; simp at ha
  | cons x l ih =>
    intro h ha hb
    rw [List.map_cons, List.nodup_cons] at h
    rcases List.mem_cons.1 ha with e1 | e1 <;> rcases List.mem_cons.1 hb with e2 | e2
    · rw [e1, e2]
    · exact absurd (List.mem_map.2 ⟨b, e2, hd.symm.trans (by rw [e1])⟩) h.1
    · exact absurd (List.mem_map.2 ⟨a, e1, hd.trans (by rw [e2])⟩) h.1
    · exact ih h.2 e1 e2
theorem later_eqdot {a b : Ev} (h1 : laterB a b = false) (h2 : laterB b a = false) : a.dot = b.dot := by
  have i1 := later_iff a b
  have i2 := later_iff b a
  rw [h1] at i1
  rw [h2] at i2
  simp only [Bool.false_eq_true, false_iff] at i1 i2
  obtain ⟨⟨ar, an⟩, at', ad, ao⟩ := a
  obtain ⟨⟨br, bn⟩, bt, bd, bo⟩ := b
  simp only [Dt.mk.injEq] at i1 i2 ⊢
  omega
theorem latR_none (l : List Ev) : latR l = none → l = [] := fun h => by
  cases l with
  | nil => rfl
  | cons a t => obtain ⟨e, he⟩ := latR_some (a :: t) (by simp); rw [h] at he; cases he
theorem latR_ext {l m : List Ev} (hu : unlikeL l) (h : ∀ x, x ∈ l ↔ x ∈ m) : latR l = latR m := by
  cases hl : latR l with
  | none =>
    have hln := latR_none l hl
    cases hm : latR m with
    | none => rfl
    | some b =>
      have := List.mem_of_find?_eq_some (by unfold latR at hm; exact hm)
      rw [← h, hln] at this
      simp at this
  | some a =>
    have ha : a ∈ l := List.mem_of_find?_eq_some (by unfold latR at hl; exact hl)
    have hta : topB l a = true := List.find?_some (by unfold latR at hl; exact hl)
    cases hm : latR m with
    | none => have := latR_none m hm; rw [h, this] at ha; simp at ha
    | some b =>
      have hb : b ∈ m := List.mem_of_find?_eq_some (by unfold latR at hm; exact hm)
      have htb : topB m b = true := List.find?_some (by unfold latR at hm; exact hm)
      unfold topB at hta htb
      rw [List.all_eq_true] at hta htb
      have h1 : laterB b a = false := by have := hta b ((h b).2 hb); simpa using this
      have h2 : laterB a b = false := by have := htb a ((h a).1 ha); simpa using this
      rw [dot_inj hu ha ((h b).2 hb) (later_eqdot h2 h1)]
theorem unlike_filter {l : List Ev} (hu : unlikeL l) (p : Ev → Bool) : unlikeL (l.filter p) := by
  unfold unlikeL at hu ⊢
  exact hu.sublist ((List.filter_sublist).map _)
theorem getS_rev {l : List Ev} (hu : unlikeL l) (s : ByteArray) : getS l.reverse s = getS l s := by
  rw [getS_own, getS_own]
  refine (latR_ext (unlike_filter hu _) fun x => ?_).symm
  unfold ownE
  simp [List.mem_filter]
theorem allS_rev {l : List Ev} (hu : unlikeL l) : allS l.reverse = allS l := by
  refine eq_of_strict (allS_strict _) (allS_strict _) fun x => ?_
  rw [allS_mem, allS_mem]
  have hp : ∀ e, prE l.reverse e = prE l e := fun e => by unfold prE numS; rw [getS_rev hu]
  simp only [List.mem_reverse, hp]
/-- Each member's place. -/
theorem allS_ix (l : List Ev) {i : Nat} {p : Pr} (h : (allS l)[i]? = some p) : ixP (allS l) p.m = some i := by
  unfold ixP
  rw [List.findIdx?_eq_some_iff_getElem]
  obtain ⟨g1, g2⟩ := List.getElem?_eq_some_iff.1 h
  refine ⟨g1, by rw [g2]; exact decide_eq_true rfl, fun j hj => ?_⟩
  have hjl : j < (allS l).length := by omega
  intro hc
  have hc : (allS l)[j].m = p.m := of_decide_eq_true hc
  obtain ⟨e1, _, _, h1⟩ := (allS_mem l _).1 (List.getElem_mem hjl)
  obtain ⟨e2, _, _, h2⟩ := (allS_mem l _).1 (List.mem_of_getElem? h)
  have hm : e1.op.fld = e2.op.fld := by
    have a1 : (allS l)[j].m = e1.op.fld := by rw [h1]; rfl
    have a2 : p.m = e2.op.fld := by rw [h2]; rfl
    rw [← a1, ← a2]; exact hc
  have he : (allS l)[j] = p := by rw [h1, h2]; unfold prE; rw [hm]
  have hs := List.pairwise_iff_getElem.1 (allS_strict l) j i hjl g1 hj
  rw [he, g2, ltP_irr] at hs
  cases hs
theorem allS_lt (l : List Ev) {i : Nat} {p q : Pr} (h1 : (allS l)[i]? = some p) (h2 : (allS l)[i + 1]? = some q) : ltP p q = true := by
  obtain ⟨g1, rfl⟩ := List.getElem?_eq_some_iff.1 h1
  obtain ⟨g2, rfl⟩ := List.getElem?_eq_some_iff.1 h2
  exact List.pairwise_iff_getElem.1 (allS_strict l) i (i + 1) g1 g2 (by omega)
/-- Events of which no two at unlike places have one dot. -/
theorem unlike_of {l : List Ev} (h : ∀ (a b : Nat) (x y : Ev), b < a → l[a]? = some x → l[b]? = some y → x.dot ≠ y.dot) : unlikeL l := by
  unfold unlikeL
  rw [List.nodup_iff_pairwise_ne, List.pairwise_map, List.pairwise_iff_getElem]
  intro i j hi hj hij
  exact fun e => h j i _ _ hij (List.getElem?_eq_getElem hj) (List.getElem?_eq_getElem hi) e.symm
theorem rev_take {l : List Ev} {c : Nat} {e : Ev} (hc : c < l.length) (he : l[l.length - 1 - c]? = some e) : l.reverse.take (c + 1) = l.reverse.take c ++ [e] := by
  rw [List.take_add_one, List.getElem?_reverse hc, he]; rfl
end Go.Proofs.Ytdmdahnnfancpaa
