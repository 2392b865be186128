import Derived.Test.YtdmdahnnfancpaaN2
import Derived.Test.YtdmdahnnfancpaaSh
import Derived.Sort.OwnSorted
set_option linter.unusedSimpArgs false
set_option linter.unusedVariables false
namespace Go.Proofs.Ytdmdahnnfancpaa
open Go Go.RowKit Am Go.Shelf Go.Lib Go.Sort

/-! ### slices.SortFunc at pairs -/
def pR (l : List Pr) : List (List AV) := l.map fun p => [aS p.m, aI p.n]
theorem pR_len (l : List Pr) : (pR l).length = l.length := by simp [pR]
theorem pR_get {l : List Pr} {i : Nat} {p : Pr} (h : l[i]? = some p) : (pR l)[i]? = some [aS p.m, aI p.n] := by simp [pR, h]
theorem pR_two (l : List Pr) : ∀ r ∈ pR l, r.length = 2 := fun r h => by
  obtain ⟨a, _, rfl⟩ := List.mem_map.1 h
  rfl
def flP (l : List Pr) : List Value := l.flatMap encP
theorem flP_len (l : List Pr) : (flP l).length = l.length * 2 := by
  induction l with
  | nil => rfl
  | cons a l ih => simp only [flP, List.flatMap_cons, List.length_append, List.length_cons] at ih ⊢; rw [ih]; simp [encP]; omega
theorem pR_flat (l : List Pr) : (pR l).flatten = (flP l).map AV.v := by
  induction l with
  | nil => rfl
  | cons a l ih => simp only [pR, flP, List.map_cons, List.flatten_cons, List.flatMap_cons, List.map_append] at ih ⊢; rw [ih]; rfl
theorem flP_at (l : List Pr) : ∀ (i : Nat) (p : Pr), l[i]? = some p → (flP l)[i * 2]? = some (.string p.m) ∧ (flP l)[i * 2 + 1]? = some (.int .i64 p.n) := by
  induction l with
  | nil => intro i p h; simp at h
  | cons a l ih =>
    intro i p h
    cases i with
    | zero => simp at h; subst h; exact ⟨rfl, rfl⟩
    | succ i =>
      obtain ⟨h1, h2⟩ := ih i p (by simpa using h)
      have e : flP (a :: l) = .string a.m :: .int .i64 a.n :: flP l := rfl
      rw [e, show (i + 1) * 2 = i * 2 + 1 + 1 by omega]
      simp only [List.getElem?_cons_succ]
      exact ⟨h1, h2⟩
theorem flatK_eq (l : List Pr) : (flatK encP 2 l.toArray).toList = flP l := by
  apply List.ext_getElem?
  intro t
  by_cases ht : t < l.length * 2
  · have hk : t < (flatK encP 2 l.toArray).size := by simp; omega
    obtain ⟨p, hp⟩ : ∃ p, l[t / 2]? = some p := ⟨_, List.getElem?_eq_getElem (by omega)⟩
    obtain ⟨a1, a2⟩ := flP_at l (t / 2) p hp
    have hg : l.toArray[t / 2]! = p := by
      have : t / 2 < l.length := by omega
      rw [List.getElem?_eq_getElem this] at hp
      injection hp with hp
      simp [this, hp]
    have h1 : (flatK encP 2 l.toArray)[t]? = some (encP p)[t % 2]! := by
      have := get_flatK encP 2 l.toArray t (by simpa using ht)
      rw [hg] at this
      rw [← this, Array.getElem?_eq_getElem hk, getElem!_pos _ t hk]
    rw [Array.getElem?_toList, h1]
    rcases Nat.mod_two_eq_zero_or_one t with h0 | h0
    · rw [show t / 2 * 2 = t by omega] at a1
      rw [a1, h0]; rfl
    · rw [show t / 2 * 2 + 1 = t by omega] at a2
      rw [a2, h0]; rfl
  · rw [List.getElem?_eq_none (by simp; omega), List.getElem?_eq_none (by rw [flP_len]; omega)]
theorem repl_pR {w : World} {S : Nat → Prop} {l : List Pr} {zs : List Value} (h : RepL w S (pR l).flatten zs) : zs = flP l := by
  rw [pR_flat] at h
  refine List.ext_getElem? fun i => ?_
  rcases Nat.lt_or_ge i (flP l).length with hi | hi
  · obtain ⟨x, hx, hr⟩ := h.get (i := i) (u := .v (flP l)[i]) (by simp [hi])
    rw [hx]
    cases hr with
    | v _ _ => simp [hi]
  · have := h.1
    rw [List.getElem?_eq_none (by rw [← this]; simpa using hi), List.getElem?_eq_none (by simpa using hi)]
theorem flP_one (l : List Pr) : ∀ x ∈ flP l, x.oneCell' = true := by
  intro x hx
  unfold flP at hx
  rw [List.mem_flatMap] at hx
  obtain ⟨p, _, hx⟩ := hx
  simp [encP] at hx
  rcases hx with rfl | rfl <;> rfl
theorem pR_repl (w : World) (S : Nat → Prop) (l : List Pr) : RepL w S (pR l).flatten (flP l) := by
  rw [pR_flat]
  refine ⟨by simp, fun i u x hu hx => ?_⟩
  simp only [List.getElem?_map, hx, Option.map_some] at hu
  injection hu with hu
  subst hu
  exact .v _ (flP_one l x (List.mem_of_getElem? hx))
/-- The row and the closure that are handed over. -/
theorem rowP_in {w : World} {S : Nat → Prop} {β : Nat → Value} {l : List Pr} {xs : List Value} (ho : ∀ k o, lk k [(0, Ob.row 41 2 (pR l) 0 0)] = some o → ORep w S 0 (β k) o) (hx : [AV.own 0 0, AV.clo 41 []].length = xs.length ∧ ∀ (i : Nat) (u : AV) (x : Value), [AV.own 0 0, AV.clo 41 []][i]? = some u → xs[i]? = some x → SRep0 w S β [(0, Ob.row 41 2 (pR l) 0 0)] u x) :
    xs = [β 0, .func (.func 41) #[] #[]] ∧ OwnR w 0 41 2 (β 0) l.length (flP l) ∧ ∀ g, (β 0).ownBlock = some g → ¬ S g := by
  obtain ⟨zs, h1, h2, h3, h4⟩ := ho 0 _ rfl
  rw [repl_pR h2, pR_len] at h1
  refine ⟨?_, h1, h4⟩
  obtain ⟨hl, hg⟩ := hx
  match xs, hl with
  | [x, y], _ =>
    have := hg 0 _ x rfl rfl
    rw [(show ∀ e' sz rows m, lk 0 [(0, Ob.row 41 2 (pR l) 0 0)] = some (.row e' sz rows 0 m) → x = β 0 from this) _ _ _ _ rfl]
    have h2 : Rep w S (.clo 41 []) y := hg 1 _ y rfl rfl
    cases h2 with
    | c h => cases h
    | @clo g caps ys hl _ =>
      have : ys = [] := List.eq_nil_of_length_eq_zero (by simpa using hl.symm)
      subst this
      rfl
end Go.Proofs.Ytdmdahnnfancpaa
