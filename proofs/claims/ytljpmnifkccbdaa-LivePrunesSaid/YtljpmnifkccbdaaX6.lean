import Derived.Test.YtljpmnifkccbdaaX5
set_option linter.unusedVariables false
set_option linter.unusedSimpArgs false
namespace Go.Proofs.Ytljpmnifkccbdaa.Am
open Go Go.RowKit
variable {P : Program} {W0 : Bas} {S0 : Nat → Prop} {E : En}

theorem ment_free {K0 : Nat} {x : AV} (h : freeV x = true) : ment K0 (fun _ => False) x := by
  cases x <;> simp [freeV, fr0] at h <;> trivial
theorem free_nt {x : AV} (h : freeV x = true) : ∀ v vs, x ≠ .tup (v :: vs) := by
  rintro v vs rfl
  simp [freeV] at h
theorem free_fr {c : Nat} {x : AV} (h : freeV x = true) : fr0 c x = true := by
  cases x <;> simp [freeV, fr0] at h <;> rfl
theorem rn_nt {κ : Nat → Nat} {x : AV} (h : ∀ v vs, x ≠ .tup (v :: vs)) : ∀ v vs, rnF κ x ≠ .tup (v :: vs) := by
  intro v vs e
  cases x <;> simp [rnF] at e
  exact h v vs (by rw [e])
theorem cells_rn {κ : Nat → Nat} {u : AV} {ds : List AV} (h : cellsOf u = some ds) : rnF κ u = u ∧ (∀ k v, u ≠ .own k v) := by
  cases u <;> simp [cellsOf] at h <;> exact ⟨rfl, fun k v e => by cases e⟩
theorem kap_hi {K0 : Nat} {ρ : Nat → Nat} (m : Nat) : kap K0 ρ (K0 + m) = ρ m := by
  unfold kap
  rw [if_neg (by omega), show K0 + m - K0 = m by omega]
section
variable {all : List Oper} {st0 sti s : St} {K0 : Nat} {X : Nat → AV} {KD : Nat → Kd} {listed : Array Bool} {ρ : Nat → Nat} {i : Nat} {o : Oper}
/-- A user's object was made ahead of it. -/
theorem usr_lst (hglob : ∀ j q, all[j]? = some q → StepX' P E all st0 K0 X KD j q) (h : InvX W0 S0 E all st0 K0 X KD listed s ρ) {j m : Nat} (hj : Lst listed j) (hjl : j < all.length) (hu : usr (KD j) = some m) : Lst listed m ∧ m < j ∧ ∃ o, obOf (KD m) = some o := by
  have via : ∀ (q : Oper) (n : Nat), (∀ e ∈ q.after, Region.binds .any e = true → Lst listed e.on) → Ahead all n q → Lst listed n := by
    intro q n hq h'
    rcases h' with ⟨e, he, heon, hbd⟩ | ⟨e, he, hbd, k, hk, e2, he2, heon, hbd2⟩
    · rw [← heon]; exact hq e he hbd
    · rw [← heon]; exact h.cl e.on k hk (hq e he hbd) e2 he2 hbd2
  have hq : all[j]? = some all[j] := List.getElem?_eq_getElem hjl
  obtain ⟨_, _, sti, _, hx⟩ := hglob j _ hq
  cases hx with
  | free hk _ _ => rw [hk] at hu; simp [usr] at hu
  | move hk _ _ _ => rw [hk] at hu; simp [usr] at hu
  | alloc t ti _ _ _ hk _ => rw [hk] at hu; simp [usr] at hu
  | lit t ps ti e esz bytes _ _ _ _ _ hk _ => rw [hk] at hu; simp [usr] at hu
  | app s x args ats t ti e esz bytes m' mv rows src _ _ _ _ _ _ _ _ hmi hom _ hah _ _ hk _ =>
    rw [hk] at hu; simp [usr] at hu; subst hu
    exact ⟨via _ _ (h.cl j _ hq hj) hah, hmi, _, hom⟩
  | sto t x v ti ty m' cs cs' ds u _ _ _ _ _ _ _ _ hmi hom _ hah hk _ =>
    rw [hk] at hu; simp [usr] at hu; subst hu
    exact ⟨via _ _ (h.cl j _ hq hj) hah, hmi, _, hom⟩
theorem usr_one (hglob : ∀ j q, all[j]? = some q → StepX' P E all st0 K0 X KD j q) {j j' m : Nat} (hjl : j < all.length) (hjl' : j' < all.length) (hu : usr (KD j) = some m) (hu' : usr (KD j') = some m) : j = j' := by
  have key : ∀ j j', j < j' → j' < all.length → usr (KD j) = some m → usr (KD j') = some m → False := by
    intro j j' hlt hl h1 h2
    obtain ⟨_, _, sti, _, hx⟩ := hglob j' _ (List.getElem?_eq_getElem hl)
    cases hx with
    | free hk _ _ => rw [hk] at h2; simp [usr] at h2
    | move hk _ _ _ => rw [hk] at h2; simp [usr] at h2
    | alloc t ti _ _ _ hk _ => rw [hk] at h2; simp [usr] at h2
    | lit t ps ti e esz bytes _ _ _ _ _ hk _ => rw [hk] at h2; simp [usr] at h2
    | app s x args ats t ti e esz bytes m' mv rows src _ _ _ _ _ _ _ _ hmi hom hno hah _ _ hk _ =>
      rw [hk] at h2; simp [usr] at h2; subst h2
      exact hno j hlt h1
    | sto t x v ti ty m' cs cs' ds u _ _ _ _ _ _ _ _ hmi hom hno hah hk _ =>
      rw [hk] at h2; simp [usr] at h2; subst h2
      exact hno j hlt h1
  rcases Nat.lt_trichotomy j j' with h | h | h
  · exact (key j j' h hjl' hu hu').elim
  · exact h
  · exact (key j' j h hjl hu' hu).elim
end
end Go.Proofs.Ytljpmnifkccbdaa.Am
