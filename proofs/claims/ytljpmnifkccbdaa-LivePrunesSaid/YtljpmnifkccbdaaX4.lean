import Derived.Test.YtljpmnifkccbdaaX3
set_option linter.unusedVariables false
set_option linter.unusedSimpArgs false
namespace Go.Proofs.Ytljpmnifkccbdaa.Am
open Go Go.RowKit
variable {P : Program} {W0 : Bas} {S0 : Nat → Prop} {E : En}

def kap (K0 : Nat) (ρ : Nat → Nat) (k : Nat) : Nat := if k < K0 then k else ρ (k - K0)
def ment (K0 : Nat) (M : Nat → Prop) : AV → Prop
  | .own k _ => k < K0 ∨ (K0 ≤ k ∧ M (k - K0))
  | .ptr k _ => k < K0 ∨ (K0 ≤ k ∧ M (k - K0))
  | .rel k _ _ _ _ _ => k < K0
  | .osl k _ _ => k < K0
  | .tup (_ :: _) => False
  | _ => True
theorem ment_mono {K0 : Nat} {M M' : Nat → Prop} (h : ∀ m, M m → M' m) {x : AV} (hx : ment K0 M x) : ment K0 M' x := by
  cases x <;> try exact hx
  · exact hx.imp id fun h' => ⟨h'.1, h _ h'.2⟩
  · exact hx.imp id fun h' => ⟨h'.1, h _ h'.2⟩
  · rename_i vs; cases vs <;> exact hx
theorem rn_agree {K0 : Nat} {M : Nat → Prop} {ρ ρ' : Nat → Nat} (h : ∀ m, M m → ρ' m = ρ m) {x : AV} (hx : ment K0 M x) : rnF (kap K0 ρ') x = rnF (kap K0 ρ) x := by
  have hk : ∀ k, (k < K0 ∨ (K0 ≤ k ∧ M (k - K0))) → kap K0 ρ' k = kap K0 ρ k := fun k hk => by
    unfold kap
    rcases hk with h1 | ⟨h1, h2⟩
    · rw [if_pos h1, if_pos h1]
    · rw [if_neg (by omega), if_neg (by omega), h _ h2]
  cases x <;> simp only [rnF] <;> first | rw [hk _ hx] | rw [hk _ (.inl hx)]
theorem rn_low {K0 : Nat} {ρ : Nat → Nat} {x : AV} (hx : ment K0 (fun _ => False) x) : rnF (kap K0 ρ) x = x := by
  have hk : ∀ k, (k < K0 ∨ (K0 ≤ k ∧ False)) → kap K0 ρ k = k := fun k hk => by
    unfold kap
    rcases hk with h1 | ⟨_, h2⟩
    · rw [if_pos h1]
    · exact h2.elim
  cases x <;> simp only [rnF] <;> first | rw [hk _ hx] | rw [hk _ (.inl hx)]
theorem fr0_mono {c c' : Nat} (h : c ≤ c') {x : AV} (hx : fr0 c x = true) : fr0 c' x = true := by
  cases x <;> try rfl
  all_goals (simp only [fr0, Nat.blt_eq] at hx ⊢; omega)
theorem frS_mono {c c' : Nat} (h : c ≤ c') : ∀ {l : List (Nat × AV)}, frS c l = true → frS c' l = true := by
  intro l
  induction l with
  | nil => intro _; rfl
  | cons p l ih =>
    obtain ⟨k, x⟩ := p
    intro hl
    by_cases ht : ∃ vs, x = .tup vs
    · obtain ⟨vs, rfl⟩ := ht
      simp only [frS] at hl ⊢
      split at hl
      · rename_i he
        rw [if_pos (List.all_eq_true.2 fun y hy => fr0_mono h (List.all_eq_true.1 he y hy))]
        exact ih hl
      · simp at hl
    · have e : ∀ c, frS c ((k, x) :: l) = if fr0 c x = true then frS c l else false := fun c => by
        cases x <;> first | rfl | exact absurd ⟨_, rfl⟩ ht
      rw [e] at hl ⊢
      split at hl
      · rename_i he
        rw [if_pos (fr0_mono h he)]
        exact ih hl
      · simp at hl
theorem frS_put {c k : Nat} {x : AV} {l : List (Nat × AV)} (hx : fr0 c x = true) (ht : ∀ v vs, x ≠ .tup (v :: vs)) (hl : frS c l = true) : frS c ((k, x) :: l) = true := by
  cases x <;> simp only [frS] <;> try (rw [if_pos hx]; exact hl)
  rename_i vs
  cases vs with
  | nil => simp; exact hl
  | cons v vs => exact absurd rfl (ht v vs)
abbrev Lst (listed : Array Bool) (j : Nat) : Prop := listed.getD j false = true
structure InvX (W0 : Bas) (S0 : Nat → Prop) (E : En) (all : List Oper) (st0 : St) (K0 : Nat) (X : Nat → AV) (KD : Nat → Kd) (listed : Array Bool) (s : St) (ρ : Nat → Nat) : Prop where
  par : s.par = st0.par
  ctr : K0 ≤ s.ctr
  fr : frS s.ctr s.slots = true
  new : ∀ j t, Lst listed j → dstOf all j = some t → lk t s.slots = some (rnF (kap K0 ρ) (X j))
  old : ∀ t, (∀ j, Lst listed j → dstOf all j ≠ some t) → lk t s.slots = lk t st0.slots
  low : ∀ k, k < K0 → lk k s.obs = lk k st0.obs
  unused : ∀ m o, Lst listed m → obOf (KD m) = some o → (∀ j, Lst listed j → usr (KD j) ≠ some m) → lk (ρ m) s.obs = some o
  stored : ∀ m j o, Lst listed j → KD j = .sto m o → lk (ρ m) s.obs = some o
  rge : ∀ m o, Lst listed m → obOf (KD m) = some o → K0 ≤ ρ m ∧ ρ m < s.ctr
  inj : ∀ m m' o o', Lst listed m → Lst listed m' → obOf (KD m) = some o → obOf (KD m') = some o' → ρ m = ρ m' → m = m'
  men : ∀ j, Lst listed j → ment K0 (fun m => Lst listed m ∧ ∃ o, obOf (KD m) = some o) (X j)
  cl : ∀ j q, all[j]? = some q → Lst listed j → ∀ e ∈ q.after, Region.binds .any e = true → Lst listed e.on
/-- The next state, but for its objects. -/
theorem InvX.next {all : List Oper} {st0 : St} {K0 : Nat} {X : Nat → AV} {KD : Nat → Kd} {listed : Array Bool} {s : St} {ρ ρ' : Nat → Nat} {i c' : Nat} {o : Oper} {obs' : Obs} {y : AV} (h : InvX W0 S0 E all st0 K0 X KD listed s ρ) (ho : all[i]? = some o) (hi : i < listed.size) (hnl : ¬ Lst listed i) (hafter : ∀ e ∈ o.after, Region.binds .any e = true → Lst listed e.on)
    (hdis : ∀ i j t, dstOf all i = some t → dstOf all j = some t → i = j) (hc : s.ctr ≤ c') (hy : fr0 c' y = true) (hyt : ∀ v vs, y ≠ .tup (v :: vs)) (hρ : ∀ m, Lst listed m → (∃ o, obOf (KD m) = some o) → ρ' m = ρ m) (hX : y = rnF (kap K0 ρ') (X i)) (hmen : ment K0 (fun m => (Lst listed m ∨ m = i) ∧ ∃ o, obOf (KD m) = some o) (X i))
    (hlow : ∀ k, k < K0 → lk k obs' = lk k s.obs) (hun : ∀ m o, (Lst listed m ∨ m = i) → obOf (KD m) = some o → (∀ j, (Lst listed j ∨ j = i) → usr (KD j) ≠ some m) → lk (ρ' m) obs' = some o) (hst : ∀ m j o, (Lst listed j ∨ j = i) → KD j = .sto m o → lk (ρ' m) obs' = some o) (hrge : ∀ o, obOf (KD i) = some o → ρ' i = s.ctr ∧ s.ctr < c') :
    InvX W0 S0 E all st0 K0 X KD (listed.setIfInBounds i true) (St.put { slots := s.slots, obs := obs', ctr := c', par := s.par } o.dst y) ρ' := by
  have hdst : dstOf all i = o.dst := by unfold dstOf; rw [ho]
  have hL : ∀ j, Lst (listed.setIfInBounds i true) j ↔ (Lst listed j ∨ j = i) := fun j => by
    unfold Lst
    rw [getD_set hi]
    by_cases e : j = i
    · simp [e]
    · simp [e]
  have eob : (St.put { slots := s.slots, obs := obs', ctr := c', par := s.par } o.dst y).obs = obs' := by cases o.dst <;> rfl
  have ect : (St.put { slots := s.slots, obs := obs', ctr := c', par := s.par } o.dst y).ctr = c' := by cases o.dst <;> rfl
  have epr : (St.put { slots := s.slots, obs := obs', ctr := c', par := s.par } o.dst y).par = s.par := by cases o.dst <;> rfl
  have get : ∀ t, o.dst ≠ some t → lk t (St.put { slots := s.slots, obs := obs', ctr := c', par := s.par } o.dst y).slots = lk t s.slots := fun t hne => by
    cases hd : o.dst with
    | none => rfl
    | some d =>
      rw [hd] at hne
      simp only [St.put, lk]
      rw [if_neg (fun e => hne (by rw [e]))]
  have hgr : ∀ m o, Lst listed m → obOf (KD m) = some o → ρ' m = ρ m := fun m o h1 h2 => hρ m h1 ⟨o, h2⟩
  refine ⟨by rw [epr]; exact h.par, by rw [ect]; exact Nat.le_trans h.ctr hc, ?_, fun j t hj ht => ?_, fun t ht => ?_, fun k hk => by rw [eob, hlow k hk]; exact h.low k hk, fun m o' hm hom hu => by rw [eob]; exact hun m o' ((hL m).1 hm) hom fun j hj => hu j ((hL j).2 hj), fun m j o' hj hk => by rw [eob]; exact hst m j o' ((hL j).1 hj) hk, fun m o' hm hom => ?_, fun m m' o1 o2 hm hm' h1 h2 he => ?_, fun j hj => ?_, fun j q hq hj e he hb => ?_⟩
  · rw [ect]
    cases hd : o.dst with
    | none => exact frS_mono hc h.fr
    | some d => exact frS_put hy hyt (frS_mono hc h.fr)
  · rcases (hL j).1 hj with hl | e
    · have hne : o.dst ≠ some t := fun e => by
        have := hdis i j t (by rw [hdst]; exact e) ht
        subst this
        exact hnl hl
      rw [get t hne, h.new j t hl ht, rn_agree (fun m hm => hρ m hm.1 hm.2) (h.men j hl)]
    · subst e
      rw [hdst] at ht
      rw [ht, ← hX]
      simp [St.put, lk]
  · have hne : o.dst ≠ some t := by
      have := ht i ((hL i).2 (.inr rfl))
      rwa [hdst] at this
    rw [get t hne]
    exact h.old t fun j hj => ht j ((hL j).2 (.inl hj))
  · rw [ect]
    rcases (hL m).1 hm with hl | e
    · rw [hgr m o' hl hom]
      have := h.rge m o' hl hom
      omega
    · subst e
      have := hrge o' hom
      have := h.ctr
      omega
  · rcases (hL m).1 hm with hl | e <;> rcases (hL m').1 hm' with hl' | e'
    · exact h.inj m m' o1 o2 hl hl' h1 h2 (by rw [← hgr m o1 hl h1, ← hgr m' o2 hl' h2]; exact he)
    · subst e'
      have a1 := hgr m o1 hl h1
      have a2 := h.rge m o1 hl h1
      have a3 := hrge o2 h2
      omega
    · subst e
      have a1 := hgr m' o2 hl' h2
      have a2 := h.rge m' o2 hl' h2
      have a3 := hrge o1 h1
      omega
    · omega
  · rcases (hL j).1 hj with hl | e
    · exact ment_mono (fun m hm => ⟨(hL m).2 (.inl hm.1), hm.2⟩) (h.men j hl)
    · subst e
      exact ment_mono (fun m hm => ⟨(hL m).2 hm.1, hm.2⟩) hmen
  · refine (hL _).2 (.inl ?_)
    rcases (hL j).1 hj with hl | e1
    · exact h.cl j q hq hl e he hb
    · subst e1
      rw [ho] at hq
      injection hq with hq
      subst hq
      exact hafter e he hb
end Go.Proofs.Ytljpmnifkccbdaa.Am
