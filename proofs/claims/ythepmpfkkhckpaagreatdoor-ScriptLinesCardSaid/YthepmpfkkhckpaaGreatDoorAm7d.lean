import Derived.Test.YthepmpfkkhckpaaGreatDoorAm7c
set_option linter.unusedVariables false
set_option linter.unusedSimpArgs false
namespace Go.Proofs.YthepmpfkkhckpaaGreatDoor.Am
open Go Go.RowKit
variable {P : Program}

theorem keysOf_le : ∀ (l : List AV) (p q : Nat) (k : Nat), lk q (keysOf p l) = some k → p ≤ q := by
  intro l
  induction l with
  | nil => intro p q k h; simp [keysOf, lk] at h
  | cons x l ih =>
    intro p q k h
    cases x <;> simp only [keysOf, lk] at h <;> first
      | (have := ih _ _ _ h; omega)
      | (split at h
         · omega
         · have := ih _ _ _ h; omega)
theorem lk_memV : ∀ (l : List (Nat × Nat)) (q k : Nat), lk q l = some k → memV k l = true := by
  intro l
  induction l with
  | nil => intro q k h; simp [lk] at h
  | cons p l ih =>
    obtain ⟨a, b⟩ := p
    intro q k h
    simp only [lk] at h
    simp only [memV]
    split at h
    · injection h with h; subst h; simp
    · split
      · rfl
      · exact ih _ _ h
theorem nodV_inj : ∀ (l : List (Nat × Nat)), nodV l = true → ∀ q q' k, lk q l = some k → lk q' l = some k → q = q' := by
  intro l
  induction l with
  | nil => intro _ q q' k h; simp [lk] at h
  | cons p l ih =>
    obtain ⟨a, b⟩ := p
    intro hn q q' k h h'
    simp only [nodV] at hn
    split at hn
    · simp at hn
    · rename_i hm
      simp only [lk] at h h'
      split at h <;> split at h'
      · omega
      · injection h with h; subst h; exact absurd (lk_memV _ _ _ h') hm
      · injection h' with h'; subst h'; exact absurd (lk_memV _ _ _ h) hm
      · exact ih hn q q' k h h'
def sameOb (u o : Ob) : Prop := match u, o with
  | .row e sz rows _ _, .row e' sz' rows' v m => e' = e ∧ sz' = sz ∧ rows' = rows ∧ v = 0 ∧ m = 0
  | .box ty cs _, .box ty' cs' _ => ty' = ty ∧ cs' = cs
  | _, _ => False
/-- What is handed over. -/
theorem canon_ok {w : World} {S : Nat → Prop} {β : Nat → Value} {obs : Obs} : ∀ (l : List AV) (p : Nat) (as : List AV) (pars : Obs) (β' : Nat → Value), canon obs p l = some (as, pars) → (∀ q k, lk q (keysOf p l) = some k → β' q = β k) →
    (∀ q o, lk q pars = some o → ∃ k u, lk q (keysOf p l) = some k ∧ lk k obs = some u ∧ (∀ B x, ORep w S B x u → ORep w S B x o) ∧ sameOb u o) ∧
    (∀ q k, lk q (keysOf p l) = some k → ∃ o, lk q pars = some o) ∧
    as.length = l.length ∧ ∀ (i : Nat) (u c : AV) (y : Value), l[i]? = some u → as[i]? = some c → SRep w S β obs u y → (okArg c = true ∧ Rep w S c y) ∨ (∃ off, c = .ptr (p + i) off ∧ SRep0 w S β' pars c y) ∨ (∃ e sz rows, c = .own (p + i) 0 ∧ lk (p + i) pars = some (.row e sz rows 0 0) ∧ y = β' (p + i)) := by
  intro l
  induction l with
  | nil =>
    intro p as pars β' h hβ
    simp [canon] at h
    obtain ⟨rfl, rfl⟩ := h
    exact ⟨fun q o h => by simp [lk] at h, fun q k h => by simp [keysOf, lk] at h, rfl, fun i u c y h => by simp at h⟩
  | cons x l ih =>
    intro p as pars β' h hβ
    have plainCase : ∀ (hx : okArg x = true), (∀ (q : Nat), keysOf q (x :: l) = keysOf (q + 1) l) → (∃ as1 ps1, canon obs (p + 1) l = some (as1, ps1) ∧ as = plain x :: as1 ∧ pars = ps1) →
        (∀ q o, lk q pars = some o → ∃ k u, lk q (keysOf p (x :: l)) = some k ∧ lk k obs = some u ∧ (∀ B x, ORep w S B x u → ORep w S B x o) ∧ sameOb u o) ∧
        (∀ q k, lk q (keysOf p (x :: l)) = some k → ∃ o, lk q pars = some o) ∧
        as.length = (x :: l).length ∧ ∀ (i : Nat) (u c : AV) (y : Value), (x :: l)[i]? = some u → as[i]? = some c → SRep w S β obs u y → (okArg c = true ∧ Rep w S c y) ∨ (∃ off, c = .ptr (p + i) off ∧ SRep0 w S β' pars c y) ∨ (∃ e sz rows, c = .own (p + i) 0 ∧ lk (p + i) pars = some (.row e sz rows 0 0) ∧ y = β' (p + i)) := by
      rintro hx hkeys ⟨as1, ps1, h1, rfl, rfl⟩
      rw [hkeys]
      rw [hkeys] at hβ
      obtain ⟨i1, i2, i3, i4⟩ := ih (p + 1) as1 pars β' h1 hβ
      refine ⟨i1, i2, by simp [i3], fun i u c y hu hc hs => ?_⟩
      cases i with
      | zero =>
        simp at hu hc
        subst hu hc
        refine .inl ⟨by cases x <;> simp_all [okArg, plain], ?_⟩
        refine rep_plain ?_
        cases x <;> first | exact hs | simp [okArg] at hx
      | succ i =>
        rcases i4 i u c y (by simpa using hu) (by simpa using hc) hs with h | h | h
        · exact .inl h
        · rw [show p + 1 + i = p + (i + 1) by omega] at h; exact .inr (.inl h)
        · rw [show p + 1 + i = p + (i + 1) by omega] at h; exact .inr (.inr h)
    have shiftCase : ∀ (as1 : List AV) (ps1 : Obs) (c0 : AV) (o0 : Ob) (k0 : Nat), canon obs (p + 1) l = some (as1, ps1) → as = c0 :: as1 → pars = (p, o0) :: ps1 → keysOf p (x :: l) = (p, k0) :: keysOf (p + 1) l →
        (∃ u, lk k0 obs = some u ∧ (∀ B x, ORep w S B x u → ORep w S B x o0) ∧ sameOb u o0) →
        (∀ y, SRep w S β obs x y → (∃ off, c0 = .ptr p off ∧ SRep0 w S β' pars c0 y) ∨ (∃ e sz rows, c0 = .own p 0 ∧ o0 = .row e sz rows 0 0 ∧ y = β' p)) →
        (∀ q o, lk q pars = some o → ∃ k u, lk q (keysOf p (x :: l)) = some k ∧ lk k obs = some u ∧ (∀ B x, ORep w S B x u → ORep w S B x o) ∧ sameOb u o) ∧
        (∀ q k, lk q (keysOf p (x :: l)) = some k → ∃ o, lk q pars = some o) ∧
        as.length = (x :: l).length ∧ ∀ (i : Nat) (u c : AV) (y : Value), (x :: l)[i]? = some u → as[i]? = some c → SRep w S β obs u y → (okArg c = true ∧ Rep w S c y) ∨ (∃ off, c = .ptr (p + i) off ∧ SRep0 w S β' pars c y) ∨ (∃ e sz rows, c = .own (p + i) 0 ∧ lk (p + i) pars = some (.row e sz rows 0 0) ∧ y = β' (p + i)) := by
      rintro as1 ps1 c0 o0 k0 h1 has hps hkeys hk0 hc0
      subst has
      have hkl : ∀ q, q ≠ p → lk q (keysOf p (x :: l)) = lk q (keysOf (p + 1) l) := fun q hq => by rw [hkeys]; simp only [lk]; rw [if_neg (fun e => hq e.symm)]
      have hkp : lk p (keysOf p (x :: l)) = some k0 := by rw [hkeys]; simp [lk]
      obtain ⟨i1, i2, i3, i4⟩ := ih (p + 1) as1 ps1 β' h1 (fun q k hq => hβ q k (by rw [hkl q (by have := keysOf_le _ _ _ _ hq; omega)]; exact hq))
      have hpl : ∀ q, q ≠ p → lk q pars = lk q ps1 := fun q hq => by rw [hps]; simp only [lk]; rw [if_neg (fun e => hq e.symm)]
      have hpp : lk p pars = some o0 := by rw [hps]; simp [lk]
      refine ⟨fun q o hq => ?_, fun q k hq => ?_, by simp [i3], fun i u c y hu hc hs => ?_⟩
      · by_cases e : q = p
        · subst e
          rw [hpp] at hq
          injection hq with hq
          subst hq
          obtain ⟨u, hu⟩ := hk0
          exact ⟨k0, u, hkp, hu⟩
        · rw [hpl q e] at hq
          rw [hkl q e]
          exact i1 q o hq
      · by_cases e : q = p
        · subst e; exact ⟨_, hpp⟩
        · rw [hkl q e] at hq
          rw [hpl q e]
          exact i2 q k hq
      · cases i with
        | zero =>
          simp at hu hc
          subst hu hc
          rcases hc0 y hs with h | ⟨e, sz, rows, h1, h2, h3⟩
          · exact .inr (.inl h)
          · exact .inr (.inr ⟨e, sz, rows, h1, by simpa [h2] using hpp, h3⟩)
        | succ i =>
          rcases i4 i u c y (by simpa using hu) (by simpa using hc) hs with h | ⟨off, h1, h2⟩ | ⟨e, sz, rows, h1, h2, h3⟩
          · exact .inl h
          · refine .inr (.inl ⟨off, by rw [h1]; congr 1; omega, ?_⟩)
            subst h1
            exact h2
          · refine .inr (.inr ⟨e, sz, rows, by rw [h1]; congr 1; omega, ?_, by rw [h3]; congr 1; omega⟩)
            rw [show p + (i + 1) = p + 1 + i by omega, hpl _ (by omega)]
            exact h2
    cases x with
    | own k ver =>
      simp only [canon] at h
      split at h
      · rename_i e sz rows ver' m hk
        split at h
        · rename_i ev
          subst ev
          split at h
          · rename_i as1 ps1 h1
            injection h with h
            injection h with h2 h3
            refine shiftCase as1 ps1 _ _ k h1 h2.symm h3.symm rfl ⟨_, hk, fun B x h => h, ⟨rfl, rfl, rfl, rfl, rfl⟩⟩ (fun y hy => .inr ⟨e, sz, rows, rfl, rfl, ?_⟩)
            rw [hβ p k (by simp [keysOf, lk])]
            exact (show ∀ e sz rows m, lk k obs = some (.row e sz rows ver m) → y = β k from hy) _ _ _ _ hk
          · simp at h
        · simp at h
      · simp at h
    | ptr k off =>
      simp only [canon] at h
      split at h
      · rename_i ty cs fz hk
        split at h
        · rename_i as1 ps1 h1
          injection h with h
          injection h with h2 h3
          refine shiftCase as1 ps1 _ _ k h1 h2.symm h3.symm rfl ⟨_, hk, fun B x h => h, ⟨rfl, rfl⟩⟩ (fun y hy => .inl ⟨off, rfl, ?_⟩)
          obtain ⟨g, h4, h5⟩ := (show ∃ g, β k = .pointer (some ⟨g, 0, none⟩) ∧ y = .pointer (some ((⟨g, 0, none⟩ : Addr).add off)) from hy)
          exact ⟨g, by rw [hβ p k (by simp [keysOf, lk])]; exact h4, h5⟩
        · simp at h
      · simp at h
    | _ =>
      simp only [canon] at h
      split at h
      · rename_i hok
        split at h
        · rename_i as1 ps1 h1
          injection h with h
          injection h with h2 h3
          exact plainCase hok (fun q => rfl) ⟨as1, ps1, h1, h2.symm, h3.symm⟩
        · simp at h
      · simp at h
end Go.Proofs.YthepmpfkkhckpaaGreatDoor.Am
