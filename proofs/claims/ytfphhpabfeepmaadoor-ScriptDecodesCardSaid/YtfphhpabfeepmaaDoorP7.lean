import Derived.Test.YtfphhpabfeepmaaDoorP6
set_option linter.unusedSimpArgs false
set_option linter.unusedVariables false
namespace Go.Proofs.YtfphhpabfeepmaaDoor
open Go Go.RowKit Am

/-! ### Commands, by definition: it isn't whole yet; an error; what it is, and how many bytes -/
inductive R (α : Type) where
  | more
  | err (e : Nat)
  | ok (a : α) (k : Nat)
def cnt (r : List UInt8) (sign lo hi : Nat) : R Nat :=
  match r with
  | [] => .more
  | c :: r1 => if c.toNat ≠ sign then .err 3 else if (dgs r1 0 0).2.2 = 1 then .more else if (dgs r1 0 0).2.2 = 3 then .err 3 else
    match r1[(dgs r1 0 0).2.1 + 1]? with
    | none => .more
    | some d => if d.toNat ≠ 10 then .err 3 else if (dgs r1 0 0).1 < lo ∨ hi < (dgs r1 0 0).1 then .err 4 else .ok (dgs r1 0 0).1 ((dgs r1 0 0).2.1 + 3)
def txt (r : List UInt8) (n : Nat) : R (List UInt8) :=
  if r.length < n then .more else match r[n]? with
    | none => .more
    | some c => if c.toNat ≠ 13 then .err 3 else match r[n + 1]? with
      | none => .more
      | some d => if d.toNat ≠ 10 then .err 3 else .ok (r.take n) (n + 2)
def argsR : Nat → List UInt8 → R (List (List UInt8))
  | 0, _ => .ok [] 0
  | n + 1, r => match cnt r 36 0 64 with
    | .more => .more
    | .err e => .err e
    | .ok m k => match txt (r.drop k) m with
      | .more => .more
      | .err e => .err e
      | .ok t k2 => match argsR n (r.drop (k + k2)) with
        | .more => .more
        | .err e => .err e
        | .ok ts k3 => .ok (t :: ts) (k + k2 + k3)
def one (r : List UInt8) : R (List (List UInt8)) :=
  match cnt r 42 1 8 with
  | .more => .more
  | .err e => .err e
  | .ok n k => match argsR n (r.drop k) with
    | .more => .more
    | .err e => .err e
    | .ok ts k2 => .ok ts (k + k2)
theorem dgs_st : ∀ (r : List UInt8) (n m : Nat), ((dgs r n m).2.2 = 0 ∧ ∃ c, r[(dgs r n m).2.1]? = some c ∧ c.toNat = 13) ∨ ((dgs r n m).2.2 = 1 ∧ (dgs r n m).2.1 = r.length) ∨ (dgs r n m).2.2 = 3 := by
  intro r
  induction r with
  | nil => intro n m; exact .inr (.inl ⟨rfl, rfl⟩)
  | cons c r ih =>
    intro n m
    simp only [dgs]
    split
    · rename_i h; exact .inl ⟨rfl, c, rfl, h.1⟩
    · split
      · exact .inr (.inr rfl)
      · rcases ih (10 * n + (c.toNat - 48)) (m + 1) with ⟨h1, d, h2, h3⟩ | ⟨h1, h2⟩ | h1
        · exact .inl ⟨h1, d, by simpa using h2, h3⟩
        · exact .inr (.inl ⟨h1, by simp [h2]⟩)
        · exact .inr (.inr h1)
/-- What a scan's state says. -/
def Says {α : Type} (r : R α) (a0 : Nat) (s : Sc) (v : α → Prop) : Prop :=
  match r with
  | .more => s.m = true ∧ s.e = 0
  | .err e => s.m = false ∧ s.e = (e : Int) ∧ e ≠ 0
  | .ok x k => s.m = false ∧ s.e = 0 ∧ s.a = a0 + k ∧ v x
theorem Says.stp {α : Type} {r : R α} {a0 : Nat} {s : Sc} {v : α → Prop} (h : Says r a0 s v) : stp s ↔ ∀ x k, r ≠ .ok x k := by
  cases r with
  | more => exact Iff.intro (fun _ x k h => by cases h) (fun _ => .inl h.1)
  | err e => exact Iff.intro (fun _ x k h => by cases h) (fun _ => .inr (by have := h.2.1; have := h.2.2; omega))
  | ok x k =>
    refine Iff.intro (fun h2 => ?_) (fun h2 => absurd rfl (h2 x k))
    rcases h2 with h2 | h2
    · rw [h.1] at h2; cases h2
    · exact absurd h.2.1 h2
theorem mustS_st {l : List UInt8} {c : Int} {s : Sc} (h : stp s) : mustS l c s = s := by unfold mustS; rw [if_pos h]
theorem nst (a : Nat) : ¬ stp ⟨a, false, 0⟩ := by rintro (h | h) <;> simp at h
theorem mustS_go {l : List UInt8} {c : Int} {a : Nat} : mustS l c ⟨a, false, 0⟩ = match l[a]? with
    | none => ⟨a, true, 0⟩
    | some b => if (b.toNat : Int) ≠ c then ⟨a, false, 3⟩ else ⟨a + 1, false, 0⟩ := by unfold mustS; rw [if_neg (nst a)]; cases l[a]? <;> rfl
theorem digS_st {l : List UInt8} {s : Sc} (h : stp s) : digS l s = (s, 0) := by unfold digS; rw [if_pos h]
theorem rangeS_st {lo hi : Nat} {p : Sc × Nat} (h : stp p.1) : rangeS lo hi p = p := by
  unfold rangeS
  rw [if_neg (fun h2 => h2.1 h)]
theorem txtS_st {l : List UInt8} {n : Nat} {s : Sc} (h : stp s) : txtS l n s = (s, []) := by unfold txtS; rw [if_pos h]
theorem cmdL_st {l : List UInt8} {k : Nat} {s : Sc} {o : List (List UInt8)} (h : stp s) : cmdL l k s o = (s, o) := by
  cases k with
  | zero => rfl
  | succ k => unfold cmdL; rw [if_pos h]
theorem stm (a : Nat) (e : Int) : stp ⟨a, true, e⟩ := .inl rfl
theorem ste (a : Nat) (m : Bool) {e : Int} (h : e ≠ 0) : stp ⟨a, m, e⟩ := .inr h
theorem cnt_says (l : List UInt8) (a sign lo hi : Nat) : Says (cnt (l.drop a) sign lo hi) a (cntS l (sign : Int) lo hi ⟨a, false, 0⟩).1 (fun n => n = (cntS l (sign : Int) lo hi ⟨a, false, 0⟩).2) := by
  unfold cntS
  rw [mustS_go]
  cases hb : l[a]? with
  | none =>
    have hd : l.drop a = [] := List.drop_eq_nil_iff.2 (List.getElem?_eq_none_iff.1 hb)
    simp only
    rw [digS_st (stm a 0), mustS_st (stm a 0), mustS_st (stm a 0), rangeS_st (stm a 0), hd]
    exact ⟨rfl, rfl⟩
  | some c =>
    have hlt : a < l.length := (List.getElem?_eq_some_iff.1 hb).1
    have hd : l.drop a = c :: l.drop (a + 1) := by
      rw [List.drop_eq_getElem_cons hlt]; congr 1; exact (List.getElem?_eq_some_iff.1 hb).2
    rw [hd]
    simp only [cnt]
    by_cases h1 : c.toNat = sign
    · rw [if_neg (show ¬ ((c.toNat : Int) ≠ (sign : Int)) by omega), if_neg (show ¬ (c.toNat ≠ sign) by omega)]
      have hg : ∀ j, (l.drop (a + 1))[j]? = l[a + 1 + j]? := fun j => by rw [List.getElem?_drop]
      unfold digS
      rw [if_neg (nst (a + 1))]
      simp only
      rcases dgs_st (l.drop (a + 1)) 0 0 with ⟨h2, d, h3, h4⟩ | ⟨h2, h3⟩ | h2
      · rw [if_neg (by omega), if_neg (by omega)]
        generalize hdg : dgs (l.drop (a + 1)) 0 0 = g at *
        obtain ⟨n, k, st⟩ := g
        simp only at h2 h3 h4 ⊢
        subst h2
        have e1 : (⟨a + 1 + k, decide ((0 : Nat) = 1), eOf 0⟩ : Sc) = ⟨a + 1 + k, false, 0⟩ := rfl
        rw [e1, mustS_go, ← hg, h3]
        simp only
        rw [if_neg (show ¬ ((d.toNat : Int) ≠ 13) by omega), mustS_go, hg, show a + 1 + (k + 1) = a + 1 + k + 1 by omega]
        cases hb2 : l[a + 1 + k + 1]? with
        | none =>
          simp only
          rw [rangeS_st (stm _ 0)]
          exact ⟨rfl, rfl⟩
        | some d2 =>
          simp only
          by_cases h5 : d2.toNat = 10
          · rw [if_neg (show ¬ ((d2.toNat : Int) ≠ 10) by omega), if_neg (show ¬ (d2.toNat ≠ 10) by omega)]
            unfold rangeS
            simp only
            by_cases h6 : n < lo ∨ hi < n
            · rw [if_pos h6, if_pos ⟨nst _, h6⟩]
              exact ⟨rfl, rfl, by omega⟩
            · rw [if_neg h6, if_neg (fun h => h6 h.2)]
              exact ⟨rfl, rfl, by simp only; omega, rfl⟩
          · rw [if_pos (show ((d2.toNat : Int) ≠ 10) by omega), if_pos h5, rangeS_st (ste _ _ (show (3 : Int) ≠ 0 by decide))]
            exact ⟨rfl, rfl, by omega⟩
      · rw [if_pos h2]
        generalize dgs (l.drop (a + 1)) 0 0 = g at *
        obtain ⟨n, k, st⟩ := g
        simp only at h2 ⊢
        subst h2
        have e1 : (⟨a + 1 + k, decide ((1 : Nat) = 1), eOf 1⟩ : Sc) = ⟨a + 1 + k, true, 0⟩ := rfl
        rw [e1, mustS_st (stm _ 0), mustS_st (stm _ 0), rangeS_st (stm _ 0)]
        exact ⟨rfl, rfl⟩
      · rw [if_neg (by omega), if_pos h2]
        generalize dgs (l.drop (a + 1)) 0 0 = g at *
        obtain ⟨n, k, st⟩ := g
        simp only at h2 ⊢
        subst h2
        have e1 : (⟨a + 1 + k, decide ((3 : Nat) = 1), eOf 3⟩ : Sc) = ⟨a + 1 + k, false, 3⟩ := rfl
        rw [e1, mustS_st (ste _ _ (show (3 : Int) ≠ 0 by decide)), mustS_st (ste _ _ (show (3 : Int) ≠ 0 by decide)), rangeS_st (ste _ _ (show (3 : Int) ≠ 0 by decide))]
        exact ⟨rfl, rfl, by omega⟩
    · rw [if_pos (show ((c.toNat : Int) ≠ (sign : Int)) by omega), if_pos h1]
      rw [digS_st (ste _ _ (show (3 : Int) ≠ 0 by decide)), mustS_st (ste _ _ (show (3 : Int) ≠ 0 by decide)), mustS_st (ste _ _ (show (3 : Int) ≠ 0 by decide)), rangeS_st (ste _ _ (show (3 : Int) ≠ 0 by decide))]
      exact ⟨rfl, rfl, by omega⟩
theorem txt_says (l : List UInt8) (a n : Nat) (hle : a ≤ l.length) : Says (txt (l.drop a) n) a (txtS l n ⟨a, false, 0⟩).1 (fun t => t = (txtS l n ⟨a, false, 0⟩).2) := by
  unfold txtS txt
  rw [if_neg (nst a), List.length_drop]
  simp only
  by_cases h1 : l.length - a < n
  · rw [if_pos h1, if_pos h1]
    exact ⟨rfl, rfl⟩
  · rw [if_neg h1, if_neg h1, mustS_go, List.getElem?_drop, List.getElem?_drop]
    cases hb : l[a + n]? with
    | none =>
      simp only
      rw [mustS_st (stm _ 0)]
      exact ⟨rfl, rfl⟩
    | some c =>
      simp only
      by_cases h2 : c.toNat = 13
      · rw [if_neg (show ¬ ((c.toNat : Int) ≠ 13) by omega), if_neg (show ¬ (c.toNat ≠ 13) by omega), mustS_go, show a + (n + 1) = a + n + 1 by omega]
        cases hb2 : l[a + n + 1]? with
        | none => exact ⟨rfl, rfl⟩
        | some d =>
          simp only
          by_cases h3 : d.toNat = 10
          · rw [if_neg (show ¬ ((d.toNat : Int) ≠ 10) by omega), if_neg (show ¬ (d.toNat ≠ 10) by omega)]
            exact ⟨rfl, rfl, by simp only; omega, rfl⟩
          · rw [if_pos (show ((d.toNat : Int) ≠ 10) by omega), if_pos h3]
            exact ⟨rfl, rfl, by omega⟩
      · rw [if_pos (show ((c.toNat : Int) ≠ 13) by omega), if_pos h2, mustS_st (ste _ _ (show (3 : Int) ≠ 0 by decide))]
        exact ⟨rfl, rfl, by omega⟩
theorem go_of {s : Sc} {a : Nat} (h1 : s.m = false) (h2 : s.e = 0) (h3 : s.a = a) : s = ⟨a, false, 0⟩ := by
  obtain ⟨x, y, z⟩ := s; simp only at h1 h2 h3; rw [h1, h2, h3]
theorem args_says (l : List UInt8) : ∀ (n a : Nat) (o : List (List UInt8)), a ≤ l.length → Says (argsR n (l.drop a)) a (cmdL l n ⟨a, false, 0⟩ o).1 (fun ts => (cmdL l n ⟨a, false, 0⟩ o).2 = o ++ ts) := by
  intro n
  induction n with
  | zero => intro a o _; exact ⟨rfl, rfl, rfl, by simp [cmdL]⟩
  | succ n ih =>
    intro a o hle
    unfold cmdL argsR
    rw [if_neg (nst a)]
    have hc := cnt_says l a 36 0 64
    have hcl := cntS_le (l := l) (c := 36) (lo := 0) (hi := 64) (s := ⟨a, false, 0⟩) hle
    have e36 : (((36 : Nat) : Int)) = 36 := rfl
    rw [e36] at hc
    generalize cntS l 36 0 64 ⟨a, false, 0⟩ = p at *
    obtain ⟨s1, m⟩ := p
    simp only at hc hcl ⊢
    cases hcn : cnt (l.drop a) 36 0 64 with
    | more =>
      rw [hcn] at hc
      have : stp s1 := .inl hc.1
      rw [txtS_st this, cmdL_st this]
      exact hc
    | err e =>
      rw [hcn] at hc
      have : stp s1 := .inr (by have := hc.2.1; have := hc.2.2; omega)
      rw [txtS_st this, cmdL_st this]
      exact hc
    | ok m' k =>
      rw [hcn] at hc
      obtain ⟨h1, h2, h3, h4⟩ := hc
      have h4 : m' = m := h4
      subst h4
      have hs := go_of h1 h2 h3
      subst hs
      simp only at hcl
      have ht := txt_says l (a + k) m' hcl
      have htl := txtS_le (l := l) (n := m') (s := ⟨a + k, false, 0⟩) hcl
      simp only
      rw [List.drop_drop]
      generalize txtS l m' ⟨a + k, false, 0⟩ = p at *
      obtain ⟨s2, t⟩ := p
      simp only at ht htl ⊢
      cases htn : txt (l.drop (a + k)) m' with
      | more =>
        rw [htn] at ht
        rw [cmdL_st (.inl ht.1)]
        exact ht
      | err e =>
        rw [htn] at ht
        rw [cmdL_st (.inr (by have := ht.2.1; have := ht.2.2; omega))]
        exact ht
      | ok t' k2 =>
        rw [htn] at ht
        obtain ⟨i1, i2, i3, i4⟩ := ht
        have i4 : t' = t := i4
        subst i4
        have hs := go_of i1 i2 i3
        subst hs
        simp only at htl
        have := ih (a + k + k2) (o ++ [t']) htl
        simp only
        rw [List.drop_drop, show a + (k + k2) = a + k + k2 by omega]
        cases han : argsR n (l.drop (a + k + k2)) with
        | more => rw [han] at this; exact this
        | err e => rw [han] at this; exact this
        | ok ts k3 =>
          rw [han] at this
          obtain ⟨j1, j2, j3, j4⟩ := this
          exact ⟨j1, j2, by rw [j3]; omega, by rw [j4]; simp⟩
theorem one_says (l : List UInt8) : Says (one l) 0 (cmdS l ⟨0, false, 0⟩).1 (fun ts => (cmdS l ⟨0, false, 0⟩).2 = ts) := by
  unfold cmdS one
  have hc := cnt_says l 0 42 1 8
  have hcl := cntS_le (l := l) (c := 42) (lo := 1) (hi := 8) (s := ⟨0, false, 0⟩) (Nat.zero_le _)
  have e42 : (((42 : Nat) : Int)) = 42 := rfl
  rw [e42, List.drop_zero] at hc
  generalize cntS l 42 1 8 ⟨0, false, 0⟩ = p at *
  obtain ⟨s1, m⟩ := p
  simp only at hc hcl ⊢
  cases hcn : cnt l 42 1 8 with
  | more => rw [hcn] at hc; rw [cmdL_st (.inl hc.1)]; exact hc
  | err e => rw [hcn] at hc; rw [cmdL_st (.inr (by have := hc.2.1; have := hc.2.2; omega))]; exact hc
  | ok m' k =>
    rw [hcn] at hc
    obtain ⟨h1, h2, h3, h4⟩ := hc
    have h4 : m' = m := h4
    subst h4
    have hs := go_of h1 h2 h3
    subst hs
    simp only [Nat.zero_add] at hcl
    have := args_says l m' k [] hcl
    simp only [Nat.zero_add]
    cases han : argsR m' (l.drop k) with
    | more => rw [han] at this; exact this
    | err e => rw [han] at this; exact this
    | ok ts k3 =>
      rw [han] at this
      obtain ⟨j1, j2, j3, j4⟩ := this
      exact ⟨j1, j2, by rw [j3]; omega, by rw [j4]; rfl⟩
end Go.Proofs.YtfphhpabfeepmaaDoor
