import Derived.Test.YtfphhpabfeepmaaDoorP8
set_option linter.unusedSimpArgs false
set_option linter.unusedVariables false
namespace Go.Proofs.YtfphhpabfeepmaaDoor
open Go Go.RowKit Am

/-! ### What is known stays known when more bytes come -/
theorem dgs_app (x : List UInt8) : ∀ (r : List UInt8) (n m : Nat), (dgs r n m).2.2 ≠ 1 → dgs (r ++ x) n m = dgs r n m := by
  intro r
  induction r with
  | nil => intro n m h; exact absurd rfl h
  | cons c r ih =>
    intro n m h
    rw [List.cons_append]
    unfold dgs at h ⊢
    split
    · rfl
    · rename_i h1
      rw [if_neg h1] at h
      split
      · rfl
      · rename_i h2
        rw [if_neg h2] at h
        have := ih _ _ h
        rw [this]
theorem get_app {r x : List UInt8} {i : Nat} {d : UInt8} (h : r[i]? = some d) : (r ++ x)[i]? = some d := by
  rw [List.getElem?_append_left (List.getElem?_eq_some_iff.1 h).1]; exact h
def stay {α : Type} (a b : R α) : Prop := a = .more ∨ b = a
theorem stay_ok {α : Type} {a b : R α} {v : α} {k : Nat} (h : stay a b) (h1 : a = .ok v k) : b = .ok v k := by
  rcases h with h | h
  · rw [h1] at h; cases h
  · rw [h, h1]
theorem stay_err {α : Type} {a b : R α} {e : Nat} (h : stay a b) (h1 : a = .err e) : b = .err e := by
  rcases h with h | h
  · rw [h1] at h; cases h
  · rw [h, h1]
theorem cnt_stay (x r : List UInt8) (s lo hi : Nat) : stay (cnt r s lo hi) (cnt (r ++ x) s lo hi) := by
  cases r with
  | nil => exact .inl rfl
  | cons c r1 =>
    rw [List.cons_append]
    simp only [cnt]
    by_cases h1 : c.toNat ≠ s
    · rw [if_pos h1, if_pos h1]; exact .inr rfl
    · rw [if_neg h1, if_neg h1]
      by_cases h2 : (dgs r1 0 0).2.2 = 1
      · rw [if_pos h2]; exact .inl rfl
      · rw [dgs_app x r1 0 0 h2, if_neg h2, if_neg h2]
        by_cases h3 : (dgs r1 0 0).2.2 = 3
        · rw [if_pos h3, if_pos h3]; exact .inr rfl
        · rw [if_neg h3, if_neg h3]
          cases hb : r1[(dgs r1 0 0).2.1 + 1]? with
          | none => exact .inl rfl
          | some d => rw [get_app hb]; exact .inr rfl
theorem txt_stay (x r : List UInt8) (n : Nat) : stay (txt r n) (txt (r ++ x) n) := by
  unfold txt
  by_cases h1 : r.length < n
  · rw [if_pos h1]; exact .inl rfl
  · rw [if_neg h1, if_neg (by rw [List.length_append]; omega)]
    cases hb : r[n]? with
    | none => exact .inl rfl
    | some c =>
      rw [get_app hb]
      simp only
      by_cases h2 : c.toNat ≠ 13
      · rw [if_pos h2, if_pos h2]; exact .inr rfl
      · rw [if_neg h2, if_neg h2]
        cases hb2 : r[n + 1]? with
        | none => exact .inl rfl
        | some d =>
          rw [get_app hb2]
          simp only
          rw [List.take_append_of_le_length (by omega)]
          exact .inr rfl
theorem txt_le {r t : List UInt8} {n k : Nat} (h : txt r n = .ok t k) : k ≤ r.length := by
  unfold txt at h
  split at h
  · cases h
  · split at h
    · cases h
    · split at h
      · cases h
      · split at h
        · cases h
        · rename_i d hd
          split at h
          · cases h
          · injection h with _ h
            have := (List.getElem?_eq_some_iff.1 hd).1
            omega
theorem cnt_le {r : List UInt8} {s lo hi n k : Nat} (h : cnt r s lo hi = .ok n k) : k ≤ r.length := by
  cases r with
  | nil => cases h
  | cons c r1 =>
    simp only [cnt] at h
    split at h
    · cases h
    · split at h
      · cases h
      · split at h
        · cases h
        · split at h
          · cases h
          · rename_i d hd
            split at h
            · cases h
            · split at h
              · cases h
              · injection h with _ h
                have := (List.getElem?_eq_some_iff.1 hd).1
                simp only [List.length_cons]
                omega
theorem args_stay (x : List UInt8) : ∀ (n : Nat) (r : List UInt8), stay (argsR n r) (argsR n (r ++ x)) := by
  intro n
  induction n with
  | zero => intro r; exact .inr rfl
  | succ n ih =>
    intro r
    simp only [argsR]
    cases h1 : cnt r 36 0 64 with
    | more => exact .inl rfl
    | err e => rw [stay_err (cnt_stay x r 36 0 64) h1]; exact .inr rfl
    | ok m k =>
      rw [stay_ok (cnt_stay x r 36 0 64) h1]
      simp only
      have hk := cnt_le h1
      rw [List.drop_append_of_le_length hk]
      cases h2 : txt (r.drop k) m with
      | more => exact .inl rfl
      | err e => rw [stay_err (txt_stay x (r.drop k) m) h2]; exact .inr rfl
      | ok t k2 =>
        rw [stay_ok (txt_stay x (r.drop k) m) h2]
        simp only
        have hk2 := txt_le h2
        rw [List.length_drop] at hk2
        rw [List.drop_append_of_le_length (by omega)]
        cases h3 : argsR n (r.drop (k + k2)) with
        | more => exact .inl rfl
        | err e => rw [stay_err (ih (r.drop (k + k2))) h3]; exact .inr rfl
        | ok ts k3 => rw [stay_ok (ih (r.drop (k + k2))) h3]; exact .inr rfl
theorem one_stay (x r : List UInt8) : stay (one r) (one (r ++ x)) := by
  unfold one
  cases h1 : cnt r 42 1 8 with
  | more => exact .inl rfl
  | err e => rw [stay_err (cnt_stay x r 42 1 8) h1]; exact .inr rfl
  | ok m k =>
    rw [stay_ok (cnt_stay x r 42 1 8) h1]
    simp only
    have hk := cnt_le h1
    rw [List.drop_append_of_le_length hk]
    cases h3 : argsR m (r.drop k) with
    | more => exact .inl rfl
    | err e => rw [stay_err (args_stay x m (r.drop k)) h3]; exact .inr rfl
    | ok ts k3 => rw [stay_ok (args_stay x m (r.drop k)) h3]; exact .inr rfl
/-! ### All that there is -/
theorem pars_fuel : ∀ (n m : Nat) (r : List UInt8) (o : List (List (List UInt8))), r.length < n → r.length < m → pars n r o = pars m r o := by
  intro n
  induction n with
  | zero => intro m r o h; omega
  | succ n ih =>
    intro m r o h h2
    obtain ⟨m, rfl⟩ : ∃ m', m = m' + 1 := ⟨m - 1, by omega⟩
    simp only [pars]
    cases h1 : one r with
    | more => rfl
    | err e => rfl
    | ok ts k =>
      have := one_pos h1
      have := one_le h1
      exact ih _ _ _ (by rw [List.length_drop]; omega) (by rw [List.length_drop]; omega)
theorem pars_out : ∀ (n : Nat) (r : List UInt8) (o : List (List (List UInt8))), pars n r o = (o ++ (pars n r []).1, (pars n r []).2) := by
  intro n
  induction n with
  | zero => intro r o; simp [pars]
  | succ n ih =>
    intro r o
    simp only [pars]
    cases h1 : one r with
    | more => simp
    | err e => simp
    | ok ts k => simp only; rw [ih _ (o ++ [ts]), ih _ ([] ++ [ts])]; simp
/-- What a stream's bytes say: the commands, the bytes left, the fault. -/
def P (l : List UInt8) : List (List (List UInt8)) × List UInt8 × Nat := pars (l.length + 1) l []
theorem P_step {l : List UInt8} {ts : List (List UInt8)} {k : Nat} (h : one l = .ok ts k) : P l = (ts :: (P (l.drop k)).1, (P (l.drop k)).2) := by
  have h1 := one_pos h
  have h2 := one_le h
  unfold P
  rw [show pars (l.length + 1) l [] = pars l.length (l.drop k) ([] ++ [ts]) by simp only [pars]; rw [h], pars_out, pars_fuel l.length ((l.drop k).length + 1) _ _ (by rw [List.length_drop]; omega) (by omega)]
  simp
theorem P_more {l : List UInt8} (h : one l = .more) : P l = ([], l, 0) := by unfold P; simp only [pars]; rw [h]
theorem P_err {l : List UInt8} {e : Nat} (h : one l = .err e) : P l = ([], l, e) := by unfold P; simp only [pars]; rw [h]
theorem one_nz {l : List UInt8} {e : Nat} (h : one l = .err e) : e ≠ 0 := by
  have := one_says l
  rw [h] at this
  exact this.2.2
theorem P_split (x : List UInt8) : ∀ (n : Nat) (l : List UInt8), l.length ≤ n → ((P l).2.2 ≠ 0 → P (l ++ x) = ((P l).1, (P l).2.1 ++ x, (P l).2.2)) ∧ ((P l).2.2 = 0 → P (l ++ x) = ((P l).1 ++ (P ((P l).2.1 ++ x)).1, (P ((P l).2.1 ++ x)).2)) := by
  intro n
  induction n with
  | zero =>
    intro l hl
    have : l = [] := List.length_eq_zero_iff.1 (by omega)
    subst this
    have : P [] = ([], [], 0) := rfl
    rw [this]
    exact ⟨fun h => absurd rfl h, fun _ => by simp⟩
  | succ n ih =>
    intro l hl
    cases h1 : one l with
    | more =>
      rw [P_more h1]
      exact ⟨fun h => absurd rfl h, fun _ => by simp⟩
    | err e =>
      have h2 := stay_err (one_stay x l) h1
      rw [P_err h1, P_err h2]
      exact ⟨fun _ => rfl, fun h => absurd h (one_nz h1)⟩
    | ok ts k =>
      have h2 := stay_ok (one_stay x l) h1
      have h3 := one_pos h1
      have h4 := one_le h1
      rw [P_step h1, P_step h2, List.drop_append_of_le_length h4]
      obtain ⟨i1, i2⟩ := ih (l.drop k) (by rw [List.length_drop]; omega)
      exact ⟨fun h => by rw [i1 h], fun h => by rw [i2 h]; rfl⟩
theorem P_len : ∀ (n : Nat) (l : List UInt8), l.length ≤ n → (P l).1.length + (P l).2.1.length ≤ l.length := by
  intro n
  induction n with
  | zero =>
    intro l hl
    have : l = [] := List.length_eq_zero_iff.1 (by omega)
    subst this
    exact Nat.le_refl _
  | succ n ih =>
    intro l hl
    cases h1 : one l with
    | more => rw [P_more h1]; simp
    | err e => rw [P_err h1]; simp
    | ok ts k =>
      have h3 := one_pos h1
      have h4 := one_le h1
      have := ih (l.drop k) (by rw [List.length_drop]; omega)
      rw [P_step h1]
      rw [List.length_drop] at this
      simp only [List.length_cons]
      omega
theorem args_len : ∀ (n : Nat) (r : List UInt8) (ts : List (List UInt8)) (k : Nat), argsR n r = .ok ts k → ts.length = n := by
  intro n
  induction n with
  | zero => intro r ts k h; simp only [argsR] at h; injection h with h; rw [← h]; rfl
  | succ n ih =>
    intro r ts k h
    simp only [argsR] at h
    split at h
    · cases h
    · cases h
    · split at h
      · cases h
      · cases h
      · split at h
        · cases h
        · cases h
        · rename_i h3
          injection h with h
          rw [← h, List.length_cons, ih _ _ _ h3]
theorem cnt_hi {r : List UInt8} {s lo hi n k : Nat} (h : cnt r s lo hi = .ok n k) : lo ≤ n ∧ n ≤ hi := by
  cases r with
  | nil => cases h
  | cons c r1 =>
    simp only [cnt] at h
    split at h
    · cases h
    · split at h
      · cases h
      · split at h
        · cases h
        · split at h
          · cases h
          · split at h
            · cases h
            · split at h
              · cases h
              · injection h with h _; omega
theorem one_len {l : List UInt8} {ts : List (List UInt8)} {k : Nat} (h : one l = .ok ts k) : ts.length ≤ 8 := by
  unfold one at h
  split at h
  · cases h
  · cases h
  · rename_i n k1 h1
    have := cnt_hi h1
    split at h
    · cases h
    · cases h
    · rename_i h2
      injection h with h
      have := args_len _ _ _ _ h2
      rw [← h]; omega
theorem P_small : ∀ (n : Nat) (l : List UInt8), l.length ≤ n → ∀ x ∈ (P l).1, x.length ≤ 8 := by
  intro n
  induction n with
  | zero =>
    intro l hl
    have : l = [] := List.length_eq_zero_iff.1 (by omega)
    subst this
    intro x hx
    cases hx
  | succ n ih =>
    intro l hl
    cases h1 : one l with
    | more => rw [P_more h1]; intro x hx; cases hx
    | err e => rw [P_err h1]; intro x hx; cases hx
    | ok ts k =>
      have h3 := one_pos h1
      have h4 := one_le h1
      rw [P_step h1]
      intro x hx
      rcases List.mem_cons.1 hx with hx | hx
      · rw [hx]; exact one_len h1
      · exact ih (l.drop k) (by rw [List.length_drop]; omega) x hx
/-! ### Fed piece by piece -/
def FD (left : List UInt8) (e : Nat) (x : List UInt8) : List (List (List UInt8)) × List UInt8 × Nat := if e ≠ 0 then ([], left, e) else P (left ++ x)
/-- The parser's fields behind the bytes c. -/
def At (c left : List UInt8) (e : Nat) : Prop := e = (P c).2.2 ∧ (e = 0 → left = (P c).2.1) ∧ left.length ≤ c.length
theorem at_nil : At [] [] 0 := ⟨rfl, fun _ => rfl, Nat.le_refl _⟩
theorem at_step {c left : List UInt8} {e : Nat} (h : At c left e) (x : List UInt8) : (P (c ++ x)).1 = (P c).1 ++ (FD left e x).1 ∧ At (c ++ x) (FD left e x).2.1 (FD left e x).2.2 := by
  obtain ⟨h1, h2, h3⟩ := h
  obtain ⟨s1, s2⟩ := P_split x c.length c (Nat.le_refl _)
  unfold FD
  by_cases he : e ≠ 0
  · rw [if_pos he]
    have := s1 (by omega)
    refine ⟨by rw [this]; simp, by rw [this]; exact h1, fun h => absurd h he, by rw [List.length_append]; simp only; omega⟩
  · rw [if_neg he]
    have h0 : e = 0 := by omega
    have := s2 (by omega)
    have hl := h2 h0
    rw [← hl] at this
    have hlen := P_len _ (left ++ x) (Nat.le_refl _)
    rw [List.length_append] at hlen
    refine ⟨by rw [this], by rw [this], fun h => by rw [this], by rw [List.length_append]; omega⟩
theorem feed_any (left x : List UInt8) (e : Nat) (hl : (left ++ x).length ≤ 1000000) (lR rows : List (List AV)) (hlR : lR = byR left) (hrows : rows = byR x) (e' : Int) (he' : e' = (e : Int)) (lR2 outf : List (List AV)) (e2 : Int) (h1 : lR2 = byR (FD left e x).2.1) (h2 : outf = cR (FD left e x).1) (h3 : e2 = ((FD left e x).2.2 : Int)) :
    CSem Tryd.prog (.wr 20 (PO lR e') (PO lR2 e2)) [.ptr 0 0, .sl rows] (.pure [.sl outf, aI e2]) := by
  unfold FD at h1 h2 h3
  by_cases he : e ≠ 0
  · rw [if_pos he] at h1 h2 h3
    subst h1 h2 h3 hlR he'
    exact feed_err _ rows _ (by simpa using he)
  · have h0 : e = 0 := by omega
    rw [if_neg he] at h1 h2 h3
    subst h0
    subst he'
    exact wr_frz (feed_ok left x hl lR rows hlR hrows (P (left ++ x)).1 (P (left ++ x)).2.1 (P (left ++ x)).2.2 rfl lR2 outf h1 h2 e2 h3)
end Go.Proofs.YtfphhpabfeepmaaDoor
