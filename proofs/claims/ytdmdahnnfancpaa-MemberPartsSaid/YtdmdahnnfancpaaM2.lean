import Derived.Test.YtdmdahnnfancpaaM1
set_option linter.unusedSimpArgs false
set_option linter.unusedVariables false
namespace Go.Proofs.Ytdmdahnnfancpaa
open Go Go.RowKit Am

/-! ### A member's score is that of the latest of its own events -/
theorem later_irr (a : Ev) : laterB a a = false := by
  cases h : laterB a a with
  | false => rfl
  | true => have := (later_iff a a).1 h; omega
theorem later_trans {a b c : Ev} (h1 : laterB b a = true) (h2 : laterB c b = true) : laterB c a = true := by
  rw [later_iff] at *
  omega
/-- What isn't later than one than which a third is later. -/
theorem later_ne {a b c : Ev} (h1 : laterB a b = false) (h2 : laterB c b = true) : laterB c a = true := by
  have h1 : ¬ laterB a b = true := by rw [h1]; simp
  rw [later_iff] at *
  omega
theorem later_neg {a b c : Ev} (h1 : laterB a b = false) (h2 : laterB c a = false) : laterB c b = false := by
  have h1 : ¬ laterB a b = true := by rw [h1]; simp
  have h2 : ¬ laterB c a = true := by rw [h2]; simp
  cases h : laterB c b with
  | false => rfl
  | true => rw [later_iff] at *; omega
def best : Option Ev → Ev → Option Ev
  | none, e => some e
  | some o, e => if laterB e o = true then some e else some o
def ownE (l : List Ev) (s : ByteArray) : List Ev := l.filter fun e => decide (e.op.kind = 7) && decide (e.op.fld = s)
theorem eget_put (f s : ByteArray) (e : Ev) : ∀ (ks : List ByteArray) (vs : List Ev), ks.length = vs.length → eget (mputK ks f) (eput ks vs f e) s = if f = s then some e else eget ks vs s
  | [], [], _ => by unfold mputK eput eget; split <;> simp [eget]
  | [], _ :: _, h => by simp at h
  | _ :: _, [], h => by simp at h
  | k :: ks, v :: vs, h => by
    have ih := eget_put f s e ks vs (by simpa using h)
    unfold mputK eput
    by_cases hk : k = f
    · rw [if_pos hk, if_pos hk]
      subst hk
      unfold eget
      by_cases hs : k = s
      · rw [if_pos hs, if_pos hs]
      · rw [if_neg hs, if_neg hs, if_neg hs]
    · rw [if_neg hk, if_neg hk]
      unfold eget
      by_cases hs : k = s
      · rw [if_pos hs, if_pos hs, if_neg (fun h => hk (hs.trans h.symm))]
      · rw [if_neg hs, if_neg hs]; exact ih
theorem put_len (f : ByteArray) (e : Ev) : ∀ (ks : List ByteArray) (vs : List Ev), ks.length = vs.length → (mputK ks f).length = (eput ks vs f e).length
  | [], [], _ => rfl
  | [], _ :: _, h => by simp at h
  | _ :: _, [], h => by simp at h
  | k :: ks, v :: vs, h => by
    unfold mputK eput
    split
    · simpa using h
    · simp [put_len f e ks vs (by simpa using h)]
theorem latF_len (m : LM) (e : Ev) (h : m.1.length = m.2.length) : (latF m e).1.length = (latF m e).2.length := by
  unfold latF
  split
  · split
    · exact put_len _ _ _ _ h
    · split
      · exact put_len _ _ _ _ h
      · exact h
  · exact h
theorem eget_lat (s : ByteArray) (m : LM) (e : Ev) (h : m.1.length = m.2.length) : eget (latF m e).1 (latF m e).2 s = if e.op.kind = 7 ∧ e.op.fld = s then best (eget m.1 m.2 s) e else eget m.1 m.2 s := by
  unfold latF
  by_cases h7 : e.op.kind = 7
  · rw [if_pos h7]
    cases hg : eget m.1 m.2 e.op.fld with
    | none =>
      show eget (mputK m.1 e.op.fld) (eput m.1 m.2 e.op.fld e) s = _
      rw [eget_put _ _ _ _ _ h]
      by_cases hs : e.op.fld = s
      · rw [if_pos hs, if_pos ⟨h7, hs⟩, ← hs, hg]; rfl
      · rw [if_neg hs, if_neg (fun h => hs h.2)]
    | some o =>
      show eget (if laterB e o = true then (mputK m.1 e.op.fld, eput m.1 m.2 e.op.fld e) else m).1 (if laterB e o = true then (mputK m.1 e.op.fld, eput m.1 m.2 e.op.fld e) else m).2 s = _
      by_cases hl : laterB e o = true
      · rw [if_pos hl]
        show eget (mputK m.1 e.op.fld) (eput m.1 m.2 e.op.fld e) s = _
        rw [eget_put _ _ _ _ _ h]
        by_cases hs : e.op.fld = s
        · rw [if_pos hs, if_pos ⟨h7, hs⟩, ← hs, hg]; simp only [best, if_pos hl]
        · rw [if_neg hs, if_neg (fun h => hs h.2)]
      · rw [if_neg hl]
        by_cases hs : e.op.fld = s
        · rw [if_pos ⟨h7, hs⟩, ← hs, hg]; simp only [best, if_neg hl]
        · rw [if_neg (fun h => hs h.2)]
  · rw [if_neg h7, if_neg (fun h => h7 h.1)]
theorem eget_fold (s : ByteArray) : ∀ (l : List Ev) (m : LM), m.1.length = m.2.length → eget (l.foldl latF m).1 (l.foldl latF m).2 s = (ownE l s).foldl best (eget m.1 m.2 s)
  | [], _, _ => rfl
  | e :: l, m, h => by
    rw [List.foldl_cons, eget_fold s l _ (latF_len m e h), eget_lat s m e h]
    unfold ownE
    by_cases hc : e.op.kind = 7 ∧ e.op.fld = s
    · rw [if_pos hc, List.filter_cons_of_pos (by simp [hc.1, hc.2])]
      rfl
    · rw [if_neg hc, List.filter_cons_of_neg (by simpa using hc)]
theorem topB_snoc (l : List Ev) (e x : Ev) : topB (l ++ [e]) x = (topB l x && !laterB e x) := by
  unfold topB; simp
theorem latR_snoc (l : List Ev) (e : Ev) (h : l.foldl best none = latR l) : best (l.foldl best none) e = latR (l ++ [e]) := by
  rw [h]
  cases hl : latR l with
  | none =>
    have hn : l = [] := by
      cases l with
      | nil => rfl
      | cons a t =>
        exfalso
        have key : ∀ (t : List Ev) (o : Option Ev), o ≠ none → t.foldl best o ≠ none := by
          intro t
          induction t with
          | nil => intro o h; exact h
          | cons b t ih => intro o h; exact ih _ (by cases o with | none => exact absurd rfl h | some o => (simp only [best]; split <;> simp))
        exact key t (some a) (by simp) (by rw [← hl, ← h]; rfl)
    subst hn
    unfold best latR topB
    simp [later_irr]
  | some o =>
    unfold latR at hl ⊢
    obtain ⟨htop, l1, l2, hsplit, has⟩ := List.find?_eq_some_iff_append.1 hl
    have htop' : ∀ k ∈ l, laterB k o = false := fun k hk => by
      have := List.all_eq_true.1 htop k hk
      simpa using this
    by_cases hlt : laterB e o = true
    · simp only [best, if_pos hlt]
      symm
      rw [List.find?_append]
      have hn : l.find? (topB (l ++ [e])) = none := by
        rw [List.find?_eq_none]
        intro x hx
        rw [topB_snoc]
        have : laterB e x = true := later_ne (htop' x hx) hlt
        simp [this]
      rw [hn]
      have he : topB (l ++ [e]) e = true := by
        rw [topB_snoc, later_irr]
        have : topB l e = true := by
          unfold topB
          rw [List.all_eq_true]
          intro k hk
          have h1 : laterB k e = false := by
            cases hke : laterB k e with
            | false => rfl
            | true => have := later_trans hlt hke; rw [htop' k hk] at this; cases this
          simp [h1]
        simp [this]
      simp [he]
    · simp only [best, if_neg hlt]
      have hlt : laterB e o = false := by simpa using hlt
      symm
      rw [List.find?_append]
      have hf : l.find? (topB (l ++ [e])) = some o := by
        rw [List.find?_eq_some_iff_append]
        refine ⟨by rw [topB_snoc, htop, hlt]; rfl, l1, l2, hsplit, fun a ha => ?_⟩
        rw [topB_snoc]
        have := has a ha
        simp only [Bool.not_eq_true'] at this ⊢
        rw [this]; rfl
      rw [hf]
      rfl
theorem best_latR (l : List Ev) : l.foldl best none = latR l := by
  have key : ∀ (n : Nat) (l : List Ev), l.length = n → l.foldl best none = latR l := by
    intro n
    induction n with
    | zero => intro l h; rw [List.eq_nil_of_length_eq_zero h]; rfl
    | succ n ih =>
      intro l h
      obtain ⟨l', e, rfl⟩ : ∃ l' e, l = l' ++ [e] := ⟨l.dropLast, l.getLast (by intro h0; rw [h0] at h; simp at h), (List.dropLast_concat_getLast _).symm⟩
      rw [List.foldl_append]
      exact latR_snoc l' e (ih l' (by simpa using h))
  exact key _ l rfl
/-- What the program tells of a member is what the document says. -/
theorem getS_own (l : List Ev) (s : ByteArray) : getS l s = latR (ownE l s) := by
  unfold getS latS
  rw [eget_fold s l ([], []) rfl]
  exact best_latR _
end Go.Proofs.Ytdmdahnnfancpaa
