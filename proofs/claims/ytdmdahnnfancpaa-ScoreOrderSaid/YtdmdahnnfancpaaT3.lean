import Derived.Test.YtdmdahnnfancpaaT0
import Derived.Test.YtdmdahnnfancpaaT1
set_option linter.unusedSimpArgs false
set_option linter.unusedVariables false
namespace Go.Proofs.Ytdmdahnnfancpaa
open Go Go.RowKit Am

/-! ### The reference's All: its plain law -/
theorem slsF {F : Sy} (hF : F = sy) (a b : ByteArray) : F .scmp .lss a b = decide (L a < L b) := by
  rw [hF]
  show Op.bytesLess a.toList b.toList = _
  rw [bytesLess_eq, ByteArray.toList_eq, ByteArray.toList_eq]
def numS (l : List Ev) (s : ByteArray) : Int := match getS l s with | some e => e.op.num | none => 0
def prE (l : List Ev) (e : Ev) : Pr := ⟨e.op.fld, numS l e.op.fld⟩
def strictP (l : List Pr) : Prop := l.Pairwise fun x y => ltP x y = true
theorem eq_of_strict : ∀ {l m : List Pr}, strictP l → strictP m → (∀ x, x ∈ l ↔ x ∈ m) → l = m := by
  intro l
  induction l with
  | nil =>
    intro m _ _ h
    cases m with
    | nil => rfl
    | cons b m => exact absurd ((h b).2 List.mem_cons_self) (by simp)
  | cons a l ih =>
    intro m hl hm h
    cases m with
    | nil => exact absurd ((h a).1 List.mem_cons_self) (by simp)
    | cons b m =>
      unfold strictP at hl hm
      rw [List.pairwise_cons] at hl hm
      have hab : a = b := by
        have h1 := (h a).1 List.mem_cons_self
        have h2 := (h b).2 List.mem_cons_self
        rcases List.mem_cons.1 h1 with e | h1
        · exact e
        · rcases List.mem_cons.1 h2 with e | h2
          · exact e.symm
          · have := ltP_trans (hl.1 b h2) (hm.1 a h1); rw [ltP_irr] at this; cases this
      subst hab
      congr 1
      refine ih hl.2 hm.2 fun x => ?_
      have hx := h x
      simp only [List.mem_cons] at hx
      constructor
      · intro hxl
        rcases hx.1 (.inr hxl) with e | e
        · subst e; have := hl.1 _ hxl; rw [ltP_irr] at this; cases this
        · exact e
      · intro hxm
        rcases hx.2 (.inr hxm) with e | e
        · subst e; have := hm.1 _ hxm; rw [ltP_irr] at this; cases this
        · exact e
theorem latR_some (l : List Ev) (h : l ≠ []) : ∃ e, latR l = some e := by
  rw [← best_latR]
  cases l with
  | nil => exact absurd rfl h
  | cons a t =>
    have key : ∀ (t : List Ev) (o : Ev), ∃ e, t.foldl best (some o) = some e := by
      intro t
      induction t with
      | nil => intro o; exact ⟨o, rfl⟩
      | cons b t ih =>
        intro o
        simp only [List.foldl_cons, best]
        split
        · exact ih b
        · exact ih o
    exact key t a
theorem getS_some (l : List Ev) (s : ByteArray) : (getS l s).isSome = true ↔ ∃ e ∈ l, e.op.kind = 7 ∧ e.op.fld = s := by
  rw [getS_own]
  have hm : ∀ e, e ∈ ownE l s ↔ e ∈ l ∧ e.op.kind = 7 ∧ e.op.fld = s := fun e => by unfold ownE; simp [List.mem_filter]
  constructor
  · intro h
    cases ho : ownE l s with
    | nil => rw [ho] at h; cases h
    | cons a t =>
      have := (hm a).1 (by rw [ho]; exact List.mem_cons_self)
      exact ⟨a, this.1, this.2⟩
  · rintro ⟨e, he, hk⟩
    have : ownE l s ≠ [] := fun h0 => by have := (hm e).2 ⟨he, hk⟩; rw [h0] at this; cases this
    obtain ⟨x, hx⟩ := latR_some _ this
    rw [hx]; rfl
theorem prs_mem : ∀ (ks : List ByteArray) (es : List Ev), ks.length = es.length → ks.Nodup → ∀ x, x ∈ prs ks es ↔ ∃ e, eget ks es x.m = some e ∧ x.n = e.op.num
  | [], [], _, _, x => by simp [prs, eget]
  | [], _ :: _, h, _, x => by simp at h
  | _ :: _, [], h, _, x => by simp at h
  | k :: ks, e :: es, h, hn, x => by
    rw [List.nodup_cons] at hn
    have ih := prs_mem ks es (by simpa using h) hn.2 x
    simp only [prs, List.mem_cons]
    unfold eget
    by_cases hk : k = x.m
    · rw [if_pos hk]
      constructor
      · rintro (h | h)
        · exact ⟨e, rfl, by rw [h]⟩
        · exact absurd hk.symm (prs_out k ks es hn.1 x h)
      · rintro ⟨e', h1, h2⟩
        injection h1 with h1
        left
        cases x
        simp only at hk h2
        rw [hk, h2, h1]
    · rw [if_neg hk, ← ih]
      constructor
      · rintro (h | h)
        · rw [h] at hk; exact absurd rfl hk
        · exact h
      · exact .inr
theorem prs_nd : ∀ (ks : List ByteArray) (es : List Ev), ks.Nodup → (prs ks es).Nodup
  | [], _, _ => by simp [prs]
  | _ :: _, [], _ => by simp [prs]
  | k :: ks, e :: es, hn => by
    rw [List.nodup_cons] at hn
    simp only [prs, List.nodup_cons]
    exact ⟨fun h => prs_out k ks es hn.1 _ h rfl, prs_nd ks es hn.2⟩
theorem allS_strict (l : List Ev) : strictP (allS l) := by
  have hn : (allS l).Nodup := (srtP_perm _).nodup_iff.2 (prs_nd _ _ (latS_nd l))
  have hs := srtP_sorted (prs (latS l).1 (latS l).2)
  have := List.pairwise_and_iff.2 ⟨hs, hn⟩
  refine List.Pairwise.imp ?_ this
  rintro x y ⟨h1, h2⟩
  cases h : ltP x y with
  | true => rfl
  | false => exact absurd (ltP_tri h h1) h2
theorem allS_mem (l : List Ev) (x : Pr) : x ∈ allS l ↔ ∃ e ∈ l, e.op.kind = 7 ∧ x = prE l e := by
  have h1 : x ∈ allS l ↔ x ∈ prs (latS l).1 (latS l).2 := (srtP_perm _).mem_iff
  rw [h1, prs_mem _ _ (latS_len l) (latS_nd l)]
  constructor
  · rintro ⟨e, he, hn⟩
    have he : getS l x.m = some e := he
    obtain ⟨e', h2, h3, h4⟩ := (getS_some l x.m).1 (by rw [he]; rfl)
    refine ⟨e', h2, h3, ?_⟩
    unfold prE numS
    rw [h4, he]
    cases x
    simp only at hn ⊢
    rw [hn]
  · rintro ⟨e, he, hk, hx⟩
    have hxm : x.m = e.op.fld := by rw [hx]; rfl
    have hs := (getS_some l e.op.fld).2 ⟨e, he, hk, rfl⟩
    cases hg : getS l e.op.fld with
    | none => rw [hg] at hs; cases hs
    | some e' =>
      refine ⟨e', by rw [hxm]; exact hg, ?_⟩
      rw [hx]
      unfold prE numS
      rw [hg]
/-- A pair put in at its place. -/
theorem ins_ok {out : List Pr} {p : Pr} {a : Nat} (hs : strictP out) (ha : a ≤ out.length) (h1 : ∀ k x, k < a → out[k]? = some x → ltP x p = true) (h2 : ∀ k x, a ≤ k → out[k]? = some x → ltP x p = false) (hp : p ∉ out) :
    strictP ((out.take a ++ [p]) ++ out.drop a) ∧ ∀ x, x ∈ (out.take a ++ [p]) ++ out.drop a ↔ x ∈ out ∨ x = p := by
  have hl : ∀ x ∈ out.take a, ltP x p = true := fun x hx => by
    obtain ⟨k, hk, he⟩ := List.getElem_of_mem hx
    rw [List.length_take] at hk
    refine h1 k x (by omega) ?_
    rw [List.getElem_take] at he
    rw [← he, List.getElem?_eq_getElem]
  have hr : ∀ x ∈ out.drop a, ltP p x = true := fun x hx => by
    obtain ⟨k, hk, he⟩ := List.getElem_of_mem hx
    rw [List.length_drop] at hk
    rw [List.getElem_drop] at he
    have h3 := h2 (a + k) x (by omega) (by rw [← he, List.getElem?_eq_getElem])
    cases h : ltP p x with
    | true => rfl
    | false => exact absurd (ltP_tri h h3 ▸ (List.mem_of_mem_drop hx)) hp
  constructor
  · unfold strictP at hs ⊢
    rw [List.pairwise_append, List.pairwise_append]
    refine ⟨⟨hs.sublist (List.take_sublist _ _), by simp, fun x hx y hy => ?_⟩, hs.sublist (List.drop_sublist _ _), fun x hx y hy => ?_⟩
    · rw [List.mem_singleton] at hy; subst hy; exact hl x hx
    · rcases List.mem_append.1 hx with hx | hx
      · exact ltP_trans (hl x hx) (hr y hy)
      · rw [List.mem_singleton] at hx; subst hx; exact hr y hy
  · intro x
    have : x ∈ out ↔ x ∈ out.take a ∨ x ∈ out.drop a := by rw [← List.mem_append, List.take_append_drop]
    rw [this]
    simp only [List.mem_append, List.mem_singleton]
    constructor
    · rintro ((h | h) | h)
      · exact .inl (.inl h)
      · exact .inr h
      · exact .inl (.inr h)
    · rintro ((h | h) | h)
      · exact .inl (.inl h)
      · exact .inr h
      · exact .inl (.inr h)
end Go.Proofs.Ytdmdahnnfancpaa
