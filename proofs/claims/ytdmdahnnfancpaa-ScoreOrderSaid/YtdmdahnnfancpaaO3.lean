import Derived.Test.YtdmdahnnfancpaaO2
set_option linter.unusedSimpArgs false
set_option linter.unusedVariables false
namespace Go.Proofs.Ytdmdahnnfancpaa
open Go Go.RowKit Am

/-! ### ScoreApart -/
theorem mputK_mem (x : ByteArray) : ∀ (ks : List ByteArray) (s : ByteArray), x ∈ mputK ks s ↔ x ∈ ks ∨ x = s
  | [], s => by simp [mputK]
  | k :: ks, s => by
    unfold mputK
    split
    · rename_i h; subst h; simp only [List.mem_cons]; exact ⟨fun h => .inl h, fun h => h.elim id .inl⟩
    · simp [mputK_mem x ks s, or_assoc]
theorem mputK_nd : ∀ (ks : List ByteArray) (s : ByteArray), ks.Nodup → (mputK ks s).Nodup
  | [], s, _ => by simp [mputK]
  | k :: ks, s, h => by
    unfold mputK
    split
    · exact h
    · rename_i hne
      rw [List.nodup_cons] at h ⊢
      exact ⟨fun hm => (mputK_mem k ks s).1 hm |>.elim h.1 hne, mputK_nd ks s h.2⟩
theorem latS_nd (l : List Ev) : (latS l).1.Nodup := by
  have key : ∀ (l : List Ev) (m : LM), m.1.Nodup → (l.foldl latF m).1.Nodup := by
    intro l
    induction l with
    | nil => intro m h; exact h
    | cons e l ih =>
      intro m h
      rw [List.foldl_cons]
      refine ih _ ?_
      unfold latF
      split
      · split
        · exact mputK_nd _ _ h
        · split
          · exact mputK_nd _ _ h
          · exact h
      · exact h
  exact key l ([], []) List.nodup_nil
theorem prs_out (s : ByteArray) : ∀ (ks : List ByteArray) (es : List Ev), s ∉ ks → ∀ p ∈ prs ks es, p.m ≠ s
  | [], _, _, p, hp => by simp [prs] at hp
  | _ :: _, [], _, p, hp => by simp [prs] at hp
  | k :: ks, e :: es, h, p, hp => by
    simp only [prs, List.mem_cons] at hp
    rcases hp with rfl | hp
    · exact fun e => h (e ▸ List.mem_cons_self)
    · exact prs_out s ks es (fun hm => h (List.mem_cons_of_mem _ hm)) p hp
theorem prs_in (s : ByteArray) : ∀ (ks : List ByteArray) (es : List Ev), ks.length = es.length → ks.Nodup →
    ((prs ks es).countP (fun p => decide (p.m = s)) = if (eget ks es s).isSome = true then 1 else 0) ∧ ∀ p ∈ prs ks es, p.m = s → ∃ e, eget ks es s = some e ∧ p.n = e.op.num
  | [], [], _, _ => ⟨rfl, fun p hp => by simp [prs] at hp⟩
  | [], _ :: _, h, _ => by simp at h
  | _ :: _, [], h, _ => by simp at h
  | k :: ks, e :: es, h, hn => by
    rw [List.nodup_cons] at hn
    obtain ⟨h1, h2⟩ := prs_in s ks es (by simpa using h) hn.2
    unfold eget
    by_cases hk : k = s
    · subst hk
      have h0 := prs_out k ks es hn.1
      rw [if_pos rfl]
      refine ⟨?_, fun p hp hpm => ?_⟩
      · simp only [prs, List.countP_cons, decide_true, if_true, Option.isSome_some]
        rw [List.countP_eq_zero.2 (fun p hp => by simpa using h0 p hp)]
      · simp only [prs, List.mem_cons] at hp
        rcases hp with rfl | hp
        · exact ⟨e, rfl, rfl⟩
        · exact absurd hpm (h0 p hp)
    · rw [if_neg hk]
      refine ⟨?_, fun p hp hpm => ?_⟩
      · simp only [prs, List.countP_cons]
        rw [h1, decide_eq_false hk]
        simp
      · simp only [prs, List.mem_cons] at hp
        rcases hp with rfl | hp
        · exact absurd hpm hk
        · exact h2 p hp hpm
theorem all_in (l : List Ev) (s : ByteArray) : ((allS l).countP (fun p => decide (p.m = s)) = if (getS l s).isSome = true then 1 else 0) ∧ ∀ p ∈ allS l, p.m = s → ∃ e, getS l s = some e ∧ p.n = e.op.num := by
  obtain ⟨h1, h2⟩ := prs_in s _ _ (latS_len l) (latS_nd l)
  have hp : (allS l).Perm (prs (latS l).1 (latS l).2) := srtP_perm _
  exact ⟨by rw [hp.countP_eq]; exact h1, fun p hm => h2 p (hp.mem_iff.1 hm)⟩
def ownF (l : List Ev) (s : ByteArray) : List Ev := l.filter fun e => decide (e.op.fld = s)
theorem own_ownF (l : List Ev) (s : ByteArray) : ownE (ownF l s) s = ownE l s := by
  unfold ownE ownF
  rw [List.filter_filter]
  apply List.filter_congr
  intro e _
  simp only [Bool.and_assoc, Bool.and_self]
theorem getS_ownF (l : List Ev) (s : ByteArray) : getS (ownF l s) s = getS l s := by rw [getS_own, getS_own, own_ownF]
theorem evR_snoc (l : List Ev) (e : Ev) : evR (l ++ [e]) = evR l ++ [e.ac] := by simp [evR]
theorem allS_le (l : List Ev) : (allS l).length ≤ l.length := by
  have h1 : (allS l).length = (prs (latS l).1 (latS l).2).length := List.length_mergeSort _
  rw [h1, prs_len _ _ (latS_len l)]
  exact latS_le l
end Go.Proofs.Ytdmdahnnfancpaa
