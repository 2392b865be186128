import Derived.Test.YthepmpfkkhckpaaGreatDoorAm12
set_option linter.unusedVariables false
set_option linter.unusedSimpArgs false
namespace Go.Proofs.YthepmpfkkhckpaaGreatDoor.Am
open Go Go.RowKit
variable {P : Program} {W0 : Bas} {S0 : Nat → Prop} {E : En}

/-! ### 11. A region whose order is open comes to what it comes to in the text's order -/
def Src (all : List Oper) (st0 : St) (X : Nat → AV) (i : Nat) (st : St) : Prop :=
  ∀ t u, lk t st.slots = some u → (∃ j, j < i ∧ dstOf all j = some t ∧ plain u = plain (X j)) ∨ ((∀ j, j < i → dstOf all j ≠ some t) ∧ ∃ u0, lk t st0.slots = some u0 ∧ plain u = plain u0)
theorem Src.congr {all : List Oper} {st0 st : St} {X X' : Nat → AV} {i : Nat} (h : Src all st0 X i st) (hx : ∀ j, j < i → X' j = X j) : Src all st0 X' i st := by
  intro t u ht
  rcases h t u ht with ⟨j, h1, h2, h3⟩ | h
  · exact .inl ⟨j, h1, h2, by rw [hx j h1]; exact h3⟩
  · exact .inr h
theorem Src.put {all : List Oper} {st0 st : St} {X : Nat → AV} {i : Nat} {d : Option Nat} (h : Src all st0 X i st) (hd : dstOf all i = d) : Src all st0 X (i + 1) (st.put d (X i)) := by
  intro t u ht
  have old : lk t st.slots = some u → (d ≠ some t) → (∃ j, j < i + 1 ∧ dstOf all j = some t ∧ plain u = plain (X j)) ∨ ((∀ j, j < i + 1 → dstOf all j ≠ some t) ∧ ∃ u0, lk t st0.slots = some u0 ∧ plain u = plain u0) := by
    intro ht hne
    rcases h t u ht with ⟨j, h1, h2, h3⟩ | ⟨h1, h2⟩
    · exact .inl ⟨j, by omega, h2, h3⟩
    · refine .inr ⟨fun j hj => ?_, h2⟩
      by_cases e : j = i
      · subst e; rw [hd]; exact hne
      · exact h1 j (by omega)
  cases d with
  | none => exact old ht (by simp)
  | some d =>
    simp only [St.put, lk] at ht
    by_cases e : d = t
    · rw [if_pos e] at ht
      injection ht with ht
      subst ht e
      exact .inl ⟨i, by omega, hd, rfl⟩
    · rw [if_neg e] at ht
      exact old ht (by simpa using e)
theorem Src.relabel {all : List Oper} {st0 st : St} {X : Nat → AV} {i d : Nat} {x y : AV} (h : Src all st0 X i st) (hx : lk d st.slots = some x) (hxy : plain x = plain y) : Src all st0 X i (st.put (some d) y) := by
  intro t u ht
  simp only [St.put, lk] at ht
  by_cases e : d = t
  · rw [if_pos e] at ht
    injection ht with ht
    subst ht e
    rw [← hxy]
    exact h d x hx
  · rw [if_neg e] at ht
    exact h t u ht
def StepOk (P : Program) (E : En) (all : List Oper) (st0 : St) (OB : Nat → Obs) (X : Nat → AV) (i : Nat) (o : Oper) : Prop :=
  okD E.n o.dst = true ∧ (isW E o = false → OB (i + 1) = OB i) ∧ ∃ sti : St, Src all st0 X i sti ∧
    ((o.guard = none ∧ isW E o = false ∧ Good P (ev sti) (OB i) o.op (X i) ∧ (triv o = true → ∀ obs, Good P (ev sti) obs o.op (X i))) ∨
     (o.guard = none ∧ isW E o = true ∧ WGood P (ev sti) (OB i) o.op (OB (i + 1)) (X i) ∧ ∀ k u, lk k (OB (i + 1)) = some u → ∃ u', lk k (OB i) = some u') ∨
     (isW E o = false ∧ ∃ j b d u, o.guard = some (j, b) ∧ dstOf all j = some d ∧ lk d sti.slots = some u ∧
       ((∃ c, plain u = .v (.bool c) ∧ ((c = b ∧ Good P (ev sti) (OB i) o.op (X i) ∧ (triv o = true → ∀ obs, Good P (ev sti) obs o.op (X i))) ∨ (c ≠ b ∧ X i = .tup []))) ∨ (u = .tup [] ∧ X i = .tup []))))
theorem dop_tr (hΓ : TOKs P) {ev : Operand → Option AV} {obs : Obs} {o : Oper} {K : AV → Prop} (h : dop sy (CSem P) ev obs o.op K) : ∃ x, K x ∧ Good P ev obs o.op x ∧ (triv o = true → ∀ obs, Good P ev obs o.op x) := by
  by_cases ht : triv o = true
  · suffices h' : ∃ x, K x ∧ ∀ obs, Good P ev obs o.op x by
      obtain ⟨x, h1, h2⟩ := h'
      exact ⟨x, h1, h2 obs, fun _ => h2⟩
    obtain ⟨dst, op, type, pos, after, guard⟩ := o
    simp only [triv] at ht
    simp only at h ⊢
    split at ht <;> (try (simp at ht; done)) <;> simp only [dop] at h
    · split at h
      · rename_i u hu; exact ⟨u, h, fun obs => good_move hu⟩
      · exact h.elim
    · split at h
      · rename_i u hu; exact ⟨u, h, fun obs => good_assign hu⟩
      · exact h.elim
    · split at h
      · rename_i hc
        split at h
        · rename_i u hu; exact ⟨u, h, fun obs => good_pick (t := true) hc (.inl rfl) hu⟩
        · exact h.elim
      · rename_i hc
        split at h
        · rename_i u hu; exact ⟨u, h, fun obs => good_pick (t := false) hc (.inl rfl) hu⟩
        · exact h.elim
      · rename_i t hc
        split at h
        · rename_i u hu
          split at h
          · rename_i v hv
            cases t with
            | true => exact ⟨u, h.1 rfl, fun obs => good_pick (t := true) hc (.inr rfl) hu⟩
            | false => exact ⟨v, h.2 rfl, fun obs => good_pick (t := false) hc (.inr rfl) hv⟩
          · exact h.elim
        · exact h.elim
      · exact h.elim
    · split at h
      · rename_i p q hp hq
        split at h
        · rename_i r hr; exact ⟨_, h, fun obs => good_binA hp hq hr⟩
        · split at h
          · obtain ⟨r, hc, hk⟩ := h; exact ⟨_, hk, fun obs => (good_eq hp hq hc).1⟩
          · obtain ⟨r, hc, hk⟩ := h; exact ⟨_, hk, fun obs => (good_eq hp hq hc).2⟩
          · obtain ⟨h1, h2, h3⟩ := h; exact ⟨_, h3, fun obs => good_binO hp hq (.inl ⟨.inl rfl, h1, h2⟩)⟩
          · obtain ⟨h1, h2, h3⟩ := h; exact ⟨_, h3, fun obs => good_binO hp hq (.inl ⟨.inr rfl, h1, h2⟩)⟩
          · obtain ⟨h1, h3⟩ := h; exact ⟨_, h3, fun obs => good_binO hp hq (.inr ⟨.inl rfl, h1⟩)⟩
          · obtain ⟨h1, h3⟩ := h; exact ⟨_, h3, fun obs => good_binO hp hq (.inr ⟨.inr rfl, h1⟩)⟩
          · exact ⟨_, h.2, fun obs => good_cat hp hq h.1⟩
          · exact ⟨_, h.2, fun obs => (good_nilp (b := false) hp hq h.1 (.inl ⟨.inl ⟨_, _, rfl⟩, rfl⟩)).1⟩
          · exact ⟨_, h.2, fun obs => (good_nilp (b := false) hp hq h.1 (.inl ⟨.inl ⟨_, _, rfl⟩, rfl⟩)).2⟩
          · exact ⟨_, h.2, fun obs => (good_nilp (b := false) hp hq h.1 (.inl ⟨.inr ⟨_, _, rfl⟩, rfl⟩)).1⟩
          · exact ⟨_, h.2, fun obs => (good_nilp (b := false) hp hq h.1 (.inl ⟨.inr ⟨_, _, rfl⟩, rfl⟩)).2⟩
          · exact ⟨_, h.2, fun obs => (good_nilp (b := true) hp hq h.1 (.inr ⟨rfl, rfl⟩)).1⟩
          · exact ⟨_, h.2, fun obs => (good_nilp (b := true) hp hq h.1 (.inr ⟨rfl, rfl⟩)).2⟩
          · split at h
            · exact ⟨_, h.2, fun obs => (good_nili hp hq ⟨_, rfl⟩ h.1).1⟩
            · exact h.elim
          · split at h
            · exact ⟨_, h.2, fun obs => (good_nili hp hq ⟨_, rfl⟩ h.1).2⟩
            · exact h.elim
          · obtain ⟨r, hr, hk⟩ := h; exact ⟨_, hk, fun obs => (good_bq hp hq (.inr rfl) hr).1⟩
          · obtain ⟨r, hr, hk⟩ := h; exact ⟨_, hk, fun obs => (good_bq hp hq (.inr rfl) hr).2⟩
          · obtain ⟨r, hr, hk⟩ := h; exact ⟨_, hk, fun obs => (good_bq hp hq (.inl rfl) hr).1⟩
          · obtain ⟨r, hr, hk⟩ := h; exact ⟨_, hk, fun obs => (good_bq hp hq (.inl rfl) hr).2⟩
          · exact h.elim
      · exact h.elim
    · split at h <;> (try (exact h.elim)) <;> rename_i e1 <;> (try (injection e1)) <;> split at h
      · rename_i c hp; subst_vars; exact ⟨_, h, fun obs => good_unNot hp (.inl rfl) (.inl rfl)⟩
      · rename_i c hp; subst_vars; exact ⟨_, h, fun obs => good_unNot hp (.inr rfl) (.inr rfl)⟩
      · exact h.elim
      · rename_i k n hp; subst_vars; exact ⟨_, h, fun obs => good_unNeg hp⟩
      · exact h.elim
    · split at h
      · rename_i vs hp
        split at h
        · exact h.elim
        · rename_i u hn hu; exact ⟨_, h, fun obs => good_extract hp hu (fun r e => hn r e)⟩
        · exact h.elim
      · exact h.elim
  · obtain ⟨x, h1, h2⟩ := dop_ok hΓ h
    exact ⟨x, h1, h2, fun e => absurd e ht⟩
theorem adr_tr (hΓ : TOKs P) {all : List Oper} {st0 : St} {K : St → Prop} : ∀ (rest : List Oper) (i : Nat) (st : St) (X : Nat → AV) (OB : Nat → Obs), all.drop i = rest → Src all st0 X i st → st.obs = OB i → st.ctr = st0.ctr → st.par = st0.par → adr sy (CSem P) E all rest K st →
    ∃ (X' : Nat → AV) (OB' : Nat → Obs), (∀ j, j < i → X' j = X j) ∧ (∀ j, j ≤ i → OB' j = OB j) ∧ (∀ j o, i ≤ j → all[j]? = some o → StepOk P E all st0 OB' X' j o) ∧ ∃ stN, K stN ∧ Src all st0 X' all.length stN ∧ stN.obs = OB' (max i all.length) ∧ stN.ctr = st0.ctr ∧ stN.par = st0.par := by
  intro rest
  induction rest with
  | nil =>
    intro i st X OB hdrop hsrc hobs hctr hpar h
    have hle : all.length ≤ i := by simpa using hdrop
    refine ⟨X, OB, fun _ _ => rfl, fun _ _ => rfl, fun j o hj ho => ?_, st, h, ?_, by rw [Nat.max_eq_left hle]; exact hobs, hctr, hpar⟩
    · have := (List.getElem?_eq_some_iff.1 ho).1
      omega
    · intro t u ht
      rcases hsrc t u ht with ⟨j, h1, h2, h3⟩ | ⟨h1, h2⟩
      · refine .inl ⟨j, ?_, h2, h3⟩
        unfold dstOf at h2
        split at h2
        · rename_i o ho; exact (List.getElem?_eq_some_iff.1 ho).1
        · simp at h2
      · exact .inr ⟨fun j hj => h1 j (by omega), h2⟩
  | cons o rest ih =>
    intro i st X OB hdrop hsrc hobs hctr hpar h
    have hi : all[i]? = some o := by
      have := congrArg (·[0]?) hdrop
      simpa using this
    have hlt : i < all.length := (List.getElem?_eq_some_iff.1 hi).1
    have hdrop' : all.drop (i + 1) = rest := by
      have := congrArg (List.drop 1) hdrop
      simpa using this
    have hdst : dstOf all i = o.dst := by unfold dstOf; rw [hi]
    have step : ∀ (sti : St) (x : AV) (obs' : Obs), Src all st0 X i sti → sti.obs = obs' → sti.ctr = st0.ctr → sti.par = st0.par → adr sy (CSem P) E all rest K (sti.put o.dst x) →
        (∀ (X' : Nat → AV) (OB' : Nat → Obs), (∀ j, j < i → X' j = X j) → X' i = x → OB' i = OB i → OB' (i + 1) = obs' → StepOk P E all st0 OB' X' i o) →
        ∃ (X' : Nat → AV) (OB' : Nat → Obs), (∀ j, j < i → X' j = X j) ∧ (∀ j, j ≤ i → OB' j = OB j) ∧ (∀ j o, i ≤ j → all[j]? = some o → StepOk P E all st0 OB' X' j o) ∧ ∃ stN, K stN ∧ Src all st0 X' all.length stN ∧ stN.obs = OB' (max i all.length) ∧ stN.ctr = st0.ctr ∧ stN.par = st0.par := by
      intro sti x obs' hs ho hc hp hk hok
      obtain ⟨X1, hX1⟩ : ∃ X1 : Nat → AV, X1 = fun j => if j = i then x else X j := ⟨_, rfl⟩
      obtain ⟨O1, hO1⟩ : ∃ O1 : Nat → Obs, O1 = fun j => if j = i + 1 then obs' else OB j := ⟨_, rfl⟩
      have e1 : X1 i = x := by rw [hX1]; simp
      have e2 : ∀ j, j < i → X1 j = X j := fun j hj => by rw [hX1]; simp only; rw [if_neg (by omega)]
      have f1 : O1 (i + 1) = obs' := by rw [hO1]; simp
      have f2 : ∀ j, j ≤ i → O1 j = OB j := fun j hj => by rw [hO1]; simp only; rw [if_neg (by omega)]
      have hs1 : Src all st0 X1 (i + 1) (sti.put o.dst x) := by
        have := (hs.congr e2).put hdst
        rwa [e1] at this
      obtain ⟨X', OB', h1, h1', h2, h3⟩ := ih (i + 1) (sti.put o.dst x) X1 O1 hdrop' hs1 (by rw [f1]; cases o.dst <;> exact ho) (by cases o.dst <;> exact hc) (by cases o.dst <;> exact hp) hk
      refine ⟨X', OB', fun j hj => by rw [h1 j (by omega), e2 j hj], fun j hj => by rw [h1' j (by omega), f2 j hj], fun j o' hj ho' => ?_, by rw [show max i all.length = max (i + 1) all.length by omega]; exact h3⟩
      by_cases e : j = i
      · subst e
        rw [hi] at ho'
        injection ho' with ho'
        subst ho'
        exact hok X' OB' (fun j hj => by rw [h1 j (by omega), e2 j hj]) (by rw [h1 j (by omega), e1]) (by rw [h1' j (by omega), f2 j (Nat.le_refl _)]) (by rw [h1' (j + 1) (Nat.le_refl _), f1])
      · exact h2 j o' (by omega) ho'
    simp only [adr] at h
    split at h
    · rename_i hd
      split at h
      · rename_i hw
        split at h
        · rename_i hg
          obtain ⟨obs', x, hk, hgood, hkeys⟩ := wop_ok hΓ h
          exact step { slots := st.slots, obs := obs', ctr := st.ctr, par := st.par } x obs' hsrc rfl hctr hpar hk (fun X' OB' h1 h2 h3 h4 => ⟨hd, fun e => (by rw [hw] at e; simp at e), st, hsrc.congr h1, .inr (.inl ⟨hg, hw, by rw [h2, h3, h4, ← hobs]; exact hgood, by rw [h3, h4, ← hobs]; exact hkeys⟩)⟩)
        · exact h.elim
      rename_i hw
      have hw : isW E o = false := by simpa using hw
      split at h
      · rename_i hg
        obtain ⟨x, hk, hgood, htr⟩ := dop_tr hΓ h
        exact step st x (OB i) hsrc hobs hctr hpar hk (fun X' OB' h1 h2 h3 h4 => ⟨hd, fun _ => by rw [h3, h4], st, hsrc.congr h1, .inl ⟨hg, hw, by rw [h2, h3, ← hobs]; exact hgood, by rw [h2]; exact htr⟩⟩)
      · rename_i j b hg
        split at h
        · exact h.elim
        · rename_i d hdj
          split at h
          · rename_i c hc
            have yes : c = b → dop sy (CSem P) (ev st) st.obs o.op (fun x => adr sy (CSem P) E all rest K (st.put o.dst x)) → ∃ (X' : Nat → AV) (OB' : Nat → Obs), (∀ j, j < i → X' j = X j) ∧ (∀ j, j ≤ i → OB' j = OB j) ∧ (∀ j o, i ≤ j → all[j]? = some o → StepOk P E all st0 OB' X' j o) ∧ ∃ stN, K stN ∧ Src all st0 X' all.length stN ∧ stN.obs = OB' (max i all.length) ∧ stN.ctr = st0.ctr ∧ stN.par = st0.par := by
              intro hcb h
              obtain ⟨x, hk, hgood, htr⟩ := dop_tr hΓ h
              exact step st x (OB i) hsrc hobs hctr hpar hk (fun X' OB' h1 h2 h3 h4 => ⟨hd, fun _ => by rw [h3, h4], st, hsrc.congr h1, .inr (.inr ⟨hw, j, b, d, _, hg, hdj, hc, .inl ⟨c, rfl, .inl ⟨hcb, by rw [h2, h3, ← hobs]; exact hgood, by rw [h2]; exact htr⟩⟩⟩)⟩)
            split at h
            · exact yes rfl h
            · exact yes rfl h
            · rename_i hn1 hn2
              exact step st _ (OB i) hsrc hobs hctr hpar h (fun X' OB' h1 h2 h3 h4 => ⟨hd, fun _ => by rw [h3, h4], st, hsrc.congr h1, .inr (.inr ⟨hw, j, b, d, _, hg, hdj, hc, .inl ⟨c, rfl, .inr ⟨(fun e => by cases c <;> cases b <;> first | exact hn1 rfl rfl | exact hn2 rfl rfl | cases e), h2⟩⟩⟩)⟩)
          · rename_i c hc
            have yes : c = b → dop sy (CSem P) (ev (st.put (some d) (.b b))) st.obs o.op (fun x => adr sy (CSem P) E all rest K ((st.put (some d) (.b b)).put o.dst x)) → ∃ (X' : Nat → AV) (OB' : Nat → Obs), (∀ j, j < i → X' j = X j) ∧ (∀ j, j ≤ i → OB' j = OB j) ∧ (∀ j o, i ≤ j → all[j]? = some o → StepOk P E all st0 OB' X' j o) ∧ ∃ stN, K stN ∧ Src all st0 X' all.length stN ∧ stN.obs = OB' (max i all.length) ∧ stN.ctr = st0.ctr ∧ stN.par = st0.par := by
              intro hcb h
              have hp : plain (.v (.bool c)) = plain (.b b) := by simp [plain, hcb]
              obtain ⟨x, hk, hgood, htr⟩ := dop_tr hΓ h
              exact step (st.put (some d) (.b b)) x (OB i) (hsrc.relabel hc hp) hobs hctr hpar hk (fun X' OB' h1 h2 h3 h4 => ⟨hd, fun _ => by rw [h3, h4], st.put (some d) (.b b), (hsrc.relabel hc hp).congr h1, .inr (.inr ⟨hw, j, b, d, .b b, hg, hdj, by simp [St.put, lk], .inl ⟨b, rfl, .inl ⟨rfl, by rw [h2, h3, ← hobs]; exact hgood, by rw [h2]; exact htr⟩⟩⟩)⟩)
            have no : c ≠ b → adr sy (CSem P) E all rest K ((st.put (some d) (.b c)).put o.dst (.tup [])) → ∃ (X' : Nat → AV) (OB' : Nat → Obs), (∀ j, j < i → X' j = X j) ∧ (∀ j, j ≤ i → OB' j = OB j) ∧ (∀ j o, i ≤ j → all[j]? = some o → StepOk P E all st0 OB' X' j o) ∧ ∃ stN, K stN ∧ Src all st0 X' all.length stN ∧ stN.obs = OB' (max i all.length) ∧ stN.ctr = st0.ctr ∧ stN.par = st0.par := by
              intro hcb h
              exact step (st.put (some d) (.b c)) _ (OB i) (hsrc.relabel hc rfl) hobs hctr hpar h (fun X' OB' h1 h2 h3 h4 => ⟨hd, fun _ => by rw [h3, h4], st, hsrc.congr h1, .inr (.inr ⟨hw, j, b, d, _, hg, hdj, hc, .inl ⟨c, rfl, .inr ⟨hcb, h2⟩⟩⟩)⟩)
            cases b <;> cases c
            · exact yes rfl (h.1 rfl)
            · exact no (by simp) (h.2 rfl)
            · exact no (by simp) (h.2 rfl)
            · exact yes rfl (h.1 rfl)
          · rename_i hc
            exact step st _ (OB i) hsrc hobs hctr hpar h (fun X' OB' h1 h2 h3 h4 => ⟨hd, fun _ => by rw [h3, h4], st, hsrc.congr h1, .inr (.inr ⟨hw, j, b, d, _, hg, hdj, hc, .inr ⟨rfl, h2⟩⟩)⟩)
          · exact h.elim
    · exact h.elim

/-- One operation must stand ahead of the other one: at once, or through others. -/
inductive Ahead (all : List Oper) (i : Nat) : Oper → Prop
  | one {q : Oper} {e : Edge} (h1 : e ∈ q.after) (h2 : e.on = i) (h3 : Region.binds .any e = true) : Ahead all i q
  | more {q k : Oper} {e : Edge} (h1 : e ∈ q.after) (h2 : Region.binds .any e = true) (h3 : all[e.on]? = some k) (h4 : Ahead all i k) : Ahead all i q
theorem Ahead.via {all : List Oper} {L : Nat → Prop} (hcl : ∀ j q, all[j]? = some q → L j → ∀ e ∈ q.after, Region.binds .any e = true → L e.on) {i : Nat} {q : Oper} (h : Ahead all i q) : (∀ e ∈ q.after, Region.binds .any e = true → L e.on) → L i := by
  induction h with
  | one h1 h2 h3 => intro hq; rw [← h2]; exact hq _ h1 h3
  | more h1 h2 h3 _ ih => intro hq; exact ih fun e he hb => hcl _ _ h3 (hq _ h1 h2) e he hb
theorem any_edge {as : Array Edge} {p : Edge → Bool} (h7 : as.any p = true) : ∃ e ∈ as, p e = true := by
  obtain ⟨i, hi, he⟩ := Array.any_eq_true.1 h7
  exact ⟨_, Array.getElem_mem hi, he⟩
theorem aheadN_spec {all : List Oper} {i : Nat} : ∀ (n : Nat) (q : Oper), aheadN all i n q = true → Ahead all i q := by
  intro n
  induction n with
  | zero => intro q h; simp [aheadN] at h
  | succ n ih =>
    intro q h
    obtain ⟨e, he, h1⟩ := any_edge h
    simp only [Bool.and_eq_true, Bool.or_eq_true, beq_iff_eq] at h1
    obtain ⟨h1, h2 | h2⟩ := h1
    · exact .one he h2 h1
    · split at h2
      · rename_i k hk; exact .more he h1 hk (ih k h2)
      · simp at h2
theorem ahead_spec {all : List Oper} {i : Nat} {q : Oper} (h : ahead all i q = true) : Ahead all i q := aheadN_spec _ _ h
theorem benign_spec {all : List Oper} (h : benign E all = true) {i : Nat} {o : Oper} (ho : all[i]? = some o) :
    (∀ j d, dstOf all j = some d → (j = i ∨ o.dst ≠ some d) ∧ (d ∈ looks all o → (j < i ∧ ∃ e ∈ o.after, e.on = j ∧ Region.binds .any e = true) ∨ (i < j ∧ ∃ q, all[j]? = some q ∧ Ahead all i q))) ∧ (∀ e ∈ o.after, Region.binds .any e = true → e.on < i) ∧ (∀ j b, o.guard = some (j, b) → ∃ d, dstOf all j = some d) ∧ (∀ j q, all[j]? = some q → isW E q = true → j ≠ i → triv o = false → (j < i ∧ Ahead all j o) ∨ (i < j ∧ Ahead all i q)) := by
  have hi : i < all.length := (List.getElem?_eq_some_iff.1 ho).1
  have := List.all_eq_true.1 h i (List.mem_range.2 hi)
  rw [ho] at this
  simp only [Bool.and_eq_true] at this
  obtain ⟨⟨⟨h0, h1⟩, h2⟩, h3⟩ := this
  refine ⟨fun j d hd => ?_, fun e he hbd => ?_, fun j b hg => ?_, fun j q hq hw hne ht => ?_⟩
  · have hj : j < all.length := by
      unfold dstOf at hd
      split at hd
      · rename_i o' ho'; exact (List.getElem?_eq_some_iff.1 ho').1
      · simp at hd
    have := List.all_eq_true.1 h1 j (List.mem_range.2 hj)
    simp only [hd, Bool.and_eq_true, Bool.or_eq_true] at this
    obtain ⟨h4, h5⟩ := this
    refine ⟨?_, fun hl => ?_⟩
    · rcases h4 with h4 | h4
      · exact .inl (by simpa using h4)
      · exact .inr (by simpa using h4)
    · rcases h5 with (h5 | h5) | h5
      · simp only [Bool.not_eq_true', List.contains_eq_mem, decide_eq_false_iff_not] at h5
        exact absurd hl h5
      · obtain ⟨h6, h7⟩ := h5
        refine .inl ⟨by simpa using h6, ?_⟩
        obtain ⟨i, hi, he⟩ := Array.any_eq_true.1 h7
        simp only [Bool.and_eq_true, beq_iff_eq] at he
        exact ⟨_, Array.getElem_mem hi, he.1, he.2⟩
      · obtain ⟨h6, h7⟩ := h5
        refine .inr ⟨by simpa using h6, ?_⟩
        split at h7
        · rename_i q hq; exact ⟨q, hq, ahead_spec h7⟩
        · simp at h7
  · have := Array.all_eq_true_iff_forall_mem.1 h2 e he
    rw [hbd] at this
    simpa using this
  · rw [hg] at h3
    simpa [Option.isSome_iff_exists] using h3
  · have hj : j < all.length := (List.getElem?_eq_some_iff.1 hq).1
    have h4 := List.all_eq_true.1 h0 j (List.mem_range.2 hj)
    simp only [hq, hw, if_true, Bool.or_eq_true, ht] at h4
    rcases h4 with (h4 | h4) | h4
    · exact absurd (by simpa using h4) hne
    · simp at h4
    · split at h4
      · rename_i hlt; exact .inl ⟨hlt, ahead_spec h4⟩
      · exact .inr ⟨by omega, ahead_spec h4⟩

end Go.Proofs.YthepmpfkkhckpaaGreatDoor.Am
