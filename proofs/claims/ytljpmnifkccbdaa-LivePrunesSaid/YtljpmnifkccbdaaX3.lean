import Derived.Test.YtljpmnifkccbdaaX2
set_option linter.unusedVariables false
set_option linter.unusedSimpArgs false
namespace Go.Proofs.Ytljpmnifkccbdaa.Am
open Go Go.RowKit
variable {P : Program} {W0 : Bas} {S0 : Nat → Prop} {E : En}

theorem adx_tr (hΓ : TOKs P) {all : List Oper} {st0 : St} {K0 : Nat} {K : St → Prop} (hdis : ∀ i j t, dstOf all i = some t → dstOf all j = some t → i = j) : ∀ (rest : List Oper) (i : Nat) (used : List Nat) (st : St) (X : Nat → AV) (KD : Nat → Kd), all.drop i = rest → i ≤ all.length → SrcX all st0 X i st → ObX st0 K0 KD i used st.obs → st.par = st0.par → adx sy (CSem P) E all K0 rest i used K st →
    ∃ (X' : Nat → AV) (KD' : Nat → Kd), (∀ j, j < i → X' j = X j ∧ KD' j = KD j) ∧ (∀ j o, i ≤ j → all[j]? = some o → StepX' P E all st0 K0 X' KD' j o) ∧ ∃ used' stN, K { slots := stN.slots, obs := stN.obs, ctr := K0 + all.length, par := stN.par } ∧ SrcX all st0 X' all.length stN ∧ ObX st0 K0 KD' all.length used' stN.obs ∧ stN.par = st0.par := by
  intro rest
  induction rest with
  | nil =>
    intro i used st X KD hdrop hi hsrc hob hpar h
    have hle : all.length ≤ i := by simpa using hdrop
    have e : i = all.length := by omega
    subst e
    exact ⟨X, KD, fun _ _ => ⟨rfl, rfl⟩, fun j o hj ho => by have := (List.getElem?_eq_some_iff.1 ho).1; omega, used, st, h, hsrc, hob, hpar⟩
  | cons o rest ih =>
    intro i used st X KD hdrop hi hsrc hob hpar h
    have ho : all[i]? = some o := by
      have := congrArg (·[0]?) hdrop
      simpa using this
    have hlt : i < all.length := (List.getElem?_eq_some_iff.1 ho).1
    have hdrop' : all.drop (i + 1) = rest := by
      have := congrArg (List.drop 1) hdrop
      simpa using this
    have hdst : dstOf all i = o.dst := by unfold dstOf; rw [ho]
    simp only [adx] at h
    split at h
    rotate_left
    · exact h.elim
    rename_i hd
    split at h
    · exact h.elim
    rename_i hg
    have step : ∀ (x : AV) (kd : Kd) (used2 : List Nat) (obs2 : Obs), ObX st0 K0 (upd KD i kd) (i + 1) used2 obs2 → adx sy (CSem P) E all K0 rest (i + 1) used2 K (St.put { slots := st.slots, obs := obs2, ctr := st.ctr, par := st.par } o.dst x) → StepX P E all st0 K0 (upd X i x) (upd KD i kd) i o st →
        ∃ (X' : Nat → AV) (KD' : Nat → Kd), (∀ j, j < i → X' j = X j ∧ KD' j = KD j) ∧ (∀ j o, i ≤ j → all[j]? = some o → StepX' P E all st0 K0 X' KD' j o) ∧ ∃ used' stN, K { slots := stN.slots, obs := stN.obs, ctr := K0 + all.length, par := stN.par } ∧ SrcX all st0 X' all.length stN ∧ ObX st0 K0 KD' all.length used' stN.obs ∧ stN.par = st0.par := by
      intro x kd used2 obs2 hob2 hk hst
      have hs1 : SrcX all st0 (upd X i x) i st := hsrc.congr fun j hj => upd_ne _ _ _ (by omega)
      have hs2 := hs1.put (d := o.dst) hdst (fun j t hj ht e => by
        have := hdis i j t (by rw [hdst]; exact e) ht
        omega) obs2 st.ctr st.par
      rw [upd_same] at hs2
      have eo : (St.put { slots := st.slots, obs := obs2, ctr := st.ctr, par := st.par } o.dst x).obs = obs2 := by cases o.dst <;> rfl
      have ep : (St.put { slots := st.slots, obs := obs2, ctr := st.ctr, par := st.par } o.dst x).par = st.par := by cases o.dst <;> rfl
      obtain ⟨X', KD', g1, g2, g3⟩ := ih (i + 1) used2 _ (upd X i x) (upd KD i kd) hdrop' hlt hs2 (by rw [eo]; exact hob2) (by rw [ep]; exact hpar) hk
      refine ⟨X', KD', fun j hj => ?_, fun j o' hj ho' => ?_, g3⟩
      · obtain ⟨a1, a2⟩ := g1 j (by omega)
        exact ⟨a1.trans (upd_ne _ _ _ (by omega)), a2.trans (upd_ne _ _ _ (by omega))⟩
      · by_cases e : j = i
        · subst e
          rw [ho] at ho'
          injection ho' with ho'
          subst ho'
          exact ⟨hd, hg, st, hs1.congr fun k hk => (g1 k (by omega)).1, hst.congr (g1 j (Nat.lt_succ_self j)).1 fun k hk => (g1 k (by omega)).2⟩
        · exact g2 j o' (by omega) ho'
    have useOf : ∀ k ob, lk k st.obs = some ob → K0 ≤ k → memN k used = false → ∃ m, k = K0 + m ∧ m < i ∧ obOf (KD m) = some ob ∧ ∀ j, j < i → usr (KD j) ≠ some m := by
      intro k ob hk h1 h2
      obtain ⟨m, rfl⟩ : ∃ m, k = K0 + m := ⟨k - K0, by omega⟩
      have hmi : m < i := by
        rcases hob.2.2.2.1 _ _ hk with h | ⟨m', hm', he, _⟩ <;> omega
      refine ⟨m, rfl, hmi, by rw [← hob.2.1 m hmi h2]; exact hk, fun j hj hu => ?_⟩
      have := (hob.2.2.1 m).2 ⟨j, hj, hu⟩
      rw [h2] at this
      cases this
    split at h
    · rename_i hmain
      split at h
      · -- alloc
        rename_i t hop
        split at h
        · rename_i hkp
          split at h
          · rename_i ti ht
            exact step _ (.mk (.box t ti.zero false)) used _ (hob.mk _) h (.alloc t ti hop hkp ht (upd_same _ _ _) (upd_same _ _ _))
          · exact h.elim
        · exact h.elim
      · -- a literal
        rename_i t n ps hop
        split at h
        · rename_i hkp
          split at h
          · rename_i ti ht
            split at h
            · rename_i e esz bytes hkd
              split at h
              · rename_i hn
                subst hn
                have hps : ps.toList = [] := by
                  unfold mainB at hmain
                  rw [hop] at hmain
                  simpa using hmain
                exact step _ (.mk (.row e esz [] 0 0)) used _ (hob.mk _) h (.lit t ps ti e esz bytes hop hps hkp ht hkd (upd_same _ _ _) (upd_same _ _ _))
              · exact h.elim
            · exact h.elim
          · exact h.elim
        · exact h.elim
      · -- append
        rename_i args ats hop
        have hkp : isK E.keep o.dst = true := by
          unfold mainB at hmain
          rw [hop] at hmain
          exact hmain
        split at h
        · rename_i s x t t' ha hat
          split at h
          · rename_i htt
            subst htt
            split at h
            · rename_i ti k src ht hs hy
              split at h
              · rename_i e esz bytes e' sz' rows mv hkd hlk
                split at h
                · rename_i e1
                  split at h
                  · rename_i e2
                    split at h
                    · rename_i e3
                      split at h
                      · rename_i e4
                        split at h
                        · rename_i e5
                          obtain ⟨hl, hb, h⟩ := h
                          subst e1 e2
                          obtain ⟨m, rfl, hmi, hom, hu⟩ := useOf k _ hlk (by simpa using e3) e4
                          rw [show K0 + m - K0 = m by omega] at e5
                          exact step _ (.app m (.row e' sz' (rows ++ src) 0 0)) _ _ (hob.app hmi _) h (.app s x args ats t ti e' sz' bytes m mv rows src hop ha hat hkp ht hkd hs hy hmi (by rw [upd_ne _ _ _ (by omega)]; exact hom) (fun j hj => by rw [upd_ne _ _ _ (by omega)]; exact hu j hj) (ahead_spec e5) hl hb (upd_same _ _ _) (upd_same _ _ _))
                        · exact h.elim
                      · exact h.elim
                    · exact h.elim
                  · exact h.elim
                · exact h.elim
              · exact h.elim
            · exact h.elim
          · exact h.elim
        · exact h.elim
      · -- store
        rename_i t x v hop
        split at h
        · exact h.elim
        rename_i hdn
        split at h
        · rename_i ti k u ht hx hv
          split at h
          · rename_i ty cs ds hlk hc
            split at h
            · rename_i hl
              split at h
              · rename_i e3
                split at h
                · rename_i e4
                  split at h
                  · rename_i e5
                    split at h
                    · rename_i cs' hs
                      obtain ⟨m, rfl, hmi, hom, hu⟩ := useOf k _ hlk (by simpa using e3) e4
                      rw [show K0 + m - K0 = m by omega] at e5
                      exact step (.tup []) (.sto m (.box ty cs' false)) _ _ (hob.sto hmi _) (by rw [hdn]; exact h) (.sto t x v ti ty m cs cs' ds u hop hdn ht hx hv hc hl hs hmi (by rw [upd_ne _ _ _ (by omega)]; exact hom) (fun j hj => by rw [upd_ne _ _ _ (by omega)]; exact hu j hj) (ahead_spec e5) (upd_same _ _ _) (upd_same _ _ _))
                    · exact h.elim
                  · exact h.elim
                · exact h.elim
              · exact h.elim
            · exact h.elim
          · exact h.elim
        · exact h.elim
      · exact h.elim
    · split at h
      · rename_i x hm
        split at h
        · rename_i u hu
          exact step u .plain used st.obs hob.plain h (.move (upd_same _ _ _) x hm (by rw [upd_same]; exact hu))
        · exact h.elim
      · rename_i hm
        obtain ⟨x, hk, hgood⟩ := dop_ok hΓ h
        split at hk
        · rename_i hx
          exact step x .plain used st.obs hob.plain hk (.free (upd_same _ _ _) (by rw [upd_same]; exact hx) (fun obs => by rw [upd_same]; exact good_free hgood hx obs))
        · exact hk.elim
end Go.Proofs.Ytljpmnifkccbdaa.Am
