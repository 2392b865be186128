import Derived.Test.YtljpmnifkccbdaaAm10
set_option linter.unusedVariables false
set_option linter.unusedSimpArgs false
namespace Go.Proofs.Ytljpmnifkccbdaa.Am
open Go Go.RowKit
variable {P : Program} {W0 : Bas} {S0 : Nat → Prop} {E : En}

theorem srep0_of_rep {w : World} {S : Nat → Prop} {β : Nat → Value} {obs : Obs} {x : AV} {y : Value} (h : Rep w S x y) : SRep0 w S β obs x y := by
  have h1 := srep_of_rep (β := β) (obs := obs) h
  cases x <;> first | exact h1 | skip
  cases h with
  | c h => cases h
/-- A call whose slice is kept. -/
theorem aop_call {S : Nat → Prop} {β : Nat → Value} {st : St} {a : Act} {w : World} {o : Oper} {K : St → Prop} {Kr : Act → World → Prop} {Q : Exit → Act → World → Prop} {f : Operand} {args : Array Operand} {ats : Array TypeId} {g e sz : Nat} {caps as rest : List AV} {rows : List (List AV)}
    (h : RelS W0 S0 E.n S β st a w) (hd : okD E.n o.dst = true) (hop : o.op = .call { callee := .value f, args := args, argTypes := ats }) (hf : ev st f = some (.clo g caps)) (ha : evs (ev st) args.toList = some as) (hk : ∀ c ∈ as, okArg c = true) (hfr : frS st.ctr st.slots = true)
    (hc : CSem P (.fn g) (as.map plain ++ caps) (.own e sz rows rest)) (hK' : K (St.put { slots := st.slots, obs := (st.ctr, .row e sz rows 0 0) :: st.obs, ctr := st.ctr + 1, par := st.par } o.dst (tupOf (.own st.ctr 0 :: rest)))) (hK : ∀ st' a' w', K st' → Rel W0 S0 E.n st' a' w' → Kr a' w') : o.wp P a w Kr Q := by
  obtain ⟨he, hc⟩ := hc
  obtain ⟨xs, hfv, hcaps⟩ := srep_clo (ev_ok h hf)
  have hreps := (evs_reps (a := a) args.toList as ha (fun o _ u hu => ev_ok h hu) (fun c hc => by have := hk c hc; cases c <;> simp_all [okArg])).append hcaps
  refine wp_enter (run_call hop hfv he) ((hc w S _ h.gr.lt hreps).mono ?_)
  rintro e' w' ⟨y, S', rfl, hg, z, ys, zs, hy, hown, hr, hl, hSz, hrest, _⟩
  refine ⟨y, rfl, hK _ _ _ hK' ?_⟩
  have hsame := hg.same h.gr.lt
  have hzb : ∀ g, blkOf z = some g → w.heap.size ≤ g ∧ ¬ S' g := fun g hgz => ⟨(hown.lt g (ownBlock_blk hown hgz)).1, hSz g (ownBlock_blk hown hgz)⟩
  refine rel_new (nv := z) (S' := S') (obs1 := st.obs) h hfr (fun _ _ h => h) (h.gr.step hg) hsame hg.sub (fun j u hj g' hg' => ?_) hd ⟨zs, ?_, hr, hl, hSz⟩ (fun j u hj g' hg1 hg2 => ?_) ?_
  · obtain ⟨h1, h2, h3⟩ := orep_blk (h.objs j u hj) hg'
    exact ⟨hg.below.block g' h2, fun hs => by rcases hg.new g' hs with h4 | h4; exact h3 h4; omega⟩
  · refine ⟨hown.1, ?_⟩
    rcases hown.2 with h1 | ⟨g', cap, cur, h1, hB, r⟩
    · exact .inl h1
    · exact .inr ⟨g', cap, cur, h1, Nat.le_trans h.gr.size hB, r⟩
  · have := (orep_blk (h.objs j u hj) hg1).2.1
    have := (hzb g' hg2).1
    omega
  · subst hy
    have hz0 : SRep0 w' S' (fun j => if j = st.ctr then z else β j) ((st.ctr, .row e sz rows 0 0) :: st.obs) (.own st.ctr 0) z := by
      intro e' sz' rows' m' hl'
      simp
    cases rest with
    | nil =>
      rw [hrest.unnil]
      exact hz0
    | cons r rs =>
      obtain ⟨y1, ys1, rfl, h1, h2⟩ := hrest.uncons
      refine ⟨z :: y1 :: ys1, rfl, by simp [h2.1], fun i u x hu hx => ?_⟩
      cases i with
      | zero => simp at hu hx; subst hu hx; exact hz0
      | succ i => exact srep0_of_rep (hrest.2 i u x (by simpa using hu) (by simpa using hx))

theorem aop_ok (hΓ : TOKs P) {o : Oper} {st : St} {K : St → Prop} (h : aop sy (CSem P) E o st K) {a : Act} {w : World} (hr : Rel W0 S0 E.n st a w) {Kr : Act → World → Prop} {Q : Exit → Act → World → Prop} (hK : ∀ st' a' w', K st' → Rel W0 S0 E.n st' a' w' → Kr a' w') : o.wp P a w Kr Q := by
  obtain ⟨S, β, hr⟩ := hr
  unfold aop at h
  split at h
  · rename_i hd
    split at h
    · -- alloc
      rename_i t hop
      split at h
      · rename_i ti hti
        split at h
        · rename_i hfr; exact aop_alloc hr hd hop (hΓ _ _ hti) hfr h hK
        · exact h.elim
      · exact h.elim
    · -- store
      rename_i t x v hop
      split at h
      · rename_i hdst
        obtain ⟨S', hr'⟩ := rel_frzArgs [v] hr
        obtain ⟨obs', u, h, hw, hkeys⟩ := wop_ok hΓ h
        refine rel_write (K := fun st' => match ev (frzArgs st [v]) x with
          | some (.ptr k _) => (match lk k obs' with
            | some (.box _ _ true) => K (St.freeze k st')
            | _ => K st')
          | _ => K st') hr' hd (by rw [hop]; exact hw) hkeys (by rw [hdst]; exact h) (fun st' a' w' h' hrel => ?_)
        split at h'
        · split at h'
          · obtain ⟨S2, β2, h2⟩ := hrel
            obtain ⟨S3, h3⟩ := rel_freeze _ h2
            exact hK _ _ _ h' ⟨S3, _, h3⟩
          · exact hK _ _ _ h' hrel
        · exact hK _ _ _ h' hrel
      · exact h.elim
    · -- append
      rename_i args ats hop
      split at h
      · rename_i s x t t' hs ht'
        split at h
        · rename_i hte
          subst hte
          have hargs : args = #[s, x] := by rw [← Array.toList_inj]; simpa using hs
          have hats : ats = #[t, t] := by rw [← Array.toList_inj]; simpa using ht'
          subst hargs hats
          split at h
          · rename_i ti d y hti hd' hy
            split at h
            · rename_i e esz bytes src hk hsrc
              split at h
              · -- nil
                have hv : a.eval s = .slice none 0 0 := srep_v (ev_ok hr hd')
                exact aop_append (obs1 := st.obs) (rows := []) (xs := []) hΓ hr hd hop (hΓ _ _ hti) hk (fun _ _ h => h) hv (World.ownsRow_nil _ _ _ _) (RepL.nil _ _) (fun r h => by simp at h) (fun g hg => by simp [Value.ownBlock] at hg) (fun j u _ g _ hg => by simp [Value.ownBlock] at hg) hy hsrc h hK
              · -- own
                rename_i k ver
                split at h
                · exact h.elim
                rename_i hnp
                split at h
                · rename_i e' sz' rows ver' m hlk
                  split at h
                  · rename_i e1
                    split at h
                    · rename_i e2
                      split at h
                      · rename_i e3
                        subst e1 e2 e3
                        have hv : a.eval s = β k := (show ∀ e sz rows m, lk k st.obs = some (.row e sz rows ver m) → a.eval s = β k from ev_ok hr hd') _ _ _ _ hlk
                        obtain ⟨xs, hown, hrep, hlr, hSv⟩ := hr.objs _ _ hlk
                        have go : app1 sy E e' sz' bytes rows src o.dst { slots := st.slots, obs := del k st.obs, ctr := st.ctr, par := st.par } K → o.wp P a w Kr Q := by
                          intro h'
                          refine aop_append (obs1 := del k st.obs) (xs := xs) hΓ hr hd hop (hΓ _ _ hti) hk (fun j u hj => ?_) hv (ownsRow_up hown (fun g hg => by
                            have := hr.up k _ g hlk (blk_of_own hg)
                            rw [if_neg (by rw [← hr.par]; simpa using hnp)] at this
                            exact this)) hrep hlr hSv (fun j u hj g hg hgv => ?_) hy hsrc h' hK
                          · rw [lk_del] at hj
                            split at hj
                            · simp at hj
                            · exact hj
                          · rw [lk_del] at hj
                            split at hj
                            · simp at hj
                            · rename_i hne
                              refine hr.sep j k u _ hj hlk hne g hg ?_
                              cases hb : β k <;> simp_all [blkOf, Value.ownBlock]
                        split at h
                        · split at h
                          · exact h.elim
                          · exact go h
                        · exact go h
                      · exact h.elim
                    · exact h.elim
                  · exact h.elim
                · exact h.elim
              · exact h.elim
            · exact h.elim
          · exact h.elim
        · exact h.elim
      · exact h.elim
    · -- call
      rename_i f args ats hop
      split at h
      · obtain ⟨obs', u, h, hw, hkeys⟩ := wop_ok hΓ h
        exact rel_write hr hd (by rw [hop]; exact hw) hkeys h hK
      obtain ⟨S', hr'⟩ := rel_frzArgs args.toList hr
      split at h
      · split at h
        · rename_i g caps as hf ha
          split at h
          · rename_i hall
            split at h
            · rename_i hfr
              obtain ⟨e, sz, rows, rest, hc, hk⟩ := h
              exact aop_call hr' hd hop hf ha (fun c hc => List.all_eq_true.1 hall c hc) hfr hc hk hK
            · exact h.elim
          · exact h.elim
        · exact h.elim
      · exact aop_dop hΓ hr' hd h hK
    · obtain ⟨S', hr'⟩ := rel_frzArgs _ hr
      exact aop_dop hΓ hr' hd h hK
    · obtain ⟨S', hr'⟩ := rel_frzArgs _ hr
      exact aop_dop hΓ hr' hd h hK
    · obtain ⟨S', hr'⟩ := rel_frzArgs _ hr
      exact aop_dop hΓ hr' hd h hK
    · exact aop_dop hΓ hr hd h hK
  · exact h.elim
end Go.Proofs.Ytljpmnifkccbdaa.Am
