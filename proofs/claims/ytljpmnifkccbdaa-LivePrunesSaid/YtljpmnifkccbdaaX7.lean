import Derived.Test.YtljpmnifkccbdaaX6
set_option linter.unusedVariables false
set_option linter.unusedSimpArgs false
namespace Go.Proofs.Ytljpmnifkccbdaa.Am
open Go Go.RowKit
variable {P : Program} {W0 : Bas} {S0 : Nat → Prop} {E : En}

theorem stepX_ok (hΓ : TOKs P) {all : List Oper} {st0 sti s : St} {K0 : Nat} {X : Nat → AV} {KD : Nat → Kd} {listed : Array Bool} {ρ : Nat → Nat} {i : Nat} {o : Oper} (hb : benX all = true) (hst0 : ∀ t u, lk t st0.slots = some u → ment K0 (fun _ => False) u) (hpk : st0.par ≤ K0) (hglob : ∀ j q, all[j]? = some q → StepX' P E all st0 K0 X KD j q)
    (hx : StepX P E all st0 K0 X KD i o sti) (hsrc : SrcX all st0 X i sti) (ho : all[i]? = some o) (hd : okD E.n o.dst = true) (hil : i < listed.size) (hsz : listed.size = all.length) (hnl : ¬ Lst listed i) (hafter : ∀ e ∈ o.after, Region.binds .any e = true → Lst listed e.on) (h : InvX W0 S0 E all st0 K0 X KD listed s ρ)
    {a : Act} {w : World} (hrel : Rel W0 S0 E.n s a w) {Kr : Act → World → Prop} {Q : Exit → Act → World → Prop} (hK : ∀ s' ρ' a' w', InvX W0 S0 E all st0 K0 X KD (listed.setIfInBounds i true) s' ρ' → Rel W0 S0 E.n s' a' w' → Kr a' w') : o.wp P a w Kr Q := by
  have hdis := benX_dis hb
  have hi : i < all.length := (List.getElem?_eq_some_iff.1 ho).1
  have hll : ∀ j, Lst listed j → j < all.length := fun j hj => by
    unfold Lst at hj
    by_cases hlt : j < listed.size
    · omega
    · simp [hlt] at hj
  have hev : ∀ y ∈ o.op.operands, ∀ u, ev sti y = some u → ev s y = some (rnF (kap K0 ρ) u) ∧ ment K0 (fun m => Lst listed m ∧ ∃ o, obOf (KD m) = some o) u ∧ fr0 s.ctr (rnF (kap K0 ρ) u) = true := fun y hy u hu => h.ev hb ho hnl hafter hst0 hsrc hy hu
  have hne : ∀ m, Lst listed m → m ≠ i := fun m hm e => hnl (by rw [← e]; exact hm)
  -- what stands in the way of nothing
  have keepU : obOf (KD i) = none → ∀ m o', (Lst listed m ∨ m = i) → obOf (KD m) = some o' → (∀ j, (Lst listed j ∨ j = i) → usr (KD j) ≠ some m) → Lst listed m ∧ lk (ρ m) s.obs = some o' := by
    intro h0 m o' hm hom hu
    rcases hm with hm | e
    · exact ⟨hm, h.unused m o' hm hom fun j hj => hu j (.inl hj)⟩
    · subst e; rw [h0] at hom; simp at hom
  have via : ∀ (q : Oper) (n : Nat), (∀ e ∈ q.after, Region.binds .any e = true → Lst listed e.on) → Ahead all n q → Lst listed n := by
    intro q n hq h'
    rcases h' with ⟨e, he, heon, hbd⟩ | ⟨e, he, hbd, k, hk, e2, he2, heon, hbd2⟩
    · rw [← heon]; exact hq e he hbd
    · rw [← heon]; exact h.cl e.on k hk (hq e he hbd) e2 he2 hbd2
  have other : ∀ m j, Lst listed j → usr (KD j) = some m → upd ρ i s.ctr m = ρ m ∧ ρ m < s.ctr := fun m j hj hu => by
    obtain ⟨hm, _, o', ho'⟩ := usr_lst hglob h hj (hll j hj) hu
    exact ⟨upd_ne _ _ _ (hne m hm), (h.rge m o' hm ho').2⟩
  have mk : ∀ ob : Ob, KD i = .mk ob → ∀ y : AV, fr0 (s.ctr + 1) y = true → (∀ v vs, y ≠ .tup (v :: vs)) → y = rnF (kap K0 (upd ρ i s.ctr)) (X i) → ment K0 (fun m => (Lst listed m ∨ m = i) ∧ ∃ o, obOf (KD m) = some o) (X i) →
      InvX W0 S0 E all st0 K0 X KD (listed.setIfInBounds i true) (St.put { slots := s.slots, obs := (s.ctr, ob) :: s.obs, ctr := s.ctr + 1, par := s.par } o.dst y) (upd ρ i s.ctr) := by
    intro ob hk y hy hyt hX hmen
    refine h.next ho hil hnl hafter hdis (Nat.le_succ _) hy hyt (fun m hm _ => upd_ne _ _ _ (hne m hm)) hX hmen (fun k hk' => ?_) (fun m o' hm hom hu => ?_) (fun m j o' hj hk' => ?_) (fun o' _ => ⟨upd_same _ _ _, Nat.lt_succ_self _⟩)
    · simp only [lk]; rw [if_neg (by have := h.ctr; omega)]
    · simp only [lk]
      rcases hm with hm | e
      · rw [upd_ne _ _ _ (hne m hm), if_neg (by have := (h.rge m o' hm hom).2; omega)]
        exact h.unused m o' hm hom fun j hj => hu j (.inl hj)
      · subst e
        rw [upd_same, if_pos rfl]
        rw [hk] at hom
        simpa [obOf] using hom
    · rcases hj with hj | e
      · obtain ⟨e1, e2⟩ := other m j hj (by rw [hk']; rfl)
        simp only [lk]
        rw [e1, if_neg (by omega)]
        exact h.stored m j o' hj hk'
      · subst e; rw [hk] at hk'; cases hk'
  obtain ⟨S, β, hr⟩ := hrel
  cases hx with
  | free hk hfx hg =>
    refine hg [] a w S (fun k => β (kap K0 ρ k)) 0 hr.gr.lt (fun y hy u hu => ?_) (fun k o h => by simp [lk] at h) o rfl Kr Q (fun v w' S' hgr hv => hK (s.put o.dst (X i)) ρ _ _ ?_ ⟨S', β, rel_quiet hr hgr hd ?_⟩)
    · obtain ⟨h1, h2, _⟩ := hev y hy u hu
      exact srep_ren (ev_ok hr h1) (ment_tup h2)
    · refine h.next (ρ' := ρ) (obs' := s.obs) (c' := s.ctr) ho hil hnl hafter hdis (Nat.le_refl _) (free_fr hfx) (free_nt hfx) (fun _ _ _ => rfl) (rn_low (ment_free hfx)).symm (ment_mono (fun _ h => h.elim) (ment_free hfx)) (fun _ _ => rfl) (fun m o' hm hom hu => (keepU (by rw [hk]; rfl) m o' hm hom hu).2) (fun m j o' hj hk' => ?_) (fun o' hom => by rw [hk] at hom; simp [obOf] at hom)
      rcases hj with hj | e
      · exact h.stored m j o' hj hk'
      · subst e; rw [hk] at hk'; cases hk'
    · refine srep_obs (c := 0) (fun j hj => by omega) (fun j o hj => by omega) (.inr ⟨fun vs e => ?_, free_fr hfx⟩) hv
      rw [e] at hfx
      simp [freeV] at hfx
  | move hk x hm hx =>
    have hop : o.op = .move x ∨ o.op = .assign x := by
      unfold mvOf at hm
      split at hm <;> simp at hm
      · rename_i h; subst hm; exact .inl h
      · rename_i h; subst hm; exact .inr h
    have hxo : x ∈ o.op.operands := by rcases hop with e | e <;> rw [e] <;> simp [Op.operands]
    obtain ⟨h1, h2, h3⟩ := hev x hxo _ hx
    refine aop_dop hΓ (K := fun st' => st' = s.put o.dst (rnF (kap K0 ρ) (X i))) hr hd ?_ (fun st' a' w' he hr' => hK (s.put o.dst (rnF (kap K0 ρ) (X i))) ρ a' w' ?_ (by rw [← he]; exact hr'))
    · rcases hop with e | e <;> rw [e] <;> simp only [dop, h1]
    · refine h.next (ρ' := ρ) (obs' := s.obs) (c' := s.ctr) ho hil hnl hafter hdis (Nat.le_refl _) h3 (rn_nt (ment_tup h2)) (fun _ _ _ => rfl) rfl (ment_mono (fun _ h => ⟨.inl h.1, h.2⟩) h2) (fun _ _ => rfl) (fun m o' hm hom hu => (keepU (by rw [hk]; rfl) m o' hm hom hu).2) (fun m j o' hj hk' => ?_) (fun o' hom => by rw [hk] at hom; simp [obOf] at hom)
      rcases hj with hj | e
      · exact h.stored m j o' hj hk'
      · subst e; rw [hk] at hk'; cases hk'
  | alloc t ti hop hkp ht hk hXi =>
    refine aop_alloc (K := fun st' => st' = St.put { slots := s.slots, obs := (s.ctr, .box t ti.zero false) :: s.obs, ctr := s.ctr + 1, par := s.par } o.dst (.ptr s.ctr 0)) (fz := false) hr hd hop (hΓ _ _ ht) h.fr rfl (fun st' a' w' he hr' => hK st' (upd ρ i s.ctr) a' w' (he ▸ ?_) hr')
    exact mk _ hk (.ptr s.ctr 0) (by simp [fr0]) (by intro v vs e; cases e) (by rw [hXi]; show _ = AV.ptr (kap K0 (upd ρ i s.ctr) (K0 + i)) 0; rw [kap_hi, upd_same]) (by rw [hXi]; exact .inr ⟨by omega, by rw [show K0 + i - K0 = i by omega]; exact ⟨.inr rfl, _, by rw [hk]; rfl⟩⟩)
  | lit t ps ti e esz bytes hop hps hkp ht hkd hk hXi =>
    refine aop_buildK (K := fun st' => st' = St.put { slots := s.slots, obs := (s.ctr, .row e esz [] 0 0) :: s.obs, ctr := s.ctr + 1, par := s.par } o.dst (.own s.ctr 0)) hr hd hop (hΓ _ _ ht) hkd (rows := []) (by rw [hps]; rfl) rfl (by omega) h.fr rfl (fun st' a' w' he hr' => hK st' (upd ρ i s.ctr) a' w' (he ▸ ?_) hr')
    exact mk _ hk (.own s.ctr 0) (by simp [fr0]) (by intro v vs e; cases e) (by rw [hXi]; show _ = AV.own (kap K0 (upd ρ i s.ctr) (K0 + i)) 0; rw [kap_hi, upd_same]) (by rw [hXi]; exact .inr ⟨by omega, by rw [show K0 + i - K0 = i by omega]; exact ⟨.inr rfl, _, by rw [hk]; rfl⟩⟩)
  | app sx x args ats t ti e esz bytes m mv rows src hop ha hat hkp ht hkd hs hy hmi hom hu hah hl hb' hk hXi =>
    have hargs : args = #[sx, x] := by rw [← Array.toList_inj]; simpa using ha
    have hats : ats = #[t, t] := by rw [← Array.toList_inj]; simpa using hat
    subst hargs hats
    have hm : Lst listed m := via o m hafter hah
    have hsv := (hev sx (by rw [hop]; simp [Op.operands, Call.operands]) _ hs).1
    have hyv := (hev x (by rw [hop]; simp [Op.operands, Call.operands]) _ hy).1
    rw [show rnF (kap K0 ρ) (.own (K0 + m) 0) = .own (ρ m) 0 by show AV.own (kap K0 ρ (K0 + m)) 0 = _; rw [kap_hi]] at hsv
    have hyv : ev s x = some (.sl src) := hyv
    have hul : ∀ j, Lst listed j → usr (KD j) ≠ some m := fun j hj hju => hne j hj (usr_one hglob (hll j hj) hi hju (by rw [hk]; rfl))
    have hlk := h.unused m _ hm hom hul
    have hrg := h.rge m _ hm hom
    have hnp : ¬ (Nat.blt (ρ m) s.par = true) := by rw [h.par]; simp; omega
    have hfin : InvX W0 S0 E all st0 K0 X KD (listed.setIfInBounds i true) (St.put { slots := s.slots, obs := (s.ctr, .row e esz (rows ++ src) 0 0) :: del (ρ m) s.obs, ctr := s.ctr + 1, par := s.par } o.dst (.own s.ctr 0)) (upd ρ i s.ctr) := by
      have hdiff : ∀ m' o', Lst listed m' → obOf (KD m') = some o' → m' ≠ m → ρ m' ≠ ρ m := fun m' o' h1 h2 h3 e => h3 (h.inj m' m o' _ h1 hm h2 hom e)
      refine h.next ho hil hnl hafter hdis (Nat.le_succ _) (by simp [fr0]) (by intro v vs e; cases e) (fun m' hm' _ => upd_ne _ _ _ (hne m' hm')) (by rw [hXi]; show _ = AV.own (kap K0 (upd ρ i s.ctr) (K0 + i)) 0; rw [kap_hi, upd_same]) (by rw [hXi]; exact .inr ⟨by omega, by rw [show K0 + i - K0 = i by omega]; exact ⟨.inr rfl, _, by rw [hk]; rfl⟩⟩) (fun k hk' => ?_) (fun m' o' hm' hom' hu' => ?_) (fun m' j o' hj hk' => ?_) (fun o' _ => ⟨upd_same _ _ _, Nat.lt_succ_self _⟩)
      · simp only [lk]; rw [if_neg (by have := h.ctr; omega), lk_del, if_neg (by omega)]
      · simp only [lk]
        rcases hm' with hm' | e'
        · have h1 : m' ≠ m := fun e' => hu' i (.inr rfl) (by rw [hk, e']; rfl)
          rw [upd_ne _ _ _ (hne m' hm'), if_neg (by have := (h.rge m' o' hm' hom').2; omega), lk_del, if_neg (hdiff m' o' hm' hom' h1)]
          exact h.unused m' o' hm' hom' fun j hj => hu' j (.inl hj)
        · subst e'
          rw [upd_same, if_pos rfl]
          rw [hk] at hom'
          simpa [obOf] using hom'
      · rcases hj with hj | e'
        · obtain ⟨e1, e2⟩ := other m' j hj (by rw [hk']; rfl)
          obtain ⟨hm', _, ob', hob'⟩ := usr_lst hglob h hj (hll j hj) (show usr (KD j) = some m' by rw [hk']; rfl)
          have h1 : m' ≠ m := fun e' => hul j hj (by rw [hk', e']; rfl)
          simp only [lk]
          rw [e1, if_neg (by omega), lk_del, if_neg (hdiff m' ob' hm' hob' h1)]
          exact h.stored m' j o' hj hk'
        · subst e'; rw [hk] at hk'; cases hk'
    refine aop_ok (K := fun st' => st' = St.put { slots := s.slots, obs := (s.ctr, .row e esz (rows ++ src) 0 0) :: del (ρ m) s.obs, ctr := s.ctr + 1, par := s.par } o.dst (.own s.ctr 0)) hΓ ?_ ⟨S, β, hr⟩ (fun st' a' w' he hr' => hK st' (upd ρ i s.ctr) a' w' (he ▸ hfin) hr')
    unfold aop
    rw [if_pos hd, hop]
    simp only [if_true, ht, hsv, hyv, hkd, rowsOf, hlk]
    rw [if_neg hnp]
    simp only [if_true, ownKey, app1, mkRow, hkp, h.fr]
    exact ⟨hl, hb', rfl⟩
  | sto t x v ti ty m cs cs' ds u hop hdn ht hx1 hv hc hl hs hmi hom hu hah hk hXi =>
    have hm : Lst listed m := via o m hafter hah
    have hxv := (hev x (by rw [hop]; simp [Op.operands]) _ hx1).1
    have hvv := (hev v (by rw [hop]; simp [Op.operands]) _ hv).1
    rw [show rnF (kap K0 ρ) (.ptr (K0 + m) 0) = .ptr (ρ m) 0 by show AV.ptr (kap K0 ρ (K0 + m)) 0 = _; rw [kap_hi]] at hxv
    obtain ⟨hru, hno⟩ := cells_rn (κ := kap K0 ρ) hc
    rw [hru] at hvv
    have hul : ∀ j, Lst listed j → usr (KD j) ≠ some m := fun j hj hju => hne j hj (usr_one hglob (hll j hj) hi hju (by rw [hk]; rfl))
    have hlk := h.unused m _ hm hom hul
    have hrg := h.rge m _ hm hom
    have hfin : InvX W0 S0 E all st0 K0 X KD (listed.setIfInBounds i true) (St.put { slots := s.slots, obs := (ρ m, .box ty cs' false) :: del (ρ m) s.obs, ctr := s.ctr, par := s.par } o.dst (.tup [])) ρ := by
      have hdiff : ∀ m' o', Lst listed m' → obOf (KD m') = some o' → m' ≠ m → ρ m' ≠ ρ m := fun m' o' h1 h2 h3 e => h3 (h.inj m' m o' _ h1 hm h2 hom e)
      refine h.next ho hil hnl hafter hdis (Nat.le_refl _) rfl (by intro v vs e; cases e) (fun _ _ _ => rfl) (by rw [hXi]; rfl) (by rw [hXi]; trivial) (fun k hk' => ?_) (fun m' o' hm' hom' hu' => ?_) (fun m' j o' hj hk' => ?_) (fun o' hom' => by rw [hk] at hom'; simp [obOf] at hom')
      · simp only [lk]; rw [if_neg (by omega), lk_del, if_neg (by omega)]
      · rcases hm' with hm' | e'
        · have h1 : m' ≠ m := fun e' => hu' i (.inr rfl) (by rw [hk, e']; rfl)
          have h2 := hdiff m' o' hm' hom' h1
          simp only [lk]
          rw [if_neg (fun e => h2 e.symm), lk_del, if_neg h2]
          exact h.unused m' o' hm' hom' fun j hj => hu' j (.inl hj)
        · subst e'; rw [hk] at hom'; simp [obOf] at hom'
      · rcases hj with hj | e'
        · obtain ⟨hm', _, ob', hob'⟩ := usr_lst hglob h hj (hll j hj) (show usr (KD j) = some m' by rw [hk']; rfl)
          have h1 : m' ≠ m := fun e' => hul j hj (by rw [hk', e']; rfl)
          have h2 := hdiff m' ob' hm' hob' h1
          simp only [lk]
          rw [if_neg (fun e => h2 e.symm), lk_del, if_neg h2]
          exact h.stored m' j o' hj hk'
        · subst e'
          rw [hk] at hk'
          injection hk' with e1 e2
          subst e1 e2
          simp [lk]
    have hfz : frzArgs s [v] = s := by
      simp only [frzArgs, hvv]
      split
      · rename_i k ver he; injection he with he; exact absurd he (hno k ver)
      · rfl
    refine aop_ok (K := fun st' => st' = St.put { slots := s.slots, obs := (ρ m, .box ty cs' false) :: del (ρ m) s.obs, ctr := s.ctr, par := s.par } o.dst (.tup [])) hΓ ?_ ⟨S, β, hr⟩ (fun st' a' w' he hr' => hK st' ρ a' w' (he ▸ hfin) hr')
    unfold aop
    rw [if_pos hd, hop]
    simp only [hdn, hfz, wop, ht, hxv, hvv, hlk, hc, hl, if_true, hs, lk, St.put]
end Go.Proofs.Ytljpmnifkccbdaa.Am
