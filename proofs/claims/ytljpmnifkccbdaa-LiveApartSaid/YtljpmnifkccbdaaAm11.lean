import Derived.Test.YtljpmnifkccbdaaAm10
set_option linter.unusedVariables false
set_option linter.unusedSimpArgs false
namespace Go.Proofs.Ytljpmnifkccbdaa.Am
open Go Go.RowKit
variable {P : Program} {W0 : Bas} {S0 : Nat → Prop} {E : En}

theorem srep0_of_rep {w : World} {S : Nat → Prop} {β : Nat → Value} {obs : Obs} {x : AV} {y : Value} (h : Rep w S x y) : SRep0 w S β obs x y := by
  have h1 := srep_of_rep (β := β) (obs := obs) h
  cases x <;> first | exact h1 | skip
  cases h with
  | c h => cases h
/-- A call whose slice is kept. -/
theorem aop_call {S : Nat → Prop} {β : Nat → Value} {st : St} {a : Act} {w : World} {o : Oper} {K : St → Prop} {Kr : Act → World → Prop} {Q : Exit → Act → World → Prop} {f : Operand} {args : Array Operand} {ats : Array TypeId} {g e sz : Nat} {caps as rest : List AV} {rows : List (List AV)}
    (h : RelS W0 S0 E.n S β st a w) (hd : okD E.n o.dst = true) (hop : o.op = .call { callee := .value f, args := args, argTypes := ats }) (hf : ev st f = some (.clo g caps)) (ha : evs (ev st) args.toList = some as) (hk : ∀ c ∈ as, okArg c = true) (hfr : frS st.ctr st.slots = true)
    (hc : CSem P (.fn g) (as.map plain ++ caps) (.own e sz rows rest)) (hK' : K (St.put { slots := st.slots, obs := (st.ctr, .row e sz rows 0 0) :: st.obs, ctr := st.ctr + 1, par := st.par } o.dst (tupOf (.own st.ctr 0 :: rest)))) (hK : ∀ st' a' w', K st' → Rel W0 S0 E.n st' a' w' → Kr a' w') : o.wp P a w Kr Q := by
  obtain ⟨he, hc⟩ := hc
  obtain ⟨xs, hfv, hcaps⟩ := srep_clo (ev_ok h hf)
  have hreps := (evs_reps (a := a) args.toList as ha (fun o _ u hu => ev_ok h hu) (fun c hc => by have := hk c hc; cases c <;> simp_all [okArg])).append hcaps
  refine wp_enter (run_call hop hfv he) ((hc w S _ h.gr.lt hreps).mono ?_)
  rintro e' w' ⟨y, S', rfl, hg, z, ys, zs, hy, hown, hr, hl, hSz, hrest, _⟩
  refine ⟨y, rfl, hK _ _ _ hK' ?_⟩
  have hsame := hg.same h.gr.lt
  have hzb : ∀ g, blkOf z = some g → w.heap.size ≤ g ∧ ¬ S' g := fun g hgz => ⟨(hown.lt g (ownBlock_blk hown hgz)).1, hSz g (ownBlock_blk hown hgz)⟩
  refine rel_new (nv := z) (S' := S') (obs1 := st.obs) h hfr (fun _ _ h => h) (h.gr.step hg) hsame hg.sub (fun j u hj g' hg' => ?_) hd ⟨zs, ?_, hr, hl, hSz⟩ (fun g' hg2 => .inl (Nat.le_trans h.gr.size (hzb g' hg2).1)) (fun j u hj g' hg1 hg2 => ?_) ?_
  · obtain ⟨h1, h2, h3⟩ := orep_blk (h.objs j u hj) hg'
    exact ⟨hg.below.block g' h2, fun hs => by rcases hg.new g' hs with h4 | h4; exact h3 h4; omega⟩
  · refine ⟨hown.1, ?_⟩
    rcases hown.2 with h1 | ⟨g', cap, cur, h1, hB, r⟩
    · exact .inl h1
    · exact .inr ⟨g', cap, cur, h1, Nat.zero_le _, r⟩
  · have := (orep_blk (h.objs j u hj) hg1).2.1
    have := (hzb g' hg2).1
    omega
  · subst hy
    have hz0 : SRep0 w' S' (fun j => if j = st.ctr then z else β j) ((st.ctr, .row e sz rows 0 0) :: st.obs) (.own st.ctr 0) z := by
      intro e' sz' rows' m' hl'
      simp
    cases rest with
    | nil =>
      rw [hrest.unnil]
      exact hz0
    | cons r rs =>
      obtain ⟨y1, ys1, rfl, h1, h2⟩ := hrest.uncons
      refine ⟨z :: y1 :: ys1, rfl, by simp [h2.1], fun i u x hu hx => ?_⟩
      cases i with
      | zero => simp at hu hx; subst hu hx; exact hz0
      | succ i => exact srep0_of_rep (hrest.2 i u x (by simpa using hu) (by simpa using hx))

theorem flatten_take {sz : Nat} {rows : List (List AV)} (hlen : ∀ r ∈ rows, r.length = sz) (lo : Nat) (hlo : lo ≤ rows.length) : (rows.take lo).flatten = rows.flatten.take (lo * sz) := by
  have h1 : rows.flatten = (rows.take lo).flatten ++ (rows.drop lo).flatten := by rw [← List.flatten_append, List.take_append_drop]
  have h2 : (rows.take lo).flatten.length = lo * sz := by
    rw [flatten_len (sz := sz) _ (fun r hr => hlen r (List.mem_of_mem_take hr)), List.length_take, Nat.min_eq_left hlo]
  conv => rhs; rw [h1, List.take_append_of_le_length (by omega), List.take_of_length_le (by omega)]
/-- The first part of a row. -/
theorem aop_prefix {S : Nat → Prop} {β : Nat → Value} {st : St} {a : Act} {w : World} {o : Oper} {K : St → Prop} {Kr : Act → World → Prop} {Q : Exit → Act → World → Prop} {t k ver m e e' sz bytes n : Nat} {x hi : Operand} {ti : TI} {rows : List (List AV)}
    (h : RelS W0 S0 E.n S β st a w) (hd : okD E.n o.dst = true) (hop : o.op = .slice t x none (some hi) none) (ht : TOK P t ti) (hkd : ti.kind = .sli e' sz bytes) (hx : ev st x = some (.own k ver)) (hk : lk k st.obs = some (.row e sz rows ver m)) (hhi : ev st hi = some (.v (.int .i64 (n : Int)))) (hn : n ≤ rows.length)
    (hfr : frS st.ctr st.slots = true) (hK' : K (St.put { slots := st.slots, obs := (st.ctr, .row e sz (rows.take n) 0 0) :: del k st.obs, ctr := st.ctr + 1, par := st.par } o.dst (.own st.ctr 0))) (hK : ∀ st' a' w', K st' → Rel W0 S0 E.n st' a' w' → Kr a' w') : o.wp P a w Kr Q := by
  have hxv : a.eval x = β k := (show ∀ e sz rows m, lk k st.obs = some (.row e sz rows ver m) → a.eval x = β k from ev_ok h hx) _ _ _ _ hk
  have hkd' := ht.kind
  rw [hkd] at hkd'
  obtain ⟨hu, ⟨hpos, hposb⟩, inf, z, hinf, hz, hsz, hby, hzs⟩ := hkd'
  have e1 : a.eval hi = .int .i64 (n : Int) := srep_v (ev_ok h hhi)
  have hz0 : (0 : Int) ≤ (n : Int) := by omega
  have hso := run_sizeOf_info (P := P) hinf hsz w
  obtain ⟨xs, hown, hrep, hlen, hSv⟩ := h.objs _ _ hk
  obtain ⟨ad, c, hy, hc, hpos2, hnn, hoff⟩ := own_shape hown
  have hnc : n ≤ c := Nat.le_trans hn hc
  have hxv' := hxv
  rw [hy] at hxv'
  have hblk : ∀ g, blkOf (Value.slice ad n c) = some g → blkOf (β k) = some g := fun g hg => by
    rw [hy]
    cases ad with
    | none => simp [blkOf, Value.ownBlock] at hg
    | some ad => simpa [blkOf, Value.ownBlock] using hg
  refine wp_val (w' := w) (v := .slice ad n c) ?_ (hK _ _ _ hK' ?_)
  · have hadd : (if c = 0 then ad else ad.map (·.add (0 * sz))) = ad := by
      split
      · rfl
      · cases ad with
        | none => rfl
        | some ad => simp [Addr.add]
    simp [execOp, hop, hxv', e1, Instr.sliceAt, Instr.slice, run_underlying hu, Instr.sliceBounds, Instr.sliceBound, asIntOf, hnc, hso]
    simpa using hadd
  · refine rel_new (nv := .slice ad n c) (S' := S) (obs1 := del k st.obs) h hfr (fun j u hj => ?_) h.gr (fun _ _ => rfl) (fun _ h => h) (fun j u hj g hg => ?_) hd ⟨xs.take (n * sz), ?_, ?_, fun r hr => hlen r (List.mem_of_mem_take hr), fun g hg => hSv g ?_⟩ (fun g hg => ?_) (fun j u hj g hg hg' => ?_) ?_
    · rw [lk_del] at hj
      split at hj
      · simp at hj
      · exact hj
    · rw [lk_del] at hj
      split at hj
      · simp at hj
      · exact ⟨rfl, (orep_blk (h.objs j u hj) hg).2.2⟩
    · rw [List.length_take, Nat.min_eq_left hn]
      have hxl : xs.length = rows.length * sz := hown.1
      have hle : n * sz ≤ rows.length * sz := Nat.mul_le_mul_right _ hn
      rcases hown.2 with ⟨hv, hn0⟩ | ⟨g, cap, cur, hv, hB, hh, hn1, hm, hcs, htake⟩
      · rw [hy] at hv
        injection hv with h1 h2 h3
        subst h1 h3
        have : n = 0 := by omega
        subst this
        simpa using World.ownsRow_nil _ _ _ _
      · rw [hy] at hv
        injection hv with h1 h2 h3
        subst h1 h3
        refine ⟨by rw [List.length_take]; omega, .inr ⟨g, c, cur, rfl, hB, hh, hnc, hm, hcs, ?_⟩⟩
        rw [← htake, List.take_take, Nat.min_eq_left hle]
    · rw [flatten_take hlen n hn]; exact hrep.take _
    · rw [hy]
      cases ad with
      | none => simp [Value.ownBlock] at hg
      | some ad => simpa [Value.ownBlock] using hg
    · have := h.up k _ g hk (hblk g hg)
      split at this
      · exact .inr this
      · exact this
    · rw [lk_del] at hj
      split at hj
      · simp at hj
      · rename_i hne
        exact h.sep j k u _ hj hk hne g hg (hblk g hg')
    · intro e' sz' rows' m' hl'
      simp
/-- A call that writes, whose slice is kept. -/
theorem aop_callW {S : Nat → Prop} {β : Nat → Value} {st : St} {a : Act} {w : World} {o : Oper} {K : St → Prop} {Kr : Act → World → Prop} {Q : Exit → Act → World → Prop} {f : Operand} {args : Array Operand} {ats : Array TypeId} {g e sz : Nat} {caps as as' rest : List AV} {rows : List (List AV)} {pars pars' obs' : Obs}
    (h : RelS W0 S0 E.n S β st a w) (hd : okD E.n o.dst = true) (hop : o.op = .call { callee := .value f, args := args, argTypes := ats }) (hf : ev st f = some (.clo g caps)) (ha : evs (ev st) args.toList = some as) (hcan : canon st.obs 0 as = some (as', pars)) (hn : nodV (keysOf 0 as) = true)
    (hc : CSem P (.wr g pars pars') (as' ++ caps) (.own e sz rows rest)) (hw : wback st.obs pars' (keysOf 0 as) = some obs') (hfr : frS st.ctr st.slots = true)
    (hK' : K (St.put { slots := st.slots, obs := (st.ctr, .row e sz rows 0 0) :: obs', ctr := st.ctr + 1, par := st.par } o.dst (tupOf (.own st.ctr 0 :: rest)))) (hK : ∀ st' a' w', K st' → Rel W0 S0 E.n st' a' w' → Kr a' w') : o.wp P a w Kr Q := by
  refine wcall_core hf ha hcan hn hc hw h.gr.lt (fun o _ u hu => ev_ok h hu) h.objs h.sep hop (fun y w' S' β' hβ' hTsub hg hsame hsub hobj hsr hres => hK _ _ _ hK' ?_)
  obtain ⟨z, ys, zs, hy, hown, hr, hl, hzb, hrest⟩ := hres
  have hkeys : ∀ k u, lk k obs' = some u → ∃ u', lk k st.obs = some u' := fun k u hk => by
    rcases wback_ok _ _ hw k u hk with ⟨_, h2⟩ | ⟨q, old, new, _, _, h3, _⟩
    · exact ⟨_, h2⟩
    · exact ⟨_, h3⟩
  -- the state behind the call, the new row not yet named
  have hrel : RelS W0 S0 E.n S' β { slots := st.slots, obs := obs', ctr := st.ctr, par := st.par } a w' := by
    refine ⟨h.gr.trans hg (fun g' hg' => ?_), h.par, h.defers, h.size, fun t x ht => ⟨(h.slots t x ht).1, srep_of0 hsr (h.slots t x ht).2⟩, hobj, fun k o g' hk hg' => ?_, fun k k' o o' hk hk' hne g' h1 h2 => ?_, fun k o hk => ?_, h.parc, fun k o hp hk => ?_⟩
    · obtain ⟨k, u, h1, h2⟩ := hg'
      have := h.up k u g' h1 h2
      split at this
      · exact .inl this
      · exact this.symm
    · obtain ⟨u, hu⟩ := hkeys k o hk; exact h.up k u g' hu hg'
    · obtain ⟨u, hu⟩ := hkeys k o hk
      obtain ⟨u', hu'⟩ := hkeys k' o' hk'
      exact h.sep k k' u u' hu hu' hne g' h1 h2
    · obtain ⟨u, hu⟩ := hkeys k o hk; exact h.ctr k u hu
    · obtain ⟨u, hu⟩ := hkeys k o hk; exact h.fix k u hp hu
  have hzblk : ∀ g', blkOf z = some g' → z.ownBlock = some g' := fun g' hg' => by
    rcases hown.2 with ⟨rfl, _⟩ | ⟨g2, cap, cur, rfl, _⟩
    · simp [blkOf, Value.ownBlock] at hg'
    · simpa [blkOf, Value.ownBlock] using hg'
  refine rel_new (st := { slots := st.slots, obs := obs', ctr := st.ctr, par := st.par }) (nv := z) (S' := S') (obs1 := obs') hrel hfr (fun j u hj => hj) hrel.gr (fun _ _ => rfl) (fun _ h => h) (fun j u hj g' hg' => ⟨rfl, (orep_blk (hobj j u hj) hg').2.2⟩) hd ⟨zs, hown, hr, hl, fun g' hg' => (hzb g' hg').1⟩ (fun g' hg' => ?_) (fun j u hj g' h1 h2 => ?_) ?_
  · rcases (hzb g' (hzblk g' hg')).2.1 with hT | hT
    · obtain ⟨q, k, u, h1, h2, h3⟩ := hTsub g' hT
      have := h.up k u g' h2 h3
      split at this
      · exact .inr this
      · exact this
    · exact .inl (Nat.le_trans h.gr.size hT)
  · obtain ⟨_, hz2, hz3⟩ := hzb g' (hzblk g' h2)
    rcases wback_ok _ _ hw j u hj with ⟨n1, n2⟩ | ⟨q, old, new, n1, n2, n3, n4⟩
    · rcases hz2 with hT | hT
      · obtain ⟨q, k, u', m1, m2, m3⟩ := hTsub g' hT
        refine h.sep j k u u' n2 m2 (fun e => ?_) g' h1 m3
        subst e
        exact n1 q (lk_mem m1)
      · have := (orep_blk (h.objs j u n2) h1).2.1
        omega
    · have n5 := (keysOf_mem _ _ _ _ n1).2
      exact hz3 ⟨q, new, n2, by rw [hβ' q j n5]; exact h1⟩
  · subst hy
    have hz0 : SRep0 w' S' (fun j => if j = st.ctr then z else β j) ((st.ctr, .row e sz rows 0 0) :: obs') (.own st.ctr 0) z := by
      intro e' sz' rows' m' hl'
      simp
    cases rest with
    | nil =>
      rw [hrest.unnil]
      exact hz0
    | cons r rs =>
      obtain ⟨y1, ys1, rfl, h1, h2⟩ := hrest.uncons
      refine ⟨z :: y1 :: ys1, rfl, by simp [h2.1], fun i u x hu hx => ?_⟩
      cases i with
      | zero => simp at hu hx; subst hu hx; exact hz0
      | succ i => exact srep0_of_rep (hrest.2 i u x (by simpa using hu) (by simpa using hx))

theorem aop_ok (hΓ : TOKs P) {o : Oper} {st : St} {K : St → Prop} (h : aop sy (CSem P) E o st K) {a : Act} {w : World} (hr : Rel W0 S0 E.n st a w) {Kr : Act → World → Prop} {Q : Exit → Act → World → Prop} (hK : ∀ st' a' w', K st' → Rel W0 S0 E.n st' a' w' → Kr a' w') : o.wp P a w Kr Q := by
  obtain ⟨S, β, hr⟩ := hr
  unfold aop at h
  split at h
  · rename_i hd
    split at h
    · -- alloc
      rename_i t hop
      split at h
      · rename_i ti hti
        split at h
        · rename_i hfr; exact aop_alloc hr hd hop (hΓ _ _ hti) hfr h hK
        · exact h.elim
      · exact h.elim
    · -- store
      rename_i t x v hop
      split at h
      · rename_i hdst
        obtain ⟨S', hr'⟩ := rel_frzArgs [v] hr
        obtain ⟨obs', u, h, hw, hkeys⟩ := wop_ok hΓ h
        refine rel_write (K := fun st' => match ev (frzArgs st [v]) x with
          | some (.ptr k _) => (match lk k obs' with
            | some (.box _ _ true) => K (St.freeze k st')
            | _ => K st')
          | _ => K st') hr' hd (by rw [hop]; exact hw) hkeys (by rw [hdst]; exact h) (fun st' a' w' h' hrel => ?_)
        split at h'
        · split at h'
          · obtain ⟨S2, β2, h2⟩ := hrel
            obtain ⟨S3, h3⟩ := rel_freeze _ h2
            exact hK _ _ _ h' ⟨S3, _, h3⟩
          · exact hK _ _ _ h' hrel
        · exact hK _ _ _ h' hrel
      · exact h.elim
    · -- append
      rename_i args ats hop
      split at h
      · rename_i s x t t' hs ht'
        split at h
        · rename_i hte
          subst hte
          have hargs : args = #[s, x] := by rw [← Array.toList_inj]; simpa using hs
          have hats : ats = #[t, t] := by rw [← Array.toList_inj]; simpa using ht'
          subst hargs hats
          split at h
          · rename_i ti d y hti hd' hy
            split at h
            · rename_i e esz bytes src hk hsrc
              split at h
              · -- nil
                have hv : a.eval s = .slice none 0 0 := srep_v (ev_ok hr hd')
                exact aop_append (obs1 := st.obs) (rows := []) (xs := []) hΓ hr hd hop (hΓ _ _ hti) hk (fun _ _ h => h) hv (World.ownsRow_nil _ _ _ _) (fun g hg => by simp [Value.ownBlock] at hg) (RepL.nil _ _) (fun r h => by simp at h) (fun g hg => by simp [Value.ownBlock] at hg) (fun j u _ g _ hg => by simp [Value.ownBlock] at hg) hy hsrc h hK
              · -- own
                rename_i k ver
                split at h
                · exact h.elim
                rename_i hnp
                split at h
                · rename_i e' sz' rows ver' m hlk
                  split at h
                  · rename_i e1
                    split at h
                    · rename_i e2
                      split at h
                      · rename_i e3
                        subst e1 e2 e3
                        have hv : a.eval s = β k := (show ∀ e sz rows m, lk k st.obs = some (.row e sz rows ver m) → a.eval s = β k from ev_ok hr hd') _ _ _ _ hlk
                        obtain ⟨xs, hown, hrep, hlr, hSv⟩ := hr.objs _ _ hlk
                        have go : app1 sy E e' sz' bytes rows src o.dst { slots := st.slots, obs := del k st.obs, ctr := st.ctr, par := st.par } K → o.wp P a w Kr Q := by
                          intro h'
                          refine aop_append (obs1 := del k st.obs) (xs := xs) hΓ hr hd hop (hΓ _ _ hti) hk (fun j u hj => ?_) hv hown (fun g hg => by
                            have := hr.up k _ g hlk (blk_of_own hg)
                            rw [if_neg (by rw [← hr.par]; simpa using hnp)] at this
                            exact this) hrep hlr hSv (fun j u hj g hg hgv => ?_) hy hsrc h' hK
                          · rw [lk_del] at hj
                            split at hj
                            · simp at hj
                            · exact hj
                          · rw [lk_del] at hj
                            split at hj
                            · simp at hj
                            · rename_i hne
                              refine hr.sep j k u _ hj hlk hne g hg ?_
                              cases hb : β k <;> simp_all [blkOf, Value.ownBlock]
                        split at h
                        · split at h
                          · exact h.elim
                          · exact go h
                        · exact go h
                      · exact h.elim
                    · exact h.elim
                  · exact h.elim
                · exact h.elim
              · exact h.elim
            · exact h.elim
          · exact h.elim
        · exact h.elim
      · exact h.elim
    · -- clear
      rename_i args ats hop
      obtain ⟨obs', u, h, hw, hkeys⟩ := wop_ok hΓ h
      exact rel_write hr hd (by rw [hop]; exact hw) hkeys h hK
    · -- slice
      rename_i t x lo hi max hop
      split at h
      · rename_i k ver hi' hpre
        split at h
        · rename_i ti j e sz rows ver' m hti hhi hk
          split at h
          · rename_i e' esz bytes hkd
            split at h
            · rename_i e1
              split at h
              · rename_i e2
                split at h
                · rename_i hfr
                  obtain ⟨n, rows', rfl, hle, rfl, h⟩ := h
                  subst e1 e2
                  unfold prefixOf at hpre
                  split at hpre
                  · split at hpre
                    · rename_i o1 k1 v1 hx
                      simp only [Option.some.injEq, Prod.mk.injEq] at hpre
                      obtain ⟨rfl, rfl, rfl⟩ := hpre
                      exact aop_prefix hr hd hop (hΓ _ _ hti) hkd hx hk hhi (by simp [sy] at hle; omega) hfr h hK
                    · simp at hpre
                  · simp at hpre
                · exact h.elim
              · exact h.elim
            · exact h.elim
          · exact h.elim
        · exact h.elim
      · exact aop_dop hΓ hr hd (by rw [hop]; exact h) hK
    · -- call
      rename_i f args ats hop
      split at h
      · split at h
        · split at h
          · rename_i g caps as hf ha
            split at h
            · rename_i as' pars hcan
              split at h
              · rename_i hn
                obtain ⟨pars', e, sz, rows, rest, hc, h⟩ := h
                split at h
                · rename_i obs' hw
                  split at h
                  · rename_i hfr
                    exact aop_callW hr hd hop hf ha hcan hn hc hw hfr h hK
                  · exact h.elim
                · exact h.elim
              · exact h.elim
            · exact h.elim
          · exact h.elim
        · obtain ⟨obs', u, h, hw, hkeys⟩ := wop_ok hΓ h
          exact rel_write hr hd (by rw [hop]; exact hw) hkeys h hK
      obtain ⟨S', hr'⟩ := rel_frzArgs args.toList hr
      split at h
      · split at h
        · rename_i g caps as hf ha
          split at h
          · rename_i hall
            split at h
            · rename_i hfr
              obtain ⟨e, sz, rows, rest, hc, hk⟩ := h
              exact aop_call hr' hd hop hf ha (fun c hc => List.all_eq_true.1 hall c hc) hfr hc hk hK
            · exact h.elim
          · exact h.elim
        · exact h.elim
      · exact aop_dop hΓ hr' hd h hK
    · obtain ⟨S', hr'⟩ := rel_frzArgs _ hr
      exact aop_dop hΓ hr' hd h hK
    · obtain ⟨S', hr'⟩ := rel_frzArgs _ hr
      exact aop_dop hΓ hr' hd h hK
    · obtain ⟨S', hr'⟩ := rel_frzArgs _ hr
      exact aop_dop hΓ hr' hd h hK
    · exact aop_dop hΓ hr hd h hK
  · exact h.elim
end Go.Proofs.Ytljpmnifkccbdaa.Am
