import Derived.Test.YtljpmnifkccbdaaAm9
set_option linter.unusedVariables false
set_option linter.unusedSimpArgs false
namespace Go.Proofs.Ytljpmnifkccbdaa.Am
open Go Go.RowKit
variable {P : Program} {W0 : Bas} {S0 : Nat → Prop}

theorem flatten_inv {sz : Nat} : ∀ (rows : List (List AV)) (i : Nat) (u : AV), (∀ r ∈ rows, r.length = sz) → rows.flatten[i]? = some u → ∃ j r k, rows[j]? = some r ∧ r[k]? = some u ∧ i = j * sz + k := by
  intro rows
  induction rows with
  | nil => intro i u _ h; simp at h
  | cons r rs ih =>
    intro i u hl h
    have hr0 : r.length = sz := hl r List.mem_cons_self
    rw [List.flatten_cons] at h
    by_cases hi : i < r.length
    · rw [List.getElem?_append_left hi] at h
      exact ⟨0, r, i, rfl, h, by omega⟩
    · rw [List.getElem?_append_right (by omega)] at h
      obtain ⟨j, r', k, h1, h2, h3⟩ := ih (i - r.length) u (fun r hr => hl r (List.mem_cons_of_mem _ hr)) h
      exact ⟨j + 1, r', k, by simpa using h1, h2, by rw [Nat.succ_mul]; omega⟩
theorem choose_cells {w : World} {cs : List AV} {S : Nat → Prop} {f : Nat → Addr} (hf : ∀ (i : Nat) (u : AV), cs[i]? = some u → ∃ x, w.cell? (f i) = some x ∧ RepC w S u x) : ∃ xs : List Value, RepL w S cs xs ∧ ∀ (j : Nat) (x : Value), xs[j]? = some x → w.cell? (f j) = some x := by
  have hex : ∀ i : Nat, ∃ x : Value, ∀ u : AV, cs[i]? = some u → w.cell? (f i) = some x ∧ RepC w S u x := by
    intro i
    cases hu : cs[i]? with
    | none => exact ⟨.bool true, fun u h => by simp at h⟩
    | some u =>
      obtain ⟨x, hx, hr⟩ := hf _ _ hu
      exact ⟨x, fun u' h => by injection h with h; subst h; exact ⟨hx, hr⟩⟩
  obtain ⟨g, hg⟩ : ∃ g : Nat → Value, ∀ (i : Nat) (u : AV), cs[i]? = some u → w.cell? (f i) = some (g i) ∧ RepC w S u (g i) := ⟨fun i => (hex i).choose, fun i u hu => (hex i).choose_spec u hu⟩
  refine ⟨(List.range cs.length).map g, ⟨by simp, fun i u x hu hx => ?_⟩, fun j x hx => ?_⟩
  · have hi : i < cs.length := (List.getElem?_eq_some_iff.1 hu).1
    simp [List.getElem?_map, List.getElem?_range hi] at hx
    subst hx
    exact (hg i u hu).2
  · have hj : j < cs.length := by have := (List.getElem?_eq_some_iff.1 hx).1; simpa using this
    simp [List.getElem?_map, List.getElem?_range hj] at hx
    subst hx
    exact (hg j _ (List.getElem?_eq_getElem hj)).1
/-- What is appended. -/
theorem src_ok {w : World} {S : Nat → Prop} {β : Nat → Value} {obs : Obs} {B esz : Nat} (ho : ∀ k o, lk k obs = some o → ORep w S B (β k) o) {y : AV} {v : Value} {src : List (List AV)} (hr : rowsOf obs y = some src) (hy : SRep w S β obs y v) (hl : ∀ r ∈ src, r.length = esz) (hpos : 0 < esz) :
    (v = .slice none 0 0 ∧ src = []) ∨ ∃ ad c news, v = .slice (some ad) src.length c ∧ RepL w S src.flatten news ∧ ∀ (j : Nat) (x : Value), news[j]? = some x → w.cell? (ad.add j) = some x := by
  cases y with
  | v x =>
    have hv := srep_v hy
    cases x with
    | slice a n c =>
      cases a with
      | none =>
        cases n with
        | zero =>
          cases c with
          | zero => simp [rowsOf] at hr; subst hr; exact .inl ⟨hv, rfl⟩
          | succ c => simp [rowsOf] at hr
        | succ n => simp [rowsOf] at hr
      | some a => simp [rowsOf] at hr
    | _ => simp [rowsOf] at hr
  | sl rs =>
    simp [rowsOf] at hr
    subst hr
    cases srep_sl hy with
    | nil a c hn =>
      cases a with
      | none => rw [hn rfl]; exact .inl ⟨rfl, rfl⟩
      | some a => exact .inr ⟨a, c, [], rfl, RepL.nil _ _, fun j x h => by simp at h⟩
    | sl rows a c sz f ha hlen hc hm h h' =>
      obtain ⟨news, h1, h2⟩ := choose_cells (w := w) (S := S) (cs := rs.flatten) (f := fun i => a.add i) (fun i u hu => by
        obtain ⟨j, r, k, hj, hk, hi⟩ := flatten_inv rs i u hlen hu
        subst hi
        exact ⟨f j k, h j r hj k u hk, h' j r hj k u hk⟩)
      exact .inr ⟨a, c, news, rfl, h1, h2⟩
  | own k ver =>
    simp only [rowsOf] at hr
    split at hr
    · rename_i e sz rs ver' mver hk
      split at hr
      · rename_i e1
        subst e1
        injection hr with hr
        subst hr
        have hv : v = β k := (show ∀ e sz rows m, lk k obs = some (.row e sz rows ver m) → v = β k from hy) _ _ _ _ hk
        obtain ⟨xs, hown, hrep, hlen, hS⟩ := ho _ _ hk
        rcases hown.2 with ⟨hv2, hn⟩ | ⟨g, cap, cur, hv2, hB, hh, hn, hm, hcs, htake⟩
        · have hrs : rs = [] := List.eq_nil_of_length_eq_zero hn
          exact .inl ⟨by rw [hv, hv2], hrs⟩
        · refine .inr ⟨⟨g, 0, none⟩, cap, xs, by rw [hv, hv2], hrep, fun j x hx => ?_⟩
          rw [add_mk, cell_of_row w g _ _ _ _ hh]
          rw [← htake, List.getElem?_take] at hx
          split at hx
          · simpa using hx
          · simp at hx
      · simp at hr
    · simp at hr
  | _ => simp [rowsOf] at hr

variable {E : En}
theorem aop_append (hΓ : TOKs P) {S : Nat → Prop} {β : Nat → Value} {st : St} {obs1 : Obs} {a : Act} {w : World} {o : Oper} {K : St → Prop} {Kr : Act → World → Prop} {Q : Exit → Act → World → Prop} {t e esz bytes : Nat} {s x : Operand} {ti : TI} {y : AV} {rows src : List (List AV)} {xs : List Value} {v : Value}
    (h : RelS W0 S0 E.n S β st a w) (hd : okD E.n o.dst = true) (hop : o.op = .call { callee := .builtin .append, args := #[s, x], argTypes := #[t, t] }) (ht : TOK P t ti) (hk : ti.kind = .sli e esz bytes)
    (hobs : ∀ j u, lk j obs1 = some u → lk j st.obs = some u) (hv : a.eval s = v) (hown : w.ownsRow 0 e esz v rows.length xs) (hup : ∀ g, v.ownBlock = some g → W0.heap.size ≤ g ∨ W0.M g) (hrep : RepL w S rows.flatten xs) (hlr : ∀ r ∈ rows, r.length = esz) (hSv : ∀ g, v.ownBlock = some g → ¬ S g)
    (hsep : ∀ j u, lk j obs1 = some u → ∀ g, blkOf (β j) = some g → v.ownBlock = some g → False)
    (hy : ev st x = some y) (hsrc : rowsOf st.obs y = some src) (h' : app1 sy E e esz bytes rows src o.dst { slots := st.slots, obs := obs1, ctr := st.ctr, par := st.par } K) (hK : ∀ st' a' w', K st' → Rel W0 S0 E.n st' a' w' → Kr a' w') : o.wp P a w Kr Q := by
  obtain ⟨hls, hb, hnew⟩ := h'
  have hkd := ht.kind
  rw [hk] at hkd
  obtain ⟨hu, ⟨hpos, hposb⟩, inf, z, hinf, hz, hsz, hby, hzs⟩ := hkd
  have hS := h.gr.lt
  simp only [sy] at hb
  have hb2 : (rows.length + src.length) * bytes ≤ 140737488355328 := by
    have : (((rows.length + src.length) * bytes : Nat) : Int) ≤ 140737488355328 := by rw [Int.natCast_mul, Int.natCast_add]; exact hb
    omega
  -- what the machine's step leaves
  obtain ⟨v', w', hrun, hown', hrep', hgrow, hblk⟩ : ∃ v' w', (Builtin.append_ #[t, t] o.type #[v, a.eval x]).run P w = .ok v' w' ∧ (∃ zs, w'.ownsRow 0 e esz v' (rows ++ src).length zs ∧ RepL w S (rows ++ src).flatten zs) ∧ (∀ r ∈ rows ++ src, r.length = esz) ∧ w.grownBy w' v.ownBlock ∧ (v'.ownBlock = v.ownBlock ∨ v'.ownBlock = some w.heap.size) := by
    have hlall : ∀ r ∈ rows ++ src, r.length = esz := fun r hr => by
      rcases List.mem_append.1 hr with h | h
      · exact hlr r h
      · exact hls r h
    rcases src_ok h.objs hsrc (ev_ok h hy) hls hpos with ⟨hx, rfl⟩ | ⟨ad, c, news, hx, hnr, hnc⟩
    · refine ⟨v, w, ?_, ⟨xs, by rw [List.append_nil]; exact hown, by rw [List.append_nil]; exact hrep⟩, hlall, ⟨rfl, rfl, rfl, Nat.le_refl _, fun _ _ _ => rfl⟩, .inl rfl⟩
      rw [hx]
      exact run_append_owned_none (P := P) (w := w) 0 t o.type e inf esz hu hinf v rows.length xs hown
    · have hnl : news.length = src.length * esz := by rw [← hnr.1, flatten_len src hls]
      have hlenle : rows.length + src.length ≤ maxLen := by
        have h1 : (rows.length + src.length) * 1 ≤ (rows.length + src.length) * bytes := Nat.mul_le_mul_left _ hposb
        unfold maxLen
        omega
      obtain ⟨v', w', h1, h2, h3, h4, h5⟩ := run_append_own_at (P := P) (w := w) 0 t o.type e inf z esz bytes hu hinf hz hsz hby hzs hpos v rows.length xs hown ad src.length c news hnl hnc hnr.one hlenle hb2 (Nat.zero_le _)
      exact ⟨v', w', by rw [hx]; exact h1, ⟨xs ++ news, by rw [List.length_append]; exact h2, by rw [List.flatten_append]; exact hrep.append hnr⟩, hlall, h3, h5⟩
  obtain ⟨zs, hown', hrepz⟩ := hown'
  have hup' : ∀ g, v'.ownBlock = some g → W0.heap.size ≤ g ∨ W0.M g := fun g hg => by
    rcases hblk with e1 | e1
    · exact hup g (e1 ▸ hg)
    · rw [e1] at hg; injection hg with hg; subst hg; exact .inl h.gr.size
  have hsame : SameOn S w w' := fun g hg => hgrow.block g (hS g hg) (fun e' => hSv g e'.symm hg)
  have hgr : GrK W0.M W0.W S0 w' S := h.gr.trans (T' := fun g => v.ownBlock = some g) ⟨hgrow.os, hgrow.tape, hgrow.output, hgrow.size, fun k hk hn => hgrow.block k hk (fun e => hn e.symm), fun _ h => h, fun _ h => .inl h, fun g hg => Nat.lt_of_lt_of_le (hS g hg) hgrow.size⟩ (fun g hg => (hup g hg).symm)
  have hlt' := hown'.lt
  have hSv' : ∀ g, v'.ownBlock = some g → ¬ S g := by
    intro g hg hs
    rcases hblk with e1 | e1
    · exact hSv g (e1 ▸ hg) hs
    · rw [e1] at hg; injection hg with hg; have := hS g hs; omega
  have hexec : (execOp a.eval o).run P w = .ok (.value v') w' := by
    simp [execOp, hop, resolve, invoke, builtin, hv, hrun]
  refine wp_val hexec ?_
  have hold : ∀ j u, lk j obs1 = some u → ∀ g, blkOf (β j) = some g → w'.heap[g]? = w.heap[g]? ∧ ¬ S g := by
    intro j u hj g hg
    obtain ⟨h1, h2, h3⟩ := orep_blk (h.objs j u (hobs j u hj)) hg
    exact ⟨hgrow.block g h2 (fun e' => hsep j u hj g hg e'.symm), h3⟩
  have hvblk : ∀ g, blkOf v' = some g → v'.ownBlock = some g := by
    intro g hg
    rcases hown'.2 with ⟨rfl, _⟩ | ⟨g', cap, cur, rfl, _⟩
    · simp [blkOf, Value.ownBlock] at hg
    · simpa [blkOf, Value.ownBlock] using hg
  -- the old state without the row
  have hrel : RelS W0 S0 E.n S β { slots := st.slots, obs := obs1, ctr := st.ctr, par := st.par } a w := rel_sub h hobs
  unfold mkRow at hnew
  split at hnew
  · split at hnew
    · rename_i hfr
      refine hK _ _ _ hnew (rel_new (nv := v') (S' := S) (obs1 := obs1) hrel hfr (fun _ _ h => h) hgr hsame (fun _ h => h) hold hd ⟨zs, hown', hrepz.mono hsame (fun _ h => h), hrep', hSv'⟩ (fun g hg => hup' g (hvblk g hg)) (fun j u hj g hg hg' => ?_) ?_)
      · rcases hblk with e1 | e1
        · exact hsep j u hj g hg (e1 ▸ hvblk g hg')
        · have := hvblk g hg'
          rw [e1] at this
          injection this with this
          have := (orep_blk (hrel.objs j u hj) hg).2.1
          omega
      · intro e' sz' rows' m' hl'
        simp
    · exact hnew.elim
  · refine hK _ _ _ hnew ⟨fun g => S g ∨ v'.ownBlock = some g, β, ?_⟩
    have hS2 : ∀ g, S g → (S g ∨ v'.ownBlock = some g) := fun g h => Or.inl h
    -- step the world, then the slot
    have hob : (St.put { slots := st.slots, obs := obs1, ctr := st.ctr, par := st.par } o.dst (.sl (sy .app rows src))).obs = obs1 := by cases o.dst <;> rfl
    have hct : (St.put { slots := st.slots, obs := obs1, ctr := st.ctr, par := st.par } o.dst (.sl (sy .app rows src))).ctr = st.ctr := by cases o.dst <;> rfl
    have hxv : SRep w' (fun g => S g ∨ v'.ownBlock = some g) β obs1 (.sl (sy .app rows src)) v' := srep_c (repc_of_own (rows := rows ++ src) hown' (hrepz.mono hsame hS2) hrep' (fun g hg => Or.inr hg))
    refine ⟨⟨hgr.os, hgr.tape, hgr.output, hgr.size, hgr.block, fun g hg => Or.inl (hgr.sub g hg), fun g hg => ?_, fun g hg => ?_⟩, by cases o.dst <;> exact h.par, by rw [put_defers]; exact h.defers, by rw [put_size]; exact h.size, fun t y hty => ?_, ?_, ?_, ?_, ?_, by rw [hct]; exact h.parc, by rw [hob]; exact hrel.fix⟩
    · rcases hg with hg | hg
      · exact hgr.new g hg
      · exact .inr (hup' g hg)
    · rcases hg with hg | hg
      · exact hgr.lt g hg
      · exact (hlt' g hg).2
    · rw [hob]
      cases hdst : o.dst with
      | none =>
        rw [hdst] at hty
        obtain ⟨h1, h2⟩ := hrel.slots t y hty
        exact ⟨h1, srep_mono hsame hS2 h2⟩
      | some d =>
        rw [hdst] at hty hd
        have hdn : d < E.n := by simpa [okD] using hd
        rw [getD_put _ _ _ _ (by rw [h.size]; exact hdn)]
        simp only [St.put, lk] at hty
        by_cases e : d = t
        · rw [if_pos e] at hty
          injection hty with hty
          subst hty e
          exact ⟨hdn, by rw [if_pos rfl]; exact hxv⟩
        · rw [if_neg e] at hty
          obtain ⟨h1, h2⟩ := hrel.slots t y hty
          exact ⟨h1, by rw [if_neg (fun h => e h.symm)]; exact srep_mono hsame hS2 h2⟩
    · rw [hob]
      intro k u hu
      refine orep_mono hsame hS2 (fun g hg => ⟨(hold k u hu g hg).1, fun hs => ?_⟩) (hrel.objs k u hu)
      rcases hs with hs | hs
      · exact (hold k u hu g hg).2 hs
      · rcases hblk with e1 | e1
        · exact hsep k u hu g hg (e1 ▸ hs)
        · rw [e1] at hs
          injection hs with hs
          have := (orep_blk (hrel.objs k u hu) hg).2.1
          omega
    · rw [hob]; exact hrel.up
    · rw [hob]; exact hrel.sep
    · rw [hob, hct]; exact hrel.ctr
end Go.Proofs.Ytljpmnifkccbdaa.Am
