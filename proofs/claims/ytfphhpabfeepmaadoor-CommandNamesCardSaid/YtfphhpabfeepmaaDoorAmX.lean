import Derived.Test.YtfphhpabfeepmaaDoorAm16
set_option linter.unusedVariables false
set_option linter.unusedSimpArgs false
namespace Go.Proofs.YtfphhpabfeepmaaDoor.Am
open Go Go.RowKit
section
variable {P : Program} {E : En}

/-! ### 17b. A literal that is appended to -/
theorem good_lit {ev : Operand → Option AV} {obs : Obs} {t n : Nat} {parts : Array (Nat × Operand)} {rows : List (List AV)} {ti : TI} {e esz bytes : Nat} (ht : TOK P t ti) (hk : ti.kind = .sli e esz bytes) (hp : partRows ev esz 0 parts.toList = some rows) (hn : rows.length = n) (hb : n * esz ≤ 16777216) :
    Good P ev obs (.buildSlice t n parts) (.lit rows) := by
  intro a w S β B hS hgd hev ho oper hop K Q hK
  obtain ⟨xs, hrun, hr, hl, hxl, hpos⟩ := run_buildSlice ht hk hp hn hb hev hop
  refine wp_val (w' := w.alloc (.cells xs.toArray e (0, 0))) (v := .slice (some ⟨w.heap.size, 0, none⟩) n n) hrun (hK _ _ (fun g => S g ∨ g = w.heap.size) (gr_new hS _) ?_)
  rw [← hn]
  refine srep_of_rep (.lit (repc_of_block (heap_alloc_new w _) (.inr rfl) hl (hr.mono ((gr_new hS _).same hS) (fun _ h => Or.inl h)) ?_ (Nat.le_refl _) ?_))
  · rw [List.take_of_length_le]
    have := hr.1
    rw [flatten_len rows hl] at this
    simp; omega
  · have : rows.length ≤ rows.length * esz := Nat.le_mul_of_pos_right _ hpos
    rw [hn] at this ⊢
    omega
theorem good_appLit {ev : Operand → Option AV} {t e esz bytes : Nat} {s x : Operand} {ti : TI} {rows src : List (List AV)} (ht : TOK P t ti) (hk : ti.kind = .sli e esz bytes) (hs : ev s = some (.lit rows)) (hx : ev x = some (.sl src))
    (hlr : ∀ r ∈ rows, r.length = esz) (hls : ∀ r ∈ src, r.length = esz) (hb : (rows.length + src.length) * bytes ≤ 140737488355328) (hne : rows ≠ []) :
    Good P ev [] (.call { callee := .builtin .append, args := #[s, x], argTypes := #[t, t] }) (.sl (rows ++ src)) := by
  intro a w S β B hS hgd hev ho oper hop K Q hK
  have hkd := ht.kind
  rw [hk] at hkd
  obtain ⟨hu, ⟨hpos, hposb⟩, inf, z, hinf, hz, hsz, hby, hzs⟩ := hkd
  have hlen : rows.length + src.length ≤ maxLen := by
    have h1 : (rows.length + src.length) * 1 ≤ (rows.length + src.length) * bytes := Nat.mul_le_mul_left _ hposb
    unfold maxLen
    omega
  have hall : ∀ r ∈ rows ++ src, r.length = esz := fun r hr => by
    rcases List.mem_append.1 hr with h | h
    · exact hlr r h
    · exact hls r h
  have h1 : Rep w S (.lit rows) (a.eval s) := hev s (by simp [Op.operands, Call.operands]) _ hs
  obtain ⟨ad0, ev0, hr0⟩ : ∃ ad, a.eval s = .slice ad rows.length rows.length ∧ RepC w S (.sl rows) (.slice ad rows.length rows.length) := by
    generalize a.eval s = v at h1
    cases h1 with
    | c h => cases h
    | lit h => exact ⟨_, rfl, h⟩
  have hso : ∀ k o, lk k ([] : Obs) = some o → ORep w S B (β k) o := ho
  have hy : SRep w S β [] (.sl src) (a.eval x) := hev x (by simp [Op.operands, Call.operands]) _ hx
  rcases src_ok (obs := []) hso (y := .sl rows) rfl (srep_c hr0) hlr hpos with ⟨_, he⟩ | ⟨ad, c, olds, he, hor, hoc⟩
  · exact absurd he hne
  have hc : c = rows.length := by injection he with _ _ h; exact h.symm
  subst hc
  have hv : a.eval s = .slice (some ad) rows.length rows.length := ev0.trans he
  have hol : olds.length = rows.length * esz := by rw [← hor.1, flatten_len rows hlr]
  rcases src_ok (obs := []) hso rfl hy hls hpos with ⟨hx0, rfl⟩ | ⟨bd, c2, news, hx0, hnr, hnc⟩
  · refine wp_val (w' := w) (v := .slice (some ad) rows.length rows.length) ?_ (hK _ _ _ (Gr.refl hS) ?_)
    · simp [execOp, hop, resolve, invoke, builtin, hv, hx0, Builtin.append_, run_underlying hu, sizeOf, typeInfo, hinf, Builtin.lenOf, Builtin.firstCells, storeCells]
    · rw [List.append_nil, ← he]; exact srep_c hr0
  · have hnl : news.length = src.length * esz := by rw [← hnr.1, flatten_len src hls]
    by_cases h0 : src.length = 0
    · have hs0 : src = [] := List.eq_nil_of_length_eq_zero h0
      subst hs0
      have hn0 : news = [] := List.eq_nil_of_length_eq_zero (by rw [hnl]; simp)
      subst hn0
      refine wp_val (w' := w) (v := .slice (some ad) rows.length rows.length) ?_ (hK _ _ _ (Gr.refl hS) ?_)
      · simp [execOp, hop, resolve, invoke, builtin, hv, hx0, Builtin.append_, run_underlying hu, sizeOf, typeInfo, hinf, Builtin.lenOf, Builtin.firstCells, storeCells, loadCells, loadCellsFrom]
      · rw [List.append_nil, ← he]; exact srep_c hr0
    · have hrun := run_append_grow (P := P) w t oper.type e inf z hu hinf hz ad rows.length rows.length olds (by rw [hsz]; exact hol) hoc bd src.length c2 news (by rw [hsz]; exact hnl) hnc (by omega) (by simp only [maxLen] at hlen; omega) (growslice_fits (by omega) (by rw [hby]; exact hb))
      have hge := grownCap_ge w (rows.length + src.length) rows.length e
      have hl2 : (rows ++ src).length = rows.length + src.length := List.length_append
      generalize grownCap w (rows.length + src.length) rows.length e = cap at hrun hge
      obtain ⟨cur, hcur⟩ : ∃ cur, cur = olds.toArray ++ news.toArray ++ Builtin.zeroCells z.cells (cap - (rows.length + src.length)) := ⟨_, rfl⟩
      rw [← hcur] at hrun
      obtain ⟨w1, hw1⟩ : ∃ w1, w1 = w.drew.alloc (.cells cur e) := ⟨_, rfl⟩
      rw [← hw1] at hrun
      have hbel : Below w.heap.size w w1 := by rw [hw1]; exact (Below.drew (Below.refl _ w)).alloc (Nat.le_refl _) _
      have hsz1 : w1.heap.size = w.heap.size + 1 := by rw [hw1]; simp
      have hnew : w1.heap[w.heap.size]? = some (.cells cur e (0, 0)) := by rw [hw1]; exact heap_alloc_new w.drew _
      have hgr : Gr w S w1 (fun g => S g ∨ g = w.heap.size) := ⟨hbel, fun _ h => .inl h, fun g h => h.imp id (fun e => by omega), fun g h => by
        rcases h with h | h
        · have := hS g h; omega
        · omega⟩
      have hol2 : (olds ++ news).length = (rows ++ src).length * esz := by rw [List.length_append, hol, hnl, hl2, Nat.add_mul]
      have hrep : RepC w1 (fun g => S g ∨ g = w.heap.size) (.sl (rows ++ src)) (.slice (some ⟨w.heap.size, 0, none⟩) (rows ++ src).length cap) := by
        refine repc_of_block hnew (.inr rfl) hall (xs := olds ++ news) ?_ ?_ (by rw [hl2]; exact hge) (by rw [hl2]; simp only [maxLen] at hlen; omega)
        · rw [List.flatten_append]
          exact (hor.append hnr).mono (hgr.same hS) (fun _ h => Or.inl h)
        · rw [hcur]
          simp only [Array.toList_append, List.append_assoc]
          rw [← List.append_assoc, ← hol2]
          exact List.take_left
      rw [hl2] at hrep
      exact wp_val (w' := w1) (v := .slice (some ⟨w.heap.size, 0, none⟩) (rows.length + src.length) cap) (by simp [execOp, hop, resolve, invoke, builtin, hv, hx0, hrun]) (hK _ _ _ hgr (srep_c hrep))
section
variable (F : Sy) (C : Key → List AV → Res → Prop) (E : En)
/-- dop, and a literal that is kept, and what is appended to one. -/
def dopL (ev : Operand → Option AV) (o : Oper) (K : AV → Prop) : Prop :=
  match o.op with
  | .buildSlice t n ps => if isK E.keep o.dst = true then (match gam t with
    | some ti => (match ti.kind with
      | .sli e esz bytes => (match partRows ev esz 0 ps.toList with
        | some rows => if rows.length = n then (if n * esz ≤ 16777216 then K (.lit rows) else False) else False
        | none => False)
      | _ => False)
    | none => False) else dop F C ev [] o.op K
  | .call { callee := .builtin .append, args, argTypes } => (match args.toList, argTypes.toList with
    | [s, x], [t, t'] => if t = t' then (match gam t, ev s, ev x with
      | some ti, some (.lit rows), some (.sl src) => (match ti.kind with
        | .sli e esz bytes => rows ≠ [] ∧ (∀ r ∈ rows, r.length = esz) ∧ (∀ r ∈ src, r.length = esz) ∧ (F .len rows + F .len src) * (bytes : Int) ≤ 140737488355328 ∧ K (.sl (F .app rows src))
        | _ => False)
      | _, _, _ => False) else False
    | _, _ => False)
  | .call { callee := .value _, args := _, argTypes := _ } => dop F C ev [] o.op (fun x => match x with
    | .tup vs => if vs.all okArg = true then K (.ftp vs) else False
    | x => K x)
  | .extract x i => (match ev x with
    | some (.ftp vs) => (match vs[i]? with
      | some a => K a
      | none => False)
    | _ => dop F C ev [] o.op K)
  | _ => dop F C ev [] o.op K
end
theorem good_ftp {ev : Operand → Option AV} {op : Op} {vs : List AV} (hv : vs.all okArg = true) (h : Good P ev [] op (.tup vs)) : Good P ev [] op (.ftp vs) := by
  intro a w S β B hS hgd hev ho oper hop K Q hK
  refine h a w S β B hS hgd hev ho oper hop K Q fun v w' S' hg hr => hK v w' S' hg ?_
  obtain ⟨ys, rfl, hl, hc⟩ := (show ∃ ys : List Value, v = .tuple ys.toArray ∧ vs.length = ys.length ∧ ∀ (i : Nat) (u : AV) (x : Value), vs[i]? = some u → ys[i]? = some x → SRep0 w' S' β [] u x from hr)
  refine srep_of_rep (.ftp hl fun i u x hu hx => ?_)
  have h1 := List.all_eq_true.1 hv u (List.mem_of_getElem? hu)
  have h2 := hc i u x hu hx
  cases u <;> first | exact h2 | simp [okArg] at h1
theorem good_extF {ev : Operand → Option AV} {x : Operand} {i : Nat} {vs : List AV} {u : AV} (hx : ev x = some (.ftp vs)) (hu : vs[i]? = some u) : Good P ev [] (.extract x i) u := by
  intro a w S β B hS hgd hev ho oper hop K Q hK
  have h1 : Rep w S (.ftp vs) (a.eval x) := hev x (by simp [Op.operands]) _ hx
  obtain ⟨xs, hv, hl, hc⟩ : ∃ xs : List Value, a.eval x = .tuple xs.toArray ∧ vs.length = xs.length ∧ ∀ (i : Nat) (u : AV) (x : Value), vs[i]? = some u → xs[i]? = some x → Rep w S u x := by
    generalize a.eval x = v at h1
    cases h1 with
    | c h => cases h
    | ftp hl h => exact ⟨_, rfl, hl, h⟩
  have hi : i < xs.length := by rw [← hl]; exact (List.getElem?_eq_some_iff.1 hu).1
  exact wp_val (w' := w) (v := xs[i]) (by simp [execOp, hop, hv, Instr.extract, hi]) (hK _ _ _ (Gr.refl hS) (srep_of_rep (hc i u _ hu (List.getElem?_eq_getElem hi))))
theorem dopL_ok (hΓ : TOKs P) {ev : Operand → Option AV} {o : Oper} {K : AV → Prop} (h : dopL sy (CSem P) E ev o K) : ∃ x, K x ∧ Good P ev [] o.op x := by
  unfold dopL at h
  split at h
  · rename_i t n ps hop
    rw [hop]
    split at h
    · split at h
      · rename_i ti hti
        split at h
        · rename_i e esz bytes hkd
          split at h
          · rename_i rows hp
            split at h
            · rename_i hn
              split at h
              · rename_i hb
                exact ⟨_, h, good_lit (hΓ t ti hti) hkd hp hn hb⟩
              · exact h.elim
            · exact h.elim
          · exact h.elim
        · exact h.elim
      · exact h.elim
    · obtain ⟨x, hk, hg⟩ := dop_ok hΓ h; exact ⟨x, hk, hop ▸ hg⟩
  · rename_i args ats hop
    rw [hop]
    split at h
    · rename_i s x t t' ha hat
      split at h
      · rename_i htt
        subst htt
        split at h
        · rename_i ti rows src hti hs hx
          split at h
          · rename_i e esz bytes hkd
            obtain ⟨h1, h2, h3, h4, h5⟩ := h
            have e1 : args = #[s, x] := by rw [← Array.toList_inj]; simpa using ha
            have e2 : ats = #[t, t] := by rw [← Array.toList_inj]; simpa using hat
            subst e1 e2
            refine ⟨_, h5, good_appLit (hΓ t ti hti) hkd hs hx h2 h3 ?_ h1⟩
            have h4 : ((rows.length : Int) + (src.length : Int)) * (bytes : Int) ≤ 140737488355328 := h4
            have : (((rows.length + src.length) * bytes : Nat) : Int) ≤ 140737488355328 := by rw [Int.natCast_mul, Int.natCast_add]; exact h4
            omega
          · exact h.elim
        · exact h.elim
      · exact h.elim
    · exact h.elim
  · obtain ⟨x, hk, hg⟩ := dop_ok hΓ h
    split at hk
    · split at hk
      · rename_i hv
        exact ⟨_, hk, good_ftp hv hg⟩
      · exact hk.elim
    · exact ⟨_, hk, hg⟩
  · rename_i x i hop
    split at h
    · rename_i vs hx
      split at h
      · rename_i u hu
        exact ⟨_, h, hop ▸ good_extF hx hu⟩
      · exact h.elim
    · exact dop_ok hΓ h
  · exact dop_ok hΓ h
end
section
variable {P : Program} {W0 : Bas} {S0 : Nat → Prop} {E : En}

/-! ### 18. Regions whose order is open, with new objects -/
/-- Objects renamed. -/
def rnF (κ : Nat → Nat) : AV → AV
  | .own k v => .own (κ k) v
  | .ptr k o => .ptr (κ k) o
  | .rel k v m i cs o => .rel (κ k) v m i cs o
  | .osl k v lo => .osl (κ k) v lo
  | x => x
theorem rel_ren {n : Nat} {s s' : St} {a : Act} {w : World} (κ : Nat → Nat) (hsl : ∀ t x, lk t s'.slots = some x → (∀ v vs, x ≠ .tup (v :: vs)) ∧ lk t s.slots = some (rnF κ x)) (hob : ∀ k o, lk k s'.obs = some o → lk (κ k) s.obs = some o)
    (hinj : ∀ k k' o o', lk k s'.obs = some o → lk k' s'.obs = some o' → κ k = κ k' → k = k') (hct : ∀ k o, lk k s'.obs = some o → k < s'.ctr) (hpar : s'.par = s.par) (hpc : s.par ≤ s'.ctr) (hp1 : ∀ k, k < s.par → κ k = k) (hp2 : ∀ k o, lk k s'.obs = some o → κ k < s.par → k < s.par) (h : Rel W0 S0 n s a w) : Rel W0 S0 n s' a w := by
  obtain ⟨S, β, hr⟩ := h
  have hpp : s.par = W0.par := hr.par
  refine ⟨S, fun k => β (κ k), hr.gr, by rw [hpar]; exact hr.par, hr.defers, hr.size, fun t x ht => ?_, fun k o hk => hr.objs _ _ (hob k o hk), fun k o g hk hg => ?_, fun k k' o o' hk hk' hne => ?_, fun k o hk => hct k o hk, by rw [← hpp]; exact hpc, fun k o hp hk => ?_⟩
  · obtain ⟨hnt, hx⟩ := hsl t x ht
    obtain ⟨h4, h5⟩ := hr.slots t _ hx
    refine ⟨h4, ?_⟩
    cases x <;> try exact h5
    · rename_i k v
      intro e sz rows m hk
      exact (show ∀ e sz rows m, lk (κ k) s.obs = some (.row e sz rows v m) → a.tmps.getD t undef = β (κ k) from h5) _ _ _ _ (hob _ _ hk)
    · rename_i k v m i cs off
      intro e sz rows m' hk
      exact (show RelP β s.obs (κ k) v m i cs off (a.tmps.getD t undef) from h5) _ _ _ _ (hob _ _ hk)
    · rename_i k v lo
      intro e sz rows m' hk
      exact (show ∀ e sz rows m, lk (κ k) s.obs = some (.row e sz rows v m) → OslP β (κ k) lo sz rows.length (a.tmps.getD t undef) from h5) _ _ _ _ (hob _ _ hk)
    · rename_i vs
      cases vs with
      | nil => rw [tup_nil_inv h5]; exact tup_nil
      | cons v vs => exact absurd rfl (hnt v vs)
  · have := hr.up _ _ g (hob k o hk) hg
    by_cases hlt : k < W0.par
    · rw [if_pos hlt]
      rw [if_pos (by rw [hp1 k (by rw [hpp]; exact hlt)]; exact hlt)] at this
      exact this
    · rw [if_neg hlt]
      rw [if_neg (fun h => hlt (by rw [← hpp]; exact hp2 k o hk (by rw [hpp]; exact h)))] at this
      exact this
  · exact hr.sep _ _ _ _ (hob k o hk) (hob k' o' hk') (fun e => hne (hinj k k' o o' hk hk' e))
  · have h7 := hp1 k (by rw [hpp]; exact hp)
    have h8 := hob k o hk
    rw [h7] at h8 ⊢
    exact hr.fix k o hp h8
/-- A value without objects. -/
def freeV : AV → Bool
  | .tup _ => false
  | x => fr0 0 x
theorem good_free {ev : Operand → Option AV} {op : Op} {x : AV} (h : Good P ev [] op x) (hx : freeV x = true) (obs : Obs) : Good P ev obs op x := by
  intro a w S β B hS hgd hev ho oper hop K Q hK
  refine h a w S β B hS hgd (fun o ho u hu => srep_sub (fun j o h => by simp [lk] at h) (hev o ho u hu)) (fun k o h => by simp [lk] at h) oper hop K Q (fun v w' S' hg hv => hK v w' S' hg ?_)
  refine srep_obs (c := 0) (fun j hj => rfl) (fun j o hj => by omega) ?_ hv
  by_cases ht : ∃ vs, x = .tup vs
  · obtain ⟨vs, rfl⟩ := ht
    simp [freeV] at hx
  · refine .inr ⟨fun vs e => ht ⟨vs, e⟩, ?_⟩
    cases x <;> first | exact hx | exact absurd ⟨_, rfl⟩ ht
/-- What an operation does with objects: nothing; it makes one; it appends to that of operation m, which goes, and makes one; it stores into that of operation m. -/
inductive Kd where
  | plain
  | mk (o : Ob)
  | app (m : Nat) (o : Ob)
  | sto (m : Nat) (o : Ob)
section
variable (F : Sy) (C : Key → List AV → Res → Prop) (E : En)
/-- Is it one that makes an object, or stores? -/
def mainB (o : Oper) : Bool :=
  match o.op with
  | .alloc _ => true
  | .store _ _ _ => true
  | .buildSlice _ _ ps => ps.toList.isEmpty
  | .call { callee := .builtin .append, args := _, argTypes := _ } => isK E.keep o.dst
  | _ => false
def mvOf (o : Oper) : Option Operand :=
  match o.op with
  | .move x => some x
  | .assign x => some x
  | _ => none
/-- The region in the text's order: i operations are behind us, these objects have been used up. -/
def adx (all : List Oper) (K0 : Nat) : List Oper → Nat → List Nat → (St → Prop) → St → Prop
  | [], i, used, K, st => K { slots := st.slots, obs := st.obs, ctr := K0 + all.length, par := st.par }
  | o :: rest, i, used, K, st => if okD E.n o.dst = true then (match o.guard with
    | some _ => False
    | none => if mainB E o = true then (match o.op with
        | .alloc t => if isK E.keep o.dst = true then (match gam t with
          | some ti => adx all K0 rest (i + 1) used K (St.put { slots := st.slots, obs := (K0 + i, .box t ti.zero false) :: st.obs, ctr := st.ctr, par := st.par } o.dst (.ptr (K0 + i) 0))
          | none => False) else False
        | .buildSlice t n ps => if isK E.keep o.dst = true then (match gam t with
          | some ti => (match ti.kind with
            | .sli e esz bytes => if n = 0 then adx all K0 rest (i + 1) used K (St.put { slots := st.slots, obs := (K0 + i, .row e esz [] 0 0) :: st.obs, ctr := st.ctr, par := st.par } o.dst (.own (K0 + i) 0)) else False
            | _ => False)
          | none => False) else False
        | .call { callee := .builtin .append, args, argTypes } => (match args.toList, argTypes.toList with
          | [s, x], [t, t'] => if t = t' then (match gam t, ev st s, ev st x with
            | some ti, some (.own k 0), some (.sl src) => (match ti.kind, lk k st.obs with
              | .sli e esz bytes, some (.row e' sz' rows 0 m) => if e' = e then (if sz' = esz then (if Nat.ble K0 k = true then (if memN k used = false then (if ahead all (k - K0) o = true then
                  (∀ r ∈ src, r.length = esz) ∧ (F .len rows + F .len src) * (bytes : Int) ≤ 140737488355328 ∧ adx all K0 rest (i + 1) (k :: used) K (St.put { slots := st.slots, obs := (K0 + i, .row e esz (F .app rows src) 0 0) :: del k st.obs, ctr := st.ctr, par := st.par } o.dst (.own (K0 + i) 0))
                  else False) else False) else False) else False) else False
              | _, _ => False)
            | _, _, _ => False) else False
          | _, _ => False)
        | .store t x v => (match o.dst with
          | some _ => False
          | none => (match gam t, ev st x, ev st v with
            | some ti, some (.ptr k 0), some u => (match lk k st.obs, cellsOf u with
              | some (.box ty cs false), some ds => if ds.length = ti.size then (if Nat.ble K0 k = true then (if memN k used = false then (if ahead all (k - K0) o = true then (match setCells 0 ds cs with
                | some cs' => adx all K0 rest (i + 1) (k :: used) K { slots := st.slots, obs := (k, .box ty cs' false) :: del k st.obs, ctr := st.ctr, par := st.par }
                | none => False) else False) else False) else False) else False
              | _, _ => False)
            | _, _, _ => False))
        | _ => False)
      else match mvOf o with
        | some x => (match ev st x with
          | some u => adx all K0 rest (i + 1) used K (st.put o.dst u)
          | none => False)
        | none => dopL F C E (ev st) o (fun x => if freeV x = true then adx all K0 rest (i + 1) used K (st.put o.dst x) else False)) else False
end
/-- of_text, for a function some of whose cuts are shown over the program itself. -/
theorem of_textS (hΓ : TOKs P) (hm : P.follows .mixedOrders = true) (E : En) {f : Nat} {fn : Func} {c : Code} {args : List AV} {res : Res} (hf : P.funcs[f]? = some fn) (hname : (fn.name == "runtime.NumGoroutine") = false) (hb : fn.body = some c) (hn : fn.ntmps = E.n) (ha : args.length ≤ E.n) (h4 : fn.results.toList.length ≤ 4)
    (h : ∀ (F : Sy) (C : Key → List AV → Res → Prop) (D : Code → (AE → St → Prop) → St → Prop), F = sy → (∀ k as r, CSem P k as r → C k as r) → (∀ c Q s, awp F C D E c Q s → D c Q s) → (∀ c Q s, (∀ c' Q' s', D c' Q' s' → Snd P E c' Q' s') → Snd P E c Q s → D c Q s) → (∀ c' Q' s', D c' Q' s' → Snd P E c' Q' s') → awp F C D E c (fun e st => match e with | .normal => retOK fn.results.toList res st | .ret => retOK fn.results.toList res st | .exit _ => False) { slots := st0 0 args, obs := [], ctr := 0 }) : CSem P (.fn f) args res := by
  refine fsem_of (fun as w => ?_) (acalls_of0 E hΓ hm hf hb hn ha h4 (h sy (CSem P) (Snd P E) rfl (fun _ _ _ h => h) (fun c Q s h W0 S0 R a w hr hq => awp_ok hΓ hm c Q R s a w h hr hq) (fun c Q s _ h => h) (fun _ _ _ h => h)))
  have h1 : fn.name ≠ "runtime.NumGoroutine" := by simpa using hname
  simp [callFunc, hf, h1, hb]
end
section
variable {P : Program} {W0 : Bas} {S0 : Nat → Prop} {E : En}

def obOf : Kd → Option Ob
  | .mk o => some o
  | .app _ o => some o
  | _ => none
def usr : Kd → Option Nat
  | .app m _ => some m
  | .sto m _ => some m
  | _ => none
/-- The slots: what the operations ahead put; else what stood there. -/
def SrcX (all : List Oper) (st0 : St) (X : Nat → AV) (i : Nat) (st : St) : Prop :=
  (∀ j t, j < i → dstOf all j = some t → lk t st.slots = some (X j)) ∧ ∀ t, (∀ j, j < i → dstOf all j ≠ some t) → lk t st.slots = lk t st0.slots
def ObX (st0 : St) (K0 : Nat) (KD : Nat → Kd) (i : Nat) (used : List Nat) (obs : Obs) : Prop :=
  (∀ k, k < K0 → lk k obs = lk k st0.obs) ∧ (∀ m, m < i → memN (K0 + m) used = false → lk (K0 + m) obs = obOf (KD m)) ∧ (∀ m, memN (K0 + m) used = true ↔ ∃ j, j < i ∧ usr (KD j) = some m) ∧
    (∀ k o, lk k obs = some o → k < K0 ∨ ∃ m, m < i ∧ k = K0 + m ∧ (memN k used = false ∨ ∃ j, j < i ∧ KD j = .sto m o)) ∧ ∀ m, memN (K0 + m) used = true → m < i
inductive StepX (P : Program) (E : En) (all : List Oper) (st0 : St) (K0 : Nat) (X : Nat → AV) (KD : Nat → Kd) (i : Nat) (o : Oper) (sti : St) : Prop
  | free (hk : KD i = .plain) (hx : freeV (X i) = true) (hg : ∀ obs, Good P (ev sti) obs o.op (X i))
  | move (hk : KD i = .plain) (x : Operand) (hm : mvOf o = some x) (hx : ev sti x = some (X i))
  | alloc (t : Nat) (ti : TI) (hop : o.op = .alloc t) (hkp : isK E.keep o.dst = true) (ht : gam t = some ti) (hk : KD i = .mk (.box t ti.zero false)) (hx : X i = .ptr (K0 + i) 0)
  | lit (t : Nat) (ps : Array (Nat × Operand)) (ti : TI) (e esz bytes : Nat) (hop : o.op = .buildSlice t 0 ps) (hps : ps.toList = []) (hkp : isK E.keep o.dst = true) (ht : gam t = some ti) (hkd : ti.kind = .sli e esz bytes) (hk : KD i = .mk (.row e esz [] 0 0)) (hx : X i = .own (K0 + i) 0)
  | app (s x : Operand) (args : Array Operand) (ats : Array TypeId) (t : Nat) (ti : TI) (e esz bytes m mv : Nat) (rows src : List (List AV)) (hop : o.op = .call { callee := .builtin .append, args := args, argTypes := ats }) (ha : args.toList = [s, x]) (hat : ats.toList = [t, t]) (hkp : isK E.keep o.dst = true) (ht : gam t = some ti)
      (hkd : ti.kind = .sli e esz bytes) (hs : ev sti s = some (.own (K0 + m) 0)) (hy : ev sti x = some (.sl src)) (hmi : m < i) (hom : obOf (KD m) = some (.row e esz rows 0 mv)) (hu : ∀ j, j < i → usr (KD j) ≠ some m) (hah : Ahead all m o) (hl : ∀ r ∈ src, r.length = esz) (hb : (sy .len rows + sy .len src) * (bytes : Int) ≤ 140737488355328)
      (hk : KD i = .app m (.row e esz (rows ++ src) 0 0)) (hx : X i = .own (K0 + i) 0)
  | sto (t : Nat) (x v : Operand) (ti : TI) (ty m : Nat) (cs cs' ds : List AV) (u : AV) (hop : o.op = .store t x v) (hd : o.dst = none) (ht : gam t = some ti) (hx1 : ev sti x = some (.ptr (K0 + m) 0)) (hv : ev sti v = some u) (hc : cellsOf u = some ds) (hl : ds.length = ti.size) (hs : setCells 0 ds cs = some cs') (hmi : m < i)
      (hom : obOf (KD m) = some (.box ty cs false)) (hu : ∀ j, j < i → usr (KD j) ≠ some m) (hah : Ahead all m o) (hk : KD i = .sto m (.box ty cs' false)) (hx : X i = .tup [])
def StepX' (P : Program) (E : En) (all : List Oper) (st0 : St) (K0 : Nat) (X : Nat → AV) (KD : Nat → Kd) (i : Nat) (o : Oper) : Prop :=
  okD E.n o.dst = true ∧ o.guard = none ∧ ∃ sti, SrcX all st0 X i sti ∧ StepX P E all st0 K0 X KD i o sti
theorem SrcX.congr {all : List Oper} {st0 st : St} {X X' : Nat → AV} {i : Nat} (h : SrcX all st0 X i st) (hx : ∀ j, j < i → X' j = X j) : SrcX all st0 X' i st :=
  ⟨fun j t hj ht => by rw [hx j hj]; exact h.1 j t hj ht, h.2⟩
theorem SrcX.put {all : List Oper} {st0 st : St} {X : Nat → AV} {i : Nat} {d : Option Nat} (h : SrcX all st0 X i st) (hd : dstOf all i = d) (hdis : ∀ j t, j < i → dstOf all j = some t → d ≠ some t) (obs : Obs) (c p : Nat) : SrcX all st0 X (i + 1) (St.put { slots := st.slots, obs := obs, ctr := c, par := p } d (X i)) := by
  have get : ∀ t, d ≠ some t → lk t (St.put { slots := st.slots, obs := obs, ctr := c, par := p } d (X i)).slots = lk t st.slots := fun t hne => by
    cases d with
    | none => rfl
    | some d =>
      simp only [St.put, lk]
      rw [if_neg (fun e => hne (by rw [e]))]
  refine ⟨fun j t hj ht => ?_, fun t ht => ?_⟩
  · by_cases e : j = i
    · subst e
      rw [hd] at ht
      subst ht
      simp [St.put, lk]
    · rw [get t (hdis j t (by omega) ht)]
      exact h.1 j t (by omega) ht
  · have hne : d ≠ some t := by have := ht i (Nat.lt_succ_self i); rwa [hd] at this
    rw [get t hne]
    exact h.2 t fun j hj => ht j (by omega)
theorem memN_cons (k x : Nat) (l : List Nat) : memN k (x :: l) = if x = k then true else memN k l := rfl
theorem StepX.congr {all : List Oper} {st0 sti : St} {K0 : Nat} {X X' : Nat → AV} {KD KD' : Nat → Kd} {i : Nat} {o : Oper} (h : StepX P E all st0 K0 X KD i o sti) (hx : X' i = X i) (hk : ∀ j, j ≤ i → KD' j = KD j) : StepX P E all st0 K0 X' KD' i o sti := by
  have hi := hk i (Nat.le_refl _)
  cases h with
  | free a b c => exact .free (by rw [hi]; exact a) (by rw [hx]; exact b) (by rw [hx]; exact c)
  | move a x b c => exact .move (by rw [hi]; exact a) x b (by rw [hx]; exact c)
  | alloc t ti a b c d e => exact .alloc t ti a b c (by rw [hi]; exact d) (by rw [hx]; exact e)
  | lit t ps ti e esz bytes a b c d f g k => exact .lit t ps ti e esz bytes a b c d f (by rw [hi]; exact g) (by rw [hx]; exact k)
  | app s x args ats t ti e esz bytes m mv rows src a b c d f g k l hmi hom hu hah hl hb hkk hxx => exact .app s x args ats t ti e esz bytes m mv rows src a b c d f g k l hmi (by rw [hk m (by omega)]; exact hom) (fun j hj => by rw [hk j (by omega)]; exact hu j hj) hah hl hb (by rw [hi]; exact hkk) (by rw [hx]; exact hxx)
  | sto t x v ti ty m cs cs' ds u a b c d f g k l hmi hom hu hah hkk hxx => exact .sto t x v ti ty m cs cs' ds u a b c d f g k l hmi (by rw [hk m (by omega)]; exact hom) (fun j hj => by rw [hk j (by omega)]; exact hu j hj) hah (by rw [hi]; exact hkk) (by rw [hx]; exact hxx)
def upd {α : Type} (f : Nat → α) (i : Nat) (x : α) (j : Nat) : α := if j = i then x else f j
theorem upd_same {α : Type} (f : Nat → α) (i : Nat) (x : α) : upd f i x i = x := by simp [upd]
theorem upd_ne {α : Type} (f : Nat → α) (i : Nat) (x : α) {j : Nat} (h : j ≠ i) : upd f i x j = f j := by simp [upd, h]
theorem ObX.none {st0 : St} {K0 : Nat} {KD : Nat → Kd} {i : Nat} {used : List Nat} {obs : Obs} (h : ObX st0 K0 KD i used obs) : lk (K0 + i) obs = none := by
  cases hl : lk (K0 + i) obs with
  | none => rfl
  | some o =>
    rcases h.2.2.2.1 _ _ hl with h1 | ⟨m, hm, he, _⟩ <;> omega
theorem ObX.plain {st0 : St} {K0 : Nat} {KD : Nat → Kd} {i : Nat} {used : List Nat} {obs : Obs} (h : ObX st0 K0 KD i used obs) : ObX st0 K0 (upd KD i .plain) (i + 1) used obs := by
  have hn := h.none
  obtain ⟨h1, h2, h3, h4, h5⟩ := h
  refine ⟨h1, fun m hm hu => ?_, fun m => ?_, fun k o hk => ?_, fun m hm => Nat.lt_succ_of_lt (h5 m hm)⟩
  · by_cases e : m = i
    · subst e; rw [upd_same, hn]; rfl
    · rw [upd_ne _ _ _ e]; exact h2 m (by omega) hu
  · rw [h3]
    constructor
    · rintro ⟨j, hj, he⟩; exact ⟨j, by omega, by rw [upd_ne _ _ _ (by omega)]; exact he⟩
    · rintro ⟨j, hj, he⟩
      by_cases e : j = i
      · subst e; rw [upd_same] at he; simp [usr] at he
      · rw [upd_ne _ _ _ e] at he; exact ⟨j, by omega, he⟩
  · rcases h4 k o hk with h | ⟨m, hm, he, h⟩
    · exact .inl h
    · refine .inr ⟨m, by omega, he, ?_⟩
      rcases h with h | ⟨j, hj, h⟩
      · exact .inl h
      · exact .inr ⟨j, by omega, by rw [upd_ne _ _ _ (by omega)]; exact h⟩
theorem ObX.mk {st0 : St} {K0 : Nat} {KD : Nat → Kd} {i : Nat} {used : List Nat} {obs : Obs} (h : ObX st0 K0 KD i used obs) (o : Ob) : ObX st0 K0 (upd KD i (.mk o)) (i + 1) used ((K0 + i, o) :: obs) := by
  obtain ⟨h1, h2, h3, h4, h5⟩ := h
  have hnu : memN (K0 + i) used = false := by
    cases hm : memN (K0 + i) used with
    | false => rfl
    | true => have := h5 i hm; omega
  refine ⟨fun k hk => ?_, fun m hm hu => ?_, fun m => ?_, fun k o' hk => ?_, fun m hm => Nat.lt_succ_of_lt (h5 m hm)⟩
  · simp only [lk]; rw [if_neg (by omega)]; exact h1 k hk
  · simp only [lk]
    by_cases e : m = i
    · subst e; rw [upd_same, if_pos rfl]; rfl
    · rw [upd_ne _ _ _ e, if_neg (by omega)]; exact h2 m (by omega) hu
  · rw [h3]
    constructor
    · rintro ⟨j, hj, he⟩; exact ⟨j, by omega, by rw [upd_ne _ _ _ (by omega)]; exact he⟩
    · rintro ⟨j, hj, he⟩
      by_cases e : j = i
      · subst e; rw [upd_same] at he; simp [usr] at he
      · rw [upd_ne _ _ _ e] at he; exact ⟨j, by omega, he⟩
  · simp only [lk] at hk
    split at hk
    · rename_i e
      exact .inr ⟨i, Nat.lt_succ_self i, e.symm, .inl (by rw [← e]; exact hnu)⟩
    · rcases h4 k o' hk with h | ⟨m, hm, he, h⟩
      · exact .inl h
      · refine .inr ⟨m, by omega, he, ?_⟩
        rcases h with h | ⟨j, hj, h⟩
        · exact .inl h
        · exact .inr ⟨j, by omega, by rw [upd_ne _ _ _ (by omega)]; exact h⟩
theorem ObX.app {st0 : St} {K0 : Nat} {KD : Nat → Kd} {i m : Nat} {used : List Nat} {obs : Obs} (h : ObX st0 K0 KD i used obs) (hm : m < i) (o : Ob) : ObX st0 K0 (upd KD i (.app m o)) (i + 1) ((K0 + m) :: used) ((K0 + i, o) :: del (K0 + m) obs) := by
  obtain ⟨h1, h2, h3, h4, h5⟩ := h
  have hnu : memN (K0 + i) used = false := by
    cases hm : memN (K0 + i) used with
    | false => rfl
    | true => have := h5 i hm; omega
  refine ⟨fun k hk => ?_, fun m' hm' hu => ?_, fun m' => ?_, fun k o' hk => ?_, fun m' hm' => ?_⟩
  · simp only [lk]; rw [if_neg (by omega), lk_del, if_neg (by omega)]; exact h1 k hk
  · simp only [memN_cons] at hu
    split at hu
    · simp at hu
    rename_i hne
    simp only [lk]
    by_cases e : m' = i
    · subst e; rw [upd_same, if_pos rfl]; rfl
    · rw [upd_ne _ _ _ e, if_neg (by omega), lk_del, if_neg (by omega)]; exact h2 m' (by omega) hu
  · rw [memN_cons]
    constructor
    · intro hh
      split at hh
      · exact ⟨i, by omega, by rw [upd_same]; simp [usr]; omega⟩
      · obtain ⟨j, hj, he⟩ := (h3 m').1 hh; exact ⟨j, by omega, by rw [upd_ne _ _ _ (by omega)]; exact he⟩
    · rintro ⟨j, hj, he⟩
      by_cases e : j = i
      · subst e; rw [upd_same] at he; simp [usr] at he; rw [if_pos (by omega)]
      · rw [upd_ne _ _ _ e] at he
        split
        · rfl
        · exact (h3 m').2 ⟨j, by omega, he⟩
  · simp only [lk] at hk
    split at hk
    · rename_i e
      exact .inr ⟨i, Nat.lt_succ_self i, e.symm, .inl (by rw [memN_cons, if_neg (by omega), ← e]; exact hnu)⟩
    · rw [lk_del] at hk
      split at hk
      · simp at hk
      · rename_i hne
        rcases h4 k o' hk with h | ⟨m', hm', he, h⟩
        · exact .inl h
        · refine .inr ⟨m', by omega, he, ?_⟩
          rcases h with h | ⟨j, hj, h⟩
          · exact .inl (by rw [memN_cons, if_neg (by omega)]; exact h)
          · exact .inr ⟨j, by omega, by rw [upd_ne _ _ _ (by omega)]; exact h⟩
  · rw [memN_cons] at hm'
    split at hm'
    · omega
    · exact Nat.lt_succ_of_lt (h5 m' hm')
theorem ObX.sto {st0 : St} {K0 : Nat} {KD : Nat → Kd} {i m : Nat} {used : List Nat} {obs : Obs} (h : ObX st0 K0 KD i used obs) (hm : m < i) (o : Ob) : ObX st0 K0 (upd KD i (.sto m o)) (i + 1) ((K0 + m) :: used) ((K0 + m, o) :: del (K0 + m) obs) := by
  have hn := h.none
  obtain ⟨h1, h2, h3, h4, h5⟩ := h
  refine ⟨fun k hk => ?_, fun m' hm' hu => ?_, fun m' => ?_, fun k o' hk => ?_, fun m' hm' => ?_⟩
  · simp only [lk]; rw [if_neg (by omega), lk_del, if_neg (by omega)]; exact h1 k hk
  · simp only [memN_cons] at hu
    split at hu
    · simp at hu
    rename_i hne
    simp only [lk]
    by_cases e : m' = i
    · subst e; rw [upd_same, if_neg (by omega), lk_del, if_neg (by omega), hn]; rfl
    · rw [upd_ne _ _ _ e, if_neg (by omega), lk_del, if_neg (by omega)]; exact h2 m' (by omega) hu
  · rw [memN_cons]
    constructor
    · intro hh
      split at hh
      · exact ⟨i, by omega, by rw [upd_same]; simp [usr]; omega⟩
      · obtain ⟨j, hj, he⟩ := (h3 m').1 hh; exact ⟨j, by omega, by rw [upd_ne _ _ _ (by omega)]; exact he⟩
    · rintro ⟨j, hj, he⟩
      by_cases e : j = i
      · subst e; rw [upd_same] at he; simp [usr] at he; rw [if_pos (by omega)]
      · rw [upd_ne _ _ _ e] at he
        split
        · rfl
        · exact (h3 m').2 ⟨j, by omega, he⟩
  · simp only [lk] at hk
    split at hk
    · rename_i e
      injection hk with hk
      exact .inr ⟨m, by omega, e.symm, .inr ⟨i, Nat.lt_succ_self i, by rw [upd_same, hk]⟩⟩
    · rw [lk_del] at hk
      split at hk
      · simp at hk
      · rename_i hne
        rcases h4 k o' hk with h | ⟨m', hm', he, h⟩
        · exact .inl h
        · refine .inr ⟨m', by omega, he, ?_⟩
          rcases h with h | ⟨j, hj, h⟩
          · exact .inl (by rw [memN_cons, if_neg (by omega)]; exact h)
          · exact .inr ⟨j, by omega, by rw [upd_ne _ _ _ (by omega)]; exact h⟩
  · rw [memN_cons] at hm'
    split at hm'
    · omega
    · exact Nat.lt_succ_of_lt (h5 m' hm')
end
section
variable {P : Program} {W0 : Bas} {S0 : Nat → Prop} {E : En}

theorem adx_tr (hΓ : TOKs P) {all : List Oper} {st0 : St} {K0 : Nat} {K : St → Prop} (hdis : ∀ i j t, dstOf all i = some t → dstOf all j = some t → i = j) : ∀ (rest : List Oper) (i : Nat) (used : List Nat) (st : St) (X : Nat → AV) (KD : Nat → Kd), all.drop i = rest → i ≤ all.length → SrcX all st0 X i st → ObX st0 K0 KD i used st.obs → st.par = st0.par → adx sy (CSem P) E all K0 rest i used K st →
    ∃ (X' : Nat → AV) (KD' : Nat → Kd), (∀ j, j < i → X' j = X j ∧ KD' j = KD j) ∧ (∀ j o, i ≤ j → all[j]? = some o → StepX' P E all st0 K0 X' KD' j o) ∧ ∃ used' stN, K { slots := stN.slots, obs := stN.obs, ctr := K0 + all.length, par := stN.par } ∧ SrcX all st0 X' all.length stN ∧ ObX st0 K0 KD' all.length used' stN.obs ∧ stN.par = st0.par := by
  intro rest
  induction rest with
  | nil =>
    intro i used st X KD hdrop hi hsrc hob hpar h
    have hle : all.length ≤ i := by simpa using hdrop
    have e : i = all.length := by omega
    subst e
    exact ⟨X, KD, fun _ _ => ⟨rfl, rfl⟩, fun j o hj ho => by have := (List.getElem?_eq_some_iff.1 ho).1; omega, used, st, h, hsrc, hob, hpar⟩
  | cons o rest ih =>
    intro i used st X KD hdrop hi hsrc hob hpar h
    have ho : all[i]? = some o := by
      have := congrArg (·[0]?) hdrop
      simpa using this
    have hlt : i < all.length := (List.getElem?_eq_some_iff.1 ho).1
    have hdrop' : all.drop (i + 1) = rest := by
      have := congrArg (List.drop 1) hdrop
      simpa using this
    have hdst : dstOf all i = o.dst := by unfold dstOf; rw [ho]
    simp only [adx] at h
    split at h
    rotate_left
    · exact h.elim
    rename_i hd
    split at h
    · exact h.elim
    rename_i hg
    have step : ∀ (x : AV) (kd : Kd) (used2 : List Nat) (obs2 : Obs), ObX st0 K0 (upd KD i kd) (i + 1) used2 obs2 → adx sy (CSem P) E all K0 rest (i + 1) used2 K (St.put { slots := st.slots, obs := obs2, ctr := st.ctr, par := st.par } o.dst x) → StepX P E all st0 K0 (upd X i x) (upd KD i kd) i o st →
        ∃ (X' : Nat → AV) (KD' : Nat → Kd), (∀ j, j < i → X' j = X j ∧ KD' j = KD j) ∧ (∀ j o, i ≤ j → all[j]? = some o → StepX' P E all st0 K0 X' KD' j o) ∧ ∃ used' stN, K { slots := stN.slots, obs := stN.obs, ctr := K0 + all.length, par := stN.par } ∧ SrcX all st0 X' all.length stN ∧ ObX st0 K0 KD' all.length used' stN.obs ∧ stN.par = st0.par := by
      intro x kd used2 obs2 hob2 hk hst
      have hs1 : SrcX all st0 (upd X i x) i st := hsrc.congr fun j hj => upd_ne _ _ _ (by omega)
      have hs2 := hs1.put (d := o.dst) hdst (fun j t hj ht e => by
        have := hdis i j t (by rw [hdst]; exact e) ht
        omega) obs2 st.ctr st.par
      rw [upd_same] at hs2
      have eo : (St.put { slots := st.slots, obs := obs2, ctr := st.ctr, par := st.par } o.dst x).obs = obs2 := by cases o.dst <;> rfl
      have ep : (St.put { slots := st.slots, obs := obs2, ctr := st.ctr, par := st.par } o.dst x).par = st.par := by cases o.dst <;> rfl
      obtain ⟨X', KD', g1, g2, g3⟩ := ih (i + 1) used2 _ (upd X i x) (upd KD i kd) hdrop' hlt hs2 (by rw [eo]; exact hob2) (by rw [ep]; exact hpar) hk
      refine ⟨X', KD', fun j hj => ?_, fun j o' hj ho' => ?_, g3⟩
      · obtain ⟨a1, a2⟩ := g1 j (by omega)
        exact ⟨a1.trans (upd_ne _ _ _ (by omega)), a2.trans (upd_ne _ _ _ (by omega))⟩
      · by_cases e : j = i
        · subst e
          rw [ho] at ho'
          injection ho' with ho'
          subst ho'
          exact ⟨hd, hg, st, hs1.congr fun k hk => (g1 k (by omega)).1, hst.congr (g1 j (Nat.lt_succ_self j)).1 fun k hk => (g1 k (by omega)).2⟩
        · exact g2 j o' (by omega) ho'
    have useOf : ∀ k ob, lk k st.obs = some ob → K0 ≤ k → memN k used = false → ∃ m, k = K0 + m ∧ m < i ∧ obOf (KD m) = some ob ∧ ∀ j, j < i → usr (KD j) ≠ some m := by
      intro k ob hk h1 h2
      obtain ⟨m, rfl⟩ : ∃ m, k = K0 + m := ⟨k - K0, by omega⟩
      have hmi : m < i := by
        rcases hob.2.2.2.1 _ _ hk with h | ⟨m', hm', he, _⟩ <;> omega
      refine ⟨m, rfl, hmi, by rw [← hob.2.1 m hmi h2]; exact hk, fun j hj hu => ?_⟩
      have := (hob.2.2.1 m).2 ⟨j, hj, hu⟩
      rw [h2] at this
      cases this
    split at h
    · rename_i hmain
      split at h
      · -- alloc
        rename_i t hop
        split at h
        · rename_i hkp
          split at h
          · rename_i ti ht
            exact step _ (.mk (.box t ti.zero false)) used _ (hob.mk _) h (.alloc t ti hop hkp ht (upd_same _ _ _) (upd_same _ _ _))
          · exact h.elim
        · exact h.elim
      · -- a literal
        rename_i t n ps hop
        split at h
        · rename_i hkp
          split at h
          · rename_i ti ht
            split at h
            · rename_i e esz bytes hkd
              split at h
              · rename_i hn
                subst hn
                have hps : ps.toList = [] := by
                  unfold mainB at hmain
                  rw [hop] at hmain
                  simpa using hmain
                exact step _ (.mk (.row e esz [] 0 0)) used _ (hob.mk _) h (.lit t ps ti e esz bytes hop hps hkp ht hkd (upd_same _ _ _) (upd_same _ _ _))
              · exact h.elim
            · exact h.elim
          · exact h.elim
        · exact h.elim
      · -- append
        rename_i args ats hop
        have hkp : isK E.keep o.dst = true := by
          unfold mainB at hmain
          rw [hop] at hmain
          exact hmain
        split at h
        · rename_i s x t t' ha hat
          split at h
          · rename_i htt
            subst htt
            split at h
            · rename_i ti k src ht hs hy
              split at h
              · rename_i e esz bytes e' sz' rows mv hkd hlk
                split at h
                · rename_i e1
                  split at h
                  · rename_i e2
                    split at h
                    · rename_i e3
                      split at h
                      · rename_i e4
                        split at h
                        · rename_i e5
                          obtain ⟨hl, hb, h⟩ := h
                          subst e1 e2
                          obtain ⟨m, rfl, hmi, hom, hu⟩ := useOf k _ hlk (by simpa using e3) e4
                          rw [show K0 + m - K0 = m by omega] at e5
                          exact step _ (.app m (.row e' sz' (rows ++ src) 0 0)) _ _ (hob.app hmi _) h (.app s x args ats t ti e' sz' bytes m mv rows src hop ha hat hkp ht hkd hs hy hmi (by rw [upd_ne _ _ _ (by omega)]; exact hom) (fun j hj => by rw [upd_ne _ _ _ (by omega)]; exact hu j hj) (ahead_spec e5) hl hb (upd_same _ _ _) (upd_same _ _ _))
                        · exact h.elim
                      · exact h.elim
                    · exact h.elim
                  · exact h.elim
                · exact h.elim
              · exact h.elim
            · exact h.elim
          · exact h.elim
        · exact h.elim
      · -- store
        rename_i t x v hop
        split at h
        · exact h.elim
        rename_i hdn
        split at h
        · rename_i ti k u ht hx hv
          split at h
          · rename_i ty cs ds hlk hc
            split at h
            · rename_i hl
              split at h
              · rename_i e3
                split at h
                · rename_i e4
                  split at h
                  · rename_i e5
                    split at h
                    · rename_i cs' hs
                      obtain ⟨m, rfl, hmi, hom, hu⟩ := useOf k _ hlk (by simpa using e3) e4
                      rw [show K0 + m - K0 = m by omega] at e5
                      exact step (.tup []) (.sto m (.box ty cs' false)) _ _ (hob.sto hmi _) (by rw [hdn]; exact h) (.sto t x v ti ty m cs cs' ds u hop hdn ht hx hv hc hl hs hmi (by rw [upd_ne _ _ _ (by omega)]; exact hom) (fun j hj => by rw [upd_ne _ _ _ (by omega)]; exact hu j hj) (ahead_spec e5) (upd_same _ _ _) (upd_same _ _ _))
                    · exact h.elim
                  · exact h.elim
                · exact h.elim
              · exact h.elim
            · exact h.elim
          · exact h.elim
        · exact h.elim
      · exact h.elim
    · split at h
      · rename_i x hm
        split at h
        · rename_i u hu
          exact step u .plain used st.obs hob.plain h (.move (upd_same _ _ _) x hm (by rw [upd_same]; exact hu))
        · exact h.elim
      · rename_i hm
        obtain ⟨x, hk, hgood⟩ := dopL_ok hΓ h
        split at hk
        · rename_i hx
          exact step x .plain used st.obs hob.plain hk (.free (upd_same _ _ _) (by rw [upd_same]; exact hx) (fun obs => by rw [upd_same]; exact good_free hgood hx obs))
        · exact hk.elim
end
section
variable {P : Program} {W0 : Bas} {S0 : Nat → Prop} {E : En}

def kap (K0 : Nat) (ρ : Nat → Nat) (k : Nat) : Nat := if k < K0 then k else ρ (k - K0)
def ment (K0 : Nat) (M : Nat → Prop) : AV → Prop
  | .own k _ => k < K0 ∨ (K0 ≤ k ∧ M (k - K0))
  | .ptr k _ => k < K0 ∨ (K0 ≤ k ∧ M (k - K0))
  | .rel k _ _ _ _ _ => k < K0
  | .osl k _ _ => k < K0
  | .tup (_ :: _) => False
  | _ => True
theorem ment_mono {K0 : Nat} {M M' : Nat → Prop} (h : ∀ m, M m → M' m) {x : AV} (hx : ment K0 M x) : ment K0 M' x := by
  cases x <;> try exact hx
  · exact hx.imp id fun h' => ⟨h'.1, h _ h'.2⟩
  · exact hx.imp id fun h' => ⟨h'.1, h _ h'.2⟩
  · rename_i vs; cases vs <;> exact hx
theorem rn_agree {K0 : Nat} {M : Nat → Prop} {ρ ρ' : Nat → Nat} (h : ∀ m, M m → ρ' m = ρ m) {x : AV} (hx : ment K0 M x) : rnF (kap K0 ρ') x = rnF (kap K0 ρ) x := by
  have hk : ∀ k, (k < K0 ∨ (K0 ≤ k ∧ M (k - K0))) → kap K0 ρ' k = kap K0 ρ k := fun k hk => by
    unfold kap
    rcases hk with h1 | ⟨h1, h2⟩
    · rw [if_pos h1, if_pos h1]
    · rw [if_neg (by omega), if_neg (by omega), h _ h2]
  cases x <;> simp only [rnF] <;> first | rw [hk _ hx] | rw [hk _ (.inl hx)]
theorem rn_low {K0 : Nat} {ρ : Nat → Nat} {x : AV} (hx : ment K0 (fun _ => False) x) : rnF (kap K0 ρ) x = x := by
  have hk : ∀ k, (k < K0 ∨ (K0 ≤ k ∧ False)) → kap K0 ρ k = k := fun k hk => by
    unfold kap
    rcases hk with h1 | ⟨_, h2⟩
    · rw [if_pos h1]
    · exact h2.elim
  cases x <;> simp only [rnF] <;> first | rw [hk _ hx] | rw [hk _ (.inl hx)]
theorem fr0_mono {c c' : Nat} (h : c ≤ c') {x : AV} (hx : fr0 c x = true) : fr0 c' x = true := by
  cases x <;> try rfl
  all_goals (simp only [fr0, Nat.blt_eq] at hx ⊢; omega)
theorem frS_mono {c c' : Nat} (h : c ≤ c') : ∀ {l : List (Nat × AV)}, frS c l = true → frS c' l = true := by
  intro l
  induction l with
  | nil => intro _; rfl
  | cons p l ih =>
    obtain ⟨k, x⟩ := p
    intro hl
    by_cases ht : ∃ vs, x = .tup vs
    · obtain ⟨vs, rfl⟩ := ht
      simp only [frS] at hl ⊢
      split at hl
      · rename_i he
        rw [if_pos (List.all_eq_true.2 fun y hy => fr0_mono h (List.all_eq_true.1 he y hy))]
        exact ih hl
      · simp at hl
    · have e : ∀ c, frS c ((k, x) :: l) = if fr0 c x = true then frS c l else false := fun c => by
        cases x <;> first | rfl | exact absurd ⟨_, rfl⟩ ht
      rw [e] at hl ⊢
      split at hl
      · rename_i he
        rw [if_pos (fr0_mono h he)]
        exact ih hl
      · simp at hl
theorem frS_put {c k : Nat} {x : AV} {l : List (Nat × AV)} (hx : fr0 c x = true) (ht : ∀ v vs, x ≠ .tup (v :: vs)) (hl : frS c l = true) : frS c ((k, x) :: l) = true := by
  cases x <;> simp only [frS] <;> try (rw [if_pos hx]; exact hl)
  rename_i vs
  cases vs with
  | nil => simp; exact hl
  | cons v vs => exact absurd rfl (ht v vs)
abbrev Lst (listed : Array Bool) (j : Nat) : Prop := listed.getD j false = true
structure InvX (W0 : Bas) (S0 : Nat → Prop) (E : En) (all : List Oper) (st0 : St) (K0 : Nat) (X : Nat → AV) (KD : Nat → Kd) (listed : Array Bool) (s : St) (ρ : Nat → Nat) : Prop where
  par : s.par = st0.par
  ctr : K0 ≤ s.ctr
  fr : frS s.ctr s.slots = true
  new : ∀ j t, Lst listed j → dstOf all j = some t → lk t s.slots = some (rnF (kap K0 ρ) (X j))
  old : ∀ t, (∀ j, Lst listed j → dstOf all j ≠ some t) → lk t s.slots = lk t st0.slots
  low : ∀ k, k < K0 → lk k s.obs = lk k st0.obs
  unused : ∀ m o, Lst listed m → obOf (KD m) = some o → (∀ j, Lst listed j → usr (KD j) ≠ some m) → lk (ρ m) s.obs = some o
  stored : ∀ m j o, Lst listed j → KD j = .sto m o → lk (ρ m) s.obs = some o
  rge : ∀ m o, Lst listed m → obOf (KD m) = some o → K0 ≤ ρ m ∧ ρ m < s.ctr
  inj : ∀ m m' o o', Lst listed m → Lst listed m' → obOf (KD m) = some o → obOf (KD m') = some o' → ρ m = ρ m' → m = m'
  men : ∀ j, Lst listed j → ment K0 (fun m => Lst listed m ∧ ∃ o, obOf (KD m) = some o) (X j)
  cl : ∀ j q, all[j]? = some q → Lst listed j → ∀ e ∈ q.after, Region.binds .any e = true → Lst listed e.on
/-- The next state, but for its objects. -/
theorem InvX.next {all : List Oper} {st0 : St} {K0 : Nat} {X : Nat → AV} {KD : Nat → Kd} {listed : Array Bool} {s : St} {ρ ρ' : Nat → Nat} {i c' : Nat} {o : Oper} {obs' : Obs} {y : AV} (h : InvX W0 S0 E all st0 K0 X KD listed s ρ) (ho : all[i]? = some o) (hi : i < listed.size) (hnl : ¬ Lst listed i) (hafter : ∀ e ∈ o.after, Region.binds .any e = true → Lst listed e.on)
    (hdis : ∀ i j t, dstOf all i = some t → dstOf all j = some t → i = j) (hc : s.ctr ≤ c') (hy : fr0 c' y = true) (hyt : ∀ v vs, y ≠ .tup (v :: vs)) (hρ : ∀ m, Lst listed m → (∃ o, obOf (KD m) = some o) → ρ' m = ρ m) (hX : y = rnF (kap K0 ρ') (X i)) (hmen : ment K0 (fun m => (Lst listed m ∨ m = i) ∧ ∃ o, obOf (KD m) = some o) (X i))
    (hlow : ∀ k, k < K0 → lk k obs' = lk k s.obs) (hun : ∀ m o, (Lst listed m ∨ m = i) → obOf (KD m) = some o → (∀ j, (Lst listed j ∨ j = i) → usr (KD j) ≠ some m) → lk (ρ' m) obs' = some o) (hst : ∀ m j o, (Lst listed j ∨ j = i) → KD j = .sto m o → lk (ρ' m) obs' = some o) (hrge : ∀ o, obOf (KD i) = some o → ρ' i = s.ctr ∧ s.ctr < c') :
    InvX W0 S0 E all st0 K0 X KD (listed.setIfInBounds i true) (St.put { slots := s.slots, obs := obs', ctr := c', par := s.par } o.dst y) ρ' := by
  have hdst : dstOf all i = o.dst := by unfold dstOf; rw [ho]
  have hL : ∀ j, Lst (listed.setIfInBounds i true) j ↔ (Lst listed j ∨ j = i) := fun j => by
    unfold Lst
    rw [getD_set hi]
    by_cases e : j = i
    · simp [e]
    · simp [e]
  have eob : (St.put { slots := s.slots, obs := obs', ctr := c', par := s.par } o.dst y).obs = obs' := by cases o.dst <;> rfl
  have ect : (St.put { slots := s.slots, obs := obs', ctr := c', par := s.par } o.dst y).ctr = c' := by cases o.dst <;> rfl
  have epr : (St.put { slots := s.slots, obs := obs', ctr := c', par := s.par } o.dst y).par = s.par := by cases o.dst <;> rfl
  have get : ∀ t, o.dst ≠ some t → lk t (St.put { slots := s.slots, obs := obs', ctr := c', par := s.par } o.dst y).slots = lk t s.slots := fun t hne => by
    cases hd : o.dst with
    | none => rfl
    | some d =>
      rw [hd] at hne
      simp only [St.put, lk]
      rw [if_neg (fun e => hne (by rw [e]))]
  have hgr : ∀ m o, Lst listed m → obOf (KD m) = some o → ρ' m = ρ m := fun m o h1 h2 => hρ m h1 ⟨o, h2⟩
  refine ⟨by rw [epr]; exact h.par, by rw [ect]; exact Nat.le_trans h.ctr hc, ?_, fun j t hj ht => ?_, fun t ht => ?_, fun k hk => by rw [eob, hlow k hk]; exact h.low k hk, fun m o' hm hom hu => by rw [eob]; exact hun m o' ((hL m).1 hm) hom fun j hj => hu j ((hL j).2 hj), fun m j o' hj hk => by rw [eob]; exact hst m j o' ((hL j).1 hj) hk, fun m o' hm hom => ?_, fun m m' o1 o2 hm hm' h1 h2 he => ?_, fun j hj => ?_, fun j q hq hj e he hb => ?_⟩
  · rw [ect]
    cases hd : o.dst with
    | none => exact frS_mono hc h.fr
    | some d => exact frS_put hy hyt (frS_mono hc h.fr)
  · rcases (hL j).1 hj with hl | e
    · have hne : o.dst ≠ some t := fun e => by
        have := hdis i j t (by rw [hdst]; exact e) ht
        subst this
        exact hnl hl
      rw [get t hne, h.new j t hl ht, rn_agree (fun m hm => hρ m hm.1 hm.2) (h.men j hl)]
    · subst e
      rw [hdst] at ht
      rw [ht, ← hX]
      simp [St.put, lk]
  · have hne : o.dst ≠ some t := by
      have := ht i ((hL i).2 (.inr rfl))
      rwa [hdst] at this
    rw [get t hne]
    exact h.old t fun j hj => ht j ((hL j).2 (.inl hj))
  · rw [ect]
    rcases (hL m).1 hm with hl | e
    · rw [hgr m o' hl hom]
      have := h.rge m o' hl hom
      omega
    · subst e
      have := hrge o' hom
      have := h.ctr
      omega
  · rcases (hL m).1 hm with hl | e <;> rcases (hL m').1 hm' with hl' | e'
    · exact h.inj m m' o1 o2 hl hl' h1 h2 (by rw [← hgr m o1 hl h1, ← hgr m' o2 hl' h2]; exact he)
    · subst e'
      have a1 := hgr m o1 hl h1
      have a2 := h.rge m o1 hl h1
      have a3 := hrge o2 h2
      omega
    · subst e
      have a1 := hgr m' o2 hl' h2
      have a2 := h.rge m' o2 hl' h2
      have a3 := hrge o1 h1
      omega
    · omega
  · rcases (hL j).1 hj with hl | e
    · exact ment_mono (fun m hm => ⟨(hL m).2 (.inl hm.1), hm.2⟩) (h.men j hl)
    · subst e
      exact ment_mono (fun m hm => ⟨(hL m).2 hm.1, hm.2⟩) hmen
  · refine (hL _).2 (.inl ?_)
    rcases (hL j).1 hj with hl | e1
    · exact h.cl j q hq hl e he hb
    · subst e1
      rw [ho] at hq
      injection hq with hq
      subst hq
      exact hafter e he hb
end
section
variable {P : Program} {W0 : Bas} {S0 : Nat → Prop} {E : En}

def benX (all : List Oper) : Bool :=
  (List.range all.length).all fun i => match all[i]? with
    | none => true
    | some o => benignOne all i o && o.after.all (fun e => decide (e.on < i) || !Region.binds .any e)
theorem benX_spec {all : List Oper} (h : benX all = true) {i : Nat} {o : Oper} (ho : all[i]? = some o) :
    (∀ j d, dstOf all j = some d → (j = i ∨ o.dst ≠ some d) ∧ (d ∈ looks all o → (j < i ∧ ∃ e ∈ o.after, e.on = j ∧ Region.binds .any e = true) ∨ (i < j ∧ ∃ q, all[j]? = some q ∧ Ahead all i q))) ∧ (∀ e ∈ o.after, Region.binds .any e = true → e.on < i) := by
  have hi : i < all.length := (List.getElem?_eq_some_iff.1 ho).1
  have := List.all_eq_true.1 h i (List.mem_range.2 hi)
  rw [ho] at this
  simp only [Bool.and_eq_true] at this
  obtain ⟨h1, h2⟩ := this
  refine ⟨fun j d hd => ?_, fun e he hbd => ?_⟩
  · have hj : j < all.length := by
      unfold dstOf at hd
      split at hd
      · rename_i o' ho'; exact (List.getElem?_eq_some_iff.1 ho').1
      · simp at hd
    have := List.all_eq_true.1 h1 j (List.mem_range.2 hj)
    simp only [hd, Bool.and_eq_true, Bool.or_eq_true] at this
    obtain ⟨h4, h5⟩ := this
    refine ⟨?_, fun hl => ?_⟩
    · rcases h4 with h4 | h4
      · exact .inl (by simpa using h4)
      · exact .inr (by simpa using h4)
    · rcases h5 with (h5 | h5) | h5
      · simp only [Bool.not_eq_true', List.contains_eq_mem, decide_eq_false_iff_not] at h5
        exact absurd hl h5
      · obtain ⟨h6, h7⟩ := h5
        refine .inl ⟨by simpa using h6, ?_⟩
        obtain ⟨i, hi, he⟩ := Array.any_eq_true.1 h7
        simp only [Bool.and_eq_true, beq_iff_eq] at he
        exact ⟨_, Array.getElem_mem hi, he.1, he.2⟩
      · obtain ⟨h6, h7⟩ := h5
        refine .inr ⟨by simpa using h6, ?_⟩
        split at h7
        · rename_i q hq; exact ⟨q, hq, ahead_spec h7⟩
        · simp at h7
  · have := Array.all_eq_true_iff_forall_mem.1 h2 e he
    rw [hbd] at this
    simpa using this
theorem benX_dis {all : List Oper} (h : benX all = true) : ∀ i j t, dstOf all i = some t → dstOf all j = some t → i = j := by
  intro i j t hi hj
  cases ho : all[i]? with
  | none => unfold dstOf at hi; rw [ho] at hi; simp at hi
  | some o =>
    have hd : o.dst = some t := by unfold dstOf at hi; rw [ho] at hi; exact hi
    rcases ((benX_spec h ho).1 j t hj).1 with e | e
    · exact e.symm
    · exact absurd hd e
/-- What stands in the slots that an operation looks at. -/
theorem InvX.ev {all : List Oper} {st0 sti s : St} {K0 : Nat} {X : Nat → AV} {KD : Nat → Kd} {listed : Array Bool} {ρ : Nat → Nat} {i : Nat} {o : Oper} (h : InvX W0 S0 E all st0 K0 X KD listed s ρ) (hb : benX all = true) (ho : all[i]? = some o) (hnl : ¬ Lst listed i) (hafter : ∀ e ∈ o.after, Region.binds .any e = true → Lst listed e.on)
    (hst0 : ∀ t u, lk t st0.slots = some u → ment K0 (fun _ => False) u) (hsrc : SrcX all st0 X i sti) {y : Operand} (hy : y ∈ o.op.operands) {u : AV} (hu : ev sti y = some u) : Am.ev s y = some (rnF (kap K0 ρ) u) ∧ ment K0 (fun m => Lst listed m ∧ ∃ o, obOf (KD m) = some o) u ∧ fr0 s.ctr (rnF (kap K0 ρ) u) = true := by
  have via : ∀ (q : Oper) (n : Nat), (∀ e ∈ q.after, Region.binds .any e = true → Lst listed e.on) → Ahead all n q → Lst listed n := by
    intro q n hq h'
    exact h'.via (L := Lst listed) h.cl hq
  cases y with
  | tmp t =>
    have ht : t ∈ looks all o := by
      unfold looks
      refine List.mem_append_left _ (List.mem_filterMap.2 ⟨_, by simpa using hy, rfl⟩)
    have hu : lk t sti.slots = some u := hu
    suffices h2 : lk t s.slots = some (rnF (kap K0 ρ) u) ∧ ment K0 (fun m => Lst listed m ∧ ∃ o, obOf (KD m) = some o) u by
      refine ⟨h2.1, h2.2, ?_⟩
      rcases frS_get h.fr t _ h2.1 with ⟨vs, he, _⟩ | ⟨_, hf⟩
      · rw [he]; rfl
      · exact hf
    have bs1 := (benX_spec hb ho).1
    by_cases hj : ∃ j, j < i ∧ dstOf all j = some t
    · obtain ⟨j, hji, hjt⟩ := hj
      rw [hsrc.1 j t hji hjt] at hu
      injection hu with hu
      subst hu
      rcases (bs1 j t hjt).2 ht with ⟨_, e, he, heon, hbd⟩ | ⟨h2, _⟩
      · exact ⟨h.new j t (by rw [← heon]; exact hafter e he hbd) hjt, h.men j (by rw [← heon]; exact hafter e he hbd)⟩
      · omega
    · rw [hsrc.2 t fun j hji hjt => hj ⟨j, hji, hjt⟩] at hu
      refine ⟨?_, ment_mono (fun _ h => h.elim) (hst0 t u hu)⟩
      rw [h.old t fun j hl hjt => by
        rcases (bs1 j t hjt).2 ht with ⟨h2, _⟩ | ⟨h2, q, hq, hah⟩
        · exact hj ⟨j, h2, hjt⟩
        · exact hnl (via q i (h.cl j q hq hl) hah), hu, rn_low (hst0 t u hu)]
  | const v =>
    simp only [Am.ev] at hu ⊢
    rw [hu]
    unfold evc at hu
    split at hu <;> simp at hu <;> subst hu <;> exact ⟨rfl, trivial, rfl⟩
  | global g => simp [Am.ev] at hu
  | func f =>
    simp only [Am.ev] at hu ⊢
    injection hu with hu
    subst hu
    exact ⟨rfl, trivial, rfl⟩
theorem srep_ren {w : World} {S : Nat → Prop} {β : Nat → Value} {obs : Obs} {κ : Nat → Nat} {u : AV} {v : Value} (h : SRep w S β obs (rnF κ u) v) (ht : ∀ x vs, u ≠ .tup (x :: vs)) : SRep w S (fun k => β (κ k)) [] u v := by
  cases u <;> try exact h
  · intro e sz rows m hk; simp [lk] at hk
  · intro e sz rows m hk; simp [lk] at hk
  · intro e sz rows m hk; simp [lk] at hk
  · rename_i vs
    cases vs with
    | nil => rw [tup_nil_inv h]; exact tup_nil
    | cons x vs => exact absurd rfl (ht x vs)
theorem ment_tup {K0 : Nat} {M : Nat → Prop} {u : AV} (h : ment K0 M u) : ∀ x vs, u ≠ .tup (x :: vs) := by
  rintro x vs rfl
  exact h
end
section
variable {P : Program} {W0 : Bas} {S0 : Nat → Prop} {E : En}

theorem ment_free {K0 : Nat} {x : AV} (h : freeV x = true) : ment K0 (fun _ => False) x := by
  cases x <;> simp [freeV, fr0] at h <;> trivial
theorem free_nt {x : AV} (h : freeV x = true) : ∀ v vs, x ≠ .tup (v :: vs) := by
  rintro v vs rfl
  simp [freeV] at h
theorem free_fr {c : Nat} {x : AV} (h : freeV x = true) : fr0 c x = true := by
  cases x <;> simp [freeV, fr0] at h <;> rfl
theorem rn_nt {κ : Nat → Nat} {x : AV} (h : ∀ v vs, x ≠ .tup (v :: vs)) : ∀ v vs, rnF κ x ≠ .tup (v :: vs) := by
  intro v vs e
  cases x <;> simp [rnF] at e
  exact h v vs (by rw [e])
theorem cells_rn {κ : Nat → Nat} {u : AV} {ds : List AV} (h : cellsOf u = some ds) : rnF κ u = u ∧ (∀ k v, u ≠ .own k v) := by
  cases u <;> simp [cellsOf] at h <;> exact ⟨rfl, fun k v e => by cases e⟩
theorem kap_hi {K0 : Nat} {ρ : Nat → Nat} (m : Nat) : kap K0 ρ (K0 + m) = ρ m := by
  unfold kap
  rw [if_neg (by omega), show K0 + m - K0 = m by omega]
section
variable {all : List Oper} {st0 sti s : St} {K0 : Nat} {X : Nat → AV} {KD : Nat → Kd} {listed : Array Bool} {ρ : Nat → Nat} {i : Nat} {o : Oper}
/-- A user's object was made ahead of it. -/
theorem usr_lst (hglob : ∀ j q, all[j]? = some q → StepX' P E all st0 K0 X KD j q) (h : InvX W0 S0 E all st0 K0 X KD listed s ρ) {j m : Nat} (hj : Lst listed j) (hjl : j < all.length) (hu : usr (KD j) = some m) : Lst listed m ∧ m < j ∧ ∃ o, obOf (KD m) = some o := by
  have via : ∀ (q : Oper) (n : Nat), (∀ e ∈ q.after, Region.binds .any e = true → Lst listed e.on) → Ahead all n q → Lst listed n := by
    intro q n hq h'
    exact h'.via (L := Lst listed) h.cl hq
  have hq : all[j]? = some all[j] := List.getElem?_eq_getElem hjl
  obtain ⟨_, _, sti, _, hx⟩ := hglob j _ hq
  cases hx with
  | free hk _ _ => rw [hk] at hu; simp [usr] at hu
  | move hk _ _ _ => rw [hk] at hu; simp [usr] at hu
  | alloc t ti _ _ _ hk _ => rw [hk] at hu; simp [usr] at hu
  | lit t ps ti e esz bytes _ _ _ _ _ hk _ => rw [hk] at hu; simp [usr] at hu
  | app s x args ats t ti e esz bytes m' mv rows src _ _ _ _ _ _ _ _ hmi hom _ hah _ _ hk _ =>
    rw [hk] at hu; simp [usr] at hu; subst hu
    exact ⟨via _ _ (h.cl j _ hq hj) hah, hmi, _, hom⟩
  | sto t x v ti ty m' cs cs' ds u _ _ _ _ _ _ _ _ hmi hom _ hah hk _ =>
    rw [hk] at hu; simp [usr] at hu; subst hu
    exact ⟨via _ _ (h.cl j _ hq hj) hah, hmi, _, hom⟩
theorem usr_one (hglob : ∀ j q, all[j]? = some q → StepX' P E all st0 K0 X KD j q) {j j' m : Nat} (hjl : j < all.length) (hjl' : j' < all.length) (hu : usr (KD j) = some m) (hu' : usr (KD j') = some m) : j = j' := by
  have key : ∀ j j', j < j' → j' < all.length → usr (KD j) = some m → usr (KD j') = some m → False := by
    intro j j' hlt hl h1 h2
    obtain ⟨_, _, sti, _, hx⟩ := hglob j' _ (List.getElem?_eq_getElem hl)
    cases hx with
    | free hk _ _ => rw [hk] at h2; simp [usr] at h2
    | move hk _ _ _ => rw [hk] at h2; simp [usr] at h2
    | alloc t ti _ _ _ hk _ => rw [hk] at h2; simp [usr] at h2
    | lit t ps ti e esz bytes _ _ _ _ _ hk _ => rw [hk] at h2; simp [usr] at h2
    | app s x args ats t ti e esz bytes m' mv rows src _ _ _ _ _ _ _ _ hmi hom hno hah _ _ hk _ =>
      rw [hk] at h2; simp [usr] at h2; subst h2
      exact hno j hlt h1
    | sto t x v ti ty m' cs cs' ds u _ _ _ _ _ _ _ _ hmi hom hno hah hk _ =>
      rw [hk] at h2; simp [usr] at h2; subst h2
      exact hno j hlt h1
  rcases Nat.lt_trichotomy j j' with h | h | h
  · exact (key j j' h hjl' hu hu').elim
  · exact h
  · exact (key j' j h hjl hu' hu).elim
end
end
section
variable {P : Program} {W0 : Bas} {S0 : Nat → Prop} {E : En}

theorem stepX_ok (hΓ : TOKs P) {all : List Oper} {st0 sti s : St} {K0 : Nat} {X : Nat → AV} {KD : Nat → Kd} {listed : Array Bool} {ρ : Nat → Nat} {i : Nat} {o : Oper} (hb : benX all = true) (hst0 : ∀ t u, lk t st0.slots = some u → ment K0 (fun _ => False) u) (hpk : st0.par ≤ K0) (hglob : ∀ j q, all[j]? = some q → StepX' P E all st0 K0 X KD j q)
    (hx : StepX P E all st0 K0 X KD i o sti) (hsrc : SrcX all st0 X i sti) (ho : all[i]? = some o) (hd : okD E.n o.dst = true) (hil : i < listed.size) (hsz : listed.size = all.length) (hnl : ¬ Lst listed i) (hafter : ∀ e ∈ o.after, Region.binds .any e = true → Lst listed e.on) (h : InvX W0 S0 E all st0 K0 X KD listed s ρ)
    {a : Act} {w : World} (hrel : Rel W0 S0 E.n s a w) {Kr : Act → World → Prop} {Q : Exit → Act → World → Prop} (hK : ∀ s' ρ' a' w', InvX W0 S0 E all st0 K0 X KD (listed.setIfInBounds i true) s' ρ' → Rel W0 S0 E.n s' a' w' → Kr a' w') : o.wp P a w Kr Q := by
  have hdis := benX_dis hb
  have hi : i < all.length := (List.getElem?_eq_some_iff.1 ho).1
  have hll : ∀ j, Lst listed j → j < all.length := fun j hj => by
    unfold Lst at hj
    by_cases hlt : j < listed.size
    · omega
    · simp [hlt] at hj
  have hev : ∀ y ∈ o.op.operands, ∀ u, ev sti y = some u → ev s y = some (rnF (kap K0 ρ) u) ∧ ment K0 (fun m => Lst listed m ∧ ∃ o, obOf (KD m) = some o) u ∧ fr0 s.ctr (rnF (kap K0 ρ) u) = true := fun y hy u hu => h.ev hb ho hnl hafter hst0 hsrc hy hu
  have hne : ∀ m, Lst listed m → m ≠ i := fun m hm e => hnl (by rw [← e]; exact hm)
  -- what stands in the way of nothing
  have keepU : obOf (KD i) = none → ∀ m o', (Lst listed m ∨ m = i) → obOf (KD m) = some o' → (∀ j, (Lst listed j ∨ j = i) → usr (KD j) ≠ some m) → Lst listed m ∧ lk (ρ m) s.obs = some o' := by
    intro h0 m o' hm hom hu
    rcases hm with hm | e
    · exact ⟨hm, h.unused m o' hm hom fun j hj => hu j (.inl hj)⟩
    · subst e; rw [h0] at hom; simp at hom
  have via : ∀ (q : Oper) (n : Nat), (∀ e ∈ q.after, Region.binds .any e = true → Lst listed e.on) → Ahead all n q → Lst listed n := by
    intro q n hq h'
    exact h'.via (L := Lst listed) h.cl hq
  have other : ∀ m j, Lst listed j → usr (KD j) = some m → upd ρ i s.ctr m = ρ m ∧ ρ m < s.ctr := fun m j hj hu => by
    obtain ⟨hm, _, o', ho'⟩ := usr_lst hglob h hj (hll j hj) hu
    exact ⟨upd_ne _ _ _ (hne m hm), (h.rge m o' hm ho').2⟩
  have mk : ∀ ob : Ob, KD i = .mk ob → ∀ y : AV, fr0 (s.ctr + 1) y = true → (∀ v vs, y ≠ .tup (v :: vs)) → y = rnF (kap K0 (upd ρ i s.ctr)) (X i) → ment K0 (fun m => (Lst listed m ∨ m = i) ∧ ∃ o, obOf (KD m) = some o) (X i) →
      InvX W0 S0 E all st0 K0 X KD (listed.setIfInBounds i true) (St.put { slots := s.slots, obs := (s.ctr, ob) :: s.obs, ctr := s.ctr + 1, par := s.par } o.dst y) (upd ρ i s.ctr) := by
    intro ob hk y hy hyt hX hmen
    refine h.next ho hil hnl hafter hdis (Nat.le_succ _) hy hyt (fun m hm _ => upd_ne _ _ _ (hne m hm)) hX hmen (fun k hk' => ?_) (fun m o' hm hom hu => ?_) (fun m j o' hj hk' => ?_) (fun o' _ => ⟨upd_same _ _ _, Nat.lt_succ_self _⟩)
    · simp only [lk]; rw [if_neg (by have := h.ctr; omega)]
    · simp only [lk]
      rcases hm with hm | e
      · rw [upd_ne _ _ _ (hne m hm), if_neg (by have := (h.rge m o' hm hom).2; omega)]
        exact h.unused m o' hm hom fun j hj => hu j (.inl hj)
      · subst e
        rw [upd_same, if_pos rfl]
        rw [hk] at hom
        simpa [obOf] using hom
    · rcases hj with hj | e
      · obtain ⟨e1, e2⟩ := other m j hj (by rw [hk']; rfl)
        simp only [lk]
        rw [e1, if_neg (by omega)]
        exact h.stored m j o' hj hk'
      · subst e; rw [hk] at hk'; cases hk'
  obtain ⟨S, β, hr⟩ := hrel
  cases hx with
  | free hk hfx hg =>
    refine hg [] a w S (fun k => β (kap K0 ρ k)) 0 hr.gr.lt hr.gd (fun y hy u hu => ?_) (fun k o h => by simp [lk] at h) o rfl Kr Q (fun v w' S' hgr hv => hK (s.put o.dst (X i)) ρ _ _ ?_ ⟨S', β, rel_quiet hr hgr hd ?_⟩)
    · obtain ⟨h1, h2, _⟩ := hev y hy u hu
      exact srep_ren (ev_ok hr h1) (ment_tup h2)
    · refine h.next (ρ' := ρ) (obs' := s.obs) (c' := s.ctr) ho hil hnl hafter hdis (Nat.le_refl _) (free_fr hfx) (free_nt hfx) (fun _ _ _ => rfl) (rn_low (ment_free hfx)).symm (ment_mono (fun _ h => h.elim) (ment_free hfx)) (fun _ _ => rfl) (fun m o' hm hom hu => (keepU (by rw [hk]; rfl) m o' hm hom hu).2) (fun m j o' hj hk' => ?_) (fun o' hom => by rw [hk] at hom; simp [obOf] at hom)
      rcases hj with hj | e
      · exact h.stored m j o' hj hk'
      · subst e; rw [hk] at hk'; cases hk'
    · refine srep_obs (c := 0) (fun j hj => by omega) (fun j o hj => by omega) (.inr ⟨fun vs e => ?_, free_fr hfx⟩) hv
      rw [e] at hfx
      simp [freeV] at hfx
  | move hk x hm hx =>
    have hop : o.op = .move x ∨ o.op = .assign x := by
      unfold mvOf at hm
      split at hm <;> simp at hm
      · rename_i h; subst hm; exact .inl h
      · rename_i h; subst hm; exact .inr h
    have hxo : x ∈ o.op.operands := by rcases hop with e | e <;> rw [e] <;> simp [Op.operands]
    obtain ⟨h1, h2, h3⟩ := hev x hxo _ hx
    refine aop_dop hΓ (K := fun st' => st' = s.put o.dst (rnF (kap K0 ρ) (X i))) hr hd ?_ (fun st' a' w' he hr' => hK (s.put o.dst (rnF (kap K0 ρ) (X i))) ρ a' w' ?_ (by rw [← he]; exact hr'))
    · rcases hop with e | e <;> rw [e] <;> simp only [dop, h1]
    · refine h.next (ρ' := ρ) (obs' := s.obs) (c' := s.ctr) ho hil hnl hafter hdis (Nat.le_refl _) h3 (rn_nt (ment_tup h2)) (fun _ _ _ => rfl) rfl (ment_mono (fun _ h => ⟨.inl h.1, h.2⟩) h2) (fun _ _ => rfl) (fun m o' hm hom hu => (keepU (by rw [hk]; rfl) m o' hm hom hu).2) (fun m j o' hj hk' => ?_) (fun o' hom => by rw [hk] at hom; simp [obOf] at hom)
      rcases hj with hj | e
      · exact h.stored m j o' hj hk'
      · subst e; rw [hk] at hk'; cases hk'
  | alloc t ti hop hkp ht hk hXi =>
    refine aop_alloc (K := fun st' => st' = St.put { slots := s.slots, obs := (s.ctr, .box t ti.zero false) :: s.obs, ctr := s.ctr + 1, par := s.par } o.dst (.ptr s.ctr 0)) (fz := false) hr hd hop (hΓ _ _ ht) h.fr rfl (fun st' a' w' he hr' => hK st' (upd ρ i s.ctr) a' w' (he ▸ ?_) hr')
    exact mk _ hk (.ptr s.ctr 0) (by simp [fr0]) (by intro v vs e; cases e) (by rw [hXi]; show _ = AV.ptr (kap K0 (upd ρ i s.ctr) (K0 + i)) 0; rw [kap_hi, upd_same]) (by rw [hXi]; exact .inr ⟨by omega, by rw [show K0 + i - K0 = i by omega]; exact ⟨.inr rfl, _, by rw [hk]; rfl⟩⟩)
  | lit t ps ti e esz bytes hop hps hkp ht hkd hk hXi =>
    refine aop_buildK (K := fun st' => st' = St.put { slots := s.slots, obs := (s.ctr, .row e esz [] 0 0) :: s.obs, ctr := s.ctr + 1, par := s.par } o.dst (.own s.ctr 0)) hr hd hop (hΓ _ _ ht) hkd (rows := []) (by rw [hps]; rfl) rfl (by omega) h.fr rfl (fun st' a' w' he hr' => hK st' (upd ρ i s.ctr) a' w' (he ▸ ?_) hr')
    exact mk _ hk (.own s.ctr 0) (by simp [fr0]) (by intro v vs e; cases e) (by rw [hXi]; show _ = AV.own (kap K0 (upd ρ i s.ctr) (K0 + i)) 0; rw [kap_hi, upd_same]) (by rw [hXi]; exact .inr ⟨by omega, by rw [show K0 + i - K0 = i by omega]; exact ⟨.inr rfl, _, by rw [hk]; rfl⟩⟩)
  | app sx x args ats t ti e esz bytes m mv rows src hop ha hat hkp ht hkd hs hy hmi hom hu hah hl hb' hk hXi =>
    have hargs : args = #[sx, x] := by rw [← Array.toList_inj]; simpa using ha
    have hats : ats = #[t, t] := by rw [← Array.toList_inj]; simpa using hat
    subst hargs hats
    have hm : Lst listed m := via o m hafter hah
    have hsv := (hev sx (by rw [hop]; simp [Op.operands, Call.operands]) _ hs).1
    have hyv := (hev x (by rw [hop]; simp [Op.operands, Call.operands]) _ hy).1
    rw [show rnF (kap K0 ρ) (.own (K0 + m) 0) = .own (ρ m) 0 by show AV.own (kap K0 ρ (K0 + m)) 0 = _; rw [kap_hi]] at hsv
    have hyv : ev s x = some (.sl src) := hyv
    have hul : ∀ j, Lst listed j → usr (KD j) ≠ some m := fun j hj hju => hne j hj (usr_one hglob (hll j hj) hi hju (by rw [hk]; rfl))
    have hlk := h.unused m _ hm hom hul
    have hrg := h.rge m _ hm hom
    have hnp : ¬ (Nat.blt (ρ m) s.par = true) := by rw [h.par]; simp; omega
    have hfin : InvX W0 S0 E all st0 K0 X KD (listed.setIfInBounds i true) (St.put { slots := s.slots, obs := (s.ctr, .row e esz (rows ++ src) 0 0) :: del (ρ m) s.obs, ctr := s.ctr + 1, par := s.par } o.dst (.own s.ctr 0)) (upd ρ i s.ctr) := by
      have hdiff : ∀ m' o', Lst listed m' → obOf (KD m') = some o' → m' ≠ m → ρ m' ≠ ρ m := fun m' o' h1 h2 h3 e => h3 (h.inj m' m o' _ h1 hm h2 hom e)
      refine h.next ho hil hnl hafter hdis (Nat.le_succ _) (by simp [fr0]) (by intro v vs e; cases e) (fun m' hm' _ => upd_ne _ _ _ (hne m' hm')) (by rw [hXi]; show _ = AV.own (kap K0 (upd ρ i s.ctr) (K0 + i)) 0; rw [kap_hi, upd_same]) (by rw [hXi]; exact .inr ⟨by omega, by rw [show K0 + i - K0 = i by omega]; exact ⟨.inr rfl, _, by rw [hk]; rfl⟩⟩) (fun k hk' => ?_) (fun m' o' hm' hom' hu' => ?_) (fun m' j o' hj hk' => ?_) (fun o' _ => ⟨upd_same _ _ _, Nat.lt_succ_self _⟩)
      · simp only [lk]; rw [if_neg (by have := h.ctr; omega), lk_del, if_neg (by omega)]
      · simp only [lk]
        rcases hm' with hm' | e'
        · have h1 : m' ≠ m := fun e' => hu' i (.inr rfl) (by rw [hk, e']; rfl)
          rw [upd_ne _ _ _ (hne m' hm'), if_neg (by have := (h.rge m' o' hm' hom').2; omega), lk_del, if_neg (hdiff m' o' hm' hom' h1)]
          exact h.unused m' o' hm' hom' fun j hj => hu' j (.inl hj)
        · subst e'
          rw [upd_same, if_pos rfl]
          rw [hk] at hom'
          simpa [obOf] using hom'
      · rcases hj with hj | e'
        · obtain ⟨e1, e2⟩ := other m' j hj (by rw [hk']; rfl)
          obtain ⟨hm', _, ob', hob'⟩ := usr_lst hglob h hj (hll j hj) (show usr (KD j) = some m' by rw [hk']; rfl)
          have h1 : m' ≠ m := fun e' => hul j hj (by rw [hk', e']; rfl)
          simp only [lk]
          rw [e1, if_neg (by omega), lk_del, if_neg (hdiff m' ob' hm' hob' h1)]
          exact h.stored m' j o' hj hk'
        · subst e'; rw [hk] at hk'; cases hk'
    refine aop_ok (K := fun st' => st' = St.put { slots := s.slots, obs := (s.ctr, .row e esz (rows ++ src) 0 0) :: del (ρ m) s.obs, ctr := s.ctr + 1, par := s.par } o.dst (.own s.ctr 0)) hΓ ?_ ⟨S, β, hr⟩ (fun st' a' w' he hr' => hK st' (upd ρ i s.ctr) a' w' (he ▸ hfin) hr')
    unfold aop
    rw [if_pos hd, hop]
    simp only [if_true, ht, hsv, hyv, hkd, rowsOf, hlk]
    rw [if_neg hnp]
    simp only [if_true, ownKey, app1, mkRow, hkp, h.fr]
    exact ⟨hl, hb', rfl⟩
  | sto t x v ti ty m cs cs' ds u hop hdn ht hx1 hv hc hl hs hmi hom hu hah hk hXi =>
    have hm : Lst listed m := via o m hafter hah
    have hxv := (hev x (by rw [hop]; simp [Op.operands]) _ hx1).1
    have hvv := (hev v (by rw [hop]; simp [Op.operands]) _ hv).1
    rw [show rnF (kap K0 ρ) (.ptr (K0 + m) 0) = .ptr (ρ m) 0 by show AV.ptr (kap K0 ρ (K0 + m)) 0 = _; rw [kap_hi]] at hxv
    obtain ⟨hru, hno⟩ := cells_rn (κ := kap K0 ρ) hc
    rw [hru] at hvv
    have hul : ∀ j, Lst listed j → usr (KD j) ≠ some m := fun j hj hju => hne j hj (usr_one hglob (hll j hj) hi hju (by rw [hk]; rfl))
    have hlk := h.unused m _ hm hom hul
    have hrg := h.rge m _ hm hom
    have hfin : InvX W0 S0 E all st0 K0 X KD (listed.setIfInBounds i true) (St.put { slots := s.slots, obs := (ρ m, .box ty cs' false) :: del (ρ m) s.obs, ctr := s.ctr, par := s.par } o.dst (.tup [])) ρ := by
      have hdiff : ∀ m' o', Lst listed m' → obOf (KD m') = some o' → m' ≠ m → ρ m' ≠ ρ m := fun m' o' h1 h2 h3 e => h3 (h.inj m' m o' _ h1 hm h2 hom e)
      refine h.next ho hil hnl hafter hdis (Nat.le_refl _) rfl (by intro v vs e; cases e) (fun _ _ _ => rfl) (by rw [hXi]; rfl) (by rw [hXi]; trivial) (fun k hk' => ?_) (fun m' o' hm' hom' hu' => ?_) (fun m' j o' hj hk' => ?_) (fun o' hom' => by rw [hk] at hom'; simp [obOf] at hom')
      · simp only [lk]; rw [if_neg (by omega), lk_del, if_neg (by omega)]
      · rcases hm' with hm' | e'
        · have h1 : m' ≠ m := fun e' => hu' i (.inr rfl) (by rw [hk, e']; rfl)
          have h2 := hdiff m' o' hm' hom' h1
          simp only [lk]
          rw [if_neg (fun e => h2 e.symm), lk_del, if_neg h2]
          exact h.unused m' o' hm' hom' fun j hj => hu' j (.inl hj)
        · subst e'; rw [hk] at hom'; simp [obOf] at hom'
      · rcases hj with hj | e'
        · obtain ⟨hm', _, ob', hob'⟩ := usr_lst hglob h hj (hll j hj) (show usr (KD j) = some m' by rw [hk']; rfl)
          have h1 : m' ≠ m := fun e' => hul j hj (by rw [hk', e']; rfl)
          have h2 := hdiff m' ob' hm' hob' h1
          simp only [lk]
          rw [if_neg (fun e => h2 e.symm), lk_del, if_neg h2]
          exact h.stored m' j o' hj hk'
        · subst e'
          rw [hk] at hk'
          injection hk' with e1 e2
          subst e1 e2
          simp [lk]
    have hfz : frzArgs s [v] = s := by
      simp only [frzArgs, hvv]
      split
      · rename_i k ver he; injection he with he; exact absurd he (hno k ver)
      · rfl
    refine aop_ok (K := fun st' => st' = St.put { slots := s.slots, obs := (ρ m, .box ty cs' false) :: del (ρ m) s.obs, ctr := s.ctr, par := s.par } o.dst (.tup [])) hΓ ?_ ⟨S, β, hr⟩ (fun st' a' w' he hr' => hK st' ρ a' w' (he ▸ hfin) hr')
    unfold aop
    rw [if_pos hd, hop]
    simp only [hdn, hfz, wop, ht, hxv, hvv, hlk, hc, hl, if_true, hs, lk, St.put]
end
section
variable {P : Program} {W0 : Bas} {S0 : Nat → Prop} {E : En}

theorem readyX {ops : Array Oper} (hb : benX ops.toList = true) {listed : Array Bool} (hs : listed.size = ops.size) (hr : Region.ready .any ops listed = []) : ∀ j, j < ops.size → listed.getD j false = true := by
  intro j
  induction j using Nat.strongRecOn with
  | _ j ih =>
    intro hj
    by_cases h : listed.getD j false = true
    · exact h
    · exfalso
      have hlt : j < listed.size := by omega
      have hf : listed.getD j true = false := by
        have : listed.getD j false = listed.getD j true := by simp [hlt]
        rw [← this]; simpa using h
      have ho : ops[j]? = some ops[j] := Array.getElem?_eq_getElem hj
      have ho' : ops.toList[j]? = some ops[j] := by simp
      have : j ∈ Region.ready .any ops listed := mem_ready.2 ⟨hf, ops[j], ho, fun e he hbd => by
        have h1 := (benX_spec hb ho').2 e he hbd
        exact ih e.on h1 (by omega)⟩
      rw [hr] at this
      simp at this
theorem anyX_ok (hΓ : TOKs P) {ops : Array Oper} {st0 : St} {K0 : Nat} {X : Nat → AV} {KD : Nat → Kd} (hb : benX ops.toList = true) (hst0 : ∀ t u, lk t st0.slots = some u → ment K0 (fun _ => False) u) (hpk : st0.par ≤ K0) (hglob : ∀ j q, ops.toList[j]? = some q → StepX' P E ops.toList st0 K0 X KD j q) {Q : Exit → Act → World → Prop}
    (hfin : ∀ listed s ρ a w, listed.size = ops.size → (∀ j, j < ops.size → listed.getD j false = true) → InvX W0 S0 E ops.toList st0 K0 X KD listed s ρ → Rel W0 S0 E.n s a w → Q .normal a w) :
    ∀ (fuel : Nat) (listed : Array Bool) (s : St) (ρ : Nat → Nat) (a : Act) (w : World), listed.size = ops.size → ((List.range ops.size).filter (fun j => listed.getD j false == false)).length ≤ fuel → InvX W0 S0 E ops.toList st0 K0 X KD listed s ρ → Rel W0 S0 E.n s a w → wpAny P .any ops Q fuel listed a w := by
  intro fuel
  induction fuel with
  | zero =>
    intro listed s ρ a w hs hf hinv hrel
    have hall : ∀ j, j < ops.size → listed.getD j false = true := by
      intro j hj
      have : (List.range ops.size).filter (fun j => listed.getD j false == false) = [] := List.eq_nil_of_length_eq_zero (by omega)
      rw [List.filter_eq_nil_iff] at this
      have := this j (List.mem_range.2 hj)
      simpa using this
    refine ⟨?_, hfin _ _ _ _ _ hs hall hinv hrel⟩
    rw [List.eq_nil_iff_forall_not_mem]
    intro j hj
    obtain ⟨h1, o, ho, _⟩ := mem_ready.1 hj
    have hlt : j < ops.size := (Array.getElem?_eq_some_iff.1 ho).1
    have h2 := hall j hlt
    have : listed.getD j false = listed.getD j true := by simp [show j < listed.size by omega]
    rw [this, h1] at h2
    simp at h2
  | succ fuel ih =>
    intro listed s ρ a w hs hf hinv hrel
    refine ⟨fun hr => hfin _ _ _ _ _ hs (readyX hb hs hr) hinv hrel, fun i hi => ?_⟩
    obtain ⟨h1, o, ho, hafter⟩ := mem_ready.1 hi
    have hlt : i < ops.size := (Array.getElem?_eq_some_iff.1 ho).1
    have hil : i < listed.size := by omega
    have hif : listed.getD i false = false := by
      have : listed.getD i false = listed.getD i true := by simp [hil]
      rw [this]; exact h1
    have ho' : ops.toList[i]? = some o := by simpa using ho
    have hfuel : ((List.range ops.size).filter (fun j => (listed.setIfInBounds i true).getD j false == false)).length ≤ fuel := by
      have : (List.range ops.size).filter (fun j => (listed.setIfInBounds i true).getD j false == false) = ((List.range ops.size).filter (fun j => listed.getD j false == false)).filter (fun j => !(j == i)) := by
        rw [List.filter_filter]
        apply List.filter_congr
        intro j _
        rw [getD_set hil]
        by_cases e : j = i <;> simp [e]
      rw [this]
      have hlt2 : (((List.range ops.size).filter (fun j => listed.getD j false == false)).filter (fun j => !(j == i))).length < ((List.range ops.size).filter (fun j => listed.getD j false == false)).length := by
        rw [List.length_filter_lt_length_iff_exists]
        exact ⟨i, List.mem_filter.2 ⟨List.mem_range.2 hlt, by simpa using hif⟩, by simp⟩
      omega
    obtain ⟨hd, hg, sti, hsrc, hstep⟩ := hglob i o ho'
    unfold wpOp
    rw [ho]
    have hw : Region.wanted o (yielded ops a.tmps) = true := by simp [Region.wanted, hg]
    simp only [hw, if_true]
    exact .inl (stepX_ok hΓ hb hst0 hpk hglob hstep hsrc ho' hd hil (by simpa using hs) (by simp [Lst, hif]) (fun e he hbd => hafter e he hbd) hinv hrel (fun s' ρ' a' w' hinv' hrel' => ih _ _ _ _ _ (by simp [hs]) hfuel hinv' hrel'))
end
section
variable {P : Program} {W0 : Bas} {S0 : Nat → Prop} {E : En}

def lowS (K0 : Nat) : List (Nat × AV) → Bool
  | [] => true
  | (_, .tup (_ :: _)) :: _ => false
  | (_, x) :: r => if fr0 K0 x = true then lowS K0 r else false
theorem lowS_spec {K0 : Nat} : ∀ {l : List (Nat × AV)}, lowS K0 l = true → frS K0 l = true ∧ ∀ t u, lk t l = some u → ment K0 (fun _ => False) u := by
  intro l
  induction l with
  | nil => intro _; exact ⟨rfl, fun t u h => by simp [lk] at h⟩
  | cons p l ih =>
    obtain ⟨k, x⟩ := p
    intro h
    have hx : (∀ v vs, x ≠ .tup (v :: vs)) ∧ fr0 K0 x = true ∧ lowS K0 l = true := by
      by_cases ht : ∃ v vs, x = .tup (v :: vs)
      · obtain ⟨v, vs, rfl⟩ := ht; simp [lowS] at h
      · have hn : ∀ v vs, x ≠ .tup (v :: vs) := fun v vs e => ht ⟨v, vs, e⟩
        have e : lowS K0 ((k, x) :: l) = if fr0 K0 x = true then lowS K0 l else false := by
          cases x <;> try rfl
          rename_i vs
          cases vs with
          | nil => rfl
          | cons v vs => exact absurd rfl (hn v vs)
        rw [e] at h
        split at h
        · rename_i he; exact ⟨hn, he, h⟩
        · simp at h
    obtain ⟨h1, h2, h3⟩ := hx
    obtain ⟨g1, g2⟩ := ih h3
    refine ⟨frS_put h2 h1 g1, fun t u hu => ?_⟩
    simp only [lk] at hu
    split at hu
    · injection hu with hu
      subst hu
      cases x <;> simp only [fr0, Nat.blt_eq] at h2 <;> first | exact .inl h2 | exact h2 | trivial | skip
      rename_i vs
      cases vs with
      | nil => trivial
      | cons v vs => exact absurd rfl (h1 v vs)
    · exact g2 t u hu
theorem rel_drawn {st : St} {a : Act} {w : World} (h : Rel W0 S0 E.n st a w) : Rel W0 S0 E.n st a { w with drawn := w.drawn + 1 } := by
  obtain ⟨S, β, hr⟩ := h
  exact ⟨S, β, ⟨hr.gr.os, hr.gr.tape, hr.gr.output, hr.gr.size, hr.gr.block, hr.gr.sub, hr.gr.new, hr.gr.lt, hr.gr.gd.1, hr.gr.gd.2.mono (fun _ _ => rfl) (fun _ h => h)⟩, hr.par, hr.defers, hr.size, fun t u hu => ⟨(hr.slots t u hu).1, srep_mono (w := w) (w' := { w with drawn := w.drawn + 1 }) (S' := S) (fun _ _ => rfl) (fun _ h => h) (hr.slots t u hu).2⟩, fun k o ho => orep_mono (w := w) (fun _ _ => rfl) (fun _ h => h) (fun g hg => ⟨rfl, (orep_blk (hr.objs k o ho) hg).2.2⟩) (hr.objs k o ho), hr.up, hr.sep, hr.ctr, hr.parc, hr.fix⟩
theorem adx_ok (hΓ : TOKs P) (hm : P.follows .mixedOrders = true) {ops : Array Oper} {K : St → Prop} {Q : Exit → Act → World → Prop} (hb : benX ops.toList = true) {st : St} (hlow : lowS st.ctr st.slots = true) (hK : ∀ st' a' w', K st' → Rel W0 S0 E.n st' a' w' → Q .normal a' w') {a : Act} {w : World} {id : Nat}
    (h : adx sy (CSem P) E ops.toList st.ctr ops.toList 0 [] K st) (hr : Rel W0 S0 E.n st a w) : (Code.region id ops true).wp P Q a w := by
  obtain ⟨hfr, hst0⟩ := lowS_spec hlow
  have hpk : st.par ≤ st.ctr := by obtain ⟨S, β, hr⟩ := hr; rw [hr.par]; exact hr.parc
  have hctr : ∀ k o, lk k st.obs = some o → k < st.ctr := by obtain ⟨S, β, hr⟩ := hr; exact hr.ctr
  obtain ⟨X, KD, _, hglob, used, stN, hk, hsrcN, hobN, hparN⟩ := adx_tr hΓ (st0 := st) (K0 := st.ctr) (K := K) (benX_dis hb) ops.toList 0 [] st (fun _ => .dead) (fun _ => .plain) rfl (Nat.zero_le _) ⟨fun j t hj => by omega, fun _ _ => rfl⟩ ⟨fun _ _ => rfl, fun m hm => by omega, fun m => ⟨fun h => by simp [memN] at h, fun ⟨j, hj, _⟩ => by omega⟩, fun k o ho => .inl (hctr k o ho), fun m h => by simp [memN] at h⟩ rfl h
  have hglob : ∀ j q, ops.toList[j]? = some q → StepX' P E ops.toList st st.ctr X KD j q := fun j q hq => hglob j q (Nat.zero_le _) hq
  refine wp_region_any hm (anyX_ok (W0 := W0) (S0 := S0) (E := E) (K0 := st.ctr) (X := X) (KD := KD) hΓ hb hst0 hpk hglob (fun listed s ρ a' w' hsz hall hinv hrel => hK _ _ _ hk ?_) ops.size _ st (fun m => st.ctr + m) a _ (by simp) ?_ ?_ (rel_drawn hr))
  · have hL : ∀ j, j < ops.toList.length → Lst listed j := fun j hj => hall j (by simpa using hj)
    have hLl : ∀ j, Lst listed j → dstOf ops.toList j ≠ none → j < ops.toList.length := fun j _ h => by
      unfold dstOf at h
      split at h
      · rename_i o ho; exact (List.getElem?_eq_some_iff.1 ho).1
      · exact absurd rfl h
    -- the creators of what is there
    have made : ∀ k o, lk k stN.obs = some o → st.ctr ≤ k → ∃ m ob, k = st.ctr + m ∧ m < ops.toList.length ∧ obOf (KD m) = some ob ∧ lk (ρ m) s.obs = some o := by
      intro k o hk hle
      rcases hobN.2.2.2.1 k o hk with h1 | ⟨m, hm, he, h1⟩
      · omega
      · subst he
        rcases h1 with h1 | ⟨j, hj, h1⟩
        · have h2 := hobN.2.1 m hm h1
          rw [hk] at h2
          refine ⟨m, o, rfl, hm, h2.symm, hinv.unused m o (hL m hm) h2.symm fun j hj hu => ?_⟩
          by_cases hjl : j < ops.toList.length
          · have := (hobN.2.2.1 m).2 ⟨j, hjl, hu⟩
            rw [h1] at this; cases this
          · exfalso
            unfold Lst at hj
            have : ¬ j < listed.size := by rw [hsz]; simpa using hjl
            simp [this] at hj
        · obtain ⟨hm', _, ob, hob⟩ := usr_lst hglob hinv (hL j hj) hj (show usr (KD j) = some m by rw [h1]; rfl)
          exact ⟨m, ob, rfl, hm, hob, hinv.stored m j o (hL j hj) h1⟩
    refine rel_ren (kap st.ctr ρ) (fun t x hx => ?_) (fun k o hk' => ?_) (fun k k' o o' h1 h2 he => ?_) (fun k o hk' => ?_) (by rw [hinv.par]; exact hparN) (by rw [hinv.par]; show st.par ≤ st.ctr + _; omega) (fun k hk' => ?_) (fun k o hk' hlt => ?_) hrel
    · have hx : lk t stN.slots = some x := hx
      by_cases hj : ∃ j, j < ops.toList.length ∧ dstOf ops.toList j = some t
      · obtain ⟨j, hjl, hjt⟩ := hj
        rw [hsrcN.1 j t hjl hjt] at hx
        injection hx with hx
        subst hx
        exact ⟨ment_tup (hinv.men j (hL j hjl)), hinv.new j t (hL j hjl) hjt⟩
      · rw [hsrcN.2 t fun j hjl hjt => hj ⟨j, hjl, hjt⟩] at hx
        refine ⟨ment_tup (hst0 t x hx), ?_⟩
        rw [hinv.old t fun j hjL hjt => hj ⟨j, hLl j hjL (by rw [hjt]; simp), hjt⟩, hx, rn_low (hst0 t x hx)]
    · have hk' : lk k stN.obs = some o := hk'
      by_cases hlt : k < st.ctr
      · rw [hobN.1 k hlt] at hk'
        unfold kap
        rw [if_pos hlt, hinv.low k hlt]; exact hk'
      · obtain ⟨m, ob, rfl, hm, _, h2⟩ := made k o hk' (by omega)
        rw [kap_hi]; exact h2
    · have h1 : lk k stN.obs = some o := h1
      have h2 : lk k' stN.obs = some o' := h2
      by_cases hlt : k < st.ctr <;> by_cases hlt' : k' < st.ctr
      · unfold kap at he; rw [if_pos hlt, if_pos hlt'] at he; exact he
      · obtain ⟨m, ob, rfl, hm, hob, _⟩ := made k' o' h2 (by omega)
        rw [kap_hi] at he
        unfold kap at he
        rw [if_pos hlt] at he
        have := (hinv.rge m ob (hL m hm) hob).1
        omega
      · obtain ⟨m, ob, rfl, hm, hob, _⟩ := made k o h1 (by omega)
        rw [kap_hi] at he
        unfold kap at he
        rw [if_pos hlt'] at he
        have := (hinv.rge m ob (hL m hm) hob).1
        omega
      · obtain ⟨m, ob, rfl, hm, hob, _⟩ := made k o h1 (by omega)
        obtain ⟨m', ob', rfl, hm', hob', _⟩ := made k' o' h2 (by omega)
        rw [kap_hi, kap_hi] at he
        rw [hinv.inj m m' ob ob' (hL m hm) (hL m' hm') hob hob' he]
    · have hk' : lk k stN.obs = some o := hk'
      show k < st.ctr + _
      by_cases hlt : k < st.ctr
      · omega
      · obtain ⟨m, ob, rfl, hm, _, _⟩ := made k o hk' (by omega)
        omega
    · rw [hinv.par] at hk'
      unfold kap
      rw [if_pos (by omega)]
    · have hk' : lk k stN.obs = some o := hk'
      rw [hinv.par] at hlt ⊢
      by_cases h3 : k < st.ctr
      · unfold kap at hlt; rw [if_pos h3] at hlt; exact hlt
      · obtain ⟨m, ob, rfl, hm, hob, _⟩ := made k o hk' (by omega)
        rw [kap_hi] at hlt
        have := (hinv.rge m ob (hL m hm) hob).1
        omega
  · refine Nat.le_trans (List.length_filter_le _ _) (by simp)
  · have hno : ∀ j, ¬ Lst (Array.replicate ops.size false) j := fun j hj => by
      unfold Lst at hj
      by_cases hlt : j < ops.size <;> simp [hlt] at hj
    exact ⟨rfl, Nat.le_refl _, hfr, fun j t hj => absurd hj (hno j), fun _ _ => rfl, fun _ _ => rfl, fun m o hm => absurd hm (hno m), fun m j o hj => absurd hj (hno j), fun m o hm => absurd hm (hno m), fun m m' o o' hm => absurd hm (hno m), fun j hj => absurd hj (hno j), fun j q hq hj => absurd hj (hno j)⟩
/-- of_text, with open regions that make objects, at cuts. -/
theorem of_textX (hΓ : TOKs P) (hm : P.follows .mixedOrders = true) (E : En) {f : Nat} {fn : Func} {c : Code} {args : List AV} {res : Res} (hf : P.funcs[f]? = some fn) (hname : (fn.name == "runtime.NumGoroutine") = false) (hb : fn.body = some c) (hn : fn.ntmps = E.n) (ha : args.length ≤ E.n) (h4 : fn.results.toList.length ≤ 4)
    (h : ∀ (F : Sy) (C : Key → List AV → Res → Prop) (D : Code → (AE → St → Prop) → St → Prop), F = sy → (∀ k l r, CSem P k l r → C k l r) → (∀ c Q s, awp F C D E c Q s → D c Q s) → (∀ id ops rest Q s, benX ops.toList = true → lowS s.ctr s.slots = true → adx F C E ops.toList s.ctr ops.toList 0 [] (fun st => D rest Q st) s → D (.seq (.region id ops true) rest) Q s) →
      awp F C D E c (fun e st => match e with | .normal => retOK fn.results.toList res st | .ret => retOK fn.results.toList res st | .exit _ => False) { slots := Am.st0 0 args, obs := [], ctr := 0 }) : CSem P (.fn f) args res := by
  have snd : ∀ c Q s, awp sy (CSem P) (Snd P E) E c Q s → Snd P E c Q s := fun c Q s h W0 S0 R a w hr hq => awp_ok hΓ hm c Q R s a w h hr hq
  refine fsem_of (fun as w => ?_) (acalls_of0 E hΓ hm hf hb hn ha h4 (h sy (CSem P) (Snd P E) rfl (fun _ _ _ h => h) snd (fun id ops rest Q s h1 h2 h3 W0 S0 R a w hr hq => ?_)))
  · have h1 : fn.name ≠ "runtime.NumGoroutine" := by simpa using hname
    simp [callFunc, hf, h1, hb]
  · exact wp_seq (adx_ok hΓ hm h1 h2 (fun st' a' w' hk hr' => hk _ _ _ _ _ hr' hq) h3 hr)
end
end Go.Proofs.YtfphhpabfeepmaaDoor.Am
