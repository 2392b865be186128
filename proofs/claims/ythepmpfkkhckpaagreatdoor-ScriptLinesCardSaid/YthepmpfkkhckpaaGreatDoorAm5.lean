import Derived.Test.YthepmpfkkhckpaaGreatDoorAm4
set_option linter.unusedVariables false
set_option linter.unusedSimpArgs false
namespace Go.Proofs.YthepmpfkkhckpaaGreatDoor.Am
open Go Go.RowKit
variable {P : Program} {C : Key → List AV → Res → Prop}

/-! ### 5. Literals and calls -/
theorem foldl_set (l : List Value) : ∀ (off k : Nat) (cs : Array Value), off + k + l.length ≤ cs.size →
    ((l.zipIdx k).foldl (fun cs (p : Value × Nat) => cs.setIfInBounds (off + p.2) p.1) cs).toList = cs.toList.take (off + k) ++ l ++ cs.toList.drop (off + k + l.length) := by
  induction l with
  | nil => intro off k cs h; simp
  | cons c l ih =>
    intro off k cs h
    simp only [List.zipIdx_cons, List.foldl_cons]
    rw [ih off (k + 1) _ (by simp only [Array.size_setIfInBounds]; simp at h; omega)]
    have hlt : off + k < cs.toList.length := by simp at h ⊢; omega
    rw [Array.toList_setIfInBounds]
    have e1 : (cs.toList.set (off + k) c).take (off + (k + 1)) = cs.toList.take (off + k) ++ [c] := by
      rw [show off + (k + 1) = (off + k) + 1 from by omega, List.take_succ_eq_append_getElem (by simpa using hlt)]
      simp [List.take_set_of_le]
    have e2 : (cs.toList.set (off + k) c).drop (off + (k + 1) + l.length) = cs.toList.drop (off + k + (c :: l).length) := by
      rw [List.drop_set_of_lt (by omega)]
      congr 1
      simp; omega
    rw [e1, e2]
    simp
theorem fill_step {place : Nat → Option (Nat × Nat)} {cells : Array Value} {i off size : Nat} {v : Value} {rest : List (Nat × Value)} {xs : List Value} (hp : place i = some (off, size)) (hx : v.cells = xs.toArray) (hs : xs.length = size) (hle : off + size ≤ cells.size) :
    ∃ cells' : Array Value, Instr.fill place cells ((i, v) :: rest) = Instr.fill place cells' rest ∧ cells'.toList = cells.toList.take off ++ xs ++ cells.toList.drop (off + size) ∧ cells'.size = cells.size := by
  refine ⟨(xs.zipIdx 0).foldl (fun cs (p : Value × Nat) => cs.setIfInBounds (off + p.2) p.1) cells, ?_, ?_, ?_⟩
  · simp only [Instr.fill, hp, hx]
    have : ¬ ((decide ((xs.toArray).size ≠ size) || decide (off + (xs.toArray).size > cells.size)) = true) := by simp [hs]; omega
    rw [if_neg this]
    congr 1
    rw [← Array.foldl_toList]
    simp
  · have := foldl_set xs off 0 cells (by omega)
    rw [this, hs]
    simp
  · have := congrArg List.length (foldl_set xs off 0 cells (by omega))
    simp only [Array.length_toList] at this
    rw [this]
    simp
    omega

theorem partRows_ok {ev : Operand → Option AV} {obs : Obs} {w : World} {S : Nat → Prop} {β : Nat → Value} {sz : Nat} {a : Act} : ∀ (l : List (Nat × Operand)) (i : Nat) (rows : List (List AV)) (cells : Array Value),
    (∀ p ∈ l, ∀ u, ev p.2 = some u → SRep w S β obs u (a.eval p.2)) → partRows ev sz i l = some rows → (i + rows.length) * sz ≤ cells.size →
    ∃ (cells' : Array Value) (xs : List Value), Instr.fill (fun i => some (i * sz, sz)) cells (l.map fun p => (p.1, a.eval p.2)) = some cells' ∧ cells'.toList = cells.toList.take (i * sz) ++ xs ++ cells.toList.drop ((i + rows.length) * sz) ∧ cells'.size = cells.size ∧ RepL w S rows.flatten xs ∧ ∀ r ∈ rows, r.length = sz := by
  intro l
  induction l with
  | nil =>
    intro i rows cells _ h hle
    simp [partRows] at h
    subst h
    exact ⟨cells, [], rfl, by simp, rfl, RepL.nil _ _, fun r h => by simp at h⟩
  | cons p l ih =>
    obtain ⟨j, x⟩ := p
    intro i rows cells hev h hle
    simp only [partRows] at h
    split at h
    · rename_i hji
      subst hji
      split at h
      · rename_i u hu
        split at h
        · rename_i cs hcs
          split at h
          · rename_i hl
            split at h
            · rename_i t ht
              injection h with h
              subst h
              obtain ⟨xs, hx, hr⟩ := cells_of hcs (hev (j, x) List.mem_cons_self u hu)
              have hxl : xs.length = sz := by rw [← hr.1, hl]
              simp only [List.length_cons] at hle
              obtain ⟨c1, hf, hc1, hs1⟩ := fill_step (place := fun i => some (i * sz, sz)) (cells := cells) (i := j) (off := j * sz) (size := sz) (v := a.eval x) (rest := l.map fun p => (p.1, a.eval p.2)) rfl hx hxl (by have := Nat.mul_le_mul_right sz (show j + 1 ≤ j + (t.length + 1) by omega); rw [Nat.succ_mul] at this; omega)
              obtain ⟨c2, ys, hf2, hc2, hs2, hr2, hl2⟩ := ih (j + 1) t c1 (fun p hp => hev p (List.mem_cons_of_mem _ hp)) ht (by rw [hs1]; rw [show j + 1 + t.length = j + (t.length + 1) from by omega]; exact hle)
              refine ⟨c2, xs ++ ys, by simp only [List.map_cons]; rw [hf, hf2], ?_, by rw [hs2, hs1], ?_, ?_⟩
              · rw [hc2, hc1]
                have hjs : j * sz ≤ cells.toList.length := by
                  have := Nat.mul_le_mul_right sz (show j ≤ j + (t.length + 1) by omega)
                  simp; omega
                have hlen1 : (cells.toList.take (j * sz) ++ xs).length = (j + 1) * sz := by
                  rw [List.length_append, List.length_take, Nat.min_eq_left hjs, hxl, Nat.succ_mul]
                rw [List.take_left' hlen1]
                have e3 : (j + 1 + t.length) * sz = (j + 1) * sz + t.length * sz := by rw [Nat.add_mul]
                rw [e3, ← List.drop_drop, List.drop_left' hlen1, List.drop_drop]
                simp only [List.length_cons]
                rw [show j * sz + sz + t.length * sz = (j + (t.length + 1)) * sz from by rw [Nat.add_mul, Nat.add_mul]; omega]
                simp
              · rw [List.flatten_cons]; exact hr.append hr2
              · intro r hr'
                rcases List.mem_cons.1 hr' with rfl | h
                · exact hl
                · exact hl2 r h
            · simp at h
          · simp at h
        · simp at h
      · simp at h
    · simp at h

theorem flatten_get {sz : Nat} : ∀ (rows : List (List AV)) (j : Nat) (ds : List AV) (i : Nat) (u : AV), (∀ r ∈ rows, r.length = sz) → rows[j]? = some ds → ds[i]? = some u → rows.flatten[j * sz + i]? = some u := by
  intro rows
  induction rows with
  | nil => intro j ds i u _ h; simp at h
  | cons r rs ih =>
    intro j ds i u hl hj hu
    have hr0 : r.length = sz := hl r List.mem_cons_self
    cases j with
    | zero =>
      simp at hj
      subst hj
      have hil : i < r.length := (List.getElem?_eq_some_iff.1 hu).1
      rw [List.flatten_cons, List.getElem?_append_left (by omega)]
      simpa using hu
    | succ j =>
      rw [List.flatten_cons, List.getElem?_append_right (by rw [hr0, Nat.succ_mul]; omega)]
      have := ih j ds i u (fun r hr => hl r (List.mem_cons_of_mem _ hr)) (by simpa using hj) hu
      rw [hr0, Nat.succ_mul, show j * sz + sz + i - sz = j * sz + i from by omega]
      exact this
theorem flatten_len {sz : Nat} : ∀ (rows : List (List AV)), (∀ r ∈ rows, r.length = sz) → rows.flatten.length = rows.length * sz := by
  intro rows
  induction rows with
  | nil => intro _; simp
  | cons r rs ih =>
    intro hl
    rw [List.flatten_cons, List.length_append, hl r List.mem_cons_self, ih (fun r hr => hl r (List.mem_cons_of_mem _ hr)), List.length_cons, Nat.succ_mul, Nat.add_comm]
/-- A row in a block that stays as it is reads as a slice. -/
theorem repc_of_block {w : World} {S : Nat → Prop} {g t : Nat} {cur : Array Value} {fr : Nat × Nat} {rows : List (List AV)} {xs : List Value} {sz c : Nat} (hg : w.heap[g]? = some (.cells cur t fr)) (hS : S g) (hl : ∀ r ∈ rows, r.length = sz) (hr : RepL w S rows.flatten xs)
    (hx : cur.toList.take (rows.length * sz) = xs) (hc : rows.length ≤ c) (hm : rows.length ≤ 9223372036854775807) : RepC w S (.sl rows) (.slice (some ⟨g, 0, none⟩) rows.length c) := by
  refine .sl rows ⟨g, 0, none⟩ c sz (fun i j => cur[i * sz + j]?.getD (.bool true)) hS hl hc hm (fun i r hi j u hu => ?_) (fun i r hi j u hu => ?_)
  all_goals
    obtain ⟨x, hx1, hx2⟩ := hr.get (flatten_get rows i r j u hl hi hu)
    have hcur : cur[i * sz + j]? = some x := by
      rw [← hx, List.getElem?_take] at hx1
      split at hx1
      · simpa using hx1
      · simp at hx1
  · rw [add_mk, cell_of_row w g _ _ _ _ hg, hcur]; rfl
  · simp only [hcur, Option.getD_some]; exact hx2
theorem repc_of_own {w : World} {S : Nat → Prop} {B e sz : Nat} {z : Value} {rows : List (List AV)} {zs : List Value} (h : OwnR w B e sz z rows.length zs) (hr : RepL w S rows.flatten zs) (hl : ∀ r ∈ rows, r.length = sz) (hS : ∀ g, z.ownBlock = some g → S g) : RepC w S (.sl rows) z := by
  rcases h.2 with ⟨rfl, hn⟩ | ⟨g, cap, cur, fr, rfl, hB, hh, hfr, hn, hm, hcs, htake⟩
  · cases rows with
    | nil => exact .nil _ _ (fun _ => rfl)
    | cons r rs => simp at hn
  · exact repc_of_block hh (hS g (by simp [Value.ownBlock])) hl hr htake hn (by unfold maxLen at hm; omega)

theorem run_buildSlice {ev : Operand → Option AV} {obs : Obs} {t n : Nat} {parts : Array (Nat × Operand)} {rows : List (List AV)} {ti : TI} {e esz bytes : Nat} (ht : TOK P t ti) (hk : ti.kind = .sli e esz bytes) (hp : partRows ev esz 0 parts.toList = some rows) (hn : rows.length = n) (hb : n * esz ≤ 16777216) {a : Act} {w : World} {S : Nat → Prop} {β : Nat → Value}
    (hev : ∀ o ∈ (Op.buildSlice t n parts).operands, ∀ u, ev o = some u → SRep w S β obs u (a.eval o)) {oper : Oper} (hop : oper.op = .buildSlice t n parts) :
    ∃ xs : List Value, (execOp a.eval oper).run P w = .ok (.value (.slice (some ⟨w.heap.size, 0, none⟩) n n)) (w.alloc (.cells xs.toArray e (0, 0))) ∧ RepL w S rows.flatten xs ∧ (∀ r ∈ rows, r.length = esz) ∧ xs.length = n * esz ∧ 0 < esz := by
  have hkd := ht.kind
  rw [hk] at hkd
  obtain ⟨hu, ⟨hpos, hposb⟩, inf, z, hinf, hz, hsz, hby, hzs⟩ := hkd
  have hso := run_sizeOf_info (P := P) hinf hsz w
  have hzv : (zeroValue e).run P w = .ok z w := by simp [zeroValue, typeInfo, hinf, hz]
  obtain ⟨cells', xs, hf, hc, hs, hr, hl⟩ := partRows_ok (ev := ev) (obs := obs) (w := w) (S := S) (β := β) (sz := esz) (a := a) parts.toList 0 rows ((Array.range (n * esz)).map (z.cells[· % z.cells.size]!)) (fun p hp u hu => hev p.2 (by
    simp only [Op.operands]
    have : p.2 ∈ (parts.toList.map (·.2)) := List.mem_map_of_mem hp
    simpa using this) u hu) hp (by simp [hn])
  have hc' : cells'.toList = xs := by rw [hc]; simp [hn]
  have hcells : cells' = xs.toArray := by rw [← hc']
  have hxl : xs.length = n * esz := by rw [← hr.1, flatten_len rows hl, hn]
  refine ⟨xs, ?_, hr, hl, hxl, hpos⟩
  have hbig : ¬ (n * esz > 2 ^ 24) := by omega
  have hf' : Instr.fill (fun i => some (i * esz, esz)) (Array.map (fun x => z.cells[x % z.cells.size]!) (Array.range (n * esz))) (List.map (fun p => (p.1, a.eval p.2)) parts.toList) = some xs.toArray := by rw [← hcells]; exact hf
  by_cases h0 : n * esz = 0
  · have hn0 : n = 0 := by
      rcases Nat.mul_eq_zero.1 h0 with h | h
      · exact h
      · omega
    have hr0 : rows = [] := List.eq_nil_of_length_eq_zero (by omega)
    have hp0 : parts.toList = [] := by
      cases hpl : parts.toList with
      | nil => rfl
      | cons p l =>
        rw [hpl, hr0] at hp
        obtain ⟨j, x⟩ := p
        simp only [partRows] at hp
        repeat' split at hp
        all_goals simp at hp
    have hx0 : xs = [] := by rw [← hc']; have := hs; rw [h0] at this; simp at this; simpa using this
    subst hx0
    have hpe : parts = #[] := by rw [← Array.toList_inj]; simpa using hp0
    subst hpe
    simp [execOp, hop, Instr.buildSlice, run_underlying hu, hso, h0, Instr.fill, newRow, newObj, Sem.run]
    have hr00 : Array.map (fun _ : Nat => (default : Value)) (Array.range 0) = #[] := by rw [← Array.toList_inj]; simp
    rw [hr00]
  · simp only [execOp, hop]
    simp only [Instr.buildSlice, Sem.run_bind, run_underlying hu, Result.andThen_ok, hso]
    simp [hbig, h0, hzv, hf', newRow, newObj, Sem.run]
theorem good_buildSlice {ev : Operand → Option AV} {obs : Obs} {t n : Nat} {parts : Array (Nat × Operand)} {rows : List (List AV)} {ti : TI} {e esz bytes : Nat} (ht : TOK P t ti) (hk : ti.kind = .sli e esz bytes) (hp : partRows ev esz 0 parts.toList = some rows) (hn : rows.length = n) (hb : n * esz ≤ 16777216) :
    Good P ev obs (.buildSlice t n parts) (.sl rows) := by
  intro a w S β B hS hgd hev ho oper hop K Q hK
  obtain ⟨xs, hrun, hr, hl, hxl, hpos⟩ := run_buildSlice ht hk hp hn hb hev hop
  refine wp_val (w' := w.alloc (.cells xs.toArray e (0, 0))) (v := .slice (some ⟨w.heap.size, 0, none⟩) n n) hrun (hK _ _ (fun g => S g ∨ g = w.heap.size) (gr_new hS _) ?_)
  rw [← hn]
  refine srep_c (repc_of_block (heap_alloc_new w _) (.inr rfl) hl (hr.mono ((gr_new hS _).same hS) (fun _ h => Or.inl h)) ?_ (Nat.le_refl _) ?_)
  · rw [List.take_of_length_le]
    have := hr.1
    rw [flatten_len rows hl] at this
    simp; omega
  · have : rows.length ≤ rows.length * esz := Nat.le_mul_of_pos_right _ hpos
    rw [hn] at this ⊢
    omega

theorem setCells_ok : ∀ (off : Nat) (ds cs es : List AV), setCells off ds cs = some es → es = cs.take off ++ ds ++ cs.drop (off + ds.length) ∧ off + ds.length ≤ cs.length := by
  intro off
  induction off with
  | zero =>
    intro ds
    induction ds with
    | nil => intro cs es h; simp [setCells] at h; subst h; simp
    | cons d ds ih =>
      intro cs es h
      cases cs with
      | nil => simp [setCells] at h
      | cons c cs =>
        simp only [setCells] at h
        split at h
        · rename_i r hr
          injection h with h
          subst h
          obtain ⟨h1, h2⟩ := ih cs r hr
          refine ⟨by rw [h1]; simp, by simp at h2 ⊢; omega⟩
        · simp at h
  | succ off ih =>
    intro ds cs es h
    cases cs with
    | nil => cases ds <;> simp [setCells] at h
    | cons c cs =>
      simp only [setCells] at h
      split at h
      · rename_i r hr
        injection h with h
        subst h
        obtain ⟨h1, h2⟩ := ih ds cs r hr
        refine ⟨by rw [h1]; simp [Nat.succ_add], by simp at h2 ⊢; omega⟩
      · simp at h
theorem repl_set {w : World} {S : Nat → Prop} {cs ds es : List AV} {xs ys : List Value} {off : Nat} (h : setCells off ds cs = some es) (hc : RepL w S cs xs) (hd : RepL w S ds ys) : RepL w S es (xs.take off ++ ys ++ xs.drop (off + ys.length)) := by
  obtain ⟨h1, h2⟩ := setCells_ok _ _ _ _ h
  subst h1
  rw [← hd.1]
  exact ((hc.take off).append hd).append (hc.drop _)
theorem partCells_ok {ev : Operand → Option AV} {obs : Obs} {w : World} {S : Nat → Prop} {β : Nat → Value} {a : Act} {offs : List (Nat × Nat)} {place : Nat → Option (Nat × Nat)} (hpl : ∀ (i : Nat) q, offs[i]? = some q → place i = some q) : ∀ (l : List (Nat × Operand)) (cs es : List AV) (cells : Array Value),
    (∀ p ∈ l, ∀ u, ev p.2 = some u → SRep w S β obs u (a.eval p.2)) → RepL w S cs cells.toList → partCells ev offs cs l = some es →
    ∃ cells' : Array Value, Instr.fill place cells (l.map fun p => (p.1, a.eval p.2)) = some cells' ∧ RepL w S es cells'.toList := by
  intro l
  induction l with
  | nil =>
    intro cs es cells _ hr h
    simp [partCells] at h
    subst h
    exact ⟨cells, rfl, hr⟩
  | cons p l ih =>
    obtain ⟨j, x⟩ := p
    intro cs es cells hev hr h
    simp only [partCells] at h
    split at h
    · simp at h
    · rename_i off size hoff
      split at h
      · simp at h
      · rename_i u hu
        split at h
        · simp at h
        · rename_i ds hds
          split at h
          · rename_i hl
            split at h
            · simp at h
            · rename_i cs' hcs'
              have hp := hpl j _ hoff
              obtain ⟨ys, hy, hry⟩ := cells_of hds (hev (j, x) List.mem_cons_self u hu)
              have hyl : ys.length = size := by rw [← hry.1, hl]
              have hle := (setCells_ok _ _ _ _ hcs').2
              have hcl := hr.1
              obtain ⟨c1, hf, hc1, _⟩ := fill_step (place := place) (cells := cells) (i := j) (off := off) (size := size) (v := a.eval x) (rest := l.map fun p => (p.1, a.eval p.2)) hp hy hyl (by simp at hcl; omega)
              obtain ⟨c2, hf2, hr2⟩ := ih cs' es c1 (fun p hp => hev p (List.mem_cons_of_mem _ hp)) (by rw [hc1, ← hyl]; exact repl_set hcs' hr hry) h
              exact ⟨c2, by simp only [List.map_cons]; rw [hf, hf2], hr2⟩
          · simp at h
theorem good_build {ev : Operand → Option AV} {obs : Obs} {t : Nat} {parts : Array (Nat × Operand)} {cs : List AV} {ti : TI} (ht : TOK P t ti) (hk : ti.kind = .struct) (hp : partCells ev ti.offs ti.zero parts.toList = some cs) : Good P ev obs (.build t parts) (.agg cs) := by
  intro a w S β B hS hgd hev ho oper hop K Q hK
  have hkd := ht.kind
  rw [hk] at hkd
  obtain ⟨fields, hu, hf⟩ := hkd
  obtain ⟨z, hz, hzs, hzr⟩ := ht.zero w
  obtain ⟨cells', hfill, hr⟩ := partCells_ok (ev := ev) (obs := obs) (w := w) (S := S) (β := β) (a := a) (offs := ti.offs) (place := (ti.offs.toArray[·]?)) (fun i q h => by simpa using h) parts.toList ti.zero cs z.cells (fun p hp u hu => hev p.2 (by
    simp only [Op.operands]
    have : p.2 ∈ (parts.toList.map (·.2)) := List.mem_map_of_mem hp
    simpa using this) u hu) (hzr w S) hp
  refine wp_val (w' := w) (v := .agg cells') ?_ (hK _ _ _ (Gr.refl hS) ?_)
  · simp only [execOp, hop]
    simp only [Instr.build, Sem.run_bind, hz, Result.andThen_ok, run_underlying hu, Sem.run_pure, hf]
    simp only [List.getElem?_toArray] at hfill
    simp [hfill]
  · have : cells' = cells'.toList.toArray := by simp
    rw [this]
    exact srep_of_rep (.agg hr)
theorem good_buildArr {ev : Operand → Option AV} {obs : Obs} {t n esz : Nat} {parts : Array (Nat × Operand)} {ti : TI} (ht : TOK P t ti) (hk : ti.kind = .arr n esz) (hp : parts.toList = []) : Good P ev obs (.build t parts) (.agg ti.zero) := by
  intro a w S β B hS hgd hev ho oper hop K Q hK
  have hkd := ht.kind
  rw [hk] at hkd
  obtain ⟨e, hu, hf⟩ := hkd
  obtain ⟨z, hz, hzs, hzr⟩ := ht.zero w
  have hpe : parts = #[] := by rw [← Array.toList_inj]; simpa using hp
  subst hpe
  refine wp_val (w' := w) (v := .agg z.cells) ?_ (hK _ _ _ (Gr.refl hS) ?_)
  · simp only [execOp, hop]
    simp only [Instr.build, Sem.run_bind, hz, Result.andThen_ok, run_underlying hu, Sem.run_pure, hf]
    simp [Instr.fill]
  · have : z.cells = z.cells.toList.toArray := by simp
    rw [this]
    exact srep_of_rep (.agg (hzr w S))

theorem srep_res {w w' : World} {S S' : Nat → Prop} {β : Nat → Value} {obs : Obs} {xs : List AV} {y : Value} {ys : List Value} (hy : y = tupV ys) (h : Reps w' S' xs ys) : SRep w' S' β obs (tupOf xs) y := by
  subst hy
  have tup : ∀ (xs : List AV) (ys : List Value), Reps w' S' xs ys → SRep w' S' β obs (.tup xs) (.tuple ys.toArray) := by
    intro xs ys h
    refine ⟨ys, rfl, h.1, fun i u x hu hx => ?_⟩
    have hr := h.2 i u x hu hx
    have := srep_of_rep (β := β) (obs := obs) hr
    cases u <;> try exact this
    · cases hr with
      | c h => cases h
  match xs, ys, h with
  | [], ys, h => rw [h.unnil]; exact tup _ _ (Reps.nil _ _)
  | [x], ys, h =>
    obtain ⟨y, ys', rfl, h1, h2⟩ := h.uncons
    rw [h2.unnil]
    exact srep_of_rep h1
  | x :: x2 :: xs, ys, h =>
    obtain ⟨y, ys', rfl, h1, h2⟩ := h.uncons
    obtain ⟨y2, ys2, rfl, h3, h4⟩ := h2.uncons
    exact tup _ _ h

theorem evs_reps {ev : Operand → Option AV} {obs : Obs} {w : World} {S : Nat → Prop} {β : Nat → Value} {a : Act} : ∀ (l : List Operand) (cs : List AV), evs ev l = some cs → (∀ o ∈ l, ∀ u, ev o = some u → SRep w S β obs u (a.eval o)) →
    (∀ c ∈ cs, match c with | .ptr _ _ => False | .own _ _ => False | .rel _ _ _ _ _ _ => False | .osl _ _ _ => False | .mo _ => False | .tup _ => False | .dead => False | _ => True) → Reps w S (cs.map plain) (l.map a.eval) := by
  intro l
  induction l with
  | nil => intro cs h _ _; simp [evs] at h; subst h; exact Reps.nil _ _
  | cons x l ih =>
    intro cs h hev hk
    simp only [evs] at h
    split at h
    · simp at h
    · rename_i u hu
      split at h
      · simp at h
      · rename_i r hr
        injection h with h
        subst h
        refine Reps.cons ?_ (ih r hr (fun o ho => hev o (List.mem_cons_of_mem _ ho)) (fun c hc => hk c (List.mem_cons_of_mem _ hc)))
        have h1 := hev x List.mem_cons_self u hu
        have h2 := hk u List.mem_cons_self
        refine rep_plain ?_
        cases u <;> first | exact h1 | exact h2.elim
theorem Reps.append {w : World} {S : Nat → Prop} {cs ds : List AV} {xs ys : List Value} (h : Reps w S cs xs) (k : Reps w S ds ys) : Reps w S (cs ++ ds) (xs ++ ys) := by
  refine ⟨by simp [h.1, k.1], fun i u x hu hx => ?_⟩
  by_cases hi : i < cs.length
  · rw [List.getElem?_append_left hi] at hu
    rw [List.getElem?_append_left (by rw [← h.1]; exact hi)] at hx
    exact h.2 i u x hu hx
  · rw [List.getElem?_append_right (by omega)] at hu
    rw [List.getElem?_append_right (by rw [← h.1]; omega), ← h.1] at hx
    exact k.2 _ u x hu hx
theorem res_frozen {w w' : World} {S S' : Nat → Prop} {β : Nat → Value} {obs : Obs} {r : Res} {y : Value} (hg : Gr w S w' S') (h : ResR w w' S S' r y) : ∃ S2, Gr w S w' S2 ∧ SRep w' S2 β obs (resAV r) y := by
  cases r with
  | pure xs =>
    obtain ⟨ys, hy, hr⟩ := h
    exact ⟨S', hg, srep_res (w := w) (S := S) hy hr⟩
  | own e sz rows rest =>
    obtain ⟨z, ys, zs, hy, hown, hr, hl, hS, hrest, _⟩ := h
    have hblk : ∀ g, z.ownBlock = some g → w.heap.size ≤ g ∧ g < w'.heap.size := by
      intro g hgz
      rcases hown.2 with ⟨rfl, _⟩ | ⟨g', cap, cur, fr, rfl, hB, hh, _⟩
      · simp [Value.ownBlock] at hgz
      · simp [Value.ownBlock] at hgz
        subst hgz
        exact ⟨hB, (Array.getElem?_eq_some_iff.1 hh).1⟩
    refine ⟨fun g => S' g ∨ z.ownBlock = some g, ⟨hg.below, fun g h => .inl (hg.sub g h), fun g h => ?_, fun g h => ?_⟩, ?_⟩
    · rcases h with h | h
      · exact hg.new g h
      · exact .inr (hblk g h).1
    · rcases h with h | h
      · exact hg.lt g h
      · exact (hblk g h).2
    · have hm : SameOn S' w' w' := fun _ _ => rfl
      exact srep_res (w := w) (S := S) hy (Reps.cons (.c (repc_of_own hown (hr.mono hm (fun _ h => Or.inl h)) hl (fun g h => Or.inr h))) (hrest.mono hm (fun _ h => Or.inl h)))
  | bx ty cells rest =>
    obtain ⟨g, ys, xs, hy, hle, hS, hh, hr, hrest⟩ := h
    have hm : SameOn S' w' w' := fun _ _ => rfl
    have hsub : ∀ j, S' j → (S' j ∨ j = g) := fun _ h => Or.inl h
    refine ⟨fun j => S' j ∨ j = g, ⟨hg.below, fun g h => .inl (hg.sub g h), fun j h => ?_, fun j h => ?_⟩, ?_⟩
    · rcases h with h | rfl
      · exact hg.new j h
      · exact .inr hle
    · rcases h with h | rfl
      · exact hg.lt j h
      · exact (Array.getElem?_eq_some_iff.1 hh).1
    · have h0 : Rep w' (fun j => S' j ∨ j = g) (.ept cells 0) (.pointer (some ((⟨g, 0, none⟩ : Addr).add 0))) := .ept ⟨Or.inr rfl, fun i u hu => by
        obtain ⟨x, hx1, hx2⟩ := hr.get hu
        exact ⟨x, by rw [add_mk, cell_of_row w' g i _ _ _ hh]; simpa using hx1, hx2.mono hm hsub⟩⟩
      exact srep_res (w := w) (S := S) hy (Reps.cons h0 (hrest.mono hm hsub))
theorem wp_enter {o : Oper} {a : Act} {w : World} {K : Act → World → Prop} {Q : Exit → Act → World → Prop} {f : Nat} {args : Array Value}
    (h : (execOp a.eval o).run P w = .ok (.enter f args) w) (hc : Calls P f args w fun e w' => ∃ y, e = .returned y ∧ K (a.put o.dst y) w') : o.wp P a w K Q := by
  unfold Oper.wp
  rw [h, Oper.upon_enter]
  refine hc.mono ?_
  rintro e w' ⟨y, rfl, hk⟩
  exact hk
theorem run_call {a : Act} {o : Oper} {f : Operand} {args : Array Operand} {ats : Array TypeId} {g : Nat} {caps : List Value} {w : World} (hop : o.op = .call { callee := .value f, args := args, argTypes := ats }) (hf : a.eval f = .func (.func g) #[] caps.toArray)
    (he : ∀ as w, (callFunc g as).run P w = .ok (.enter g as) w) : (execOp a.eval o).run P w = .ok (.enter g (args.toList.map a.eval ++ caps).toArray) w := by
  have : (args.toList.map a.eval ++ caps).toArray = args.map a.eval ++ caps.toArray := by
    rw [← Array.toList_inj]; simp
  simp [execOp, hop, resolve, hf, Deferred.ofValue, invoke, he, this]
theorem good_call {ev : Operand → Option AV} {obs : Obs} {f : Operand} {args : Array Operand} {ats : Array TypeId} {g : Nat} {caps as : List AV} {r : Res} (hf : ev f = some (.clo g caps)) (ha : evs ev args.toList = some as) (hk : ∀ c ∈ as, okArg c = true) (h : CSem P (.fn g) (as.map plain ++ caps) r) :
    Good P ev obs (.call { callee := .value f, args := args, argTypes := ats }) (resAV r) := by
  intro a w S β B hS hgd hev ho oper hop K Q hK
  obtain ⟨he, hc⟩ := h
  obtain ⟨xs, hfv, hcaps⟩ := srep_clo (hev f (by simp [Op.operands, Call.operands]) _ hf)
  have hreps := (evs_reps args.toList as ha (fun o ho' => hev o (by
    simp only [Op.operands, Call.operands]
    have : o ∈ args := by simpa using ho'
    simp [this])) (fun c hc => by have := hk c hc; cases c <;> simp_all [okArg])).append hcaps
  refine wp_enter (run_call hop hfv he) ((hc w S _ hS hgd hreps).mono ?_)
  rintro e w' ⟨y, S', rfl, hg, hr⟩
  obtain ⟨S2, hg2, hs2⟩ := res_frozen (β := β) (obs := obs) hg hr
  exact ⟨y, rfl, hK _ _ _ hg2 hs2⟩
theorem good_conv {ev : Operand → Option AV} {obs : Obs} {s d : Nat} {x : Operand} {u r : AV} (hu : ev x = some u) (hk : okArg u = true) (h : CSem P (.conv s d) [plain u] (.pure [r])) : Good P ev obs (.convert s d x) r := by
  intro a w S β B hS hgd hev ho oper hop K Q hK
  obtain ⟨A, e1, h⟩ := h
  simp at e1
  subst e1
  have h1 := hev x (by simp [Op.operands]) u hu
  have h2 : Rep w S (plain u) (a.eval x) := rep_plain (by cases u <;> first | exact h1 | simp [okArg] at hk)
  obtain ⟨y, w', S', hrun, hg, hr⟩ := h w S _ hS h2
  obtain ⟨S2, hg2, hs2⟩ := res_frozen (β := β) (obs := obs) hg hr
  refine wp_val (w' := w') (v := y) (by simp [execOp, hop, hrun]) (hK _ _ _ hg2 ?_)
  exact hs2
theorem good_convInt {ev : Operand → Option AV} {obs : Obs} {s d : Nat} {x : Operand} {k k' : IntKind} {n : Int} {ti : TI} {ts : TI} (hts : TOK P s ts) (ht : TOK P d ti) (hk : ti.kind = .int k) (hu : ev x = some (.v (.int k' n))) : Good P ev obs (.convert s d x) (.v (.int k (sy .wrp k n))) := by
  intro a w S β B hS hgd hev ho oper hop K Q hK
  have hx : a.eval x = .int k' n := srep_v (hev x (by simp [Op.operands]) _ hu)
  have hkd := ht.kind
  rw [hk] at hkd
  have hd : P.underlying d = some (.int k) := hkd
  obtain ⟨ds, hs⟩ := hts.und
  refine wp_val (w' := w) (v := .int k (k.wrap n)) ?_ (hK _ _ _ (Gr.refl hS) (srep_c (.v _ rfl)))
  simp [execOp, hop, hx, convert, run_underlying hd, run_underlying hs, Conv.intToInt]
end Go.Proofs.YthepmpfkkhckpaaGreatDoor.Am
