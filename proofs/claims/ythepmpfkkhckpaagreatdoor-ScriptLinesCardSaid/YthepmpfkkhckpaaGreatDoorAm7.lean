import Derived.Test.YthepmpfkkhckpaaGreatDoorAm6
import Derived.Laws.CopyRow
import Derived.Laws.OwnMore
set_option linter.unusedVariables false
set_option linter.unusedSimpArgs false
namespace Go.Proofs.YthepmpfkkhckpaaGreatDoor.Am
open Go Go.RowKit

/-- Cells stored into a row whose mark, if there is one, lies behind its end. -/
theorem run_storeCells_B (P : Program) (g o : Nat) (t : TypeId) (fr : Nat × Nat) : ∀ (vs : List Value) (i : Nat) (cur : Array Value) (w : World), w.heap[g]? = some (.cells cur t fr) → frB t fr cur.size → o + i + vs.length ≤ cur.size → (∀ v ∈ vs, v.oneCell' = true) →
    (storeCells ⟨g, o, none⟩ vs i).run P w = .ok () (w.setRow g (cur.toList.take (o + i) ++ vs ++ cur.toList.drop (o + i + vs.length)).toArray)
  | [], i, cur, w, hg, _, _, _ => by
    simp only [storeCells, List.append_nil, List.length_nil, Nat.add_zero, List.take_append_drop, Array.toArray_toList]
    rw [setRow_self w g cur t fr hg]
    rfl
  | v :: rest, i, cur, w, hg, hfr, hl, h1 => by
    have hi : o + i < cur.size := by simp at hl; omega
    have hcell : w.cell? ⟨g, o + i, none⟩ = some cur[o + i] := by simp [World.cell?, hg, hi]
    have hfro : w.frozen? ⟨g, o + i, none⟩ = false := by
      rcases hfr with rfl | ⟨_, hfr⟩
      · simp [World.frozen?, hg]
      · obtain ⟨lo, hi'⟩ := fr
        simp only [World.frozen?, hg, Bool.and_eq_false_iff, decide_eq_false_iff_not]
        left
        simp only at hfr
        omega
    have hst : (store ((⟨g, o, none⟩ : Addr).add i) v).run P w = .ok () (w.setRow g (cur.setIfInBounds (o + i) v)) := by
      have hadd : (⟨g, o, none⟩ : Addr).add i = ⟨g, o + i, none⟩ := by unfold Addr.add; split <;> simp_all
      rw [hadd, run_store P w _ v _ (h1 v (by simp)), hcell]
      simp [hfro, setCell_eq_setRow w g (o + i) cur t fr v hg]
    have ih := run_storeCells_B P g o t fr rest (i + 1) (cur.setIfInBounds (o + i) v) (w.setRow g (cur.setIfInBounds (o + i) v)) (setRow_heap w g cur _ t _ hg) (by simpa using hfr) (by simp at hl ⊢; omega) (fun x hx => h1 x (by simp [hx]))
    simp only [storeCells, Sem.run_bind, hst, Result.andThen_ok, ih, setRow_setRow]
    congr 3
    have e := list_seg_step cur.toList (o + i) v rest (by simp at hl ⊢; omega)
    simpa [Array.toList_setIfInBounds, Nat.add_assoc] using e
/-! ### 7. States -/
structure St where
  slots : List (Nat × AV)
  obs : Obs
  ctr : Nat
  par : Nat := 0
def St.put (st : St) (d : Option Nat) (x : AV) : St :=
  match d with
  | none => st
  | some d => { slots := (d, x) :: st.slots, obs := st.obs, ctr := st.ctr, par := st.par }
def evc : Value → Option AV
  | .bool c => some (.b c)
  | .int k n => some (.v (.int k n))
  | .string s => some (.v (.string s))
  | .slice none 0 0 => some (.v (.slice none 0 0))
  | .pointer none => some (.v (.pointer none))
  | .map none => some (.v (.map none))
  | .nilFunc => some (.v .nilFunc)
  | .nilIface => some (.v .nilIface)
  | _ => none
def ev (st : St) : Operand → Option AV
  | .tmp t => lk t st.slots
  | .const x => evc x
  | .func f => some (.clo f [])
  | .global _ => none
def isK (keep : List Nat) : Option Nat → Bool
  | none => false
  | some d => memN d keep
def mapS (f : AV → AV) : List (Nat × AV) → List (Nat × AV)
  | [] => []
  | (t, x) :: r => (t, f x) :: mapS f r
def frz0 (k ver mver : Nat) (rows : List (List AV)) : AV → AV
  | .own j v => if j = k then (if v = ver then .sl rows else .dead) else .own j v
  | .rel j v m i cs off => if j = k then (if v = ver then (if m = mver then .ept cs off else .dead) else .dead) else .rel j v m i cs off
  | .osl j v lo => if j = k then .dead else .osl j v lo
  | x => x
def frzAV (k ver mver : Nat) (rows : List (List AV)) : AV → AV
  | .tup vs => .tup (vs.map (frz0 k ver mver rows))
  | x => frz0 k ver mver rows x
def frzBox (k : Nat) (cs : List AV) : AV → AV
  | .ptr j off => if j = k then .ept cs off else .ptr j off
  | x => x
def frzMp (k : Nat) (ks : List ByteArray) (vs : List AV) : AV → AV
  | .mo j => if j = k then .mp ks vs else .mo j
  | x => x
def St.freeze (k : Nat) (st : St) : St :=
  if Nat.blt k st.par = true then { slots := st.slots, obs := del k st.obs, ctr := st.ctr, par := st.par } else
  match lk k st.obs with
  | some (.row e sz rows ver mver) => { slots := mapS (frzAV k ver mver rows) st.slots, obs := del k st.obs, ctr := st.ctr, par := st.par }
  | some (.box ty cs fz) => { slots := mapS (frzBox k cs) st.slots, obs := del k st.obs, ctr := st.ctr, par := st.par }
  | some (.mp ks vs) => { slots := mapS (frzMp k ks vs) st.slots, obs := del k st.obs, ctr := st.ctr, par := st.par }
  | some (.it _ _ _) => st
  | none => st
def frzArgs (st : St) : List Operand → St
  | [] => st
  | x :: xs => match ev st x with
    | some (.own k ver) => frzArgs (st.freeze k) xs
    | some (.mo k) => frzArgs (st.freeze k) xs
    | _ => frzArgs st xs

/-- The world at the beginning; the first objects are the caller's, in these blocks. -/
structure Bas where
  W : World
  par : Nat
  M : Nat → Prop
  b0 : Nat → Value
abbrev Bas.heap (b : Bas) : Array Obj := b.W.heap

structure RelS (W0 : Bas) (S0 : Nat → Prop) (n : Nat) (S : Nat → Prop) (β : Nat → Value) (st : St) (a : Act) (w : World) : Prop where
  gr : GrK W0.M W0.W S0 w S
  par : st.par = W0.par
  defers : a.defers = []
  size : a.tmps.size = n
  slots : ∀ t x, lk t st.slots = some x → t < n ∧ SRep w S β st.obs x (a.tmps.getD t undef)
  objs : ∀ k o, lk k st.obs = some o → ORep w S 0 (β k) o
  up : ∀ k o g, lk k st.obs = some o → blkOf (β k) = some g → if k < W0.par then W0.M g else W0.heap.size ≤ g ∨ W0.M g
  sep : ∀ k k' o o', lk k st.obs = some o → lk k' st.obs = some o' → k ≠ k' → ∀ g, blkOf (β k) = some g → blkOf (β k') = some g → False
  ctr : ∀ k o, lk k st.obs = some o → k < st.ctr
  parc : W0.par ≤ st.ctr
  fix : ∀ k o, k < W0.par → lk k st.obs = some o → β k = W0.b0 k
theorem RelS.gd {W0 : Bas} {S0 : Nat → Prop} {n : Nat} {S : Nat → Prop} {β : Nat → Value} {st : St} {a : Act} {w : World} (h : RelS W0 S0 n S β st a w) : gdOK w S := h.gr.gd.2
def Rel (W0 : Bas) (S0 : Nat → Prop) (n : Nat) (st : St) (a : Act) (w : World) : Prop := ∃ S β, RelS W0 S0 n S β st a w

theorem lk_del {α : Type} (k j : Nat) (l : List (Nat × α)) : lk j (del k l) = if j = k then none else lk j l := by
  induction l with
  | nil => simp [del, lk]
  | cons p l ih =>
    obtain ⟨t, x⟩ := p
    simp only [del]
    by_cases h : t = k
    · rw [if_pos h, ih]
      by_cases hj : j = k
      · simp [hj]
      · simp only [if_neg hj, lk]
        rw [if_neg (by omega)]
    · rw [if_neg h]
      simp only [lk]
      by_cases hj : j = k
      · rw [if_pos hj]
        rw [if_neg (by omega), ih, if_pos hj]
      · rw [if_neg hj, ih, if_neg hj]
theorem lk_mapS (f : AV → AV) (t : Nat) (l : List (Nat × AV)) : lk t (mapS f l) = (lk t l).map f := by
  induction l with
  | nil => rfl
  | cons p l ih =>
    obtain ⟨k, x⟩ := p
    simp only [mapS, lk]
    split
    · rfl
    · exact ih

theorem srep0_mono {w w' : World} {S S' : Nat → Prop} {β : Nat → Value} {obs : Obs} (hw : SameOn S w w') (hS : ∀ g, S g → S' g) {x : AV} {y : Value} (h : SRep0 w S β obs x y) : SRep0 w' S' β obs x y := by
  cases x <;> first | exact Rep.mono hw hS h | exact h
theorem srep_eq (w : World) (S : Nat → Prop) (β : Nat → Value) (obs : Obs) {x : AV} (y : Value) (h : ∀ vs, x ≠ .tup vs) : SRep w S β obs x y = SRep0 w S β obs x y := by
  cases x <;> first | rfl | exact absurd rfl (h _)
def tupMap (f : AV → AV) : AV → AV
  | .tup vs => .tup (vs.map f)
  | x => f x
/-- Whatever holds of all plain values holds of tuples of them. -/
theorem srep_map {w w' : World} {S S' : Nat → Prop} {β β' : Nat → Value} {obs obs' : Obs} {f : AV → AV} (hf : ∀ x y, SRep0 w S β obs x y → SRep0 w' S' β' obs' (f x) y) (ft : ∀ x, (∀ vs, x ≠ .tup vs) → ∀ vs, f x ≠ .tup vs) {x : AV} {y : Value} (h : SRep w S β obs x y) :
    SRep w' S' β' obs' (tupMap f x) y := by
  by_cases hx : ∃ vs, x = .tup vs
  · obtain ⟨vs, rfl⟩ := hx
    obtain ⟨ys, h1, h2, h3⟩ := h
    refine ⟨ys, h1, by simpa using h2, fun i u x hu hx => ?_⟩
    rw [List.getElem?_map] at hu
    cases hv : vs[i]? with
    | none => rw [hv] at hu; simp at hu
    | some u' =>
      rw [hv] at hu
      injection hu with hu
      subst hu
      exact hf _ _ (h3 i u' x hv hx)
  · have hx' : ∀ vs, x ≠ .tup vs := fun vs e => hx ⟨vs, e⟩
    have e : tupMap f x = f x := by
      cases x <;> first | rfl | exact absurd rfl (hx' _)
    rw [e, srep_eq _ _ _ _ _ (ft x hx')]
    rw [srep_eq _ _ _ _ _ hx'] at h
    exact hf _ _ h
theorem srep_mono {w w' : World} {S S' : Nat → Prop} {β : Nat → Value} {obs : Obs} (hw : SameOn S w w') (hS : ∀ g, S g → S' g) {x : AV} {y : Value} (h : SRep w S β obs x y) : SRep w' S' β obs x y := by
  have := srep_map (f := fun x => x) (w' := w') (S' := S') (β' := β) (obs' := obs) (fun x y h => srep0_mono hw hS h) (fun x hx => hx) h
  cases x <;> first | exact this | (simpa [tupMap] using this)
theorem orep_blk {w : World} {S : Nat → Prop} {B : Nat} {x : Value} {o : Ob} (h : ORep w S B x o) {g : Nat} (hg : blkOf x = some g) : B ≤ g ∧ g < w.heap.size ∧ ¬ S g := by
  cases o with
  | box ty cells fz =>
    obtain ⟨g', xs, rfl, hB, hS, hh, hr⟩ := h
    simp [blkOf] at hg
    subst hg
    exact ⟨hB, (Array.getElem?_eq_some_iff.1 hh).1, hS⟩
  | row e sz rows ver mver =>
    obtain ⟨xs, hown, hr, hl, hS⟩ := h
    rcases hown.2 with ⟨rfl, _⟩ | ⟨g', cap, cur, fr, rfl, hB, hh, _⟩
    · simp [blkOf, Value.ownBlock] at hg
    · simp [blkOf, Value.ownBlock] at hg
      subst hg
      exact ⟨hB, (Array.getElem?_eq_some_iff.1 hh).1, hS _ (by simp [Value.ownBlock])⟩
  | mp ks vs =>
    obtain ⟨r, es, clock, rfl, hB, hS, hh, _⟩ := h
    simp [blkOf] at hg
    subst hg
    exact ⟨hB, (Array.getElem?_eq_some_iff.1 hh).1, hS⟩
  | it ks vs cur =>
    obtain ⟨r, bm, since, seen, c0, es, clock, rfl, hB, hS, hh, _⟩ := h
    simp [blkOf] at hg
    subst hg
    exact ⟨hB, (Array.getElem?_eq_some_iff.1 hh).1, hS⟩
/-- An object whose block hasn't turned. -/
theorem orep_mono {w w' : World} {S S' : Nat → Prop} {B : Nat} {x : Value} {o : Ob} (hw : SameOn S w w') (hS : ∀ g, S g → S' g) (hb : ∀ g, blkOf x = some g → w'.heap[g]? = w.heap[g]? ∧ ¬ S' g) (h : ORep w S B x o) : ORep w' S' B x o := by
  cases o with
  | box ty cells fz =>
    obtain ⟨g', xs, rfl, hB, hSg, hh, hr⟩ := h
    have := hb g' rfl
    exact ⟨g', xs, rfl, hB, this.2, this.1.trans hh, hr.mono hw hS⟩
  | row e sz rows ver mver =>
    obtain ⟨xs, hown, hr, hl, hSg⟩ := h
    refine ⟨xs, ⟨hown.1, ?_⟩, hr.mono hw hS, hl, fun g hg => ?_⟩
    · rcases hown.2 with h | ⟨g', cap, cur, fr, rfl, hB, hh, r⟩
      · exact .inl h
      · exact .inr ⟨g', cap, cur, fr, rfl, hB, (hb g' (by simp [blkOf, Value.ownBlock])).1.trans hh, r⟩
    · refine (hb g ?_).2
      cases x <;> simp_all [blkOf, Value.ownBlock]
  | mp ks vs =>
    obtain ⟨r, es, clock, rfl, hB, hSg, hh, hk, hl, hn, hbd, hr⟩ := h
    have := hb r rfl
    exact ⟨r, es, clock, rfl, hB, this.2, this.1.trans hh, hk, hl, hn, hbd, fun i u e hu he => (hr i u e hu he).mono hw hS⟩
  | it ks vs cur =>
    obtain ⟨r, bm, since, seen, c0, es, clock, rfl, hB, hSg, hh, hSb, hhb, hn, hbd, hsc, hcl, hk, hl, hr, hcur⟩ := h
    have := hb r rfl
    exact ⟨r, bm, since, seen, c0, es, clock, rfl, hB, this.2, this.1.trans hh, hS _ hSb, (hw _ hSb).trans hhb, hn, hbd, hsc, hcl, hk, hl, fun i u e hu he => (hr i u e hu he).mono hw hS, fun s v hc => by
      obtain ⟨e, seen', h1, h2, h3, h4, h5⟩ := hcur s v hc
      exact ⟨e, seen', h1, h2, h3, h4, h5.mono hw hS⟩⟩

theorem getD_put (a : Act) (d t : Nat) (v : Value) (hd : d < a.tmps.size) : (a.put (some d) v).tmps.getD t undef = if t = d then v else a.tmps.getD t undef := by
  simp only [Act.put]
  by_cases h : t = d
  · subst h; simp [hd]
  · rw [if_neg h]
    simp [Array.getElem?_setIfInBounds_ne (Ne.symm h)]
theorem put_size (a : Act) (d : Option Nat) (v : Value) : (a.put d v).tmps.size = a.tmps.size := by cases d <;> simp [Act.put]
theorem put_defers (a : Act) (d : Option Nat) (v : Value) : (a.put d v).defers = a.defers := by cases d <;> simp [Act.put]

theorem ownsRow_up {w : World} {B B' e sz m : Nat} {v : Value} {xs : List Value} (h : OwnR w B e sz v m xs) (hB : ∀ g, v.ownBlock = some g → B' ≤ g) : OwnR w B' e sz v m xs := by
  refine ⟨h.1, ?_⟩
  rcases h.2 with h1 | ⟨g', cap, cur, fr, h1, h2, r⟩
  · exact .inl h1
  · exact .inr ⟨g', cap, cur, fr, h1, hB _ (by subst h1; rfl), r⟩
theorem ownBlock_blk {B e sz m : Nat} {w : World} {z : Value} {zs : List Value} (h : OwnR w B e sz z m zs) {g : Nat} (hg : blkOf z = some g) : z.ownBlock = some g := by
  rcases h.2 with ⟨rfl, _⟩ | ⟨g', cap, cur, fr, rfl, _⟩
  · simp [blkOf, Value.ownBlock] at hg
  · simpa [blkOf, Value.ownBlock] using hg
theorem blk_of_own {v : Value} {g : Nat} (h : v.ownBlock = some g) : blkOf v = some g := by
  cases v <;> simp_all [blkOf, Value.ownBlock]
variable {W0 : Bas} {S0 : Nat → Prop} {n : Nat}
theorem RelS.blk {S : Nat → Prop} {β : Nat → Value} {st : St} {a : Act} {w : World} (h : RelS W0 S0 n S β st a w) {k g : Nat} {o : Ob} (ho : lk k st.obs = some o) (hg : blkOf (β k) = some g) : g < w.heap.size ∧ ¬ S g := (orep_blk (h.objs k o ho) hg).2
/-- A quiet step. -/
theorem rel_quiet {S S' : Nat → Prop} {β : Nat → Value} {st : St} {a : Act} {w w' : World} {d : Option Nat} {x : AV} {v : Value} (h : RelS W0 S0 n S β st a w) (hg : Gr w S w' S') (hd : okD n d = true) (hx : SRep w' S' β st.obs x v) : RelS W0 S0 n S' β (st.put d x) (a.put d v) w' := by
  have hsame := hg.same h.gr.lt
  have hob : (st.put d x).obs = st.obs := by cases d <;> rfl
  have hct : (st.put d x).ctr = st.ctr := by cases d <;> rfl
  refine ⟨h.gr.step hg, by cases d <;> exact h.par, by rw [put_defers]; exact h.defers, by rw [put_size]; exact h.size, fun t y ht => ?_, ?_, ?_, ?_, ?_, ?_, ?_⟩
  · rw [hob]
    cases d with
    | none =>
      obtain ⟨h1, h2⟩ := h.slots t y ht
      exact ⟨h1, srep_mono hsame hg.sub h2⟩
    | some d =>
      have hdn : d < n := by simpa [okD] using hd
      rw [getD_put _ _ _ _ (by rw [h.size]; exact hdn)]
      simp only [St.put, lk] at ht
      by_cases e : d = t
      · rw [if_pos e] at ht
        injection ht with ht
        subst ht e
        exact ⟨hdn, by rw [if_pos rfl]; exact hx⟩
      · rw [if_neg e] at ht
        obtain ⟨h1, h2⟩ := h.slots t y ht
        exact ⟨h1, by rw [if_neg (by omega)]; exact srep_mono hsame hg.sub h2⟩
  · rw [hob]
    intro k o ho
    refine orep_mono hsame hg.sub (fun g hgb => ?_) (h.objs k o ho)
    obtain ⟨h1, h2, h3⟩ := orep_blk (h.objs k o ho) hgb
    exact ⟨hg.below.block g h2, fun hs => by rcases hg.new g hs with h4 | h4; exact h3 h4; omega⟩
  · rw [hob]; exact h.up
  · rw [hob]; exact h.sep
  · rw [hob, hct]; exact h.ctr
  · rw [hct]; exact h.parc
  · rw [hob]; exact h.fix
theorem ev_ok {S : Nat → Prop} {β : Nat → Value} {st : St} {a : Act} {w : World} (h : RelS W0 S0 n S β st a w) {x : Operand} {u : AV} (hu : ev st x = some u) : SRep w S β st.obs u (a.eval x) := by
  cases x with
  | tmp t => exact (h.slots t u hu).2
  | const v =>
    simp only [ev] at hu
    unfold evc at hu
    split at hu <;> simp at hu <;> subst hu <;> first | exact srep_c (.b _) | exact srep_c (.v _ rfl)
  | global g => simp [ev] at hu
  | func f =>
    simp [ev] at hu
    subst hu
    exact srep_of_rep (.clo (xs := []) rfl (fun i u x h => by simp at h))

theorem frz0_ok {S : Nat → Prop} {β : Nat → Value} {obs : Obs} {w : World} {B k e sz ver mver : Nat} {rows : List (List AV)} (hk : lk k obs = some (.row e sz rows ver mver)) (ho : ORep w S B (β k) (.row e sz rows ver mver)) {x : AV} {y : Value} (h : SRep0 w S β obs x y) :
    SRep0 w (fun g => S g ∨ blkOf (β k) = some g) β (del k obs) (frz0 k ver mver rows x) y := by
  have hw : SameOn S w w := fun _ _ => rfl
  have hS : ∀ g, S g → (S g ∨ blkOf (β k) = some g) := fun g h => Or.inl h
  cases x <;> try exact Rep.mono hw hS h
  · exact h
  · rename_i j v
    simp only [frz0]
    split
    · rename_i e1
      subst e1
      split
      · rename_i e2
        subst e2
        have hy : y = β j := (show ∀ e sz rows m, lk j obs = some (.row e sz rows v m) → y = β j from h) _ _ _ _ hk
        obtain ⟨xs, hown, hr, hl, hSg⟩ := ho
        rw [hy]
        exact .c (repc_of_own hown (hr.mono hw hS) hl (fun g hg => Or.inr (by cases hb : β j <;> simp_all [blkOf, Value.ownBlock])))
      · trivial
    · rename_i e1
      intro e' sz' rows' m' h'
      rw [lk_del, if_neg e1] at h'
      exact (show ∀ e sz rows m, lk j obs = some (.row e sz rows v m) → y = β j from h) _ _ _ _ h'
  · rename_i j v m i cs off
    simp only [frz0]
    split
    · rename_i e1
      subst e1
      split
      · rename_i e2
        subst e2
        split
        · rename_i e3
          subst e3
          obtain ⟨_, _, ⟨g, n, c, hb, hy⟩, hrow⟩ := (show RelP β obs j v m i cs off y from h) _ _ _ _ hk
          have hrow := hrow rfl
          obtain ⟨xs, hown, hr, hl, hSg⟩ := ho
          have hrep := repc_of_own hown (hr.mono hw hS) hl (fun g' hg' => Or.inr (by rw [hb] at hg' ⊢; simpa [blkOf, Value.ownBlock] using hg'))
          obtain ⟨b, c', sz', hbe, hcs, hca⟩ := sl_elem hrep hrow
          rw [hb] at hbe
          injection hbe with hb1 hb2 hb3
          injection hb1 with hb1
          subst hb1
          have hszz : sz' = sz := by rw [← hcs, hl cs (List.mem_of_getElem? hrow)]
          subst hszz
          rw [hy, ← add_add]
          exact .ept hca
        · trivial
      · trivial
    · rename_i e1
      intro e' sz' rows' m' h'
      rw [lk_del, if_neg e1] at h'
      exact (show RelP β obs j v m i cs off y from h) _ _ _ _ h'
  · rename_i j v lo
    simp only [frz0]
    split
    · exact trivial
    · rename_i e1
      intro e' sz' rows' m' h'
      rw [lk_del, if_neg e1] at h'
      exact (show ∀ e sz rows m, lk j obs = some (.row e sz rows v m) → OslP β j lo sz rows.length y from h) _ _ _ _ h'
  · rename_i j
    intro ks vs h'
    rw [lk_del] at h'
    split at h'
    · simp at h'
    · exact (show ∀ ks vs, lk j obs = some (.mp ks vs) → y = β j from h) _ _ h'
  · exact trivial
/-- Some objects forgotten. -/
theorem srep_sub {w : World} {S : Nat → Prop} {β : Nat → Value} {obs obs' : Obs} (hob : ∀ j o, lk j obs' = some o → lk j obs = some o) {x : AV} {y : Value} (h : SRep w S β obs x y) : SRep w S β obs' x y := by
  have := srep_map (f := fun x => x) (w' := w) (S' := S) (β' := β) (obs' := obs') (fun x y hxy => by
    cases x <;> try exact hxy
    · rename_i j v
      intro e sz rows m hj
      exact (show ∀ e sz rows m, lk j obs = some (.row e sz rows v m) → y = β j from hxy) _ _ _ _ (hob _ _ hj)
    · rename_i j v m i cs off
      intro e sz rows m' hj
      exact (show RelP β obs j v m i cs off y from hxy) _ _ _ _ (hob _ _ hj)
    · rename_i j v lo
      intro e sz rows m' hj
      exact (show ∀ e sz rows m, lk j obs = some (.row e sz rows v m) → OslP β j lo sz rows.length y from hxy) _ _ _ _ (hob _ _ hj)
    · rename_i j
      intro ks vs hj
      exact (show ∀ ks vs, lk j obs = some (.mp ks vs) → y = β j from hxy) _ _ (hob _ _ hj)) (fun x hx => hx) h
  cases x <;> first | exact this | (simpa [tupMap] using this)
theorem rel_sub {S : Nat → Prop} {β : Nat → Value} {st : St} {a : Act} {w : World} (h : RelS W0 S0 n S β st a w) {obs' : Obs} (hob : ∀ j o, lk j obs' = some o → lk j st.obs = some o) : RelS W0 S0 n S β { slots := st.slots, obs := obs', ctr := st.ctr, par := st.par } a w :=
  ⟨h.gr, h.par, h.defers, h.size, fun t x ht => ⟨(h.slots t x ht).1, srep_sub hob (h.slots t x ht).2⟩, fun k o hk => h.objs k o (hob k o hk), fun k o g hk => h.up k o g (hob k o hk), fun k k' o o' h1 h2 => h.sep k k' o o' (hob k o h1) (hob k' o' h2), fun k o hk => h.ctr k o (hob k o hk), h.parc, fun k o hp hk => h.fix k o hp (hob k o hk)⟩
theorem rel_freeze {S : Nat → Prop} {β : Nat → Value} {st : St} {a : Act} {w : World} (k : Nat) (h : RelS W0 S0 n S β st a w) : ∃ S', RelS W0 S0 n S' β (st.freeze k) a w := by
  unfold St.freeze
  by_cases hpk : Nat.blt k st.par = true
  · rw [if_pos hpk]
    refine ⟨S, rel_sub h (fun j o hj => ?_)⟩
    rw [lk_del] at hj
    split at hj
    · simp at hj
    · exact hj
  rw [if_neg hpk]
  have hpk : ¬ k < W0.par := by rw [← h.par]; simpa using hpk
  have hw : SameOn S w w := fun _ _ => rfl
  have hS : ∀ g, S g → (S g ∨ blkOf (β k) = some g) := fun g h => Or.inl h
  have common : ∀ o, lk k st.obs = some o → ∀ (f : AV → AV), (∀ x y, SRep w S β st.obs x y → SRep w (fun g => S g ∨ blkOf (β k) = some g) β (del k st.obs) (f x) y) →
      RelS W0 S0 n (fun g => S g ∨ blkOf (β k) = some g) β { slots := mapS f st.slots, obs := del k st.obs, ctr := st.ctr, par := st.par } a w := by
    intro o ho f hf
    have hob := h.objs k o ho
    refine ⟨⟨h.gr.os, h.gr.tape, h.gr.output, h.gr.size, h.gr.block, fun g hg => Or.inl (h.gr.sub g hg), fun g hg => ?_, fun g hg => ?_, h.gr.gd.1, h.gd.mono hw hS⟩, h.par, h.defers, h.size, fun t x ht => ?_, fun j o' ho' => ?_, fun j o' g ho' => ?_, fun j j' o1 o2 h1 h2 hne => ?_, fun j o' ho' => ?_, h.parc, fun j o' hp ho' => ?_⟩
    · rcases hg with hg | hg
      · exact h.gr.new g hg
      · have := h.up k o g ho hg
        rw [if_neg hpk] at this
        exact .inr this
    · rcases hg with hg | hg
      · exact h.gr.lt g hg
      · exact (orep_blk hob hg).2.1
    · simp only [lk_mapS] at ht
      cases hx : lk t st.slots with
      | none => rw [hx] at ht; simp at ht
      | some x' =>
        rw [hx] at ht
        injection ht with ht
        subst ht
        obtain ⟨h1, h2⟩ := h.slots t x' hx
        exact ⟨h1, hf _ _ h2⟩
    · simp only [lk_del] at ho'
      split at ho'
      · simp at ho'
      · rename_i hjk
        refine orep_mono hw hS (fun g hg => ⟨rfl, fun hs => ?_⟩) (h.objs j o' ho')
        rcases hs with hs | hs
        · exact (orep_blk (h.objs j o' ho') hg).2.2 hs
        · exact h.sep j k o' o ho' ho hjk g hg hs
    · simp only [lk_del] at ho'
      split at ho'
      · simp at ho'
      · exact h.up j o' g ho'
    · simp only [lk_del] at h1 h2
      split at h1
      · simp at h1
      · split at h2
        · simp at h2
        · exact h.sep j j' o1 o2 h1 h2 hne
    · simp only [lk_del] at ho'
      split at ho'
      · simp at ho'
      · exact h.ctr j o' ho'
    · simp only [lk_del] at ho'
      split at ho'
      · simp at ho'
      · exact h.fix j o' hp ho'
  have base : ∀ x y, SRep0 w S β st.obs x y → SRep0 w (fun g => S g ∨ blkOf (β k) = some g) β (del k st.obs) x y := by
    intro x y hx
    cases x <;> try exact Rep.mono hw hS hx
    · exact hx
    · rename_i j v
      intro e' sz' rows' m' h'
      rw [lk_del] at h'
      split at h'
      · simp at h'
      · exact (show ∀ e sz rows m, lk j st.obs = some (.row e sz rows v m) → y = β j from hx) _ _ _ _ h'
    · rename_i j v m i cs off
      intro e' sz' rows' m' h'
      rw [lk_del] at h'
      split at h'
      · simp at h'
      · exact (show RelP β st.obs j v m i cs off y from hx) _ _ _ _ h'
    · rename_i j v lo
      intro e' sz' rows' m' h'
      rw [lk_del] at h'
      split at h'
      · simp at h'
      · exact (show ∀ e sz rows m, lk j st.obs = some (.row e sz rows v m) → OslP β j lo sz rows.length y from hx) _ _ _ _ h'
    · rename_i j
      intro ks vs h'
      rw [lk_del] at h'
      split at h'
      · simp at h'
      · exact (show ∀ ks vs, lk j st.obs = some (.mp ks vs) → y = β j from hx) _ _ h'
    · exact trivial
  have base2 : ∀ x y, SRep w S β st.obs x y → SRep w (fun g => S g ∨ blkOf (β k) = some g) β (del k st.obs) x y := by
    intro x y hx
    have := srep_map (f := fun x => x) base (fun x hx => hx) hx
    cases x <;> first | exact this | (simpa [tupMap] using this)
  split
  · rename_i e sz rows ver mver hk
    refine ⟨_, common _ hk _ fun x y hx => ?_⟩
    have := srep_map (f := frz0 k ver mver rows) (fun x y h' => frz0_ok hk (h.objs _ _ hk) h') (fun x hx vs => by
      cases x <;> simp only [frz0] <;> first | exact hx _ | (simp; done) | (repeat' split) <;> simp) hx
    cases x <;> exact this
  · rename_i ty cs fz hk
    refine ⟨_, common _ hk _ fun x y hx => ?_⟩
    by_cases hp : ∃ j off, x = .ptr j off
    · obtain ⟨j, off, rfl⟩ := hp
      simp only [frzBox]
      split
      · rename_i e1
        subst e1
        obtain ⟨g, h1, h2⟩ := (show ∃ g, β j = .pointer (some ⟨g, 0, none⟩) ∧ y = .pointer (some ((⟨g, 0, none⟩ : Addr).add off)) from hx)
        obtain ⟨g', xs, he, hB, hSg, hh, hr⟩ := h.objs _ _ hk
        rw [h1] at he
        injection he with he
        injection he with he
        injection he with he
        subst he
        rw [h2]
        refine srep_of_rep (.ept ⟨Or.inr (by rw [h1]; rfl), fun i u hu => ?_⟩)
        obtain ⟨x, hx1, hx2⟩ := hr.get hu
        exact ⟨x, by rw [add_mk, cell_of_row w g i _ _ _ hh]; simpa using hx1, hx2.mono hw hS⟩
      · exact hx
    · have e : frzBox k cs x = x := by
        cases x <;> first | rfl | exact absurd ⟨_, _, rfl⟩ hp
      rw [e]
      exact base2 _ _ hx
  · rename_i ks vs hk
    refine ⟨_, common _ hk _ fun x y hx => ?_⟩
    by_cases hp : ∃ j, x = .mo j
    · obtain ⟨j, rfl⟩ := hp
      simp only [frzMp]
      split
      · rename_i e1
        subst e1
        have hy : y = β j := (show ∀ ks vs, lk j st.obs = some (.mp ks vs) → y = β j from hx) _ _ hk
        obtain ⟨r, es, clock, he, hB, hSg, hh, h1, h2, hn, hbd, h3⟩ := h.objs _ _ hk
        have hbk : blkOf (β j) = some r := by rw [he]; rfl
        have hm : Rep w (fun g => S g ∨ blkOf (β j) = some g) (.mp ks vs) (.map (some r)) := .mp (Or.inr hbk) hh h1 h2 hn hbd (fun i u e hu he' => (h3 i u e hu he').mono hw hS)
        rw [hy]
        have hm := srep_of_rep (β := β) (obs := del j st.obs) hm
        rw [← he] at hm
        exact hm
      · exact base2 _ _ hx
    · have e : frzMp k ks vs x = x := by
        cases x <;> first | rfl | exact absurd ⟨_, rfl⟩ hp
      rw [e]
      exact base2 _ _ hx
  · exact ⟨S, h⟩
  · exact ⟨S, h⟩
theorem rel_frzArgs : ∀ (l : List Operand) {S : Nat → Prop} {β : Nat → Value} {st : St} {a : Act} {w : World}, RelS W0 S0 n S β st a w → ∃ S', RelS W0 S0 n S' β (frzArgs st l) a w := by
  intro l
  induction l with
  | nil => intro S β st a w h; exact ⟨S, h⟩
  | cons x l ih =>
    intro S β st a w h
    simp only [frzArgs]
    split
    · obtain ⟨S', h'⟩ := rel_freeze _ h
      exact ih h'
    · obtain ⟨S', h'⟩ := rel_freeze _ h
      exact ih h'
    · exact ih h
end Go.Proofs.YthepmpfkkhckpaaGreatDoor.Am
