import Derived.Test.YthepmpfkkhckpaaGreatDoorAm15
set_option linter.unusedVariables false
set_option linter.unusedSimpArgs false
namespace Go.Proofs.YthepmpfkkhckpaaGreatDoor.Am
open Go Go.RowKit
variable {P : Program}

/-! ### 15. Types: what a program's table is held against -/
theorem gam_step {u t : Nat} {ti ui : TI} {o : Option TI} (h : TOK P t ti) (k : o = some ui → TOK P u ui) (hu : (if u = t then some ti else o) = some ui) : TOK P u ui := by
  split at hu
  · rename_i e; injection hu with hu; subst e hu; exact h
  · exact k hu
def OffOK (P : Program) (t : Nat) : Nat → List (Nat × Nat) → Prop
  | _, [] => True
  | i, (d, _) :: r => (∀ a w, (Instr.fieldAt t (.pointer (some a)) i).run P w = .ok (.pointer (some (a.add d))) w) ∧ OffOK P t (i + 1) r
theorem OffOK.get {t : Nat} : ∀ {l : List (Nat × Nat)} {i : Nat}, OffOK P t i l → ∀ f d s, l[f]? = some (d, s) → ∀ a w, (Instr.fieldAt t (.pointer (some a)) (i + f)).run P w = .ok (.pointer (some (a.add d))) w := by
  intro l
  induction l with
  | nil => intro i _ f d s h; simp at h
  | cons p l ih =>
    obtain ⟨d0, s0⟩ := p
    intro i h f d s hf
    cases f with
    | zero => simp at hf; obtain ⟨rfl, rfl⟩ := hf; exact h.1
    | succ f =>
      have := ih h.2 f d s (by simpa using hf)
      rwa [show i + 1 + f = i + (f + 1) from by omega] at this
def zVal : AV → Value
  | .v x => x
  | .b c => .bool c
  | _ => .nilIface
def zOne : AV → Bool
  | .v x => x.oneCell'
  | .b _ => true
  | _ => false
theorem zRep {w : World} {S : Nat → Prop} : ∀ (cs : List AV), cs.all zOne = true → RepL w S cs (cs.map zVal) := by
  intro cs
  induction cs with
  | nil => intro _; exact RepL.nil _ _
  | cons c cs ih =>
    intro h
    simp only [List.all_cons, Bool.and_eq_true] at h
    refine RepL.cons ?_ (ih h.2)
    cases c <;> simp [zOne] at h
    · exact .v _ h.1
    · exact .b _
theorem tok_flat {t : Nat} {ti : TI} (z : Value) (hu : (P.underlying t).isSome = true) (hs : ∀ w, (Go.sizeOf t).run P w = .ok ti.size w) (ha : ∀ w, (isAgg t).run P w = .ok ti.agg w) (ho : OffOK P t 0 ti.offs) (h1 : ti.agg = true ∨ (ti.size, z.cells) = (1, #[z]))
    (hz : ∀ w, (zeroValue t).run P w = .ok z w) (hzc : z.cells.toList = ti.zero.map zVal) (hzo : ti.zero.all zOne = true) (hzl : ti.zero.length = ti.size) (hk : match ti.kind with
    | .other => True
    | .struct => ∃ fields, P.underlying t = some (.struct fields) ∧ ∀ w, (fields.mapM fun (f : Field) => do pure (f.offset, ← Go.sizeOf f.type) : Sem (Array (Nat × Nat))).run P w = .ok ti.offs.toArray w
    | .arr n esz => ∃ e, P.underlying t = some (.array n e) ∧ ∀ w, (Go.sizeOf e).run P w = .ok esz w
    | .sli e esz bytes => P.underlying t = some (.slice e) ∧ (0 < esz ∧ 0 < bytes) ∧ ∃ i z, P.info? e = some i ∧ i.zero = some z ∧ i.size = esz ∧ i.bytes = bytes ∧ z.cells.size = esz
    | .mp k e => P.underlying t = some (.map k e) ∧ P.underlying k = some .string
    | .int k => P.underlying t = some (.int k)
    | .str => P.underlying t = some .string) : TOK P t ti where
  size := hs
  agg := ha
  one := fun h => by
    rcases h1 with h1 | h1
    · rw [h] at h1; cases h1
    · exact (Prod.mk.inj h1).1
  zone := fun h w z' hz' => by
    have e : z' = z := by
      have := (hz w).symm.trans hz'
      injection this with this
      exact this.symm
    subst e
    rcases h1 with h1 | h1
    · rw [h] at h1; cases h1
    · exact (Prod.mk.inj h1).2
  und := Option.isSome_iff_exists.1 hu
  offs := fun f d s h a w => by have := ho.get f d s h a w; simpa using this
  zero := fun w => ⟨z, hz w, by rw [← Array.length_toList, hzc, List.length_map, hzl], fun w' S => by rw [hzc]; exact zRep _ hzo⟩
  kind := hk
theorem struct_fact {t : Nat} {offs : List (Nat × Nat)} (h : ∀ w, (match P.underlying t with | some (.struct fields) => (fields.mapM fun (f : Field) => do pure (f.offset, ← Go.sizeOf f.type) : Sem (Array (Nat × Nat))).run P w | _ => .halt (.stuck "") w) = .ok offs.toArray w) :
    ∃ fields, P.underlying t = some (.struct fields) ∧ ∀ w, (fields.mapM fun (f : Field) => do pure (f.offset, ← Go.sizeOf f.type) : Sem (Array (Nat × Nat))).run P w = .ok offs.toArray w := by
  cases hu : P.underlying t with
  | none => have := h default; rw [hu] at this; simp at this
  | some d =>
    cases d <;> first | (have := h default; rw [hu] at this; simp at this; done) | skip
    rename_i fields
    refine ⟨fields, rfl, fun w => ?_⟩
    have := h w
    rw [hu] at this
    exact this
theorem sli_fact {t e esz bytes : Nat} {z : Value} (hu : P.underlying t = some (.slice e)) (h0 : 0 < esz) (h1 : 0 < bytes) (hi : (P.info? e).map (fun i => (i.zero, i.size, i.bytes)) = some (some z, esz, bytes)) (hz : z.cells.size = esz) :
    P.underlying t = some (.slice e) ∧ (0 < esz ∧ 0 < bytes) ∧ ∃ i z, P.info? e = some i ∧ i.zero = some z ∧ i.size = esz ∧ i.bytes = bytes ∧ z.cells.size = esz := by
  refine ⟨hu, ⟨h0, h1⟩, ?_⟩
  cases hx : P.info? e with
  | none => rw [hx] at hi; simp at hi
  | some i =>
    rw [hx] at hi
    simp at hi
    exact ⟨i, z, rfl, hi.1, hi.2.1, hi.2.2, hz⟩

/-- **The contract of a function out of its text**, in the form that callers use. -/
theorem of_text (hΓ : TOKs P) (hm : P.follows .mixedOrders = true) (E : En) {f : Nat} {fn : Func} {c : Code} {args : List AV} {res : Res} (hf : P.funcs[f]? = some fn) (hname : (fn.name == "runtime.NumGoroutine") = false) (hb : fn.body = some c) (hn : fn.ntmps = E.n) (ha : args.length ≤ E.n) (h4 : fn.results.toList.length ≤ 4)
    (h : ∀ (F : Sy) (C : Key → List AV → Res → Prop) (D : Code → (AE → St → Prop) → St → Prop), F = sy → (∀ k as r, CSem P k as r → C k as r) → (∀ c Q s, awp F C D E c Q s → D c Q s) → awp F C D E c (fun e st => match e with | .normal => retOK fn.results.toList res st | .ret => retOK fn.results.toList res st | .exit _ => False) { slots := st0 0 args, obs := [], ctr := 0 }) : CSem P (.fn f) args res := by
  refine fsem_of (fun as w => ?_) (acalls_of E hΓ hm hf hb hn ha h4 h)
  have h1 : fn.name ≠ "runtime.NumGoroutine" := by simpa using hname
  simp [callFunc, hf, h1, hb]
/-- The same for a function that writes to what it is handed. -/
theorem of_textW (hΓ : TOKs P) (hm : P.follows .mixedOrders = true) (E : En) {f : Nat} {fn : Func} {c : Code} {args : List AV} {pars pars' : Obs} {res : Res} (hf : P.funcs[f]? = some fn) (hname : (fn.name == "runtime.NumGoroutine") = false) (hb : fn.body = some c) (hn : fn.ntmps = E.n) (ha : args.length ≤ E.n) (h4 : fn.results.toList.length ≤ 4) (hkl : keysLt args.length pars = true)
    (h : ∀ (F : Sy) (C : Key → List AV → Res → Prop) (D : Code → (AE → St → Prop) → St → Prop), F = sy → (∀ k as r, CSem P k as r → C k as r) → (∀ c Q s, awp F C D E c Q s → D c Q s) → awp F C D E c (fun e st => match e with | .normal => retOKW fn.results.toList pars' res st | .ret => retOKW fn.results.toList pars' res st | .exit _ => False) { slots := st0 0 args, obs := pars, ctr := args.length, par := args.length }) : CSem P (.wr f pars pars') args res := by
  refine ⟨fun as w => ?_, mcalls_of E hΓ hm hf hb hn ha h4 hkl h⟩
  have h1 : fn.name ≠ "runtime.NumGoroutine" := by simpa using hname
  simp [callFunc, hf, h1, hb]
end Go.Proofs.YthepmpfkkhckpaaGreatDoor.Am
set_option linter.unusedVariables false
set_option linter.unusedSimpArgs false
namespace Go.Proofs.YthepmpfkkhckpaaGreatDoor.Am
open Go Go.RowKit

/-- The row that a writing call hands back, taken as something that stays as it is. -/
theorem wr_frz {P : Program} {f e sz : Nat} {pars pars' : Obs} {args rest : List AV} {rows : List (List AV)} (h : CSem P (.wr f pars pars') args (.own e sz rows rest)) : CSem P (.wr f pars pars') args (.pure (.sl rows :: rest)) := by
  refine ⟨h.1, fun w S β xs hS hgd ho hsep hx => (h.2 w S β xs hS hgd ho hsep hx).mono ?_⟩
  rintro ex w' ⟨y, S', rfl, hg, hobj, z, ys, zs, hy, hown, hr, hl, hzb, hrest⟩
  have hm : SameOn S' w' w' := fun _ _ => rfl
  have hsub : ∀ g, S' g → (S' g ∨ z.ownBlock = some g) := fun _ h => Or.inl h
  refine ⟨y, fun g => S' g ∨ z.ownBlock = some g, rfl, ⟨hg.os, hg.tape, hg.output, hg.size, hg.block, fun g h => .inl (hg.sub g h), fun g h => ?_, fun g h => ?_, hg.gd.1, hg.gd.2.mono hm hsub⟩, fun k o hk => ?_, z :: ys, hy, Reps.cons (.c (repc_of_own hown (hr.mono hm hsub) hl (fun g h => Or.inr h))) (hrest.mono hm hsub)⟩
  · rcases h with h | h
    · exact hg.new g h
    · exact .inr (hzb g h).2.1.symm
  · rcases h with h | h
    · exact hg.lt g h
    · exact (hown.lt g h).2
  · refine orep_mono hm hsub (fun g hgb => ⟨rfl, fun hs => ?_⟩) (hobj k o hk)
    rcases hs with hs | hs
    · exact (orep_blk (hobj k o hk) hgb).2.2 hs
    · exact (hzb g hs).2.2 ⟨k, o, hk, hgb⟩

/-! ### 16. A nil slice is an empty row of the call's own -/
theorem le_nil (t e sz : Nat) {s : St} (ht : lk t s.slots = some (.v (.slice none 0 0))) (hf : frS s.ctr s.slots = true) :
    Le s { slots := (t, .own s.ctr 0) :: s.slots, obs := (s.ctr, .row e sz [] 0 0) :: s.obs, ctr := s.ctr + 1, par := s.par } := by
  rintro W0 S0 n a w ⟨S, β, hr⟩
  have hold : ∀ k o, k ≠ s.ctr → lk k ((s.ctr, Ob.row e sz [] 0 0) :: s.obs) = some o → lk k s.obs = some o := fun k o hk h => by
    simp only [lk] at h
    rwa [if_neg (fun e => hk e.symm)] at h
  have hnew : ∀ o, lk s.ctr ((s.ctr, Ob.row e sz [] 0 0) :: s.obs) = some o → o = .row e sz [] 0 0 := fun o h => by simp [lk] at h; exact h.symm
  refine ⟨S, fun j => if j = s.ctr then .slice none 0 0 else β j, hr.gr, hr.par, hr.defers, hr.size, fun t' x hx => ?_, fun k o hk => ?_, fun k o g hk hg => ?_, fun k k' o o' hk hk' hne g hg hg' => ?_, fun k o hk => ?_, Nat.le_trans hr.parc (Nat.le_succ _), fun k o hp hk => ?_⟩
  · simp only [lk] at hx
    split at hx
    · rename_i e1
      injection hx with hx
      subst e1 hx
      obtain ⟨h1, h2⟩ := hr.slots t _ ht
      refine ⟨h1, ?_⟩
      have := srep_v h2
      intro e' sz' rows' m' h
      simp only [if_true]
      exact this
    · obtain ⟨h1, h2⟩ := hr.slots t' x hx
      exact ⟨h1, srep_obs (c := s.ctr) (fun j hj => if_neg (by omega)) (fun j o hj h => hold j o (by omega) h) (frS_get hf t' x hx) h2⟩
  · by_cases e1 : k = s.ctr
    · subst e1
      rw [hnew o hk]
      simp only [if_true]
      exact ⟨[], OwnR.nil _ _ _ _, RepL.nil _ _, fun r h => by simp at h, fun g h => by simp [Value.ownBlock] at h⟩
    · rw [if_neg e1]; exact hr.objs k o (hold k o e1 hk)
  · by_cases e1 : k = s.ctr
    · subst e1; simp [blkOf, Value.ownBlock] at hg
    · rw [if_neg e1] at hg; exact hr.up k o g (hold k o e1 hk) hg
  · by_cases e1 : k = s.ctr
    · subst e1; simp [blkOf, Value.ownBlock] at hg
    · by_cases e2 : k' = s.ctr
      · subst e2; simp [blkOf, Value.ownBlock] at hg'
      · rw [if_neg e1] at hg
        rw [if_neg e2] at hg'
        exact hr.sep k k' o o' (hold k o e1 hk) (hold k' o' e2 hk') hne g hg hg'
  · by_cases e1 : k = s.ctr
    · subst e1; exact Nat.lt_succ_self _
    · exact Nat.lt_succ_of_lt (hr.ctr k o (hold k o e1 hk))
  · have hpc : k < s.ctr := Nat.lt_of_lt_of_le hp hr.parc
    rw [if_neg (by omega)]
    exact hr.fix k o hp (hold k o (by omega) hk)
end Go.Proofs.YthepmpfkkhckpaaGreatDoor.Am
