import Derived.Test.YthepmpfkkhckpaaGreatDoorAm11
set_option linter.unusedVariables false
set_option linter.unusedSimpArgs false
namespace Go.Proofs.YthepmpfkkhckpaaGreatDoor.Am
open Go Go.RowKit

/-! ### 10. Regions -/
section
variable (F : Sy) (C : Key → List AV → Res → Prop) (E : En)
/-- A region in the text's order. -/
def aops (all : List Oper) : List Oper → (St → Prop) → St → Prop
  | [], K, st => K st
  | o :: rest, K, st => match o.guard with
    | none => aop F C E o st (aops all rest K)
    | some (j, b) => match dstOf all j with
      | none => False
      | some d => match lk d st.slots with
        | some (.b c) => (match c, b with
          | true, true => aop F C E o st (aops all rest K)
          | false, false => aop F C E o st (aops all rest K)
          | _, _ => if okD E.n o.dst = true then aops all rest K (st.put o.dst (.tup [])) else False)
        | some (.v (.bool c)) => (match b with
          | true => (c = true → aop F C E o (st.put (some d) (.b true)) (aops all rest K)) ∧ (c = false → if okD E.n o.dst = true then aops all rest K ((st.put (some d) (.b false)).put o.dst (.tup [])) else False)
          | false => (c = false → aop F C E o (st.put (some d) (.b false)) (aops all rest K)) ∧ (c = true → if okD E.n o.dst = true then aops all rest K ((st.put (some d) (.b true)).put o.dst (.tup [])) else False))
        | some (.tup []) => if okD E.n o.dst = true then aops all rest K (st.put o.dst (.tup [])) else False
        | _ => False
/-- A region whose order is open. -/
def adr (all : List Oper) : List Oper → (St → Prop) → St → Prop
  | [], K, st => K st
  | o :: rest, K, st => if okD E.n o.dst = true then (if isW E o = true then (match o.guard with
    | none => wop F C (ev st) st.obs o.op (fun obs' x => adr all rest K (St.put { slots := st.slots, obs := obs', ctr := st.ctr, par := st.par } o.dst x))
    | some _ => False) else match o.guard with
    | none => dop F C (ev st) st.obs o.op (fun x => adr all rest K (st.put o.dst x))
    | some (j, b) => match dstOf all j with
      | none => False
      | some d => match lk d st.slots with
        | some (.b c) => (match c, b with
          | true, true => dop F C (ev st) st.obs o.op (fun x => adr all rest K (st.put o.dst x))
          | false, false => dop F C (ev st) st.obs o.op (fun x => adr all rest K (st.put o.dst x))
          | _, _ => adr all rest K (st.put o.dst (.tup [])))
        | some (.v (.bool c)) => (match b with
          | true => (c = true → dop F C (ev (st.put (some d) (.b true))) st.obs o.op (fun x => adr all rest K ((st.put (some d) (.b true)).put o.dst x))) ∧ (c = false → adr all rest K ((st.put (some d) (.b false)).put o.dst (.tup [])))
          | false => (c = false → dop F C (ev (st.put (some d) (.b false))) st.obs o.op (fun x => adr all rest K ((st.put (some d) (.b false)).put o.dst x))) ∧ (c = true → adr all rest K ((st.put (some d) (.b true)).put o.dst (.tup []))))
        | some (.tup []) => adr all rest K (st.put o.dst (.tup []))
        | _ => False) else False
end
variable {P : Program} {W0 : Bas} {S0 : Nat → Prop} {E : En}

theorem srep_plain {w : World} {S : Nat → Prop} {β : Nat → Value} {obs : Obs} {x y : AV} {v : Value} (h : plain x = plain y) (hx : SRep w S β obs x v) : SRep w S β obs y v := by
  have one : ∀ (c : Bool), (SRep w S β obs (.b c) v ↔ SRep w S β obs (.v (.bool c)) v) := by
    intro c
    constructor
    · intro h; rw [srep_b h]; exact srep_c (.v _ rfl)
    · intro h; rw [srep_v h]; exact srep_c (.b _)
  cases x <;> cases y <;> simp [plain] at h <;> first | (subst h; first | exact hx | exact (one _).1 hx | exact (one _).2 hx) | (obtain ⟨rfl, rfl⟩ := h; exact hx) | (obtain ⟨rfl, rfl, rfl, rfl, rfl, rfl⟩ := h; exact hx) | exact hx
theorem yielded_of {ops : Array Oper} {a : Act} {j d : Nat} (h : dstOf ops.toList j = some d) (hd : d < a.tmps.size) : yielded ops a.tmps j = (match a.tmps.getD d undef with | .bool b => some b | _ => none) := by
  unfold yielded
  have : (ops[j]?).bind (·.dst) = some d := by
    unfold dstOf at h
    cases ho : ops[j]? with
    | none => simp [ho] at h
    | some o => simp [ho] at h; simpa using h
  rw [this]
  have hg : a.tmps[d]? = some (a.tmps.getD d undef) := by simp [hd]
  simp only [Option.bind_some, hg]
  generalize a.tmps.getD d undef = v
  cases v <;> rfl
theorem tup_nil {w : World} {S : Nat → Prop} {β : Nat → Value} {obs : Obs} : SRep w S β obs (.tup []) undef := ⟨[], rfl, rfl, fun i u x h => by simp at h⟩
theorem tup_nil_inv {w : World} {S : Nat → Prop} {β : Nat → Value} {obs : Obs} {v : Value} (h : SRep w S β obs (.tup []) v) : v = .tuple #[] := by
  obtain ⟨ys, h1, h2, _⟩ := h
  have : ys = [] := List.eq_nil_of_length_eq_zero (by simpa using h2.symm)
  subst this
  exact h1
theorem rel_skip {st : St} {a : Act} {w : World} {d : Option Nat} (h : Rel W0 S0 E.n st a w) (hd : okD E.n d = true) : Rel W0 S0 E.n (st.put d (.tup [])) (a.put d undef) w := by
  obtain ⟨S, β, h⟩ := h
  exact ⟨S, β, rel_quiet h (Gr.refl h.gr.lt) hd tup_nil⟩
/-- A slot said otherwise. -/
theorem rel_relabel {st : St} {a : Act} {w : World} {d : Nat} {x y : AV} (h : Rel W0 S0 E.n st a w) (hx : lk d st.slots = some x) (hxy : plain x = plain y) : Rel W0 S0 E.n (st.put (some d) y) a w := by
  obtain ⟨S, β, h⟩ := h
  refine ⟨S, β, h.gr, h.par, h.defers, h.size, fun t u ht => ?_, h.objs, h.up, h.sep, h.ctr, h.parc, h.fix⟩
  simp only [St.put, lk] at ht
  by_cases e : d = t
  · rw [if_pos e] at ht
    injection ht with ht
    subst ht e
    obtain ⟨h1, h2⟩ := h.slots d x hx
    exact ⟨h1, srep_plain hxy h2⟩
  · rw [if_neg e] at ht
    exact h.slots t u ht

theorem aops_ok (hΓ : TOKs P) {ops : Array Oper} {K : St → Prop} {Q : Exit → Act → World → Prop} (hK : ∀ st' a' w', K st' → Rel W0 S0 E.n st' a' w' → Q .normal a' w') : ∀ (rest : List Oper) (st : St) (a : Act) (w : World), aops sy (CSem P) E ops.toList rest K st → Rel W0 S0 E.n st a w → wpList P ops Q rest a w := by
  intro rest
  induction rest with
  | nil => intro st a w h hr; exact hK _ _ _ h hr
  | cons o rest ih =>
    intro st a w h hr
    have run : ∀ st a w, aop sy (CSem P) E o st (aops sy (CSem P) E ops.toList rest K) → Rel W0 S0 E.n st a w → Region.wanted o (yielded ops a.tmps) = true → wpList P ops Q (o :: rest) a w := by
      intro st a w h hr hw
      unfold wpList
      rw [if_pos hw]
      exact .inl (aop_ok hΓ h hr (fun st' a' w' h' hr' => ih st' a' w' h' hr'))
    have skip : ∀ st a w, okD E.n o.dst = true → aops sy (CSem P) E ops.toList rest K (st.put o.dst (.tup [])) → Rel W0 S0 E.n st a w → Region.wanted o (yielded ops a.tmps) = false → wpList P ops Q (o :: rest) a w := by
      intro st a w hd h hr hw
      unfold wpList
      rw [if_neg (by simp [hw])]
      exact ih _ _ _ h (rel_skip hr hd)
    simp only [aops] at h
    split at h
    · rename_i hg
      exact run st a w h hr (by simp [Region.wanted, hg])
    · rename_i j b hg
      split at h
      · exact h.elim
      · rename_i d hdj
        have yl : ∀ (st : St) (x : AV), Rel W0 S0 E.n st a w → lk d st.slots = some x → ∃ S β, SRep w S β st.obs x (a.tmps.getD d undef) ∧ yielded ops a.tmps j = (match a.tmps.getD d undef with | .bool b => some b | _ => none) := by
          intro st x hr hx
          obtain ⟨S, β, hr⟩ := hr
          obtain ⟨h1, h2⟩ := hr.slots d x hx
          exact ⟨S, β, h2, yielded_of hdj (by rw [hr.size]; exact h1)⟩
        split at h
        · rename_i c hc
          obtain ⟨S, β, h1, h2⟩ := yl st _ hr hc
          rw [srep_b h1] at h2
          split at h
          · exact run st a w h hr (by simp [Region.wanted, hg, h2])
          · exact run st a w h hr (by simp [Region.wanted, hg, h2])
          · rename_i hne1 hne2
            split at h
            · rename_i hd
              refine skip st a w hd h hr ?_
              simp only [Region.wanted, hg, h2]
              cases c <;> cases b <;> first | rfl | exact (hne1 rfl rfl).elim | exact (hne2 rfl rfl).elim
            · exact h.elim
        · rename_i c hc
          obtain ⟨S, β, h1, h2⟩ := yl st _ hr hc
          rw [srep_v h1] at h2
          have yes : c = b → aop sy (CSem P) E o (st.put (some d) (.b b)) (aops sy (CSem P) E ops.toList rest K) → wpList P ops Q (o :: rest) a w := fun hcb h => run _ a w h (rel_relabel hr hc (by simp [plain, hcb])) (by simp [Region.wanted, hg, h2, hcb])
          have no : c ≠ b → (if okD E.n o.dst = true then aops sy (CSem P) E ops.toList rest K ((st.put (some d) (.b c)).put o.dst (.tup [])) else False) → wpList P ops Q (o :: rest) a w := by
            intro hcb h
            split at h
            · rename_i hd
              refine skip _ a w hd h (rel_relabel hr hc rfl) ?_
              simp only [Region.wanted, hg, h2]
              cases c <;> cases b <;> first | rfl | exact absurd rfl hcb
            · exact h.elim
          cases b <;> cases c
          · exact yes rfl (h.1 rfl)
          · exact no (by simp) (h.2 rfl)
          · exact no (by simp) (h.2 rfl)
          · exact yes rfl (h.1 rfl)
        · rename_i hc
          obtain ⟨S, β, h1, h2⟩ := yl st _ hr hc
          rw [tup_nil_inv h1] at h2
          split at h
          · rename_i hd
            exact skip st a w hd h hr (by simp [Region.wanted, hg, h2])
          · exact h.elim
        · exact h.elim
end Go.Proofs.YthepmpfkkhckpaaGreatDoor.Am
