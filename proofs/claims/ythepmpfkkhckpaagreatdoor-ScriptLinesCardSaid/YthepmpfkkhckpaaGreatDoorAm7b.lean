import Derived.Test.YthepmpfkkhckpaaGreatDoorAm7
import Derived.Maps.AppendAt
set_option linter.unusedVariables false
set_option linter.unusedSimpArgs false
namespace Go.Proofs.YthepmpfkkhckpaaGreatDoor.Am
open Go Go.RowKit

/-! ### 7b. Operations that write -/
/-- So many cells. -/
inductive LenIs (ds : List AV) (n : Nat) : Prop where
  | mk (h : ds.length = n) : LenIs ds n
/-- What is handed to a call that writes: its objects bear the numbers of their places. -/
def canon (obs : Obs) : Nat → List AV → Option (List AV × Obs)
  | _, [] => some ([], [])
  | p, .own k ver :: r => match lk k obs with
    | some (.row e sz rows ver' m) => if ver = ver' then (match canon obs (p + 1) r with | some (as, ps) => some (.own p 0 :: as, (p, .row e sz rows 0 0) :: ps) | none => none) else none
    | _ => none
  | p, .ptr k off :: r => match lk k obs with
    | some (.box ty cs fz) => (match canon obs (p + 1) r with | some (as, ps) => some (.ptr p off :: as, (p, .box ty cs false) :: ps) | none => none)
    | _ => none
  | p, x :: r => if okArg x = true then (match canon obs (p + 1) r with | some (as, ps) => some (plain x :: as, ps) | none => none) else none
def keysOf : Nat → List AV → List (Nat × Nat)
  | _, [] => []
  | p, .own k _ :: r => (p, k) :: keysOf (p + 1) r
  | p, .ptr k _ :: r => (p, k) :: keysOf (p + 1) r
  | p, _ :: r => keysOf (p + 1) r
def memV (k : Nat) : List (Nat × Nat) → Bool
  | [] => false
  | (_, j) :: r => if j = k then true else memV k r
def nodV : List (Nat × Nat) → Bool
  | [] => true
  | (_, k) :: r => if memV k r = true then false else nodV r
def obMerge (old new : Ob) : Option Ob :=
  match old, new with
  | .row e sz _ ver m, .row e' sz' rows' _ _ => if e' = e then (if sz' = sz then some (.row e sz rows' ver (m + 1)) else none) else none
  | .box ty _ fz, .box ty' cs' _ => if ty' = ty then some (.box ty cs' fz) else none
  | _, _ => none
/-- The objects behind the call. -/
def wback (obs pars' : Obs) : List (Nat × Nat) → Option Obs
  | [] => some obs
  | (p, k) :: r => match wback obs pars' r with
    | none => none
    | some o1 => match lk p pars' with
      | none => some (del k o1)
      | some new => match lk k obs with
        | none => none
        | some old => match obMerge old new with
          | none => none
          | some o => some ((k, o) :: del k o1)
section
variable (F : Sy) (C : Key → List AV → Res → Prop)
def wop (ev : Operand → Option AV) (obs : Obs) (op : Op) (K : Obs → AV → Prop) : Prop :=
  match op with
  | .store t x v => match gam t, ev x, ev v with
    | some ti, some (.ptr k off), some u => (match lk k obs, cellsOf u with
      | some (.box ty cs fz), some ds => if ds.length = ti.size then (match setCells off ds cs with
          | some cs' => K ((k, .box ty cs' fz) :: del k obs) (.tup [])
          | none => False) else False
      | _, _ => False)
    | some ti, some (.rel k ver mver i _ off), some u => (match lk k obs, cellsOf u with
      | some (.row e sz rows ver' m), some ds => if ver = ver' then LenIs ds ti.size ∧ (if ti.size = sz then (if off = 0 then K ((k, .row e sz (F .set rows i ds) ver (m + 1)) :: del k obs) (.tup []) else False)
          else ∃ r r', rows[i]? = some r ∧ setCells off ds r = some r' ∧ K ((k, .row e sz (F .set rows i r') ver (m + 1)) :: del k obs) (.tup [])) else False
      | _, _ => False)
    | _, _, _ => False
  | .call { callee := .value f, args, argTypes } => match ev f, evs ev args.toList with
    | some (.clo g caps), some as => (match canon obs 0 as with
      | some (as', pars) => if nodV (keysOf 0 as) = true then ∃ pars' xs, C (.wr g pars pars') (as' ++ caps) (.pure xs) ∧ (match wback obs pars' (keysOf 0 as) with
          | some obs' => K obs' (tupOf xs)
          | none => False) else False
      | none => False)
    | _, _ => False
  | .call { callee := .builtin .clear, args, argTypes } => match args.toList, argTypes.toList with
    | [x], [t] => (match gam t, ev x with
      | some ti, some (.osl k ver lo) => (match ti.kind, lk k obs with
        | .sli e esz _, some (.row e' sz rows ver' m) => if ver = ver' then (if sz = esz then (match gam e with
          | some te => ∃ rows', rows' = rows.take lo ++ List.replicate (rows.length - lo) te.zero ∧ K ((k, .row e' sz rows' ver (m + 1)) :: del k obs) (.tup [])
          | none => False) else False) else False
        | _, _ => False)
      | _, _ => False)
    | _, _ => False
  | .mapUpdate t m x v => match gam t, ev m, ev x, ev v with
    | some ti, some (.mo k), some (.v (.string s)), some u => (match ti.kind, lk k obs with
      | .mp _ _, some (.mp ks vs) => if okArg u = true then ∃ ks' vs', MP ks vs s (plain u) ks' vs' ∧ K ((k, .mp ks' vs') :: del k obs) (.tup []) else False
      | _, _ => False)
    | _, _, _, _ => False
  | .convert s d x => match gam d, ev x with
    | some ti, some (.own k ver) => (match ti.kind, lk k obs with
      | .sli e 1 1, some (.row e' sz rows ver' m) => if s = d then (if ver = ver' then (if e' = e then (if sz = 1 then (if byteT e = true then (0 < rows.length ∧ K ((k, .row e' sz rows ver (m + 1)) :: del k obs) (.own k ver)) else False) else False) else False) else False) else False
      | _, _ => False)
    | _, _ => False
  | _ => False
end

/-- An operation that writes to objects that are there. -/
def WGood (P : Program) (ev : Operand → Option AV) (obs : Obs) (op : Op) (obs' : Obs) (x : AV) : Prop :=
  ∀ (a : Act) (w : World) (S : Nat → Prop) (β : Nat → Value), (∀ g, S g → g < w.heap.size) → gdOK w S → (∀ o ∈ op.operands, ∀ u, ev o = some u → SRep w S β obs u (a.eval o)) →
    (∀ k o, lk k obs = some o → ORep w S 0 (β k) o) → (∀ k k' o o', lk k obs = some o → lk k' obs = some o' → k ≠ k' → ∀ g, blkOf (β k) = some g → blkOf (β k') = some g → False) →
    ∀ oper : Oper, oper.op = op → ∀ (K : Act → World → Prop) (Q : Exit → Act → World → Prop),
    (∀ v w' S', GrK (obsBlk obs β) w S w' S' → (∀ k o, lk k obs' = some o → ORep w' S' 0 (β k) o) → (∀ x y, SRep0 w S β obs x y → SRep0 w' S' β obs' x y) → SRep w' S' β obs' x v → K (a.put oper.dst v) w') → oper.wp P a w K Q
variable {W0 : Bas} {S0 : Nat → Prop} {n : Nat}
theorem srep_of0 {w w' : World} {S S' : Nat → Prop} {β β' : Nat → Value} {obs obs' : Obs} (h : ∀ x y, SRep0 w S β obs x y → SRep0 w' S' β' obs' x y) {x : AV} {y : Value} (hx : SRep w S β obs x y) : SRep w' S' β' obs' x y := by
  have := srep_map (f := fun x => x) h (fun x hx => hx) hx
  cases x <;> first | exact this | (simpa [tupMap] using this)
theorem rel_wrote {P : Program} {S S' : Nat → Prop} {β : Nat → Value} {st : St} {a : Act} {w w' : World} {o : Oper} {x : AV} {v : Value} {obs' : Obs} (h : RelS W0 S0 n S β st a w) (hd : okD n o.dst = true)
    (hkeys : ∀ k u, lk k obs' = some u → ∃ u', lk k st.obs = some u') (hgr : GrK (obsBlk st.obs β) w S w' S') (hobj : ∀ k o, lk k obs' = some o → ORep w' S' 0 (β k) o) (hsr : ∀ x y, SRep0 w S β st.obs x y → SRep0 w' S' β obs' x y) (hx : SRep w' S' β obs' x v) : RelS W0 S0 n S' β (St.put { slots := st.slots, obs := obs', ctr := st.ctr, par := st.par } o.dst x) (a.put o.dst v) w' := by
  have hob : (St.put { slots := st.slots, obs := obs', ctr := st.ctr, par := st.par } o.dst x).obs = obs' := by cases o.dst <;> rfl
  have hct : (St.put { slots := st.slots, obs := obs', ctr := st.ctr, par := st.par } o.dst x).ctr = st.ctr := by cases o.dst <;> rfl
  refine ⟨h.gr.trans hgr (fun g hg => ?_), by cases o.dst <;> exact h.par, by rw [put_defers]; exact h.defers, by rw [put_size]; exact h.size, fun t y ht => ?_, by rw [hob]; exact hobj, ?_, ?_, ?_, by rw [hct]; exact h.parc, fun k u hp hu => by
    rw [hob] at hu
    obtain ⟨u', hu'⟩ := hkeys k u hu
    exact h.fix k u' hp hu'⟩
  · obtain ⟨k, u, h1, h2⟩ := hg
    have := h.up k u g h1 h2
    split at this
    · exact .inl this
    · exact this.symm
  · rw [hob]
    cases hdd : o.dst with
    | none =>
      rw [hdd] at ht
      obtain ⟨h1, h2⟩ := h.slots t y ht
      exact ⟨h1, srep_of0 hsr h2⟩
    | some d =>
      rw [hdd] at ht hd
      have hdn : d < n := by simpa [okD] using hd
      rw [getD_put _ _ _ _ (by rw [h.size]; exact hdn)]
      simp only [St.put, lk] at ht
      by_cases e : d = t
      · rw [if_pos e] at ht
        injection ht with ht
        subst ht e
        exact ⟨hdn, by rw [if_pos rfl]; exact hx⟩
      · rw [if_neg e] at ht
        obtain ⟨h1, h2⟩ := h.slots t y ht
        exact ⟨h1, by rw [if_neg (fun h => e h.symm)]; exact srep_of0 hsr h2⟩
  · rw [hob]
    intro k u g hu
    obtain ⟨u', hu'⟩ := hkeys k u hu
    exact h.up k u' g hu'
  · rw [hob]
    intro k k' u u' hu hu'
    obtain ⟨v1, h1⟩ := hkeys k u hu
    obtain ⟨v2, h2⟩ := hkeys k' u' hu'
    exact h.sep k k' v1 v2 h1 h2
  · rw [hob, hct]
    intro k u hu
    obtain ⟨u', hu'⟩ := hkeys k u hu
    exact h.ctr k u' hu'
theorem rel_write {P : Program} {S : Nat → Prop} {β : Nat → Value} {st : St} {a : Act} {w : World} {o : Oper} {x : AV} {obs' : Obs} {K : St → Prop} {Kr : Act → World → Prop} {Q : Exit → Act → World → Prop} (h : RelS W0 S0 n S β st a w) (hd : okD n o.dst = true) (hg : WGood P (ev st) st.obs o.op obs' x)
    (hkeys : ∀ k u, lk k obs' = some u → ∃ u', lk k st.obs = some u') (hk : K (St.put { slots := st.slots, obs := obs', ctr := st.ctr, par := st.par } o.dst x)) (hK : ∀ st' a' w', K st' → Rel W0 S0 n st' a' w' → Kr a' w') : o.wp P a w Kr Q :=
  hg a w S β h.gr.lt h.gd (fun o _ u hu => ev_ok h hu) h.objs h.sep o rfl Kr Q (fun v w' S' hgr hobj hsr hx => hK _ _ _ hk ⟨S', β, rel_wrote (P := P) h hd hkeys hgr hobj hsr hx⟩)
end Go.Proofs.YthepmpfkkhckpaaGreatDoor.Am
