import Derived.Test.YtljpmnifkccbdaaAm16
set_option linter.unusedVariables false
set_option linter.unusedSimpArgs false
namespace Go.Proofs.Ytljpmnifkccbdaa.Am
open Go Go.RowKit
variable {P : Program} {W0 : Bas} {S0 : Nat → Prop} {E : En}

/-! ### 18. Regions whose order is open, with new objects -/
/-- Objects renamed. -/
def rnF (κ : Nat → Nat) : AV → AV
  | .own k v => .own (κ k) v
  | .ptr k o => .ptr (κ k) o
  | .rel k v m i cs o => .rel (κ k) v m i cs o
  | .osl k v lo => .osl (κ k) v lo
  | x => x
theorem rel_ren {n : Nat} {s s' : St} {a : Act} {w : World} (κ : Nat → Nat) (hsl : ∀ t x, lk t s'.slots = some x → (∀ v vs, x ≠ .tup (v :: vs)) ∧ lk t s.slots = some (rnF κ x)) (hob : ∀ k o, lk k s'.obs = some o → lk (κ k) s.obs = some o)
    (hinj : ∀ k k' o o', lk k s'.obs = some o → lk k' s'.obs = some o' → κ k = κ k' → k = k') (hct : ∀ k o, lk k s'.obs = some o → k < s'.ctr) (hpar : s'.par = s.par) (hpc : s.par ≤ s'.ctr) (hp1 : ∀ k, k < s.par → κ k = k) (hp2 : ∀ k o, lk k s'.obs = some o → κ k < s.par → k < s.par) (h : Rel W0 S0 n s a w) : Rel W0 S0 n s' a w := by
  obtain ⟨S, β, hr⟩ := h
  have hpp : s.par = W0.par := hr.par
  refine ⟨S, fun k => β (κ k), hr.gr, by rw [hpar]; exact hr.par, hr.defers, hr.size, fun t x ht => ?_, fun k o hk => hr.objs _ _ (hob k o hk), fun k o g hk hg => ?_, fun k k' o o' hk hk' hne => ?_, fun k o hk => hct k o hk, by rw [← hpp]; exact hpc, fun k o hp hk => ?_⟩
  · obtain ⟨hnt, hx⟩ := hsl t x ht
    obtain ⟨h4, h5⟩ := hr.slots t _ hx
    refine ⟨h4, ?_⟩
    cases x <;> try exact h5
    · rename_i k v
      intro e sz rows m hk
      exact (show ∀ e sz rows m, lk (κ k) s.obs = some (.row e sz rows v m) → a.tmps.getD t undef = β (κ k) from h5) _ _ _ _ (hob _ _ hk)
    · rename_i k v m i cs off
      intro e sz rows m' hk
      exact (show RelP β s.obs (κ k) v m i cs off (a.tmps.getD t undef) from h5) _ _ _ _ (hob _ _ hk)
    · rename_i k v lo
      intro e sz rows m' hk
      exact (show ∀ e sz rows m, lk (κ k) s.obs = some (.row e sz rows v m) → OslP β (κ k) lo sz rows.length (a.tmps.getD t undef) from h5) _ _ _ _ (hob _ _ hk)
    · rename_i vs
      cases vs with
      | nil => rw [tup_nil_inv h5]; exact tup_nil
      | cons v vs => exact absurd rfl (hnt v vs)
  · have := hr.up _ _ g (hob k o hk) hg
    by_cases hlt : k < W0.par
    · rw [if_pos hlt]
      rw [if_pos (by rw [hp1 k (by rw [hpp]; exact hlt)]; exact hlt)] at this
      exact this
    · rw [if_neg hlt]
      rw [if_neg (fun h => hlt (by rw [← hpp]; exact hp2 k o hk (by rw [hpp]; exact h)))] at this
      exact this
  · exact hr.sep _ _ _ _ (hob k o hk) (hob k' o' hk') (fun e => hne (hinj k k' o o' hk hk' e))
  · have h7 := hp1 k (by rw [hpp]; exact hp)
    have h8 := hob k o hk
    rw [h7] at h8 ⊢
    exact hr.fix k o hp h8
/-- A value without objects. -/
def freeV : AV → Bool
  | .tup _ => false
  | x => fr0 0 x
theorem good_free {ev : Operand → Option AV} {op : Op} {x : AV} (h : Good P ev [] op x) (hx : freeV x = true) (obs : Obs) : Good P ev obs op x := by
  intro a w S β B hS hev ho oper hop K Q hK
  refine h a w S β B hS (fun o ho u hu => srep_sub (fun j o h => by simp [lk] at h) (hev o ho u hu)) (fun k o h => by simp [lk] at h) oper hop K Q (fun v w' S' hg hv => hK v w' S' hg ?_)
  refine srep_obs (c := 0) (fun j hj => rfl) (fun j o hj => by omega) ?_ hv
  by_cases ht : ∃ vs, x = .tup vs
  · obtain ⟨vs, rfl⟩ := ht
    simp [freeV] at hx
  · refine .inr ⟨fun vs e => ht ⟨vs, e⟩, ?_⟩
    cases x <;> first | exact hx | exact absurd ⟨_, rfl⟩ ht
/-- What an operation does with objects: nothing; it makes one; it appends to that of operation m, which goes, and makes one; it stores into that of operation m. -/
inductive Kd where
  | plain
  | mk (o : Ob)
  | app (m : Nat) (o : Ob)
  | sto (m : Nat) (o : Ob)
section
variable (F : Sy) (C : Key → List AV → Res → Prop) (E : En)
/-- Is it one that makes an object, or stores? -/
def mainB (o : Oper) : Bool :=
  match o.op with
  | .alloc _ => true
  | .store _ _ _ => true
  | .buildSlice _ _ ps => ps.toList.isEmpty
  | .call { callee := .builtin .append, args := _, argTypes := _ } => isK E.keep o.dst
  | _ => false
def mvOf (o : Oper) : Option Operand :=
  match o.op with
  | .move x => some x
  | .assign x => some x
  | _ => none
/-- The region in the text's order: i operations are behind us, these objects have been used up. -/
def adx (all : List Oper) (K0 : Nat) : List Oper → Nat → List Nat → (St → Prop) → St → Prop
  | [], i, used, K, st => K { slots := st.slots, obs := st.obs, ctr := K0 + all.length, par := st.par }
  | o :: rest, i, used, K, st => if okD E.n o.dst = true then (match o.guard with
    | some _ => False
    | none => if mainB E o = true then (match o.op with
        | .alloc t => if isK E.keep o.dst = true then (match gam t with
          | some ti => adx all K0 rest (i + 1) used K (St.put { slots := st.slots, obs := (K0 + i, .box t ti.zero false) :: st.obs, ctr := st.ctr, par := st.par } o.dst (.ptr (K0 + i) 0))
          | none => False) else False
        | .buildSlice t n ps => if isK E.keep o.dst = true then (match gam t with
          | some ti => (match ti.kind with
            | .sli e esz bytes => if n = 0 then adx all K0 rest (i + 1) used K (St.put { slots := st.slots, obs := (K0 + i, .row e esz [] 0 0) :: st.obs, ctr := st.ctr, par := st.par } o.dst (.own (K0 + i) 0)) else False
            | _ => False)
          | none => False) else False
        | .call { callee := .builtin .append, args, argTypes } => (match args.toList, argTypes.toList with
          | [s, x], [t, t'] => if t = t' then (match gam t, ev st s, ev st x with
            | some ti, some (.own k 0), some (.sl src) => (match ti.kind, lk k st.obs with
              | .sli e esz bytes, some (.row e' sz' rows 0 m) => if e' = e then (if sz' = esz then (if Nat.ble K0 k = true then (if memN k used = false then (if ahead all (k - K0) o = true then
                  (∀ r ∈ src, r.length = esz) ∧ (F .len rows + F .len src) * (bytes : Int) ≤ 140737488355328 ∧ adx all K0 rest (i + 1) (k :: used) K (St.put { slots := st.slots, obs := (K0 + i, .row e esz (F .app rows src) 0 0) :: del k st.obs, ctr := st.ctr, par := st.par } o.dst (.own (K0 + i) 0))
                  else False) else False) else False) else False) else False
              | _, _ => False)
            | _, _, _ => False) else False
          | _, _ => False)
        | .store t x v => (match o.dst with
          | some _ => False
          | none => (match gam t, ev st x, ev st v with
            | some ti, some (.ptr k 0), some u => (match lk k st.obs, cellsOf u with
              | some (.box ty cs false), some ds => if ds.length = ti.size then (if Nat.ble K0 k = true then (if memN k used = false then (if ahead all (k - K0) o = true then (match setCells 0 ds cs with
                | some cs' => adx all K0 rest (i + 1) (k :: used) K { slots := st.slots, obs := (k, .box ty cs' false) :: del k st.obs, ctr := st.ctr, par := st.par }
                | none => False) else False) else False) else False) else False
              | _, _ => False)
            | _, _, _ => False))
        | _ => False)
      else match mvOf o with
        | some x => (match ev st x with
          | some u => adx all K0 rest (i + 1) used K (st.put o.dst u)
          | none => False)
        | none => dop F C (ev st) [] o.op (fun x => if freeV x = true then adx all K0 rest (i + 1) used K (st.put o.dst x) else False)) else False
end
/-- of_text, for a function some of whose cuts are shown over the program itself. -/
theorem of_textS (hΓ : TOKs P) (hm : P.follows .mixedOrders = true) (E : En) {f : Nat} {fn : Func} {c : Code} {args : List AV} {res : Res} (hf : P.funcs[f]? = some fn) (hname : (fn.name == "runtime.NumGoroutine") = false) (hb : fn.body = some c) (hn : fn.ntmps = E.n) (ha : args.length ≤ E.n) (h4 : fn.results.toList.length ≤ 4)
    (h : ∀ (F : Sy) (C : Key → List AV → Res → Prop) (D : Code → (AE → St → Prop) → St → Prop), F = sy → (∀ k as r, CSem P k as r → C k as r) → (∀ c Q s, awp F C D E c Q s → D c Q s) → (∀ c Q s, (∀ c' Q' s', D c' Q' s' → Snd P E c' Q' s') → Snd P E c Q s → D c Q s) → (∀ c' Q' s', D c' Q' s' → Snd P E c' Q' s') → awp F C D E c (fun e st => match e with | .normal => retOK fn.results.toList res st | .ret => retOK fn.results.toList res st | .exit _ => False) { slots := st0 0 args, obs := [], ctr := 0 }) : CSem P (.fn f) args res := by
  refine fsem_of (fun as w => ?_) (acalls_of0 E hΓ hm hf hb hn ha h4 (h sy (CSem P) (Snd P E) rfl (fun _ _ _ h => h) (fun c Q s h W0 S0 R a w hr hq => awp_ok hΓ hm c Q R s a w h hr hq) (fun c Q s _ h => h) (fun _ _ _ h => h)))
  have h1 : fn.name ≠ "runtime.NumGoroutine" := by simpa using hname
  simp [callFunc, hf, h1, hb]
end Go.Proofs.Ytljpmnifkccbdaa.Am
