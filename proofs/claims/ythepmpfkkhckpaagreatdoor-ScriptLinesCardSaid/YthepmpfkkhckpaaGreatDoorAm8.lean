import Derived.Test.YthepmpfkkhckpaaGreatDoorAm7e
set_option linter.unusedVariables false
set_option linter.unusedSimpArgs false
namespace Go.Proofs.YthepmpfkkhckpaaGreatDoor.Am
open Go Go.RowKit

/-! ### 8. All operations -/
def fr0 (c : Nat) : AV → Bool
  | .own j _ => Nat.blt j c
  | .ptr j _ => Nat.blt j c
  | .rel j _ _ _ _ _ => Nat.blt j c
  | .osl j _ _ => Nat.blt j c
  | .mo j => Nat.blt j c
  | _ => true
def frS (c : Nat) : List (Nat × AV) → Bool
  | [] => true
  | (_, .tup vs) :: r => if vs.all (fr0 c) = true then frS c r else false
  | (_, x) :: r => if fr0 c x = true then frS c r else false
def isWr (l : List Nat) : Option AV → Bool
  | some (.clo g _) => memN g l
  | _ => false
def ownKey : AV → Option Nat
  | .own k _ => some k
  | _ => none

/-- The first part of a row of the call's own, which is kept: the row itself is gone then. -/
def prefixOf (E : En) (d : Option Nat) (st : St) (x : Operand) (lo hi max : Option Operand) : Option (Nat × Nat × Operand) :=
  if isK E.keep d = true then (match lo, hi, max, ev st x with
    | none, some o, none, some (.own k ver) => some (k, ver, o)
    | _, _, _, _ => none) else none
section
variable (F : Sy) (C : Key → List AV → Res → Prop) (E : En)
/-- A new row (or, where it isn't kept, something that stays as it is). -/
def mkRow (e sz : Nat) (rows : List (List AV)) (dst : Option Nat) (st : St) (K : St → Prop) : Prop :=
  if isK E.keep dst = true then
    (if frS st.ctr st.slots = true then K (St.put { slots := st.slots, obs := (st.ctr, .row e sz rows 0 0) :: st.obs, ctr := st.ctr + 1, par := st.par } dst (.own st.ctr 0)) else False)
  else K (st.put dst (.sl rows))
def app1 (e esz bytes : Nat) (rows src : List (List AV)) (dst : Option Nat) (st : St) (K : St → Prop) : Prop :=
  (∀ r ∈ src, r.length = esz) ∧ (F .len rows + F .len src) * (bytes : Int) ≤ 140737488355328 ∧ mkRow E e esz (F .app rows src) dst st K
def aop (o : Oper) (st : St) (K : St → Prop) : Prop :=
  if okD E.n o.dst = true then
    match o.op with
    | .alloc t => match gam t with
      | some ti => if frS st.ctr st.slots = true then K (St.put { slots := st.slots, obs := (st.ctr, .box t ti.zero (if isK E.keep o.dst then false else true)) :: st.obs, ctr := st.ctr + 1, par := st.par } o.dst (.ptr st.ctr 0)) else False
      | none => False
    | .store t x v => match o.dst with
      | none => wop F C (ev (frzArgs st [v])) (frzArgs st [v]).obs (.store t x v) (fun obs' u => match ev (frzArgs st [v]) x with
        | some (.ptr k _) => (match lk k obs' with
          | some (.box _ _ true) => K (St.freeze k { slots := (frzArgs st [v]).slots, obs := obs', ctr := (frzArgs st [v]).ctr, par := (frzArgs st [v]).par })
          | _ => K { slots := (frzArgs st [v]).slots, obs := obs', ctr := (frzArgs st [v]).ctr, par := (frzArgs st [v]).par })
        | _ => K { slots := (frzArgs st [v]).slots, obs := obs', ctr := (frzArgs st [v]).ctr, par := (frzArgs st [v]).par })
      | some _ => False
    | .makeMap t none => match gam t with
      | some ti => (match ti.kind with
        | .mp _ _ => if frS st.ctr st.slots = true then K (St.put { slots := st.slots, obs := (st.ctr, .mp [] []) :: st.obs, ctr := st.ctr + 1, par := st.par } o.dst (.mo st.ctr)) else False
        | _ => False)
      | none => False
    | .range t x => match gam t, ev st x with
      | some ti, some (.mp ks vs) => (match ti.kind with
        | .mp _ _ => if frS st.ctr st.slots = true then K (St.put { slots := st.slots, obs := (st.ctr, .it ks vs none) :: st.obs, ctr := st.ctr + 1, par := st.par } o.dst (.ptr st.ctr 0)) else False
        | _ => False)
      | _, _ => False
    | .next x false => match ev st x with
      | some (.ptr k 0) => (match lk k st.obs with
        | some (.it ks vs _) => (NXe ks → K (St.put { slots := st.slots, obs := st.obs, ctr := st.ctr, par := st.par } o.dst (.tup [.b false]))) ∧ ∀ (s : ByteArray) (v : AV) (ks' : List ByteArray) (vs' : List AV), NX ks vs s v ks' vs' → K (St.put { slots := st.slots, obs := (k, .it ks' vs' (some (s, v))) :: del k st.obs, ctr := st.ctr, par := st.par } o.dst (.tup [.b true, .v (.string s), v]))
        | _ => False)
      | _ => False
    | .mapUpdate t m x v => match o.dst with
      | none => wop F C (ev (frzArgs st [v])) (frzArgs st [v]).obs (.mapUpdate t m x v) (fun obs' u => K { slots := (frzArgs st [v]).slots, obs := obs', ctr := (frzArgs st [v]).ctr, par := (frzArgs st [v]).par })
      | some _ => False
    | .call { callee := .builtin .append, args, argTypes } => match args.toList, argTypes.toList with
      | [s, x], [t, t'] => if t = t' then (match gam t, ev st s, ev st x with
        | some ti, some d, some y => (match ti.kind, rowsOf st.obs y with
          | .sli e esz bytes, some src => (match d with
            | .v (.slice none 0 0) => app1 F E e esz bytes [] src o.dst st K
            | .own k ver => if Nat.blt k st.par = true then False else (match lk k st.obs with
              | some (.row e' sz' rows ver' m) => if ver = ver' then (if e' = e then (if sz' = esz then (match ownKey y with
                  | some k' => if k' = k then False else app1 F E e esz bytes rows src o.dst { slots := st.slots, obs := del k st.obs, ctr := st.ctr, par := st.par } K
                  | none => app1 F E e esz bytes rows src o.dst { slots := st.slots, obs := del k st.obs, ctr := st.ctr, par := st.par } K) else False) else False) else False
              | _ => False)
            | _ => False)
          | _, _ => False)
        | _, _, _ => False) else (match gam t, gam t', ev st s, ev st x with
        | some ti, some tj, some d, some (.v (.string q)) => (match ti.kind, tj.kind with
          | .sli e 1 1, .str => (match d with
            | .v (.slice none 0 0) => app1 F E e 1 1 [] (F .sb q) o.dst st K
            | .own k ver => if Nat.blt k st.par = true then False else (match lk k st.obs with
              | some (.row e' sz' rows ver' m) => if ver = ver' then (if e' = e then (if sz' = 1 then app1 F E e 1 1 rows (F .sb q) o.dst { slots := st.slots, obs := del k st.obs, ctr := st.ctr, par := st.par } K else False) else False) else False
              | _ => False)
            | _ => False)
          | _, _ => False)
        | _, _, _, _ => False)
      | _, _ => False
    | .call { callee := .builtin .clear, args, argTypes } => wop F C (ev st) st.obs (.call { callee := .builtin .clear, args, argTypes }) (fun obs' x => K (St.put { slots := st.slots, obs := obs', ctr := st.ctr, par := st.par } o.dst x))
    | .slice t x lo hi max => match prefixOf E o.dst st x lo hi max with
      | some (k, ver, hi) => (match gam t, ev st hi, lk k st.obs with
        | some ti, some (.v (.int .i64 j)), some (.row e sz rows ver' m) => (match ti.kind with
          | .sli e' esz bytes => if ver = ver' then (if sz = esz then (if frS st.ctr st.slots = true then ∃ (n : Nat) (rows' : List (List AV)), j = (n : Int) ∧ (n : Int) ≤ F .len rows ∧ rows' = rows.take n ∧ K (St.put { slots := st.slots, obs := (st.ctr, .row e sz rows' 0 0) :: del k st.obs, ctr := st.ctr + 1, par := st.par } o.dst (.own st.ctr 0)) else False) else False) else False
          | _ => False)
        | _, _, _ => False)
      | none => dop F C (ev st) st.obs (.slice t x lo hi max) (fun x => K (st.put o.dst x))
    | .call { callee := .value f, args, argTypes } =>
      if isWr E.wrs (ev st f) = true then if isK E.keep o.dst = true then (match ev st f, evs (ev st) args.toList with
        | some (.clo g caps), some as => (match canon st.obs 0 as with
          | some (as', pars) => if nodV (keysOf 0 as) = true then ∃ pars' e sz rows rest, C (.wr g pars pars') (as' ++ caps) (.own e sz rows rest) ∧ (match wback st.obs pars' (keysOf 0 as) with
            | some obs' => if frS st.ctr st.slots = true then K (St.put { slots := st.slots, obs := (st.ctr, .row e sz rows 0 0) :: obs', ctr := st.ctr + 1, par := st.par } o.dst (tupOf (.own st.ctr 0 :: rest))) else False
            | none => False) else False
          | none => False)
        | _, _ => False) else wop F C (ev st) st.obs (.call { callee := .value f, args, argTypes }) (fun obs' x => K (St.put { slots := st.slots, obs := obs', ctr := st.ctr, par := st.par } o.dst x)) else
      if isK E.keep o.dst = true then (match ev (frzArgs st args.toList) f, evs (ev (frzArgs st args.toList)) args.toList with
        | some (.clo g caps), some as => if as.all okArg = true then (if frS (frzArgs st args.toList).ctr (frzArgs st args.toList).slots = true then
            if isK E.bxs o.dst = true then ∃ ty cells rest, C (.fn g) (as.map plain ++ caps) (.bx ty cells rest) ∧ K (St.put { slots := (frzArgs st args.toList).slots, obs := ((frzArgs st args.toList).ctr, .box ty cells false) :: (frzArgs st args.toList).obs, ctr := (frzArgs st args.toList).ctr + 1, par := (frzArgs st args.toList).par } o.dst (tupOf (.ptr (frzArgs st args.toList).ctr 0 :: rest)))
            else ∃ e sz rows rest, C (.fn g) (as.map plain ++ caps) (.own e sz rows rest) ∧ K (St.put { slots := (frzArgs st args.toList).slots, obs := ((frzArgs st args.toList).ctr, .row e sz rows 0 0) :: (frzArgs st args.toList).obs, ctr := (frzArgs st args.toList).ctr + 1, par := (frzArgs st args.toList).par } o.dst (tupOf (.own (frzArgs st args.toList).ctr 0 :: rest)))
            else False) else False
        | _, _ => False)
      else dop F C (ev (frzArgs st args.toList)) (frzArgs st args.toList).obs o.op (fun x => K ((frzArgs st args.toList).put o.dst x))
    | .build t ps => dop F C (ev (frzArgs st (ps.toList.map (·.2)))) (frzArgs st (ps.toList.map (·.2))).obs o.op (fun x => K ((frzArgs st (ps.toList.map (·.2))).put o.dst x))
    | .buildSlice t n ps => if isK E.keep o.dst = true then (match gam t with
      | some ti => (match ti.kind with
        | .sli e esz bytes => (match partRows (ev (frzArgs st (ps.toList.map (·.2)))) esz 0 ps.toList with
          | some rows => if rows.length = n then (if n * esz ≤ 16777216 then (if frS (frzArgs st (ps.toList.map (·.2))).ctr (frzArgs st (ps.toList.map (·.2))).slots = true then K (St.put { slots := (frzArgs st (ps.toList.map (·.2))).slots, obs := ((frzArgs st (ps.toList.map (·.2))).ctr, .row e esz rows 0 0) :: (frzArgs st (ps.toList.map (·.2))).obs, ctr := (frzArgs st (ps.toList.map (·.2))).ctr + 1, par := (frzArgs st (ps.toList.map (·.2))).par } o.dst (.own (frzArgs st (ps.toList.map (·.2))).ctr 0)) else False) else False) else False
          | none => False)
        | _ => False)
      | none => False) else dop F C (ev (frzArgs st (ps.toList.map (·.2)))) (frzArgs st (ps.toList.map (·.2))).obs o.op (fun x => K ((frzArgs st (ps.toList.map (·.2))).put o.dst x))
    | .box t x => if isK E.keep o.dst = true then (match gam t, ev (frzArgs st [x]) x with
      | some ti, some u => (match cellsOf u with
        | some cs => if cs.length = ti.size then (if frS (frzArgs st [x]).ctr (frzArgs st [x]).slots = true then K (St.put { slots := (frzArgs st [x]).slots, obs := ((frzArgs st [x]).ctr, .box t cs false) :: (frzArgs st [x]).obs, ctr := (frzArgs st [x]).ctr + 1, par := (frzArgs st [x]).par } o.dst (.ptr (frzArgs st [x]).ctr 0)) else False) else False
        | none => False)
      | _, _ => False) else dop F C (ev (frzArgs st [x])) (frzArgs st [x]).obs o.op (fun x' => K ((frzArgs st [x]).put o.dst x'))
    | .convert s d x => match ev st x, (if s = d then true else false) with
      | some (.own _ _), true => wop F C (ev st) st.obs (.convert s d x) (fun obs' u => K (St.put { slots := st.slots, obs := obs', ctr := st.ctr, par := st.par } o.dst u))
      | _, _ => if isK E.keep o.dst = true then (match ev (frzArgs st [x]) x with
      | some u => if okArg u = true then (if frS (frzArgs st [x]).ctr (frzArgs st [x]).slots = true then ∃ e sz rows, C (.conv s d) [plain u] (.own e sz rows []) ∧ K (St.put { slots := (frzArgs st [x]).slots, obs := ((frzArgs st [x]).ctr, .row e sz rows 0 0) :: (frzArgs st [x]).obs, ctr := (frzArgs st [x]).ctr + 1, par := (frzArgs st [x]).par } o.dst (.own (frzArgs st [x]).ctr 0)) else False) else False
      | none => False) else dop F C (ev (frzArgs st [x])) (frzArgs st [x]).obs o.op (fun x' => K ((frzArgs st [x]).put o.dst x'))
    | _ => dop F C (ev st) st.obs o.op (fun x => K (st.put o.dst x))
  else False
end

variable {P : Program} {W0 : Bas} {S0 : Nat → Prop}

theorem srep0_obs {w : World} {S : Nat → Prop} {β β' : Nat → Value} {obs obs' : Obs} {c : Nat} (hβ : ∀ j, j < c → β' j = β j) (hob : ∀ j o, j < c → lk j obs' = some o → lk j obs = some o) {x : AV} {y : Value} (hx : fr0 c x = true) (h : SRep0 w S β obs x y) : SRep0 w S β' obs' x y := by
  cases x <;> try exact h
  · rename_i k off
    have hk : k < c := by simpa [fr0] using hx
    obtain ⟨g, h1, h2⟩ := (show ∃ g, β k = .pointer (some ⟨g, 0, none⟩) ∧ y = .pointer (some ((⟨g, 0, none⟩ : Addr).add off)) from h)
    exact ⟨g, by rw [hβ k hk]; exact h1, h2⟩
  · rename_i k v
    have hk : k < c := by simpa [fr0] using hx
    intro e sz rows m h'
    rw [hβ k hk]
    exact (show ∀ e sz rows m, lk k obs = some (.row e sz rows v m) → y = β k from h) _ _ _ _ (hob k _ hk h')
  · rename_i k v m i cs off
    have hk : k < c := by simpa [fr0] using hx
    intro e sz rows m' h'
    rw [hβ k hk]
    exact (show RelP β obs k v m i cs off y from h) _ _ _ _ (hob k _ hk h')
  · rename_i k v lo
    have hk : k < c := by simpa [fr0] using hx
    intro e sz rows m' h'
    have := (show ∀ e sz rows m, lk k obs = some (.row e sz rows v m) → OslP β k lo sz rows.length y from h) _ _ _ _ (hob k _ hk h')
    unfold OslP at this ⊢
    rw [hβ k hk]
    exact this
  · rename_i k
    have hk : k < c := by simpa [fr0] using hx
    intro ks vs h'
    rw [hβ k hk]
    exact (show ∀ ks vs, lk k obs = some (.mp ks vs) → y = β k from h) _ _ (hob k _ hk h')
theorem frS_get {c : Nat} : ∀ {l : List (Nat × AV)}, frS c l = true → ∀ t x, lk t l = some x → (∃ vs, x = .tup vs ∧ vs.all (fr0 c) = true) ∨ ((∀ vs, x ≠ .tup vs) ∧ fr0 c x = true) := by
  intro l
  induction l with
  | nil => intro _ t x h; simp [lk] at h
  | cons p l ih =>
    obtain ⟨k, u⟩ := p
    intro h t x hx
    have hu : ((∃ vs, u = .tup vs ∧ vs.all (fr0 c) = true) ∨ ((∀ vs, u ≠ .tup vs) ∧ fr0 c u = true)) ∧ frS c l = true := by
      by_cases hu : ∃ vs, u = .tup vs
      · obtain ⟨vs, rfl⟩ := hu
        simp only [frS] at h
        split at h
        · rename_i he; exact ⟨.inl ⟨vs, rfl, he⟩, h⟩
        · simp at h
      · have hn : ∀ vs, u ≠ .tup vs := fun vs e => hu ⟨vs, e⟩
        have e : frS c ((k, u) :: l) = if fr0 c u = true then frS c l else false := by
          cases u <;> first | rfl | exact absurd rfl (hn _)
        rw [e] at h
        split at h
        · rename_i he; exact ⟨.inr ⟨hn, he⟩, h⟩
        · simp at h
    simp only [lk] at hx
    split at hx
    · injection hx with hx; subst hx; exact hu.1
    · exact ih hu.2 t x hx
theorem srep_obs {w : World} {S : Nat → Prop} {β β' : Nat → Value} {obs obs' : Obs} {c : Nat} (hβ : ∀ j, j < c → β' j = β j) (hob : ∀ j o, j < c → lk j obs' = some o → lk j obs = some o) {x : AV} {y : Value} (hx : (∃ vs, x = .tup vs ∧ vs.all (fr0 c) = true) ∨ ((∀ vs, x ≠ .tup vs) ∧ fr0 c x = true)) (h : SRep w S β obs x y) : SRep w S β' obs' x y := by
  rcases hx with ⟨vs, rfl, hv⟩ | ⟨hn, hf⟩
  · obtain ⟨ys, h1, h2, h3⟩ := h
    exact ⟨ys, h1, h2, fun i u x hu hx => srep0_obs hβ hob (List.all_eq_true.1 hv u (List.mem_of_getElem? hu)) (h3 i u x hu hx)⟩
  · rw [srep_eq _ _ _ _ _ hn] at h ⊢
    exact srep0_obs hβ hob hf h

theorem orep_base {w : World} {S : Nat → Prop} {B B' : Nat} {x : Value} {o : Ob} (h : ORep w S B x o) (hB : B' ≤ B) : ORep w S B' x o := by
  cases o with
  | box ty cells fz =>
    obtain ⟨g', xs, rfl, h1, h2⟩ := h
    exact ⟨g', xs, rfl, by omega, h2⟩
  | row e sz rows ver mver =>
    obtain ⟨xs, hown, h2⟩ := h
    exact ⟨xs, ownsRow_up hown (fun g hg => by have := (hown.lt g hg).1; omega), h2⟩
  | mp ks vs =>
    obtain ⟨r, es, clock, rfl, h1, h2⟩ := h
    exact ⟨r, es, clock, rfl, by omega, h2⟩
  | it ks vs cur =>
    obtain ⟨r, bm, since, seen, c0, es, clock, rfl, h1, h2⟩ := h
    exact ⟨r, bm, since, seen, c0, es, clock, rfl, by omega, h2⟩
theorem orep_up {w : World} {S : Nat → Prop} {B B' : Nat} {x : Value} {o : Ob} (h : ORep w S B x o) (hB : ∀ g, blkOf x = some g → B' ≤ g) : ORep w S B' x o := by
  cases o with
  | box ty cells fz =>
    obtain ⟨g', xs, rfl, h1, h2⟩ := h
    exact ⟨g', xs, rfl, hB _ rfl, h2⟩
  | row e sz rows ver mver =>
    obtain ⟨xs, hown, h2⟩ := h
    exact ⟨xs, ownsRow_up hown (fun g hg => hB g (blk_of_own hg)), h2⟩
  | mp ks vs =>
    obtain ⟨r, es, clock, rfl, h1, h2⟩ := h
    exact ⟨r, es, clock, rfl, hB _ rfl, h2⟩
  | it ks vs cur =>
    obtain ⟨r, bm, since, seen, c0, es, clock, rfl, h1, h2⟩ := h
    exact ⟨r, bm, since, seen, c0, es, clock, rfl, hB _ rfl, h2⟩
/-- A new object. -/
theorem rel_new {n : Nat} {S S' : Nat → Prop} {β : Nat → Value} {st : St} {a : Act} {w w' : World} {d : Option Nat} {x : AV} {v nv : Value} {o : Ob} {obs1 : Obs} (h : RelS W0 S0 n S β st a w) (hfr : frS st.ctr st.slots = true) (hobs : ∀ j u, lk j obs1 = some u → lk j st.obs = some u)
    (hgr : GrK W0.M W0.W S0 w' S') (hsame : SameOn S w w') (hsub : ∀ g, S g → S' g) (hold : ∀ j u, lk j obs1 = some u → ∀ g, blkOf (β j) = some g → w'.heap[g]? = w.heap[g]? ∧ ¬ S' g) (hd : okD n d = true) (hnew : ORep w' S' 0 nv o) (hnb : ∀ g, blkOf nv = some g → W0.heap.size ≤ g ∨ W0.M g)
    (hsep : ∀ j u, lk j obs1 = some u → ∀ g, blkOf (β j) = some g → blkOf nv = some g → False)
    (hx : SRep w' S' (fun j => if j = st.ctr then nv else β j) ((st.ctr, o) :: obs1) x v) : Rel W0 S0 n (St.put { slots := st.slots, obs := (st.ctr, o) :: obs1, ctr := st.ctr + 1, par := st.par } d x) (a.put d v) w' := by
  have hlt : ∀ j u, lk j obs1 = some u → j < st.ctr := fun j u hj => h.ctr j u (hobs j u hj)
  have hob : (St.put { slots := st.slots, obs := (st.ctr, o) :: obs1, ctr := st.ctr + 1, par := st.par } d x).obs = (st.ctr, o) :: obs1 := by cases d <;> rfl
  have hct : (St.put { slots := st.slots, obs := (st.ctr, o) :: obs1, ctr := st.ctr + 1, par := st.par } d x).ctr = st.ctr + 1 := by cases d <;> rfl
  have hβ : ∀ j, j < st.ctr → (fun j => if j = st.ctr then nv else β j) j = β j := fun j hj => by simp only; rw [if_neg (by omega)]
  have hob2 : ∀ j u, j < st.ctr → lk j ((st.ctr, o) :: obs1) = some u → lk j st.obs = some u := fun j u hj hu => by
    simp only [lk] at hu
    rw [if_neg (by omega)] at hu
    exact hobs j u hu
  have hold2 : ∀ t y, lk t st.slots = some y → t < n ∧ SRep w' S' (fun j => if j = st.ctr then nv else β j) ((st.ctr, o) :: obs1) y (a.tmps.getD t undef) := by
    intro t y ht
    obtain ⟨h1, h2⟩ := h.slots t y ht
    exact ⟨h1, srep_obs hβ hob2 (frS_get hfr t y ht) (srep_mono hsame hsub h2)⟩
  refine ⟨S', fun j => if j = st.ctr then nv else β j, hgr, by cases d <;> exact h.par, by rw [put_defers]; exact h.defers, by rw [put_size]; exact h.size, fun t y ht => ?_, ?_, ?_, ?_, ?_, by rw [hct]; have := h.parc; omega, fun k u hp hu => by
    rw [hob] at hu
    have hne : ¬ st.ctr = k := by have := h.parc; omega
    simp only [lk] at hu
    rw [if_neg hne] at hu
    rw [if_neg (fun e => hne e.symm)]
    exact h.fix k u hp (hobs k u hu)⟩
  · rw [hob]
    cases d with
    | none => exact hold2 t y ht
    | some d =>
      have hdn : d < n := by simpa [okD] using hd
      rw [getD_put _ _ _ _ (by rw [h.size]; exact hdn)]
      simp only [St.put, lk] at ht
      by_cases e : d = t
      · rw [if_pos e] at ht
        injection ht with ht
        subst ht e
        exact ⟨hdn, by rw [if_pos rfl]; exact hx⟩
      · rw [if_neg e] at ht
        obtain ⟨h1, h2⟩ := hold2 t y ht
        exact ⟨h1, by rw [if_neg (by omega)]; exact h2⟩
  · rw [hob]
    intro k u hu
    simp only [lk] at hu
    by_cases e : st.ctr = k
    · rw [if_pos e] at hu
      injection hu with hu
      subst hu e
      simp only [if_true]
      exact orep_base hnew (Nat.zero_le _)
    · rw [if_neg e] at hu
      try simp only
      rw [if_neg (by omega)]
      exact orep_mono hsame hsub (hold k u hu) (h.objs k u (hobs k u hu))
  · rw [hob]
    intro k u g hu hg
    simp only [lk] at hu
    by_cases e : st.ctr = k
    · rw [if_pos e] at hu
      injection hu with hu
      subst hu e
      simp only [if_true] at hg
      rw [if_neg (by have := h.parc; omega)]
      exact hnb g hg
    · rw [if_neg e] at hu
      try simp only at hg
      rw [if_neg (by omega)] at hg
      exact h.up k u g (hobs k u hu) hg
  · rw [hob]
    intro k k' u u' hu hu' hne g hg hg'
    simp only [lk] at hu hu'
    by_cases e : st.ctr = k
    · rw [if_neg (by omega)] at hu'
      simp only [if_pos e.symm] at hg
      try simp only at hg'
      rw [if_neg (by omega)] at hg'
      exact hsep k' u' hu' g hg' hg
    · rw [if_neg e] at hu
      try simp only at hg
      rw [if_neg (by omega)] at hg
      by_cases e' : st.ctr = k'
      · simp only [if_pos e'.symm] at hg'
        exact hsep k u hu g hg hg'
      · rw [if_neg e'] at hu'
        try simp only at hg'
        rw [if_neg (by omega)] at hg'
        exact h.sep k k' u u' (hobs k u hu) (hobs k' u' hu') hne g hg hg'
  · rw [hob, hct]
    intro k u hu
    simp only [lk] at hu
    by_cases e : st.ctr = k
    · omega
    · rw [if_neg e] at hu
      have := hlt k u hu
      omega
end Go.Proofs.YthepmpfkkhckpaaGreatDoor.Am
