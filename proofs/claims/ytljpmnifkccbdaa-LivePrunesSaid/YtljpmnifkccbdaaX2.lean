import Derived.Test.YtljpmnifkccbdaaX1
set_option linter.unusedVariables false
set_option linter.unusedSimpArgs false
namespace Go.Proofs.Ytljpmnifkccbdaa.Am
open Go Go.RowKit
variable {P : Program} {W0 : Bas} {S0 : Nat → Prop} {E : En}

def obOf : Kd → Option Ob
  | .mk o => some o
  | .app _ o => some o
  | _ => none
def usr : Kd → Option Nat
  | .app m _ => some m
  | .sto m _ => some m
  | _ => none
/-- The slots: what the operations ahead put; else what stood there. -/
def SrcX (all : List Oper) (st0 : St) (X : Nat → AV) (i : Nat) (st : St) : Prop :=
  (∀ j t, j < i → dstOf all j = some t → lk t st.slots = some (X j)) ∧ ∀ t, (∀ j, j < i → dstOf all j ≠ some t) → lk t st.slots = lk t st0.slots
def ObX (st0 : St) (K0 : Nat) (KD : Nat → Kd) (i : Nat) (used : List Nat) (obs : Obs) : Prop :=
  (∀ k, k < K0 → lk k obs = lk k st0.obs) ∧ (∀ m, m < i → memN (K0 + m) used = false → lk (K0 + m) obs = obOf (KD m)) ∧ (∀ m, memN (K0 + m) used = true ↔ ∃ j, j < i ∧ usr (KD j) = some m) ∧
    (∀ k o, lk k obs = some o → k < K0 ∨ ∃ m, m < i ∧ k = K0 + m ∧ (memN k used = false ∨ ∃ j, j < i ∧ KD j = .sto m o)) ∧ ∀ m, memN (K0 + m) used = true → m < i
inductive StepX (P : Program) (E : En) (all : List Oper) (st0 : St) (K0 : Nat) (X : Nat → AV) (KD : Nat → Kd) (i : Nat) (o : Oper) (sti : St) : Prop
  | free (hk : KD i = .plain) (hx : freeV (X i) = true) (hg : ∀ obs, Good P (ev sti) obs o.op (X i))
  | move (hk : KD i = .plain) (x : Operand) (hm : mvOf o = some x) (hx : ev sti x = some (X i))
  | alloc (t : Nat) (ti : TI) (hop : o.op = .alloc t) (hkp : isK E.keep o.dst = true) (ht : gam t = some ti) (hk : KD i = .mk (.box t ti.zero false)) (hx : X i = .ptr (K0 + i) 0)
  | lit (t : Nat) (ps : Array (Nat × Operand)) (ti : TI) (e esz bytes : Nat) (hop : o.op = .buildSlice t 0 ps) (hps : ps.toList = []) (hkp : isK E.keep o.dst = true) (ht : gam t = some ti) (hkd : ti.kind = .sli e esz bytes) (hk : KD i = .mk (.row e esz [] 0 0)) (hx : X i = .own (K0 + i) 0)
  | app (s x : Operand) (args : Array Operand) (ats : Array TypeId) (t : Nat) (ti : TI) (e esz bytes m mv : Nat) (rows src : List (List AV)) (hop : o.op = .call { callee := .builtin .append, args := args, argTypes := ats }) (ha : args.toList = [s, x]) (hat : ats.toList = [t, t]) (hkp : isK E.keep o.dst = true) (ht : gam t = some ti)
      (hkd : ti.kind = .sli e esz bytes) (hs : ev sti s = some (.own (K0 + m) 0)) (hy : ev sti x = some (.sl src)) (hmi : m < i) (hom : obOf (KD m) = some (.row e esz rows 0 mv)) (hu : ∀ j, j < i → usr (KD j) ≠ some m) (hah : Ahead all m o) (hl : ∀ r ∈ src, r.length = esz) (hb : (sy .len rows + sy .len src) * (bytes : Int) ≤ 140737488355328)
      (hk : KD i = .app m (.row e esz (rows ++ src) 0 0)) (hx : X i = .own (K0 + i) 0)
  | sto (t : Nat) (x v : Operand) (ti : TI) (ty m : Nat) (cs cs' ds : List AV) (u : AV) (hop : o.op = .store t x v) (hd : o.dst = none) (ht : gam t = some ti) (hx1 : ev sti x = some (.ptr (K0 + m) 0)) (hv : ev sti v = some u) (hc : cellsOf u = some ds) (hl : ds.length = ti.size) (hs : setCells 0 ds cs = some cs') (hmi : m < i)
      (hom : obOf (KD m) = some (.box ty cs false)) (hu : ∀ j, j < i → usr (KD j) ≠ some m) (hah : Ahead all m o) (hk : KD i = .sto m (.box ty cs' false)) (hx : X i = .tup [])
def StepX' (P : Program) (E : En) (all : List Oper) (st0 : St) (K0 : Nat) (X : Nat → AV) (KD : Nat → Kd) (i : Nat) (o : Oper) : Prop :=
  okD E.n o.dst = true ∧ o.guard = none ∧ ∃ sti, SrcX all st0 X i sti ∧ StepX P E all st0 K0 X KD i o sti
theorem SrcX.congr {all : List Oper} {st0 st : St} {X X' : Nat → AV} {i : Nat} (h : SrcX all st0 X i st) (hx : ∀ j, j < i → X' j = X j) : SrcX all st0 X' i st :=
  ⟨fun j t hj ht => by rw [hx j hj]; exact h.1 j t hj ht, h.2⟩
theorem SrcX.put {all : List Oper} {st0 st : St} {X : Nat → AV} {i : Nat} {d : Option Nat} (h : SrcX all st0 X i st) (hd : dstOf all i = d) (hdis : ∀ j t, j < i → dstOf all j = some t → d ≠ some t) (obs : Obs) (c p : Nat) : SrcX all st0 X (i + 1) (St.put { slots := st.slots, obs := obs, ctr := c, par := p } d (X i)) := by
  have get : ∀ t, d ≠ some t → lk t (St.put { slots := st.slots, obs := obs, ctr := c, par := p } d (X i)).slots = lk t st.slots := fun t hne => by
    cases d with
    | none => rfl
    | some d =>
      simp only [St.put, lk]
      rw [if_neg (fun e => hne (by rw [e]))]
  refine ⟨fun j t hj ht => ?_, fun t ht => ?_⟩
  · by_cases e : j = i
    · subst e
      rw [hd] at ht
      subst ht
      simp [St.put, lk]
    · rw [get t (hdis j t (by omega) ht)]
      exact h.1 j t (by omega) ht
  · have hne : d ≠ some t := by have := ht i (Nat.lt_succ_self i); rwa [hd] at this
    rw [get t hne]
    exact h.2 t fun j hj => ht j (by omega)
theorem memN_cons (k x : Nat) (l : List Nat) : memN k (x :: l) = if x = k then true else memN k l := rfl
theorem StepX.congr {all : List Oper} {st0 sti : St} {K0 : Nat} {X X' : Nat → AV} {KD KD' : Nat → Kd} {i : Nat} {o : Oper} (h : StepX P E all st0 K0 X KD i o sti) (hx : X' i = X i) (hk : ∀ j, j ≤ i → KD' j = KD j) : StepX P E all st0 K0 X' KD' i o sti := by
  have hi := hk i (Nat.le_refl _)
  cases h with
  | free a b c => exact .free (by rw [hi]; exact a) (by rw [hx]; exact b) (by rw [hx]; exact c)
  | move a x b c => exact .move (by rw [hi]; exact a) x b (by rw [hx]; exact c)
  | alloc t ti a b c d e => exact .alloc t ti a b c (by rw [hi]; exact d) (by rw [hx]; exact e)
  | lit t ps ti e esz bytes a b c d f g k => exact .lit t ps ti e esz bytes a b c d f (by rw [hi]; exact g) (by rw [hx]; exact k)
  | app s x args ats t ti e esz bytes m mv rows src a b c d f g k l hmi hom hu hah hl hb hkk hxx => exact .app s x args ats t ti e esz bytes m mv rows src a b c d f g k l hmi (by rw [hk m (by omega)]; exact hom) (fun j hj => by rw [hk j (by omega)]; exact hu j hj) hah hl hb (by rw [hi]; exact hkk) (by rw [hx]; exact hxx)
  | sto t x v ti ty m cs cs' ds u a b c d f g k l hmi hom hu hah hkk hxx => exact .sto t x v ti ty m cs cs' ds u a b c d f g k l hmi (by rw [hk m (by omega)]; exact hom) (fun j hj => by rw [hk j (by omega)]; exact hu j hj) hah (by rw [hi]; exact hkk) (by rw [hx]; exact hxx)
def upd {α : Type} (f : Nat → α) (i : Nat) (x : α) (j : Nat) : α := if j = i then x else f j
theorem upd_same {α : Type} (f : Nat → α) (i : Nat) (x : α) : upd f i x i = x := by simp [upd]
theorem upd_ne {α : Type} (f : Nat → α) (i : Nat) (x : α) {j : Nat} (h : j ≠ i) : upd f i x j = f j := by simp [upd, h]
theorem ObX.none {st0 : St} {K0 : Nat} {KD : Nat → Kd} {i : Nat} {used : List Nat} {obs : Obs} (h : ObX st0 K0 KD i used obs) : lk (K0 + i) obs = none := by
  cases hl : lk (K0 + i) obs with
  | none => rfl
  | some o =>
    rcases h.2.2.2.1 _ _ hl with h1 | ⟨m, hm, he, _⟩ <;> omega
theorem ObX.plain {st0 : St} {K0 : Nat} {KD : Nat → Kd} {i : Nat} {used : List Nat} {obs : Obs} (h : ObX st0 K0 KD i used obs) : ObX st0 K0 (upd KD i .plain) (i + 1) used obs := by
  have hn := h.none
  obtain ⟨h1, h2, h3, h4, h5⟩ := h
  refine ⟨h1, fun m hm hu => ?_, fun m => ?_, fun k o hk => ?_, fun m hm => Nat.lt_succ_of_lt (h5 m hm)⟩
  · by_cases e : m = i
    · subst e; rw [upd_same, hn]; rfl
    · rw [upd_ne _ _ _ e]; exact h2 m (by omega) hu
  · rw [h3]
    constructor
    · rintro ⟨j, hj, he⟩; exact ⟨j, by omega, by rw [upd_ne _ _ _ (by omega)]; exact he⟩
    · rintro ⟨j, hj, he⟩
      by_cases e : j = i
      · subst e; rw [upd_same] at he; simp [usr] at he
      · rw [upd_ne _ _ _ e] at he; exact ⟨j, by omega, he⟩
  · rcases h4 k o hk with h | ⟨m, hm, he, h⟩
    · exact .inl h
    · refine .inr ⟨m, by omega, he, ?_⟩
      rcases h with h | ⟨j, hj, h⟩
      · exact .inl h
      · exact .inr ⟨j, by omega, by rw [upd_ne _ _ _ (by omega)]; exact h⟩
theorem ObX.mk {st0 : St} {K0 : Nat} {KD : Nat → Kd} {i : Nat} {used : List Nat} {obs : Obs} (h : ObX st0 K0 KD i used obs) (o : Ob) : ObX st0 K0 (upd KD i (.mk o)) (i + 1) used ((K0 + i, o) :: obs) := by
  obtain ⟨h1, h2, h3, h4, h5⟩ := h
  have hnu : memN (K0 + i) used = false := by
    cases hm : memN (K0 + i) used with
    | false => rfl
    | true => have := h5 i hm; omega
  refine ⟨fun k hk => ?_, fun m hm hu => ?_, fun m => ?_, fun k o' hk => ?_, fun m hm => Nat.lt_succ_of_lt (h5 m hm)⟩
  · simp only [lk]; rw [if_neg (by omega)]; exact h1 k hk
  · simp only [lk]
    by_cases e : m = i
    · subst e; rw [upd_same, if_pos rfl]; rfl
    · rw [upd_ne _ _ _ e, if_neg (by omega)]; exact h2 m (by omega) hu
  · rw [h3]
    constructor
    · rintro ⟨j, hj, he⟩; exact ⟨j, by omega, by rw [upd_ne _ _ _ (by omega)]; exact he⟩
    · rintro ⟨j, hj, he⟩
      by_cases e : j = i
      · subst e; rw [upd_same] at he; simp [usr] at he
      · rw [upd_ne _ _ _ e] at he; exact ⟨j, by omega, he⟩
  · simp only [lk] at hk
    split at hk
    · rename_i e
      exact .inr ⟨i, Nat.lt_succ_self i, e.symm, .inl (by rw [← e]; exact hnu)⟩
    · rcases h4 k o' hk with h | ⟨m, hm, he, h⟩
      · exact .inl h
      · refine .inr ⟨m, by omega, he, ?_⟩
        rcases h with h | ⟨j, hj, h⟩
        · exact .inl h
        · exact .inr ⟨j, by omega, by rw [upd_ne _ _ _ (by omega)]; exact h⟩
theorem ObX.app {st0 : St} {K0 : Nat} {KD : Nat → Kd} {i m : Nat} {used : List Nat} {obs : Obs} (h : ObX st0 K0 KD i used obs) (hm : m < i) (o : Ob) : ObX st0 K0 (upd KD i (.app m o)) (i + 1) ((K0 + m) :: used) ((K0 + i, o) :: del (K0 + m) obs) := by
  obtain ⟨h1, h2, h3, h4, h5⟩ := h
  have hnu : memN (K0 + i) used = false := by
    cases hm : memN (K0 + i) used with
    | false => rfl
    | true => have := h5 i hm; omega
  refine ⟨fun k hk => ?_, fun m' hm' hu => ?_, fun m' => ?_, fun k o' hk => ?_, fun m' hm' => ?_⟩
  · simp only [lk]; rw [if_neg (by omega), lk_del, if_neg (by omega)]; exact h1 k hk
  · simp only [memN_cons] at hu
    split at hu
    · simp at hu
    rename_i hne
    simp only [lk]
    by_cases e : m' = i
    · subst e; rw [upd_same, if_pos rfl]; rfl
    · rw [upd_ne _ _ _ e, if_neg (by omega), lk_del, if_neg (by omega)]; exact h2 m' (by omega) hu
  · rw [memN_cons]
    constructor
    · intro hh
      split at hh
      · exact ⟨i, by omega, by rw [upd_same]; simp [usr]; omega⟩
      · obtain ⟨j, hj, he⟩ := (h3 m').1 hh; exact ⟨j, by omega, by rw [upd_ne _ _ _ (by omega)]; exact he⟩
    · rintro ⟨j, hj, he⟩
      by_cases e : j = i
      · subst e; rw [upd_same] at he; simp [usr] at he; rw [if_pos (by omega)]
      · rw [upd_ne _ _ _ e] at he
        split
        · rfl
        · exact (h3 m').2 ⟨j, by omega, he⟩
  · simp only [lk] at hk
    split at hk
    · rename_i e
      exact .inr ⟨i, Nat.lt_succ_self i, e.symm, .inl (by rw [memN_cons, if_neg (by omega), ← e]; exact hnu)⟩
    · rw [lk_del] at hk
      split at hk
      · simp at hk
      · rename_i hne
        rcases h4 k o' hk with h | ⟨m', hm', he, h⟩
        · exact .inl h
        · refine .inr ⟨m', by omega, he, ?_⟩
          rcases h with h | ⟨j, hj, h⟩
          · exact .inl (by rw [memN_cons, if_neg (by omega)]; exact h)
          · exact .inr ⟨j, by omega, by rw [upd_ne _ _ _ (by omega)]; exact h⟩
  · rw [memN_cons] at hm'
    split at hm'
    · omega
    · exact Nat.lt_succ_of_lt (h5 m' hm')
theorem ObX.sto {st0 : St} {K0 : Nat} {KD : Nat → Kd} {i m : Nat} {used : List Nat} {obs : Obs} (h : ObX st0 K0 KD i used obs) (hm : m < i) (o : Ob) : ObX st0 K0 (upd KD i (.sto m o)) (i + 1) ((K0 + m) :: used) ((K0 + m, o) :: del (K0 + m) obs) := by
  have hn := h.none
  obtain ⟨h1, h2, h3, h4, h5⟩ := h
  refine ⟨fun k hk => ?_, fun m' hm' hu => ?_, fun m' => ?_, fun k o' hk => ?_, fun m' hm' => ?_⟩
  · simp only [lk]; rw [if_neg (by omega), lk_del, if_neg (by omega)]; exact h1 k hk
  · simp only [memN_cons] at hu
    split at hu
    · simp at hu
    rename_i hne
    simp only [lk]
    by_cases e : m' = i
    · subst e; rw [upd_same, if_neg (by omega), lk_del, if_neg (by omega), hn]; rfl
    · rw [upd_ne _ _ _ e, if_neg (by omega), lk_del, if_neg (by omega)]; exact h2 m' (by omega) hu
  · rw [memN_cons]
    constructor
    · intro hh
      split at hh
      · exact ⟨i, by omega, by rw [upd_same]; simp [usr]; omega⟩
      · obtain ⟨j, hj, he⟩ := (h3 m').1 hh; exact ⟨j, by omega, by rw [upd_ne _ _ _ (by omega)]; exact he⟩
    · rintro ⟨j, hj, he⟩
      by_cases e : j = i
      · subst e; rw [upd_same] at he; simp [usr] at he; rw [if_pos (by omega)]
      · rw [upd_ne _ _ _ e] at he
        split
        · rfl
        · exact (h3 m').2 ⟨j, by omega, he⟩
  · simp only [lk] at hk
    split at hk
    · rename_i e
      injection hk with hk
      exact .inr ⟨m, by omega, e.symm, .inr ⟨i, Nat.lt_succ_self i, by rw [upd_same, hk]⟩⟩
    · rw [lk_del] at hk
      split at hk
      · simp at hk
      · rename_i hne
        rcases h4 k o' hk with h | ⟨m', hm', he, h⟩
        · exact .inl h
        · refine .inr ⟨m', by omega, he, ?_⟩
          rcases h with h | ⟨j, hj, h⟩
          · exact .inl (by rw [memN_cons, if_neg (by omega)]; exact h)
          · exact .inr ⟨j, by omega, by rw [upd_ne _ _ _ (by omega)]; exact h⟩
  · rw [memN_cons] at hm'
    split at hm'
    · omega
    · exact Nat.lt_succ_of_lt (h5 m' hm')
end Go.Proofs.Ytljpmnifkccbdaa.Am
