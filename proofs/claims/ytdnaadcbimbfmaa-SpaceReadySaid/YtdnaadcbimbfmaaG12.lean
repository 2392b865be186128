import Derived.Maps.RangeRun
import Derived.Test.YtdnaadcbimbfmaaG7
import Derived.Test.YtdnaadcbimbfmaaG11
set_option linter.unusedSimpArgs false
set_option linter.unusedVariables false
namespace Go.Proofs.Ytdnaadcbimbfmaa
open Go Go.RowKit Am

theorem q_asg' {P : Program} {a : Act} {w : World} {o : Oper} {x : Nat} (h : o.op = .assign (.tmp x)) : (execOp a.eval o).run P w = .ok (.value (a.eval (.tmp x))) w := by simp [execOp, h]
def T2r (d1 d2 d3 : Nat) (v3 : Value) (W : World) (S : Nat → Prop) (r1 r2 : AV) (k : Nat) (f : Nat → Value) (w : World) : Prop :=
  match k with
  | 0 => w = W ∧ f d3 = v3
  | 1 => ∃ S1, Gr W S w S1 ∧ Rep w S1 r1 (f d1)
  | 2 => ∃ S1, Gr W S w S1 ∧ Rep w S1 r2 (f d2)
  | _ => ∃ S1, Gr W S w S1 ∧ Rep w S1 r2 (f d3)
set_option maxHeartbeats 4000000 in
/-- An open region with two calls, the second of what the first hands back; and the result is put down. -/
theorem calls2 {P : Program} {id : Nat} {ops : List Oper} {Q : Exit → Act → World → Prop} {a0 : Act} {w : World} (hm : P.follows .mixedOrders = true) (n : Nat) (hz : a0.tmps.size = n)
    (shape : List (Option Nat × Op)) (hops : ops.map (fun o => (o.dst, o.op)) = shape) (need : Nat → List Nat) (hdep : depsC need ops = true) (hdst : dstsC n shape = true) (val : Nat → Option Value)
    (i1 i2 i3 d1 d2 d3 f1 f2 b1 u1 u2 : Nat) (ty1 ty2 : Array TypeId) (S : Nat → Prop) (hS : ∀ g, S g → g < w.heap.size)
    (h1 : shape[i1]? = some (some d1, .call { callee := .value (.func f1), args := #[.tmp b1, .tmp u1], argTypes := ty1 })) (h2 : shape[i2]? = some (some d2, .call { callee := .value (.func f2), args := #[.tmp d1, .tmp u2], argTypes := ty2 })) (h3 : shape[i3]? = some (some d3, .assign (.tmp d2)))
    (hcov : ∀ i, i < shape.length → (val i).isSome = true ∨ i ∈ [i1, i2, i3]) (hcv : ∀ m ∈ [i1, i2, i3], val m = none) (hnd : [i1, i2, i3].Nodup) (hn2 : i1 ∈ need i2) (hn3 : i2 ∈ need i3)
    (vb x1 x2 : Value) (kb : ∃ j op, j ∈ need i1 ∧ val j = some vb ∧ shape[j]? = some (some b1, op)) (k1 : ∃ j op, j ∈ need i1 ∧ val j = some x1 ∧ shape[j]? = some (some u1, op)) (k2 : ∃ j op, j ∈ need i2 ∧ val j = some x2 ∧ shape[j]? = some (some u2, op))
    (e1 : ∀ cs w, (callFunc f1 cs).run P w = .ok (.enter f1 cs) w) (e2 : ∀ cs w, (callFunc f2 cs).run P w = .ok (.enter f2 cs) w) (r1 r2 : AV)
    (hc1 : Calls P f1 #[vb, x1] w.drew fun e w' => ∃ y S1, e = .returned y ∧ Gr w.drew S w' S1 ∧ Rep w' S1 r1 y)
    (hc2 : ∀ w1 S1 y, Gr w.drew S w1 S1 → Rep w1 S1 r1 y → Calls P f2 #[y, x2] w1 fun e w' => ∃ y' S2, e = .returned y' ∧ Gr w1 S1 w' S2 ∧ Rep w' S2 r2 y')
    (hq : ∀ (i : Nat) (d : Option Nat) (op : Op) (v : Value), shape[i]? = some (d, op) → val i = some v → ∀ (a : Act) (w' : World), Below w.heap.size w w' → (∀ j ∈ need i, ∀ (vj : Value) (dj : Nat) (op' : Op), val j = some vj → shape[j]? = some (some dj, op') → a.eval (.tmp dj) = vj) → (∀ (t : Nat), (∀ (j : Nat) (op : Op), shape[j]? ≠ some (some t, op)) → a.eval (.tmp t) = a0.eval (.tmp t)) → (i ∈ need i1 → a.eval (.tmp d3) = a0.eval (.tmp d3)) → ∀ (o : Oper), o.op = op → (execOp a.eval o).run P w' = .ok (.value v) w')
    (hQ : ∀ (a' : Act) (w' : World) (S2 : Nat → Prop), a'.tmps.size = n → a'.defers = a0.defers → Gr w S w' S2 → Rep w' S2 r2 (a'.eval (.tmp d3)) → (∀ (t : Nat), (∀ (j : Nat) (op : Op), shape[j]? ≠ some (some t, op)) → a'.eval (.tmp t) = a0.eval (.tmp t)) → Q .normal a' w') : (Code.region id ops.toArray true).wp P Q a0 w := by
  have hg0 : Gr w S w.drew S := gr_below hS ((Below.refl _ _).drew)
  refine region_chain hm n hz shape hops need hdep hdst val [i1, i2, i3] (T2r d1 d2 d3 (a0.eval (.tmp d3)) w.drew S r1 r2) (fun k f f' w1 hT hk => ?_) (fun m hm => ?_) hcov hcv hnd (fun p m m' q1 q2 => ?_) ⟨rfl, rfl⟩ ?_ ?_ (fun a' w' hs hd hT hv hoth => ?_)
  · match k, hT with
    | 0, hT => exact ⟨hT.1, by rw [hk i3 (by simp) d3 _ h3]; exact hT.2⟩
    | 1, hT => obtain ⟨S1, g1, g2⟩ := hT; exact ⟨S1, g1, by rw [hk i1 (by simp) d1 _ h1]; exact g2⟩
    | 2, hT => obtain ⟨S1, g1, g2⟩ := hT; exact ⟨S1, g1, by rw [hk i2 (by simp) d2 _ h2]; exact g2⟩
    | _ + 3, hT => obtain ⟨S1, g1, g2⟩ := hT; exact ⟨S1, g1, by rw [hk i3 (by simp) d3 _ h3]; exact g2⟩
  · simp only [List.mem_cons, List.not_mem_nil, or_false] at hm
    rcases hm with rfl | rfl | rfl
    · exact (List.getElem?_eq_some_iff.1 h1).1
    · exact (List.getElem?_eq_some_iff.1 h2).1
    · exact (List.getElem?_eq_some_iff.1 h3).1
  · match p with
    | 0 => injection q1 with q1; injection q2 with q2; subst q1; subst q2; exact hn2
    | 1 => injection q1 with q1; injection q2 with q2; subst q1; subst q2; exact hn3
    | 2 => simp at q2
    | _ + 3 => simp at q1
  · intro i d op v hsh hv k a w' hT hlim hn _ hk o ho
    refine hq i d op v hsh hv a w' ?_ hn hk (fun hi => ?_) o ho
    rotate_left
    · have hk0 := hlim 0 i1 rfl (List.mem_append.2 (.inl hi))
      obtain rfl : k = 0 := by omega
      exact hT.2
    match k, hT with
    | 0, hT => rw [show w' = w.drew from hT.1]; exact hg0.below
    | 1, hT => obtain ⟨S1, g1, _⟩ := hT; exact (hg0.trans g1).below
    | 2, hT => obtain ⟨S1, g1, _⟩ := hT; exact (hg0.trans g1).below
    | _ + 3, hT => obtain ⟨S1, g1, _⟩ := hT; exact (hg0.trans g1).below
  · intro k m d op hkm hsh a w' hza hT hn hk o hd ho
    match k with
    | 0 =>
      injection hkm with hkm; subst hkm; rw [h1] at hsh; injection hsh with hsh; obtain ⟨rfl, rfl⟩ := Prod.mk.inj hsh
      have hT : w' = w.drew := hT.1
      subst hT
      obtain ⟨jb, opb, c1, c2, c3⟩ := kb
      obtain ⟨ju, opu, c4, c5, c6⟩ := k1
      have hen := run_call (P := P) (a := a) (w := w.drew) (g := f1) (caps := []) ho rfl e1
      simp only [List.map_cons, List.map_nil, List.append_nil, hn jb c1 _ _ _ c2 c3, hn ju c4 _ _ _ c5 c6] at hen
      refine wp_enter hen (hc1.mono ?_)
      rintro r w2 ⟨y, S1, rfl, g1, g2⟩
      refine ⟨_, rfl, y, by rw [hd], S1, g1, ?_⟩
      rw [hd, tf, put_eq (by rw [hza]; exact (dstsC_ok hdst h1).1)]
      exact g2
    | 1 =>
      injection hkm with hkm; subst hkm; rw [h2] at hsh; injection hsh with hsh; obtain ⟨rfl, rfl⟩ := Prod.mk.inj hsh
      obtain ⟨S1, g1, g2⟩ := hT
      obtain ⟨ju, opu, c4, c5, c6⟩ := k2
      have hen := run_call (P := P) (a := a) (w := w') (g := f2) (caps := []) ho rfl e2
      simp only [List.map_cons, List.map_nil, List.append_nil, hn ju c4 _ _ _ c5 c6] at hen
      refine wp_enter hen ((hc2 w' S1 _ g1 g2).mono ?_)
      rintro r w2 ⟨y, S2, rfl, g3, g4⟩
      refine ⟨_, rfl, y, by rw [hd], S2, g1.trans g3, ?_⟩
      rw [hd, tf, put_eq (by rw [hza]; exact (dstsC_ok hdst h2).1)]
      exact g4
    | 2 =>
      injection hkm with hkm; subst hkm; rw [h3] at hsh; injection hsh with hsh; obtain ⟨rfl, rfl⟩ := Prod.mk.inj hsh
      obtain ⟨S1, g1, g2⟩ := hT
      refine exec_val (q_asg' ho) ⟨_, by rw [hd], S1, g1, ?_⟩
      rw [hd, tf, put_eq (by rw [hza]; exact (dstsC_ok hdst h3).1)]
      exact g2
    | _ + 3 => simp at hkm
  · obtain ⟨S1, g1, g2⟩ := hT
    exact hQ a' w' S1 hs hd (hg0.trans g1) g2 hoth
end Go.Proofs.Ytdnaadcbimbfmaa
set_option linter.unusedSimpArgs false
set_option linter.unusedVariables false
namespace Go.Proofs.Ytdnaadcbimbfmaa
open Go Go.RowKit Am

def uN (x : Int) : Nat := (x % 18446744073709551616).toNat
theorem uN_lt (x : Int) : uN x < 2 ^ 64 := by unfold uN; omega
theorem wrpN {F : Sy} (hF : F = sy) (x : Int) : F .wrp .u64 x = ((uN x : Nat) : Int) := by
  rw [hF]
  show IntKind.u64.wrap x = _
  rw [IntKind.wrap_u64]; unfold uN; omega
def numL (xs : List Int) : List UInt8 := (xs.map fun x => vlqL (uN x)).flatten
theorem numL_len (xs : List Int) : (numL xs).length ≤ 10 * xs.length := by
  induction xs with
  | nil => simp [numL]
  | cons x xs ih =>
    have h1 := vlq_len (uN x) (uN_lt x)
    simp only [numL, List.map_cons, List.flatten_cons, List.length_append, List.length_cons] at ih ⊢
    omega
theorem numL_snoc (xs : List Int) (x : Int) : numL (xs ++ [x]) = numL xs ++ vlqL (uN x) := by simp [numL]
def hdrI (e : Ev) : List Int := [e.dot.R, e.dot.N, e.time, e.deps 0, e.deps 1, e.deps 2, e.deps 3, e.deps 4, e.deps 5, e.deps 6, e.deps 7, e.deps 8, e.deps 9, e.deps 10, e.deps 11, e.deps 12, e.deps 13, e.deps 14, e.deps 15]
theorem le_nilS (t : Nat) {s : St} (ht : lk t s.slots = some (.v (.slice none 0 0))) : Le s { slots := (t, .sl []) :: s.slots, obs := s.obs, ctr := s.ctr, par := s.par } := by
  rintro W0 S0 n a w ⟨S, β, hr⟩
  refine ⟨S, β, hr.gr, hr.par, hr.defers, hr.size, fun t' x hx => ?_, hr.objs, hr.up, hr.sep, hr.ctr, hr.parc, hr.fix⟩
  simp only [lk] at hx
  split at hx
  · rename_i e1
    injection hx with hx
    subst hx; subst e1
    obtain ⟨h1, h2⟩ := hr.slots _ _ ht
    refine ⟨h1, ?_⟩
    have := srep_v h2
    rw [this]
    exact srep_of_rep (.c (.nil _ _ (fun _ => rfl)))
  · exact hr.slots t' x hx
theorem own_frz {w w' : World} {S : Nat → Prop} {e sz : Nat} {rows : List (List AV)} {x : Ending} (h : ∃ y S', x = .returned y ∧ Gr w S w' S' ∧ ResR w w' S S' (.own e sz rows []) y) : ∃ y S', x = .returned y ∧ Gr w S w' S' ∧ Rep w' S' (.sl rows) y := by
  obtain ⟨y, S', rfl, hg, z, ys, zs, rfl, hown, hrep, hl, _, hys, _⟩ := h
  have := hys.unnil
  subst this
  refine ⟨z, fun g => S' g ∨ z.ownBlock = some g, rfl, ⟨hg.below, fun g h => .inl (hg.sub g h), fun g h => h.elim (hg.new g) fun e => .inr (hown.lt g e).1, fun g h => h.elim (hg.lt g) fun e => (hown.lt g e).2⟩, .c (repc_of_own hown (hrep.mono (fun _ _ => rfl) fun g hg => .inl hg) hl fun g hg => .inr hg)⟩
theorem putW {w : World} {S : Nat → Prop} {v : Value} {l : List UInt8} (hl : l.length ≤ 50000000) (n : Nat) (hn : n < 2 ^ 64) (hS : ∀ g, S g → g < w.heap.size) (hv : Rep w S (.sl (byR l)) v) : Calls Try.prog 18 #[v, .int .u64 (n : Int)] w fun e w' => ∃ y S', e = .returned y ∧ Gr w S w' S' ∧ Rep w' S' (.sl (byR (l ++ vlqL n))) y :=
  ((put_ok l hl n hn).2 w S _ hS (gd_all _ _) (Reps.cons hv (Reps.cons (.c (.v _ rfl)) (Reps.nil _ _)))).mono fun _ _ h => own_frz h
theorem putTextW {w : World} {S : Nat → Prop} {v : Value} {l : List UInt8} (hl : l.length ≤ 40000000) (s : ByteArray) (hs : s.size ≤ 10000000) (hS : ∀ g, S g → g < w.heap.size) (hv : Rep w S (.sl (byR l)) v) : Calls Try.prog 47 #[v, .string s] w fun e w' => ∃ y S', e = .returned y ∧ Gr w S w' S' ∧ Rep w' S' (.sl (byR (l ++ txtL s))) y :=
  ((putText_ok l hl s hs).2 w S _ hS (gd_all _ _) (Reps.cons hv (Reps.cons (.c (.v _ rfl)) (Reps.nil _ _)))).mono fun _ _ h => own_frz h
def intR (xs : List Int) : List (List AV) := xs.map fun x => [aI x]
/-- What an event's bytes are. -/
def encL (e : Ev) : List UInt8 :=
  (((((numL (hdrI e) ++ vlqL (uN e.op.kind)) ++ txtL e.op.key) ++ (if (usesU e.op.kind).f = true then txtL e.op.fld else [])) ++ (if (usesU e.op.kind).v = true then txtL e.op.val else [])) ++ (if (usesU e.op.kind).n = true then vlqL (zz e.op.num) else [])) ++ (if (usesU e.op.kind).r = true then vlqL (uN e.op.ref.R) ++ vlqL (uN e.op.ref.N) else [])
end Go.Proofs.Ytdnaadcbimbfmaa
set_option linter.unusedSimpArgs false
set_option linter.unusedVariables false
namespace Go.Proofs.Ytdnaadcbimbfmaa
open Go Go.RowKit Am

theorem q_sliceA {a : Act} {w : World} {o : Oper} {t : Nat} {ad : Addr} (h : o.op = .slice 29 (.tmp t) none none none) (e : a.eval (.tmp t) = .pointer (some ad)) : (execOp a.eval o).run Try.prog w = .ok (.value (.slice (some ad) 16 16)) w := by
  have h1 : Try.prog.underlying 29 = some (.array (Try.prog.arrayLen 29) (Try.prog.elem 29)) := by kernel_rfl
  have h2 : Try.prog.arrayLen 29 = 16 := by kernel_rfl
  have h3 : (sizeOf (Try.prog.elem 29)).run Try.prog w = .ok 1 w := by kernel_rfl
  have := run_sliceAt_array_all (P := Try.prog) w 29 ad h1
  rw [h3, h2] at this
  simp [slicedAt] at this
  simp [execOp, h, e, this, add00]
theorem ev_dep (e : Ev) (j : Nat) (v : Value) (h : (vvs e.deps).toList[j]? = some v) : e.vs.toList[j + 3]? = some v := by
  have hj : j < 16 := (List.getElem?_eq_some_iff.1 h).1
  have : e.vs.toList[j + 3]? = ((vvs e.deps).toList ++ e.op.vs.toList)[j]? := rfl
  rw [this, List.getElem?_append_left (show j < (vvs e.deps).toList.length from hj)]
  exact h
def hdV (e : Ev) : List Value := (hdrI e).map vI
theorem add_blk (a : Addr) (n : Nat) : (a.add n).block = a.block := by unfold Addr.add; split <;> rfl
def hdShape : List (Option Nat × Op) := [(some 13, .fieldAddr 37 (.tmp 1) 0), (some 14, .fieldAddr 33 (.tmp 13) 0), (some 15, .load 3 (.tmp 14)), (some 16, .fieldAddr 37 (.tmp 1) 0), (some 17, .fieldAddr 33 (.tmp 16) 1), (some 18, .load 3 (.tmp 17)), (some 19, .fieldAddr 37 (.tmp 1) 1), (some 20, .load 3 (.tmp 19)), (some 21, .buildSlice 54 3 #[(0, .tmp 15), (1, .tmp 18), (2, .tmp 20)]), (some 22, .fieldAddr 37 (.tmp 1) 2), (some 23, .slice 29 (.tmp 22) none none none), (some 24, .call { callee := .builtin .append, args := #[.tmp 21, .tmp 23], argTypes := #[54, 54] }), (some 25, .call { callee := .builtin .len, args := #[.tmp 24], argTypes := #[54] }), (some 26, .move (.const (.int .i64 0)))]
def hdNeed : Nat → List Nat
  | 1 => [0] | 2 => [1] | 4 => [3] | 5 => [4] | 7 => [6] | 8 => [2, 5, 7] | 10 => [9] | 11 => [8, 10] | 12 => [11] | _ => []
def hdVal (ae : Addr) (e : Ev) (q : Nat) : Option Value :=
  match q with
  | 0 => some (.pointer (some (ae.add 0))) | 1 => some (.pointer (some ((ae.add 0).add 0))) | 2 => some (vI e.dot.R) | 3 => some (.pointer (some (ae.add 0))) | 4 => some (.pointer (some ((ae.add 0).add 1))) | 5 => some (vI e.dot.N)
  | 6 => some (.pointer (some (ae.add 2))) | 7 => some (vI e.time) | 9 => some (.pointer (some (ae.add 3))) | 10 => some (.slice (some (ae.add 3)) 16 16) | 12 => some (vI 19) | 13 => some (vI 0) | _ => none
def hdT (e : Ev) (W : World) (k : Nat) (f : Nat → Value) (w : World) : Prop :=
  match k with
  | 0 => w = W
  | 1 => w = W.alloc (.cells #[vI e.dot.R, vI e.dot.N, vI e.time] 3) ∧ f 21 = .slice (some ⟨W.heap.size, 0, none⟩) 3 3
  | _ => Below W.heap.size W w ∧ OwnR w W.heap.size 3 1 (f 24) 19 (hdV e)
theorem hdT_below {e : Ev} {W w : World} {k : Nat} {f : Nat → Value} (h : hdT e W k f w) : Below W.heap.size W w := by
  match k, h with
  | 0, h => rw [show w = W from h]; exact Below.refl _ _
  | 1, h => rw [h.1]; exact (Below.refl _ _).alloc (Nat.le_refl _) _
  | _ + 2, h => exact h.1
theorem hdBuild (x y z : Int) (w : World) : (Instr.buildSlice 54 3 #[(0, vI x), (1, vI y), (2, vI z)]).run Try.prog w = .ok (.slice (some ⟨w.heap.size, 0, none⟩) 3 3) (w.alloc (.cells #[vI x, vI y, vI z] 3)) := by kernel_rfl
theorem infoInt : ∃ i0 : TypeInfo, Try.prog.info? 3 = some i0 ∧ i0.zero = some (.int .i64 0) ∧ i0.size = 1 ∧ i0.bytes = 8 := ⟨Try.t3, by kernel_rfl, by kernel_rfl, by kernel_rfl, by kernel_rfl⟩
set_option maxHeartbeats 4000000 in
set_option maxRecDepth 100000 in
theorem hd_region {id : Nat} {ops : List Oper} {Q : Exit → Act → World → Prop} {a0 : Act} {w : World} (ae : Addr) (e : Ev) (hops : ops.map (fun o => (o.dst, o.op)) = hdShape) (hdep : depsC hdNeed ops = true) (hz : a0.tmps.size = 83)
    (h1 : a0.eval (.tmp 1) = .pointer (some (ae))) (hlt : ae.block < w.heap.size)
    (ce : ∀ j v, e.vs.toList[j]? = some v → w.cell? (ae.add j) = some v)
    (hQ : ∀ a' w', a'.tmps.size = 83 → a'.defers = a0.defers → Below w.heap.size w w' → OwnR w' w.heap.size 3 1 (a'.eval (.tmp 24)) 19 (hdV e) → a'.eval (.tmp 25) = vI 19 → a'.eval (.tmp 26) = vI 0 → (∀ t, (∀ (j : Nat) (op : Op), hdShape[j]? ≠ some (some t, op)) → a'.eval (.tmp t) = a0.eval (.tmp t)) → Q .normal a' w') : (Code.region id ops.toArray true).wp Try.prog Q a0 w := by
  have cw : ∀ {w' : World}, Below w.heap.size w w' → ∀ j v, e.vs.toList[j]? = some v → w'.cell? (ae.add j) = some v := fun hb j v hj => (World.cell?_of_block (hb.block _ (by rw [add_blk]; exact hlt))).trans (ce j v hj)
  refine region_chain mixed 83 hz hdShape hops hdNeed hdep (by decide) (hdVal ae e) [8, 11] (hdT e w.drew) (fun k f f' w1 hT hk => ?_) (by decide) (fun q hq => ?_) (fun m hm => ?_) (by decide) (fun p m m' h1 h2 => ?_) ?_ ?_ ?_ (fun a' w' hs hd hT hv hoth => ?_)
  · match k, hT with
    | 0, hT => exact hT
    | 1, hT => exact ⟨hT.1, by rw [hk 8 (by simp) 21 _ rfl]; exact hT.2⟩
    | _ + 2, hT => exact ⟨hT.1, by rw [hk 11 (by simp) 24 _ rfl]; exact hT.2⟩
  · have hq : q < 14 := hq
    obtain rfl | rfl | rfl | rfl | rfl | rfl | rfl | rfl | rfl | rfl | rfl | rfl | rfl | rfl : q = 0 ∨ q = 1 ∨ q = 2 ∨ q = 3 ∨ q = 4 ∨ q = 5 ∨ q = 6 ∨ q = 7 ∨ q = 8 ∨ q = 9 ∨ q = 10 ∨ q = 11 ∨ q = 12 ∨ q = 13 := by omega
    all_goals first | exact .inl rfl | exact .inr (by simp)
  · simp only [List.mem_cons, List.not_mem_nil, or_false] at hm
    rcases hm with rfl | rfl <;> rfl
  · match p with
    | 0 => injection h1 with h1; injection h2 with h2; subst h1; subst h2; simp [hdNeed]
    | 1 => simp at h2
    | _ + 2 => simp at h1
  · exact rfl
  · intro q dd op uu hsh hv k a w' hT hlim hn hpp hk o ho
    have hq : q < 14 := (List.getElem?_eq_some_iff.1 hsh).1
    have e1 := (hk 1 (notD (by rfl))).trans h1
    have hb : Below w.heap.size w w' := (Below.refl _ _).drew.trans (hdT_below hT)
    obtain rfl | rfl | rfl | rfl | rfl | rfl | rfl | rfl | rfl | rfl | rfl | rfl | rfl | rfl : q = 0 ∨ q = 1 ∨ q = 2 ∨ q = 3 ∨ q = 4 ∨ q = 5 ∨ q = 6 ∨ q = 7 ∨ q = 8 ∨ q = 9 ∨ q = 10 ∨ q = 11 ∨ q = 12 ∨ q = 13 := by omega
    all_goals first | (cases hv; done) | (injection hsh with hsh; obtain ⟨rfl, rfl⟩ := Prod.mk.inj hsh; injection hv with hv; subst hv)
    · exact q_fld (ti := ti37) (off := 0) (sz := 2) rfl rfl ho e1
    · exact q_fld (ti := ti33) (off := 0) (sz := 1) rfl rfl ho (hn 0 (by decide) _ 13 _ rfl rfl)
    · exact q_load1 (ti := ti3) rfl rfl ho (hn 1 (by decide) _ 14 _ rfl rfl) (by rw [Addr.add_add]; exact cw hb 0 _ rfl)
    · exact q_fld (ti := ti37) (off := 0) (sz := 2) rfl rfl ho e1
    · exact q_fld (ti := ti33) (off := 1) (sz := 1) rfl rfl ho (hn 3 (by decide) _ 16 _ rfl rfl)
    · exact q_load1 (ti := ti3) rfl rfl ho (hn 4 (by decide) _ 17 _ rfl rfl) (by rw [Addr.add_add]; exact cw hb 1 _ rfl)
    · exact q_fld (ti := ti37) (off := 2) (sz := 1) rfl rfl ho e1
    · exact q_load1 (ti := ti3) rfl rfl ho (hn 6 (by decide) _ 19 _ rfl rfl) (cw hb 2 _ rfl)
    · exact q_fld (ti := ti37) (off := 3) (sz := 16) rfl rfl ho e1
    · exact q_sliceA ho (hn 9 (by decide) _ 22 _ rfl rfl)
    · have h11 := hpp 11 (by decide) 1 rfl
      match k, hT with
      | 0, _ => omega
      | 1, _ => omega
      | _ + 2, hT =>
        rcases hT.2.2 with ⟨_, h0⟩ | ⟨g, cap, cur, fr, hv24, _⟩
        · cases h0
        · have e24 : a.eval (.tmp 24) = .slice (some ⟨g, 0, none⟩) 19 cap := hv24
          have hu := (gam_ok 54 _ rfl).kind.1
          simp [execOp, ho, resolve, invoke, builtin, e24, Builtin.len_, run_underlying hu]
          rfl
    · simp [execOp, ho]; rfl
  · intro k m dd op hkm hsh a w' hza hT hn hk o hd ho
    match k with
    | 0 =>
      injection hkm with hkm; subst hkm; injection hsh with hsh; obtain ⟨rfl, rfl⟩ := Prod.mk.inj hsh
      have hT : w' = w.drew := hT
      subst hT
      have e15 := hn 2 (by decide) _ 15 _ rfl rfl
      have e18 := hn 5 (by decide) _ 18 _ rfl rfl
      have e20 := hn 7 (by decide) _ 20 _ rfl rfl
      have hb := hdBuild e.dot.R e.dot.N e.time w.drew
      refine exec_val (w' := w.drew.alloc (.cells #[vI e.dot.R, vI e.dot.N, vI e.time] 3)) (v := .slice (some ⟨w.drew.heap.size, 0, none⟩) 3 3) (by simp [execOp, ho, e15, e18, e20, hb]) ⟨_, by rw [hd], rfl, ?_⟩
      rw [hd]
      exact put_eq (by rw [hza]; decide)
    | 1 =>
      injection hkm with hkm; subst hkm; injection hsh with hsh; obtain ⟨rfl, rfl⟩ := Prod.mk.inj hsh
      obtain ⟨hw', h21⟩ := hT
      have e21 : a.eval (.tmp 21) = _ := h21
      have e23 := hn 10 (by decide) _ 23 _ rfl rfl
      have hb : Below w.heap.size w w' := by rw [hw']; exact (Below.refl w.heap.size w).drew.alloc (Nat.le_refl _) _
      obtain ⟨i0, hi0, hz0, hs0, hb0⟩ := infoInt
      have hu := (gam_ok 54 _ rfl).kind.1
      have hown : OwnR w' w.drew.heap.size 3 1 (.slice (some ⟨w.drew.heap.size, 0, none⟩) 3 3) 3 [vI e.dot.R, vI e.dot.N, vI e.time] := by
        rw [hw']
        exact OwnR.of ⟨rfl, .inr ⟨_, 3, _, rfl, Nat.le_refl _, heap_alloc_new w.drew _, Nat.le_refl _, by unfold maxLen; omega, rfl, rfl⟩⟩
      obtain ⟨v', w2, k1, k2, k3, k5⟩ := run_append_at (P := Try.prog) w' 54 o.type 3 i0 (.int .i64 0) 1 8 hu hi0 hz0 hs0 hb0 rfl (by decide) _ 3 _ (ownsRow_up (B' := 0) hown (fun _ _ => Nat.zero_le _)) (ae.add 3) 16 16 ((vvs e.deps).toList) rfl (fun j u hj => by
        rw [Addr.add_add]
        refine cw hb (3 + j) u ?_
        rw [Nat.add_comm]
        exact ev_dep e j u hj) (List.all_eq_true.1 (show ((vvs e.deps).toList).all (fun v => v.oneCell') = true from rfl)) (by unfold maxLen; omega) (by omega)
      have hup : ∀ g, v'.ownBlock = some g → w.drew.heap.size ≤ g := fun g hg => by
        rcases k5 with k5 | k5
        · rw [k5] at hg; injection hg with hg; rw [← hg]; exact Nat.le_refl _
        · rw [k5] at hg; injection hg with hg; have := hb.size; subst hg; exact this
      refine exec_val (w' := w2) (v := v') (by simp [execOp, ho, resolve, invoke, builtin, e21, e23]; rw [show (Builtin.append_ #[54, 54] o.type #[.slice (some ⟨w.heap.size, 0, none⟩) 3 3, .slice (some (ae.add 3)) 16 16]).run Try.prog w' = .ok v' w2 from k1]; rfl) ⟨_, by rw [hd], ?_, ?_⟩
      · have h1 : Below w.drew.heap.size w.drew w' := by rw [hw']; exact (Below.refl _ _).alloc (Nat.le_refl _) _
        exact h1.trans ⟨k3.1, k3.2, k3.3, k3.4, fun k hk => k3.5 k (Nat.lt_of_lt_of_le hk h1.size) (by intro e; injection e with e; rw [e] at hk; exact absurd hk (Nat.lt_irrefl _))⟩
      · rw [hd, tf, put_eq (by rw [hza]; decide)]
        exact ownsRow_up k2 hup
    | _ + 2 => simp at hkm
  · exact hQ a' w' hs hd ((Below.refl _ _).drew.trans hT.1) hT.2 (hv 12 _ 25 _ rfl rfl) (hv 13 _ 26 _ rfl rfl) fun t ht => hoth t fun j op => ht j op
end Go.Proofs.Ytdnaadcbimbfmaa
set_option linter.unusedSimpArgs false
set_option linter.unusedVariables false
namespace Go.Proofs.Ytdnaadcbimbfmaa
open Go Go.RowKit Am

theorem q_conv {a : Act} {w : World} {o : Oper} {t : Nat} {x : Int} (h : o.op = .convert 3 56 (.tmp t)) (e : a.eval (.tmp t) = vI x) : (execOp a.eval o).run Try.prog w = .ok (.value (.int .u64 ((uN x : Nat) : Int))) w := by
  have h1 : (convert 3 56 (.int .i64 x)).run Try.prog w = .ok (.int .u64 (IntKind.u64.wrap x)) w := by kernel_rfl
  have h2 : IntKind.u64.wrap x = ((uN x : Nat) : Int) := by rw [IntKind.wrap_u64]; unfold uN; omega
  simp [execOp, h, e, h1, h2]
def eoShape : List (Option Nat × Op) := [(some 43, .move (.tmp 4)), (some 44, .fieldAddr 35 (.tmp 7) 0), (some 45, .load 3 (.tmp 44)), (some 46, .convert 3 56 (.tmp 45)), (some 47, .call { callee := .value (.func 18), args := #[.tmp 43, .tmp 46], argTypes := #[53, 56] }), (some 48, .fieldAddr 35 (.tmp 7) 1), (some 49, .load 9 (.tmp 48)), (some 50, .call { callee := .value (.func 47), args := #[.tmp 47, .tmp 49], argTypes := #[53, 9] }), (some 4, .assign (.tmp 50))]
def eoNeed : Nat → List Nat
  | 2 => [1] | 3 => [2] | 4 => [0, 3] | 6 => [5] | 7 => [4, 6] | 8 => [7] | _ => []
def eoVal (vb : Value) (ad : Addr) (k : Int) (key : ByteArray) (q : Nat) : Option Value :=
  match q with
  | 0 => some vb | 1 => some (.pointer (some (ad.add 0))) | 2 => some (vI k) | 3 => some (.int .u64 ((uN k : Nat) : Int)) | 5 => some (.pointer (some (ad.add 1))) | 6 => some (.string key) | _ => none
set_option maxHeartbeats 4000000 in
set_option maxRecDepth 100000 in
theorem eo_region {id : Nat} {ops : List Oper} {Q : Exit → Act → World → Prop} {a0 : Act} {w : World} (n : Nat) (hnz : n = 83) (ad : Addr) (k : Int) (key : ByteArray) (l : List UInt8) (hl : l.length ≤ 1000000) (hkey : key.size ≤ 1000000) (S : Nat → Prop) (hS : ∀ g, S g → g < w.heap.size) (hops : ops.map (fun o => (o.dst, o.op)) = eoShape) (hdep : depsC eoNeed ops = true) (hz : a0.tmps.size = n)
    (h7 : a0.eval (.tmp 7) = .pointer (some ad)) (h4 : Rep w S (.sl (byR l)) (a0.eval (.tmp 4))) (c0 : w.cell? ad = some (vI k)) (c1 : w.cell? (ad.add 1) = some (.string key))
    (hQ : ∀ (a' : Act) (w' : World) (S2 : Nat → Prop), a'.tmps.size = n → a'.defers = a0.defers → Gr w S w' S2 → Rep w' S2 (.sl (byR ((l ++ vlqL (uN k)) ++ txtL key))) (a'.eval (.tmp 4)) → (∀ (t : Nat), (∀ (j : Nat) (op : Op), eoShape[j]? ≠ some (some t, op)) → a'.eval (.tmp t) = a0.eval (.tmp t)) → Q .normal a' w') : (Code.region id ops.toArray true).wp Try.prog Q a0 w := by
  subst hnz
  have hv := vlq_len (uN k) (uN_lt k)
  have hlt : ad.block < w.heap.size := block_lt_of_cell c0
  refine calls2 mixed 83 hz eoShape hops eoNeed hdep (by decide) (eoVal (a0.eval (.tmp 4)) ad k key) 4 7 8 47 50 4 18 47 43 46 49 _ _ S hS rfl rfl rfl (fun q hq => ?_) (fun m hm => ?_) (by decide) (by simp [eoNeed]) (by simp [eoNeed]) (a0.eval (.tmp 4)) (.int .u64 ((uN k : Nat) : Int)) (.string key) ⟨0, _, by simp [eoNeed], rfl, rfl⟩ ⟨3, _, by simp [eoNeed], rfl, rfl⟩ ⟨6, _, by simp [eoNeed], rfl, rfl⟩
    (enterT Try.func18 (by kernel_rfl) rfl) (enterT Try.func47 (by kernel_rfl) rfl) (.sl (byR (l ++ vlqL (uN k)))) (.sl (byR ((l ++ vlqL (uN k)) ++ txtL key))) (putW (w := w.drew) (by omega) _ (uN_lt k) hS (Rep.mono (w := w) (w' := w.drew) (fun _ _ => rfl) (fun _ h => h) h4)) (fun w1 S1 y hg hy => putTextW (by rw [List.length_append]; omega) key (by omega) hg.lt hy) ?_ hQ
  · have hq : q < 9 := hq
    obtain rfl | rfl | rfl | rfl | rfl | rfl | rfl | rfl | rfl : q = 0 ∨ q = 1 ∨ q = 2 ∨ q = 3 ∨ q = 4 ∨ q = 5 ∨ q = 6 ∨ q = 7 ∨ q = 8 := by omega
    all_goals first | exact .inl rfl | exact .inr (by simp)
  · simp only [List.mem_cons, List.not_mem_nil, or_false] at hm
    rcases hm with rfl | rfl | rfl <;> rfl
  · intro q dd op uu hsh hv a w' hb hn hk hk3 o ho
    have hq : q < 9 := (List.getElem?_eq_some_iff.1 hsh).1
    have e7 := (hk 7 (notD (by rfl))).trans h7
    obtain rfl | rfl | rfl | rfl | rfl | rfl | rfl | rfl | rfl : q = 0 ∨ q = 1 ∨ q = 2 ∨ q = 3 ∨ q = 4 ∨ q = 5 ∨ q = 6 ∨ q = 7 ∨ q = 8 := by omega
    all_goals first | (cases hv; done) | (injection hsh with hsh; obtain ⟨rfl, rfl⟩ := Prod.mk.inj hsh; injection hv with hv; subst hv)
    · exact q_move ho (hk3 (by simp [eoNeed]))
    · exact q_fld (ti := ti35) (off := 0) (sz := 1) rfl rfl ho e7
    · exact q_load1 (ti := ti3) rfl rfl ho (hn 1 (by decide) _ 44 _ rfl rfl) (by rw [add00]; exact (World.cell?_of_block (hb.block _ hlt)).trans c0)
    · exact q_conv ho (hn 2 (by decide) _ 45 _ rfl rfl)
    · exact q_fld (ti := ti35) (off := 1) (sz := 1) rfl rfl ho e7
    · exact q_load1 (ti := ti9) rfl rfl ho (hn 5 (by decide) _ 48 _ rfl rfl) ((World.cell?_of_block (hb.block _ (by rw [add_blk]; exact hlt))).trans c1)
end Go.Proofs.Ytdnaadcbimbfmaa
set_option linter.unusedSimpArgs false
set_option linter.unusedVariables false
namespace Go.Proofs.Ytdnaadcbimbfmaa
open Go Go.RowKit Am

def roShape : List (Option Nat × Op) := [(some 71, .move (.tmp 4)), (some 72, .fieldAddr 35 (.tmp 7) 5), (some 73, .fieldAddr 33 (.tmp 72) 0), (some 74, .load 3 (.tmp 73)), (some 75, .convert 3 56 (.tmp 74)), (some 76, .call { callee := .value (.func 18), args := #[.tmp 71, .tmp 75], argTypes := #[53, 56] }), (some 77, .fieldAddr 35 (.tmp 7) 5), (some 78, .fieldAddr 33 (.tmp 77) 1), (some 79, .load 3 (.tmp 78)), (some 80, .convert 3 56 (.tmp 79)), (some 81, .call { callee := .value (.func 18), args := #[.tmp 76, .tmp 80], argTypes := #[53, 56] }), (some 4, .assign (.tmp 81))]
def roNeed : Nat → List Nat
  | 2 => [1] | 3 => [2] | 4 => [3] | 5 => [0, 4] | 7 => [6] | 8 => [7] | 9 => [8] | 10 => [5, 9] | 11 => [10] | _ => []
def roVal (vb : Value) (ad : Addr) (x y : Int) (q : Nat) : Option Value :=
  match q with
  | 0 => some (vb) | 1 => some (.pointer (some (ad.add 5))) | 2 => some (.pointer (some ((ad.add 5).add 0))) | 3 => some (vI x) | 4 => some (.int .u64 ((uN x : Nat) : Int)) | 6 => some (.pointer (some (ad.add 5))) | 7 => some (.pointer (some ((ad.add 5).add 1))) | 8 => some (vI y) | 9 => some (.int .u64 ((uN y : Nat) : Int)) | _ => none
set_option maxHeartbeats 4000000 in
set_option maxRecDepth 100000 in
theorem ro_region {id : Nat} {ops : List Oper} {Q : Exit → Act → World → Prop} {a0 : Act} {w : World} (n : Nat) (hnz : n = 83) (ad : Addr) (x y : Int) (l : List UInt8) (hl : l.length ≤ 40000000) (S : Nat → Prop) (hS : ∀ g, S g → g < w.heap.size) (hops : ops.map (fun o => (o.dst, o.op)) = roShape) (hdep : depsC roNeed ops = true) (hz : a0.tmps.size = n)
    (h7 : a0.eval (.tmp 7) = .pointer (some ad)) (hr : Rep w S (.sl (byR l)) (a0.eval (.tmp 4))) (cx : w.cell? (ad.add (5 + 0)) = some (vI x)) (cy : w.cell? (ad.add (5 + 1)) = some (vI y))
    (hQ : ∀ (a' : Act) (w' : World) (S2 : Nat → Prop), a'.tmps.size = n → a'.defers = a0.defers → Gr w S w' S2 → Rep w' S2 (.sl (byR ((l ++ vlqL (uN x)) ++ vlqL (uN y)))) (a'.eval (.tmp 4)) → (∀ (t : Nat), (∀ (j : Nat) (op : Op), roShape[j]? ≠ some (some t, op)) → a'.eval (.tmp t) = a0.eval (.tmp t)) → Q .normal a' w') : (Code.region id ops.toArray true).wp Try.prog Q a0 w := by
  subst hnz
  have hvx := vlq_len (uN x) (uN_lt x)
  have hlt : ad.block < w.heap.size := by have := block_lt_of_cell cx; rwa [add_blk] at this
  refine calls2 mixed 83 hz roShape hops roNeed hdep (by decide) (roVal (a0.eval (.tmp 4)) ad x y) 5 10 11 76 81 4 18 18 71 75 80 _ _ S hS rfl rfl rfl (fun q hq => ?_) (fun m hm => ?_) (by decide) (by simp [roNeed]) (by simp [roNeed]) (a0.eval (.tmp 4)) (.int .u64 ((uN x : Nat) : Int)) (.int .u64 ((uN y : Nat) : Int)) ⟨0, _, by simp [roNeed], rfl, rfl⟩ ⟨4, _, by simp [roNeed], rfl, rfl⟩ ⟨9, _, by simp [roNeed], rfl, rfl⟩
    (enterT Try.func18 (by kernel_rfl) rfl) (enterT Try.func18 (by kernel_rfl) rfl) (.sl (byR (l ++ vlqL (uN x)))) (.sl (byR ((l ++ vlqL (uN x)) ++ vlqL (uN y)))) (putW (w := w.drew) (by omega) _ (uN_lt x) hS (Rep.mono (w := w) (w' := w.drew) (fun _ _ => rfl) (fun _ h => h) hr)) (fun w1 S1 y' hg hy => putW (by rw [List.length_append]; omega) _ (uN_lt y) hg.lt hy) ?_ hQ
  · have hq : q < 12 := hq
    obtain rfl | rfl | rfl | rfl | rfl | rfl | rfl | rfl | rfl | rfl | rfl | rfl : q = 0 ∨ q = 1 ∨ q = 2 ∨ q = 3 ∨ q = 4 ∨ q = 5 ∨ q = 6 ∨ q = 7 ∨ q = 8 ∨ q = 9 ∨ q = 10 ∨ q = 11 := by omega
    all_goals first | exact .inl rfl | exact .inr (by simp)
  · simp only [List.mem_cons, List.not_mem_nil, or_false] at hm
    rcases hm with rfl | rfl | rfl <;> rfl
  · intro q dd op uu hsh hv a w' hb hn hk hk3 o ho
    have hq : q < 12 := (List.getElem?_eq_some_iff.1 hsh).1
    have e7 := (hk 7 (notD (by rfl))).trans h7
    obtain rfl | rfl | rfl | rfl | rfl | rfl | rfl | rfl | rfl | rfl | rfl | rfl : q = 0 ∨ q = 1 ∨ q = 2 ∨ q = 3 ∨ q = 4 ∨ q = 5 ∨ q = 6 ∨ q = 7 ∨ q = 8 ∨ q = 9 ∨ q = 10 ∨ q = 11 := by omega
    all_goals first | (cases hv; done) | (injection hsh with hsh; obtain ⟨rfl, rfl⟩ := Prod.mk.inj hsh; injection hv with hv; subst hv)
    · exact q_move ho (hk3 (by simp [roNeed]))
    · exact q_fld (ti := ti35) (off := 5) (sz := 2) rfl rfl ho e7
    · exact q_fld (ti := ti33) (off := 0) (sz := 1) rfl rfl ho (hn 1 (by decide) _ 72 _ rfl rfl)
    · exact q_load1 (ti := ti3) rfl rfl ho (hn 2 (by decide) _ 73 _ rfl rfl) (by rw [Addr.add_add]; exact (World.cell?_of_block (hb.block _ (by rw [add_blk]; exact hlt))).trans cx)
    · exact q_conv ho (hn 3 (by decide) _ 74 _ rfl rfl)
    · exact q_fld (ti := ti35) (off := 5) (sz := 2) rfl rfl ho e7
    · exact q_fld (ti := ti33) (off := 1) (sz := 1) rfl rfl ho (hn 6 (by decide) _ 77 _ rfl rfl)
    · exact q_load1 (ti := ti3) rfl rfl ho (hn 7 (by decide) _ 78 _ rfl rfl) (by rw [Addr.add_add]; exact (World.cell?_of_block (hb.block _ (by rw [add_blk]; exact hlt))).trans cy)
    · exact q_conv ho (hn 8 (by decide) _ 79 _ rfl rfl)
def toShape : List (Option Nat × Op) := [(some 70, .move (.tmp 3)), (some 71, .fieldAddr 72 (.tmp 11) 1), (some 72, .fieldAddr 68 (.tmp 71) 1), (some 73, .fieldAddr 33 (.tmp 72) 0), (some 74, .load 3 (.tmp 73)), (some 75, .convert 3 56 (.tmp 74)), (some 76, .call { callee := .value (.func 18), args := #[.tmp 70, .tmp 75], argTypes := #[53, 56] }), (some 77, .fieldAddr 72 (.tmp 11) 1), (some 78, .fieldAddr 68 (.tmp 77) 1), (some 79, .fieldAddr 33 (.tmp 78) 1), (some 80, .load 3 (.tmp 79)), (some 81, .convert 3 56 (.tmp 80)), (some 82, .call { callee := .value (.func 18), args := #[.tmp 76, .tmp 81], argTypes := #[53, 56] }), (some 3, .assign (.tmp 82))]
def toNeed : Nat → List Nat
  | 2 => [1] | 3 => [2] | 4 => [3] | 5 => [4] | 6 => [0, 5] | 8 => [7] | 9 => [8] | 10 => [9] | 11 => [10] | 12 => [6, 11] | 13 => [12] | _ => []
def toVal (vb : Value) (ad : Addr) (x y : Int) (q : Nat) : Option Value :=
  match q with
  | 0 => some (vb) | 1 => some (.pointer (some (ad.add 2))) | 2 => some (.pointer (some ((ad.add 2).add 26))) | 3 => some (.pointer (some (((ad.add 2).add 26).add 0))) | 4 => some (vI x) | 5 => some (.int .u64 ((uN x : Nat) : Int)) | 7 => some (.pointer (some (ad.add 2))) | 8 => some (.pointer (some ((ad.add 2).add 26))) | 9 => some (.pointer (some (((ad.add 2).add 26).add 1))) | 10 => some (vI y) | 11 => some (.int .u64 ((uN y : Nat) : Int)) | _ => none
set_option maxHeartbeats 4000000 in
set_option maxRecDepth 100000 in
theorem to_region {id : Nat} {ops : List Oper} {Q : Exit → Act → World → Prop} {a0 : Act} {w : World} (n : Nat) (hnz : n = 91) (ad : Addr) (x y : Int) (l : List UInt8) (hl : l.length ≤ 40000000) (S : Nat → Prop) (hS : ∀ g, S g → g < w.heap.size) (hops : ops.map (fun o => (o.dst, o.op)) = toShape) (hdep : depsC toNeed ops = true) (hz : a0.tmps.size = n)
    (h11 : a0.eval (.tmp 11) = .pointer (some ad)) (hr : Rep w S (.sl (byR l)) (a0.eval (.tmp 3))) (cx : w.cell? (ad.add (2 + 26 + 0)) = some (vI x)) (cy : w.cell? (ad.add (2 + 26 + 1)) = some (vI y))
    (hQ : ∀ (a' : Act) (w' : World) (S2 : Nat → Prop), a'.tmps.size = n → a'.defers = a0.defers → Gr w S w' S2 → Rep w' S2 (.sl (byR ((l ++ vlqL (uN x)) ++ vlqL (uN y)))) (a'.eval (.tmp 3)) → (∀ (t : Nat), (∀ (j : Nat) (op : Op), toShape[j]? ≠ some (some t, op)) → a'.eval (.tmp t) = a0.eval (.tmp t)) → Q .normal a' w') : (Code.region id ops.toArray true).wp Try.prog Q a0 w := by
  subst hnz
  have hvx := vlq_len (uN x) (uN_lt x)
  have hlt : ad.block < w.heap.size := by have := block_lt_of_cell cx; rwa [add_blk] at this
  refine calls2 mixed 91 hz toShape hops toNeed hdep (by decide) (toVal (a0.eval (.tmp 3)) ad x y) 6 12 13 76 82 3 18 18 70 75 81 _ _ S hS rfl rfl rfl (fun q hq => ?_) (fun m hm => ?_) (by decide) (by simp [toNeed]) (by simp [toNeed]) (a0.eval (.tmp 3)) (.int .u64 ((uN x : Nat) : Int)) (.int .u64 ((uN y : Nat) : Int)) ⟨0, _, by simp [toNeed], rfl, rfl⟩ ⟨5, _, by simp [toNeed], rfl, rfl⟩ ⟨11, _, by simp [toNeed], rfl, rfl⟩
    (enterT Try.func18 (by kernel_rfl) rfl) (enterT Try.func18 (by kernel_rfl) rfl) (.sl (byR (l ++ vlqL (uN x)))) (.sl (byR ((l ++ vlqL (uN x)) ++ vlqL (uN y)))) (putW (w := w.drew) (by omega) _ (uN_lt x) hS (Rep.mono (w := w) (w' := w.drew) (fun _ _ => rfl) (fun _ h => h) hr)) (fun w1 S1 y' hg hy => putW (by rw [List.length_append]; omega) _ (uN_lt y) hg.lt hy) ?_ hQ
  · have hq : q < 14 := hq
    obtain rfl | rfl | rfl | rfl | rfl | rfl | rfl | rfl | rfl | rfl | rfl | rfl | rfl | rfl : q = 0 ∨ q = 1 ∨ q = 2 ∨ q = 3 ∨ q = 4 ∨ q = 5 ∨ q = 6 ∨ q = 7 ∨ q = 8 ∨ q = 9 ∨ q = 10 ∨ q = 11 ∨ q = 12 ∨ q = 13 := by omega
    all_goals first | exact .inl rfl | exact .inr (by simp)
  · simp only [List.mem_cons, List.not_mem_nil, or_false] at hm
    rcases hm with rfl | rfl | rfl <;> rfl
  · intro q dd op uu hsh hv a w' hb hn hk hk3 o ho
    have hq : q < 14 := (List.getElem?_eq_some_iff.1 hsh).1
    have e11 := (hk 11 (notD (by rfl))).trans h11
    obtain rfl | rfl | rfl | rfl | rfl | rfl | rfl | rfl | rfl | rfl | rfl | rfl | rfl | rfl : q = 0 ∨ q = 1 ∨ q = 2 ∨ q = 3 ∨ q = 4 ∨ q = 5 ∨ q = 6 ∨ q = 7 ∨ q = 8 ∨ q = 9 ∨ q = 10 ∨ q = 11 ∨ q = 12 ∨ q = 13 := by omega
    all_goals first | (cases hv; done) | (injection hsh with hsh; obtain ⟨rfl, rfl⟩ := Prod.mk.inj hsh; injection hv with hv; subst hv)
    · exact q_move ho (hk3 (by simp [toNeed]))
    · exact q_fld (ti := ti72) (off := 2) (sz := 28) rfl rfl ho e11
    · exact q_fld (ti := ti68) (off := 26) (sz := 2) rfl rfl ho (hn 1 (by decide) _ 71 _ rfl rfl)
    · exact q_fld (ti := ti33) (off := 0) (sz := 1) rfl rfl ho (hn 2 (by decide) _ 72 _ rfl rfl)
    · exact q_load1 (ti := ti3) rfl rfl ho (hn 3 (by decide) _ 73 _ rfl rfl) (by rw [Addr.add_add, Addr.add_add]; exact (World.cell?_of_block (hb.block _ (by rw [add_blk]; exact hlt))).trans cx)
    · exact q_conv ho (hn 4 (by decide) _ 74 _ rfl rfl)
    · exact q_fld (ti := ti72) (off := 2) (sz := 28) rfl rfl ho e11
    · exact q_fld (ti := ti68) (off := 26) (sz := 2) rfl rfl ho (hn 7 (by decide) _ 77 _ rfl rfl)
    · exact q_fld (ti := ti33) (off := 1) (sz := 1) rfl rfl ho (hn 8 (by decide) _ 78 _ rfl rfl)
    · exact q_load1 (ti := ti3) rfl rfl ho (hn 9 (by decide) _ 79 _ rfl rfl) (by rw [Addr.add_add, Addr.add_add]; exact (World.cell?_of_block (hb.block _ (by rw [add_blk]; exact hlt))).trans cy)
    · exact q_conv ho (hn 10 (by decide) _ 80 _ rfl rfl)
end Go.Proofs.Ytdnaadcbimbfmaa
set_option linter.unusedSimpArgs false
set_option linter.unusedVariables false
namespace Go.Proofs.Ytdnaadcbimbfmaa
open Go Go.RowKit Am

theorem first1 {k : Nat} {v : AV} {sl : List (Nat × AV)} (_ : k = k) : ∀ t x, lk t [(k, v)] = some x → lk t ((k, v) :: sl) = some x := fun t x ht => by
  simp only [lk] at ht ⊢
  by_cases hh : k = t
  · rw [if_pos hh] at ht ⊢; exact ht
  · rw [if_neg hh] at ht; cases ht
set_option maxHeartbeats 4000000 in
set_option maxRecDepth 100000 in
theorem eEncode_ok (e : Ev) (hr : RightP e) (hz : e.op.key.size + e.op.fld.size + e.op.val.size ≤ 100000) (hn0 : -9223372036854775808 ≤ e.op.num) (hn1 : e.op.num ≤ 9223372036854775807) : CSem Try.prog (.fn 46) [.agg e.ac] (.pure [.sl (byR (encL e)), aI 0]) := by
  refine acall_hand 83 Try.func46 (by kernel_rfl) rfl rfl (by simp) fun w S a h => ?_
  refine wp_seq (h.pc (E := { n := 83 }) [(1, .ept e.ac 0)] rfl (fun F C D hF hC => ?_) fun S1 a1 w1 h1 => ?_)
  · cbv
    exact ⟨100, (le_of [] (by simp [leSl, leOb, injK, memK, parK, noTup, lk, rn0, rnA, plain] <;> first | rfl | decide | (repeat (first | rfl | trivial | refine And.intro ?_ ?_))))⟩
  clear h
  refine wp_seq (wp_seq (h1.pc (E := { n := 83 }) [(12, aB false), (1, .ept e.ac 0)] rfl (fun F C D hF hC => ?_) fun S2 a2 w2 h2 => ?_))
  · have kr := hC _ _ _ (right_ok e true (by simp [hr]))
    have tb := bnotF hF true
    cbv
    refine ⟨_, kr, ?_⟩
    cbv
    rw [tb]
    exact ⟨100, (le_of [] (by simp [leSl, leOb, injK, memK, parK, noTup, lk, rn0, rnA, plain] <;> first | rfl | decide | (repeat (first | rfl | trivial | refine And.intro ?_ ?_))))⟩
  clear h1
  refine wp_cond_false (h2.val (t := 12) rfl) (wp_skip ?_)
  show Code.wp Try.prog (Code.seq _ _) _ _ _
  refine wp_seq (h2.pc (E := { n := 83 }) [(4, .sl []), (1, .ept e.ac 0)] rfl (fun F C D hF hC => ?_) fun S3 a3 w3 h3 => ?_)
  · cbv
    exact ⟨100, Le.trans (le_nilS 4 rfl) (le_of [] (by simp [leSl, leOb, injK, memK, parK, noTup, lk, rn0, rnA, plain] <;> first | rfl | decide | (repeat (first | rfl | trivial | refine And.intro ?_ ?_))))⟩
  clear h2
  show Code.wp Try.prog (Code.seq _ _) _ _ _
  obtain ⟨ae, hae, hce⟩ := h3.cells (t := 1) e.vs.toList rfl
  have hlt : ae.block < w3.heap.size := by
    have := hce 0 _ rfl
    rw [add00] at this
    exact block_lt_of_cell this
  refine wp_seq (wp_seq (hd_region ae e rfl (by kernel_rfl) h3.hi.size hae hlt hce fun a4 w4 hz4 hd4 hb4 hown4 h25 h26 ho4 => ?_))
  have h4 := h3.reg hz4 hd4 hdShape rfl ho4
  obtain ⟨g4, rep4⟩ := gr_row (rows := intR (hdrI e)) (zs := hdV e) (S := S3) h3.hi.lt hb4 hown4 (repl_map_v (hdV e) (List.all_eq_true.1 (show (hdV e).all (fun v => v.oneCell') = true from rfl))) (fun r hr => by obtain ⟨x, _, rfl⟩ := List.mem_map.1 hr; rfl)
  have h5 := (((h4.out g4).add (d := 24) (by decide) _ (srep_of_rep rep4)).addV (d := 25) (by decide) rfl h25).addV (d := 26) (by decide) rfl h26
  clear h4 h3 rep4
  have hev : ∀ i, i < 19 → ∃ x, (hdrI e)[i]? = some x := fun i hi => ⟨_, List.getElem?_eq_getElem (show i < (hdrI e).length from hi)⟩
  obtain ⟨hs, hhs⟩ : ∃ hs, hs = hdrI e := ⟨_, rfl⟩
  have hlen : hs.length = 19 := by rw [hhs]; rfl
  rw [← hhs] at h5 hev
  obtain ⟨rows, hrows⟩ : ∃ rows, rows = intR hs := ⟨_, rfl⟩
  obtain ⟨ea, hea⟩ : ∃ ea, ea = e.ac := ⟨_, rfl⟩
  rw [← hrows, ← hea] at h5
  obtain ⟨b1, hb1⟩ : ∃ b1, b1 = byR (numL hs) := ⟨_, rfl⟩
  show Code.wp Try.prog (Code.block 0 _) _ a4 w4
  refine h5.pc (E := { n := 83 }) [(4, .sl b1), (1, .ept ea 0)] rfl (fun F C D hF hC => ?_) fun S6 a6 w6 h6 => ?_
  · cbv
    refine ⟨Nat × Int × List (List AV), fun y => { slots := [(26, aI y.2.1), (25, aI 19), (24, .sl rows), (4, .sl y.2.2), (1, .ept ea 0)], obs := [], ctr := 0 }, fun y => y.2.1 = (y.1 : Int) ∧ y.1 ≤ 19 ∧ y.2.2 = byR (numL (hs.take y.1)), fun y => 19 - y.1, ⟨(0, 0, []), ⟨rfl, Nat.zero_le _, rfl⟩, (le_of [] (by simp [leSl, leOb, injK, memK, parK, noTup, lk, rn0, rnA, plain] <;> first | rfl | decide | (repeat (first | rfl | trivial | refine And.intro ?_ ?_))))⟩, fun y hy => ?_⟩
    obtain ⟨i, i', bs⟩ := y
    obtain ⟨ei, hi, hbs⟩ := hy
    simp only at ei hi hbs
    have tl := ltF hF i 19 i' 19 ei rfl
    by_cases hi19 : i < 19
    · have tl : F .cmp .lss i' 19 = true := tl.2 hi19
      obtain ⟨x, hx⟩ := hev i hi19
      have hrow : rows[i]? = some [aI x] := by rw [hrows, intR, List.getElem?_map, hx]; rfl
      obtain ⟨u, hu⟩ : ∃ u : Int, u = ((uN x : Nat) : Int) := ⟨_, rfl⟩
      have hw : F .wrp .u64 x = u := (wrpN hF x).trans hu.symm
      have kp := hC _ _ _ (put_ok (numL (hs.take i)) (by have := numL_len (hs.take i); rw [List.length_take] at this; omega) (uN x) (uN_lt x))
      obtain ⟨b2, hb2⟩ : ∃ b2, b2 = byR (numL (hs.take i) ++ vlqL (uN x)) := ⟨_, rfl⟩
      rw [← hbs, ← hu, ← hb2] at kp
      have hb3 : b2 = byR (numL (hs.take (i + 1))) := by rw [hb2, List.take_add_one, hx]; simp only [Option.toList_some]; rw [numL_snoc]
      obtain ⟨i2, hi2⟩ : ∃ i2, F .ar .add .i64 i' 1 = i2 := ⟨_, rfl⟩
      have ei2 : i2 = ((i + 1 : Nat) : Int) := hi2.symm.trans (incF hF ei (by omega))
      have hmu : 19 - (i + 1) < 19 - i := by omega
      clear hu hb2 hbs hev
      cbv
      refine bT (tl) ?_
      cbv
      refine ⟨i, _, ei, hrow, rfl, ?_⟩
      cbv
      rw [hw]
      refine ⟨_, kp, ?_⟩
      cbv
      rw [hi2]
      exact ⟨(i + 1, i2, b2), ⟨ei2, hi19, hb3⟩, hmu, (le_of [] (by simp [leSl, leOb, injK, memK, parK, noTup, lk, rn0, rnA, plain] <;> first | rfl | decide | (repeat (first | rfl | trivial | refine And.intro ?_ ?_))))⟩
    · have tl : F .cmp .lss i' 19 = false := by rw [Bool.eq_false_iff]; exact fun h => hi19 (tl.1 h)
      have hi9 : i = 19 := by omega
      have hbe : bs = b1 := by rw [hbs, hb1, hi9, ← hlen, List.take_length]
      clear hbs hev
      subst hbe
      cbv
      refine bF (tl) ?_
      cbv
      exact ⟨100, (le_of [] (by simp [leSl, leOb, injK, memK, parK, noTup, lk, rn0, rnA, plain] <;> first | rfl | decide | (repeat (first | rfl | trivial | refine And.intro ?_ ?_))))⟩
  clear h5
  subst hea
  have hlen1 : (numL hs).length ≤ 190 := by have := numL_len hs; rw [hlen] at this; omega
  have hlk := vlq_len (uN e.op.kind) (uN_lt _)
  have txl : ∀ (s : ByteArray), s.size ≤ 100000 → (txtL s).length ≤ s.size + 10 := fun s hs => by
    have := vlq_len s.size (by omega)
    unfold txtL
    rw [List.length_append, ← L_size]
    omega
  show Code.wp Try.prog (Code.seq _ _) _ _ _
  refine wp_seq (h6.pc (E := { n := 83 }) [(7, .ept e.op.ac 0), (4, .sl b1)] rfl (fun F C D hF hC => ?_) fun S7 a7 w7 h7 => ?_)
  · cbv
    exact ⟨100, (le_of [] (by simp [leSl, leOb, injK, memK, parK, noTup, lk, rn0, rnA, plain] <;> first | rfl | decide | (repeat (first | rfl | trivial | refine And.intro ?_ ?_))))⟩
  clear h6
  obtain ⟨⟨u1, u2, u3, u4, u5⟩, hU⟩ : ∃ U, U = usesU e.op.kind := ⟨_, rfl⟩
  show Code.wp Try.prog (Code.seq _ _) _ _ _
  refine wp_seq (h7.pc (E := { n := 83 }) [(4, .sl b1), (8, .ept [aB u1, aB u2, aB u3, aB u4] 0), (7, .ept e.op.ac 0)] rfl (fun F C D hF hC => ?_) fun S8 a8 w8 h8 => ?_)
  · have ku := hC _ _ _ (uses_ok e.op.kind ⟨u1, u2, u3, u4, u5⟩ hU)
    clear hU
    cbv
    refine ⟨_, ku, ?_⟩
    cbv
    exact ⟨100, (le_of [] (by simp [leSl, leOb, injK, memK, parK, noTup, lk, rn0, rnA, plain] <;> first | rfl | decide | (repeat (first | rfl | trivial | refine And.intro ?_ ?_))))⟩
  clear h7
  show Code.wp Try.prog (Code.seq _ _) _ _ _
  obtain ⟨ad, had, hcell⟩ := h8.cells (t := 7) e.op.vs.toList rfl
  rw [hb1] at h8
  refine wp_seq (eo_region 83 rfl ad e.op.kind e.op.key (numL hs) (by omega) (by omega) S8 h8.hi.lt rfl (by kernel_rfl) h8.hi.size had (h8.hi.slots 4 _ rfl).2 (by have := hcell 0 _ rfl; rwa [add00] at this) (hcell 1 _ rfl) fun a9 w9 S9 hz9 hd9 hg9 hr9 ho9 => ?_)
  have h9 := (((((h8.dr rfl).reg hz9 hd9 eoShape rfl ho9).out hg9)).add (d := 4) (by decide) _ (srep_of_rep hr9))
  clear h8 hr9
  obtain ⟨l2, hl2⟩ : ∃ l, l = (numL hs ++ vlqL (uN e.op.kind)) ++ txtL e.op.key := ⟨_, rfl⟩
  have nl2 : l2.length ≤ 100220 := by rw [hl2, List.length_append, List.length_append]; have := txl e.op.key (by omega); omega
  rw [← hl2] at h9
  -- u1
  obtain ⟨l3, hl3⟩ : ∃ l, l = l2 ++ (if u1 = true then txtL e.op.fld else []) := ⟨_, rfl⟩
  have nl3 : l3.length ≤ l2.length + 100010 := by
    rw [hl3, List.length_append]
    cases u1 with
    | false => simp
    | true => rw [if_pos rfl]; have := txl e.op.fld (by omega); omega
  show Code.wp Try.prog (Code.seq _ _) _ _ _
  refine wp_seq (h9.pc (E := { n := 83 }) [(4, .sl (byR l3)), (8, .ept [aB u1, aB u2, aB u3, aB u4] 0), (7, .ept e.op.ac 0)] rfl (fun F C D hF hC => ?_) fun S10 a10 w10 h10 => ?_)
  · obtain ⟨r1, hr1⟩ : ∃ r1, r1 = byR l2 := ⟨_, rfl⟩
    obtain ⟨r2, hr2⟩ : ∃ r2, r2 = byR l3 := ⟨_, rfl⟩
    rw [← hr1, ← hr2]
    cases u1 with
    | true =>
      have kp := hC _ _ _ (putText_ok l2 (by omega) e.op.fld (by omega))
      rw [if_pos rfl] at hl3
      rw [← hl3, ← hr2, ← hr1] at kp
      clear hr1 hr2 hl3 hU
      cbv
      refine bT (rfl) ?_
      cbv
      refine ⟨_, kp, ?_⟩
      cbv
      exact ⟨100, (le_of [] (by simp [leSl, leOb, injK, memK, parK, noTup, lk, rn0, rnA, plain] <;> first | rfl | decide | (repeat (first | rfl | trivial | refine And.intro ?_ ?_))))⟩
    | false =>
      have : r2 = r1 := by rw [hr2, hr1, hl3, if_neg (by simp), List.append_nil]
      subst this
      clear hr1 hr2 hl3 hU
      cbv
      refine bF (rfl) ?_
      cbv
      exact ⟨100, (le_of [] (by simp [leSl, leOb, injK, memK, parK, noTup, lk, rn0, rnA, plain] <;> first | rfl | decide | (repeat (first | rfl | trivial | refine And.intro ?_ ?_))))⟩
  -- u2
  obtain ⟨l4, hl4⟩ : ∃ l, l = l3 ++ (if u2 = true then txtL e.op.val else []) := ⟨_, rfl⟩
  have nl4 : l4.length ≤ l3.length + 100010 := by
    rw [hl4, List.length_append]
    cases u2 with
    | false => simp
    | true => rw [if_pos rfl]; have := txl e.op.val (by omega); omega
  show Code.wp Try.prog (Code.seq _ _) _ _ _
  refine wp_seq (h10.pc (E := { n := 83 }) [(4, .sl (byR l4)), (8, .ept [aB u1, aB u2, aB u3, aB u4] 0), (7, .ept e.op.ac 0)] rfl (fun F C D hF hC => ?_) fun S11 a11 w11 h11 => ?_)
  · obtain ⟨r1, hr1⟩ : ∃ r1, r1 = byR l3 := ⟨_, rfl⟩
    obtain ⟨r2, hr2⟩ : ∃ r2, r2 = byR l4 := ⟨_, rfl⟩
    rw [← hr1, ← hr2]
    cases u2 with
    | true =>
      have kp := hC _ _ _ (putText_ok l3 (by omega) e.op.val (by omega))
      rw [if_pos rfl] at hl4
      rw [← hl4, ← hr2, ← hr1] at kp
      clear hr1 hr2 hl4 hU
      cbv
      refine bT (rfl) ?_
      cbv
      refine ⟨_, kp, ?_⟩
      cbv
      exact ⟨100, (le_of [] (by simp [leSl, leOb, injK, memK, parK, noTup, lk, rn0, rnA, plain] <;> first | rfl | decide | (repeat (first | rfl | trivial | refine And.intro ?_ ?_))))⟩
    | false =>
      have : r2 = r1 := by rw [hr2, hr1, hl4, if_neg (by simp), List.append_nil]
      subst this
      clear hr1 hr2 hl4 hU
      cbv
      refine bF (rfl) ?_
      cbv
      exact ⟨100, (le_of [] (by simp [leSl, leOb, injK, memK, parK, noTup, lk, rn0, rnA, plain] <;> first | rfl | decide | (repeat (first | rfl | trivial | refine And.intro ?_ ?_))))⟩
  -- u3
  obtain ⟨l5, hl5⟩ : ∃ l, l = l4 ++ (if u3 = true then vlqL (zz e.op.num) else []) := ⟨_, rfl⟩
  have nl5 : l5.length ≤ l4.length + 10 := by
    rw [hl5, List.length_append]
    cases u3 with
    | false => simp
    | true => rw [if_pos rfl]; have := vlq_len (zz e.op.num) (by unfold zz; split <;> omega); omega
  show Code.wp Try.prog (Code.seq _ _) _ _ _
  refine wp_seq (h11.pc (E := { n := 83 }) [(4, .sl (byR l5)), (8, .ept [aB u1, aB u2, aB u3, aB u4] 0), (7, .ept e.op.ac 0)] rfl (fun F C D hF hC => ?_) fun S12 a12 w12 h12 => ?_)
  · obtain ⟨r1, hr1⟩ : ∃ r1, r1 = byR l4 := ⟨_, rfl⟩
    obtain ⟨r2, hr2⟩ : ∃ r2, r2 = byR l5 := ⟨_, rfl⟩
    rw [← hr1, ← hr2]
    cases u3 with
    | true =>
      have kp := hC _ _ _ (putInt_ok l4 (by omega) e.op.num hn0 hn1)
      rw [if_pos rfl] at hl5
      rw [← hl5, ← hr2, ← hr1] at kp
      clear hr1 hr2 hl5 hU
      cbv
      refine bT (rfl) ?_
      cbv
      refine ⟨_, kp, ?_⟩
      cbv
      exact ⟨100, (le_of [] (by simp [leSl, leOb, injK, memK, parK, noTup, lk, rn0, rnA, plain] <;> first | rfl | decide | (repeat (first | rfl | trivial | refine And.intro ?_ ?_))))⟩
    | false =>
      have : r2 = r1 := by rw [hr2, hr1, hl5, if_neg (by simp), List.append_nil]
      subst this
      clear hr1 hr2 hl5 hU
      cbv
      refine bF (rfl) ?_
      cbv
      exact ⟨100, (le_of [] (by simp [leSl, leOb, injK, memK, parK, noTup, lk, rn0, rnA, plain] <;> first | rfl | decide | (repeat (first | rfl | trivial | refine And.intro ?_ ?_))))⟩
  -- u4
  clear h9 h10 h11
  show Code.wp Try.prog (Code.seq _ _) _ _ _
  refine wp_seq (wp_seq (h12.pc (E := { n := 83 }) [(52 + 18, aB u4), (4, .sl (byR l5)), (7, .ept e.op.ac 0)] rfl (fun F C D hF hC => ?_) fun S13 a13 w13 h13 => ?_))
  · obtain ⟨r1, hr1⟩ : ∃ r1, r1 = byR l5 := ⟨_, rfl⟩
    rw [← hr1]
    clear hr1 hU
    cbv
    exact ⟨100, (le_of [] (by simp [leSl, leOb, injK, memK, parK, noTup, lk, rn0, rnA, plain] <;> first | rfl | decide | (repeat (first | rfl | trivial | refine And.intro ?_ ?_))))⟩
  clear h12
  have t70 : a13.eval (.tmp 70) = .bool u4 := h13.val rfl
  obtain ⟨l6, hl6⟩ : ∃ l, l = l5 ++ (if u4 = true then vlqL (uN e.op.ref.R) ++ vlqL (uN e.op.ref.N) else []) := ⟨_, rfl⟩
  show Code.wp Try.prog (Code.cond _ _ _) _ _ _
  refine wp_mono (Q := fun ex a' w' => ex = .normal ∧ ∃ S', PS 83 w S [(4, .sl (byR l6))] S' a' w') ?_ fun ex a14 w14 hh => ?_
  · cases u4 with
    | false =>
      refine wp_cond_false t70 (wp_skip ⟨rfl, S13, ?_⟩)
      rw [hl6, if_neg (by simp), List.append_nil]
      exact (h13.dr rfl).sub (first1 rfl)
    | true =>
      obtain ⟨ad2, had2, hcell2⟩ := h13.cells (t := 7) e.op.vs.toList rfl
      refine wp_cond_true t70 (ro_region 83 rfl ad2 e.op.ref.R e.op.ref.N l5 (by omega) S13 h13.hi.lt rfl (by kernel_rfl) h13.hi.size had2 (h13.hi.slots 4 _ rfl).2 (hcell2 5 _ rfl) (hcell2 6 _ rfl) fun a15 w15 S15 hz15 hd15 hg15 hr15 ho15 => ?_)
      have h15 := (((((h13.dr rfl).dr rfl).reg hz15 hd15 roShape rfl ho15).out hg15)).add (d := 4) (by decide) _ (srep_of_rep hr15)
      refine ⟨rfl, S15, ?_⟩
      rw [hl6, if_pos rfl, ← List.append_assoc]
      exact h15.sub (first1 rfl)
  obtain ⟨rfl, S14, h14⟩ := hh
  clear h13
  have hend : l6 = encL e := by
    have e1 : u1 = (usesU e.op.kind).f := congrArg Us.f hU
    have e2 : u2 = (usesU e.op.kind).v := congrArg Us.v hU
    have e3 : u3 = (usesU e.op.kind).n := congrArg Us.n hU
    have e4 : u4 = (usesU e.op.kind).r := congrArg Us.r hU
    rw [hl6, hl5, hl4, hl3, hl2, hhs, encL, e1, e2, e3, e4]
  rw [hend] at h14
  obtain ⟨out, hout⟩ : ∃ r, r = byR (encL e) := ⟨_, rfl⟩
  rw [← hout] at h14 ⊢
  show Code.wp Try.prog (Code.seq _ _) _ _ _
  refine wp_seq (h14.pc (E := { n := 83 }) [(2, .sl out), (3, aI 0)] rfl (fun F C D hF hC => ?_) fun S16 a16 w16 h16 => ?_)
  · cbv
    exact ⟨100, (le_of [] (by simp [leSl, leOb, injK, memK, parK, noTup, lk, rn0, rnA, plain] <;> first | rfl | decide | (repeat (first | rfl | trivial | refine And.intro ?_ ?_))))⟩
  refine wp_ret ?_
  obtain ⟨q1, q2⟩ := h16.hi.slots 2 _ rfl
  obtain ⟨q3, q4⟩ := h16.hi.slots 3 _ rfl
  exact bodyPost_ret (results_tmp2 rfl _ _ _) h16.hi.defers ⟨_, S16, rfl, h16.gr, [_, _], rfl, Reps.cons q2 (Reps.cons q4 (Reps.nil _ _))⟩
end Go.Proofs.Ytdnaadcbimbfmaa
set_option linter.unusedSimpArgs false
set_option linter.unusedVariables false
namespace Go.Proofs.Ytdnaadcbimbfmaa
open Go Go.RowKit Am

theorem push_all (l : List UInt8) : ∀ s : ByteArray, ((l.map fun b : UInt8 => (b.toNat : Int)).foldl (fun r n => r.push (UInt8.ofNat n.toNat)) s) = BA (L s ++ l) := by
  induction l with
  | nil => intro s; simp [BA_L]
  | cons b l ih =>
    intro s
    simp only [List.map_cons, List.foldl_cons]
    rw [ih]
    congr 1
    have : L (s.push (UInt8.ofNat ((b.toNat : Int).toNat))) = L s ++ [b] := by simp [L, ByteArray.push]
    rw [this]; simp
/-- Bytes as a string. -/
theorem bs_ok (l : List UInt8) (rows : List (List AV)) (hr : rows = byR l) (r : ByteArray) (hrr : r = BA l) : CSem Try.prog (.conv 53 9) [.sl rows] (.pure [aS r]) := by
  subst hr hrr
  refine ⟨_, rfl, fun w S x hS hx => ⟨.string (BA l), w, S, ?_, Gr.refl hS, [_], rfl, Reps.cons (.c (.v _ rfl)) (Reps.nil _ _)⟩⟩
  have hx : RepC w S (.sl (byR l)) x := by cases hx with | c h => exact h
  generalize hR : byR l = rows at hx
  cases hx with
  | nil a c hn =>
    have : l = [] := by cases l <;> simp [byR] at hR; rfl
    subst this
    rw [run_convert_bytes_string (P := Try.prog) w 53 9 5 a 0 c (by kernel_rfl) (by kernel_rfl) (by kernel_rfl)]
    cases a with
    | none => rfl
    | some a =>
      have := run_bytesToString (P := Try.prog) w a 0 c [] (by simp [loadCells, loadCellsFrom])
      rw [this]; rfl
  | sl rows a c sz f ha hlen hc hm h h' =>
    rw [run_convert_bytes_string (P := Try.prog) w 53 9 5 (some a) rows.length c (by kernel_rfl) (by kernel_rfl) (by kernel_rfl)]
    have hlen2 : rows.length = (l.map fun b : UInt8 => Value.int .u8 (b.toNat : Int)).length := by rw [← hR]; simp [byR]
    have hl := run_loadCells_ok (P := Try.prog) (w := w) (b := a) (xs := l.map fun b : UInt8 => Value.int .u8 (b.toNat : Int)) (fun j x hj => ?_)
    · rw [← hlen2] at hl
      have e1 : (l.map fun b : UInt8 => Value.int .u8 (b.toNat : Int)) = (l.map fun b : UInt8 => (b.toNat : Int)).map (Value.int .u8) := by simp
      rw [e1] at hl
      rw [run_bytesToString (P := Try.prog) w a rows.length c _ hl, push_all]
      rfl
    · rw [List.getElem?_map] at hj
      cases hb : l[j]? with
      | none => rw [hb] at hj; simp at hj
      | some b =>
        rw [hb] at hj
        injection hj with hj
        subst hj
        have hrow : rows[j]? = some [aU b.toNat] := by rw [← hR]; exact byR_get hb
        have hsz : sz = 1 := (hlen _ (List.mem_of_getElem? hrow)).symm
        subst hsz
        have h1 := h j _ hrow 0 _ rfl
        have h2 := h' j _ hrow 0 _ rfl
        rw [Nat.mul_one, Nat.add_zero] at h1
        rw [h1]
        generalize f j 0 = y at h2
        cases h2
        rfl
theorem encL_len (e : Ev) (hz : e.op.key.size + e.op.fld.size + e.op.val.size ≤ 100000) (n0 : -9223372036854775808 ≤ e.op.num) (n1 : e.op.num ≤ 9223372036854775807) : (encL e).length ≤ e.op.key.size + e.op.fld.size + e.op.val.size + 300 := by
  have h1 := numL_len (hdrI e)
  have h1' : (hdrI e).length = 19 := rfl
  have h2 := vlq_len (uN e.op.kind) (uN_lt _)
  have txl : ∀ (s : ByteArray), s.size ≤ 100000 → (txtL s).length ≤ s.size + 10 := fun s hs => by
    have := vlq_len s.size (by omega)
    unfold txtL
    rw [List.length_append, ← L_size]
    omega
  have h3 := txl e.op.key (by omega)
  have h4 : (if (usesU e.op.kind).f = true then txtL e.op.fld else []).length ≤ e.op.fld.size + 10 := by split; exact txl _ (by omega); simp
  have h5 : (if (usesU e.op.kind).v = true then txtL e.op.val else []).length ≤ e.op.val.size + 10 := by split; exact txl _ (by omega); simp
  have h6 : (if (usesU e.op.kind).n = true then vlqL (zz e.op.num) else []).length ≤ 20 := by
    split
    · have := vlq_len (zz e.op.num) (by unfold zz; split <;> omega); omega
    · simp
  have h7 : (if (usesU e.op.kind).r = true then vlqL (uN e.op.ref.R) ++ vlqL (uN e.op.ref.N) else []).length ≤ 20 := by
    split
    · have := vlq_len _ (uN_lt e.op.ref.R); have := vlq_len _ (uN_lt e.op.ref.N); rw [List.length_append]; omega
    · simp
  unfold encL
  simp only [List.length_append]
  omega
/-- An event's bytes, as a text. -/
def evtL (e : Ev) : List UInt8 := txtL (BA (encL e))
structure EvOK (e : Ev) : Prop where
  rt : RightP e
  sz : e.op.key.size + e.op.fld.size + e.op.val.size ≤ 1000
  n0 : -9223372036854775808 ≤ e.op.num
  n1 : e.op.num ≤ 9223372036854775807
theorem evtL_len (e : Ev) (he : EvOK e) : (evtL e).length ≤ 1320 := by
  have h1 := encL_len e (by have := he.sz; omega) he.n0 he.n1
  have h2 := he.sz
  have hs : (BA (encL e)).size = (encL e).length := by show (encL e).toArray.size = _; simp
  have h3 := vlq_len (BA (encL e)).size (by omega)
  unfold evtL txtL
  rw [List.length_append, ← L_size]
  omega
set_option maxRecDepth 100000 in
theorem putEvent_ok (l : List UInt8) (hl : l.length ≤ 39000000) (e : Ev) (he : EvOK e) : CSem Try.prog (.fn 22) [.sl (byR l), .agg e.ac] (.own 5 1 (byR (l ++ evtL e)) []) := by
  obtain ⟨rows, hrows⟩ : ∃ rows, rows = byR l := ⟨_, rfl⟩
  obtain ⟨out, hout⟩ : ∃ out, out = byR (l ++ evtL e) := ⟨_, rfl⟩
  obtain ⟨bb, hbb⟩ : ∃ bb, bb = byR (encL e) := ⟨_, rfl⟩
  obtain ⟨s, hs⟩ : ∃ s, s = BA (encL e) := ⟨_, rfl⟩
  obtain ⟨ea, hea⟩ : ∃ ea, ea = e.ac := ⟨_, rfl⟩
  have hlen : ea.length = 26 := by rw [hea]; rfl
  have h1 := eEncode_ok e he.rt (by have := he.sz; omega) he.n0 he.n1
  have h2 := bs_ok (encL e) bb hbb s hs
  have h3 := putText_ok l (by omega) s (by rw [hs]; show (encL e).toArray.size ≤ _; have := encL_len e (by have := he.sz; omega) he.n0 he.n1; have := he.sz; simp; omega)
  rw [hs, ← evtL, ← hs, ← hrows, ← hout] at h3
  rw [← hbb] at h1
  rw [← hrows, ← hout]
  refine of_text gam_ok mixed { n := 16, keep := [15] } Try.func22 (by kernel_rfl) rfl rfl (by simp) (by decide) fun F C D hF hC hD => ?_
  have k1 := hC _ _ _ h1
  have k2 := hC _ _ _ h2
  have k3 := hC _ _ _ h3
  clear h1 h2 h3 hrows hout hbb hs hea hlen
  cbv
  refine ⟨_, k1, ?_⟩
  cbv
  refine ⟨_, k2, ?_⟩
  cbv
  refine ⟨_, _, _, _, k3, ?_⟩
  cbv
end Go.Proofs.Ytdnaadcbimbfmaa
set_option linter.unusedSimpArgs false
set_option linter.unusedVariables false
namespace Go.Proofs.Ytdnaadcbimbfmaa
open Go Go.RowKit Am

section
variable {n : Nat} {w0 w w' : World} {sl sl' : List (Nat × AV)} {S0 S S' : Nat → Prop} {a a' : Act}
theorem PS.pcg {E : En} {c : Code} {R : Exit → Act → World → Prop} (sl' : List (Nat × AV)) (h : PS E.n w0 S0 sl S a w) (hsl : (sl'.all fun q => fzA q.2) = true)
    (hw : ∀ (F : Sy) (C : Key → List AV → Res → Prop) (D : Code → (AE → St → Prop) → St → Prop), F = sy → (∀ k ar r, CSem Try.prog k ar r → C k ar r) → awp F C D E c (fun e s => match e with | .normal => ∃ ct, Le s { slots := sl', obs := [], ctr := ct } | _ => False) { slots := sl, obs := [], ctr := 0 })
    (k : ∀ S' a' w', PS E.n w0 S0 sl' S' a' w' → Gr w S w' S' → R .normal a' w') : c.wp Try.prog R a w :=
  Ytdnaadcbimbfmaa.pc sl' h.hi (fun q hq => List.all_eq_true.1 hsl q hq) hw fun S' a' w' h1 h2 => k S' a' w' ⟨h1, h.gr.trans h2⟩ h2
theorem PS.pclg {E : En} {ops : Array Oper} {rest : List Oper} {R : Exit → Act → World → Prop} (sl' : List (Nat × AV)) (h : PS E.n w0 S0 sl S a w) (hsl : (sl'.all fun q => fzA q.2) = true)
    (hw : ∀ (F : Sy) (C : Key → List AV → Res → Prop), F = sy → (∀ k ar r, CSem Try.prog k ar r → C k ar r) → aops F C E ops.toList rest (fun s => ∃ ct, Le s { slots := sl', obs := [], ctr := ct }) { slots := sl, obs := [], ctr := 0 })
    (k : ∀ S' a' w', PS E.n w0 S0 sl' S' a' w' → Gr w S w' S' → R .normal a' w') : wpList Try.prog ops R rest a w :=
  Ytdnaadcbimbfmaa.pcl sl' h.hi (fun q hq => List.all_eq_true.1 hsl q hq) hw fun S' a' w' h1 h2 => k S' a' w' ⟨h1, h.gr.trans h2⟩ h2
theorem PS.preg {E : En} {ops : Array Oper} {l : List Oper} {R : Exit → Act → World → Prop} (m : Nat) (sl' : List (Nat × AV)) (h : PS E.n w0 S0 sl S a w) (hsl : (sl'.all fun q => fzA q.2) = true)
    (hw : ∀ (F : Sy) (C : Key → List AV → Res → Prop), F = sy → (∀ k ar r, CSem Try.prog k ar r → C k ar r) → aops F C E ops.toList (l.take m) (fun s => ∃ ct, Le s { slots := sl', obs := [], ctr := ct }) { slots := sl, obs := [], ctr := 0 })
    (k : ∀ S' a' w', PS E.n w0 S0 sl' S' a' w' → Gr w S w' S' → wpList Try.prog ops R (l.drop m) a' w') : wpList Try.prog ops R l a w :=
  wpList_pre m (h.pclg sl' hsl hw fun S' a' w' h' hg => k S' a' w' h' hg)
end
theorem bNewE_W (w : World) : Calls Try.prog 43 #[] w fun r w' => r = .returned (.pointer (some ⟨w.heap.size, 0, none⟩)) ∧ w' = w.alloc (.cells #[.slice none 0 0] 77) := by
  have h1 : (Instr.build 77 #[]).run Try.prog w = .ok (.agg #[.slice none 0 0]) w := by kernel_rfl
  go_enter Try.func43, Try.ntmps43
  go_wp2
  go_ret
  exact ⟨rfl, rfl⟩
theorem bNewT_W (w : World) : Calls Try.prog 44 #[] w fun r w' => r = .returned (.pointer (some ⟨w.heap.size, 0, none⟩)) ∧ w' = w.alloc (.cells #[.slice none 0 0] 79) := by
  have h1 : (Instr.build 79 #[]).run Try.prog w = .ok (.agg #[.slice none 0 0]) w := by kernel_rfl
  go_enter Try.func44, Try.ntmps44
  go_wp2
  go_ret
  exact ⟨rfl, rfl⟩
theorem rise_ext {α : Type} {d : α → Dt} {l m : List α} (hl : Rise d l) (hm : Rise d m) (h : ∀ a, a ∈ l ↔ a ∈ m) : l = m := by
  have nd : ∀ {k : List α}, Rise d k → k.Nodup := fun {k} hk => by
    have := rise_nodup hk
    exact (List.pairwise_map.1 this).imp fun h e => h (by rw [e])
  exact rise_perm hl hm ((List.perm_ext_iff_of_nodup (nd hl) (nd hm)).2 h)
/-- Two bags of the call's own, and an iterator. -/
structure BG (B : Nat) (S : Nat → Prop) (o : Nat → Option Nat) (b1 b2 : Nat) (v1 v2 : Value) (l1 : List Ev) (l2 : List ElT) (w : World) : Prop where
  dom : ∀ g t, o g = some t → B ≤ g ∧ g < w.heap.size ∧ ¬ S g
  o1 : o b1 = some 1
  o2 : o b2 = some 2
  w1 : ∀ g, v1.ownBlock = some g → o g = some 1
  w2 : ∀ g, v2.ownBlock = some g → o g = some 2
  c1 : w.heap[b1]? = some (.cells #[v1] 77 (0, 0))
  c2 : w.heap[b2]? = some (.cells #[v2] 79 (0, 0))
  r1 : w.ownsRow 0 65 28 v1 l1.length (l1.map itvE).flatten
  r2 : w.ownsRow 0 72 30 v2 l2.length (l2.map itvT).flatten
  n1 : v1.ownBlock ≠ some b1
  n2 : v2.ownBlock ≠ some b2
section
variable {B b1 b2 : Nat} {S S' : Nat → Prop} {o : Nat → Option Nat} {v1 v2 : Value} {l1 : List Ev} {l2 : List ElT} {w w' : World}
theorem BG.grow (h : BG B S o b1 b2 v1 v2 l1 l2 w) (hg : Gr w S w' S') : BG B S' o b1 b2 v1 v2 l1 l2 w' := by
  have hb : ∀ g t, o g = some t → w'.heap[g]? = w.heap[g]? := fun g t hg' => hg.below.block g (h.dom g t hg').2.1
  exact ⟨fun g t hg' => ⟨(h.dom g t hg').1, Nat.lt_of_lt_of_le (h.dom g t hg').2.1 hg.below.size, fun hs => (hg.new g hs).elim (h.dom g t hg').2.2 fun h2 => by have := (h.dom g t hg').2.1; omega⟩, h.o1, h.o2, h.w1, h.w2, (hb _ _ h.o1).trans h.c1, (hb _ _ h.o2).trans h.c2, ownsRow.keep h.r1 fun g hg' => hb g _ (h.w1 g hg'), ownsRow.keep h.r2 fun g hg' => hb g _ (h.w2 g hg'), h.n1, h.n2⟩
theorem BG.bag1 (h : BG B S o b1 b2 v1 v2 l1 l2 w) : BagAt w 65 28 b1 0 v1 l1.length (l1.map itvE).flatten ∧ w.frozen? ⟨b1, 0, none⟩ = false := ⟨⟨by rw [cell_of_row _ _ 0 _ _ _ h.c1]; rfl, h.r1, h.n1⟩, by simp [World.frozen?, h.c1]⟩
theorem BG.bag2 (h : BG B S o b1 b2 v1 v2 l1 l2 w) : BagAt w 72 30 b2 0 v2 l2.length (l2.map itvT).flatten ∧ w.frozen? ⟨b2, 0, none⟩ = false := ⟨⟨by rw [cell_of_row _ _ 0 _ _ _ h.c2]; rfl, h.r2, h.n2⟩, by simp [World.frozen?, h.c2]⟩
/-- One bag is written. -/
theorem BG.put1 (h : BG B S o b1 b2 v1 v2 l1 l2 w) (hB : B ≤ w.heap.size) (hS : ∀ g, S g → g < w.heap.size) {v' : Value} {l' : List Ev} (hb : BagAt w' 65 28 b1 0 v' l'.length (l'.map itvE).flatten) (hk : BagK b1 0 v1 v' w w') : ∃ o', BG B S o' b1 b2 v' v2 l' l2 w' ∧ (∀ g t, o g = some t → o' g = some t) ∧ (∀ g, g < w.heap.size → o g ≠ some 1 → w'.heap[g]? = w.heap[g]?) := by
  have hold : ∀ g, g < w.heap.size → o g ≠ some 1 → w'.heap[g]? = w.heap[g]? := fun g hg hn => hk.block g hg (fun e => hn (e ▸ h.o1)) (fun e => hn (h.w1 g e))
  have hnb : ∀ g, v'.ownBlock = some g → o g = some 1 ∨ (o g = none ∧ w.heap.size ≤ g) := fun g hg => by
    rcases hk.own with e | e
    · exact .inl (h.w1 g (e ▸ hg))
    · have := e g hg
      refine .inr ⟨?_, this⟩
      cases hog : o g with
      | none => rfl
      | some t => have := (h.dom g t hog).2.1; omega
  have hx : ∀ g t, o g = some t → (if v'.ownBlock = some g then some 1 else o g) = some t := fun g t hg => by
    split
    · rename_i e
      rcases hnb g e with h1 | ⟨h1, _⟩
      · rw [h1] at hg; exact hg
      · rw [h1] at hg; cases hg
    · exact hg
  refine ⟨fun g => if v'.ownBlock = some g then some 1 else o g, ⟨fun g t hg => ?_, hx _ _ h.o1, hx _ _ h.o2, fun g hg => if_pos hg, fun g hg => hx _ _ (h.w2 g hg), ?_, ?_, hb.own, ownsRow.keep h.r2 fun g hg => hold g (h.dom g _ (h.w2 g hg)).2.1 (by rw [h.w2 g hg]; simp), hb.ne, h.n2⟩, hx, hold⟩
  · have hg : (if v'.ownBlock = some g then some 1 else o g) = some t := hg
    split at hg
    · rename_i e
      have hlt := hb.blk g e
      rcases hnb g e with h1 | ⟨_, h1⟩
      · exact ⟨(h.dom g _ h1).1, hlt, (h.dom g _ h1).2.2⟩
      · exact ⟨by omega, hlt, fun hs => by have := hS g hs; omega⟩
    · exact ⟨(h.dom g t hg).1, Nat.lt_of_lt_of_le (h.dom g t hg).2.1 hk.size, (h.dom g t hg).2.2⟩
  · exact hk.blk _ _ _ h.c1
  · exact (hold b2 (h.dom _ _ h.o2).2.1 (by rw [h.o2]; simp)).trans h.c2
theorem BG.put2 (h : BG B S o b1 b2 v1 v2 l1 l2 w) (hB : B ≤ w.heap.size) (hS : ∀ g, S g → g < w.heap.size) {v' : Value} {l' : List ElT} (hb : BagAt w' 72 30 b2 0 v' l'.length (l'.map itvT).flatten) (hk : BagK b2 0 v2 v' w w') : ∃ o', BG B S o' b1 b2 v1 v' l1 l' w' ∧ (∀ g t, o g = some t → o' g = some t) ∧ (∀ g, g < w.heap.size → o g ≠ some 2 → w'.heap[g]? = w.heap[g]?) := by
  have hold : ∀ g, g < w.heap.size → o g ≠ some 2 → w'.heap[g]? = w.heap[g]? := fun g hg hn => hk.block g hg (fun e => hn (e ▸ h.o2)) (fun e => hn (h.w2 g e))
  have hnb : ∀ g, v'.ownBlock = some g → o g = some 2 ∨ (o g = none ∧ w.heap.size ≤ g) := fun g hg => by
    rcases hk.own with e | e
    · exact .inl (h.w2 g (e ▸ hg))
    · have := e g hg
      refine .inr ⟨?_, this⟩
      cases hog : o g with
      | none => rfl
      | some t => have := (h.dom g t hog).2.1; omega
  have hx : ∀ g t, o g = some t → (if v'.ownBlock = some g then some 2 else o g) = some t := fun g t hg => by
    split
    · rename_i e
      rcases hnb g e with h1 | ⟨h1, _⟩
      · rw [h1] at hg; exact hg
      · rw [h1] at hg; cases hg
    · exact hg
  refine ⟨fun g => if v'.ownBlock = some g then some 2 else o g, ⟨fun g t hg => ?_, hx _ _ h.o1, hx _ _ h.o2, fun g hg => hx _ _ (h.w1 g hg), fun g hg => if_pos hg, ?_, ?_, ownsRow.keep h.r1 fun g hg => hold g (h.dom g _ (h.w1 g hg)).2.1 (by rw [h.w1 g hg]; simp), hb.own, h.n1, hb.ne⟩, hx, hold⟩
  · have hg : (if v'.ownBlock = some g then some 2 else o g) = some t := hg
    split at hg
    · rename_i e
      have hlt := hb.blk g e
      rcases hnb g e with h1 | ⟨_, h1⟩
      · exact ⟨(h.dom g _ h1).1, hlt, (h.dom g _ h1).2.2⟩
      · exact ⟨by omega, hlt, fun hs => by have := hS g hs; omega⟩
    · exact ⟨(h.dom g t hg).1, Nat.lt_of_lt_of_le (h.dom g t hg).2.1 hk.size, (h.dom g t hg).2.2⟩
  · exact (hold b1 (h.dom _ _ h.o1).2.1 (by rw [h.o1]; simp)).trans h.c1
  · exact hk.blk _ _ _ h.c2
end
/-- Beside blocks of the call's own something has been written. -/
theorem PS.outK {n : Nat} {w0 w w' : World} {S0 S : Nat → Prop} {sl : List (Nat × AV)} {a : Act} {o : Nat → Option Nat} (h : PS n w0 S0 sl S a w) (hd : ∀ g t, o g = some t → w0.heap.size ≤ g ∧ g < w.heap.size ∧ ¬ S g) (hos : w'.os = w.os) (ht : w'.tape = w.tape) (hout : w'.output = w.output) (hz : w.heap.size ≤ w'.heap.size) (t : Nat) (hold : ∀ g, g < w.heap.size → o g ≠ some t → w'.heap[g]? = w.heap[g]?) : PS n w0 S0 sl S a w' :=
  ⟨h.hi.out (fun g hg => hold g (h.hi.lt g hg) fun e => (hd g _ e).2.2 hg) hz, ⟨⟨hos.trans h.gr.below.os, ht.trans h.gr.below.tape, hout.trans h.gr.below.output, Nat.le_trans h.gr.below.size hz, fun k hk => (hold k (Nat.lt_of_lt_of_le hk h.gr.below.size) fun e => by have := (hd k _ e).1; omega).trans (h.gr.below.block k hk)⟩, h.gr.sub, h.gr.new, fun g hg => Nat.lt_of_lt_of_le (h.gr.lt g hg) hz⟩⟩
end Go.Proofs.Ytdnaadcbimbfmaa
