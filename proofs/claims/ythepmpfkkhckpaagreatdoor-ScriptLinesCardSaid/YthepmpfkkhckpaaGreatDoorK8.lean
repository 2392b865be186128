import Derived.Test.YthepmpfkkhckpaaGreatDoorK7
set_option linter.unusedSimpArgs false
set_option linter.unusedVariables false
namespace Go.Proofs.YthepmpfkkhckpaaGreatDoor
open Go Go.RowKit Am

/-! ### The region 'out += " " + strings.NewReplacer(..).Replace(a.Bytes)' -/
def need7 : Nat → List Nat
  | 2 => [1] | 4 => [3] | 5 => [2, 4] | 6 => [5] | 7 => [0, 6] | 8 => [7] | _ => []
def shape7 : List (Option Nat × Op) := [(some 40, .move (.tmp 5)), (some 41, .buildSlice 44 4 #[(0, .const (.string ⟨#[13]⟩)), (1, .const (.string ⟨#[124]⟩)), (2, .const (.string ⟨#[10]⟩)), (3, .const (.string ⟨#[124]⟩))]),
  (some 42, .call { callee := .value (.func 11), args := #[.tmp 41], argTypes := #[44] }), (some 43, .fieldAddr 29 (.tmp 3) 1), (some 44, .load 9 (.tmp 43)), (some 45, .call { callee := .value (.func 12), args := #[.tmp 42, .tmp 44], argTypes := #[41, 9] }),
  (some 46, .binOp .add 9 (.const (.string ⟨#[32]⟩)) (.tmp 45) 9), (some 47, .binOp .add 9 (.tmp 40) (.tmp 46) 9), (some 5, .assign (.tmp 47))]
def deps7 (ops : List Oper) : Bool := (List.range 9).all fun i => match ops[i]? with
  | none => false
  | some o => o.guard.isNone && (o.after.all fun e => Nat.blt e.on i) && (need7 i).all fun j => o.after.any fun e => Nat.beq e.on j && Region.binds .any e
def P1 (a : Act) (w : World) : Prop := ∃ sb0 c0, a.tmps.getD 41 undef = .slice (some ⟨sb0, 0, none⟩) 4 c0 ∧ sb0 < w.heap.size ∧ ∀ j v, crlfV[j]? = some v → w.cell? ⟨sb0, j, none⟩ = some v
def P2 (B : Nat) (a : Act) (w : World) : Prop := ∃ b sb c, a.tmps.getD 42 undef = .pointer (some ⟨b, 0, none⟩) ∧ B ≤ b ∧ sb < w.heap.size ∧ sb ≠ b ∧ w.heap[b]? = some (.cells (repA 0 0 .nilIface (.slice (some ⟨sb, 0, none⟩) 4 c)) 66 (0, 0)) ∧ ∀ j v, crlfV[j]? = some v → w.cell? ⟨sb, j, none⟩ = some v
structure RI (val : Nat → Value) (W : World) (a0 : Act) (L : Array Bool) (a : Act) (w : World) : Prop where
  size : a.tmps.size = 69
  defers : a.defers = a0.defers
  keep : ∀ t, t < 40 → t ≠ 5 → a.tmps.getD t undef = a0.tmps.getD t undef
  vals : ∀ i, i < 8 → i ≠ 1 → i ≠ 2 → L.getD i false = true → a.tmps.getD (40 + i) undef = val i
  t5 : L.getD 8 false = false → a.tmps.getD 5 undef = a0.tmps.getD 5 undef
  t5' : L.getD 8 false = true → a.tmps.getD 5 undef = val 7
  cl : ∀ i j, j ∈ need7 i → L.getD i false = true → L.getD j false = true
  below : Below W.heap.size W w
  st1 : L.getD 1 false = true → L.getD 2 false = false → P1 a w
  st2 : L.getD 2 false = true → L.getD 5 false = false → P2 W.heap.size a w
theorem RI.step {val : Nat → Value} {W : World} {a0 : Act} {L : Array Bool} {a : Act} {w w' : World} (h : RI val W a0 L a w) (hs : L.size = 9) {i : Nat} (hi : i < 8) (hun : L.getD i false = false) (hd : ∀ j ∈ need7 i, L.getD j false = true) {v : Value} (hv : i ≠ 1 → i ≠ 2 → v = val i) (hb : Below W.heap.size W w')
    (h1 : (L.setIfInBounds i true).getD 1 false = true → (L.setIfInBounds i true).getD 2 false = false → P1 (a.put (some (40 + i)) v) w') (h2 : (L.setIfInBounds i true).getD 2 false = true → (L.setIfInBounds i true).getD 5 false = false → P2 W.heap.size (a.put (some (40 + i)) v) w') :
    RI val W a0 (L.setIfInBounds i true) (a.put (some (40 + i)) v) w' := by
  have g : ∀ j, (L.setIfInBounds i true).getD j false = if i = j then true else L.getD j false := fun j => getD_setT L i j (by omega)
  have n8 : L.getD 8 false = false := by
    cases h8 : L.getD 8 false with
    | false => rfl
    | true =>
      have l7 := h.cl 8 7 (by simp [need7]) h8
      have l0 := h.cl 7 0 (by simp [need7]) l7
      have l6 := h.cl 7 6 (by simp [need7]) l7
      have l5 := h.cl 6 5 (by simp [need7]) l6
      have l2 := h.cl 5 2 (by simp [need7]) l5
      have l4 := h.cl 5 4 (by simp [need7]) l5
      have l1 := h.cl 2 1 (by simp [need7]) l2
      have l3 := h.cl 4 3 (by simp [need7]) l4
      obtain rfl | rfl | rfl | rfl | rfl | rfl | rfl | rfl : i = 0 ∨ i = 1 ∨ i = 2 ∨ i = 3 ∨ i = 4 ∨ i = 5 ∨ i = 6 ∨ i = 7 := by omega
      all_goals simp_all
  have n8' : (L.setIfInBounds i true).getD 8 false = false := by rw [g, if_neg (by omega)]; exact n8
  refine ⟨by rw [put_size]; exact h.size, by rw [put_defers]; exact h.defers, fun t ht h5 => ?_, fun j hj j1 j2 hl => ?_, fun _ => ?_, fun h8 => ?_, fun k j hj hl => ?_, hb, h1, h2⟩
  · rw [getD_put _ _ _ _ (by rw [h.size]; omega), if_neg (by omega)]; exact h.keep t ht h5
  · rw [getD_put _ _ _ _ (by rw [h.size]; omega)]
    by_cases hij : i = j
    · subst hij; rw [if_pos rfl]; exact hv j1 j2
    · rw [if_neg (by omega)]
      rw [g, if_neg hij] at hl
      exact h.vals j hj j1 j2 hl
  · rw [getD_put _ _ _ _ (by rw [h.size]; omega), if_neg (by omega)]; exact h.t5 n8
  · rw [n8'] at h8; cases h8
  · rw [g] at hl ⊢
    by_cases hij : i = j
    · rw [if_pos hij]
    · rw [if_neg hij]
      by_cases hik : i = k
      · subst hik; exact hd j hj
      · rw [if_neg hik] at hl; exact h.cl k j hj hl
/-- A quiet operation. -/
theorem RI.quiet {val : Nat → Value} {W : World} {a0 : Act} {L : Array Bool} {a : Act} {w : World} (h : RI val W a0 L a w) (hs : L.size = 9) {i : Nat} (hi : i < 8) (n1 : i ≠ 1) (n2 : i ≠ 2) (n5 : i ≠ 5) (hun : L.getD i false = false) (hd : ∀ j ∈ need7 i, L.getD j false = true) :
    RI val W a0 (L.setIfInBounds i true) (a.put (some (40 + i)) (val i)) w := by
  have g : ∀ j, (L.setIfInBounds i true).getD j false = if i = j then true else L.getD j false := fun j => getD_setT L i j (by omega)
  refine h.step hs hi hun hd (fun _ _ => rfl) h.below (fun h1 h2 => ?_) (fun h1 h2 => ?_)
  · rw [g, if_neg n1] at h1
    rw [g, if_neg n2] at h2
    obtain ⟨sb0, c0, e1, e2⟩ := h.st1 h1 h2
    exact ⟨sb0, c0, by rw [getD_put _ _ _ _ (by rw [h.size]; omega), if_neg (by omega)]; exact e1, e2⟩
  · rw [g, if_neg n2] at h1
    rw [g, if_neg n5] at h2
    obtain ⟨b, sb, c, e1, e2⟩ := h.st2 h1 h2
    exact ⟨b, sb, c, by rw [getD_put _ _ _ _ (by rw [h.size]; omega), if_neg (by omega)]; exact e1, e2⟩
theorem run_loadStr {w : World} {ad : Addr} {s : ByteArray} (h : w.cell? ad = some (.string s)) : (Instr.loadAt 9 (.pointer (some ad))).run Tryz.prog w = .ok (.string s) w := by
  have h9 := (gam_ok 9 _ rfl).agg
  simp [Instr.loadAt, Instr.sureAddr, loadVar, h9, show ti9.agg = false from rfl, load, Sem.run, h]
theorem run_cat {a : Act} {o : Oper} {w : World} {x y : Operand} {s q : ByteArray} {v : Value} (hop : o.op = .binOp .add 9 x y 9) (hx : a.eval x = .string s) (hy : a.eval y = .string q) (h : s.size + q.size ≤ 1000000000) (hv : v = .string (s ++ q)) : (execOp a.eval o).run Tryz.prog w = .ok (.value v) w := by
  have h' : (s.size : Int) + (q.size : Int) ≤ 9223372036854775807 := by omega
  have : ¬ (((s.size + q.size : Nat) : Int) > IntKind.i64.max) := by
    have : IntKind.i64.max = 9223372036854775807 := by decide
    omega
  simp only [execOp, hop, hx, hy, hv]
  simp [eqGuard, binOp, Op.stringOp]
  exact h'
theorem getD_replicate_false (n j : Nat) : (Array.replicate n false).getD j false = false := by
  rw [Array.getD_eq_getD_getElem?, Array.getElem?_replicate]
  split <;> rfl
set_option maxHeartbeats 4000000 in
theorem rep_region {id : Nat} {ops : List Oper} {Q : Exit → Act → World → Prop} {a0 : Act} {w : World} (hops : ops.map (fun o => (o.dst, o.op)) = shape7) (hdep : deps7 ops = true) (hz : a0.tmps.size = 69) (ad : Addr) (o s : ByteArray) (hos : o.size ≤ 1000000) (hss : s.size ≤ 100000)
    (h3 : a0.tmps.getD 3 undef = .pointer (some ad)) (hb3 : ad.block < w.heap.size) (h5 : a0.tmps.getD 5 undef = .string o) (hcell : w.cell? (ad.add 1) = some (.string s))
    (hQ : ∀ a' w', a'.tmps.size = 69 → a'.defers = a0.defers → Below w.heap.size w w' → a'.tmps.getD 5 undef = .string (o ++ (⟨#[32]⟩ ++ lineB s)) → Q .normal a' w') : (Code.region id ops.toArray true).wp Tryz.prog Q a0 w := by
  have hlen : ops.length = 9 := by have := congrArg List.length hops; simpa [shape7] using this
  have hat : ∀ (i : Nat) (o : Oper), ops[i]? = some o → o.guard = none ∧ (∀ e ∈ o.after, e.on < i) ∧ (∀ j ∈ need7 i, ∃ e ∈ o.after, e.on = j ∧ Region.binds .any e = true) ∧ shape7[i]? = some (o.dst, o.op) := fun i o ho => by
    have hi : i < 9 := by rw [← hlen]; exact (List.getElem?_eq_some_iff.1 ho).1
    have h1 := List.all_eq_true.1 hdep i (List.mem_range.2 hi)
    rw [ho] at h1
    simp only [Bool.and_eq_true, Option.isNone_iff_eq_none, Array.all_eq_true', List.all_eq_true, Array.any_eq_true'] at h1
    obtain ⟨⟨h1, h2⟩, h3⟩ := h1
    refine ⟨h1, fun e he => by have := h2 e he; simpa [Nat.blt_eq] using this, fun j hj => ?_, by rw [← hops, List.getElem?_map, ho]; rfl⟩
    obtain ⟨e, he, h4⟩ := h3 j hj
    exact ⟨e, he, by simpa using h4.1, h4.2⟩
  obtain ⟨W, hW⟩ : ∃ W, W = { w with drawn := w.drawn + 1 } := ⟨_, rfl⟩
  have hWs : W.heap = w.heap := by rw [hW]
  have hls : (lineB s).size = s.size := by unfold lineB; rw [BA_size, List.length_map, L_size]
  obtain ⟨val, v0, v3, v4, v5, v6, v7⟩ : ∃ val : Nat → Value, val 0 = .string o ∧ val 3 = .pointer (some (ad.add 1)) ∧ val 4 = .string s ∧ val 5 = .string (lineB s) ∧ val 6 = .string (⟨#[32]⟩ ++ lineB s) ∧ val 7 = .string (o ++ (⟨#[32]⟩ ++ lineB s)) :=
    ⟨fun i => match i with | 0 => .string o | 3 => .pointer (some (ad.add 1)) | 4 => .string s | 5 => .string (lineB s) | 6 => .string (⟨#[32]⟩ ++ lineB s) | _ => .string (o ++ (⟨#[32]⟩ ++ lineB s)), rfl, rfl, rfl, rfl, rfl, rfl⟩
  refine region_inv mixed (fun i o ho => (hat i o (by simpa using ho)).2.1) (RI val W a0) ?_ ?_ ?_
  · rw [← hW]
    have hr : ∀ j, (Array.replicate ops.toArray.size false).getD j false = false := fun j => getD_replicate_false _ j
    refine ⟨hz, rfl, fun _ _ _ => rfl, fun i _ _ _ h => ?_, fun _ => rfl, fun h => ?_, fun i j _ h => ?_, Below.refl _ _, fun h => ?_, fun h => ?_⟩
    all_goals (rw [hr] at h; cases h)
  · intro L a w' i o1 hs hI ho hun hwait
    obtain ⟨hg, _, hneed, hsh⟩ := hat i o1 (by simpa using ho)
    refine ⟨by simp [Region.wanted, hg], ?_⟩
    have hun' := getD_un hun
    have hs9 : L.size = 9 := by rw [hs]; simpa using hlen
    have hd : ∀ j ∈ need7 i, L.getD j false = true := fun j hj => by
      obtain ⟨e, he, h1, h2⟩ := hneed j hj
      rw [← h1]; exact hwait e he h2
    have hi9 : i < 9 := by rw [← hlen]; exact (List.getElem?_eq_some_iff.1 (by simpa using ho)).1
    have g : ∀ j, (L.setIfInBounds i true).getD j false = if i = j then true else L.getD j false := fun j => getD_setT L i j (by omega)
    have t3 : a.eval (.tmp 3) = .pointer (some ad) := (hI.keep 3 (by omega) (by omega)).trans h3
    obtain rfl | rfl | rfl | rfl | rfl | rfl | rfl | rfl | rfl : i = 0 ∨ i = 1 ∨ i = 2 ∨ i = 3 ∨ i = 4 ∨ i = 5 ∨ i = 6 ∨ i = 7 ∨ i = 8 := by omega
    · obtain ⟨hdst, hop⟩ := Prod.mk.inj (Option.some.inj (show some (some 40, Op.move (.tmp 5)) = some (o1.dst, o1.op) from hsh))
      have n8 : L.getD 8 false = false := by
        cases h8 : L.getD 8 false with
        | false => rfl
        | true => rw [hI.cl 7 0 (by simp [need7]) (hI.cl 8 7 (by simp [need7]) h8)] at hun'; cases hun'
      have t5 : a.eval (.tmp 5) = val 0 := (hI.t5 n8).trans (h5.trans v0.symm)
      refine exec_val (v := val 0) (w' := w') (by simp [execOp, ← hop, t5]) ?_
      rw [← hdst]
      exact hI.quiet hs9 (i := 0) (by omega) (by omega) (by omega) (by omega) hun' hd
    · obtain ⟨hdst, hop⟩ := Prod.mk.inj (Option.some.inj (show some (some 41, _) = some (o1.dst, o1.op) from hsh))
      refine exec_val (lit4 a o1 w' hop.symm) ?_
      rw [← hdst]
      have hnew : ∀ j v, crlfV[j]? = some v → (w'.alloc (.cells crlfV.toArray 9 (0, 0))).cell? ⟨w'.heap.size, j, none⟩ = some v := fun j v hj => cell_at (heap_alloc_last w' _) j (by rw [List.getElem?_toArray]; exact hj)
      refine hI.step hs9 (i := 1) (by omega) hun' hd (fun h => absurd rfl h) (hI.below.alloc hI.below.size _) (fun _ _ => ⟨w'.heap.size, 4, ?_, by simp, hnew⟩) (fun h1 _ => ?_)
      · rw [getD_put _ _ _ _ (by rw [hI.size]; omega), if_pos rfl]
      · rw [g, if_neg (by omega)] at h1
        rw [hI.cl 2 1 (by simp [need7]) h1] at hun'; cases hun'
    · obtain ⟨hdst, hop⟩ := Prod.mk.inj (Option.some.inj (show some (some 42, Op.call { callee := .value (.func 11), args := #[.tmp 41], argTypes := #[44] }) = some (o1.dst, o1.op) from hsh))
      obtain ⟨sb0, c0, e1, e2, e3⟩ := hI.st1 (hd 1 (by simp [need7])) hun'
      have hen := run_call (P := Tryz.prog) (a := a) (w := w') (g := 11) (caps := []) hop.symm rfl (enterT Tryz.func11 (by kernel_rfl) rfl)
      have e1' : a.eval (.tmp 41) = .slice (some ⟨sb0, 0, none⟩) 4 c0 := e1
      simp only [List.map_cons, List.map_nil, List.append_nil, e1'] at hen
      refine wp_enter hen ((newRep_ok sb0 c0 w' e2 e3).mono ?_)
      rintro e w2 ⟨b, sb, c, rfl, hbl, hB, hsb, hne, hat2, hcs⟩
      refine ⟨_, rfl, ?_⟩
      rw [← hdst]
      refine hI.step hs9 (i := 2) (by omega) hun' hd (fun _ h => absurd rfl h) (hI.below.trans (hbl.mono hI.below.size)) (fun _ h => ?_) (fun _ _ => ⟨b, sb, c, ?_, Nat.le_trans hI.below.size hB, hsb, hne, hat2, hcs⟩)
      · rw [g, if_pos rfl] at h; cases h
      · rw [getD_put _ _ _ _ (by rw [hI.size]; omega), if_pos rfl]
    · obtain ⟨hdst, hop⟩ := Prod.mk.inj (Option.some.inj (show some (some 43, Op.fieldAddr 29 (.tmp 3) 1) = some (o1.dst, o1.op) from hsh))
      have hf := (gam_ok 29 _ rfl).offs 1 1 1 rfl
      refine exec_val (v := val 3) (w' := w') (by simp [execOp, ← hop, t3, hf, v3]) ?_
      rw [← hdst]
      exact hI.quiet hs9 (i := 3) (by omega) (by omega) (by omega) (by omega) hun' hd
    · obtain ⟨hdst, hop⟩ := Prod.mk.inj (Option.some.inj (show some (some 44, Op.load 9 (.tmp 43)) = some (o1.dst, o1.op) from hsh))
      have e3 : a.eval (.tmp 43) = .pointer (some (ad.add 1)) := (hI.vals 3 (by omega) (by omega) (by omega) (hd 3 (by simp [need7]))).trans v3
      have hc : w'.cell? (ad.add 1) = some (.string s) := by
        rw [hI.below.cell (by rw [add_block, hWs]; exact hb3), World.cell?_of_block (w := w) (by rw [hWs])]
        exact hcell
      have hld := run_loadStr hc
      refine exec_val (v := val 4) (w' := w') (by simp [execOp, ← hop, e3, hld, v4]) ?_
      rw [← hdst]
      exact hI.quiet hs9 (i := 4) (by omega) (by omega) (by omega) (by omega) hun' hd
    · obtain ⟨hdst, hop⟩ := Prod.mk.inj (Option.some.inj (show some (some 45, Op.call { callee := .value (.func 12), args := #[.tmp 42, .tmp 44], argTypes := #[41, 9] }) = some (o1.dst, o1.op) from hsh))
      obtain ⟨b, sb, c, e1, e2, e3, e4, e5, e6⟩ := hI.st2 (hd 2 (by simp [need7])) hun'
      have e44 : a.eval (.tmp 44) = .string s := (hI.vals 4 (by omega) (by omega) (by omega) (hd 4 (by simp [need7]))).trans v4
      have e42 : a.eval (.tmp 42) = .pointer (some ⟨b, 0, none⟩) := e1
      have hen := run_call (P := Tryz.prog) (a := a) (w := w') (g := 12) (caps := []) hop.symm rfl (enterT Tryz.func12 (by kernel_rfl) rfl)
      simp only [List.map_cons, List.map_nil, List.append_nil, e42, e44] at hen
      refine wp_enter hen ((replace_ok b sb c s hss w' e3 e4 e5 (e6 0 _ rfl) (e6 1 _ rfl) (e6 2 _ rfl) (e6 3 _ rfl)).mono ?_)
      rintro e w2 ⟨rfl, hbl⟩
      refine ⟨_, rfl, ?_⟩
      rw [← hdst]
      refine hI.step hs9 (i := 5) (by omega) hun' hd (fun _ _ => v5.symm) (hI.below.trans (Below.mono hbl e2)) (fun h1 h2 => ?_) (fun _ h => ?_)
      · rw [g, if_neg (by omega)] at h2
        rw [hd 2 (by simp [need7])] at h2; cases h2
      · rw [g, if_pos rfl] at h; cases h
    · obtain ⟨hdst, hop⟩ := Prod.mk.inj (Option.some.inj (show some (some 46, Op.binOp .add 9 (.const (.string ⟨#[32]⟩)) (.tmp 45) 9) = some (o1.dst, o1.op) from hsh))
      have e45 : a.eval (.tmp 45) = .string (lineB s) := (hI.vals 5 (by omega) (by omega) (by omega) (hd 5 (by simp [need7]))).trans v5
      refine exec_val (v := val 6) (w' := w') (run_cat hop.symm rfl e45 (by rw [hls]; show 1 + s.size ≤ _; omega) v6) ?_
      rw [← hdst]
      exact hI.quiet hs9 (i := 6) (by omega) (by omega) (by omega) (by omega) hun' hd
    · obtain ⟨hdst, hop⟩ := Prod.mk.inj (Option.some.inj (show some (some 47, Op.binOp .add 9 (.tmp 40) (.tmp 46) 9) = some (o1.dst, o1.op) from hsh))
      have e40 : a.eval (.tmp 40) = .string o := (hI.vals 0 (by omega) (by omega) (by omega) (hd 0 (by simp [need7]))).trans v0
      have e46 : a.eval (.tmp 46) = .string (⟨#[32]⟩ ++ lineB s) := (hI.vals 6 (by omega) (by omega) (by omega) (hd 6 (by simp [need7]))).trans v6
      refine exec_val (v := val 7) (w' := w') (run_cat hop.symm e40 e46 (by rw [ByteArray.size_append, hls]; show o.size + (1 + s.size) ≤ _; omega) v7) ?_
      rw [← hdst]
      exact hI.quiet hs9 (i := 7) (by omega) (by omega) (by omega) (by omega) hun' hd
    · obtain ⟨hdst, hop⟩ := Prod.mk.inj (Option.some.inj (show some (some 5, Op.assign (.tmp 47)) = some (o1.dst, o1.op) from hsh))
      have l7 := hd 7 (by simp [need7])
      have e47 : a.eval (.tmp 47) = val 7 := hI.vals 7 (by omega) (by omega) (by omega) l7
      refine exec_val (v := val 7) (w' := w') (by simp [execOp, ← hop, e47]) ?_
      rw [← hdst]
      have l0 := hI.cl 7 0 (by simp [need7]) l7
      have l6 := hI.cl 7 6 (by simp [need7]) l7
      have l5 := hI.cl 6 5 (by simp [need7]) l6
      have l2 := hI.cl 5 2 (by simp [need7]) l5
      refine ⟨by rw [put_size]; exact hI.size, by rw [put_defers]; exact hI.defers, fun t ht n5 => ?_, fun j hj j1 j2 hl => ?_, fun h => ?_, fun _ => ?_, fun k j hj hl => ?_, hI.below, fun _ h => ?_, fun _ h => ?_⟩
      · rw [getD_put _ _ _ _ (by rw [hI.size]; omega), if_neg (by omega)]; exact hI.keep t ht n5
      · rw [getD_put _ _ _ _ (by rw [hI.size]; omega), if_neg (by omega)]
        rw [g, if_neg (by omega)] at hl
        exact hI.vals j hj j1 j2 hl
      · rw [g, if_pos rfl] at h; cases h
      · rw [getD_put _ _ _ _ (by rw [hI.size]; omega), if_pos rfl]
      · rw [g] at hl ⊢
        by_cases h8j : 8 = j
        · rw [if_pos h8j]
        · rw [if_neg h8j]
          by_cases h8k : 8 = k
          · subst h8k; exact hd j hj
          · rw [if_neg h8k] at hl; exact hI.cl k j hj hl
      · rw [g, if_neg (by omega), l2] at h; cases h
      · rw [g, if_neg (by omega), l5] at h; cases h
  · intro L a w' hs hall hI
    have h8 := hall 8 (by simp [hlen])
    refine hQ a w' hI.size hI.defers ?_ ((hI.t5' h8).trans v7)
    have hb := hI.below
    have hs : W.heap.size = w.heap.size := by rw [hWs]
    rw [hs] at hb
    exact ⟨by rw [hb.os, hW], by rw [hb.tape, hW], by rw [hb.output, hW], by have := hb.size; rw [hs] at this; exact this, fun k hk => (hb.block k hk).trans (by rw [hWs])⟩
end Go.Proofs.YthepmpfkkhckpaaGreatDoor
