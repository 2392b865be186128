import Derived.Test.YtdmdahnnfancpaaG4
set_option linter.unusedSimpArgs false
set_option linter.unusedVariables false
namespace Go.Proofs.Ytdmdahnnfancpaa
open Go Go.RowKit Am

/-! ### The region of 'm[k] = append(m[k], e)' -/
def wo (W W1 W2 W3 : World) (listed : Array Bool) : World := if listed.getD 12 false = true then W3 else if listed.getD 11 false = true then W2 else if listed.getD 10 false = true then W1 else W
structure RG (val : Nat → Value) (W W1 W2 W3 : World) (a0 : Act) (listed : Array Bool) (a : Act) (w : World) : Prop where
  size : a.tmps.size = 31
  defers : a.defers = a0.defers
  keep : ∀ t, t < 10 → a.tmps.getD t undef = a0.tmps.getD t undef
  vals : ∀ i, i < 12 → listed.getD i false = true → a.tmps.getD (17 + i) undef = val i
  d11 : listed.getD 11 false = true → listed.getD 8 false = true ∧ listed.getD 10 false = true
  d12 : listed.getD 12 false = true → ∀ i, i < 12 → listed.getD i false = true
  world : w = wo W W1 W2 W3 listed
theorem RG.step {val : Nat → Value} {W W1 W2 W3 : World} {a0 : Act} {listed : Array Bool} {a : Act} {w : World} (h : RG val W W1 W2 W3 a0 listed a w) (hs : listed.size = 13) {i : Nat} (hi : i < 12) (hun : listed.getD i false = false) (h11 : i = 11 → listed.getD 8 false = true ∧ listed.getD 10 false = true) :
    RG val W W1 W2 W3 a0 (listed.setIfInBounds i true) (a.put (some (17 + i)) (val i)) (wo W W1 W2 W3 (listed.setIfInBounds i true)) := by
  have g : ∀ j, (listed.setIfInBounds i true).getD j false = if i = j then true else listed.getD j false := fun j => getD_setT listed i j (by omega)
  have n12 : ¬ listed.getD 12 false = true := fun hc => by have := h.d12 hc i hi; rw [hun] at this; cases this
  refine ⟨by rw [put_size]; exact h.size, by rw [put_defers]; exact h.defers, fun t ht => ?_, fun j hj hl => ?_, fun hl => ?_, fun hl => ?_, rfl⟩
  · rw [getD_put _ _ _ _ (by rw [h.size]; omega), if_neg (by omega)]; exact h.keep t ht
  · rw [getD_put _ _ _ _ (by rw [h.size]; omega)]
    by_cases hij : i = j
    · subst hij; rw [if_pos rfl]
    · rw [if_neg (by omega)]
      rw [g, if_neg hij] at hl
      exact h.vals j hj hl
  · rw [g, g]
    rw [g] at hl
    by_cases h8 : i = 8
    · subst h8
      rw [if_neg (by omega)] at hl
      have := (h.d11 hl).1
      rw [hun] at this; cases this
    · by_cases h10 : i = 10
      · subst h10
        rw [if_neg (by omega)] at hl
        have := (h.d11 hl).2
        rw [hun] at this; cases this
      · rw [if_neg h8, if_neg h10]
        by_cases he : i = 11
        · exact h11 he
        · rw [if_neg he] at hl; exact h.d11 hl
  · rw [g, if_neg (by omega)] at hl; exact absurd hl n12
/-- What each operation awaits. -/
def needR : Nat → List Nat
  | 2 => [1] | 3 => [2] | 6 => [5] | 7 => [6] | 8 => [4, 7] | 10 => [9] | 11 => [8, 10] | 12 => [0, 1, 2, 3, 4, 5, 6, 7, 8, 9, 10, 11] | _ => []
def shapeR : List (Option Nat × Op) := [(some 17, .move (.tmp 3)), (some 18, .fieldAddr 35 (.tmp 5) 3), (some 19, .fieldAddr 31 (.tmp 18) 2), (some 20, .load 9 (.tmp 19)), (some 21, .move (.tmp 3)), (some 22, .fieldAddr 35 (.tmp 5) 3), (some 23, .fieldAddr 31 (.tmp 22) 2), (some 24, .load 9 (.tmp 23)), (some 25, .lookup 75 (.tmp 21) (.tmp 24) false), (some 26, .load 35 (.tmp 5)), (some 27, .buildSlice 26 1 #[(0, .tmp 26)]),
  (some 28, .call { callee := .builtin .append, args := #[.tmp 25, .tmp 27], argTypes := #[26, 26] }), (none, .mapUpdate 75 (.tmp 17) (.tmp 20) (.tmp 28))]
def depsR (ops : List Oper) : Bool := (List.range 13).all fun i => match ops[i]? with
  | none => false
  | some o => o.guard.isNone && (o.after.all fun e => Nat.blt e.on i) && (needR i).all fun j => o.after.any fun e => Nat.beq e.on j && Region.binds .any e
theorem exec_val {P : Program} {o : Oper} {a : Act} {w w' : World} {v : Value} {K : Act → World → Prop} {Q : Exit → Act → World → Prop} (h : (execOp a.eval o).run P w = .ok (.value v) w') (k : K (a.put o.dst v) w') : o.wp P a w K Q := by
  unfold Oper.wp; rw [h]; exact k
theorem exec_skip {P : Program} {o : Oper} {a : Act} {w w' : World} {K : Act → World → Prop} {Q : Exit → Act → World → Prop} (h : (execOp a.eval o).run P w = .ok .skip w') (k : K (a.put o.dst undef) w') : o.wp P a w K Q := by
  unfold Oper.wp; rw [h]; exact k
set_option maxHeartbeats 4000000 in
theorem by_region {id : Nat} {ops : List Oper} {Q : Exit → Act → World → Prop} {a0 : Act} {w : World} (hops : ops.map (fun o => (o.dst, o.op)) = shapeR) (hdep : depsR ops = true)
    (val : Nat → Value) (W W1 W2 W3 : World) (hW : W = { w with drawn := w.drawn + 1 }) (hz : a0.tmps.size = 31) {mp : Value} (h3 : a0.tmps.getD 3 undef = mp) {p : Value} (h5 : a0.tmps.getD 5 undef = p)
    (hv : val 0 = mp ∧ val 4 = mp ∧ val 5 = val 1 ∧ val 6 = val 2 ∧ val 7 = val 3)
    (r1 : ∀ w', (Instr.fieldAt 35 p 3).run Try.prog w' = .ok (val 1) w') (r2 : ∀ w', (Instr.fieldAt 31 (val 1) 2).run Try.prog w' = .ok (val 2) w')
    (r3 : ∀ w', w' = W ∨ w' = W1 ∨ w' = W2 → (Instr.loadAt 9 (val 2)).run Try.prog w' = .ok (val 3) w')
    (r8 : ∀ w', w' = W ∨ w' = W1 → (Instr.lookup 75 mp (val 3) false).run Try.prog w' = .ok (val 8) w')
    (r9 : ∀ w', w' = W ∨ w' = W1 ∨ w' = W2 → (Instr.loadAt 35 p).run Try.prog w' = .ok (val 9) w')
    (r10 : ∀ (a : Act) (o : Oper), o.op = .buildSlice 26 1 #[(0, .tmp 26)] → a.tmps.getD 26 undef = val 9 → (execOp a.eval o).run Try.prog W = .ok (.value (val 10)) W1)
    (hty : ∀ o, ops[11]? = some o → o.type = 26) (r11 : (Builtin.append_ #[26, 26] 26 #[val 8, val 10]).run Try.prog W1 = .ok (val 11) W2)
    (r12 : (Instr.mapUpdate 75 mp (val 3) (val 11)).run Try.prog W2 = .ok () W3)
    (hQ : ∀ a', a'.tmps.size = 31 → a'.defers = a0.defers → (∀ t, t < 10 → a'.tmps.getD t undef = a0.tmps.getD t undef) → Q .normal a' W3) : (Code.region id ops.toArray true).wp Try.prog Q a0 w := by
  have hlen : ops.length = 13 := by have := congrArg List.length hops; simpa [shapeR] using this
  have hat : ∀ (i : Nat) (o : Oper), ops[i]? = some o → o.guard = none ∧ (∀ e ∈ o.after, e.on < i) ∧ (∀ j ∈ needR i, ∃ e ∈ o.after, e.on = j ∧ Region.binds .any e = true) ∧ shapeR[i]? = some (o.dst, o.op) := fun i o ho => by
    have hi : i < 13 := by rw [← hlen]; exact (List.getElem?_eq_some_iff.1 ho).1
    have h1 := List.all_eq_true.1 hdep i (List.mem_range.2 hi)
    rw [ho] at h1
    simp only [Bool.and_eq_true, Option.isNone_iff_eq_none, Array.all_eq_true', List.all_eq_true, Array.any_eq_true'] at h1
    obtain ⟨⟨h1, h2⟩, h3⟩ := h1
    refine ⟨h1, fun e he => by have := h2 e he; simpa [Nat.blt_eq] using this, fun j hj => ?_, by rw [← hops, List.getElem?_map, ho]; rfl⟩
    obtain ⟨e, he, h4⟩ := h3 j hj
    exact ⟨e, he, by simpa using h4.1, h4.2⟩
  refine region_inv mixed (fun i o ho => (hat i o (by simpa using ho)).2.1) (RG val W W1 W2 W3 a0) ?_ ?_ ?_
  · rw [← hW]
    clear hW
    refine ⟨hz, rfl, fun _ _ => rfl, fun i _ h => ?_, fun h => ?_, fun h => ?_, ?_⟩
    all_goals first | (rw [show ops.toArray.size = 13 by simpa using hlen] at h) | (rw [show ops.toArray.size = 13 by simpa using hlen])
    · have : ∀ j, (Array.replicate 13 false).getD j false = false := fun j => getD_replicate_false 13 j
      rw [this] at h; cases h
    · rw [getD_replicate_false] at h; cases h
    · rw [getD_replicate_false] at h; cases h
    · unfold wo; simp [getD_replicate_false]
  · intro listed a w' i o hs hI ho hun hwait
    obtain ⟨hg, _, hneed, hsh⟩ := hat i o (by simpa using ho)
    refine ⟨by simp [Region.wanted, hg], ?_⟩
    have hun' := getD_un hun
    have hs13 : listed.size = 13 := by rw [hs]; simpa using hlen
    have hd : ∀ j ∈ needR i, listed.getD j false = true := fun j hj => by
      obtain ⟨e, he, h1, h2⟩ := hneed j hj
      rw [← h1]; exact hwait e he h2
    have hi13 : i < 13 := by rw [← hlen]; exact (List.getElem?_eq_some_iff.1 (by simpa using ho)).1
    have t3 : a.eval (.tmp 3) = mp := (hI.keep 3 (by omega)).trans h3
    have t5 : a.eval (.tmp 5) = p := (hI.keep 5 (by omega)).trans h5
    have n12 : i < 12 → listed.getD 12 false = false := fun hi => by
      cases h : listed.getD 12 false with
      | false => rfl
      | true => have := hI.d12 h i hi; rw [hun'] at this; cases this
    have hw3 : i < 12 → w' = W ∨ w' = W1 ∨ w' = W2 := fun hi => by
      rw [hI.world]
      unfold wo
      rw [n12 hi]
      cases listed.getD 11 false <;> cases listed.getD 10 false <;> simp
    have g : ∀ j, (listed.setIfInBounds i true).getD j false = if i = j then true else listed.getD j false := fun j => getD_setT listed i j (by omega)
    have hwo : i < 10 → wo W W1 W2 W3 (listed.setIfInBounds i true) = w' := fun hi => by
      rw [hI.world]
      unfold wo
      rw [g, g, g, if_neg (show ¬ i = 12 by omega), if_neg (show ¬ i = 11 by omega), if_neg (show ¬ i = 10 by omega)]
    obtain rfl | rfl | rfl | rfl | rfl | rfl | rfl | rfl | rfl | rfl | rfl | rfl | rfl : i = 0 ∨ i = 1 ∨ i = 2 ∨ i = 3 ∨ i = 4 ∨ i = 5 ∨ i = 6 ∨ i = 7 ∨ i = 8 ∨ i = 9 ∨ i = 10 ∨ i = 11 ∨ i = 12 := by omega
    · have hop : o.op = .move (.tmp 3) := by have h : some (some 17, .move (.tmp 3)) = some (o.dst, o.op) := hsh; exact (Prod.mk.inj (Option.some.inj h)).2.symm
      have hdst : o.dst = some (17 + 0) := by have h : some (some 17, .move (.tmp 3)) = some (o.dst, o.op) := hsh; exact (Prod.mk.inj (Option.some.inj h)).1.symm
      refine exec_val (v := val 0) (w' := w') (by simp [execOp, hop, t3, hv.1]) ?_
      rw [hdst]
      have := hI.step hs13 (i := 0) (by omega) hun' (fun h => by omega)
      rw [hwo (by omega)] at this
      exact this
    · have hop : o.op = .fieldAddr 35 (.tmp 5) 3 := by have h : some (some 18, .fieldAddr 35 (.tmp 5) 3) = some (o.dst, o.op) := hsh; exact (Prod.mk.inj (Option.some.inj h)).2.symm
      have hdst : o.dst = some (17 + 1) := by have h : some (some 18, .fieldAddr 35 (.tmp 5) 3) = some (o.dst, o.op) := hsh; exact (Prod.mk.inj (Option.some.inj h)).1.symm
      refine exec_val (v := val 1) (w' := w') (by simp [execOp, hop, t5, r1]) ?_
      rw [hdst]
      have := hI.step hs13 (i := 1) (by omega) hun' (fun h => by omega)
      rw [hwo (by omega)] at this
      exact this
    · have hop : o.op = .fieldAddr 31 (.tmp 18) 2 := by have h : some (some 19, .fieldAddr 31 (.tmp 18) 2) = some (o.dst, o.op) := hsh; exact (Prod.mk.inj (Option.some.inj h)).2.symm
      have hdst : o.dst = some (17 + 2) := by have h : some (some 19, .fieldAddr 31 (.tmp 18) 2) = some (o.dst, o.op) := hsh; exact (Prod.mk.inj (Option.some.inj h)).1.symm
      have e1 : a.eval (.tmp 18) = val 1 := hI.vals 1 (by omega) (hd 1 (by simp [needR]))
      refine exec_val (v := val 2) (w' := w') (by simp [execOp, hop, e1, r2]) ?_
      rw [hdst]
      have := hI.step hs13 (i := 2) (by omega) hun' (fun h => by omega)
      rw [hwo (by omega)] at this
      exact this
    · have hop : o.op = .load 9 (.tmp 19) := by have h : some (some 20, .load 9 (.tmp 19)) = some (o.dst, o.op) := hsh; exact (Prod.mk.inj (Option.some.inj h)).2.symm
      have hdst : o.dst = some (17 + 3) := by have h : some (some 20, .load 9 (.tmp 19)) = some (o.dst, o.op) := hsh; exact (Prod.mk.inj (Option.some.inj h)).1.symm
      have e2 : a.eval (.tmp 19) = val 2 := hI.vals 2 (by omega) (hd 2 (by simp [needR]))
      refine exec_val (v := val 3) (w' := w') (by simp [execOp, hop, e2, r3 w' (hw3 (by omega))]) ?_
      rw [hdst]
      have := hI.step hs13 (i := 3) (by omega) hun' (fun h => by omega)
      rw [hwo (by omega)] at this
      exact this
    · have hop : o.op = .move (.tmp 3) := by have h : some (some 21, .move (.tmp 3)) = some (o.dst, o.op) := hsh; exact (Prod.mk.inj (Option.some.inj h)).2.symm
      have hdst : o.dst = some (17 + 4) := by have h : some (some 21, .move (.tmp 3)) = some (o.dst, o.op) := hsh; exact (Prod.mk.inj (Option.some.inj h)).1.symm
      refine exec_val (v := val 4) (w' := w') (by simp [execOp, hop, t3, hv.2.1]) ?_
      rw [hdst]
      have := hI.step hs13 (i := 4) (by omega) hun' (fun h => by omega)
      rw [hwo (by omega)] at this
      exact this
    · have hop : o.op = .fieldAddr 35 (.tmp 5) 3 := by have h : some (some 22, .fieldAddr 35 (.tmp 5) 3) = some (o.dst, o.op) := hsh; exact (Prod.mk.inj (Option.some.inj h)).2.symm
      have hdst : o.dst = some (17 + 5) := by have h : some (some 22, .fieldAddr 35 (.tmp 5) 3) = some (o.dst, o.op) := hsh; exact (Prod.mk.inj (Option.some.inj h)).1.symm
      refine exec_val (v := val 5) (w' := w') (by simp [execOp, hop, t5, r1, hv.2.2.1]) ?_
      rw [hdst]
      have := hI.step hs13 (i := 5) (by omega) hun' (fun h => by omega)
      rw [hwo (by omega)] at this
      exact this
    · have hop : o.op = .fieldAddr 31 (.tmp 22) 2 := by have h : some (some 23, .fieldAddr 31 (.tmp 22) 2) = some (o.dst, o.op) := hsh; exact (Prod.mk.inj (Option.some.inj h)).2.symm
      have hdst : o.dst = some (17 + 6) := by have h : some (some 23, .fieldAddr 31 (.tmp 22) 2) = some (o.dst, o.op) := hsh; exact (Prod.mk.inj (Option.some.inj h)).1.symm
      have e5 : a.eval (.tmp 22) = val 5 := hI.vals 5 (by omega) (hd 5 (by simp [needR]))
      refine exec_val (v := val 6) (w' := w') (by simp [execOp, hop, e5, r2, hv.2.2.1, hv.2.2.2.1]) ?_
      rw [hdst]
      have := hI.step hs13 (i := 6) (by omega) hun' (fun h => by omega)
      rw [hwo (by omega)] at this
      exact this
    · have hop : o.op = .load 9 (.tmp 23) := by have h : some (some 24, .load 9 (.tmp 23)) = some (o.dst, o.op) := hsh; exact (Prod.mk.inj (Option.some.inj h)).2.symm
      have hdst : o.dst = some (17 + 7) := by have h : some (some 24, .load 9 (.tmp 23)) = some (o.dst, o.op) := hsh; exact (Prod.mk.inj (Option.some.inj h)).1.symm
      have e6 : a.eval (.tmp 23) = val 6 := hI.vals 6 (by omega) (hd 6 (by simp [needR]))
      refine exec_val (v := val 7) (w' := w') (by simp [execOp, hop, e6, r3 w' (hw3 (by omega)), hv.2.2.2.1, hv.2.2.2.2]) ?_
      rw [hdst]
      have := hI.step hs13 (i := 7) (by omega) hun' (fun h => by omega)
      rw [hwo (by omega)] at this
      exact this
    · have hop : o.op = .lookup 75 (.tmp 21) (.tmp 24) false := by have h : some (some 25, .lookup 75 (.tmp 21) (.tmp 24) false) = some (o.dst, o.op) := hsh; exact (Prod.mk.inj (Option.some.inj h)).2.symm
      have hdst : o.dst = some (17 + 8) := by have h : some (some 25, .lookup 75 (.tmp 21) (.tmp 24) false) = some (o.dst, o.op) := hsh; exact (Prod.mk.inj (Option.some.inj h)).1.symm
      have e4 : a.eval (.tmp 21) = val 4 := hI.vals 4 (by omega) (hd 4 (by simp [needR]))
      have e7 : a.eval (.tmp 24) = val 7 := hI.vals 7 (by omega) (hd 7 (by simp [needR]))
      have hw2 : w' = W ∨ w' = W1 := by
        have n11 : listed.getD 11 false = false := by
          cases h : listed.getD 11 false with
          | false => rfl
          | true => have := (hI.d11 h).1; rw [hun'] at this; cases this
        rw [hI.world]
        unfold wo
        rw [n12 (by omega), n11]
        cases listed.getD 10 false <;> simp
      refine exec_val (v := val 8) (w' := w') (by simp [execOp, hop, e4, e7, hv.2.1, hv.2.2.2.2, r8 w' hw2]) ?_
      rw [hdst]
      have := hI.step hs13 (i := 8) (by omega) hun' (fun h => by omega)
      rw [hwo (by omega)] at this
      exact this
    · have hop : o.op = .load 35 (.tmp 5) := by have h : some (some 26, .load 35 (.tmp 5)) = some (o.dst, o.op) := hsh; exact (Prod.mk.inj (Option.some.inj h)).2.symm
      have hdst : o.dst = some (17 + 9) := by have h : some (some 26, .load 35 (.tmp 5)) = some (o.dst, o.op) := hsh; exact (Prod.mk.inj (Option.some.inj h)).1.symm
      refine exec_val (v := val 9) (w' := w') (by simp [execOp, hop, t5, r9 w' (hw3 (by omega))]) ?_
      rw [hdst]
      have := hI.step hs13 (i := 9) (by omega) hun' (fun h => by omega)
      rw [hwo (by omega)] at this
      exact this
    · have hop : o.op = .buildSlice 26 1 #[(0, .tmp 26)] := by have h : some (some 27, .buildSlice 26 1 #[(0, .tmp 26)]) = some (o.dst, o.op) := hsh; exact (Prod.mk.inj (Option.some.inj h)).2.symm
      have hdst : o.dst = some (17 + 10) := by have h : some (some 27, .buildSlice 26 1 #[(0, .tmp 26)]) = some (o.dst, o.op) := hsh; exact (Prod.mk.inj (Option.some.inj h)).1.symm
      have e9 : a.eval (.tmp 26) = val 9 := hI.vals 9 (by omega) (hd 9 (by simp [needR]))
      have hw0 : w' = W := by
        have n11 : listed.getD 11 false = false := by
          cases h : listed.getD 11 false with
          | false => rfl
          | true => have := (hI.d11 h).2; rw [hun'] at this; cases this
        rw [hI.world]
        unfold wo
        rw [n12 (by omega), n11, hun']
        simp
      subst hw0
      have hw1 : wo w' W1 W2 W3 (listed.setIfInBounds 10 true) = W1 := by
        have n11 : listed.getD 11 false = false := by
          cases h : listed.getD 11 false with
          | false => rfl
          | true => have := (hI.d11 h).2; rw [hun'] at this; cases this
        unfold wo
        rw [g, g, g, if_neg (show ¬ 10 = 12 by omega), if_neg (show ¬ 10 = 11 by omega), if_pos rfl, n12 (by omega), n11]
        simp
      have hr := r10 a o hop e9
      refine exec_val (v := val 10) (w' := W1) hr ?_
      rw [hdst]
      have := hI.step hs13 (i := 10) (by omega) hun' (fun h => by omega)
      rw [hw1] at this
      exact this
    · have hop : o.op = .call { callee := .builtin .append, args := #[.tmp 25, .tmp 27], argTypes := #[26, 26] } := by have h : some (some 28, .call { callee := .builtin .append, args := #[.tmp 25, .tmp 27], argTypes := #[26, 26] }) = some (o.dst, o.op) := hsh; exact (Prod.mk.inj (Option.some.inj h)).2.symm
      have hdst : o.dst = some (17 + 11) := by have h : some (some 28, .call { callee := .builtin .append, args := #[.tmp 25, .tmp 27], argTypes := #[26, 26] }) = some (o.dst, o.op) := hsh; exact (Prod.mk.inj (Option.some.inj h)).1.symm
      have e8 : a.eval (.tmp 25) = val 8 := hI.vals 8 (by omega) (hd 8 (by simp [needR]))
      have e10 : a.eval (.tmp 27) = val 10 := hI.vals 10 (by omega) (hd 10 (by simp [needR]))
      have h8 := hd 8 (by simp [needR])
      have h10 := hd 10 (by simp [needR])
      have hw0 : w' = W1 := by
        rw [hI.world]
        unfold wo
        rw [n12 (by omega), hun', h10]
        simp
      subst hw0
      have hw1 : wo W w' W2 W3 (listed.setIfInBounds 11 true) = W2 := by
        unfold wo
        rw [g, g, g, if_neg (show ¬ 11 = 12 by omega), if_pos rfl, n12 (by omega)]
        simp
      refine exec_val (v := val 11) (w' := W2) (by simp [execOp, hop, resolve, invoke, builtin, e8, e10, hty o (by simpa using ho), r11]) ?_
      rw [hdst]
      have := hI.step hs13 (i := 11) (by omega) hun' (fun _ => ⟨h8, h10⟩)
      rw [hw1] at this
      exact this
    · have hop : o.op = .mapUpdate 75 (.tmp 17) (.tmp 20) (.tmp 28) := by have h : some (none, .mapUpdate 75 (.tmp 17) (.tmp 20) (.tmp 28)) = some (o.dst, o.op) := hsh; exact (Prod.mk.inj (Option.some.inj h)).2.symm
      have hdst : o.dst = none := by have h : some (none, .mapUpdate 75 (.tmp 17) (.tmp 20) (.tmp 28)) = some (o.dst, o.op) := hsh; exact (Prod.mk.inj (Option.some.inj h)).1.symm
      have e0 : a.eval (.tmp 17) = val 0 := hI.vals 0 (by omega) (hd 0 (by simp [needR]))
      have e3 : a.eval (.tmp 20) = val 3 := hI.vals 3 (by omega) (hd 3 (by simp [needR]))
      have e11 : a.eval (.tmp 28) = val 11 := hI.vals 11 (by omega) (hd 11 (by simp [needR]))
      have h11 := hd 11 (by simp [needR])
      have hw0 : w' = W2 := by
        rw [hI.world]
        unfold wo
        rw [hun', h11]
        simp
      subst hw0
      refine exec_skip (w' := W3) (by simp [execOp, hop, e0, e3, e11, hv.1, r12]) ?_
      rw [hdst]
      have hall : ∀ j, j < 12 → listed.getD j false = true := fun j hj => by
        refine hd j ?_
        have : j = 0 ∨ j = 1 ∨ j = 2 ∨ j = 3 ∨ j = 4 ∨ j = 5 ∨ j = 6 ∨ j = 7 ∨ j = 8 ∨ j = 9 ∨ j = 10 ∨ j = 11 := by omega
        simpa [needR] using this
      refine ⟨hI.size, hI.defers, hI.keep, fun j hj hl => hI.vals j hj (hall j hj), fun _ => ?_, fun _ j hj => ?_, ?_⟩
      · rw [g, g, if_neg (show ¬ 12 = 8 by omega), if_neg (show ¬ 12 = 10 by omega)]; exact ⟨hall 8 (by omega), hall 10 (by omega)⟩
      · rw [g, if_neg (show ¬ 12 = j by omega)]; exact hall j hj
      · unfold wo; rw [g, if_pos rfl]; simp
  · intro listed a w' hs hall hI
    have hw3 : w' = W3 := by
      rw [hI.world]
      unfold wo
      rw [hall 12 (by rw [show ops.toArray.size = 13 by simpa using hlen]; omega)]
      simp
    subst hw3
    exact hQ a hI.size hI.defers hI.keep
end Go.Proofs.Ytdmdahnnfancpaa
