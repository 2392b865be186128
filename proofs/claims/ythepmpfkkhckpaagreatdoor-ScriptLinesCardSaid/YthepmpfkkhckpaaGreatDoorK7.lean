import Derived.Test.YthepmpfkkhckpaaGreatDoorK6
set_option linter.unusedSimpArgs false
set_option linter.unusedVariables false
namespace Go.Proofs.YthepmpfkkhckpaaGreatDoor
open Go Go.RowKit Am

/-! ### Regions whose order is open, by an invariant over what has come up -/
theorem region_inv {P : Program} {id : Nat} {ops : Array Oper} {Q : Exit → Act → World → Prop} {a : Act} {w : World} (hm : P.follows .mixedOrders = true)
    (hlex : ∀ (i : Nat) (o : Oper), ops[i]? = some o → ∀ e ∈ o.after, e.on < i) (I : Array Bool → Act → World → Prop) (h0 : I (Array.replicate ops.size false) a { w with drawn := w.drawn + 1 })
    (step : ∀ (listed : Array Bool) (a : Act) (w : World) (i : Nat) (o : Oper), listed.size = ops.size → I listed a w → ops[i]? = some o → listed.getD i true = false → (∀ e ∈ o.after, Region.binds .any e = true → listed.getD e.on false = true) → Region.wanted o (yielded ops a.tmps) = true ∧ o.wp P a w (fun a' w' => I (listed.setIfInBounds i true) a' w') Q)
    (done : ∀ (listed : Array Bool) (a : Act) (w : World), listed.size = ops.size → (∀ i, i < ops.size → listed.getD i false = true) → I listed a w → Q .normal a w) : (Code.region id ops true).wp P Q a w := by
  have full : ∀ listed : Array Bool, listed.size = ops.size → Region.ready .any ops listed = [] → ∀ i, i < ops.size → listed.getD i false = true := by
    intro listed hs hr
    have key : ∀ n i, i < n → i < ops.size → listed.getD i false = true := by
      intro n
      induction n with
      | zero => intro i h; omega
      | succ n ih =>
        intro i hi hsz
        cases hg : listed.getD i false with
        | true => rfl
        | false =>
          have hmem : i ∈ Region.ready .any ops listed := by
            rw [mem_ready]
            have h1 : listed.getD i true = false := by
              rw [Array.getD_eq_getD_getElem?] at hg ⊢
              rw [Array.getElem?_eq_getElem (by omega)] at hg ⊢
              simpa using hg
            exact ⟨h1, ops[i], Array.getElem?_eq_getElem hsz, fun e he hb => ih e.on (by have := hlex i _ (Array.getElem?_eq_getElem hsz) e he; omega) (by have := hlex i _ (Array.getElem?_eq_getElem hsz) e he; omega)⟩
          rw [hr] at hmem
          cases hmem
    exact fun i hi => key (i + 1) i (by omega) hi
  have main : ∀ (fuel : Nat) (listed : Array Bool) (a : Act) (w : World), listed.size = ops.size → (listed.toList.countP fun b => !b) ≤ fuel → I listed a w → wpAny P .any ops Q fuel listed a w := by
    intro fuel
    induction fuel with
    | zero =>
      intro listed a w hs hc hI
      have hr : Region.ready .any ops listed = [] := by
        cases hr : Region.ready .any ops listed with
        | nil => rfl
        | cons j t =>
          have hj : j ∈ Region.ready .any ops listed := by rw [hr]; exact List.mem_cons_self
          obtain ⟨h1, o, ho, _⟩ := mem_ready.1 hj
          have hjl : j < listed.size := by rw [hs]; exact (Array.getElem?_eq_some_iff.1 ho).1
          rw [Array.getD_eq_getD_getElem?, Array.getElem?_eq_getElem hjl] at h1
          have h2 := List.countP_eq_zero.1 (Nat.le_zero.1 hc) listed[j] (by simp)
          simp at h1 h2
          rw [h1] at h2
          cases h2
      exact ⟨hr, done listed a w hs (full listed hs hr) hI⟩
    | succ fuel ih =>
      intro listed a w hs hc hI
      refine ⟨fun hr => done listed a w hs (full listed hs hr) hI, fun i hi => ?_⟩
      obtain ⟨h1, o, ho, h2⟩ := mem_ready.1 hi
      obtain ⟨hw, hst⟩ := step listed a w i o hs hI ho h1 h2
      unfold wpOp
      rw [ho]
      simp only [hw, if_true]
      refine .inl (Oper.wp_mono (fun a' w' hI' => ih _ a' w' (by rw [Array.size_setIfInBounds]; exact hs) ?_ hI') hst)
      have hil : i < listed.size := by rw [hs]; exact (Array.getElem?_eq_some_iff.1 ho).1
      rw [Array.getD_eq_getD_getElem?, Array.getElem?_eq_getElem hil] at h1
      have h1 : listed[i] = false := by simpa using h1
      have : (listed.setIfInBounds i true).toList.countP (fun b => !b) + 1 = listed.toList.countP (fun b => !b) := by
        rw [Array.toList_setIfInBounds]
        have hl : i < listed.toList.length := by simpa using hil
        have e1 : listed.toList = listed.toList.take i ++ listed.toList[i] :: listed.toList.drop (i + 1) := by
          rw [List.getElem_cons_drop hl, List.take_append_drop]
        have e2 : listed.toList.set i true = listed.toList.take i ++ true :: listed.toList.drop (i + 1) := by
          rw [List.set_eq_take_append_cons_drop, if_pos hl]
        rw [e2]
        conv => rhs; rw [e1]
        rw [List.countP_append, List.countP_append, List.countP_cons, List.countP_cons]
        have : listed.toList[i] = false := by rw [Array.getElem_toList]; exact h1
        rw [this]
        simp
        omega
      omega
  refine wp_region_any hm (main _ _ _ _ (by simp) ?_ h0)
  exact Nat.le_trans List.countP_le_length (by simp)
theorem getD_setT (listed : Array Bool) (i j : Nat) (h : i < listed.size) : (listed.setIfInBounds i true).getD j false = if i = j then true else listed.getD j false := by
  rw [Array.getD_eq_getD_getElem?, Array.getD_eq_getD_getElem?, Array.getElem?_setIfInBounds]
  by_cases hij : i = j
  · rw [if_pos hij, if_pos hij, if_pos h]; rfl
  · rw [if_neg hij, if_neg hij]
theorem getD_un {listed : Array Bool} {i : Nat} (h : listed.getD i true = false) : listed.getD i false = false := by
  rw [Array.getD_eq_getD_getElem?] at h ⊢
  cases hl : listed[i]? with
  | none => rfl
  | some b => rw [hl] at h; simpa using h
theorem exec_val {P : Program} {o : Oper} {a : Act} {w w' : World} {v : Value} {K : Act → World → Prop} {Q : Exit → Act → World → Prop} (h : (execOp a.eval o).run P w = .ok (.value v) w') (k : K (a.put o.dst v) w') : o.wp P a w K Q := by
  unfold Oper.wp; rw [h]; exact k
theorem exec_skip {P : Program} {o : Oper} {a : Act} {w w' : World} {K : Act → World → Prop} {Q : Exit → Act → World → Prop} (h : (execOp a.eval o).run P w = .ok .skip w') (k : K (a.put o.dst undef) w') : o.wp P a w K Q := by
  unfold Oper.wp; rw [h]; exact k

theorem repl_v {w : World} {S : Nat → Prop} : ∀ (xs ys : List Value), RepL w S (xs.map AV.v) ys → ys = xs := by
  intro xs
  induction xs with
  | nil => intro ys h; exact h.unnil
  | cons x xs ih =>
    intro ys h
    obtain ⟨y, zs, rfl, h1, h2⟩ := RepL.uncons (c := .v x) h
    cases h1
    rw [ih zs h2]
theorem lit4 (a : Act) (o : Oper) (w : World) (h : o.op = .buildSlice 44 4 #[(0, .const (.string ⟨#[13]⟩)), (1, .const (.string ⟨#[124]⟩)), (2, .const (.string ⟨#[10]⟩)), (3, .const (.string ⟨#[124]⟩))]) :
    (execOp a.eval o).run Tryz.prog w = .ok (.value (.slice (some ⟨w.heap.size, 0, none⟩) 4 4)) (w.alloc (.cells crlfV.toArray 9 (0, 0))) := by
  have hev : ∀ o' ∈ o.op.operands, ∀ u, (fun o' : Operand => match o' with | .const x => some (AV.v x) | _ => none) o' = some u → SRep w (fun _ => False) (fun _ => .bool true) [] u (a.eval o') := fun o' ho' u hu => by
    rw [h] at ho'
    simp [Op.operands] at ho'
    rcases ho' with rfl | rfl | rfl | rfl <;> (injection hu with hu; subst hu; exact srep_of_rep (.c (.v _ rfl)))
  obtain ⟨ys, y1, y2, _⟩ := run_buildSlice (P := Tryz.prog) (ev := fun o' : Operand => match o' with | .const x => some (AV.v x) | _ => none) (obs := []) (S := fun _ => False) (β := fun _ => .bool true) (a := a) (w := w) (gam_ok 44 _ rfl) rfl (n := 4) (rows := crlfV.map fun x => [AV.v x]) (by rfl) rfl (by decide) (by rw [h] at hev; exact hev) h
  have hy : ys = crlfV := repl_v crlfV ys y2
  rw [hy] at y1
  exact y1
end Go.Proofs.YthepmpfkkhckpaaGreatDoor
