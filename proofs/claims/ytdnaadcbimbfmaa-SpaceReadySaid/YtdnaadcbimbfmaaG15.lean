import Derived.Test.YtdnaadcbimbfmaaG14
set_option linter.unusedSimpArgs false
set_option linter.unusedVariables false
namespace Go.Proofs.Ytdnaadcbimbfmaa
open Go Go.RowKit Am

section
variable {a : Act} {w : World} {o : Oper}
theorem q_bin {op : BinOp} {x ty ty' : Nat} {y : Operand} {m n z : Value} (hm : m.oneCell' = true) (hn : n.oneCell' = true) (h : o.op = .binOp op ty (.tmp x) y ty') (ex : a.eval (.tmp x) = m) (ey : a.eval y = n) (hb : binA sy op (.v m) (.v n) = some (.v z)) : (execOp a.eval o).run Try.prog w = .ok (.value z) w := by
  obtain ⟨z', e1, _, e2⟩ := run_binA (P := Try.prog) hb (w := w) (S := fun _ => True) (β := fun _ => .bool true) (obs := []) (srep_c (.v _ hm)) (srep_c (.v _ hn)) ty (.tmp x) y
  injection e1 with e1
  subst e1
  simp only [execOp, h, ex, ey]
  simp only [Sem.run_bind, Sem.run_pure] at e2 ⊢
  simp [e2]
theorem q_not {x ty : Nat} {m : Bool} {q : Bool} (h : o.op = .unOp .not ty (.tmp x)) (ex : a.eval (.tmp x) = .bool m) (hq : q = !m) : (execOp a.eval o).run Try.prog w = .ok (.value (.bool q)) w := by
  simp [execOp, h, ex, Op.unary, hq]
theorem q_pickT {c : Nat} {x y : Operand} {v : Value} (h : o.op = .pick (.tmp c) x y) (ec : a.eval (.tmp c) = .bool true) (ex : a.eval x = v) : (execOp a.eval o).run Try.prog w = .ok (.value v) w := by
  simp [execOp, h, ec, ex, asBool]
theorem q_pickF {c : Nat} {x y : Operand} {v : Value} (h : o.op = .pick (.tmp c) x y) (ec : a.eval (.tmp c) = .bool false) (ex : a.eval y = v) : (execOp a.eval o).run Try.prog w = .ok (.value v) w := by
  simp [execOp, h, ec, ex, asBool]
end
theorem pure_val {P : Program} {o : Oper} {a : Act} {w : World} {v : Value} {d : Nat} {Q : Exit → Act → World → Prop} (hd : o.dst = some d) (h : (execOp a.eval o).run P w = .ok (.value v) w) : o.wp P a w (fun a' w2 => a' = a.put (some d) v ∧ Below w.heap.size w w2) Q := exec_val h (by rw [hd]; exact ⟨rfl, Below.refl _ _⟩)
theorem eq_bool (d : Nat) (a b : Bool) (w : World) : (Op.equalIn (d + 1) 4 (.bool a) (.bool b)).run Try.prog w = .ok (a == b) w := by
  simp [Op.equalIn, run_underlying (show Try.prog.underlying 4 = some .bool by kernel_rfl)]
theorem csem_bool (c d : Bool) (q : Bool) (hq : q = (c == d)) : CSem Try.prog (.eq 4) [aB c, aB d] (.pure [aB q]) := by
  refine ⟨_, _, q, rfl, rfl, fun w S x y hx hy => ⟨0, fun ox oy => ?_, fun ox oy => ?_⟩⟩
  · have h := eq_bool 9999 c d w
    rw [rep_v hx, rep_v hy]
    simp [eqGuard, binOp, Op.equal, h, World.drewN, hq, show Op.maxDepth = 10000 from rfl]
  · have h := eq_bool 9999 c d w
    rw [rep_v hx, rep_v hy]
    simp [eqGuard, binOp, Op.equal, h, World.drewN, hq, show Op.maxDepth = 10000 from rfl]
theorem pure_eq {o : Oper} {a : Act} {w : World} {d t x y ty : Nat} {A B : AV} {u v : Value} {q : Bool} {Q : Exit → Act → World → Prop} (hd : o.dst = some d) (hc : CSem Try.prog (.eq t) [A, B] (.pure [aB q])) (hA : Rep w (fun _ => False) A u) (hB : Rep w (fun _ => False) B v) (ho : o.op = .binOp .eql t (.tmp x) (.tmp y) ty) (ex : a.eval (.tmp x) = u) (ey : a.eval (.tmp y) = v) : o.wp Try.prog a w (fun a' w2 => a' = a.put (some d) (.bool q) ∧ Below w.heap.size w w2) Q := by
  obtain ⟨A', B', q', hAB, hq, h⟩ := hc
  injection hAB with h1 h2
  injection h2 with h2 _
  subst h1; subst h2
  have : q = q' := by injection hq with hq; injection hq with hq; injection hq with hq; injection hq with hq
  subst this
  obtain ⟨n, h1, _⟩ := h w _ u v hA hB
  have h1 := h1 (.tmp x) (.tmp y)
  refine exec_val (w' := w.drewN n) (v := .bool q) ?_ (by rw [hd]; exact ⟨rfl, (show Below w.heap.size w (w.drewN n) from ⟨rfl, rfl, rfl, Nat.le_refl _, fun _ _ => rfl⟩)⟩)
  simp only [execOp, ho, ex, ey]
  simp only [Sem.run_bind, Sem.run_pure] at h1 ⊢
  simp [h1]
theorem pure_ne {o : Oper} {a : Act} {w : World} {d t x y ty : Nat} {A B : AV} {u v : Value} {q : Bool} {Q : Exit → Act → World → Prop} (hd : o.dst = some d) (hc : CSem Try.prog (.eq t) [A, B] (.pure [aB q])) (hA : Rep w (fun _ => False) A u) (hB : Rep w (fun _ => False) B v) (ho : o.op = .binOp .neq t (.tmp x) (.tmp y) ty) (ex : a.eval (.tmp x) = u) (ey : a.eval (.tmp y) = v) : o.wp Try.prog a w (fun a' w2 => a' = a.put (some d) (.bool (!q)) ∧ Below w.heap.size w w2) Q := by
  obtain ⟨A', B', q', hAB, hq, h⟩ := hc
  injection hAB with h1 h2
  injection h2 with h2 _
  subst h1; subst h2
  have : q = q' := by injection hq with hq; injection hq with hq; injection hq with hq; injection hq with hq
  subst this
  obtain ⟨n, _, h1⟩ := h w _ u v hA hB
  have h1 := h1 (.tmp x) (.tmp y)
  refine exec_val (w' := w.drewN n) (v := .bool (!q)) ?_ (by rw [hd]; exact ⟨rfl, (show Below w.heap.size w (w.drewN n) from ⟨rfl, rfl, rfl, Nat.le_refl _, fun _ _ => rfl⟩)⟩)
  simp only [execOp, ho, ex, ey]
  simp only [Sem.run_bind, Sem.run_pure] at h1 ⊢
  simp [h1]
theorem rep_vvs {w : World} {S : Nat → Prop} (u : VV) : Rep w S (.agg (vac u)) (.agg (vvs u)) := .agg (xs := (vvs u).toList) (repl_map_v (vvs u).toList (List.all_eq_true.1 (show ((vvs u).toList).all (fun v => v.oneCell') = true from rfl)))
theorem pure_call {P : Program} {o : Oper} {a : Act} {w : World} {v : Value} {d f : Nat} {args : Array Operand} {tys : Array TypeId} {Q : Exit → Act → World → Prop} (xs : List Value) (hd : o.dst = some d) (ho : o.op = .call { callee := .value (.func f), args := args, argTypes := tys }) (hf : ∀ cs w, (callFunc f cs).run P w = .ok (.enter f cs) w) (hx : args.map a.eval = xs.toArray) (hc : Calls P f xs.toArray w fun e w' => e = .returned v ∧ Below w.heap.size w w') : o.wp P a w (fun a' w2 => a' = a.put (some d) v ∧ Below w.heap.size w w2) Q := by
  refine wp_enter (run_call (caps := []) ho rfl hf) ?_
  rw [show (args.toList.map a.eval ++ [] : List Value) = xs by rw [List.append_nil, ← Array.toList_map, hx]]
  refine hc.mono ?_
  rintro e w' ⟨rfl, hb⟩
  exact ⟨v, rfl, by rw [hd], hb⟩

def r10Sh : ShG := [(some 39, .move (.tmp 7), none), (some 40, .move (.tmp 8), none), (some 41, .binOp .eql 38 (.tmp 40) (.const (.int .i64 0)) 38, none), (some 42, .binOp .neq 4 (.tmp 39) (.tmp 41) 4, none), (some 43, .move (.tmp 42), none), (some 44, .move (.tmp 7), some (4, false)), (some 45, .unOp .not 4 (.tmp 44), some (4, false)), (some 46, .move (.tmp 45), some (4, false)), (some 47, .move (.tmp 3), some (7, true)), (some 48, .call { callee := .value (.func 9), args := #[.tmp 47], argTypes := #[25] }, some (7, true)), (some 49, .move (.tmp 5), some (7, true)), (some 50, .binOp .neq 9 (.tmp 48) (.tmp 49) 9, some (7, true)), (some 51, .pick (.tmp 46) (.tmp 50) (.const (.bool false)), some (4, false)), (some 52, .pick (.tmp 43) (.const (.bool true)) (.tmp 51), none), (some 53, .move (.tmp 52), none), (some 54, .move (.tmp 7), some (14, false)), (some 55, .move (.tmp 54), some (14, false)), (some 56, .move (.tmp 3), some (16, true)), (some 57, .call { callee := .value (.func 10), args := #[.tmp 56], argTypes := #[25] }, some (16, true)), (some 58, .load 29 (.tmp 6), some (16, true)), (some 59, .binOp .eql 29 (.tmp 57) (.tmp 58) 29, some (16, true)), (some 60, .pick (.tmp 55) (.tmp 59) (.const (.bool false)), some (14, false)), (some 61, .pick (.tmp 53) (.const (.bool true)) (.tmp 60), none)]
def r10Need : Nat → List Nat
  | 2 => [1] | 3 => [0, 2] | 4 => [3] | 5 => [4] | 6 => [5, 4] | 7 => [6, 4] | 8 => [7] | 9 => [8, 7] | 10 => [7] | 11 => [9, 10, 7] | 12 => [7, 11, 4] | 13 => [4, 12] | 14 => [13] | 15 => [14] | 16 => [15, 14] | 17 => [16] | 18 => [17, 16] | 19 => [16] | 20 => [18, 19, 16] | 21 => [16, 20, 14] | 22 => [14, 21] | _ => []
def r10TVal (p : Nat) (u v : VV) (q : Nat) : Value :=
  match q with
  | 0 => .bool true | 1 => .int .i64 0 | 2 => .bool true | 3 => .bool false | 4 => .bool false | 5 => .bool true | 6 => .bool false | 7 => .bool false | 12 => .bool false | 13 => .bool false | 14 => .bool false | 15 => .bool true | 16 => .bool true | 17 => .pointer (some ⟨p, 0, none⟩) | 18 => .agg (vvs u) | 19 => .agg (vvs v) | 20 => .bool false | 21 => .bool false | 22 => .bool false | _ => undef
set_option maxHeartbeats 4000000 in
set_option maxRecDepth 100000 in
theorem r10T_region {id : Nat} {ops : List Oper} {Q : Exit → Act → World → Prop} {a0 : Act} {w : World} (p : Nat) (u v : VV) (hops : ops.map (fun o => (o.dst, o.op, o.guard)) = r10Sh) (hdep : depsG r10Need ops = true) (hz : a0.tmps.size = 69) {ad : Addr}
    (h3 : a0.eval (.tmp 3) = .pointer (some ⟨p, 0, none⟩)) (h6 : a0.eval (.tmp 6) = .pointer (some ad)) (h7 : a0.eval (.tmp 7) = .bool true) (h8 : a0.eval (.tmp 8) = .int .i64 0)
    (huv : u ≠ v) (hc : ∀ w', Below w.heap.size w w' → Calls Try.prog 10 #[.pointer (some ⟨p, 0, none⟩)] w' fun e w2 => e = .returned (.agg (vvs u)) ∧ Below w'.heap.size w' w2) (hl : ∀ w', Below w.heap.size w w' → ∀ j x, (vvs v).toList[j]? = some x → w'.cell? (ad.add j) = some x)
    (hQ : ∀ a' w', a'.tmps.size = 69 → a'.defers = a0.defers → Below w.heap.size w w' → a'.eval (.tmp 61) = .bool false → (∀ t, (∀ (j : Nat) (op : Op), r10Sh.dsts[j]? ≠ some (some t, op)) → a'.eval (.tmp t) = a0.eval (.tmp t)) → Q .normal a' w') : (Code.region id ops.toArray true).wp Try.prog Q a0 w := by
  refine region_pure mixed 69 hz r10Sh hops r10Need hdep (by decide) (by decide) (r10TVal p u v) (fun i d op j b hsh => ?_) ?_ (fun a' w' hs hd hb hv hoth => hQ a' w' hs hd hb (hv 22 61 _ _ rfl) hoth)
  · have hi : i < 23 := (List.getElem?_eq_some_iff.1 hsh).1
    obtain rfl | rfl | rfl | rfl | rfl | rfl | rfl | rfl | rfl | rfl | rfl | rfl | rfl | rfl | rfl | rfl | rfl | rfl | rfl | rfl | rfl | rfl | rfl : i = 0 ∨ i = 1 ∨ i = 2 ∨ i = 3 ∨ i = 4 ∨ i = 5 ∨ i = 6 ∨ i = 7 ∨ i = 8 ∨ i = 9 ∨ i = 10 ∨ i = 11 ∨ i = 12 ∨ i = 13 ∨ i = 14 ∨ i = 15 ∨ i = 16 ∨ i = 17 ∨ i = 18 ∨ i = 19 ∨ i = 20 ∨ i = 21 ∨ i = 22 := by omega
    all_goals first | (exfalso; injection hsh with hsh; have := (Prod.mk.inj (Prod.mk.inj hsh).2).2; cases this; done) | (injection hsh with hsh; have hg := (Prod.mk.inj (Prod.mk.inj hsh).2).2; injection hg with hg; obtain ⟨rfl, rfl⟩ := Prod.mk.inj hg; exact ⟨by decide, fun h => by first | rfl | exact absurd rfl h⟩)
  · intro i d op g hsh hg a w' hsz hb hn hk o ho hd
    have hi : i < 23 := (List.getElem?_eq_some_iff.1 hsh).1
    have e3 := (hk 3 (notD (by rfl))).trans h3
    have e6 := (hk 6 (notD (by rfl))).trans h6
    have e7 := (hk 7 (notD (by rfl))).trans h7
    have e8 := (hk 8 (notD (by rfl))).trans h8
    obtain rfl | rfl | rfl | rfl | rfl | rfl | rfl | rfl | rfl | rfl | rfl | rfl | rfl | rfl | rfl | rfl | rfl | rfl | rfl | rfl | rfl | rfl | rfl : i = 0 ∨ i = 1 ∨ i = 2 ∨ i = 3 ∨ i = 4 ∨ i = 5 ∨ i = 6 ∨ i = 7 ∨ i = 8 ∨ i = 9 ∨ i = 10 ∨ i = 11 ∨ i = 12 ∨ i = 13 ∨ i = 14 ∨ i = 15 ∨ i = 16 ∨ i = 17 ∨ i = 18 ∨ i = 19 ∨ i = 20 ∨ i = 21 ∨ i = 22 := by omega
    all_goals (injection hsh with hsh; obtain ⟨hd1, hsh2⟩ := Prod.mk.inj hsh; injection hd1 with hd1; subst hd1; obtain ⟨rfl, rfl⟩ := Prod.mk.inj hsh2)
    · exact pure_val hd (q_move ho e7)
    · exact pure_val hd (q_move ho e8)
    · exact pure_val hd (q_bin rfl rfl ho (hn 1 (by decide) 40 _ _ rfl) rfl (by rfl))
    · exact pure_ne hd (csem_bool true true true rfl) (.c (.v _ rfl)) (.c (.v _ rfl)) ho (hn 0 (by decide) 39 _ _ rfl) (hn 2 (by decide) 41 _ _ rfl)
    · exact pure_val hd (q_move ho (hn 3 (by decide) 42 _ _ rfl))
    · exact pure_val hd (q_move ho e7)
    · exact pure_val hd (q_not ho (hn 5 (by decide) 44 _ _ rfl) rfl)
    · exact pure_val hd (q_move ho (hn 6 (by decide) 45 _ _ rfl))
    · have := hg 7 true rfl; cases this
    · have := hg 7 true rfl; cases this
    · have := hg 7 true rfl; cases this
    · have := hg 7 true rfl; cases this
    · exact pure_val hd (q_pickF ho (hn 7 (by decide) 46 _ _ rfl) rfl)
    · exact pure_val hd (q_pickF ho (hn 4 (by decide) 43 _ _ rfl) (hn 12 (by decide) 51 _ _ rfl))
    · exact pure_val hd (q_move ho (hn 13 (by decide) 52 _ _ rfl))
    · exact pure_val hd (q_move ho e7)
    · exact pure_val hd (q_move ho (hn 15 (by decide) 54 _ _ rfl))
    · exact pure_val hd (q_move ho e3)
    · exact pure_call [.pointer (some ⟨p, 0, none⟩)] hd ho (enterT Try.func10 (by kernel_rfl) rfl) (by simp [hn 17 (by decide) 56 _ _ rfl]; rfl) (hc w' hb)
    · exact pure_val hd (q_loadA (cs := (vvs v).toList) (ti := ti29) rfl rfl rfl ho e6 (hl w' hb))
    · obtain ⟨q, hq, heq⟩ := vvEq_ok u v; have hqf : q = false := (by cases q with | false => rfl | true => exact absurd (hq.1 rfl) huv); subst hqf; exact pure_eq hd heq (rep_vvs u) (rep_vvs v) ho (hn 18 (by decide) 57 _ _ rfl) (hn 19 (by decide) 58 _ _ rfl)
    · exact pure_val hd (q_pickT ho (hn 16 (by decide) 55 _ _ rfl) (hn 20 (by decide) 59 _ _ rfl))
    · exact pure_val hd (q_pickF ho (hn 14 (by decide) 53 _ _ rfl) (hn 21 (by decide) 60 _ _ rfl))
def r10FVal (p : Nat) (x : Int) (s : ByteArray) (q : Nat) : Value :=
  match q with
  | 0 => .bool false | 1 => .int .i64 x | 2 => .bool false | 3 => .bool false | 4 => .bool false | 5 => .bool false | 6 => .bool true | 7 => .bool true | 8 => .pointer (some ⟨p, 0, none⟩) | 9 => .string s | 10 => .string s | 11 => .bool false | 12 => .bool false | 13 => .bool false | 14 => .bool false | 15 => .bool false | 16 => .bool false | 21 => .bool false | 22 => .bool false | _ => undef
set_option maxHeartbeats 4000000 in
set_option maxRecDepth 100000 in
theorem r10F_region {id : Nat} {ops : List Oper} {Q : Exit → Act → World → Prop} {a0 : Act} {w : World} (p : Nat) (x : Int) (s : ByteArray) (hops : ops.map (fun o => (o.dst, o.op, o.guard)) = r10Sh) (hdep : depsG r10Need ops = true) (hz : a0.tmps.size = 69) {ad : Addr}
    (h3 : a0.eval (.tmp 3) = .pointer (some ⟨p, 0, none⟩)) (h5 : a0.eval (.tmp 5) = .string s) (h7 : a0.eval (.tmp 7) = .bool false) (h8 : a0.eval (.tmp 8) = .int .i64 x)
    (hx : x ≠ 0) (hc : ∀ w', Below w.heap.size w w' → Calls Try.prog 9 #[.pointer (some ⟨p, 0, none⟩)] w' fun e w2 => e = .returned (.string s) ∧ Below w'.heap.size w' w2)
    (hQ : ∀ a' w', a'.tmps.size = 69 → a'.defers = a0.defers → Below w.heap.size w w' → a'.eval (.tmp 61) = .bool false → (∀ t, (∀ (j : Nat) (op : Op), r10Sh.dsts[j]? ≠ some (some t, op)) → a'.eval (.tmp t) = a0.eval (.tmp t)) → Q .normal a' w') : (Code.region id ops.toArray true).wp Try.prog Q a0 w := by
  refine region_pure mixed 69 hz r10Sh hops r10Need hdep (by decide) (by decide) (r10FVal p x s) (fun i d op j b hsh => ?_) ?_ (fun a' w' hs hd hb hv hoth => hQ a' w' hs hd hb (hv 22 61 _ _ rfl) hoth)
  · have hi : i < 23 := (List.getElem?_eq_some_iff.1 hsh).1
    obtain rfl | rfl | rfl | rfl | rfl | rfl | rfl | rfl | rfl | rfl | rfl | rfl | rfl | rfl | rfl | rfl | rfl | rfl | rfl | rfl | rfl | rfl | rfl : i = 0 ∨ i = 1 ∨ i = 2 ∨ i = 3 ∨ i = 4 ∨ i = 5 ∨ i = 6 ∨ i = 7 ∨ i = 8 ∨ i = 9 ∨ i = 10 ∨ i = 11 ∨ i = 12 ∨ i = 13 ∨ i = 14 ∨ i = 15 ∨ i = 16 ∨ i = 17 ∨ i = 18 ∨ i = 19 ∨ i = 20 ∨ i = 21 ∨ i = 22 := by omega
    all_goals first | (exfalso; injection hsh with hsh; have := (Prod.mk.inj (Prod.mk.inj hsh).2).2; cases this; done) | (injection hsh with hsh; have hg := (Prod.mk.inj (Prod.mk.inj hsh).2).2; injection hg with hg; obtain ⟨rfl, rfl⟩ := Prod.mk.inj hg; exact ⟨by decide, fun h => by first | rfl | exact absurd rfl h⟩)
  · intro i d op g hsh hg a w' hsz hb hn hk o ho hd
    have hi : i < 23 := (List.getElem?_eq_some_iff.1 hsh).1
    have e3 := (hk 3 (notD (by rfl))).trans h3
    have e5 := (hk 5 (notD (by rfl))).trans h5
    have e7 := (hk 7 (notD (by rfl))).trans h7
    have e8 := (hk 8 (notD (by rfl))).trans h8
    obtain rfl | rfl | rfl | rfl | rfl | rfl | rfl | rfl | rfl | rfl | rfl | rfl | rfl | rfl | rfl | rfl | rfl | rfl | rfl | rfl | rfl | rfl | rfl : i = 0 ∨ i = 1 ∨ i = 2 ∨ i = 3 ∨ i = 4 ∨ i = 5 ∨ i = 6 ∨ i = 7 ∨ i = 8 ∨ i = 9 ∨ i = 10 ∨ i = 11 ∨ i = 12 ∨ i = 13 ∨ i = 14 ∨ i = 15 ∨ i = 16 ∨ i = 17 ∨ i = 18 ∨ i = 19 ∨ i = 20 ∨ i = 21 ∨ i = 22 := by omega
    all_goals (injection hsh with hsh; obtain ⟨hd1, hsh2⟩ := Prod.mk.inj hsh; injection hd1 with hd1; subst hd1; obtain ⟨rfl, rfl⟩ := Prod.mk.inj hsh2)
    · exact pure_val hd (q_move ho e7)
    · exact pure_val hd (q_move ho e8)
    · exact pure_val hd (q_bin rfl rfl ho (hn 1 (by decide) 40 _ _ rfl) rfl (by show some (AV.v (.bool (sy .cmp .eql x 0))) = _; rw [eqF rfl, decide_eq_false hx]; rfl))
    · exact pure_ne hd (csem_bool false false true rfl) (.c (.v _ rfl)) (.c (.v _ rfl)) ho (hn 0 (by decide) 39 _ _ rfl) (hn 2 (by decide) 41 _ _ rfl)
    · exact pure_val hd (q_move ho (hn 3 (by decide) 42 _ _ rfl))
    · exact pure_val hd (q_move ho e7)
    · exact pure_val hd (q_not ho (hn 5 (by decide) 44 _ _ rfl) rfl)
    · exact pure_val hd (q_move ho (hn 6 (by decide) 45 _ _ rfl))
    · exact pure_val hd (q_move ho e3)
    · exact pure_call [.pointer (some ⟨p, 0, none⟩)] hd ho (enterT Try.func9 (by kernel_rfl) rfl) (by simp [hn 8 (by decide) 47 _ _ rfl]; rfl) (hc w' hb)
    · exact pure_val hd (q_move ho e5)
    · exact pure_val hd (q_bin rfl rfl ho (hn 9 (by decide) 48 _ _ rfl) (hn 10 (by decide) 49 _ _ rfl) (by show some (AV.v (.bool (sy .scmp .neq s s))) = some (AV.v (.bool false)); simp [sy]))
    · exact pure_val hd (q_pickT ho (hn 7 (by decide) 46 _ _ rfl) (hn 11 (by decide) 50 _ _ rfl))
    · exact pure_val hd (q_pickF ho (hn 4 (by decide) 43 _ _ rfl) (hn 12 (by decide) 51 _ _ rfl))
    · exact pure_val hd (q_move ho (hn 13 (by decide) 52 _ _ rfl))
    · exact pure_val hd (q_move ho e7)
    · exact pure_val hd (q_move ho (hn 15 (by decide) 54 _ _ rfl))
    · have := hg 16 true rfl; cases this
    · have := hg 16 true rfl; cases this
    · have := hg 16 true rfl; cases this
    · have := hg 16 true rfl; cases this
    · exact pure_val hd (q_pickF ho (hn 16 (by decide) 55 _ _ rfl) rfl)
    · exact pure_val hd (q_pickF ho (hn 14 (by decide) 53 _ _ rfl) (hn 21 (by decide) 60 _ _ rfl))
end Go.Proofs.Ytdnaadcbimbfmaa
set_option linter.unusedSimpArgs false
set_option linter.unusedVariables false
namespace Go.Proofs.Ytdnaadcbimbfmaa
open Go Go.RowKit Am

theorem cell_below {w w' : World} {ad : Addr} {v : Value} (hb : Below w.heap.size w w') (h : w.cell? ad = some v) : w'.cell? ad = some v := by
  rw [← h]
  exact World.cell?_of_block (hb.block _ (block_lt_of_cell h))
theorem plain_mapA (σ : Sp) : plain (mapA σ) = mapA σ := by unfold mapA; split <;> rfl
set_option maxHeartbeats 8000000 in
set_option maxRecDepth 100000 in
theorem spaceReady_ok (l : List Ev) (rows : List (List AV)) (hrows : rows = evR l) : CSem Try.prog (.fn 3) [.sl rows] (.pure [aB true]) := by
  refine acall_hand 69 Try.func3 (by kernel_rfl) rfl rfl (by simp) fun w S a h => ?_
  have hS := h.hi.lt
  obtain ⟨fb, hfb⟩ : ∃ fb, fb = few17 l := ⟨_, rfl⟩
  have kf0 := few_ok l rows hrows fb hfb
  refine wp_seq (h.pc (E := { n := 69 }) [(0, .sl rows)] rfl (fun F C D hF hC => ?_) fun S1 a1 w1 h1 => ?_)
  · cbv
    exact ⟨100, (le_of [] (by simp [leSl, leOb, injK, memK, parK, noTup, lk, rn0, rnA, plain] <;> first | rfl | decide | (repeat (first | rfl | trivial | refine And.intro ?_ ?_))))⟩
  clear h
  refine wp_seq (wp_seq (h1.pc (E := { n := 69 }) [(15, aB (!fb)), (0, .sl rows)] rfl (fun F C D hF hC => ?_) fun S2 a2 w2 h2 => ?_))
  · have ka := hC _ _ _ awake_ok
    have kf := hC _ _ _ kf0
    have t1 := bnotF hF true
    have t2 := bnotF hF fb
    clear kf0 hfb hrows
    cases fb with
    | true =>
      cbv
      refine ⟨_, ka, ?_⟩
      cbv
      rw [t1]
      repeat (first | (refine bF rfl ?_; cbv) | (refine cF rfl ?_; cbv) | (refine bT rfl ?_; cbv) | (refine cT rfl ?_; cbv))
      refine ⟨_, kf, ?_⟩
      cbv
      rw [t2]
      repeat (first | (refine bF rfl ?_; cbv) | (refine cF rfl ?_; cbv) | (refine bT rfl ?_; cbv) | (refine cT rfl ?_; cbv))
      exact ⟨100, (le_of [] (by simp [leSl, leOb, injK, memK, parK, noTup, lk, rn0, rnA, plain] <;> first | rfl | decide | (repeat (first | rfl | trivial | refine And.intro ?_ ?_))))⟩
    | false =>
      cbv
      refine ⟨_, ka, ?_⟩
      cbv
      rw [t1]
      repeat (first | (refine bF rfl ?_; cbv) | (refine cF rfl ?_; cbv) | (refine bT rfl ?_; cbv) | (refine cT rfl ?_; cbv))
      refine ⟨_, kf, ?_⟩
      cbv
      rw [t2]
      repeat (first | (refine bF rfl ?_; cbv) | (refine cF rfl ?_; cbv) | (refine bT rfl ?_; cbv) | (refine cT rfl ?_; cbv))
      exact ⟨100, (le_of [] (by simp [leSl, leOb, injK, memK, parK, noTup, lk, rn0, rnA, plain] <;> first | rfl | decide | (repeat (first | rfl | trivial | refine And.intro ?_ ?_))))⟩
  clear h1 kf0
  cases fb with
  | false =>
    refine wp_cond_true (h2.val (t := 15) rfl) (wp_seq (h2.pc (E := { n := 69 }) [(2, aB true)] rfl (fun F C D hF hC => ?_) fun S3 a3 w3 h3 => ?_))
    · have ka := hC _ _ _ awake_ok
      cbv
      refine ⟨_, ka, ?_⟩
      cbv
      exact ⟨100, (le_of [] (by simp [leSl, leOb, injK, memK, parK, noTup, lk, rn0, rnA, plain] <;> first | rfl | decide | (repeat (first | rfl | trivial | refine And.intro ?_ ?_))))⟩
    refine wp_ret ?_
    exact h3.ret1 rfl rfl rfl
  | true =>
  have hll : l.length ≤ 60 := few17_len hfb.symm
  refine wp_cond_false (h2.val (t := 15) rfl) (wp_skip ?_)
  show Code.wp Try.prog (Code.seq _ _) _ _ _
  refine wp_seq (wp_region_list ?_)
  refine callW [] rfl rfl (enterT Try.func8 (by kernel_rfl) rfl) (by simp) ?_
  refine (newW_ok w2).mono ?_
  rintro r w3 ⟨rfl, rfl⟩
  refine ⟨_, rfl, ?_⟩
  have hgr := h2.gr
  have h3 := AS.fresh h2 (d := 17) (by decide)
  clear h2
  obtain ⟨p, hp⟩ : ∃ p, p = w2.heap.size := ⟨_, rfl⟩
  have hdone := fun (n : Nat) (sl : List (Nat × AV)) (S' : Nat → Prop) (L : Lay) (σ : Sp) (mv : Value) (a : Act) (w2 : World) => AS.done (n := n) (sl := sl) (S' := S') (L := L) (σ := σ) (mv := mv) (a := a) (w2 := w2) hgr hS
  rw [← hp] at h3 hdone ⊢
  obtain ⟨wA, hwA⟩ : ∃ wA, wA = w2.alloc (.cells (spV (.map none) (fun _ => 0) 0) 52) := ⟨_, rfl⟩
  rw [← hwA] at h3 hdone ⊢
  obtain ⟨LP, hLP⟩ : ∃ LP, LP = layP p := ⟨_, rfl⟩
  rw [← hLP] at h3 hdone
  obtain ⟨n', hn'⟩ : ∃ n' : Int, n' = (l.length : Int) := ⟨_, rfl⟩
  refine h3.pcl (E := { n := 69 }) [(3, .v (.pointer (some ⟨p, 0, none⟩))), (0, .sl rows)] rfl (fun F C hF hC => ?_) fun S4 a4 w4 h4 => ?_
  · clear hrows hfb
    cbv
    exact ⟨100, (le_of [] (by simp [leSl, leOb, injK, memK, parK, noTup, lk, rn0, rnA, plain] <;> first | rfl | decide | (repeat (first | rfl | trivial | refine And.intro ?_ ?_))))⟩
  clear h3
  show Code.wp Try.prog (Code.seq _ _) _ _ _
  refine wp_seq (wp_seq (h4.pc (E := { n := 69 }) [(20, aI 0), (19, aI n'), (3, .v (.pointer (some ⟨p, 0, none⟩))), (0, .sl rows)] rfl (fun F C D hF hC => ?_) fun S5 a5 w5 h5 => ?_))
  · have tl : F .len rows = n' := by rw [lenF hF, hrows, evR_len, hn']
    clear hrows hfb
    cbv
    rw [tl]
    exact ⟨100, (le_of [] (by simp [leSl, leOb, injK, memK, parK, noTup, lk, rn0, rnA, plain] <;> first | rfl | decide | (repeat (first | rfl | trivial | refine And.intro ?_ ?_))))⟩
  clear h4
  -- the loop
  refine wp_block (loop_by (fun k a w' => k ≤ l.length ∧ ∃ S L σ mv got k', k' = (k : Int) ∧ SpG σ got ∧ got.length ≤ k ∧ AS 69 wA LP p [(20, aI k'), (19, aI n'), (3, .v (.pointer (some ⟨p, 0, none⟩))), (0, .sl rows)] S L σ mv a w') (fun k => l.length - k) 0 ⟨Nat.zero_le _, S5, _, sp0, _, [], 0, rfl, spg0, Nat.zero_le _, h5⟩ fun k aa ww hI => ?_)
  clear h5
  obtain ⟨hk, S, L, σ, mv, got, k', ek, hg, hgl, hs⟩ := hI
  by_cases hkl : k < l.length
  · obtain ⟨e, he⟩ : ∃ e, l[k]? = some e := ⟨_, List.getElem?_eq_getElem hkl⟩
    have hrow : rows[k]? = some e.ac := by rw [hrows]; exact evR_get he
    obtain ⟨k2, ek2⟩ : ∃ k2 : Int, k2 = ((k + 1 : Nat) : Int) := ⟨_, rfl⟩
    refine wp_seq (hs.pc (E := { n := 69 }) [(21, aB true), (20, aI k'), (19, aI n'), (3, .v (.pointer (some ⟨p, 0, none⟩))), (0, .sl rows)] rfl (fun F C D hF hC => ?_) fun S1 a1 w1 h1 => ?_)
    · have tl : F .cmp .lss k' n' = true := (ltF hF k l.length k' n' ek hn').2 hkl
      clear hrow hrows
      cbv
      rw [tl]
      exact ⟨100, (le_of [] (by simp [leSl, leOb, injK, memK, parK, noTup, lk, rn0, rnA, plain] <;> first | rfl | decide | (repeat (first | rfl | trivial | refine And.intro ?_ ?_))))⟩
    clear hs
    refine wp_seq (wp_cond_true (h1.val (t := 21) rfl) (wp_skip ?_))
    refine wp_seq (wp_block (wp_seq (h1.pc (E := { n := 69 }) [(4, aI k'), (20, aI k'), (19, aI n'), (3, .v (.pointer (some ⟨p, 0, none⟩))), (0, .sl rows)] rfl (fun F C D hF hC => ?_) fun S2 a2 w2 h2 => ?_)))
    · clear hrow hrows
      cbv
      exact ⟨100, (le_of [] (by simp [leSl, leOb, injK, memK, parK, noTup, lk, rn0, rnA, plain] <;> first | rfl | decide | (repeat (first | rfl | trivial | refine And.intro ?_ ?_))))⟩
    clear h1
    -- text, v
    obtain ⟨s, henc⟩ := h2.sp.encW hg (by omega)
    refine wp_seq (wp_region_list ?_)
    refine h2.pre (E := { n := 69 }) 1 [(23, .v (.pointer (some ⟨p, 0, none⟩))), (4, aI k'), (20, aI k'), (19, aI n'), (3, .v (.pointer (some ⟨p, 0, none⟩))), (0, .sl rows)] rfl (fun F C hF hC => ?_) fun S3 a3 w3 h3 => ?_
    · clear hrow hrows
      cbv
      exact ⟨100, (le_of [] (by simp [leSl, leOb, injK, memK, parK, noTup, lk, rn0, rnA, plain] <;> first | rfl | decide | (repeat (first | rfl | trivial | refine And.intro ?_ ?_))))⟩
    clear h2
    refine callW [.pointer (some ⟨p, 0, none⟩)] rfl rfl (enterT Try.func9 (by kernel_rfl) rfl) (by simp [h3.val (t := 23) rfl]) ?_
    refine (henc h3.sp).mono ?_
    rintro r w4 ⟨rfl, hb4⟩
    refine ⟨_, rfl, ?_⟩
    have h4 := (h3.bw hb4).put (d := 24) (by decide) (aS s) (srep_of_rep (.c (.v _ rfl)))
    clear h3
    refine h4.pre (E := { n := 69 }) 1 [(25, .v (.pointer (some ⟨p, 0, none⟩))), (24, aS s), (4, aI k'), (20, aI k'), (19, aI n'), (3, .v (.pointer (some ⟨p, 0, none⟩))), (0, .sl rows)] rfl (fun F C hF hC => ?_) fun S5 a5 w5 h5 => ?_
    · clear hrow hrows
      cbv
      exact ⟨100, (le_of [] (by simp [leSl, leOb, injK, memK, parK, noTup, lk, rn0, rnA, plain] <;> first | rfl | decide | (repeat (first | rfl | trivial | refine And.intro ?_ ?_))))⟩
    clear h4
    refine callW [.pointer (some ⟨p, 0, none⟩)] rfl rfl (enterT Try.func10 (by kernel_rfl) rfl) (by simp [h5.val (t := 25) rfl]) ?_
    refine h5.sp.vvW.mono ?_
    rintro r w6 ⟨rfl, hb6⟩
    refine ⟨_, rfl, ?_⟩
    obtain ⟨v, hv⟩ : ∃ v, v = σ.vv := ⟨_, rfl⟩
    rw [← hv]
    have h6 := (h5.bw hb6).put (d := 26) (by decide) (.agg (vac v)) (srep_of_rep (rep_vvs v))
    clear h5
    refine h6.pcl (E := { n := 69 }) [(6, .ept (vac v) 0), (5, aS s), (4, aI k'), (20, aI k'), (19, aI n'), (3, .v (.pointer (some ⟨p, 0, none⟩))), (0, .sl rows)] rfl (fun F C hF hC => ?_) fun S7 a7 w7 h7 => ?_
    · clear hrow hrows hv
      cbv
      exact ⟨100, (le_of [] (by simp [leSl, leOb, injK, memK, parK, noTup, lk, rn0, rnA, plain] <;> first | rfl | decide | (repeat (first | rfl | trivial | refine And.intro ?_ ?_))))⟩
    clear h6
    -- Ready
    obtain ⟨r, hr⟩ : ∃ r : Bool, (r = true ↔ ReadyP σ.vv e) := ⟨@decide (ReadyP σ.vv e) (Classical.propDecidable _), by simp⟩
    refine wp_seq (wp_region_list ?_)
    refine h7.pre (E := { n := 69 }) 5 [(31, .agg e.ac), (27, .v (.pointer (some ⟨p, 0, none⟩))), (6, .ept (vac v) 0), (5, aS s), (4, aI k'), (20, aI k'), (19, aI n'), (3, .v (.pointer (some ⟨p, 0, none⟩))), (0, .sl rows)] rfl (fun F C hF hC => ?_) fun S8 a8 w8 h8 => ?_
    · clear hrows hv
      cbv
      refine ⟨k, _, ek, hrow, rfl, ?_⟩
      cbv
      exact ⟨100, (le_of [] (by simp [leSl, leOb, injK, memK, parK, noTup, lk, rn0, rnA, plain] <;> first | rfl | decide | (repeat (first | rfl | trivial | refine And.intro ?_ ?_))))⟩
    clear h7
    have r31 : a8.eval (.tmp 31) = .agg e.vs := rep_agg_v (xs := e.vs.toList) (h8.hi.slots 31 _ rfl).2
    refine callW [.pointer (some ⟨p, 0, none⟩), .agg e.vs] rfl rfl (enterT Try.func11 (by kernel_rfl) rfl) (by simp [h8.val (t := 27) rfl, r31]) ?_
    refine (readyW h8.sp hg.vr e r hr).mono ?_
    rintro q w9 ⟨rfl, hb9⟩
    refine ⟨_, rfl, ?_⟩
    have h9 := (h8.bw hb9).put (d := 32) (by decide) (aB r) (srep_of_rep (.c (.v _ rfl)))
    clear h8 r31
    refine h9.pcl (E := { n := 69 }) [(7, aB r), (6, .ept (vac v) 0), (5, aS s), (4, aI k'), (20, aI k'), (19, aI n'), (3, .v (.pointer (some ⟨p, 0, none⟩))), (0, .sl rows)] rfl (fun F C hF hC => ?_) fun S10 a10 w10 h10 => ?_
    · clear hrow hrows hv
      cbv
      exact ⟨100, (le_of [] (by simp [leSl, leOb, injK, memK, parK, noTup, lk, rn0, rnA, plain] <;> first | rfl | decide | (repeat (first | rfl | trivial | refine And.intro ?_ ?_))))⟩
    clear h9
    -- Apply
    refine wp_seq (wp_mono (Q := fun ex a' w' => ex = .normal ∧ ∃ S L' σ2 mv2 got2 x, AS 69 wA LP p [(8, aI x), (7, aB r), (6, .ept (vac v) 0), (5, aS s), (4, aI k'), (20, aI k'), (19, aI n'), (3, .v (.pointer (some ⟨p, 0, none⟩))), (0, .sl rows)] S L' σ2 mv2 a' w' ∧ SpG σ2 got2 ∧ got2.length ≤ k + 1 ∧ ¬ ReadyP σ2.vv e ∧ ((r = true ∧ x = 0 ∧ σ2.vv ≠ v) ∨ (r = false ∧ x ≠ 0 ∧ σ2 = σ))) ?_ fun ex a11 w11 hh => ?_)
    · refine wp_region_list ?_
      refine h10.pre (E := { n := 69 }) 5 [(37, .agg e.ac), (33, .v (.pointer (some ⟨p, 0, none⟩))), (7, aB r), (6, .ept (vac v) 0), (5, aS s), (4, aI k'), (20, aI k'), (19, aI n'), (3, .v (.pointer (some ⟨p, 0, none⟩))), (0, .sl rows)] rfl (fun F C hF hC => ?_) fun S11 a11 w11 h11 => ?_
      · clear hrows hv
        cbv
        refine ⟨k, _, ek, hrow, rfl, ?_⟩
        cbv
        exact ⟨100, (le_of [] (by simp [leSl, leOb, injK, memK, parK, noTup, lk, rn0, rnA, plain] <;> first | rfl | decide | (repeat (first | rfl | trivial | refine And.intro ?_ ?_))))⟩
      have r37 : a11.eval (.tmp 37) = .agg e.vs := rep_agg_v (xs := e.vs.toList) (h11.hi.slots 37 _ rfl).2
      refine callW [.pointer (some ⟨p, 0, none⟩), .agg e.vs] rfl rfl (enterT Try.func12 (by kernel_rfl) rfl) (by simp [h11.val (t := 33) rfl, r37]) ?_
      by_cases hrd : ReadyP σ.vv e
      · refine (apply_ok w11 _ p σ _ e h11.sp hrd hg.vr (fun i en hen => hg.ents (by omega) hrd i en hen)).mono ?_
        rintro q w12 ⟨L6, mv6, i, rfl, hki, hsp6, hx6, hk6⟩
        refine ⟨_, rfl, ?_⟩
        have h12 := (h11.wr hsp6 hk6 hx6).put (d := 38) (by decide) (aI 0) (srep_of_rep (.c (.v _ rfl)))
        clear h11
        refine h12.pcl (E := { n := 69 }) [(8, aI 0), (7, aB r), (6, .ept (vac v) 0), (5, aS s), (4, aI k'), (20, aI k'), (19, aI n'), (3, .v (.pointer (some ⟨p, 0, none⟩))), (0, .sl rows)] rfl (fun F C hF hC => ?_) fun S13 a13 w13 h13 => ?_
        · clear hrow hrows hv
          cbv
          exact ⟨100, (le_of [] (by simp [leSl, leOb, injK, memK, parK, noTup, lk, rn0, rnA, plain] <;> first | rfl | decide | (repeat (first | rfl | trivial | refine And.intro ?_ ?_))))⟩
        refine ⟨rfl, S13, _, _, _, e :: got, 0, h13, hg.app hrd (evok_of hrd.rt (by have := hrd.rt.can; exact canB_sz this)) hki, by simp; omega, ?_, .inl ⟨hr.2 hrd, rfl, ?_⟩⟩
        · rw [app_vv]; exact ready_once hrd
        · rw [app_vv, hv]; exact ready_new hrd
      · obtain ⟨x, hx, kx⟩ := applyN_ok (mapA σ) (plain_mapA σ) σ.vv σ.tm hg.vr e hrd
        refine (h11.sp.callV (xs := [.agg e.vs]) kx (fun S => reps_ev e)).mono ?_
        rintro q w12 ⟨rfl, hb12⟩
        refine ⟨_, rfl, ?_⟩
        have h12 := (h11.bw hb12).put (d := 38) (by decide) (aI x) (srep_of_rep (.c (.v _ rfl)))
        clear h11
        refine h12.pcl (E := { n := 69 }) [(8, aI x), (7, aB r), (6, .ept (vac v) 0), (5, aS s), (4, aI k'), (20, aI k'), (19, aI n'), (3, .v (.pointer (some ⟨p, 0, none⟩))), (0, .sl rows)] rfl (fun F C hF hC => ?_) fun S13 a13 w13 h13 => ?_
        · clear hrow hrows hv
          cbv
          exact ⟨100, (le_of [] (by simp [leSl, leOb, injK, memK, parK, noTup, lk, rn0, rnA, plain] <;> first | rfl | decide | (repeat (first | rfl | trivial | refine And.intro ?_ ?_))))⟩
        refine ⟨rfl, S13, _, σ, _, got, x, h13, hg, by omega, hrd, .inr ⟨?_, hx, rfl⟩⟩
        cases r with
        | false => rfl
        | true => exact absurd (hr.1 rfl) hrd
    · obtain ⟨rfl, S11, L2, σ2, mv2, got2, x, h11, hg2, hgl2, hn2, hcase⟩ := hh
      clear h10
      refine wp_seq (wp_seq (wp_mono (Q := fun ex a' w' => ex = .normal ∧ AS 69 wA LP p [(61, aB false), (4, aI k'), (20, aI k'), (19, aI n'), (3, .v (.pointer (some ⟨p, 0, none⟩))), (0, .sl rows)] S11 L2 σ2 mv2 a' w') ?_ fun ex a12 w12 hh => ?_))
      · obtain ⟨ad, had, hcell⟩ := h11.cells (t := 6) (vvs v).toList rfl
        have fin : ∀ a' w', a'.tmps.size = 69 → a'.defers = a11.defers → Below w11.heap.size w11 w' → a'.eval (.tmp 61) = .bool false → (∀ t, (∀ (j : Nat) (op : Op), r10Sh.dsts[j]? ≠ some (some t, op)) → a'.eval (.tmp t) = a11.eval (.tmp t)) → AS 69 wA LP p [(61, aB false), (4, aI k'), (20, aI k'), (19, aI n'), (3, .v (.pointer (some ⟨p, 0, none⟩))), (0, .sl rows)] S11 L2 σ2 mv2 a' w' := fun a' w' hz hd hb h61 ho => by
          have q := ((h11.reg hz hd r10Sh.dsts rfl ho).bw hb)
          have q2 : AS 69 wA LP p [(4, aI k'), (20, aI k'), (19, aI n'), (3, .v (.pointer (some ⟨p, 0, none⟩))), (0, .sl rows)] S11 L2 σ2 mv2 a' w' := (((q.dr rfl).dr rfl).dr rfl).dr rfl
          exact q2.addV (d := 61) (by decide) rfl h61
        rcases hcase with ⟨rfl, rfl, hne⟩ | ⟨rfl, hx, rfl⟩
        · refine r10T_region (ad := ad) p σ2.vv v rfl (by kernel_rfl) h11.hi.size (h11.val rfl) had (h11.val rfl) (h11.val rfl) hne (fun w' hb => (h11.sp.below hb).vvW) (fun w' hb j x hj => cell_below hb (hcell j x hj)) fun a' w' hz hd hb h61 ho => ⟨rfl, fin a' w' hz hd hb h61 ho⟩
        · refine r10F_region (ad := ad) p x s rfl (by kernel_rfl) h11.hi.size (h11.val rfl) (h11.val rfl) (h11.val rfl) (h11.val rfl) hx (fun w' hb => henc (h11.sp.below hb)) fun a' w' hz hd hb h61 ho => ⟨rfl, fin a' w' hz hd hb h61 ho⟩
      · obtain ⟨rfl, h12⟩ := hh
        clear h11
        refine wp_cond_false (h12.val (t := 61) rfl) (wp_skip ?_)
        show Code.wp Try.prog (Code.seq _ _) _ _ _
        refine wp_seq (wp_region_list ?_)
        refine h12.pre (E := { n := 69 }) 5 [(66, .agg e.ac), (62, .v (.pointer (some ⟨p, 0, none⟩))), (20, aI k'), (19, aI n'), (3, .v (.pointer (some ⟨p, 0, none⟩))), (0, .sl rows)] rfl (fun F C hF hC => ?_) fun S13 a13 w13 h13 => ?_
        · clear hrows hv
          cbv
          refine ⟨k, _, ek, hrow, rfl, ?_⟩
          cbv
          exact ⟨100, (le_of [] (by simp [leSl, leOb, injK, memK, parK, noTup, lk, rn0, rnA, plain] <;> first | rfl | decide | (repeat (first | rfl | trivial | refine And.intro ?_ ?_))))⟩
        clear h12
        have r66 : a13.eval (.tmp 66) = .agg e.vs := rep_agg_v (xs := e.vs.toList) (h13.hi.slots 66 _ rfl).2
        refine callW [.pointer (some ⟨p, 0, none⟩), .agg e.vs] rfl rfl (enterT Try.func11 (by kernel_rfl) rfl) (by simp [h13.val (t := 62) rfl, r66]) ?_
        refine (readyW h13.sp hg2.vr e false (by simp [hn2])).mono ?_
        rintro q w14 ⟨rfl, hb14⟩
        refine ⟨_, rfl, ?_⟩
        have h14 := (h13.bw hb14).put (d := 67) (by decide) (aB false) (srep_of_rep (.c (.v _ rfl)))
        clear h13
        refine wpList_nil ?_
        refine wp_cond_false (h14.val (t := 67) rfl) (wp_skip ?_)
        refine h14.pc (E := { n := 69 }) [(20, aI k2), (19, aI n'), (3, .v (.pointer (some ⟨p, 0, none⟩))), (0, .sl rows)] rfl (fun F C D hF hC => ?_) fun S15 a15 w15 h15 => ?_
        · have tl := (incF hF ek (by omega)).trans ek2.symm
          clear hrow hrows hv
          cbv
          rw [tl]
          exact ⟨100, (le_of [] (by simp [leSl, leOb, injK, memK, parK, noTup, lk, rn0, rnA, plain] <;> first | rfl | decide | (repeat (first | rfl | trivial | refine And.intro ?_ ?_))))⟩
        exact ⟨k + 1, ⟨hkl, S15, L2, σ2, mv2, got2, k2, ek2, hg2, hgl2, h15⟩, by omega⟩
  · refine wp_seq (hs.pc (E := { n := 69 }) [(21, aB false)] rfl (fun F C D hF hC => ?_) fun S1 a1 w1 h1 => ?_)
    · have tl : F .cmp .lss k' n' = false := by rw [Bool.eq_false_iff]; exact fun hh => hkl ((ltF hF k l.length k' n' ek hn').1 hh)
      clear hrows
      cbv
      rw [tl]
      exact ⟨100, (le_of [] (by simp [leSl, leOb, injK, memK, parK, noTup, lk, rn0, rnA, plain] <;> first | rfl | decide | (repeat (first | rfl | trivial | refine And.intro ?_ ?_))))⟩
    clear hs
    refine wp_seq (wp_cond_false (h1.val (t := 21) rfl) (wp_exit ?_))
    show Code.wp Try.prog (Code.seq _ _) _ _ _
    refine wp_seq (h1.pc (E := { n := 69 }) [(2, aB true)] rfl (fun F C D hF hC => ?_) fun S2 a2 w2 h2 => ?_)
    · clear hrows
      cbv
      exact ⟨100, (le_of [] (by simp [leSl, leOb, injK, memK, parK, noTup, lk, rn0, rnA, plain] <;> first | rfl | decide | (repeat (first | rfl | trivial | refine And.intro ?_ ?_))))⟩
    subst hwA
    subst hLP
    subst hp
    have hb := hdone _ _ _ _ _ _ _ _ h2
    refine wp_ret (bodyPost_ret (results_tmp rfl _ _ _) h2.hi.defers ⟨_, _, rfl, gr_below hS hb, [_], rfl, Reps.cons ?_ (Reps.nil _ _)⟩)
    show Rep w2 _ (aB true) (a2.tmps.getD 2 undef)
    rw [show a2.tmps.getD 2 undef = .bool true from h2.val (t := 2) rfl]
    exact .c (.v _ rfl)
end Go.Proofs.Ytdnaadcbimbfmaa
