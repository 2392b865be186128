import Derived.Test.YtdmdahnnfancpaaM2
import Derived.WalkKit
import Derived.LoopN
import Derived.Lib.Small
import Derived.Lib.Walk
import Derived.Shelf.SlSortCmp.QuietGrown
import Derived.StillTailTactics
set_option linter.unusedSimpArgs false
set_option linter.unusedVariables false
namespace Go.Proofs.Ytdmdahnnfancpaa
open Go Go.RowKit Am

/-! ### The comparison of two pairs, with the world behind it as an equation -/
/-- Is a string's greater than another? -/
def gtS (a b : ByteArray) : Bool := !(Op.bytesLess a.toList b.toList || a.toList == b.toList)
def cmpS (a b : ByteArray) : Int := if Op.bytesLess a.toList b.toList = true then -1 else if gtS a b = true then 1 else 0
theorem binOp_string_gtr (t : TypeId) (a b : ByteArray) : binOp .gtr t (.string a) (.string b) = pure (.bool (gtS a b)) := by simp [binOp, Op.stringOp, gtS]
theorem eq_isNaN (x : Int) (w : World) : Calls Try.prog 65 #[.int .i64 x] w fun e w' => e = .returned (.bool false) ∧ w' = w := by
  go_enter Try.func65, Try.ntmps65
  go_wp2
  go_ret
  exact ⟨by simp, rfl⟩
theorem eq_isNaNs (x : ByteArray) (w : World) : Calls Try.prog 66 #[.string x] w fun e w' => e = .returned (.bool false) ∧ w' = w := by
  go_enter Try.func66, Try.ntmps66
  go_wp2
  go_ret
  exact ⟨by simp, rfl⟩
set_option maxHeartbeats 1000000 in
theorem eq_cmpI (x y : Int) (w : World) : Calls Try.prog 43 #[.int .i64 x, .int .i64 y] w fun e w' => e = .returned (.int .i64 (compareI x y)) ∧ w' = w := by
  go_enter Try.func43, Try.ntmps43
  go_wp2_with (go_at_call 65; refine (eq_isNaN _ _).mono ?_; rintro e w' ⟨rfl, hw⟩; rw [hw])
  all_goals (go_ret; refine ⟨?_, rfl⟩; unfold compareI; (repeat' split) <;> first | rfl | (exfalso; omega))
set_option maxHeartbeats 1000000 in
theorem eq_cmpS (x y : ByteArray) (w : World) : Calls Try.prog 44 #[.string x, .string y] w fun e w' => e = .returned (.int .i64 (cmpS x y)) ∧ w' = w := by
  go_enter Try.func44, Try.ntmps44
  have hgt := fun t => binOp_string_gtr t x y
  go_wp2_with (go_at_call 66; refine (eq_isNaNs _ _).mono ?_; rintro e w' ⟨rfl, hw⟩; rw [hw])
  all_goals (go_ret; refine ⟨?_, rfl⟩; unfold cmpS; simp_all)
set_option maxHeartbeats 1000000 in
theorem eq_or2 (x y : Int) (g : Nat) (w : World) (h0 : w.cell? ⟨g, 0, none⟩ = some (.int .i64 x)) (h1 : w.cell? ⟨g, 1, none⟩ = some (.int .i64 y)) : Calls Try.prog 42 #[.slice (some ⟨g, 0, none⟩) 2 2] w fun e w' => e = .returned (.int .i64 (orF [x, y])) ∧ w' = w := by
  go_enter Try.func42, Try.ntmps42
  go_wp2
  refine wp_loop_rounds 3 ?_
  rw [rounds_succ]
  go_wp2
  · go_ret
    refine ⟨?_, rfl⟩
    simp_all [orF]
  rw [rounds_succ]
  go_wp2
  · go_ret
    refine ⟨?_, rfl⟩
    simp_all [orF]
  rw [rounds_succ]
  go_wp2
  go_ret
  refine ⟨?_, rfl⟩
  simp_all [orF]
inductive Hid (p : Prop) : Prop where
  | mk (h : p) : Hid p
theorem two_grow (w : World) (o1 o2 : Obj) : ({ (w.alloc o1).alloc o2 with drawn := w.drawn + 1 } : World) = Go.Sort.grow (w.drewN 1) #[o1, o2] := by
  show ({ w with heap := (w.heap.push o1).push o2, drawn := w.drawn + 1 } : World) = { w with heap := w.heap ++ #[o1, o2], drawn := w.drawn + 1 }
  congr 1
theorem cell1 (w : World) (xs : Array Value) (i : Nat) (v : Value) (h : xs[i]? = some v) : (w.alloc (Obj.cells xs 3)).cell? ⟨w.heap.size, i, none⟩ = some v := by
  rw [cell_of_row _ _ _ _ _ _ (heap_alloc_new w _)]
  exact h
theorem grow_push (w : World) (os : Array Obj) (o : Obj) : (Go.Sort.grow w os).alloc o = Go.Sort.grow w (os.push o) := by
  show ({ w with heap := (w.heap ++ os).push o } : World) = { w with heap := w.heap ++ os.push o }
  rw [Array.append_push]
theorem cell2a (w : World) (o2 : Obj) (xs : Array Value) (d : Nat) (i : Nat) (v : Value) (h : xs[i]? = some v) : ({ (w.alloc (Obj.cells xs 41)).alloc o2 with drawn := d } : World).cell? ⟨w.heap.size, i, none⟩ = some v := by
  have hh : ({ (w.alloc (Obj.cells xs 41)).alloc o2 with drawn := d } : World).heap[w.heap.size]? = some (.cells xs 41 (0, 0)) := by
    show ((w.heap.push (Obj.cells xs 41)).push o2)[w.heap.size]? = _
    rw [Array.getElem?_push_lt (by simp)]
    simp
  rw [cell_of_row _ _ _ _ _ _ hh]
  exact h
theorem cell2b (w : World) (o1 : Obj) (xs : Array Value) (d : Nat) (i : Nat) (v : Value) (h : xs[i]? = some v) : ({ (w.alloc o1).alloc (Obj.cells xs 41) with drawn := d } : World).cell? ⟨w.heap.size + 1, i, none⟩ = some v := by
  have hh : ({ (w.alloc o1).alloc (Obj.cells xs 41) with drawn := d } : World).heap[w.heap.size + 1]? = some (.cells xs 41 (0, 0)) := by
    show ((w.heap.push o1).push (Obj.cells xs 41))[w.heap.size + 1]? = _
    rw [show w.heap.size + 1 = (w.heap.push o1).size by simp, Array.getElem?_push_size]
  rw [cell_of_row _ _ _ _ _ _ hh]
  exact h
theorem still_tail {P : Program} {id : Nat} {Q : Exit → Act → World → Prop} {a : Act} {w : World} {l : List Oper} (n : Nat) (hm : P.follows .mixedOrders = true) (hB : Region.lexTailB .any l.toArray n = true)
    (h : ∀ W2 : World, W2 = { w with drawn := w.drawn + 1 } → wpStill P l.toArray W2 (fun a' => wpList P l.toArray Q (l.drop n) a' W2) (l.take n) a) : (Code.region id l.toArray true).wp P Q a w :=
  wp_region_still_tail n hm hB (h _ rfl)
/-- What is told of two pairs. -/
structure Pr where
  m : ByteArray
  n : Int
  deriving Inhabited
def encP (p : Pr) : List Value := [.string p.m, .int .i64 p.n]
def cfP (x y : Pr) : Int := orF [compareI x.n y.n, cmpS x.m y.m]
set_option maxHeartbeats 4000000 in
set_option maxRecDepth 100000 in
theorem eq_cmpP (x y : Pr) (w : World) : Calls Try.prog 41 #[.agg (encP x).toArray, .agg (encP y).toArray] w fun e w' => e = .returned (.int .i64 (cfP x y)) ∧ ∃ q os', w' = Go.Sort.grow (w.drewN q) os' := by
  have h1 := fun W => eq_cmpI x.n y.n W
  have h2 := fun W => eq_cmpS x.m y.m W
  unfold cfP encP
  obtain ⟨m, n⟩ := x
  obtain ⟨m2, n2⟩ := y
  simp only at h1 h2 ⊢
  generalize compareI n n2 = c1 at h1 ⊢
  generalize cmpS m m2 = c2 at h2 ⊢
  have h3 := fun g W a b => eq_or2 c1 c2 g W a b
  generalize orF [c1, c2] = c3 at h3 ⊢
  go_enter Try.func41, Try.ntmps41
  have hmix : Try.prog.follows .mixedOrders = true := Try.checked.mixed
  go_wp2
  refine still_tail 10 hmix (by kernel_rfl) fun W2 hW2 => ?_
  have hs2 : W2.heap.size = w.heap.size + 1 + 1 := by rw [hW2]; show ((w.heap.push _).push _).size = _; rw [Array.size_push, Array.size_push]
  have f0 : W2.cell? ⟨w.heap.size, 0, none⟩ = some (.string m) := by rw [hW2]; exact cell2a _ _ _ _ 0 _ rfl
  have f1 : W2.cell? ⟨w.heap.size, 1, none⟩ = some (.int .i64 n) := by rw [hW2]; exact cell2a _ _ _ _ 1 _ rfl
  have f2 : W2.cell? ⟨w.heap.size + 1, 0, none⟩ = some (.string m2) := by rw [hW2]; exact cell2b _ _ _ _ 0 _ rfl
  have f3 : W2.cell? ⟨w.heap.size + 1, 1, none⟩ = some (.int .i64 n2) := by rw [hW2]; exact cell2b _ _ _ _ 1 _ rfl
  have hid : Hid (∃ q os', W2 = Go.Sort.grow (w.drewN q) os') := ⟨⟨1, _, by rw [hW2]; exact two_grow w _ _⟩⟩
  clear hW2 hs2
  simp only [List.take_succ_cons, List.take_zero, List.drop_succ_cons, List.drop_zero]
  still_step
  still_step
  still_step
  still_step
  still_call (h1 _)
  still_step
  still_step
  still_step
  still_step
  still_call (h2 _)
  refine wpStill_nil ?_
  clear h1 h2 f0 f1 f2 f3
  go_wp2_with (go_at_call 42; refine (h3 _ _ (cell1 _ _ 0 _ rfl) (cell1 _ _ 1 _ rfl)).mono ?_; rintro e w' ⟨rfl, hw⟩; rw [hw])
  go_ret
  obtain ⟨q, os', hq⟩ := hid.1
  exact ⟨rfl, q, os'.push _, by rw [hq]; exact grow_push _ _ _⟩
end Go.Proofs.Ytdmdahnnfancpaa
