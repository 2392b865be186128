import Derived.Test.YtdmdahnnfancpaaE0
import Derived.Test.YtdmdahnnfancpaaSh3
import Derived.WalkKit
import Derived.LoopN
import Derived.Lib.Small
import Derived.Lib.Walk
import Derived.Shelf.SlSortCmp.QuietGrown
import Derived.StillTailTactics
import Derived.Sort.Walk0
import Derived.Shelf.SlSortCmp.WholeK
import Derived.Sort.OwnSorted
import Derived.Shelf.SlSortCmp.NoneTotal
set_option linter.unusedSimpArgs false
set_option linter.unusedVariables false
namespace Go.Proofs.Ytdmdahnnfancpaa
open Go Go.RowKit Am Go.Shelf Go.Lib Go.Sort

/-! ### The comparison of two dots, with the world behind it as an equation -/
theorem eq_isNaN (x : Int) (w : World) : Calls Try.prog 65 #[.int .i64 x] w fun e w' => e = .returned (.bool false) ∧ w' = w := by
  go_enter Try.func65, Try.ntmps65
  go_wp2
  go_ret
  exact ⟨by simp, rfl⟩
set_option maxHeartbeats 1000000 in
theorem eq_cmpI (x y : Int) (w : World) : Calls Try.prog 43 #[.int .i64 x, .int .i64 y] w fun e w' => e = .returned (.int .i64 (compareI x y)) ∧ w' = w := by
  go_enter Try.func43, Try.ntmps43
  go_wp2_with (go_at_call 65; refine (eq_isNaN _ _).mono ?_; rintro e w' ⟨rfl, hw⟩; rw [hw])
  all_goals (go_ret; refine ⟨?_, rfl⟩; unfold compareI; (repeat' split) <;> first | rfl | (exfalso; omega))
set_option maxHeartbeats 1000000 in
theorem eq_or2 (x y : Int) (g : Nat) (w : World) (h0 : w.cell? ⟨g, 0, none⟩ = some (.int .i64 x)) (h1 : w.cell? ⟨g, 1, none⟩ = some (.int .i64 y)) : Calls Try.prog 42 #[.slice (some ⟨g, 0, none⟩) 2 2] w fun e w' => e = .returned (.int .i64 (orF [x, y])) ∧ w' = w := by
  go_enter Try.func42, Try.ntmps42
  go_wp2
  refine wp_loop_rounds 3 ?_
  rw [rounds_succ]
  go_wp2
  · go_ret
    refine ⟨?_, rfl⟩
    simp_all [orF]
  rw [rounds_succ]
  go_wp2
  · go_ret
    refine ⟨?_, rfl⟩
    simp_all [orF]
  rw [rounds_succ]
  go_wp2
  go_ret
  refine ⟨?_, rfl⟩
  simp_all [orF]
inductive Hid (p : Prop) : Prop where
  | mk (h : p) : Hid p
theorem two_grow (w : World) (o1 o2 : Obj) : ({ (w.alloc o1).alloc o2 with drawn := w.drawn + 1 } : World) = Go.Sort.grow (w.drewN 1) #[o1, o2] := by
  show ({ w with heap := (w.heap.push o1).push o2, drawn := w.drawn + 1 } : World) = { w with heap := w.heap ++ #[o1, o2], drawn := w.drawn + 1 }
  congr 1
theorem cell1 (w : World) (xs : Array Value) (i : Nat) (v : Value) (h : xs[i]? = some v) : (w.alloc (Obj.cells xs 3)).cell? ⟨w.heap.size, i, none⟩ = some v := by
  rw [cell_of_row _ _ _ _ _ _ (heap_alloc_new w _)]
  exact h
theorem grow_push (w : World) (os : Array Obj) (o : Obj) : (Go.Sort.grow w os).alloc o = Go.Sort.grow w (os.push o) := by
  show ({ w with heap := (w.heap ++ os).push o } : World) = { w with heap := w.heap ++ os.push o }
  rw [Array.append_push]
theorem cell2a (w : World) (o2 : Obj) (xs : Array Value) (d : Nat) (i : Nat) (v : Value) (h : xs[i]? = some v) : ({ (w.alloc (Obj.cells xs 29)).alloc o2 with drawn := d } : World).cell? ⟨w.heap.size, i, none⟩ = some v := by
  have hh : ({ (w.alloc (Obj.cells xs 29)).alloc o2 with drawn := d } : World).heap[w.heap.size]? = some (.cells xs 29 (0, 0)) := by
    show ((w.heap.push (Obj.cells xs 29)).push o2)[w.heap.size]? = _
    rw [Array.getElem?_push_lt (by simp)]
    simp
  rw [cell_of_row _ _ _ _ _ _ hh]
  exact h
theorem cell2b (w : World) (o1 : Obj) (xs : Array Value) (d : Nat) (i : Nat) (v : Value) (h : xs[i]? = some v) : ({ (w.alloc o1).alloc (Obj.cells xs 29) with drawn := d } : World).cell? ⟨w.heap.size + 1, i, none⟩ = some v := by
  have hh : ({ (w.alloc o1).alloc (Obj.cells xs 29) with drawn := d } : World).heap[w.heap.size + 1]? = some (.cells xs 29 (0, 0)) := by
    show ((w.heap.push o1).push (Obj.cells xs 29))[w.heap.size + 1]? = _
    rw [show w.heap.size + 1 = (w.heap.push o1).size by simp, Array.getElem?_push_size]
  rw [cell_of_row _ _ _ _ _ _ hh]
  exact h
theorem still_tail {P : Program} {id : Nat} {Q : Exit → Act → World → Prop} {a : Act} {w : World} {l : List Oper} (n : Nat) (hm : P.follows .mixedOrders = true) (hB : Region.lexTailB .any l.toArray n = true)
    (h : ∀ W2 : World, W2 = { w with drawn := w.drawn + 1 } → wpStill P l.toArray W2 (fun a' => wpList P l.toArray Q (l.drop n) a' W2) (l.take n) a) : (Code.region id l.toArray true).wp P Q a w :=
  wp_region_still_tail n hm hB (h _ rfl)
instance : Inhabited Dt := ⟨⟨0, 0⟩⟩
def encD (p : Dt) : List Value := [.int .i64 p.R, .int .i64 p.N]
def cfD (x y : Dt) : Int := orF [compareI x.R y.R, compareI x.N y.N]
set_option maxHeartbeats 4000000 in
set_option maxRecDepth 100000 in
theorem eq_cmpD (x y : Dt) (w : World) : Calls Try.prog 57 #[.agg (encD x).toArray, .agg (encD y).toArray] w fun e w' => e = .returned (.int .i64 (cfD x y)) ∧ ∃ q os', w' = Go.Sort.grow (w.drewN q) os' := by
  have h1 := fun W => eq_cmpI x.R y.R W
  have h2 := fun W => eq_cmpI x.N y.N W
  unfold cfD encD
  obtain ⟨m, n⟩ := x
  obtain ⟨m2, n2⟩ := y
  simp only at h1 h2 ⊢
  generalize compareI m m2 = c1 at h1 ⊢
  generalize compareI n n2 = c2 at h2 ⊢
  have h3 := fun g W a b => eq_or2 c1 c2 g W a b
  generalize orF [c1, c2] = c3 at h3 ⊢
  go_enter Try.func57, Try.ntmps57
  have hmix : Try.prog.follows .mixedOrders = true := Try.checked.mixed
  go_wp2
  refine still_tail 10 hmix (by kernel_rfl) fun W2 hW2 => ?_
  have hs2 : W2.heap.size = w.heap.size + 1 + 1 := by rw [hW2]; show ((w.heap.push _).push _).size = _; rw [Array.size_push, Array.size_push]
  have f0 : W2.cell? ⟨w.heap.size, 0, none⟩ = some (.int .i64 m) := by rw [hW2]; exact cell2a _ _ _ _ 0 _ rfl
  have f1 : W2.cell? ⟨w.heap.size, 1, none⟩ = some (.int .i64 n) := by rw [hW2]; exact cell2a _ _ _ _ 1 _ rfl
  have f2 : W2.cell? ⟨w.heap.size + 1, 0, none⟩ = some (.int .i64 m2) := by rw [hW2]; exact cell2b _ _ _ _ 0 _ rfl
  have f3 : W2.cell? ⟨w.heap.size + 1, 1, none⟩ = some (.int .i64 n2) := by rw [hW2]; exact cell2b _ _ _ _ 1 _ rfl
  have hid : Hid (∃ q os', W2 = Go.Sort.grow (w.drewN q) os') := ⟨⟨1, _, by rw [hW2]; exact two_grow w _ _⟩⟩
  clear hW2 hs2
  simp only [List.take_succ_cons, List.take_zero, List.drop_succ_cons, List.drop_zero]
  still_step
  still_step
  still_step
  still_step
  still_call (h1 _)
  still_step
  still_step
  still_step
  still_step
  still_call (h2 _)
  refine wpStill_nil ?_
  clear h1 h2 f0 f1 f2 f3
  go_wp2_with (go_at_call 42; refine (h3 _ _ (cell1 _ _ 0 _ rfl) (cell1 _ _ 1 _ rfl)).mono ?_; rintro e w' ⟨rfl, hw⟩; rw [hw])
  go_ret
  obtain ⟨q, os', hq⟩ := hid.1
  exact ⟨rfl, q, os'.push _, by rw [hq]; exact grow_push _ _ _⟩
/-! ### The order of dots -/
def ltD (x y : Dt) : Bool := decide (x.R < y.R ∨ (x.R = y.R ∧ x.N < y.N))
theorem ltD_iff (x y : Dt) : ltD x y = true ↔ (x.R < y.R ∨ (x.R = y.R ∧ x.N < y.N)) := by unfold ltD; exact decide_eq_true_iff
theorem ltD_irr (x : Dt) : ltD x x = false := by
  cases h : ltD x x with
  | false => rfl
  | true => have := (ltD_iff x x).1 h; omega
theorem ltD_trans {x y z : Dt} (h1 : ltD x y = true) (h2 : ltD y z = true) : ltD x z = true := by
  rw [ltD_iff] at *
  omega
theorem ltD_tri {x y : Dt} (h1 : ltD x y = false) (h2 : ltD y x = false) : x = y := by
  have h1 : ¬ ltD x y = true := by rw [h1]; simp
  have h2 : ¬ ltD y x = true := by rw [h2]; simp
  rw [ltD_iff] at h1 h2
  cases x; cases y
  simp only [Dt.mk.injEq] at *
  omega
theorem ltD_asymm {x y : Dt} (h : ltD x y = true) : ltD y x = false := by
  cases h2 : ltD y x with
  | false => rfl
  | true => have := ltD_trans h h2; rw [ltD_irr] at this; cases this
theorem ltD_ntrans {x y z : Dt} (h1 : ltD x y = false) (h2 : ltD y z = false) : ltD x z = false := by
  cases h : ltD x z with
  | false => rfl
  | true =>
    cases h3 : ltD z y with
    | true => have := ltD_trans h h3; rw [h1] at this; cases this
    | false =>
      have := ltD_tri h2 h3
      subst this
      rw [h1] at h; cases h
theorem compareI_neg (x y : Int) : compareI x y < 0 ↔ x < y := by
  unfold compareI
  split
  · constructor <;> intro <;> omega
  · split
    · constructor <;> intro <;> omega
    · constructor <;> intro <;> omega
theorem compareI_zero (x y : Int) : compareI x y = 0 ↔ x = y := by
  unfold compareI
  split
  · constructor <;> intro <;> omega
  · split
    · constructor <;> intro <;> omega
    · constructor <;> intro <;> omega
theorem ltOf_cfD (x y : Dt) : ltOf cfD x y = ltD x y := by
  have key : cfD x y < 0 ↔ (x.R < y.R ∨ (x.R = y.R ∧ x.N < y.N)) := by
    unfold cfD
    simp only [orF]
    by_cases h0 : compareI x.R y.R = 0
    · have e := (compareI_zero _ _).1 h0
      rw [if_pos h0]
      by_cases h1 : compareI x.N y.N = 0
      · have e1 := (compareI_zero _ _).1 h1
        rw [if_pos h1]
        constructor
        · intro h; omega
        · intro h; omega
      · rw [if_neg h1, compareI_neg]
        constructor
        · intro h; exact .inr ⟨e, h⟩
        · rintro (h | ⟨_, h⟩)
          · omega
          · exact h
    · rw [if_neg h0, compareI_neg]
      have e : ¬ x.R = y.R := fun h => h0 ((compareI_zero _ _).2 h)
      constructor
      · intro h; exact .inl h
      · rintro (h | ⟨h, _⟩)
        · exact h
        · exact absurd h e
  unfold ltOf ltD
  exact decide_eq_decide.2 key
theorem swoD : Go.Sort.SWO (ltOf cfD) where
  irrefl x := by rw [ltOf_cfD]; exact ltD_irr x
  trans x y z h1 h2 := by rw [ltOf_cfD] at *; exact ltD_trans h1 h2
  ntrans x y z h1 h2 := by rw [ltOf_cfD] at *; exact ltD_ntrans h1 h2
/-- Pairs, sorted. -/
def srtD (l : List Dt) : List Dt := l.mergeSort fun x y => !ltD y x
theorem srtD_perm (l : List Dt) : (srtD l).Perm l := List.mergeSort_perm _ _
theorem srtD_sorted (l : List Dt) : (srtD l).Pairwise fun x y => ltD y x = false := by
  have := List.pairwise_mergeSort (le := fun (x y : Dt) => !ltD y x) (fun a b c h1 h2 => by
    simp only [Bool.not_eq_true'] at *
    exact ltD_ntrans h2 h1) (fun a b => by
    cases h : ltD b a with
    | false => simp
    | true => simp [ltD_asymm h]) l
  exact this.imp fun h => by simpa using h
theorem eq_of_sortedD {a b : List Dt} (hp : a.Perm b) (ha : a.Pairwise fun x y => ltD y x = false) (hb : b.Pairwise fun x y => ltD y x = false) : a = b :=
  List.Perm.eq_of_pairwise (le := fun x y => ltD y x = false) (fun x y _ _ h1 h2 => ltD_tri h2 h1) ha hb hp
theorem srtD_of {l m : List Dt} (hp : m.Perm l) (hm : m.Pairwise fun x y => ltD y x = false) : srtD l = m :=
  eq_of_sortedD ((srtD_perm l).trans hp.symm) (srtD_sorted l) hm
theorem srtD_ext {l m : List Dt} (hp : l.Perm m) : srtD l = srtD m :=
  srtD_of ((srtD_perm m).trans hp.symm) (srtD_sorted m)
/-! ### slices.SortFunc at dots -/
def dR (l : List Dt) : List (List AV) := l.map fun p => [aI p.R, aI p.N]
theorem dR_len (l : List Dt) : (dR l).length = l.length := by simp [dR]
theorem dR_get {l : List Dt} {i : Nat} {p : Dt} (h : l[i]? = some p) : (dR l)[i]? = some [aI p.R, aI p.N] := by simp [dR, h]
theorem dR_two (l : List Dt) : ∀ r ∈ dR l, r.length = 2 := fun r h => by
  obtain ⟨a, _, rfl⟩ := List.mem_map.1 h
  rfl
def flD (l : List Dt) : List Value := l.flatMap encD
theorem flD_len (l : List Dt) : (flD l).length = l.length * 2 := by
  induction l with
  | nil => rfl
  | cons a l ih => simp only [flD, List.flatMap_cons, List.length_append, List.length_cons] at ih ⊢; rw [ih]; simp [encD]; omega
theorem dR_flat (l : List Dt) : (dR l).flatten = (flD l).map AV.v := by
  induction l with
  | nil => rfl
  | cons a l ih => simp only [dR, flD, List.map_cons, List.flatten_cons, List.flatMap_cons, List.map_append] at ih ⊢; rw [ih]; rfl
theorem flD_at (l : List Dt) : ∀ (i : Nat) (p : Dt), l[i]? = some p → (flD l)[i * 2]? = some (.int .i64 p.R) ∧ (flD l)[i * 2 + 1]? = some (.int .i64 p.N) := by
  induction l with
  | nil => intro i p h; simp at h
  | cons a l ih =>
    intro i p h
    cases i with
    | zero => simp at h; subst h; exact ⟨rfl, rfl⟩
    | succ i =>
      obtain ⟨h1, h2⟩ := ih i p (by simpa using h)
      have e : flD (a :: l) = .int .i64 a.R :: .int .i64 a.N :: flD l := rfl
      rw [e, show (i + 1) * 2 = i * 2 + 1 + 1 by omega]
      simp only [List.getElem?_cons_succ]
      exact ⟨h1, h2⟩
theorem flatK_eqD (l : List Dt) : (flatK encD 2 l.toArray).toList = flD l := by
  apply List.ext_getElem?
  intro t
  by_cases ht : t < l.length * 2
  · have hk : t < (flatK encD 2 l.toArray).size := by simp; omega
    obtain ⟨p, hp⟩ : ∃ p, l[t / 2]? = some p := ⟨_, List.getElem?_eq_getElem (by omega)⟩
    obtain ⟨a1, a2⟩ := flD_at l (t / 2) p hp
    have hg : l.toArray[t / 2]! = p := by
      have : t / 2 < l.length := by omega
      rw [List.getElem?_eq_getElem this] at hp
      injection hp with hp
      simp [this, hp]
    have h1 : (flatK encD 2 l.toArray)[t]? = some (encD p)[t % 2]! := by
      have := get_flatK encD 2 l.toArray t (by simpa using ht)
      rw [hg] at this
      rw [← this, Array.getElem?_eq_getElem hk, getElem!_pos _ t hk]
    rw [Array.getElem?_toList, h1]
    rcases Nat.mod_two_eq_zero_or_one t with h0 | h0
    · rw [show t / 2 * 2 = t by omega] at a1
      rw [a1, h0]; rfl
    · rw [show t / 2 * 2 + 1 = t by omega] at a2
      rw [a2, h0]; rfl
  · rw [List.getElem?_eq_none (by simp; omega), List.getElem?_eq_none (by rw [flD_len]; omega)]
theorem repl_dR {w : World} {S : Nat → Prop} {l : List Dt} {zs : List Value} (h : RepL w S (dR l).flatten zs) : zs = flD l := by
  rw [dR_flat] at h
  refine List.ext_getElem? fun i => ?_
  rcases Nat.lt_or_ge i (flD l).length with hi | hi
  · obtain ⟨x, hx, hr⟩ := h.get (i := i) (u := .v (flD l)[i]) (by simp [hi])
    rw [hx]
    cases hr with
    | v _ _ => simp [hi]
  · have := h.1
    rw [List.getElem?_eq_none (by rw [← this]; simpa using hi), List.getElem?_eq_none (by simpa using hi)]
theorem flD_one (l : List Dt) : ∀ x ∈ flD l, x.oneCell' = true := by
  intro x hx
  unfold flD at hx
  rw [List.mem_flatMap] at hx
  obtain ⟨p, _, hx⟩ := hx
  simp [encD] at hx
  rcases hx with rfl | rfl <;> rfl
theorem dR_repl (w : World) (S : Nat → Prop) (l : List Dt) : RepL w S (dR l).flatten (flD l) := by
  rw [dR_flat]
  refine ⟨by simp, fun i u x hu hx => ?_⟩
  simp only [List.getElem?_map, hx, Option.map_some] at hu
  injection hu with hu
  subst hu
  exact .v _ (flD_one l x (List.mem_of_getElem? hx))
/-- The row and the closure that are handed over. -/
theorem rowD_in {w : World} {S : Nat → Prop} {β : Nat → Value} {l : List Dt} {xs : List Value} (ho : ∀ k o, lk k [(0, Ob.row 29 2 (dR l) 0 0)] = some o → ORep w S 0 (β k) o) (hx : [AV.own 0 0, AV.clo 57 []].length = xs.length ∧ ∀ (i : Nat) (u : AV) (x : Value), [AV.own 0 0, AV.clo 57 []][i]? = some u → xs[i]? = some x → SRep0 w S β [(0, Ob.row 29 2 (dR l) 0 0)] u x) :
    xs = [β 0, .func (.func 57) #[] #[]] ∧ OwnR w 0 29 2 (β 0) l.length (flD l) ∧ ∀ g, (β 0).ownBlock = some g → ¬ S g := by
  obtain ⟨zs, h1, h2, h3, h4⟩ := ho 0 _ rfl
  rw [repl_dR h2, dR_len] at h1
  refine ⟨?_, h1, h4⟩
  obtain ⟨hl, hg⟩ := hx
  match xs, hl with
  | [x, y], _ =>
    have := hg 0 _ x rfl rfl
    rw [(show ∀ e' sz rows m, lk 0 [(0, Ob.row 29 2 (dR l) 0 0)] = some (.row e' sz rows 0 m) → x = β 0 from this) _ _ _ _ rfl]
    have h2 : Rep w S (.clo 57 []) y := hg 1 _ y rfl rfl
    cases h2 with
    | c h => cases h
    | @clo g caps ys hl _ =>
      have : ys = [] := List.eq_nil_of_length_eq_zero (by simpa using hl.symm)
      subst this
      rfl
/-- The row's cells in the block that its slice owns. -/
theorem heap_sortedD {w : World} {g n : Nat} {os : Array Obj} {cur : Array Value} {e : TypeId} {fr : Nat × Nat} (d : Array Dt) (hb : w.heap[g]? = some (.cells cur e fr)) :
    (sortWorldK encD 2 w g 0 n d os).heap[g]? = some (.cells (putCells id 0 (flatK encD 2 d) cur) e fr) := by
  have hg : g < w.heap.size := (Array.getElem?_eq_some_iff.1 hb).1
  unfold sortWorldK putRowK
  rw [heap_grow_old _ _ (by simpa using hg)]
  simp [putRow, mapBlock, Sort.ahead, Array.getElem?_modify, hb, onCells]
theorem grownBy_sortedD {w : World} {g n : Nat} {os : Array Obj} (d : Array Dt) : w.grownBy (sortWorldK encD 2 w g 0 n d os) (some g) := by
  unfold sortWorldK putRowK
  refine ⟨rfl, rfl, rfl, by simp, fun k hk hne => ?_⟩
  rw [heap_grow_old _ _ (by simpa using hk)]
  have : g ≠ k := fun e => hne (by rw [e])
  simp [putRow, mapBlock, Sort.ahead, Array.getElem?_modify, this]
theorem take_putCellsD (cur : Array Value) (l : List Dt) (h : l.length * 2 ≤ cur.size) : (putCells id 0 (flatK encD 2 l.toArray) cur).toList.take (l.length * 2) = flD l := by
  rw [← flatK_eqD]
  have hs : (flatK encD 2 l.toArray).size = l.length * 2 := by simp
  apply List.ext_getElem?
  intro j
  by_cases hj : j < l.length * 2
  · rw [List.getElem?_take_of_lt hj, Array.getElem?_toList, Array.getElem?_toList]
    have hj2 : j < (flatK encD 2 l.toArray).size := by rw [hs]; exact hj
    rw [Array.getElem?_eq_getElem hj2]
    simp only [putCells, Array.getElem?_mapIdx, show j < cur.size by omega, Array.getElem?_eq_getElem, Option.map_some]
    rw [if_pos ⟨Nat.zero_le _, by omega⟩]
    simp only [Nat.sub_zero, id]
    rw [getElem!_pos (flatK encD 2 l.toArray) j hj2]
  · rw [List.getElem?_take_eq_none (by omega), List.getElem?_eq_none (by simp; omega)]
theorem holdsD {w : World} {g : Nat} {cur : Array Value} {l : List Dt} {e : TypeId} (hb : w.heap[g]? = some (.cells cur e (0, 0))) (ht : cur.toList.take (l.length * 2) = flD l) : HoldsK encD 2 w g 0 l.toArray := by
  unfold HoldsK
  intro j hj
  have hs : (flatK encD 2 l.toArray).size = l.length * 2 := by simp
  have hj' : j < l.length * 2 := by omega
  refine ⟨?_, by simp [World.frozen?, hb]⟩
  rw [Nat.zero_add, cell_of_row w g j cur e (0, 0) hb]
  have h1 : (cur.toList.take (l.length * 2))[j]? = (flD l)[j]? := by rw [ht]
  rw [List.getElem?_take_of_lt hj', Array.getElem?_toList, ← flatK_eqD, Array.getElem?_toList, Array.getElem?_eq_getElem hj] at h1
  rw [h1, id, getElem!_pos (flatK encD 2 l.toArray) j hj]
theorem sortD (l : List Dt) (hl : l.length ≤ 1000000000) (rows : List (List AV)) (hrows : rows = dR l) (out : List (List AV)) (hout : out = dR (srtD l)) :
    CSem Try.prog (.wr 56 [(0, .row 29 2 rows 0 0)] [(0, .row 29 2 out 0 0)]) [.own 0 0, .clo 57 []] (.pure []) := by
  subst hrows hout
  have hml : (srtD l).length = l.length := List.length_mergeSort l
  refine ⟨fun vs w => enters_of (f := 56) (fn := Try.f56) Try.func56 (by kernel_rfl) rfl vs w, fun w S β xs hS hgd ho hsep hx => ?_⟩
  have ho0 := ho
  obtain ⟨rfl, hown, hSb⟩ := rowD_in ho hx
  by_cases hv : β 0 = .slice none 0 0
  · have hn : l = [] := by
      rw [hv] at hown
      rcases hown.2 with ⟨_, h⟩ | ⟨g, cap, cur, fr, h, _⟩
      · exact List.eq_nil_of_length_eq_zero h
      · cases h
    subst hn
    rw [hv]
    refine (AnyF.slices_SortFunc_none Try.laysSortD none 0 _ w).mono fun e w' h => ?_
    obtain ⟨rfl, rfl⟩ := h
    refine ⟨_, S, rfl, .refl hS hgd, fun k o h => ?_, [], rfl, Reps.nil _ _⟩
    exact ho0 k o (by simpa [srtD] using h)
  · rcases hown.2 with ⟨h0, _⟩ | ⟨g, cap, cur, fr, hβ, hbase, hb, hfr, h1, h2, h3, h4⟩
    · exact absurd h0 hv
    have hfr : fr = (0, 0) := by
      rcases hfr with h | ⟨h, _⟩
      · exact h
      · exact absurd h (by decide)
    subst hfr
    have hT : obsBlk [(0, .row 29 2 (dR l) 0 0)] β g := ⟨0, _, rfl, by rw [hβ]; rfl⟩
    have hg : g < w.heap.size := (Array.getElem?_eq_some_iff.1 hb).1
    have eg : ∀ args w, (callFunc 57 args).run Try.prog w = .ok (.enter 57 args) w := enters_of Try.func57 (by kernel_rfl) rfl
    have hH : HoldsK encD 2 w g 0 l.toArray := holdsD hb h4
    have hcon := AnyQ.slices_SortFunc_total Try.laysSortD 2 Try.isAgg29 Try.sizeOf29 encD (fun _ => rfl) (fun x v hv => by simp [encD] at hv; rcases hv with rfl | rfl <;> rfl) cfD swoD 57 #[] g 0 cap l.toArray w eg (fun _ _ _ _ x y => eq_cmpD x y _) hH hg (by simp; omega) (fun x y a b => by rw [ltOf_cfD] at a b; exact ltD_tri a b)
    have hfun : (fun x y : Dt => !(ltOf cfD) y x) = fun x y => !ltD y x := by funext x y; rw [ltOf_cfD]
    rw [hfun] at hcon
    rw [hβ]
    change Calls Try.prog 56 _ _ _ at hcon
    have hcon : Calls Try.prog 56 #[Value.slice (some ⟨g, 0, none⟩) l.length cap, Value.func (Fn.func 57) #[] #[]] w fun e w' => e = Ending.returned (Value.tuple #[]) ∧ ∃ n os, w' = sortWorldK encD 2 w g 0 n (srtD l).toArray os := by simpa [srtD] using hcon
    refine Calls.mono hcon fun e w' h => ?_
    obtain ⟨rfl, q, os, rfl⟩ := h
    have hgb := grownBy_sortedD (w := w) (g := g) (n := q) (os := os) (srtD l).toArray
    refine ⟨_, S, rfl, ⟨rfl, rfl, rfl, hgb.size, fun k hk hn => ?_, fun _ h => h, fun _ h => .inl h, fun x h => Nat.lt_of_lt_of_le (hS x h) hgb.size, hgd, hgd.mono (fun k hk => ?_) (fun _ h => h)⟩, fun k o h => ?_, [], rfl, Reps.nil _ _⟩
    · exact hgb.block k hk (fun e => hn (by injection e with e; rw [e]; exact hT))
    · refine hgb.block k (hS k hk) (fun e => ?_)
      injection e with e
      exact hSb g (by rw [hβ]; rfl) (e ▸ hk)
    · simp only [lk] at h
      split at h
      · rename_i e
        subst e
        injection h with h
        subst h
        refine ⟨_, ?_, dR_repl _ _ _, dR_two _, fun g' hg' => hSb g' hg'⟩
        rw [dR_len]
        refine ⟨by rw [flD_len], .inr ⟨g, cap, _, (0, 0), by rw [hβ, hml], hbase, heap_sortedD _ hb, .inl rfl, by rw [hml]; exact h1, h2, by simp [putCells, h3], ?_⟩⟩
        exact take_putCellsD cur (srtD l) (by rw [hml, h3]; exact Nat.mul_le_mul_right 2 h1)
      · simp at h
end Go.Proofs.Ytdmdahnnfancpaa
