import Derived.Test.YthepmpfkkhckpaaGreatDoorK2
import Derived.Handy
import Derived.LoopTactic
import Derived.Deep.WholeRow
set_option linter.unusedSimpArgs false
set_option linter.unusedVariables false
namespace Go.Proofs.YthepmpfkkhckpaaGreatDoor
open Go Go.RowKit Am

theorem loop_by {P : Program} {c : Code} {R : Exit → Act → World → Prop} {a : Act} {w : World} (I : Nat → Act → World → Prop) (μ : Nat → Nat) (i0 : Nat) (h0 : I i0 a w)
    (hs : ∀ i a w, I i a w → c.wp P (fun e a' w' => match e with | .normal => ∃ j, I j a' w' ∧ μ j < μ i | e => R e a' w') a w) : (Code.loop c).wp P R a w := by
  have key : ∀ (n i : Nat) (a : Act) (w : World), I i a w → μ i < n → Code.rounds P c R n a w := by
    intro n
    induction n with
    | zero => intro i a w _ h; omega
    | succ n ih =>
      intro i a w hI hn
      rw [rounds_succ]
      refine wp_mono (hs i a w hI) fun e a' w' h => ?_
      cases e with
      | normal => obtain ⟨j, hj, hm⟩ := h; exact ih j a' w' hj (by omega)
      | _ => exact h
  exact wp_loop_rounds (μ i0 + 1) (key _ i0 a w h0 (by omega))
def oldnew : List ByteArray := [BA [13], BA [124], BA [10], BA [124]]
/-- What a byte turns into. -/
def swapB (c : UInt8) : UInt8 := if c = 13 ∨ c = 10 then 124 else c
def ark (k : Nat) : Array Value := ((List.range 256).map fun i => Value.int .u8 (if i < k then (i : Int) else 0)).toArray
theorem ark_size (k : Nat) : (ark k).size = 256 := by simp [ark]
theorem ark_0 : ark 0 = Tryz.zeroCells89 := by
  have : Tryz.zeroCells89 = (List.replicate 256 (Value.int .u8 0)).toArray := by kernel_rfl
  rw [this]
  unfold ark
  refine congrArg List.toArray (List.ext_getElem (by rw [List.length_map, List.length_range, List.length_replicate]) fun i h1 h2 => ?_)
  rw [List.getElem_map, List.getElem_range, List.getElem_replicate, if_neg (Nat.not_lt_zero i)]
theorem arr_cell (w : World) (A : Array Value) (k : Nat) (hk : k < A.size) : (w.alloc (.cells A 89)).cell? ⟨w.heap.size, k, none⟩ = some A[k] := by
  rw [cell_of_row _ _ k A 89 (0, 0) (heap_alloc_last w _)]
  exact Array.getElem?_eq_getElem hk
theorem ark_cell (w : World) (k : Nat) (hk : k < 256) : (w.alloc (.cells (ark k) 89)).cell? ⟨w.heap.size, k, none⟩ = some (.int .u8 0) := by
  rw [cell_of_row _ _ k (ark k) 89 (0, 0) (heap_alloc_last w _)]
  simp [ark, hk]
theorem ark_frozen (w : World) (k : Nat) (A : Array Value) : (w.alloc (.cells A 89)).frozen? ⟨w.heap.size, k, none⟩ = false := by
  simp [go_sem]
theorem ark_set (k : Nat) (hk : k < 256) : (ark k).setIfInBounds k (.int .u8 (k : Int)) = ark (k + 1) := by
  apply Array.ext
  · simp [ark_size]
  · intro i h1 h2
    simp only [Array.size_setIfInBounds, ark_size] at h1
    rw [Array.getElem_setIfInBounds (by simpa [ark_size] using h1)]
    by_cases h : k = i
    · subst h; simp [ark]
    · rw [if_neg h]
      simp only [ark, List.getElem_toArray, List.getElem_map, List.getElem_range]
      congr 1
      by_cases h3 : i < k
      · rw [if_pos h3, if_pos (by omega)]
      · rw [if_neg h3, if_neg (by omega)]
def tabA : Array Value := ((ark 256).setIfInBounds 10 (.int .u8 124)).setIfInBounds 13 (.int .u8 124)
set_option maxRecDepth 100000 in
set_option maxHeartbeats 1600000 in
theorem build_ok (b sb c : Nat) (w : World) (hsb : sb < w.heap.size) (h4 : w.cell? ⟨b, 4, none⟩ = some (.slice (some ⟨sb, 0, none⟩) 4 c))
    (hs0 : w.cell? ⟨sb, 0, none⟩ = some (.string ⟨#[13]⟩)) (hs1 : w.cell? ⟨sb, 1, none⟩ = some (.string ⟨#[124]⟩)) (hs2 : w.cell? ⟨sb, 2, none⟩ = some (.string ⟨#[10]⟩)) (hs3 : w.cell? ⟨sb, 3, none⟩ = some (.string ⟨#[124]⟩)) :
    Calls Tryz.prog 26 #[.pointer (some ⟨b, 0, none⟩)] w fun e w' => ∃ g, e = .returned (.iface 90 (.pointer (some ⟨g, 0, none⟩))) ∧ w.heap.size ≤ g ∧ Below w.heap.size w w' ∧ w'.heap[g]? = some (.cells tabA 89 (0, 0)) := by
  have hst : (storeCells ⟨w.heap.size, 0, none⟩ Tryz.zeroCells89.toList).run Tryz.prog (w.alloc (.cells Tryz.zeroCells89 89)) = .ok () (w.alloc (.cells Tryz.zeroCells89 89)) := run_storeCells_new w 89 _ _ (by kernel_rfl) rfl (by kernel_rfl)
  go_enter Tryz.func26, Tryz.ntmps26
  go_wp2
  go_rounds 4
  rw [← ark_0]
  go_loopw [61] (fun v wr => ∃ k : Nat, k ≤ 256 ∧ v = .int .i64 (k : Int) ∧ wr = w.alloc (.cells (ark k) 89)) (fun v _ => 256 - (intOf v).toNat)
  case atStart => exact ⟨0, by omega, rfl, rfl⟩
  case round =>
    obtain ⟨k, hk, rfl, rfl⟩ := hrel
    by_cases hk2 : k < 256
    · have hc := ark_cell w k hk2
      have hz := ark_frozen w k (ark k)
      go_wp2
      exact ⟨⟨k + 1, by omega, by simp, by rw [ark_set k hk2]⟩, by simp [intOf]; omega⟩
    · obtain rfl : k = 256 := by omega
      go_wp2
      have c1 : (w.alloc (.cells (ark 256) 89)).cell? ⟨w.heap.size, 10, none⟩ = some (.int .u8 10) := by rw [arr_cell w _ 10 (by rw [ark_size]; decide)]; simp [ark]
      have z1 := ark_frozen w 10 (ark 256)
      have c2 : (w.alloc (.cells ((ark 256).setIfInBounds 10 (.int .u8 124)) 89)).cell? ⟨w.heap.size, 13, none⟩ = some (.int .u8 13) := by
        rw [arr_cell w _ 13 (by rw [Array.size_setIfInBounds, ark_size]; decide), Array.getElem_setIfInBounds_ne (by rw [ark_size]; decide) (by decide)]
        simp [ark]
      have z2 := ark_frozen w 13 ((ark 256).setIfInBounds 10 (.int .u8 124))
      go_rounds 4
      go_ret
      refine ⟨w.heap.size, rfl, Nat.le_refl _, (Below.refl _ _).alloc (Nat.le_refl _) _, ?_⟩
      rw [heap_alloc_last]
      rfl
end Go.Proofs.YthepmpfkkhckpaaGreatDoor
