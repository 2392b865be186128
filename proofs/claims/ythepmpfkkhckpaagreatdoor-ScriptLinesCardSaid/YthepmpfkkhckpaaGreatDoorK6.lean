import Derived.Test.YthepmpfkkhckpaaGreatDoorK5
set_option linter.unusedSimpArgs false
set_option linter.unusedVariables false
namespace Go.Proofs.YthepmpfkkhckpaaGreatDoor
open Go Go.RowKit Am

theorem sinfo9 : (Tryz.prog.info? 9).map (fun i => (i.zero, i.size, i.bytes)) = some (some (.string ⟨#[]⟩), 1, 16) := by kernel_rfl
/-- Four strings in a row. -/
def crlfV : List Value := [.string ⟨#[13]⟩, .string ⟨#[124]⟩, .string ⟨#[10]⟩, .string ⟨#[124]⟩]
set_option maxRecDepth 100000 in
set_option maxHeartbeats 1600000 in
theorem newRep_ok (sb0 c0 : Nat) (w : World) (hsb : sb0 < w.heap.size) (hc : ∀ j v, crlfV[j]? = some v → w.cell? ⟨sb0, j, none⟩ = some v) :
    Calls Tryz.prog 11 #[.slice (some ⟨sb0, 0, none⟩) 4 c0] w fun e w' => ∃ b sb c, e = .returned (.pointer (some ⟨b, 0, none⟩)) ∧ Below w.heap.size w w' ∧ w.heap.size ≤ b ∧ sb < w'.heap.size ∧ sb ≠ b ∧ w'.heap[b]? = some (.cells (repA 0 0 .nilIface (.slice (some ⟨sb, 0, none⟩) 4 c)) 66 (0, 0)) ∧ ∀ j v, crlfV[j]? = some v → w'.cell? ⟨sb, j, none⟩ = some v := by
  have q0 := hc 0 _ rfl
  have q1 := hc 1 _ rfl
  have q2 := hc 2 _ rfl
  have q3 := hc 3 _ rfl
  clear hc
  go_enter Tryz.func11, Tryz.ntmps11
  go_wp2
  go_ret
  obtain ⟨cap, hcap⟩ : ∃ cap, (Question.appendCap 4 0 9).cut (w.tape w.drawn (Question.appendCap 4 0 9)) = cap := ⟨_, rfl⟩
  rw [hcap]
  obtain ⟨A, hA⟩ : ∃ A, (#[Value.string { data := #[13] }, Value.string { data := #[124] }, Value.string { data := #[10] }, Value.string { data := #[124] }] ++ Builtin.zeroCells #[Value.string { data := #[] }] (cap - 4)) = A := ⟨_, rfl⟩
  have hAj : ∀ j v, crlfV[j]? = some v → A[j]? = some v := fun j v hj => by
    have hj4 : j < 4 := (List.getElem?_eq_some_iff.1 hj).1
    rw [← hA, Array.getElem?_append_left (by simpa using hj4)]
    show (crlfV.toArray)[j]? = _
    rw [List.getElem?_toArray]
    exact hj
  rw [hA]
  refine ⟨w.heap.size + 1, w.heap.size, cap, rfl, (((Below.refl _ w).alloc (Nat.le_refl _) _).alloc (by simp) _).drew, by omega, by simp; omega, by omega, ?_, fun j v hj => ?_⟩
  · have h := heap_alloc_last (w.alloc (.cells A 9)) (.cells #[Value.int IntKind.u32 0, Value.int IntKind.i32 0, Value.int IntKind.u32 0, Value.nilIface, Value.slice (some ⟨w.heap.size, 0, none⟩) 4 cap] 66)
    rw [World.size_alloc] at h
    exact h
  · have h1 : (w.alloc (.cells A 9)).cell? ⟨w.heap.size, j, none⟩ = some v := cell_at (heap_alloc_last w _) j (hAj j v hj)
    rw [World.cell?_drew, World.cell?_alloc_past _ _ _ (by simp)]
    exact h1
end Go.Proofs.YthepmpfkkhckpaaGreatDoor
