import Derived.Test.YthepmpfkkhckpaaGreatDoorK4
set_option linter.unusedSimpArgs false
set_option linter.unusedVariables false
namespace Go.Proofs.YthepmpfkkhckpaaGreatDoor
open Go Go.RowKit Am

theorem cell_at {w : World} {g : Nat} {A : Array Value} {t : TypeId} {fz : Nat × Nat} (h : w.heap[g]? = some (.cells A t fz)) (k : Nat) {v : Value} (hv : A[k]? = some v) : w.cell? ⟨g, k, none⟩ = some v := by
  rw [cell_of_row _ _ k A t fz h]; exact hv
theorem frz_at {w : World} {g : Nat} {A : Array Value} {t : TypeId} (h : w.heap[g]? = some (.cells A t (0, 0))) (k : Nat) : w.frozen? ⟨g, k, none⟩ = false := by
  unfold World.frozen?
  simp only [h]
  simp
/-- The Replacer's variable. -/
def repA (d st : Int) (r o : Value) : Array Value := #[.int .u32 d, .int .i32 st, .int .u32 0, r, o]
def Built (b : Nat) (w w' : World) : Prop := ∃ g, w.heap.size ≤ g ∧ ∃ w1, Below w.heap.size w w1 ∧ w1.heap[g]? = some (.cells tabA 89 (0, 0)) ∧ w' = (w1.setCell ⟨b, 3, none⟩ (.iface 90 (.pointer (some ⟨g, 0, none⟩)))).setCell ⟨b, 4, none⟩ (.slice none 0 0)
set_option maxRecDepth 100000 in
set_option maxHeartbeats 1600000 in
theorem once_ok (b sb c : Nat) (w : World) (hsb : sb < w.heap.size) (hat : w.heap[b]? = some (.cells (repA 0 1 .nilIface (.slice (some ⟨sb, 0, none⟩) 4 c)) 66 (0, 0)))
    (hs0 : w.cell? ⟨sb, 0, none⟩ = some (.string ⟨#[13]⟩)) (hs1 : w.cell? ⟨sb, 1, none⟩ = some (.string ⟨#[124]⟩)) (hs2 : w.cell? ⟨sb, 2, none⟩ = some (.string ⟨#[10]⟩)) (hs3 : w.cell? ⟨sb, 3, none⟩ = some (.string ⟨#[124]⟩)) :
    Calls Tryz.prog 19 #[.pointer (some ⟨b, 0, none⟩)] w fun e w' => e = .returned (.tuple #[]) ∧ Built b w w' := by
  have hb : b < w.heap.size := (Array.getElem?_eq_some_iff.1 hat).1
  have h4 := cell_at hat 4 rfl
  have HA : Hid (w.heap[b]? = some (.cells (repA 0 1 .nilIface (.slice (some ⟨sb, 0, none⟩) 4 c)) 66 (0, 0))) := hat
  clear hat
  go_enter Tryz.func19, Tryz.ntmps19
  go_wp2_with (go_at_call 26; refine (build_ok b sb c w hsb h4 hs0 hs1 hs2 hs3).mono ?_; rintro e w1 ⟨g, rfl, hg, hbl, hat⟩; have hA1 := (hbl.block b hb).trans HA; have h3 := cell_at hA1 3 rfl; have z3 := frz_at hA1 3; have hA2 := setC_heap hA1 3 (.iface 90 (.pointer (some ⟨g, 0, none⟩))); have h5 := cell_at hA2 4 rfl; have z5 := frz_at hA2 4; have HB : Hid (Below w.heap.size w w1) := hbl; have HT : Hid (w1.heap[g]? = some (.cells tabA 89 (0, 0))) := hat; clear hbl hat hA1 hA2)
  go_end0
  exact ⟨rfl, g, hg, w1, HB, HT, rfl⟩
theorem tab_cell {w : World} {g : Nat} (h : w.heap[g]? = some (.cells tabA 89 (0, 0))) (c : UInt8) : w.cell? ⟨g, c.toNat, none⟩ = some (.int .u8 ((swapB c).toNat : Int)) := by
  have hc : c.toNat < 256 := c.toNat_lt
  refine cell_at h c.toNat ?_
  unfold tabA
  rw [Array.getElem?_setIfInBounds, Array.getElem?_setIfInBounds]
  simp only [Array.size_setIfInBounds, ark_size]
  by_cases h13 : c = 13
  · subst h13; rfl
  · by_cases h10 : c = 10
    · subst h10; rfl
    · have n13 : ¬ 13 = c.toNat := fun e => h13 (UInt8.toNat_inj.1 (by simpa using e.symm))
      have n10 : ¬ 10 = c.toNat := fun e => h10 (UInt8.toNat_inj.1 (by simpa using e.symm))
      rw [if_neg n13, if_neg n10]
      have hs : swapB c = c := by unfold swapB; rw [if_neg (by simp [h13, h10])]
      rw [hs]
      simp [ark, hc]
set_option maxRecDepth 100000 in
set_option maxHeartbeats 1600000 in
theorem replace_ok (b sb c : Nat) (s : ByteArray) (hs : s.size ≤ 100000) (w : World) (hsb : sb < w.heap.size) (hne : sb ≠ b) (hat : w.heap[b]? = some (.cells (repA 0 0 .nilIface (.slice (some ⟨sb, 0, none⟩) 4 c)) 66 (0, 0)))
    (hs0 : w.cell? ⟨sb, 0, none⟩ = some (.string ⟨#[13]⟩)) (hs1 : w.cell? ⟨sb, 1, none⟩ = some (.string ⟨#[124]⟩)) (hs2 : w.cell? ⟨sb, 2, none⟩ = some (.string ⟨#[10]⟩)) (hs3 : w.cell? ⟨sb, 3, none⟩ = some (.string ⟨#[124]⟩)) :
    Calls Tryz.prog 12 #[.pointer (some ⟨b, 0, none⟩), .string s] w fun e w' => e = .returned (.string (lineB s)) ∧ Hid (Below b w w') := by
  have hb : b < w.heap.size := (Array.getElem?_eq_some_iff.1 hat).1
  have h0 := cell_at hat 0 rfl
  have h1 := cell_at hat 1 rfl
  have z0 := frz_at hat 0
  have z1 := frz_at hat 1
  have hat1 := setC_heap hat 1 (.int .i32 1)
  have oth : ∀ i, (w.setCell ⟨b, 1, none⟩ (.int .i32 1)).cell? ⟨sb, i, none⟩ = w.cell? ⟨sb, i, none⟩ := fun i => World.cell?_setCell_other _ ⟨b, 1, none⟩ ⟨sb, i, none⟩ _ (fun h => hne (congrArg Addr.block h).symm)
  have hf := once_ok b sb c (w.setCell ⟨b, 1, none⟩ (.int .i32 1)) (by rw [World.size_setCell]; exact hsb) hat1 ((oth 0).trans hs0) ((oth 1).trans hs1) ((oth 2).trans hs2) ((oth 3).trans hs3)
  have hk : ∀ w', Built b (w.setCell ⟨b, 1, none⟩ (.int .i32 1)) w' → ∃ g, b < g ∧ w'.heap[b]? = some (.cells (repA 0 1 (.iface 90 (.pointer (some ⟨g, 0, none⟩))) (.slice none 0 0)) 66 (0, 0)) ∧ w'.heap[g]? = some (.cells tabA 89 (0, 0)) ∧ Below b w w' := by
    rintro w' ⟨g, hg, w1, hbl, ht, rfl⟩
    rw [World.size_setCell] at hg hbl
    have hA1 := (hbl.block b hb).trans hat1
    have hA2 := setC_heap (setC_heap hA1 3 (.iface 90 (.pointer (some ⟨g, 0, none⟩)))) 4 (.slice none 0 0)
    refine ⟨g, by omega, hA2, ?_, ?_⟩
    · rw [heap_setCell_other _ _ _ _ (by simp; omega), heap_setCell_other _ _ _ _ (by simp; omega)]; exact ht
    · exact ((((Below.refl b w).setCell (p := ⟨b, 1, none⟩) (Nat.le_refl _) _).trans (hbl.mono (by omega))).setCell (p := ⟨b, 3, none⟩) (Nat.le_refl _) _).setCell (p := ⟨b, 4, none⟩) (Nat.le_refl _) _
  have hdo := do_first b 0 ⟨b, 0, none⟩ w h0 h1 z0 z1 (Built b (w.setCell ⟨b, 1, none⟩ (.int .i32 1))) hf fun w' hB => by
    obtain ⟨g, _, hA, _, _⟩ := hk w' hB
    exact ⟨cell_at hA 0 rfl, cell_at hA 1 rfl, frz_at hA 0, frz_at hA 1⟩
  have hdo2 : Calls Tryz.prog 18 #[.pointer (some ⟨b, 0, none⟩), .func (.func 19) #[.pointer (some ⟨b, 0, none⟩)] #[]] w fun e w' => e = .returned (.tuple #[]) ∧ ∃ g, Hid (w'.heap[b]? = some (.cells (repA 1 0 (.iface 90 (.pointer (some ⟨g, 0, none⟩))) (.slice none 0 0)) 66 (0, 0))) ∧ Hid (w'.heap[g]? = some (.cells tabA 89 (0, 0))) ∧ Hid (Below b w w') ∧ Hid (b < g) := by
    refine hdo.mono ?_
    rintro e w' ⟨rfl, w1, hB, rfl⟩
    obtain ⟨g, hg, hA, ht, hbl⟩ := hk w1 hB
    have hA' : w1.drew.heap[b]? = some (.cells (repA 0 1 (.iface 90 (.pointer (some ⟨g, 0, none⟩))) (.slice none 0 0)) 66 (0, 0)) := hA
    refine ⟨rfl, g, setC_heap (setC_heap hA' 0 (.int .u32 1)) 1 (.int .i32 0), ?_, ?_, hg⟩
    · show (World.setCell _ _ _).heap[g]? = _
      rw [heap_setCell_other _ _ _ _ (by simp; omega), heap_setCell_other _ _ _ _ (by simp; omega)]; exact ht
    · exact ((hbl.drew).setCell (p := ⟨b, 0, none⟩) (Nat.le_refl _) _).setCell (p := ⟨b, 1, none⟩) (Nat.le_refl _) _
  clear hdo hk hf oth hat1 z0 z1 h0 h1 hs0 hs1 hs2 hs3
  have HA : Hid (w.heap[b]? = some (.cells (repA 0 0 .nilIface (.slice (some ⟨sb, 0, none⟩) 4 c)) 66 (0, 0))) := hat
  clear hat
  have hmf : ∀ (fn : Fn) (first cap : Array Value) (w : World), (Instr.makeFunc fn first cap).run Tryz.prog w = .ok (.func fn first cap) w := fun _ _ _ _ => rfl
  go_enter Tryz.func12, Tryz.ntmps12
  go_wp2_with (first | (go_at_call 18; refine hdo2.mono ?_; rintro e w1 ⟨rfl, g, hA, hT, hbl, hg⟩; have h3 : w1.cell? ⟨b, 3, none⟩ = some (.iface 90 (.pointer (some ⟨g, 0, none⟩))) := cell_at hA 3 rfl) | (go_at_call 98; refine (byteRepl_ok g s w1 hs (Array.getElem?_eq_some_iff.1 hT).1 (tab_cell hT)).mono ?_; rintro e w2 ⟨rfl, hb2⟩; have HB2 : Hid (Below b w w2) := Below.trans hbl (Below.mono hb2 (Nat.le_trans (Nat.le_of_lt hb) (show Below b w w1 from hbl).size)); clear hb2))
  go_ret
  exact ⟨rfl, HB2⟩
end Go.Proofs.YthepmpfkkhckpaaGreatDoor
