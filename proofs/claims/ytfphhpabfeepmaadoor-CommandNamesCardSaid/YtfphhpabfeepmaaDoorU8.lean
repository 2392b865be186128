import Derived.Test.YtfphhpabfeepmaaDoorU5
set_option linter.unusedSimpArgs false
set_option linter.unusedVariables false
namespace Go.Proofs.YtfphhpabfeepmaaDoor
open Go Go.RowKit Am

theorem form_none {l : List UInt8} (h : ∀ x ∈ tab, x.1 ≠ l) : formR l = none := by
  refine find_no fun j y hj hy => ?_
  exact h y (List.mem_of_getElem? hy)
theorem nm_yes {F : Sy} (hF : F = sy) {s a : ByteArray} (h : F .scmp .eql s a = true) : L s = L a := by rw [of_decide_eq_true ((seqF hF _ _).symm.trans h)]
theorem nm_no {F : Sy} (hF : F = sy) {s a : ByteArray} (h : F .scmp .eql s a = false) {l : List UInt8} (hs : l = L s) : L a ≠ l := fun e => (of_decide_eq_false ((seqF hF _ _).symm.trans h)) (L_inj (by rw [← hs, e]))
set_option maxHeartbeats 8000000 in
theorem form_ok (s : ByteArray) (l : List UInt8) (hs : l = L s) (f : ByteArray) (k : Int) (ok : Bool) (h1 : ∀ x, formR l = some x → f = BA x.1 ∧ k = x.2 ∧ ok = true) (h2 : formR l = none → f = BA [] ∧ k = 0 ∧ ok = false) : CSem Tryd.prog (.fn 49) [aS s] (.pure [.agg [aS f, aI k], aB ok]) := by
  refine of_text gam_ok mixed { n := 67 } Tryd.func49 (by kernel_rfl) rfl rfl (by simp) (by decide) fun F C D hF hC hD => ?_
  cbv
  refine br (fun z0 => ?_) (fun z0 => ?_) <;> cbv
  · obtain ⟨g1, g2, g3⟩ := h1 ([107, 118], 1) (by rw [show l = [83, 69, 84] from hs.trans (nm_yes hF z0)]; rfl)
    subst g1 g2 g3
    simp [BA]
  refine br (fun z1 => ?_) (fun z1 => ?_) <;> cbv
  · obtain ⟨g1, g2, g3⟩ := h1 ([107], 1) (by rw [show l = [71, 69, 84] from hs.trans (nm_yes hF z1)]; rfl)
    subst g1 g2 g3
    simp [BA]
  refine br (fun z2 => ?_) (fun z2 => ?_) <;> cbv
  · obtain ⟨g1, g2, g3⟩ := h1 ([107, 110], 2) (by rw [show l = [73, 78, 67, 82, 66, 89] from hs.trans (nm_yes hF z2)]; rfl)
    subst g1 g2 g3
    simp [BA]
  refine br (fun z3 => ?_) (fun z3 => ?_) <;> cbv
  · obtain ⟨g1, g2, g3⟩ := h1 ([107], 2) (by rw [show l = [67, 79, 85, 78, 84] from hs.trans (nm_yes hF z3)]; rfl)
    subst g1 g2 g3
    simp [BA]
  refine br (fun z4 => ?_) (fun z4 => ?_) <;> cbv
  · obtain ⟨g1, g2, g3⟩ := h1 ([107, 102], 3) (by rw [show l = [83, 65, 68, 68] from hs.trans (nm_yes hF z4)]; rfl)
    subst g1 g2 g3
    simp [BA]
  refine br (fun z5 => ?_) (fun z5 => ?_) <;> cbv
  · obtain ⟨g1, g2, g3⟩ := h1 ([107, 102], 3) (by rw [show l = [83, 82, 69, 77] from hs.trans (nm_yes hF z5)]; rfl)
    subst g1 g2 g3
    simp [BA]
  refine br (fun z6 => ?_) (fun z6 => ?_) <;> cbv
  · obtain ⟨g1, g2, g3⟩ := h1 ([107, 102], 3) (by rw [show l = [83, 73, 83, 77, 69, 77, 66, 69, 82] from hs.trans (nm_yes hF z6)]; rfl)
    subst g1 g2 g3
    simp [BA]
  refine br (fun z7 => ?_) (fun z7 => ?_) <;> cbv
  · obtain ⟨g1, g2, g3⟩ := h1 ([107], 3) (by rw [show l = [83, 77, 69, 77, 66, 69, 82, 83] from hs.trans (nm_yes hF z7)]; rfl)
    subst g1 g2 g3
    simp [BA]
  refine br (fun z8 => ?_) (fun z8 => ?_) <;> cbv
  · obtain ⟨g1, g2, g3⟩ := h1 ([107, 102, 118], 4) (by rw [show l = [72, 83, 69, 84] from hs.trans (nm_yes hF z8)]; rfl)
    subst g1 g2 g3
    simp [BA]
  refine br (fun z9 => ?_) (fun z9 => ?_) <;> cbv
  · obtain ⟨g1, g2, g3⟩ := h1 ([107, 102], 4) (by rw [show l = [72, 68, 69, 76] from hs.trans (nm_yes hF z9)]; rfl)
    subst g1 g2 g3
    simp [BA]
  refine br (fun z10 => ?_) (fun z10 => ?_) <;> cbv
  · obtain ⟨g1, g2, g3⟩ := h1 ([107, 102], 4) (by rw [show l = [72, 71, 69, 84] from hs.trans (nm_yes hF z10)]; rfl)
    subst g1 g2 g3
    simp [BA]
  refine br (fun z11 => ?_) (fun z11 => ?_) <;> cbv
  · obtain ⟨g1, g2, g3⟩ := h1 ([107], 4) (by rw [show l = [72, 71, 69, 84, 65, 76, 76] from hs.trans (nm_yes hF z11)]; rfl)
    subst g1 g2 g3
    simp [BA]
  refine br (fun z12 => ?_) (fun z12 => ?_) <;> cbv
  · obtain ⟨g1, g2, g3⟩ := h1 ([107, 110, 102], 5) (by rw [show l = [90, 65, 68, 68] from hs.trans (nm_yes hF z12)]; rfl)
    subst g1 g2 g3
    simp [BA]
  refine br (fun z13 => ?_) (fun z13 => ?_) <;> cbv
  · obtain ⟨g1, g2, g3⟩ := h1 ([107, 102], 5) (by rw [show l = [90, 82, 69, 77] from hs.trans (nm_yes hF z13)]; rfl)
    subst g1 g2 g3
    simp [BA]
  refine br (fun z14 => ?_) (fun z14 => ?_) <;> cbv
  · obtain ⟨g1, g2, g3⟩ := h1 ([107, 102], 5) (by rw [show l = [90, 83, 67, 79, 82, 69] from hs.trans (nm_yes hF z14)]; rfl)
    subst g1 g2 g3
    simp [BA]
  refine br (fun z15 => ?_) (fun z15 => ?_) <;> cbv
  · obtain ⟨g1, g2, g3⟩ := h1 ([107, 102], 5) (by rw [show l = [90, 82, 65, 78, 75] from hs.trans (nm_yes hF z15)]; rfl)
    subst g1 g2 g3
    simp [BA]
  refine br (fun z16 => ?_) (fun z16 => ?_) <;> cbv
  · obtain ⟨g1, g2, g3⟩ := h1 ([107, 110, 109], 5) (by rw [show l = [90, 82, 65, 78, 71, 69] from hs.trans (nm_yes hF z16)]; rfl)
    subst g1 g2 g3
    simp [BA]
  refine br (fun z17 => ?_) (fun z17 => ?_) <;> cbv
  · obtain ⟨g1, g2, g3⟩ := h1 ([107, 118], 6) (by rw [show l = [76, 80, 85, 83, 72] from hs.trans (nm_yes hF z17)]; rfl)
    subst g1 g2 g3
    simp [BA]
  refine br (fun z18 => ?_) (fun z18 => ?_) <;> cbv
  · obtain ⟨g1, g2, g3⟩ := h1 ([107, 118], 6) (by rw [show l = [82, 80, 85, 83, 72] from hs.trans (nm_yes hF z18)]; rfl)
    subst g1 g2 g3
    simp [BA]
  refine br (fun z19 => ?_) (fun z19 => ?_) <;> cbv
  · obtain ⟨g1, g2, g3⟩ := h1 ([107, 110, 118], 6) (by rw [show l = [76, 73, 78, 83, 69, 82, 84] from hs.trans (nm_yes hF z19)]; rfl)
    subst g1 g2 g3
    simp [BA]
  refine br (fun z20 => ?_) (fun z20 => ?_) <;> cbv
  · obtain ⟨g1, g2, g3⟩ := h1 ([107, 110], 6) (by rw [show l = [76, 82, 69, 77] from hs.trans (nm_yes hF z20)]; rfl)
    subst g1 g2 g3
    simp [BA]
  refine br (fun z21 => ?_) (fun z21 => ?_) <;> cbv
  · obtain ⟨g1, g2, g3⟩ := h1 ([107, 110, 109], 6) (by rw [show l = [76, 82, 65, 78, 71, 69] from hs.trans (nm_yes hF z21)]; rfl)
    subst g1 g2 g3
    simp [BA]
  refine br (fun z22 => ?_) (fun z22 => ?_) <;> cbv
  · obtain ⟨g1, g2, g3⟩ := h1 ([107], -1) (by rw [show l = [68, 69, 76] from hs.trans (nm_yes hF z22)]; rfl)
    subst g1 g2 g3
    simp [BA]
  refine br (fun z23 => ?_) (fun z23 => ?_) <;> cbv
  · obtain ⟨g1, g2, g3⟩ := h1 ([107], -1) (by rw [show l = [84, 89, 80, 69] from hs.trans (nm_yes hF z23)]; rfl)
    subst g1 g2 g3
    simp [BA]
  refine br (fun z24 => ?_) (fun z24 => ?_) <;> cbv
  · obtain ⟨g1, g2, g3⟩ := h1 ([], -1) (by rw [show l = [75, 69, 89, 83] from hs.trans (nm_yes hF z24)]; rfl)
    subst g1 g2 g3
    simp [BA]
  obtain ⟨g1, g2, g3⟩ := h2 (form_none (List.forall_mem_cons.2 ⟨nm_no hF z0 hs, (List.forall_mem_cons.2 ⟨nm_no hF z1 hs, (List.forall_mem_cons.2 ⟨nm_no hF z2 hs, (List.forall_mem_cons.2 ⟨nm_no hF z3 hs, (List.forall_mem_cons.2 ⟨nm_no hF z4 hs, (List.forall_mem_cons.2 ⟨nm_no hF z5 hs, (List.forall_mem_cons.2 ⟨nm_no hF z6 hs, (List.forall_mem_cons.2 ⟨nm_no hF z7 hs, (List.forall_mem_cons.2 ⟨nm_no hF z8 hs, (List.forall_mem_cons.2 ⟨nm_no hF z9 hs, (List.forall_mem_cons.2 ⟨nm_no hF z10 hs, (List.forall_mem_cons.2 ⟨nm_no hF z11 hs, (List.forall_mem_cons.2 ⟨nm_no hF z12 hs, (List.forall_mem_cons.2 ⟨nm_no hF z13 hs, (List.forall_mem_cons.2 ⟨nm_no hF z14 hs, (List.forall_mem_cons.2 ⟨nm_no hF z15 hs, (List.forall_mem_cons.2 ⟨nm_no hF z16 hs, (List.forall_mem_cons.2 ⟨nm_no hF z17 hs, (List.forall_mem_cons.2 ⟨nm_no hF z18 hs, (List.forall_mem_cons.2 ⟨nm_no hF z19 hs, (List.forall_mem_cons.2 ⟨nm_no hF z20 hs, (List.forall_mem_cons.2 ⟨nm_no hF z21 hs, (List.forall_mem_cons.2 ⟨nm_no hF z22 hs, (List.forall_mem_cons.2 ⟨nm_no hF z23 hs, (List.forall_mem_cons.2 ⟨nm_no hF z24 hs, (fun _ h => by cases h)⟩)⟩)⟩)⟩)⟩)⟩)⟩)⟩)⟩)⟩)⟩)⟩)⟩)⟩)⟩)⟩)⟩)⟩)⟩)⟩)⟩)⟩)⟩)⟩)⟩))
  subst g1 g2 g3
  simp [BA]
end Go.Proofs.YtfphhpabfeepmaaDoor
