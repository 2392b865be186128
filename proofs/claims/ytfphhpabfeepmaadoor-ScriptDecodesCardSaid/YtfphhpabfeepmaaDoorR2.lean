import Derived.Test.YtfphhpabfeepmaaDoorR1
import Derived.Deep.Slices
import Derived.ChangeArms
import Derived.DataReads
set_option linter.unusedSimpArgs false
set_option linter.unusedVariables false
namespace Go.Proofs.YtfphhpabfeepmaaDoor
open Go Go.RowKit Am Go.ChangeShapes Go.WideShapes Go.ChangeAt
open Go.ChangeMaps (open_string shut_string)
open Go.Deep (open_slice)

/-! ### What the arguments are -/
section
variable {H : Type} {enc : TypeId × Value → H} {w : World}
theorem sl_rep {α : Type} {T E sz : Nat} (hT : Tryd.prog.underlying T = some (.slice E)) (hsz : Tryd.prog.cellsOf E = sz) (hpos : 0 < sz) (φ : α → List AV) (hφ : ∀ a, (φ a).length = sz)
    (hel : ∀ n cs x, DataW.trod enc Tryd.prog w 0 (fun _ => true) true n E cs = some x → ∃ a, RepL w (AllB w) (φ a) cs)
    {fuel : Nat} {cs : List Value} {x : DataW H × List MemPlace} (h : DataW.trod enc Tryd.prog w 0 (fun _ => true) true fuel T cs = some x) :
    ∃ (l : List α) (z : Value), cs = [z] ∧ RepC w (AllB w) (.sl (l.map φ)) z := by
  rcases open_slice hT h with ⟨hcs, _⟩ | ⟨a, len, cap, m, k, D, Pl, hcs, hb, hlc, hcm, hm, hx, hel2⟩
  · exact ⟨[], _, hcs, .nil _ _ (fun _ => rfl)⟩
  · have hm : m = cap := by simpa using hm
    rw [hsz] at hel2
    have he : ∀ i : Fin len, ∃ (y : α) (cs : List Value), RepL w (AllB w) (φ y) cs ∧ ∀ j u, cs[j]? = some u → w.cell? (a.add (i.1 * sz + j)) = some u := fun i => by
      obtain ⟨cs', hc, ht⟩ := hel2 i.1 (by have := i.2; omega)
      obtain ⟨y, hy⟩ := hel _ _ _ ht
      refine ⟨y, cs', hy, fun j u hu => ?_⟩
      obtain ⟨_, hl, hat⟩ := World.cells?_some hc
      have hj : j < sz := by have := (List.getElem?_eq_some_iff.1 hu).1; omega
      rw [← Am.add_add, hat j hj]; exact hu
    obtain ⟨f, hf⟩ : ∃ f : Fin len → α, ∀ i, ∃ cs : List Value, RepL w (AllB w) (φ (f i)) cs ∧ ∀ j u, cs[j]? = some u → w.cell? (a.add (i.1 * sz + j)) = some u := ⟨fun i => (he i).choose, fun i => (he i).choose_spec⟩
    obtain ⟨g, hg⟩ : ∃ g : Fin len → List Value, ∀ i, RepL w (AllB w) (φ (f i)) (g i) ∧ ∀ j u, (g i)[j]? = some u → w.cell? (a.add (i.1 * sz + j)) = some u := ⟨fun i => (hf i).choose, fun i => (hf i).choose_spec⟩
    by_cases h0 : len = 0
    · subst h0
      exact ⟨[], _, hcs, .nil _ _ (fun h => by cases h)⟩
    have hblk : a.block < w.heap.size := by
      obtain ⟨h1, h2⟩ := hg ⟨0, by omega⟩
      obtain ⟨u, hu⟩ : ∃ u, (g ⟨0, by omega⟩)[0]? = some u := ⟨_, List.getElem?_eq_getElem (by rw [← h1.1, hφ]; exact hpos)⟩
      have h1 := h2 0 u hu
      by_cases hlt : a.block < w.heap.size
      · exact hlt
      · have h2 : (a.add ((⟨0, by omega⟩ : Fin len).1 * sz + 0)).block = a.block := Am.add_block _ _
        have h3 : w.heap[a.block]? = none := Array.getElem?_eq_none (by omega)
        unfold World.cell? at h1
        rw [h2, h3] at h1
        cases h1
    have hget : ∀ i r, ((List.ofFn f).map φ)[i]? = some r → ∃ h : i < len, r = φ (f ⟨i, h⟩) := fun i r hr => by
      rw [List.getElem?_map] at hr
      by_cases hi : i < len
      · refine ⟨hi, ?_⟩
        rw [List.getElem?_ofFn, dif_pos hi] at hr
        simpa using hr.symm
      · rw [List.getElem?_ofFn, dif_neg hi] at hr
        simp at hr
    have hl : ((List.ofFn f).map φ).length = len := by simp
    refine ⟨List.ofFn f, _, hcs, ?_⟩
    have := RepC.sl (w := w) (S := AllB w) ((List.ofFn f).map φ) a cap sz (fun i j => if h : i < len then (g ⟨i, h⟩).getD j undef else undef) hblk (fun r hr => by
      obtain ⟨i, hi, rfl⟩ := List.getElem_of_mem hr
      obtain ⟨_, h2⟩ := hget i _ (List.getElem?_eq_getElem hi)
      rw [h2]; exact hφ _) (by rw [hl]; exact hlc) (by rw [hl]; exact Nat.le_trans hlc hcm) (fun i r hr j u hu => ?_) (fun i r hr j u hu => ?_)
    · rw [hl] at this; exact this
    · obtain ⟨hi, rfl⟩ := hget i r hr
      obtain ⟨h1, h2⟩ := hg ⟨i, hi⟩
      have hj : j < (g ⟨i, hi⟩).length := by rw [← h1.1]; exact (List.getElem?_eq_some_iff.1 hu).1
      simp only [hi, dif_pos]
      rw [List.getD_eq_getElem?_getD, List.getElem?_eq_getElem hj]
      exact h2 j _ (List.getElem?_eq_getElem hj)
    · obtain ⟨hi, rfl⟩ := hget i r hr
      obtain ⟨h1, h2⟩ := hg ⟨i, hi⟩
      have hj : j < (g ⟨i, hi⟩).length := by rw [← h1.1]; exact (List.getElem?_eq_some_iff.1 hu).1
      simp only [hi, dif_pos]
      rw [List.getD_eq_getElem?_getD, List.getElem?_eq_getElem hj]
      exact h1.2 j u _ hu (List.getElem?_eq_getElem hj)
theorem by_trod {fuel : Nat} {cs : List Value} {x : DataW H × List MemPlace} (h : DataW.trod enc Tryd.prog w 0 (fun _ => true) true fuel 27 cs = some x) : ∃ (l : List UInt8) (z : Value), cs = [z] ∧ RepC w (AllB w) (.sl (byR l)) z :=
  sl_rep (E := 5) (sz := 1) (by kernel_rfl) (by kernel_rfl) (by omega) (fun b : UInt8 => [aU b.toNat]) (fun _ => rfl) (fun n cs x hx => by
    obtain ⟨z, rfl, _, hw⟩ := DataW.trod_int (k := .u8) (by kernel_rfl) hx
    simp only [Lit.wf, Bool.and_eq_true, decide_eq_true_eq] at hw
    have h0 : (0 : Int) ≤ z := hw.1
    have h1 : z ≤ 255 := hw.2
    refine ⟨UInt8.ofNat z.toNat, RepL.cons ?_ (RepL.nil _ _)⟩
    have : ((UInt8.ofNat z.toNat).toNat : Int) = z := by
      have : (UInt8.ofNat z.toNat).toNat = z.toNat := by simp; omega
      omega
    rw [this]
    exact .v _ rfl) h
theorem st_trod {fuel : Nat} {cs : List Value} {x : DataW H × List MemPlace} (h : DataW.trod enc Tryd.prog w 0 (fun _ => true) true fuel 22 cs = some x) : ∃ (l : List (List UInt8)) (z : Value), cs = [z] ∧ RepC w (AllB w) (.sl (sR l)) z :=
  sl_rep (E := 9) (sz := 1) (by kernel_rfl) (by kernel_rfl) (by omega) (fun b : List UInt8 => [aS (BA b)]) (fun _ => rfl) (fun n cs x hx => by
    obtain ⟨s, rfl, _, hw⟩ := DataW.trod_string (by kernel_rfl) hx
    refine ⟨L s, RepL.cons ?_ (RepL.nil _ _)⟩
    rw [BA_L]
    exact .v _ rfl) h
theorem cs_trod {fuel : Nat} {cs : List Value} {x : DataW H × List MemPlace} (h : DataW.trod enc Tryd.prog w 0 (fun _ => true) true fuel 36 cs = some x) : ∃ (l : List (List (List UInt8))) (z : Value), cs = [z] ∧ RepC w (AllB w) (.sl (cR l)) z :=
  sl_rep (E := 22) (sz := 1) (by kernel_rfl) (by kernel_rfl) (by omega) (fun b : List (List UInt8) => [.sl (sR b)]) (fun _ => rfl) (fun n cs x hx => by
    obtain ⟨l, z, rfl, hw⟩ := st_trod hx
    exact ⟨l, RepL.cons hw (RepL.nil _ _)⟩) h
set_option maxRecDepth 100000 in
theorem bytes_of {v : Value} {d : DataW H} {ps : List MemPlace} {b0 : Nat} (hval : Value.okWide Tryd.prog w .any b0 27 v) (h : DataW.Trod enc Tryd.prog w 0 (fun _ => true) true 27 v d ps) : ∃ l : List UInt8, True ∧ Rep w (AllB w) (.sl (byR l)) v := by
  obtain ⟨a0, len0, cap0, rfl⟩ := okWide_slice Tryd.underlying27 hval
  obtain ⟨fuel, hf⟩ := h
  obtain ⟨l, z, hz, hr⟩ := by_trod hf
  simp [Value.cells] at hz
  subst hz
  exact ⟨l, trivial, .c hr⟩
set_option maxRecDepth 100000 in
theorem strs_of {v : Value} {d : DataW H} {ps : List MemPlace} {b0 : Nat} (hval : Value.okWide Tryd.prog w .any b0 22 v) (h : DataW.Trod enc Tryd.prog w 0 (fun _ => true) true 22 v d ps) : ∃ l : List (List UInt8), True ∧ Rep w (AllB w) (.sl (sR l)) v := by
  obtain ⟨a0, len0, cap0, rfl⟩ := okWide_slice Tryd.underlying22 hval
  obtain ⟨fuel, hf⟩ := h
  obtain ⟨l, z, hz, hr⟩ := st_trod hf
  simp [Value.cells] at hz
  subst hz
  exact ⟨l, trivial, .c hr⟩
set_option maxRecDepth 100000 in
theorem cmds_of {v : Value} {d : DataW H} {ps : List MemPlace} {b0 : Nat} (hval : Value.okWide Tryd.prog w .any b0 36 v) (h : DataW.Trod enc Tryd.prog w 0 (fun _ => true) true 36 v d ps) : ∃ l : List (List (List UInt8)), True ∧ Rep w (AllB w) (.sl (cR l)) v := by
  obtain ⟨a0, len0, cap0, rfl⟩ := okWide_slice Tryd.underlying36 hval
  obtain ⟨fuel, hf⟩ := h
  obtain ⟨l, z, hz, hr⟩ := cs_trod hf
  simp [Value.cells] at hz
  subst hz
  exact ⟨l, trivial, .c hr⟩
end
end Go.Proofs.YtfphhpabfeepmaaDoor
