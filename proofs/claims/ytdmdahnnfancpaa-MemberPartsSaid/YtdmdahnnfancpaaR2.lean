import Derived.Test.YtdmdahnnfancpaaR1
import Derived.Test.YtdmdahnnfancpaaL1
set_option linter.unusedSimpArgs false
set_option linter.unusedVariables false
namespace Go.Proofs.Ytdmdahnnfancpaa
open Go Go.RowKit Am Go.ChangeShapes Go.WideShapes Go.ChangeAt
open Go.ChangeMaps (open_string shut_string)
open Go.Deep (open_slice)

abbrev vI (n : Int) : Value := .int .i64 n
def Dt.vs (d : Dt) : Array Value := #[vI d.R, vI d.N]
def vvs (v : VV) : Array Value := #[vI (v 0), vI (v 1), vI (v 2), vI (v 3), vI (v 4), vI (v 5), vI (v 6), vI (v 7), vI (v 8), vI (v 9), vI (v 10), vI (v 11), vI (v 12), vI (v 13), vI (v 14), vI (v 15)]
def Opn.vs (o : Opn) : Array Value := #[vI o.kind, .string o.key, .string o.fld, .string o.val, vI o.num, vI o.ref.R, vI o.ref.N]
def Ev.vs (e : Ev) : Array Value := #[vI e.dot.R, vI e.dot.N, vI e.time, vI (e.deps 0), vI (e.deps 1), vI (e.deps 2), vI (e.deps 3), vI (e.deps 4), vI (e.deps 5), vI (e.deps 6), vI (e.deps 7), vI (e.deps 8), vI (e.deps 9), vI (e.deps 10), vI (e.deps 11), vI (e.deps 12), vI (e.deps 13), vI (e.deps 14), vI (e.deps 15),
  vI e.op.kind, .string e.op.key, .string e.op.fld, .string e.op.val, vI e.op.num, vI e.op.ref.R, vI e.op.ref.N]
theorem vvs_get (v : VV) (i : Nat) (h : i < 16) : (vvs v)[i * 1]? = some (vI (v ⟨i, h⟩)) := by
  match i, h with
  | 0, _ => rfl | 1, _ => rfl | 2, _ => rfl | 3, _ => rfl | 4, _ => rfl | 5, _ => rfl | 6, _ => rfl | 7, _ => rfl
  | 8, _ => rfl | 9, _ => rfl | 10, _ => rfl | 11, _ => rfl | 12, _ => rfl | 13, _ => rfl | 14, _ => rfl | 15, _ => rfl
  | n+16, h => exact absurd h (by omega)
def evR' (l : List Ev) : List (List AV) := l.map fun e => e.vs.toList.map AV.v
section
variable {H : Type} {enc : TypeId × Value → H} {w : World} {base : Nat} {spare : Nat → Bool} {held : Bool}
theorem cs_one {l : List Value} {i : Nat} {v : Value} (h : (l.drop i).take 1 = [v]) : l[i]? = some v := by
  have := congrArg (·[0]?) h
  simpa [List.getElem?_take] using this
theorem fld {n t : Nat} {fs : Array Field} {cs : List Value} {x : DataW H × List MemPlace} (ht : Try.prog.underlying t = some (.struct fs)) (h : DataW.trod enc Try.prog w base spare held n t cs = some x) {i : Nat} {f : Field} (hf : fs[i]? = some f) :
    ∃ m y, DataW.trod enc Try.prog w base spare held m f.type ((cs.drop f.offset).take (Try.prog.cellsOf f.type)) = some y := by
  obtain ⟨xs, m, _, _, _, hxl, hg⟩ := DataW.trod_struct ht h
  have hi : i < xs.length := by rw [hxl]; exact (Array.getElem?_eq_some_iff.1 hf).1
  exact ⟨m, xs[i], by rw [hg i f hf]; exact List.getElem?_eq_getElem hi⟩
theorem fI {n t : Nat} {fs : Array Field} {cs : List Value} {x : DataW H × List MemPlace} (ht : Try.prog.underlying t = some (.struct fs)) (h : DataW.trod enc Try.prog w base spare held n t cs = some x) (i off : Nat) {f : Field} (hf : fs[i]? = some f) (h3 : f.type = 3) (ho : f.offset = off) :
    ∃ a : Int, cs[off]? = some (vI a) := by
  obtain ⟨m, y, hy⟩ := fld ht h hf
  rw [h3, ho] at hy
  obtain ⟨a, ha, _⟩ := DataW.trod_int Try.underlying3 hy
  rw [show Try.prog.cellsOf 3 = 1 by kernel_rfl] at ha
  exact ⟨a, cs_one ha⟩
theorem fS {n t : Nat} {fs : Array Field} {cs : List Value} {x : DataW H × List MemPlace} (ht : Try.prog.underlying t = some (.struct fs)) (h : DataW.trod enc Try.prog w base spare held n t cs = some x) (i off : Nat) {f : Field} (hf : fs[i]? = some f) (h3 : f.type = 9) (ho : f.offset = off) :
    ∃ a : ByteArray, cs[off]? = some (.string a) := by
  obtain ⟨m, y, hy⟩ := fld ht h hf
  rw [h3, ho] at hy
  obtain ⟨a, ha, _⟩ := DataW.trod_string Try.underlying9 hy
  rw [show Try.prog.cellsOf 9 = 1 by kernel_rfl] at ha
  exact ⟨a, cs_one ha⟩
theorem dt_of {n : Nat} {cs : List Value} {x : DataW H × List MemPlace} (h : DataW.trod enc Try.prog w base spare held n 29 cs = some x) : ∃ d : Dt, cs = d.vs.toList := by
  have hl : cs.length = 2 := (DataW.trod_struct Try.underlying29 h).choose_spec.choose_spec.2.2.1.trans (by kernel_rfl)
  obtain ⟨a, ha⟩ := fI Try.underlying29 h 0 0 rfl rfl rfl
  obtain ⟨b, hb⟩ := fI Try.underlying29 h 1 1 rfl rfl rfl
  refine ⟨⟨a, b⟩, List.ext_getElem? fun i => ?_⟩
  match i with
  | 0 => exact ha
  | 1 => exact hb
  | n + 2 => rw [List.getElem?_eq_none (by omega), List.getElem?_eq_none (by simp [Dt.vs])]
theorem vv_of {n : Nat} {cs : List Value} {x : DataW H × List MemPlace} (h : DataW.trod enc Try.prog w base spare held n 33 cs = some x) : ∃ v : VV, cs = (vvs v).toList := by
  obtain ⟨xs, m, _, _, hl, hxl, hg⟩ := DataW.trod_array Try.underlying33 h
  have hl : cs.length = 16 := hl.trans (by kernel_rfl)
  have c3 : Try.prog.cellsOf 3 = 1 := by kernel_rfl
  have hi : ∀ i : Fin 16, ∃ a : Int, cs[i.1]? = some (vI a) := fun i => by
    have h1 := hg i.1 i.2
    rw [List.getElem?_eq_getElem (by rw [hxl]; exact i.2)] at h1
    obtain ⟨a, ha, _⟩ := DataW.trod_int Try.underlying3 h1
    rw [c3, Nat.mul_one] at ha
    exact ⟨a, cs_one ha⟩
  obtain ⟨v, hv⟩ : ∃ v : VV, ∀ i : Fin 16, cs[i.1]? = some (vI (v i)) := ⟨fun i => (hi i).choose, fun i => (hi i).choose_spec⟩
  refine ⟨v, List.ext_getElem? fun i => ?_⟩
  by_cases e : i < 16
  · rw [hv ⟨i, e⟩]
    have := vvs_get v i e
    rw [Nat.mul_one] at this
    rw [Array.getElem?_toList]
    exact this.symm
  · rw [List.getElem?_eq_none (by omega), List.getElem?_eq_none (by simp [vvs]; omega)]
theorem sub_get {cs ds : List Value} {off n : Nat} (h : (cs.drop off).take n = ds) (i : Nat) (hi : i < n) : cs[off + i]? = ds[i]? := by
  rw [← h, List.getElem?_take, if_pos hi, List.getElem?_drop]
theorem op_of {n : Nat} {cs : List Value} {x : DataW H × List MemPlace} (h : DataW.trod enc Try.prog w base spare held n 31 cs = some x) : ∃ o : Opn, cs = o.vs.toList := by
  have hl : cs.length = 7 := (DataW.trod_struct Try.underlying31 h).choose_spec.choose_spec.2.2.1.trans (by kernel_rfl)
  obtain ⟨a0, h0⟩ := fI Try.underlying31 h 0 0 rfl rfl rfl
  obtain ⟨a1, h1⟩ := fS Try.underlying31 h 1 1 rfl rfl rfl
  obtain ⟨a2, h2⟩ := fS Try.underlying31 h 2 2 rfl rfl rfl
  obtain ⟨a3, h3⟩ := fS Try.underlying31 h 3 3 rfl rfl rfl
  obtain ⟨a4, h4⟩ := fI Try.underlying31 h 4 4 rfl rfl rfl
  obtain ⟨m, y, hy⟩ := fld (i := 5) Try.underlying31 h rfl
  obtain ⟨d, hd⟩ := dt_of hy
  have c28 : Try.prog.cellsOf 29 = 2 := by kernel_rfl
  have g0 := sub_get (n := 2) (c28 ▸ hd) 0 (by omega)
  have g1 := sub_get (n := 2) (c28 ▸ hd) 1 (by omega)
  refine ⟨⟨a0, a1, a2, a3, a4, d⟩, List.ext_getElem? fun i => ?_⟩
  match i with
  | 0 => exact h0
  | 1 => exact h1
  | 2 => exact h2
  | 3 => exact h3
  | 4 => exact h4
  | 5 => exact g0
  | 6 => exact g1
  | n + 7 => rw [List.getElem?_eq_none (by omega), List.getElem?_eq_none (by simp [Opn.vs])]
theorem ev_of {n : Nat} {cs : List Value} {x : DataW H × List MemPlace} (h : DataW.trod enc Try.prog w base spare held n 35 cs = some x) : ∃ e : Ev, cs = e.vs.toList := by
  have hl : cs.length = 26 := (DataW.trod_struct Try.underlying35 h).choose_spec.choose_spec.2.2.1.trans (by kernel_rfl)
  obtain ⟨m0, y0, hy0⟩ := fld (i := 0) Try.underlying35 h rfl
  obtain ⟨d, hd⟩ := dt_of hy0
  obtain ⟨a1, h1⟩ := fI Try.underlying35 h 1 2 rfl rfl rfl
  obtain ⟨m2, y2, hy2⟩ := fld (i := 2) Try.underlying35 h rfl
  obtain ⟨v, hv⟩ := vv_of hy2
  obtain ⟨m3, y3, hy3⟩ := fld (i := 3) Try.underlying35 h rfl
  obtain ⟨o, ho⟩ := op_of hy3
  have c28 : Try.prog.cellsOf 29 = 2 := by kernel_rfl
  have c30 : Try.prog.cellsOf 33 = 16 := by kernel_rfl
  have c32 : Try.prog.cellsOf 31 = 7 := by kernel_rfl
  have gd := sub_get (n := 2) (c28 ▸ hd)
  have gv := sub_get (n := 16) (c30 ▸ hv)
  have go := sub_get (n := 7) (c32 ▸ ho)
  refine ⟨⟨d, a1, v, o⟩, List.ext_getElem? fun i => ?_⟩
  match i with
  | 0 => exact gd 0 (by omega)
  | 1 => exact gd 1 (by omega)
  | 2 => exact h1
  | 3 => exact gv 0 (by omega)
  | 4 => exact gv 1 (by omega)
  | 5 => exact gv 2 (by omega)
  | 6 => exact gv 3 (by omega)
  | 7 => exact gv 4 (by omega)
  | 8 => exact gv 5 (by omega)
  | 9 => exact gv 6 (by omega)
  | 10 => exact gv 7 (by omega)
  | 11 => exact gv 8 (by omega)
  | 12 => exact gv 9 (by omega)
  | 13 => exact gv 10 (by omega)
  | 14 => exact gv 11 (by omega)
  | 15 => exact gv 12 (by omega)
  | 16 => exact gv 13 (by omega)
  | 17 => exact gv 14 (by omega)
  | 18 => exact gv 15 (by omega)
  | 19 => exact go 0 (by omega)
  | 20 => exact go 1 (by omega)
  | 21 => exact go 2 (by omega)
  | 22 => exact go 3 (by omega)
  | 23 => exact go 4 (by omega)
  | 24 => exact go 5 (by omega)
  | 25 => exact go 6 (by omega)
  | n + 26 => rw [List.getElem?_eq_none (by omega), List.getElem?_eq_none (by simp [Ev.vs])]
theorem repl_map (S : Nat → Prop) (xs : List Value) (h : ∀ x ∈ xs, x.oneCell' = true) : RepL w S (xs.map AV.v) xs :=
  ⟨by simp, fun i u x hu hx => by
    simp only [List.getElem?_map, hx, Option.map_some] at hu
    injection hu with hu
    subst hu
    exact .v _ (h x (List.mem_of_getElem? hx))⟩
theorem ev_one (e : Ev) : ∀ x ∈ e.vs.toList, x.oneCell' = true := by
  intro x hx
  simp [Ev.vs] at hx
  rcases hx with h | h | h | h | h | h | h | h | h | h | h | h | h | h | h | h | h | h | h | h | h | h | h | h | h | h <;> (subst h; rfl)
set_option maxRecDepth 100000 in
/-- A list of events that came in. -/
theorem evs_of {v : Value} {d : DataW H} {ps : List MemPlace} {b0 : Nat} (hval : Value.okWide Try.prog w .any b0 26 v) (h : DataW.Trod enc Try.prog w 0 (fun _ => true) true 26 v d ps) : ∃ l : List Ev, Rep w (AllB w) (.sl (evR' l)) v := by
  obtain ⟨a0, len0, cap0, rfl⟩ := okWide_slice Try.underlying26 hval
  have hlt : ∀ x ∈ ps, x.block < w.heap.size := by obtain ⟨m, hm⟩ := h; exact DataW.trod_lt m _ _ _ hm
  obtain ⟨fuel, hf⟩ := h
  rcases open_slice Try.underlying26 hf with ⟨hcs, _⟩ | ⟨a, len, cap, m, k, D, Pl, hcs, hb, hlc, hcm, hm, hx, hel⟩
  · simp [Value.cells] at hcs
    obtain ⟨rfl, rfl, rfl⟩ := hcs
    exact ⟨[], .c (.nil _ _ (fun _ => rfl))⟩
  · simp [Value.cells] at hcs
    obtain ⟨rfl, rfl, rfl⟩ := hcs
    have hm : m = cap0 := by simpa using hm
    have c34 : Try.prog.cellsOf 35 = 26 := by kernel_rfl
    rw [c34] at hx hel
    have he : ∀ i : Fin len0, ∃ e : Ev, ∀ j u, e.vs.toList[j]? = some u → w.cell? (a.add (i.1 * 26 + j)) = some u := fun i => by
      obtain ⟨cs, hc, ht⟩ := hel i.1 (by have := i.2; omega)
      obtain ⟨e, rfl⟩ := ev_of ht
      refine ⟨e, fun j u hu => ?_⟩
      obtain ⟨_, _, hat⟩ := World.cells?_some hc
      have hj : j < 26 := by have := (List.getElem?_eq_some_iff.1 hu).1; simpa [Ev.vs] using this
      rw [← Am.add_add, hat j hj]; exact hu
    obtain ⟨f, hf⟩ : ∃ f : Fin len0 → Ev, ∀ i j u, (f i).vs.toList[j]? = some u → w.cell? (a.add (i.1 * 26 + j)) = some u := ⟨fun i => (he i).choose, fun i => (he i).choose_spec⟩
    by_cases h0 : len0 = 0
    · subst h0
      exact ⟨[], .c (.nil _ _ (fun h => by cases h))⟩
    have hblk : a.block < w.heap.size := by
      have h1 := hf ⟨0, by omega⟩ 0 _ (show _ = some (vI _) from rfl)
      by_cases hlt : a.block < w.heap.size
      · exact hlt
      · have h2 : (a.add ((⟨0, by omega⟩ : Fin len0).1 * 26 + 0)).block = a.block := Am.add_block _ _
        have h3 : w.heap[a.block]? = none := Array.getElem?_eq_none (by omega)
        unfold World.cell? at h1
        rw [h2, h3] at h1
        cases h1
    have hget : ∀ i r, (evR' (List.ofFn f))[i]? = some r → ∃ h : i < len0, r = (f ⟨i, h⟩).vs.toList.map AV.v := fun i r hr => by
      simp only [evR', List.getElem?_map] at hr
      by_cases hi : i < len0
      · refine ⟨hi, ?_⟩
        rw [List.getElem?_ofFn, dif_pos hi] at hr
        simpa using hr.symm
      · rw [List.getElem?_ofFn, dif_neg hi] at hr
        simp at hr
    have hl : (evR' (List.ofFn f)).length = len0 := by simp [evR']
    refine ⟨List.ofFn f, .c ?_⟩
    have := RepC.sl (w := w) (S := AllB w) (evR' (List.ofFn f)) a cap0 26 (fun i j => if h : i < len0 then (f ⟨i, h⟩).vs.toList.getD j undef else undef) hblk (fun r hr => by
      obtain ⟨i, hi, rfl⟩ := List.getElem_of_mem hr
      obtain ⟨_, h2⟩ := hget i _ (List.getElem?_eq_getElem hi)
      rw [h2]; simp [Ev.vs]) (by rw [hl]; exact hlc) (by rw [hl]; exact Nat.le_trans hlc hcm) (fun i r hr j u hu => ?_) (fun i r hr j u hu => ?_)
    · rw [hl] at this; exact this
    · obtain ⟨hi, rfl⟩ := hget i r hr
      simp only [List.getElem?_map, Option.map_eq_some_iff] at hu
      obtain ⟨x, hx1, rfl⟩ := hu
      simp only [hi, dif_pos]
      rw [List.getD_eq_getElem?_getD, hx1]
      exact hf ⟨i, hi⟩ j x hx1
    · obtain ⟨hi, rfl⟩ := hget i r hr
      simp only [List.getElem?_map, Option.map_eq_some_iff] at hu
      obtain ⟨x, hx1, rfl⟩ := hu
      simp only [hi, dif_pos]
      rw [List.getD_eq_getElem?_getD, hx1]
      exact .v _ (ev_one _ x (List.mem_of_getElem? hx1))
end
theorem evR_eq (l : List Ev) : evR' l = evR l := rfl
end Go.Proofs.Ytdmdahnnfancpaa
