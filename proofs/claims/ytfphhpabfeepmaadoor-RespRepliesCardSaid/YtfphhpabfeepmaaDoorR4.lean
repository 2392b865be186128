import Derived.Test.YtfphhpabfeepmaaDoorR3
set_option linter.unusedSimpArgs false
set_option linter.unusedVariables false
namespace Go.Proofs.YtfphhpabfeepmaaDoor
open Go Go.RowKit Am Go.ChangeShapes Go.WideShapes Go.ChangeAt

section
variable {H : Type} {enc : TypeId × Value → H} {w : World}
theorem fld {n t : Nat} {fs : Array Field} {cs : List Value} {x : DataW H × List MemPlace} (ht : Tryd.prog.underlying t = some (.struct fs)) (h : DataW.trod enc Tryd.prog w 0 (fun _ => true) true n t cs = some x) {i : Nat} {f : Field} (hf : fs[i]? = some f) :
    ∃ m y, DataW.trod enc Tryd.prog w 0 (fun _ => true) true m f.type ((cs.drop f.offset).take (Tryd.prog.cellsOf f.type)) = some y := by
  obtain ⟨xs, m, _, _, _, hxl, hg⟩ := DataW.trod_struct ht h
  have hi : i < xs.length := by rw [hxl]; exact (Array.getElem?_eq_some_iff.1 hf).1
  exact ⟨m, xs[i], by rw [hg i f hf]; exact List.getElem?_eq_getElem hi⟩
theorem cs_one {l : List Value} {i : Nat} {v : Value} (h : (l.drop i).take 1 = [v]) : l[i]? = some v := by
  have := congrArg (·[0]?) h
  simpa [List.getElem?_take] using this
set_option maxRecDepth 100000 in
theorem reply_of {v : Value} {d : DataW H} {ps : List MemPlace} {b0 : Nat} (hval : Value.okWide Tryd.prog w .any b0 24 v) (h : DataW.Trod enc Tryd.prog w 0 (fun _ => true) true 24 v d ps) : ∃ a : Int × ByteArray × Int × List (List UInt8), (-9223372036854775808 ≤ a.2.2.1 ∧ a.2.2.1 ≤ 9223372036854775807) ∧ Rep w (AllB w) (.agg [aI a.1, aS a.2.1, aI a.2.2.1, .sl (sR a.2.2.2)]) v := by
  obtain ⟨cs, rfl, hsz⟩ := okWide_struct Tryd.underlying24 hval
  obtain ⟨fuel, hf⟩ := h
  have hl : cs.toList.length = 4 := by rw [Array.length_toList]; exact hsz.trans (by kernel_rfl)
  have hf : DataW.trod enc Tryd.prog w 0 (fun _ => true) true fuel 24 cs.toList = some (d, ps) := hf
  obtain ⟨m0, y0, h0⟩ := fld (i := 0) Tryd.underlying24 hf rfl
  obtain ⟨m1, y1, h1⟩ := fld (i := 1) Tryd.underlying24 hf rfl
  obtain ⟨m2, y2, h2⟩ := fld (i := 2) Tryd.underlying24 hf rfl
  obtain ⟨m3, y3, h3⟩ := fld (i := 3) Tryd.underlying24 hf rfl
  obtain ⟨k, e0, _, _⟩ := DataW.trod_int (k := .i64) Tryd.underlying3 h0
  obtain ⟨s, e1, _, _⟩ := DataW.trod_string Tryd.underlying9 h1
  obtain ⟨n, e2, _, hn⟩ := DataW.trod_int (k := .i64) Tryd.underlying3 h2
  obtain ⟨l, z, e3, hz⟩ := st_trod h3
  have c3 : Tryd.prog.cellsOf 3 = 1 := by kernel_rfl
  have c9 : Tryd.prog.cellsOf 9 = 1 := by kernel_rfl
  have c22 : Tryd.prog.cellsOf 22 = 1 := by kernel_rfl
  have g0 : cs.toList[0]? = some (.int .i64 k) := cs_one (c3 ▸ e0)
  have g1 : cs.toList[1]? = some (.string s) := cs_one (c9 ▸ e1)
  have g2 : cs.toList[2]? = some (.int .i64 n) := cs_one (c3 ▸ e2)
  have g3 : cs.toList[3]? = some z := cs_one (c22 ▸ e3)
  have hcs : cs.toList = [.int .i64 k, .string s, .int .i64 n, z] := by
    refine List.ext_getElem? fun i => ?_
    match i with
    | 0 => exact g0
    | 1 => exact g1
    | 2 => exact g2
    | 3 => exact g3
    | i + 4 => rw [List.getElem?_eq_none (by omega), List.getElem?_eq_none (by simp)]
  have hcs2 : cs = [Value.int .i64 k, .string s, .int .i64 n, z].toArray := by rw [← hcs]
  refine ⟨(k, s, n, l), i64_of hn, ?_⟩
  rw [hcs2]
  exact .agg (RepL.cons (.v _ rfl) (RepL.cons (.v _ rfl) (RepL.cons (.v _ rfl) (RepL.cons hz (RepL.nil _ _)))))
end
end Go.Proofs.YtfphhpabfeepmaaDoor
