import Derived.Test.YtdmdahnnfancpaaR2
set_option linter.unusedSimpArgs false
set_option linter.unusedVariables false
namespace Go.Proofs.Ytdmdahnnfancpaa
open Go Go.RowKit Am Go.ChangeShapes Go.WideShapes Go.ChangeAt
open Go.ChangeMaps (open_string shut_string)
open Go.Deep (open_slice)

section
variable {H : Type} {enc : TypeId × Value → H} {w : World} {base : Nat} {spare : Nat → Bool} {held : Bool}
theorem fld_size {n : Nat} {cs : List Value} {x : DataW H × List MemPlace} (h : DataW.trod enc Try.prog w base spare held n 35 cs = some x) {s : ByteArray} (hs : cs[21]? = some (.string s)) : s.size ≤ maxLen := by
  obtain ⟨m3, y3, hy3⟩ := fld (i := 3) Try.underlying35 h rfl
  obtain ⟨m, y, hy⟩ := fld (i := 2) Try.underlying31 hy3 rfl
  obtain ⟨a, ha, _, hsz⟩ := DataW.trod_string Try.underlying9 hy
  have c9 : Try.prog.cellsOf 9 = 1 := by kernel_rfl
  have c31 : Try.prog.cellsOf 31 = 7 := by kernel_rfl
  have ha : ((((cs.drop 19).take (Try.prog.cellsOf 31)).drop 2).take (Try.prog.cellsOf 9)) = [.string a] := ha
  rw [c9, c31] at ha
  have h1 := cs_one ha
  rw [List.getElem?_take, List.getElem?_drop] at h1
  have h2 : cs[21]? = some (.string a) := h1
  rw [hs] at h2
  injection h2 with h2
  injection h2 with h2
  rw [h2]; exact hsz
set_option maxRecDepth 100000 in
/-- A list of events that came in; and how long their fields are. -/
theorem evs_of2 {v : Value} {d : DataW H} {ps : List MemPlace} {b0 : Nat} (hval : Value.okWide Try.prog w .any b0 26 v) (h : DataW.Trod enc Try.prog w 0 (fun _ => true) true 26 v d ps) : ∃ l : List Ev, Rep w (AllB w) (.sl (evR' l)) v ∧ ∀ e ∈ l, e.op.fld.size ≤ maxLen := by
  obtain ⟨l, hl⟩ := evs_of hval h
  refine ⟨l, hl, fun e he => ?_⟩
  obtain ⟨i, hi, rfl⟩ := List.getElem_of_mem he
  have hrow : (evR' l)[i]? = some (l[i].vs.toList.map AV.v) := by simp [evR', List.getElem?_eq_getElem hi]
  obtain ⟨a0, len0, cap0, rfl⟩ := okWide_slice Try.underlying26 hval
  obtain ⟨fuel, hf⟩ := h
  cases hl with
  | c hl =>
    obtain ⟨b, c, sz, hb, hcs, hca⟩ := sl_elem hl hrow
    have hsz : sz = 26 := by rw [← hcs]; simp [Ev.vs]
    subst hsz
    obtain ⟨y, hy1, hy2⟩ := hca.2 21 (.v (.string l[i].op.fld)) (by simp [Ev.vs])
    cases hy2
    injection hb with hb1 hb2 hb3
    rcases open_slice Try.underlying26 hf with ⟨hcs, _⟩ | ⟨a, len, cap, m, k, D, Pl, hcs2, hblk, hlc, hcm, hm, hx, hel⟩
    · simp [Value.cells] at hcs
      rw [hcs.1] at hb1; cases hb1
    · simp [Value.cells] at hcs2
      obtain ⟨r1, r2, r3⟩ := hcs2
      rw [hb1] at r1
      injection r1 with r1
      subst r1 r2 r3
      have hm : m = cap0 := by simpa using hm
      have c34 : Try.prog.cellsOf 35 = 26 := by kernel_rfl
      rw [c34] at hx hel
      obtain ⟨cs, hc, ht⟩ := hel i (by
        have : i < (evR' l).length := by simpa [evR'] using hi
        omega)
      refine fld_size ht ?_
      obtain ⟨_, hlen, hat⟩ := World.cells?_some hc
      have := hat 21 (by omega)
      rw [← this]; exact hy1
end
end Go.Proofs.Ytdmdahnnfancpaa
