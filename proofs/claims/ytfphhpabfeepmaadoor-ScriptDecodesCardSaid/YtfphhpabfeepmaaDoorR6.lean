import Derived.Test.YtfphhpabfeepmaaDoorR1
import Derived.Test.YtfphhpabfeepmaaDoorR2
set_option linter.unusedSimpArgs false
set_option linter.unusedVariables false
namespace Go.Proofs.YtfphhpabfeepmaaDoor
open Go Go.RowKit Am Go.ChangeShapes Go.WideShapes Go.ChangeAt
open Go.ChangeMaps (open_string shut_string)

/-- What the rows of the commands list. -/
abbrev lst3 : List (String × DataW Unit) := Rows.scriptDecodesRow.laid
theorem tab_of3 {W : World} (h : laidMet Tryd.prog lst3 W) : Lib.TabIs Tryd.prog W "internal/strconv.uint64pow10" .u64 Lib.pow10Tab := by
  have h1 := h.filter (fun x => x.1 == "internal/strconv.uint64pow10")
  have e : (lst3.filter fun x => x.1 == "internal/strconv.uint64pow10") = [("internal/strconv.uint64pow10", Lib.tabData .u64 Lib.pow10Tab)] := by kernel_rfl
  rw [e] at h1
  exact Lib.tabIs_of_head (t := 148) (e := 130) (n := 20) (g := 0) (by kernel_rfl) (by kernel_rfl) (by kernel_rfl) (by kernel_rfl) (by kernel_rfl) (by kernel_rfl) h1
theorem gd_of3 {W : World} (hL : laidMet Tryd.prog lst3 W) (hsh : W.ShapedOpen Tryd.prog) : gdOK W (AllB W) where
  cells := fun g cs hg => by
    have ht := tab_of3 hL
    unfold gndA at hg
    simp only [lk] at hg
    split at hg
    · rename_i e
      subst e
      injection hg with hg
      have hgn : Tryd.prog.globalNamed "internal/strconv.uint64pow10" = some 0 := by kernel_rfl
      unfold Lib.TabIs World.var? at ht
      rw [hgn] at ht
      simp only [Option.bind_some] at ht
      split at ht
      · rename_i xs t fr hx
        injection ht with ht
        refine ⟨(Array.getElem?_eq_some_iff.1 hx).1, xs, t, fr, hx, ?_⟩
        rw [ht]
        have e2 : cs = (Lib.pow10Tab.map fun z => AV.v (Value.int .u64 z)) := by rw [← hg]; kernel_rfl
        rw [e2]
        have key : ∀ l : List Int, RepL W (AllB W) (l.map fun z => AV.v (.int .u64 z)) (l.map fun z => Value.int .u64 z) := by
          intro l
          refine ⟨by simp, fun i u x hu hx => ?_⟩
          rw [List.getElem?_map] at hu hx
          cases hi : l[i]? with
          | none => rw [hi] at hu; simp at hu
          | some z =>
            rw [hi] at hu hx
            simp only [Option.map_some, Option.some.injEq] at hu hx
            subst hu hx
            exact .v _ rfl
        exact key _
      · cases ht
    · cases hg
  ints := fun g hg => by
    have e : g = 1 := by
      unfold gndI at hg
      simp only [memN] at hg
      split at hg
      · rename_i e; exact e.symm
      · cases hg
    subst e
    have hz : (((begin Tryd.prog (fun _ _ => 0) default).world.heap[1]?).bind Obj.row?) = some (#[.int .i64 0], 3) := by kernel_rfl
    obtain ⟨cs, hh, hs, hr⟩ := hsh.1 1 _ 3 (of_decide_eq_true (by kernel_rfl)) hz
    obtain ⟨m, hm⟩ := Go.Proofs.cell_of_shapedOpen_int (g := 1) (t := 3) (k := .i64) hsh (of_decide_eq_true (by kernel_rfl)) hz rfl (by kernel_rfl) (by kernel_rfl) (by kernel_rfl)
    refine ⟨(Array.getElem?_eq_some_iff.1 hh).1, m, 3, (0, 0), ?_⟩
    rw [hh]
    have hs1 : cs.size = 1 := hs
    simp only [World.cell?, hh] at hm
    have hm0 : cs[0]? = some (.int .i64 m) := hm
    have : cs = #[.int .i64 m] := by
      apply Array.ext
      · simp [hs1]
      · intro i h1 h2
        have h0 : i = 0 := by simp at h2; omega
        subst h0
        rw [Array.getElem?_eq_getElem h1] at hm0
        injection hm0 with hm0
    rw [this]
end Go.Proofs.YtfphhpabfeepmaaDoor
