import Derived.Test.YthepmpfkkhckpaaGreatDoorRows
import Derived.Test.YthepmpfkkhckpaaGreatDoorCards
import Derived.Test.YthepmpfkkhckpaaGreatDoorTie
import Derived.Test.YthepmpfkkhckpaaGreatDoorK11
import Derived.Deep.Slices
import Derived.ChangeArms
import Derived.DataReads
import Derived.ProofKit
import Derived.OpenShut
import Derived.ShutString
import Derived.LaidMore
import Derived.LaidSub
import Derived.Lay
import Derived.MakeChecks
import Derived.Lib.LaidTab
import Derived.Shelf.Vars
import Derived.SevenTiedAt
import Derived.Stop.Joined
import Derived.Below
set_option linter.unusedSimpArgs false
set_option linter.unusedVariables false
namespace Go.Proofs.YthepmpfkkhckpaaGreatDoor
open Go Go.RowKit Am Go.ChangeShapes Go.WideShapes Go.ChangeAt
open Go.ChangeMaps (open_string shut_string)

theorem own : ownKnob Tryz.prog.godebug = none := by kernel_rfl
theorem laidOut : laidOutB Tryz.prog = true := by kernel_rfl
/-- What the rows of this seat list. -/
abbrev lst : List (String × DataW Unit) := Rows.scriptLinesRow.laid
abbrev AllB (w : World) : Nat → Prop := fun g => g < w.heap.size
theorem tab_of {W : World} (h : laidMet Tryz.prog lst W) : Lib.TabIs Tryz.prog W "internal/strconv.uint64pow10" .u64 Lib.pow10Tab := by
  have h1 := h.filter (fun x => x.1 == "internal/strconv.uint64pow10")
  have e : (lst.filter fun x => x.1 == "internal/strconv.uint64pow10") = [("internal/strconv.uint64pow10", Lib.tabData .u64 Lib.pow10Tab)] := by kernel_rfl
  rw [e] at h1
  exact Lib.tabIs_of_head (t := 97) (e := 75) (n := 20) (g := 0) (by kernel_rfl) (by kernel_rfl) (by kernel_rfl) (by kernel_rfl) (by kernel_rfl) (by kernel_rfl) h1
theorem gd_of {W : World} (hL : laidMet Tryz.prog lst W) (hsh : W.ShapedOpen Tryz.prog) : gdOK W (AllB W) where
  cells := fun g cs hg => by
    have ht := tab_of hL
    unfold gndA at hg
    simp only [lk] at hg
    split at hg
    · rename_i e
      subst e
      injection hg with hg
      have hgn : Tryz.prog.globalNamed "internal/strconv.uint64pow10" = some 0 := by kernel_rfl
      unfold Lib.TabIs World.var? at ht
      rw [hgn] at ht
      simp only [Option.bind_some] at ht
      split at ht
      · rename_i xs t fr hx
        injection ht with ht
        refine ⟨(Array.getElem?_eq_some_iff.1 hx).1, xs, t, fr, hx, ?_⟩
        rw [ht]
        have e2 : cs = (Lib.pow10Tab.map fun z => AV.v (Value.int .u64 z)) := by rw [← hg]; kernel_rfl
        rw [e2]
        have key : ∀ l : List Int, RepL W (AllB W) (l.map fun z => AV.v (.int .u64 z)) (l.map fun z => Value.int .u64 z) := by
          intro l
          refine ⟨by simp, fun i u x hu hx => ?_⟩
          rw [List.getElem?_map] at hu hx
          cases hi : l[i]? with
          | none => rw [hi] at hu; simp at hu
          | some z =>
            rw [hi] at hu hx
            simp only [Option.map_some, Option.some.injEq] at hu hx
            subst hu hx
            exact .v _ rfl
        exact key _
      · cases ht
    · cases hg
  ints := fun g hg => by simp [gndI, memN] at hg
theorem law_calls {f : Nat} {args : List AV} (h : CSem Tryz.prog (.fn f) args (.pure [aB true])) (W : World) (hgd : gdOK W (AllB W)) (xs : List Value) (hr : Reps W (AllB W) args xs) :
    Calls Tryz.prog f xs.toArray W fun e W' => e = .returned (.bool true) ∧ Below W.heap.size W W' := by
  refine (h.2 W (AllB W) xs (fun _ h => h) hgd hr).mono fun e W' hh => ?_
  obtain ⟨y, S', rfl, hg, ys, rfl, hys⟩ := hh
  obtain ⟨z, zs, rfl, h1, h2⟩ := hys.uncons
  have := h2.unnil
  subst this
  cases h1 with
  | c h => cases h; exact ⟨rfl, hg.below⟩
section
variable {H : Type} {enc : TypeId × Value → H}
theorem handed_laid {a : Assume} {C : Checked} {os : Os} {f : FuncId} {fn : Func} {s : ChangeSpec} {conds : List PathCond} {apart fresh handsOn again : Bool} {X : World → Array Value → Prop}
    (hX : ∀ (w w' : World) (args : Array Value), w.heap = w'.heap → X w args → X w' args)
    (own : ownKnob C.prog.godebug = none) (started : os.Started) (noInit : C.prog.inits.idxOf? f = none) (hfn : C.prog.funcs[f]? = some fn)
    (witness : ∃ (w : World) (tape : Tape) (i : Input), w.os = os ∧ (w.forCall tape i).Shaped C.prog ∧ i.vars = [] ∧ Input.okWide C.prog (w.forCall tape i) .any w.heap.size f i ∧
      ((s.pre enc C.prog fn conds apart (w.forCall tape i).memory i.args ∧ X (w.forCall tape i).memory i.args) ∧ sizedMet enc C.prog fn (OpenSpec.ofChange s) apart (w.forCall tape i).memory i.args) ∧ a.holds C.prog (lone (Frame.enter C.prog f i.args .normal) [] (w.forCall tape i)))
    (contract : ∀ (W : World) (base : Nat) (args : Array Value) (ds gs : List (DataW H)) (before : List MemPlace),
      (∀ (j : Nat) t v, fn.params[j]? = some t → args[j]? = some v → Value.okWide C.prog W .any base t v) →
      DataW.Whole enc C.prog fn.params.toList s.vars apart W args.toList ds gs before →
      conds.all (PathCond.test C.prog ⟨fn.params.toList, ds, s.plain.varTypes C.prog, gs⟩) = true →
      (DataW.weightsEach C.prog (fn.params.toList ++ s.plain.varTypes C.prog) (ds ++ gs)).all (· ≤ reachBytes) = true → X W args →
      W.ShapedOpen C.prog →
      a.holds C.prog (lone (Frame.enter C.prog f args .normal) [] W) →
      Calls C.prog f args W fun e W' => ∃ v, e = .returned v ∧ s.post enc C.prog fn apart fresh handsOn again W args v W') :
    ReturnsInHanded a C os f .any (fun w args => (s.pre enc C.prog fn conds apart w args ∧ X w args) ∧ sizedMet enc C.prog fn (OpenSpec.ofChange s) apart w args) (s.post enc C.prog fn apart fresh handsOn again) := by
  refine returnsInHanded_of_calls own started noInit witness ?_
  intro w tape i _ hsh _ hok hpre hholds
  obtain ⟨_, _, _, fn', hfn', _, _, _, _, hval⟩ := hok
  have e : fn' = fn := Option.some.inj (hfn'.symm.trans hfn)
  subst e
  obtain ⟨⟨⟨ds, gs, before, hw, hc⟩, hx⟩, hz⟩ := hpre
  have hw' := DataW.Whole.of_heap (w' := w.forCall tape i) (by rfl) hw
  refine (contract (w.forCall tape i) w.heap.size i.args ds gs before hval hw' hc (hz.weights hw) (hX _ _ _ (by rfl) hx) hsh hholds).mono fun e W' ⟨v, he, hp⟩ => ?_
  subst he
  exact ChangeSpec.post_blind hp
end
theorem i64_of {n : Int} (h : (Lit.int .i64 n).wf = true) : -9223372036854775808 ≤ n ∧ n ≤ 9223372036854775807 := by
  simp only [Lit.wf, Bool.and_eq_true, decide_eq_true_eq] at h
  exact h
section
variable {H : Type} {enc : TypeId × Value → H} {w : World}
theorem fld {n t : Nat} {fs : Array Field} {cs : List Value} {x : DataW H × List MemPlace} (ht : Tryz.prog.underlying t = some (.struct fs)) (h : DataW.trod enc Tryz.prog w 0 (fun _ => true) true n t cs = some x) {i : Nat} {f : Field} (hf : fs[i]? = some f) :
    ∃ m y, DataW.trod enc Tryz.prog w 0 (fun _ => true) true m f.type ((cs.drop f.offset).take (Tryz.prog.cellsOf f.type)) = some y := by
  obtain ⟨xs, m, _, _, _, hxl, hg⟩ := DataW.trod_struct ht h
  have hi : i < xs.length := by rw [hxl]; exact (Array.getElem?_eq_some_iff.1 hf).1
  exact ⟨m, xs[i], by rw [hg i f hf]; exact List.getElem?_eq_getElem hi⟩
theorem cs_one {l : List Value} {i : Nat} {v : Value} (h : (l.drop i).take 1 = [v]) : l[i]? = some v := by
  have := congrArg (·[0]?) h
  simpa [List.getElem?_take] using this
set_option maxRecDepth 100000 in
theorem step_of {v : Value} {d : DataW H} {ps : List MemPlace} {b0 : Nat} (hval : Value.okWide Tryz.prog w .any b0 23 v) (h : DataW.Trod enc Tryz.prog w 0 (fun _ => true) true 23 v d ps) : ∃ a : Int × Int × Int × Int × Int × ByteArray, (-9223372036854775808 ≤ a.2.1 ∧ a.2.1 ≤ 9223372036854775807) ∧ Rep w (AllB w) (.agg (stepC a.1 a.2.1 a.2.2.1 a.2.2.2.1 a.2.2.2.2.1 a.2.2.2.2.2)) v := by
  obtain ⟨cs, rfl, hsz⟩ := okWide_struct Tryz.underlying23 hval
  obtain ⟨fuel, hf⟩ := h
  have hl : cs.toList.length = 6 := by rw [Array.length_toList]; exact hsz.trans (by kernel_rfl)
  have hf : DataW.trod enc Tryz.prog w 0 (fun _ => true) true fuel 23 cs.toList = some (d, ps) := hf
  obtain ⟨m0, y0, h0⟩ := fld (i := 0) Tryz.underlying23 hf rfl
  obtain ⟨m1, y1, h1⟩ := fld (i := 1) Tryz.underlying23 hf rfl
  obtain ⟨m2, y2, h2⟩ := fld (i := 2) Tryz.underlying23 hf rfl
  obtain ⟨m3, y3, h3⟩ := fld (i := 3) Tryz.underlying23 hf rfl
  obtain ⟨m4, y4, h4⟩ := fld (i := 4) Tryz.underlying23 hf rfl
  obtain ⟨m5, y5, h5⟩ := fld (i := 5) Tryz.underlying23 hf rfl
  obtain ⟨x0, e0, _, n0⟩ := DataW.trod_int (k := .i64) Tryz.underlying3 h0
  obtain ⟨x1, e1, _, n1⟩ := DataW.trod_int (k := .i64) Tryz.underlying3 h1
  obtain ⟨x2, e2, _, n2⟩ := DataW.trod_int (k := .i64) Tryz.underlying3 h2
  obtain ⟨x3, e3, _, n3⟩ := DataW.trod_int (k := .i64) Tryz.underlying3 h3
  obtain ⟨x4, e4, _, n4⟩ := DataW.trod_int (k := .i64) Tryz.underlying3 h4
  obtain ⟨x5, e5, _, _⟩ := DataW.trod_string Tryz.underlying9 h5
  have c3 : Tryz.prog.cellsOf 3 = 1 := by kernel_rfl
  have c9 : Tryz.prog.cellsOf 9 = 1 := by kernel_rfl
  have g0 : cs.toList[0]? = some (.int .i64 x0) := cs_one (c3 ▸ e0)
  have g1 : cs.toList[1]? = some (.int .i64 x1) := cs_one (c3 ▸ e1)
  have g2 : cs.toList[2]? = some (.int .i64 x2) := cs_one (c3 ▸ e2)
  have g3 : cs.toList[3]? = some (.int .i64 x3) := cs_one (c3 ▸ e3)
  have g4 : cs.toList[4]? = some (.int .i64 x4) := cs_one (c3 ▸ e4)
  have g5 : cs.toList[5]? = some (.string x5) := cs_one (c9 ▸ e5)
  have hcs : cs.toList = [.int .i64 x0, .int .i64 x1, .int .i64 x2, .int .i64 x3, .int .i64 x4, .string x5] := by
    refine List.ext_getElem? fun i => ?_
    match i with
    | 0 => exact g0
    | 1 => exact g1
    | 2 => exact g2
    | 3 => exact g3
    | 4 => exact g4
    | 5 => exact g5
    | i + 6 => rw [List.getElem?_eq_none (by omega), List.getElem?_eq_none (by simp)]
  have hcs2 : cs = [Value.int .i64 x0, .int .i64 x1, .int .i64 x2, .int .i64 x3, .int .i64 x4, .string x5].toArray := by rw [← hcs]
  refine ⟨(x0, x1, x2, x3, x4, x5), i64_of n1, ?_⟩
  rw [hcs2]
  exact .agg (RepL.cons (.v _ rfl) (RepL.cons (.v _ rfl) (RepL.cons (.v _ rfl) (RepL.cons (.v _ rfl) (RepL.cons (.v _ rfl) (RepL.cons (.v _ rfl) (RepL.nil _ _)))))))
set_option maxRecDepth 100000 in
theorem ans_of {v : Value} {d : DataW H} {ps : List MemPlace} {b0 : Nat} (hval : Value.okWide Tryz.prog w .any b0 25 v) (h : DataW.Trod enc Tryz.prog w 0 (fun _ => true) true 25 v d ps) : ∃ a : Int × ByteArray × Int, (-9223372036854775808 ≤ a.2.2 ∧ a.2.2 ≤ 9223372036854775807) ∧ Rep w (AllB w) (.agg (ansC a.1 a.2.1 a.2.2)) v := by
  obtain ⟨cs, rfl, hsz⟩ := okWide_struct Tryz.underlying25 hval
  obtain ⟨fuel, hf⟩ := h
  have hl : cs.toList.length = 3 := by rw [Array.length_toList]; exact hsz.trans (by kernel_rfl)
  have hf : DataW.trod enc Tryz.prog w 0 (fun _ => true) true fuel 25 cs.toList = some (d, ps) := hf
  obtain ⟨m0, y0, h0⟩ := fld (i := 0) Tryz.underlying25 hf rfl
  obtain ⟨m1, y1, h1⟩ := fld (i := 1) Tryz.underlying25 hf rfl
  obtain ⟨m2, y2, h2⟩ := fld (i := 2) Tryz.underlying25 hf rfl
  obtain ⟨x0, e0, _, n0⟩ := DataW.trod_int (k := .i64) Tryz.underlying3 h0
  obtain ⟨x1, e1, _, _⟩ := DataW.trod_string Tryz.underlying9 h1
  obtain ⟨x2, e2, _, n2⟩ := DataW.trod_int (k := .i64) Tryz.underlying3 h2
  have c3 : Tryz.prog.cellsOf 3 = 1 := by kernel_rfl
  have c9 : Tryz.prog.cellsOf 9 = 1 := by kernel_rfl
  have g0 : cs.toList[0]? = some (.int .i64 x0) := cs_one (c3 ▸ e0)
  have g1 : cs.toList[1]? = some (.string x1) := cs_one (c9 ▸ e1)
  have g2 : cs.toList[2]? = some (.int .i64 x2) := cs_one (c3 ▸ e2)
  have hcs : cs.toList = [.int .i64 x0, .string x1, .int .i64 x2] := by
    refine List.ext_getElem? fun i => ?_
    match i with
    | 0 => exact g0
    | 1 => exact g1
    | 2 => exact g2
    | i + 3 => rw [List.getElem?_eq_none (by omega), List.getElem?_eq_none (by simp)]
  have hcs2 : cs = [Value.int .i64 x0, .string x1, .int .i64 x2].toArray := by rw [← hcs]
  refine ⟨(x0, x1, x2), i64_of n2, ?_⟩
  rw [hcs2]
  exact .agg (RepL.cons (.v _ rfl) (RepL.cons (.v _ rfl) (RepL.cons (.v _ rfl) (RepL.nil _ _))))
end
end Go.Proofs.YthepmpfkkhckpaaGreatDoor
