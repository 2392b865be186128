import Derived.Test.YtfphhpabfeepmaaDoorRows
import Derived.Test.YtfphhpabfeepmaaDoorCards
import Derived.Test.YtfphhpabfeepmaaDoorTie
import Derived.Test.YtfphhpabfeepmaaDoorP1
import Derived.ProofKit
import Derived.OpenShut
import Derived.ShutString
import Derived.LaidMore
import Derived.LaidSub
import Derived.Lay
import Derived.MakeChecks
import Derived.Lib.LaidTab
import Derived.Shelf.Vars
import Derived.SevenTiedAt
import Derived.Stop.Joined
import Derived.Below
set_option linter.unusedSimpArgs false
set_option linter.unusedVariables false
namespace Go.Proofs.YtfphhpabfeepmaaDoor
open Go Go.RowKit Am Go.ChangeShapes Go.WideShapes Go.ChangeAt
open Go.ChangeMaps (open_string shut_string)

theorem own : ownKnob Tryd.prog.godebug = none := by kernel_rfl
theorem laidOut : laidOutB Tryd.prog = true := by kernel_rfl
/-- What the rows of this seat list. -/
abbrev lst : List (String × DataW Unit) := Rows.respNilRow.laid
abbrev AllB (w : World) : Nat → Prop := fun g => g < w.heap.size
theorem tab_of {W : World} (h : laidMet Tryd.prog lst W) : Lib.TabIs Tryd.prog W "internal/strconv.uint64pow10" .u64 Lib.pow10Tab := by
  have h1 := h.filter (fun x => x.1 == "internal/strconv.uint64pow10")
  have e : (lst.filter fun x => x.1 == "internal/strconv.uint64pow10") = [("internal/strconv.uint64pow10", Lib.tabData .u64 Lib.pow10Tab)] := by kernel_rfl
  rw [e] at h1
  exact Lib.tabIs_of_head (t := 148) (e := 130) (n := 20) (g := 0) (by kernel_rfl) (by kernel_rfl) (by kernel_rfl) (by kernel_rfl) (by kernel_rfl) (by kernel_rfl) h1
theorem gd_of {W : World} (hL : laidMet Tryd.prog lst W) (hsh : W.ShapedOpen Tryd.prog) : gdOK W (AllB W) where
  cells := fun g cs hg => by
    have ht := tab_of hL
    unfold gndA at hg
    simp only [lk] at hg
    split at hg
    · rename_i e
      subst e
      injection hg with hg
      have hgn : Tryd.prog.globalNamed "internal/strconv.uint64pow10" = some 0 := by kernel_rfl
      unfold Lib.TabIs World.var? at ht
      rw [hgn] at ht
      simp only [Option.bind_some] at ht
      split at ht
      · rename_i xs t fr hx
        injection ht with ht
        refine ⟨(Array.getElem?_eq_some_iff.1 hx).1, xs, t, fr, hx, ?_⟩
        rw [ht]
        have e2 : cs = (Lib.pow10Tab.map fun z => AV.v (Value.int .u64 z)) := by rw [← hg]; kernel_rfl
        rw [e2]
        have key : ∀ l : List Int, RepL W (AllB W) (l.map fun z => AV.v (.int .u64 z)) (l.map fun z => Value.int .u64 z) := by
          intro l
          refine ⟨by simp, fun i u x hu hx => ?_⟩
          rw [List.getElem?_map] at hu hx
          cases hi : l[i]? with
          | none => rw [hi] at hu; simp at hu
          | some z =>
            rw [hi] at hu hx
            simp only [Option.map_some, Option.some.injEq] at hu hx
            subst hu hx
            exact .v _ rfl
        exact key _
      · cases ht
    · cases hg
  ints := fun g hg => by
    have e : g = 1 := by
      unfold gndI at hg
      simp only [memN] at hg
      split at hg
      · rename_i e; exact e.symm
      · cases hg
    subst e
    have hz : (((begin Tryd.prog (fun _ _ => 0) default).world.heap[1]?).bind Obj.row?) = some (#[.int .i64 0], 3) := by kernel_rfl
    obtain ⟨cs, hh, hs, hr⟩ := hsh.1 1 _ 3 (of_decide_eq_true (by kernel_rfl)) hz
    obtain ⟨m, hm⟩ := Go.Proofs.cell_of_shapedOpen_int (g := 1) (t := 3) (k := .i64) hsh (of_decide_eq_true (by kernel_rfl)) hz rfl (by kernel_rfl) (by kernel_rfl) (by kernel_rfl)
    refine ⟨(Array.getElem?_eq_some_iff.1 hh).1, m, 3, (0, 0), ?_⟩
    rw [hh]
    have hs1 : cs.size = 1 := hs
    simp only [World.cell?, hh] at hm
    have hm0 : cs[0]? = some (.int .i64 m) := hm
    have : cs = #[.int .i64 m] := by
      apply Array.ext
      · simp [hs1]
      · intro i h1 h2
        have h0 : i = 0 := by simp at h2; omega
        subst h0
        rw [Array.getElem?_eq_getElem h1] at hm0
        injection hm0 with hm0
    rw [this]
theorem law_calls {f : Nat} {args : List AV} (h : CSem Tryd.prog (.fn f) args (.pure [aB true])) (W : World) (hgd : gdOK W (AllB W)) (xs : List Value) (hr : Reps W (AllB W) args xs) :
    Calls Tryd.prog f xs.toArray W fun e W' => e = .returned (.bool true) ∧ Below W.heap.size W W' := by
  refine (h.2 W (AllB W) xs (fun _ h => h) hgd hr).mono fun e W' hh => ?_
  obtain ⟨y, S', rfl, hg, ys, rfl, hys⟩ := hh
  obtain ⟨z, zs, rfl, h1, h2⟩ := hys.uncons
  have := h2.unnil
  subst this
  cases h1 with
  | c h => cases h; exact ⟨rfl, hg.below⟩
section
variable {H : Type} {enc : TypeId × Value → H}
theorem handed_laid {a : Assume} {C : Checked} {os : Os} {f : FuncId} {fn : Func} {s : ChangeSpec} {conds : List PathCond} {apart fresh handsOn again : Bool} {X : World → Array Value → Prop}
    (hX : ∀ (w w' : World) (args : Array Value), w.heap = w'.heap → X w args → X w' args)
    (own : ownKnob C.prog.godebug = none) (started : os.Started) (noInit : C.prog.inits.idxOf? f = none) (hfn : C.prog.funcs[f]? = some fn)
    (witness : ∃ (w : World) (tape : Tape) (i : Input), w.os = os ∧ (w.forCall tape i).Shaped C.prog ∧ i.vars = [] ∧ Input.okWide C.prog (w.forCall tape i) .any w.heap.size f i ∧
      ((s.pre enc C.prog fn conds apart (w.forCall tape i).memory i.args ∧ X (w.forCall tape i).memory i.args) ∧ sizedMet enc C.prog fn (OpenSpec.ofChange s) apart (w.forCall tape i).memory i.args) ∧ a.holds C.prog (lone (Frame.enter C.prog f i.args .normal) [] (w.forCall tape i)))
    (contract : ∀ (W : World) (base : Nat) (args : Array Value) (ds gs : List (DataW H)) (before : List MemPlace),
      (∀ (j : Nat) t v, fn.params[j]? = some t → args[j]? = some v → Value.okWide C.prog W .any base t v) →
      DataW.Whole enc C.prog fn.params.toList s.vars apart W args.toList ds gs before →
      conds.all (PathCond.test C.prog ⟨fn.params.toList, ds, s.plain.varTypes C.prog, gs⟩) = true →
      (DataW.weightsEach C.prog (fn.params.toList ++ s.plain.varTypes C.prog) (ds ++ gs)).all (· ≤ reachBytes) = true → X W args →
      W.ShapedOpen C.prog →
      a.holds C.prog (lone (Frame.enter C.prog f args .normal) [] W) →
      Calls C.prog f args W fun e W' => ∃ v, e = .returned v ∧ s.post enc C.prog fn apart fresh handsOn again W args v W') :
    ReturnsInHanded a C os f .any (fun w args => (s.pre enc C.prog fn conds apart w args ∧ X w args) ∧ sizedMet enc C.prog fn (OpenSpec.ofChange s) apart w args) (s.post enc C.prog fn apart fresh handsOn again) := by
  refine returnsInHanded_of_calls own started noInit witness ?_
  intro w tape i _ hsh _ hok hpre hholds
  obtain ⟨_, _, _, fn', hfn', _, _, _, _, hval⟩ := hok
  have e : fn' = fn := Option.some.inj (hfn'.symm.trans hfn)
  subst e
  obtain ⟨⟨⟨ds, gs, before, hw, hc⟩, hx⟩, hz⟩ := hpre
  have hw' := DataW.Whole.of_heap (w' := w.forCall tape i) (by rfl) hw
  refine (contract (w.forCall tape i) w.heap.size i.args ds gs before hval hw' hc (hz.weights hw) (hX _ _ _ (by rfl) hx) hsh hholds).mono fun e W' ⟨v, he, hp⟩ => ?_
  subst he
  exact ChangeSpec.post_blind hp
end
end Go.Proofs.YtfphhpabfeepmaaDoor
