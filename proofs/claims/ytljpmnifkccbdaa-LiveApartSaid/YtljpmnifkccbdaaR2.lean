/- What a law's contract says of its calls, in plain words: from a contract that the answer is true follows that each call returns true and writes to nothing that was there. No condition. -/
import Derived.Test.YtljpmnifkccbdaaR1
import Derived.Test.YtljpmnifkccbdaaB5
set_option linter.unusedSimpArgs false
set_option linter.unusedVariables false
namespace Go.Proofs.Ytljpmnifkccbdaa
open Go Go.RowKit Am Go.ChangeShapes Go.WideShapes Go.ChangeAt

theorem evR_eq (l : List Ev) : evR' l = evR l := rfl
theorem law_calls {f : Nat} {args : List AV} (h : CSem Try.prog (.fn f) args (.pure [aB true])) (W : World) (xs : List Value) (hr : Reps W (AllB W) args xs) :
    Calls Try.prog f xs.toArray W fun e W' => e = .returned (.bool true) ∧ Below W.heap.size W W' := by
  refine (h.2 W (AllB W) xs (fun _ h => h) hr).mono fun e W' hh => ?_
  obtain ⟨y, S', rfl, hg, ys, rfl, hys⟩ := hh
  obtain ⟨z, zs, rfl, h1, h2⟩ := hys.uncons
  have := h2.unnil
  subst this
  cases h1 with
  | c h => cases h; exact ⟨rfl, hg.below⟩
end Go.Proofs.Ytljpmnifkccbdaa
