import Derived.Test.YtdmdahnnfancpaaRows
import Derived.Test.YtdmdahnnfancpaaP1
import Derived.ProofKit
import Derived.OpenShut
import Derived.ShutString
import Derived.ChangeOld
import Derived.Below
import Derived.Deep.Slices
set_option linter.unusedSimpArgs false
set_option linter.unusedVariables false
namespace Go.Proofs.Ytdmdahnnfancpaa
open Go Go.RowKit Am Go.ChangeShapes Go.WideShapes Go.ChangeAt

theorem own : ownKnob Try.prog.godebug = none := by kernel_rfl
theorem laidOut : laidOutB Try.prog = true := by kernel_rfl
/-- All that was there. -/
abbrev AllB (w : World) : Nat → Prop := fun g => g < w.heap.size
theorem gd_all (w : World) (S : Nat → Prop) : gdOK w S where
  cells := fun g cs hg => by simp [gndA, lk] at hg
  ints := fun g hg => by simp [gndI, memN] at hg
theorem law_calls {f : Nat} {args : List AV} (h : CSem Try.prog (.fn f) args (.pure [aB true])) (W : World) (xs : List Value) (hr : Reps W (AllB W) args xs) :
    Calls Try.prog f xs.toArray W fun e W' => e = .returned (.bool true) ∧ Below W.heap.size W W' := by
  refine (h.2 W (AllB W) xs (fun _ h => h) (gd_all _ _) hr).mono fun e W' hh => ?_
  obtain ⟨y, S', rfl, hg, ys, rfl, hys⟩ := hh
  obtain ⟨z, zs, rfl, h1, h2⟩ := hys.uncons
  have := h2.unnil
  subst this
  cases h1 with
  | c h => cases h; exact ⟨rfl, hg.below⟩
end Go.Proofs.Ytdmdahnnfancpaa
