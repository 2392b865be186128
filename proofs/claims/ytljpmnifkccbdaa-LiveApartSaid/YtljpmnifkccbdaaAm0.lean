import Derived.Test.YtljpmnifkccbdaaAm1
set_option linter.unusedVariables false
namespace Go.Proofs.Ytljpmnifkccbdaa.Am
open Go Go.RowKit
inductive TK where
  | other
  | struct
  | arr (n esz : Nat)
  | sli (e esz bytes : Nat)
  | int (k : IntKind)
  | str
structure TI where
  size : Nat
  agg : Bool
  zero : List AV
  offs : List (Nat × Nat)
  kind : TK
end Go.Proofs.Ytljpmnifkccbdaa.Am
