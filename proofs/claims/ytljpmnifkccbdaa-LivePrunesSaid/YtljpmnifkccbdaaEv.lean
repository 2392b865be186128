import Derived.Test.YtljpmnifkccbdaaTy
set_option linter.unusedSimpArgs false
namespace Go.Proofs.Ytljpmnifkccbdaa
open Go Go.RowKit Am

/-! Dots, vectors, operations and events as plain values. -/
structure Dt where
  R : Int
  N : Int
  deriving DecidableEq
abbrev VV := Fin 16 → Int
structure Opn where
  kind : Int
  key : ByteArray
  fld : ByteArray
  val : ByteArray
  num : Int
  ref : Dt
structure Ev where
  dot : Dt
  time : Int
  deps : VV
  op : Opn
abbrev aI (n : Int) : AV := .v (.int .i64 n)
abbrev aS (s : ByteArray) : AV := .v (.string s)
abbrev aB (b : Bool) : AV := .v (.bool b)
def Dt.ac (d : Dt) : List AV := [aI d.R, aI d.N]
def vac (v : VV) : List AV := [aI (v 0), aI (v 1), aI (v 2), aI (v 3), aI (v 4), aI (v 5), aI (v 6), aI (v 7), aI (v 8), aI (v 9), aI (v 10), aI (v 11), aI (v 12), aI (v 13), aI (v 14), aI (v 15)]
def Opn.ac (o : Opn) : List AV := [aI o.kind, aS o.key, aS o.fld, aS o.val, aI o.num, aI o.ref.R, aI o.ref.N]
def Ev.ac (e : Ev) : List AV := [aI e.dot.R, aI e.dot.N, aI e.time, aI (e.deps 0), aI (e.deps 1), aI (e.deps 2), aI (e.deps 3), aI (e.deps 4), aI (e.deps 5), aI (e.deps 6), aI (e.deps 7), aI (e.deps 8), aI (e.deps 9), aI (e.deps 10), aI (e.deps 11), aI (e.deps 12), aI (e.deps 13), aI (e.deps 14), aI (e.deps 15),
  aI e.op.kind, aS e.op.key, aS e.op.fld, aS e.op.val, aI e.op.num, aI e.op.ref.R, aI e.op.ref.N]
end Go.Proofs.Ytljpmnifkccbdaa
