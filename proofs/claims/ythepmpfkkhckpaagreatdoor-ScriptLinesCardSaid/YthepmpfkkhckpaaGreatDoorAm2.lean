import Derived.Test.YthepmpfkkhckpaaGreatDoorGam
set_option linter.unusedVariables false
set_option linter.unusedSimpArgs false
namespace Go.Proofs.YthepmpfkkhckpaaGreatDoor.Am
open Go Go.RowKit

/-! ### 2. The machine -/
def lk {α : Type} (t : Nat) : List (Nat × α) → Option α
  | [] => none
  | (k, x) :: r => if k = t then some x else lk t r
def del {α : Type} (t : Nat) : List (Nat × α) → List (Nat × α)
  | [] => []
  | (k, x) :: r => if k = t then del t r else (k, x) :: del t r

/-- What the machine doesn't look into: a symbol for each operation on numbers, strings, lists. -/
inductive Tg where
  | cmp | ar | scmp | bnot | len | slen | app | cat | wrp | bt | set | mx | mn | sb
@[reducible] def Tg.ty : Tg → Type
  | .cmp => BinOp → Int → Int → Bool
  | .ar => BinOp → IntKind → Int → Int → Int
  | .scmp => BinOp → ByteArray → ByteArray → Bool
  | .bnot => Bool → Bool
  | .len => List (List AV) → Int
  | .slen => ByteArray → Int
  | .app => List (List AV) → List (List AV) → List (List AV)
  | .cat => ByteArray → ByteArray → ByteArray
  | .wrp => IntKind → Int → Int
  | .bt => ByteArray → Int → Int
  | .set => List (List AV) → Nat → List AV → List (List AV)
  | .mx => Int → Int → Int
  | .mn => Int → Int → Int
  | .sb => ByteArray → List (List AV)
abbrev Sy := (t : Tg) → t.ty
def sy : Sy
  | .cmp => fun op a b => match op with | .eql => a == b | .neq => a != b | .lss => decide (a < b) | .leq => decide (a ≤ b) | .gtr => decide (a > b) | .geq => decide (a ≥ b) | _ => false
  | .ar => fun op k a b => match op with | .add => k.wrap (a + b) | .sub => k.wrap (a - b) | .mul => k.wrap (a * b) | .quo => k.wrap (a.tdiv b) | .rem => a.tmod b | .shl => k.wrap (a * 2 ^ (min b.toNat k.bits)) | .shr => a.fdiv (2 ^ (min b.toNat k.bits)) | .and => k.wrap (BitVec.ofInt k.bits a &&& BitVec.ofInt k.bits b).toNat | .or => k.wrap (BitVec.ofInt k.bits a ||| BitVec.ofInt k.bits b).toNat | .xor => k.wrap (BitVec.ofInt k.bits a ^^^ BitVec.ofInt k.bits b).toNat | _ => 0
  | .scmp => fun op a b => match op with | .eql => a.toList == b.toList | .neq => !(a.toList == b.toList) | .lss => Op.bytesLess a.toList b.toList | .leq => Op.bytesLess a.toList b.toList || a.toList == b.toList | .gtr => !(Op.bytesLess a.toList b.toList || a.toList == b.toList) | .geq => !(Op.bytesLess a.toList b.toList) | _ => false
  | .bnot => fun b => !b
  | .len => fun r => (r.length : Int)
  | .slen => fun s => (s.size : Int)
  | .app => fun a b => a ++ b
  | .cat => fun a b => a ++ b
  | .wrp => fun k n => k.wrap n
  | .bt => fun s i => if h : i.toNat < s.size then ((s[i.toNat]'h).toNat : Int) else 0
  | .set => fun rows i r => rows.set i r
  | .mx => fun a b => if b > a then b else a
  | .mn => fun a b => if b < a then b else a
  | .sb => fun s => s.data.toList.map fun b => [.v (.int .u8 b.toNat)]

inductive Res where
  | pure (xs : List AV)
  | own (e sz : Nat) (rows : List (List AV)) (rest : List AV)
  | bx (ty : Nat) (cells rest : List AV)
structure En where
  n : Nat
  keep : List Nat := []
  wrs : List Nat := []
  cuts : List Nat := []
  bxs : List Nat := []
def memN (d : Nat) : List Nat → Bool
  | [] => false
  | x :: r => if x = d then true else memN d r
def okD (n : Nat) : Option Nat → Bool
  | none => true
  | some d => Nat.blt d n
def dstOf (all : List Oper) (j : Nat) : Option Nat :=
  match all[j]? with
  | some o => o.dst
  | none => none
/-- Which operations write to what is there. -/
def isW (E : En) (o : Oper) : Bool :=
  match o.op with
  | .store _ _ _ => true
  | .mapUpdate _ _ _ _ => true
  | .call { callee := .value (.func g), args := _, argTypes := _ } => memN g E.wrs
  | _ => false
def isTmp : Operand → Option Nat
  | .tmp t => some t
  | _ => none
def looks (all : List Oper) (o : Oper) : List Nat :=
  (o.op.operands.toList.filterMap isTmp) ++ (match o.guard with | some (j, _) => (match dstOf all j with | some d => [d] | none => []) | none => [])
/-- An operation that looks at objects, and one that writes: one stands among what must come ahead of the other. -/
def aheadN (all : List Oper) (i : Nat) : Nat → Oper → Bool
  | 0, _ => false
  | n + 1, q => q.after.any fun e => Region.binds .any e && (e.on == i || (match all[e.on]? with
    | some k => aheadN all i n k
    | none => false))
def ahead (all : List Oper) (i : Nat) (q : Oper) : Bool := aheadN all i 12 q
/-- Each slot that operation i looks at and that another operation writes: that one stands among what must come first, or behind; slots are written once; what comes first stands first. -/
def benignOne (all : List Oper) (i : Nat) (o : Oper) : Bool :=
  (List.range all.length).all fun j =>
    (match dstOf all j with
     | none => true
     | some d => (j == i || !(o.dst == some d)) && (!(looks all o).contains d || (decide (j < i) && o.after.any (fun e => e.on == j && Region.binds .any e)) || (decide (i < j) && (match all[j]? with | some q => ahead all i q | none => false))))
/-- Operations that look at no object. -/
def triv (o : Oper) : Bool :=
  match o.op with
  | .move _ => true
  | .assign _ => true
  | .pick _ _ _ => true
  | .binOp _ _ _ _ _ => true
  | .unOp _ _ _ => true
  | .extract _ _ => true
  | _ => false
def ordOne (E : En) (all : List Oper) (i : Nat) (o : Oper) : Bool :=
  (List.range all.length).all fun j => match all[j]? with
    | none => true
    | some q => if isW E q = true then (j == i || triv o || (if j < i then ahead all j o else ahead all i q)) else true
def benign (E : En) (all : List Oper) : Bool :=
  (List.range all.length).all fun i => match all[i]? with
    | none => true
    | some o => ordOne E all i o && benignOne all i o && o.after.all (fun e => decide (e.on < i) || !Region.binds .any e) && (match o.guard with | some (j, _) => (dstOf all j).isSome | none => true)

inductive Ob where
  | box (ty : Nat) (cells : List AV) (fz : Bool)
  | row (e sz : Nat) (rows : List (List AV)) (ver mver : Nat)
  | mp (ks : List ByteArray) (vs : List AV)
  | it (ks : List ByteArray) (vs : List AV) (cur : Option (ByteArray × AV))
abbrev Obs := List (Nat × Ob)
inductive Key where
  | fn (f : Nat)
  | eq (t : Nat)
  | conv (src dst : Nat)
  | bi (b : Builtin) (t : Nat)
  | wr (f : Nat) (pars pars' : Obs)
  | ben (E : En) (ops : List Oper)
  | nilp (t : Nat)
  | nili (t : Nat)
  | fld (t i : Nat)

def cut : Nat → Nat → List AV → Option (List AV)
  | 0, 0, _ => some []
  | 0, n + 1, c :: cs => match cut 0 n cs with | some r => some (c :: r) | none => none
  | 0, _ + 1, [] => none
  | o + 1, n, _ :: cs => cut o n cs
  | _ + 1, _, [] => none
/-- A value's cells. -/
def cellsOf : AV → Option (List AV)
  | .agg cs => some cs
  | .b c => some [.v (.bool c)]
  | .v (.bool c) => some [.v (.bool c)]
  | .v (.int k n) => some [.v (.int k n)]
  | .v (.string s) => some [.v (.string s)]
  | .v (.slice a n c) => some [.v (.slice a n c)]
  | .sl rows => some [.sl rows]
  | _ => none
/-- What stands behind an address. -/
def deref (obs : Obs) : AV → Option (List AV × Nat)
  | .ept cs off => some (cs, off)
  | .ptr k off => match lk k obs with | some (.box _ cs _) => some (cs, off) | _ => none
  | .rel k ver mver i cs off => match lk k obs with | some (.row _ _ _ ver' mver') => if ver = ver' then (if mver = mver' then some (cs, off) else none) else none | _ => none
  | _ => none
/-- An element of a row of the call's own, taken whole. -/
def wholeOf (obs : Obs) (ti : TI) : AV → Option (List AV)
  | .rel k ver mver _ cs off => match lk k obs with
    | some (.row _ sz _ ver' m) => if ver = ver' then (if mver = m then (if off = 0 then (if sz = ti.size then (if ti.agg = true then some cs else none) else none) else none) else none) else none
    | _ => none
  | _ => none
def movePtr (d : Nat) : AV → Option AV
  | .ept cs off => some (.ept cs (off + d))
  | .ptr k off => some (.ptr k (off + d))
  | .rel k ver mver i cs off => some (.rel k ver mver i cs (off + d))
  | _ => none
def rowsOf (obs : Obs) : AV → Option (List (List AV))
  | .sl rows => some rows
  | .v (.slice none 0 0) => some []
  | .own k ver => match lk k obs with | some (.row _ _ rows ver' _) => if ver = ver' then some rows else none | _ => none
  | _ => none
/-- A map's entries, in the order in which they came. -/
def mapOf (obs : Obs) : AV → Option (List ByteArray × List AV)
  | .mp ks vs => some (ks, vs)
  | .v (.map none) => some ([], [])
  | .mo k => match lk k obs with | some (.mp ks vs) => some (ks, vs) | _ => none
  | _ => none
def mget : List ByteArray → List AV → ByteArray → Option AV
  | k :: ks, v :: vs, s => if k = s then some v else mget ks vs s
  | _, _, _ => none
def mputK : List ByteArray → ByteArray → List ByteArray
  | [], s => [s]
  | k :: ks, s => if k = s then k :: ks else k :: mputK ks s
def mputV : List ByteArray → List AV → ByteArray → AV → List AV
  | k :: ks, u :: vs, s, v => if k = s then v :: vs else u :: mputV ks vs s v
  | _, _, _, v => [v]
def zAV (ti : TI) : AV := if ti.agg = true then (if ti.size = 1 then .dead else .agg ti.zero) else (match ti.zero with | [.v x] => .v x | [.b c] => .v (.bool c) | _ => .dead)
/-- What a map tells of a key. -/
inductive MG (ti : TI) (ks : List ByteArray) (vs : List AV) (s : ByteArray) : Bool → AV → Prop where
  | hit {v : AV} (h : mget ks vs s = some v) : MG ti ks vs s true (.tup [v, .v (.bool true)])
  | miss (h : mget ks vs s = none) : MG ti ks vs s true (.tup [zAV ti, .v (.bool false)])
  | hit1 {v : AV} (h : mget ks vs s = some v) : MG ti ks vs s false v
  | miss1 (h : mget ks vs s = none) : MG ti ks vs s false (zAV ti)
/-- What a round of a range over a map takes. -/
inductive NX (ks : List ByteArray) (vs : List AV) (s : ByteArray) (v : AV) (ks' : List ByteArray) (vs' : List AV) : Prop where
  | mk (j : Nat) (h1 : ks[j]? = some s) (h2 : vs[j]? = some v) (h3 : ks' = ks.eraseIdx j) (h4 : vs' = vs.eraseIdx j) : NX ks vs s v ks' vs'
/-- Nothing is left. -/
inductive NXe (ks : List ByteArray) : Prop where
  | mk (h : ks = []) : NXe ks
inductive MP (ks : List ByteArray) (vs : List AV) (s : ByteArray) (v : AV) (ks' : List ByteArray) (vs' : List AV) : Prop where
  | mk (h1 : ks' = mputK ks s) (h2 : vs' = mputV ks vs s v) : MP ks vs s v ks' vs'
def evs (ev : Operand → Option AV) : List Operand → Option (List AV)
  | [] => some []
  | x :: xs => match ev x with | none => none | some a => match evs ev xs with | none => none | some r => some (a :: r)
/-- A slice literal's rows: the parts in order, without gaps. -/
def partRows (ev : Operand → Option AV) (sz : Nat) (i : Nat) : List (Nat × Operand) → Option (List (List AV))
  | [] => some []
  | (j, x) :: r => if j = i then (match ev x with | some a => (match cellsOf a with | some cs => if cs.length = sz then (match partRows ev sz (i + 1) r with | some t => some (cs :: t) | none => none) else none | none => none) | none => none) else none
def setCells : Nat → List AV → List AV → Option (List AV)
  | 0, [], cs => some cs
  | 0, x :: xs, _ :: cs => match setCells 0 xs cs with | some r => some (x :: r) | none => none
  | 0, _ :: _, [] => none
  | o + 1, xs, c :: cs => match setCells o xs cs with | some r => some (c :: r) | none => none
  | _ + 1, _, [] => none
/-- A struct literal's cells. -/
def partCells (ev : Operand → Option AV) (offs : List (Nat × Nat)) (cs : List AV) : List (Nat × Operand) → Option (List AV)
  | [] => some cs
  | (j, x) :: r => match offs[j]? with
    | none => none
    | some (off, size) => match ev x with
      | none => none
      | some a => match cellsOf a with
        | none => none
        | some ds => if ds.length = size then (match setCells off ds cs with
          | none => none
          | some cs' => partCells ev offs cs' r) else none
/-- Plain arguments: what was the machine's own word for a known bool is a bool again. -/
def plain : AV → AV
  | .b c => .v (.bool c)
  | x => x
def tupOf : List AV → AV
  | [x] => x
  | xs => .tup xs
def binA (F : Sy) (op : BinOp) (x y : AV) : Option AV :=
  match plain x, plain y with
  | .v (.int k a), .v (.int k' b) =>
    if k = k' then
      match op with
      | .add => some (.v (.int k (F .ar .add k a b)))
      | .sub => some (.v (.int k (F .ar .sub k a b)))
      | .mul => some (.v (.int k (F .ar .mul k a b)))
      | .and => some (.v (.int k (F .ar .and k a b)))
      | .or => some (.v (.int k (F .ar .or k a b)))
      | .xor => some (.v (.int k (F .ar .xor k a b)))
      | .eql => some (.v (.bool (F .cmp .eql a b)))
      | .neq => some (.v (.bool (F .cmp .neq a b)))
      | .lss => some (.v (.bool (F .cmp .lss a b)))
      | .leq => some (.v (.bool (F .cmp .leq a b)))
      | .gtr => some (.v (.bool (F .cmp .gtr a b)))
      | .geq => some (.v (.bool (F .cmp .geq a b)))
      | _ => none
    else none
  | .v (.string a), .v (.string b) =>
    match op with
    | .eql => some (.v (.bool (F .scmp .eql a b)))
    | .neq => some (.v (.bool (F .scmp .neq a b)))
    | .lss => some (.v (.bool (F .scmp .lss a b)))
    | .leq => some (.v (.bool (F .scmp .leq a b)))
    | .gtr => some (.v (.bool (F .scmp .gtr a b)))
    | .geq => some (.v (.bool (F .scmp .geq a b)))
    | _ => none
  | _, _ => none

def okArg : AV → Bool
  | .ptr _ _ => false
  | .own _ _ => false
  | .rel _ _ _ _ _ _ => false
  | .osl _ _ _ => false
  | .mo _ => false
  | .tup _ => false
  | .dead => false
  | _ => true
def isEpt : AV → Bool
  | .ept _ _ => true
  | _ => false
/-- What a call's result is, taken as something that stays as it is. -/
def resAV : Res → AV
  | .pure xs => tupOf xs
  | .own _ _ rows rest => tupOf (.sl rows :: rest)
  | .bx _ cells rest => tupOf (.ept cells 0 :: rest)

section
variable (F : Sy) (C : Key → List AV → Res → Prop)

/-- Operations that only read, reckon, or make new memory that nobody writes to any more. -/
def dop (ev : Operand → Option AV) (obs : Obs) (op : Op) (K : AV → Prop) : Prop :=
  match op with
  | .move x => match ev x with | some a => K a | none => False
  | .assign x => match ev x with | some a => K a | none => False
  | .pick c x y => match ev c with
    | some (.b true) => (match ev x with | some a => K a | none => False)
    | some (.b false) => (match ev y with | some a => K a | none => False)
    | some (.v (.bool t)) => (match ev x with | some a => (match ev y with | some b => (t = true → K a) ∧ (t = false → K b) | none => False) | none => False)
    | _ => False
  | .box t x => match gam t, ev x with
    | some ti, some a => (match cellsOf a with | some cs => if cs.length = ti.size then K (.ept cs 0) else False | none => False)
    | _, _ => False
  | .load t x => match gam t, ev x with
    | some ti, some p => (match wholeOf obs ti p with
      | some cs => K (.agg cs)
      | none => match deref obs p with
      | some (cs, off) => (match cut off ti.size cs with
        | some ds => if ti.agg = true then K (.agg ds) else (match ds with | [d] => K d | _ => False)
        | none => False)
      | none => False)
    | _, _ => False
  | .nilCheck x => match ev x with
    | some (.ept cs off) => K (.ept cs off)
    | some (.ptr k off) => K (.ptr k off)
    | some (.clo g caps) => K (.clo g caps)
    | _ => False
  | .binOp o t x y _ => match ev x, ev y with
    | some a, some b => (match binA F o a b with
      | some r => K r
      | none => match o, a, b with
        | .eql, .agg cs, .agg ds => ∃ r : Bool, C (.eq t) [.agg cs, .agg ds] (.pure [.v (.bool r)]) ∧ K (.v (.bool r))
        | .neq, .agg cs, .agg ds => ∃ r : Bool, C (.eq t) [.agg cs, .agg ds] (.pure [.v (.bool r)]) ∧ K (.v (.bool (F .bnot r)))
        | .rem, .v (.int k a), .v (.int k' b) => k = k' ∧ b ≠ 0 ∧ K (.v (.int k (F .ar .rem k a b)))
        | .quo, .v (.int k a), .v (.int k' b) => k = k' ∧ b ≠ 0 ∧ K (.v (.int k (F .ar .quo k a b)))
        | .shl, .v (.int k a), .v (.int _ b) => 0 ≤ b ∧ K (.v (.int k (F .ar .shl k a b)))
        | .shr, .v (.int k a), .v (.int _ b) => 0 ≤ b ∧ K (.v (.int k (F .ar .shr k a b)))
        | .add, .v (.string s), .v (.string u) => (F .slen s) + (F .slen u) ≤ 9223372036854775807 ∧ K (.v (.string (F .cat s u)))
        | .eql, .ptr _ _, .v (.pointer none) => C (.nilp t) [] (.pure []) ∧ K (.b false)
        | .neq, .ptr _ _, .v (.pointer none) => C (.nilp t) [] (.pure []) ∧ K (.b true)
        | .eql, .ept _ _, .v (.pointer none) => C (.nilp t) [] (.pure []) ∧ K (.b false)
        | .neq, .ept _ _, .v (.pointer none) => C (.nilp t) [] (.pure []) ∧ K (.b true)
        | .eql, .v (.pointer none), .v (.pointer none) => C (.nilp t) [] (.pure []) ∧ K (.b true)
        | .neq, .v (.pointer none), .v (.pointer none) => C (.nilp t) [] (.pure []) ∧ K (.b false)
        | .eql, .v .nilIface, .v .nilIface => (match y with | .const _ => C (.nili t) [] (.pure []) ∧ K (.b true) | _ => False)
        | .neq, .v .nilIface, .v .nilIface => (match y with | .const _ => C (.nili t) [] (.pure []) ∧ K (.b false) | _ => False)
        | .eql, .v (.bool c), .v (.bool d) => ∃ r : Bool, C (.eq t) [.v (.bool c), .v (.bool d)] (.pure [.v (.bool r)]) ∧ K (.v (.bool r))
        | .neq, .v (.bool c), .v (.bool d) => ∃ r : Bool, C (.eq t) [.v (.bool c), .v (.bool d)] (.pure [.v (.bool r)]) ∧ K (.v (.bool (F .bnot r)))
        | .eql, .v (.bool c), .b d => ∃ r : Bool, C (.eq t) [.v (.bool c), .v (.bool d)] (.pure [.v (.bool r)]) ∧ K (.v (.bool r))
        | .neq, .v (.bool c), .b d => ∃ r : Bool, C (.eq t) [.v (.bool c), .v (.bool d)] (.pure [.v (.bool r)]) ∧ K (.v (.bool (F .bnot r)))
        | _, _, _ => False)
    | _, _ => False
  | .unOp .not _ x => match ev x with
    | some (.b c) => K (.b (!c))
    | some (.v (.bool c)) => K (.v (.bool (F .bnot c)))
    | _ => False
  | .unOp .neg _ x => match ev x with
    | some (.v (.int k n)) => K (.v (.int k (F .ar .sub k 0 n)))
    | _ => False
  | .convert s d x => match gam d, ev x with
    | some ti, some a => (match ti.kind, a with
      | .int k, .v (.int _ n) => (match gam s with | some _ => K (.v (.int k (F .wrp k n))) | none => False)
      | _, _ => if okArg a = true then ∃ r, C (.conv s d) [plain a] (.pure [r]) ∧ K r else False)
    | _, _ => False
  | .makeFunc (.func g) fs caps => match fs.toList, evs ev caps.toList with
    | [], some cs => if cs.all isEpt = true then K (.clo g cs) else False
    | _, _ => False
  | .fieldAddr t x f => match gam t, ev x with
    | some ti, some p => (match ti.offs[f]? with
      | some (d, _) => (match deref obs p with | some _ => (match movePtr d p with | some q => K q | none => False) | none => False)
      | none => False)
    | _, _ => False
  | .indexAddr t x i => match gam t, ev x, ev i with
    | some ti, some p, some (.v (.int k j)) => (match ti.kind with
      | .sli e esz bytes => (match p with
        | .own q ver => (match lk q obs with
          | some (.row _ sz rows ver' mver) => if ver = ver' then (if sz = esz then ∃ (m : Nat) (cs : List AV), j = (m : Int) ∧ rows[m]? = some cs ∧ K (.rel q ver mver m cs 0) else False) else False
          | _ => False)
        | .sl rows => ∃ (m : Nat) (cs : List AV), j = (m : Int) ∧ rows[m]? = some cs ∧ cs.length = esz ∧ K (.ept cs 0)
        | .osl q ver lo => (match lk q obs with
          | some (.row _ sz rows ver' mver) => if ver = ver' then (if sz = esz then ∃ (m : Nat) (cs : List AV), j = (m : Int) ∧ rows[lo + m]? = some cs ∧ K (.rel q ver mver (lo + m) cs 0) else False) else False
          | _ => False)
        | _ => False)
      | .arr n esz => (match p with
        | .ept cs off => ∃ (m : Nat) (ds : List AV), j = (m : Int) ∧ m < n ∧ cut (off + m * esz) esz cs = some ds ∧ K (.ept ds 0)
        | _ => False)
      | _ => False)
    | _, _, _ => False
  | .index t x i => match gam t, ev x, ev i with
    | some ti, some (.v (.string s)), some (.v (.int k j)) => (match ti.kind with
      | .str => 0 ≤ j ∧ j < F .slen s ∧ K (.v (.int .u8 (F .bt s j)))
      | _ => False)
    | _, _, _ => False
  | .slice t x lo hi none => match gam t, ev x with
    | some ti, some (.v (.string s)) => (match ti.kind with
      | .str => ∃ l h : Nat, (match lo with | none => l = 0 | some o => ev o = some (.v (.int .i64 (l : Int)))) ∧ (match hi with | none => (h : Int) = F .slen s | some o => ev o = some (.v (.int .i64 (h : Int)))) ∧ l ≤ h ∧ (h : Int) ≤ F .slen s ∧ ∃ r, r = s.extract l h ∧ K (.v (.string r))
      | _ => False)
    | some ti, some (.sl rows) => (match ti.kind with
      | .sli e esz bytes => ∃ l h : Nat, (match lo with | none => l = 0 | some o => ev o = some (.v (.int .i64 (l : Int)))) ∧ (match hi with | none => (h : Int) = F .len rows | some o => ev o = some (.v (.int .i64 (h : Int)))) ∧ l ≤ h ∧ (h : Int) ≤ F .len rows ∧ (∀ r ∈ rows, r.length = esz) ∧ ∃ rs, rs = (rows.drop l).take (h - l) ∧ K (.sl rs)
      | _ => False)
    | some ti, some (.own q ver) => (match ti.kind, lo, hi, lk q obs with
      | .sli _ esz _, some o, none, some (.row _ sz rows ver' _) => if ver = ver' then (if sz = esz then ∃ l : Nat, ev o = some (.v (.int .i64 (l : Int))) ∧ (l : Int) ≤ F .len rows ∧ K (.osl q ver l) else False) else False
      | _, _, _, _ => False)
    | _, _ => False
  | .extract x i => match ev x with
    | some (.tup vs) => (match vs[i]? with | some (.tup _) => False | some a => K a | none => False)
    | _ => False
  | .entry x => match ev x with
    | some (.ptr k 0) => (match lk k obs with
      | some (.it _ _ (some (s, v))) => K (.tup [.v (.string s), v])
      | _ => False)
    | _ => False
  | .field t x i => match ev x with
    | some (.agg cs) => ∃ r, C (.fld t i) [.agg cs] (.pure [r]) ∧ K r
    | _ => False
  | .lookup t m x ck => match gam t, ev m, ev x with
    | some ti, some p, some (.v (.string s)) => (match ti.kind, mapOf obs p with
      | .mp k e, some (ks, vs) => (match gam e with
        | some te => ∃ r, MG te ks vs s ck r ∧ (mget ks vs s = none → (match zAV te with | .dead => False | _ => True)) ∧ K r
        | none => False)
      | _, _ => False)
    | _, _, _ => False
  | .build t parts => match gam t with
    | some ti => (match ti.kind with
      | .struct => (match partCells ev ti.offs ti.zero parts.toList with | some cs => K (.agg cs) | none => False)
      | .arr _ _ => (match parts.toList with | [] => K (.agg ti.zero) | _ => False)
      | _ => False)
    | none => False
  | .buildSlice t n parts => match gam t with
    | some ti => (match ti.kind with
      | .sli e esz bytes => (match partRows ev esz 0 parts.toList with | some rows => if rows.length = n then (if n * esz ≤ 16777216 then K (.sl rows) else False) else False | none => False)
      | _ => False)
    | none => False
  | .call { callee := .value f, args, argTypes } => match ev f, evs ev args.toList with
    | some (.clo g caps), some as => if as.all okArg = true then ∃ r, C (.fn g) (as.map plain ++ caps) r ∧ K (resAV r) else False
    | _, _ => False
  | .call { callee := .builtin .len, args, argTypes } => match args.toList with
    | [x] => (match ev x with
      | some (.v (.string s)) => (match argTypes.toList with | [t] => (match gam t with | some ti => (match ti.kind with | .str => K (.v (.int .i64 (F .slen s))) | _ => False) | none => False) | _ => False)
      | some (.osl q ver lo) => (match lk q obs with
        | some (.row _ sz rows ver' _) => (match argTypes.toList with | [t] => (match gam t with | some ti => (match ti.kind with | .sli _ _ _ => if ver = ver' then K (.v (.int .i64 (F .len (rows.drop lo)))) else False | _ => False) | none => False) | _ => False)
        | _ => False)
      | some a => (match rowsOf obs a with
        | some rows => (match argTypes.toList with | [t] => (match gam t with | some ti => (match ti.kind with | .sli _ _ _ => K (.v (.int .i64 (F .len rows))) | _ => False) | none => False) | _ => False)
        | none => False)
      | none => False)
    | _ => False
  | .call { callee := .builtin .max, args, argTypes } => match evs ev args.toList with
    | some [.v (.int k a), .v (.int k' b)] => K (.v (.int k (F .mx a b)))
    | _ => False
  | .call { callee := .builtin .min, args, argTypes } => match evs ev args.toList with
    | some [.v (.int k a), .v (.int k' b)] => K (.v (.int k (F .mn a b)))
    | _ => False
  | _ => False
end
end Go.Proofs.YthepmpfkkhckpaaGreatDoor.Am
