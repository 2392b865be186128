import Derived.Test.YthepmpfkkhckpaaGreatDoorAm2
import Derived.Maps.RangeRun
set_option linter.unusedVariables false
set_option linter.unusedSimpArgs false
namespace Go.Proofs.YthepmpfkkhckpaaGreatDoor.Am
open Go Go.RowKit

/-! ### 3. What the machine's states say of real ones -/
/-- An address in a row: the place holds at whatever version; what stands there, at that version at which it was asked. -/
def RelP (β : Nat → Value) (obs : Obs) (k ver mver i : Nat) (cs : List AV) (off : Nat) (y : Value) : Prop :=
  ∀ e sz rows m, lk k obs = some (.row e sz rows ver m) → mver ≤ m ∧ i < rows.length ∧ (∃ g n c, β k = .slice (some ⟨g, 0, none⟩) n c ∧ y = .pointer (some ((⟨g, 0, none⟩ : Addr).add (i * sz + off)))) ∧ (m = mver → rows[i]? = some cs)
/-- The rest of a row, from a place on. -/
def OslP (β : Nat → Value) (k lo sz n : Nat) (y : Value) : Prop :=
  lo ≤ n ∧ ∃ ad c', y = .slice ad (n - lo) c' ∧ (lo < n → ∃ g n' c, β k = .slice (some ⟨g, 0, none⟩) n' c ∧ ad = some ((⟨g, 0, none⟩ : Addr).add (lo * sz)))
/-- Rows of bytes: the model marks the cell behind the end of a row that was made out of a string. -/
def byteT (e : Nat) : Bool := match gam e with | some ti => (match ti.kind with | .int .u8 => true | _ => false) | none => false
def frB (e : Nat) (fr : Nat × Nat) (n : Nat) : Prop := fr = (0, 0) ∨ (byteT e = true ∧ n ≤ fr.1)
/-- A row of the call's own. -/
def OwnR (w : World) (B e sz : Nat) (v : Value) (n : Nat) (xs : List Value) : Prop :=
  xs.length = n * sz ∧ ((v = .slice none 0 0 ∧ n = 0) ∨ ∃ g cap cur fr, v = .slice (some ⟨g, 0, none⟩) n cap ∧ B ≤ g ∧ w.heap[g]? = some (.cells cur e fr) ∧ frB e fr cur.size ∧ n ≤ cap ∧ cap ≤ maxLen ∧ cur.size = cap * sz ∧ cur.toList.take (n * sz) = xs)
theorem OwnR.nil (w : World) (B e sz : Nat) : OwnR w B e sz (.slice none 0 0) 0 [] := ⟨by simp, .inl ⟨rfl, rfl⟩⟩
theorem OwnR.of {w : World} {B e sz n : Nat} {v : Value} {xs : List Value} (h : w.ownsRow B e sz v n xs) : OwnR w B e sz v n xs := by
  refine ⟨h.1, ?_⟩
  rcases h.2 with h | ⟨g, cap, cur, h1, h2, h3, r⟩
  · exact .inl h
  · exact .inr ⟨g, cap, cur, (0, 0), h1, h2, h3, .inl rfl, r⟩
theorem OwnR.owns {w : World} {B e sz n : Nat} {v : Value} {xs : List Value} (hb : byteT e = false) (h : OwnR w B e sz v n xs) : w.ownsRow B e sz v n xs := by
  refine ⟨h.1, ?_⟩
  rcases h.2 with h | ⟨g, cap, cur, fr, h1, h2, h3, h4, r⟩
  · exact .inl h
  · rcases h4 with rfl | ⟨h4, _⟩
    · exact .inr ⟨g, cap, cur, h1, h2, h3, r⟩
    · rw [hb] at h4; cases h4
theorem OwnR.lt {w : World} {B e sz n : Nat} {v : Value} {xs : List Value} (h : OwnR w B e sz v n xs) : ∀ k, v.ownBlock = some k → B ≤ k ∧ k < w.heap.size := by
  intro k hk
  rcases h.2 with ⟨rfl, _⟩ | ⟨g, cap, cur, fr, rfl, hb, hg, _⟩
  · simp [Value.ownBlock] at hk
  · simp [Value.ownBlock] at hk
    subst hk
    exact ⟨hb, (Array.getElem?_eq_some_iff.1 hg).1⟩
theorem OwnR.cells {w : World} {B e sz n : Nat} {v : Value} {xs : List Value} (h : OwnR w B e sz v n xs) {g : Nat} (hg : v.ownBlock = some g) : ∀ j u, xs[j]? = some u → w.cell? ((⟨g, 0, none⟩ : Addr).add j) = some u := by
  intro j u hu
  rcases h.2 with ⟨rfl, _⟩ | ⟨g', cap, cur, fr, rfl, _, hgg, _, _, _, _, htake⟩
  · simp [Value.ownBlock] at hg
  · simp [Value.ownBlock] at hg
    subst hg
    rw [add_mk, cell_of_row w g' j cur e fr hgg]
    rw [← htake, List.getElem?_take] at hu
    split at hu
    · simpa using hu
    · cases hu
def SRep0 (w : World) (S : Nat → Prop) (β : Nat → Value) (obs : Obs) : AV → Value → Prop
  | .ptr k off, y => ∃ g, β k = .pointer (some ⟨g, 0, none⟩) ∧ y = .pointer (some ((⟨g, 0, none⟩ : Addr).add off))
  | .own k ver, y => ∀ e sz rows m, lk k obs = some (.row e sz rows ver m) → y = β k
  | .rel k ver mver i cs off, y => RelP β obs k ver mver i cs off y
  | .osl k ver lo, y => ∀ e sz rows m, lk k obs = some (.row e sz rows ver m) → OslP β k lo sz rows.length y
  | .mo k, y => ∀ ks vs, lk k obs = some (.mp ks vs) → y = β k
  | .dead, _ => True
  | x, y => Rep w S x y
def SRep (w : World) (S : Nat → Prop) (β : Nat → Value) (obs : Obs) : AV → Value → Prop
  | .tup vs, y => ∃ ys : List Value, y = .tuple ys.toArray ∧ vs.length = ys.length ∧ ∀ (i : Nat) (u : AV) (x : Value), vs[i]? = some u → ys[i]? = some x → SRep0 w S β obs u x
  | x, y => SRep0 w S β obs x y

def ORep (w : World) (S : Nat → Prop) (B : Nat) (x : Value) : Ob → Prop
  | .box ty cells fz => ∃ g xs, x = .pointer (some ⟨g, 0, none⟩) ∧ B ≤ g ∧ ¬ S g ∧ w.heap[g]? = some (.cells xs.toArray ty (0, 0)) ∧ RepL w S cells xs
  | .row e sz rows ver mver => ∃ xs, OwnR w B e sz x rows.length xs ∧ RepL w S rows.flatten xs ∧ (∀ r ∈ rows, r.length = sz) ∧ (∀ g, x.ownBlock = some g → ¬ S g)
  | .mp ks vs => ∃ r es clock, x = .map (some r) ∧ B ≤ r ∧ ¬ S r ∧ w.heap[r]? = some (.map es clock) ∧ es.toList.map (·.key) = ks.map Value.string ∧ vs.length = ks.length ∧ (es.toList.map (·.born)).Nodup ∧ (∀ x ∈ es.toList, x.born < clock) ∧ ∀ (i : Nat) (u : AV) (e : MapEntry), vs[i]? = some u → es.toList[i]? = some e → Rep w S u e.val
  | .it ks vs cur => ∃ r bm since seen c0 es clock, x = .pointer (some ⟨r, 0, none⟩) ∧ B ≤ r ∧ ¬ S r ∧ w.heap[r]? = some (.mapIter (some bm) since seen c0) ∧ S bm ∧ w.heap[bm]? = some (.map es clock) ∧ (es.toList.map (·.born)).Nodup ∧ (∀ x ∈ es.toList, x.born < since) ∧ since ≤ c0 ∧ since ≤ clock ∧
    (leftOf es seen).toList.map (·.key) = ks.map Value.string ∧ vs.length = ks.length ∧ (∀ (i : Nat) (u : AV) (e : MapEntry), vs[i]? = some u → (leftOf es seen).toList[i]? = some e → Rep w S u e.val) ∧
    ∀ s v, cur = some (s, v) → ∃ (e : MapEntry) (seen' : Array Nat), e ∈ es.toList ∧ seen = seen'.push e.born ∧ c0 = clock ∧ e.key = .string s ∧ Rep w S v e.val

/-- What the program's variables are known to hold. -/
structure gdOK (w : World) (S : Nat → Prop) : Prop where
  cells : ∀ g cs, lk g gndA = some cs → S g ∧ ∃ xs ty fr, w.heap[g]? = some (.cells xs ty fr) ∧ RepL w S cs xs.toList
  ints : ∀ g, memN g gndI = true → S g ∧ ∃ m ty fr, w.heap[g]? = some (.cells #[.int .i64 m] ty fr)
theorem gdOK.mono {w w' : World} {S S' : Nat → Prop} (h : gdOK w S) (hw : SameOn S w w') (hS : ∀ g, S g → S' g) : gdOK w' S' where
  cells := fun g cs hg => by
    obtain ⟨h1, xs, ty, fr, h2, h3⟩ := h.cells g cs hg
    exact ⟨hS g h1, xs, ty, fr, (hw g h1).trans h2, h3.mono hw hS⟩
  ints := fun g hg => by
    obtain ⟨h1, m, ty, fr, h2⟩ := h.ints g hg
    exact ⟨hS g h1, m, ty, fr, (hw g h1).trans h2⟩
/-- The world has grown; what stays as it is: some more. -/
structure Gr (w : World) (S : Nat → Prop) (w' : World) (S' : Nat → Prop) : Prop where
  below : Below w.heap.size w w'
  sub : ∀ g, S g → S' g
  new : ∀ g, S' g → S g ∨ w.heap.size ≤ g
  lt : ∀ g, S' g → g < w'.heap.size
theorem Gr.same {w w' : World} {S S' : Nat → Prop} (h : Gr w S w' S') (hS : ∀ g, S g → g < w.heap.size) : SameOn S w w' := fun g hg => h.below.block g (hS g hg)
theorem Gr.refl {w : World} {S : Nat → Prop} (hS : ∀ g, S g → g < w.heap.size) : Gr w S w S := ⟨Below.refl _ _, fun _ h => h, fun _ h => .inl h, hS⟩
theorem Gr.trans {w w1 w2 : World} {S S1 S2 : Nat → Prop} (h : Gr w S w1 S1) (k : Gr w1 S1 w2 S2) : Gr w S w2 S2 :=
  ⟨h.below.trans (k.below.mono h.below.size), fun g hg => k.sub g (h.sub g hg), fun g hg => by
    rcases k.new g hg with h1 | h1
    · exact h.new g h1
    · exact .inr (Nat.le_trans h.below.size h1), k.lt⟩

/-- The same, but for some blocks that were there and may have turned. -/
structure GrK (T : Nat → Prop) (w : World) (S : Nat → Prop) (w' : World) (S' : Nat → Prop) : Prop where
  os : w'.os = w.os
  tape : w'.tape = w.tape
  output : w'.output = w.output
  size : w.heap.size ≤ w'.heap.size
  block : ∀ k, k < w.heap.size → ¬ T k → w'.heap[k]? = w.heap[k]?
  sub : ∀ g, S g → S' g
  new : ∀ g, S' g → S g ∨ w.heap.size ≤ g ∨ T g
  lt : ∀ g, S' g → g < w'.heap.size
  gd : gdOK w S ∧ gdOK w' S'
theorem GrK.refl {T : Nat → Prop} {w : World} {S : Nat → Prop} (hS : ∀ g, S g → g < w.heap.size) (hgd : gdOK w S) : GrK T w S w S := ⟨rfl, rfl, rfl, Nat.le_refl _, fun _ _ _ => rfl, fun _ h => h, fun _ h => .inl h, hS, hgd, hgd⟩
theorem GrK.trans {T T' : Nat → Prop} {w w1 w2 : World} {S S1 S2 : Nat → Prop} (h : GrK T w S w1 S1) (k : GrK T' w1 S1 w2 S2) (hT : ∀ g, T' g → T g ∨ w.heap.size ≤ g) : GrK T w S w2 S2 :=
  ⟨k.os.trans h.os, k.tape.trans h.tape, k.output.trans h.output, Nat.le_trans h.size k.size, fun g hg hn => (k.block g (Nat.lt_of_lt_of_le hg h.size) (fun ht => by rcases hT g ht with h1 | h1; exact hn h1; omega)).trans (h.block g hg hn),
    fun g hg => k.sub g (h.sub g hg), fun g hg => by
      rcases k.new g hg with h1 | h1 | h1
      · exact h.new g h1
      · exact .inr (.inl (Nat.le_trans h.size h1))
      · rcases hT g h1 with h2 | h2
        · exact .inr (.inr h2)
        · exact .inr (.inl h2), k.lt, h.gd.1, k.gd.2⟩
theorem Gr.k {w w' : World} {S S' : Nat → Prop} (h : Gr w S w' S') (hS : ∀ g, S g → g < w.heap.size) (hgd : gdOK w S) (T : Nat → Prop) : GrK T w S w' S' := ⟨h.below.os, h.below.tape, h.below.output, h.below.size, fun k hk _ => h.below.block k hk, h.sub, fun g hg => (h.new g hg).elim .inl (fun h => .inr (.inl h)), h.lt, hgd, hgd.mono (h.same hS) h.sub⟩
theorem GrK.gr {w w' : World} {S S' : Nat → Prop} {T : Nat → Prop} (h : GrK T w S w' S') (hT : ∀ g, ¬ T g) : Gr w S w' S' := ⟨⟨h.os, h.tape, h.output, h.size, fun k hk => h.block k hk (hT k)⟩, h.sub, fun g hg => (h.new g hg).elim .inl (fun h => h.elim .inr (fun h => absurd h (hT g))), h.lt⟩
theorem GrK.step {T : Nat → Prop} {w w1 w2 : World} {S S1 S2 : Nat → Prop} (h : GrK T w S w1 S1) (k : Gr w1 S1 w2 S2) : GrK T w S w2 S2 := h.trans (k.k h.lt h.gd.2 fun _ => False) fun _ h => h.elim
def blkOf : Value → Option Nat
  | .pointer (some a) => some a.block
  | .map (some r) => some r
  | v => v.ownBlock
def obsBlk (obs : Obs) (β : Nat → Value) (g : Nat) : Prop := ∃ k o, lk k obs = some o ∧ blkOf (β k) = some g

structure TOK (P : Program) (t : Nat) (ti : TI) : Prop where
  size : ∀ w, (Go.sizeOf t).run P w = .ok ti.size w
  agg : ∀ w, (isAgg t).run P w = .ok ti.agg w
  one : ti.agg = false → ti.size = 1
  zone : ti.agg = false → ∀ w z, (zeroValue t).run P w = .ok z w → z.cells = #[z]
  und : ∃ d, P.underlying t = some d
  offs : ∀ f d s, ti.offs[f]? = some (d, s) → ∀ a w, (Instr.fieldAt t (.pointer (some a)) f).run P w = .ok (.pointer (some (a.add d))) w
  zero : ∀ w, ∃ z, (zeroValue t).run P w = .ok z w ∧ z.cells.size = ti.size ∧ ∀ w' S, RepL w' S ti.zero z.cells.toList
  kind : match ti.kind with
    | .other => True
    | .struct => ∃ fields, P.underlying t = some (.struct fields) ∧ ∀ w, (fields.mapM fun f => do pure (f.offset, ← Go.sizeOf f.type) : Sem (Array (Nat × Nat))).run P w = .ok ti.offs.toArray w
    | .arr n esz => ∃ e, P.underlying t = some (.array n e) ∧ ∀ w, (Go.sizeOf e).run P w = .ok esz w
    | .sli e esz bytes => P.underlying t = some (.slice e) ∧ (0 < esz ∧ 0 < bytes) ∧ ∃ i z, P.info? e = some i ∧ i.zero = some z ∧ i.size = esz ∧ i.bytes = bytes ∧ z.cells.size = esz
    | .mp k e => P.underlying t = some (.map k e) ∧ P.underlying k = some .string
    | .int k => P.underlying t = some (.int k)
    | .str => P.underlying t = some .string
def TOKs (P : Program) : Prop := ∀ t ti, gam t = some ti → TOK P t ti

def tupV : List Value → Value
  | [x] => x
  | xs => .tuple xs.toArray
def ResR (w w' : World) (S S' : Nat → Prop) : Res → Value → Prop
  | .pure xs, y => ∃ ys, y = tupV ys ∧ Reps w' S' xs ys
  | .own e sz rows rest, y => ∃ z ys zs, y = tupV (z :: ys) ∧ OwnR w' w.heap.size e sz z rows.length zs ∧ RepL w' S' rows.flatten zs ∧ (∀ r ∈ rows, r.length = sz) ∧ (∀ g, z.ownBlock = some g → ¬ S' g) ∧ Reps w' S' rest ys ∧ rows.length ≤ 9223372036854775807
  | .bx ty cells rest, y => ∃ g ys xs, y = tupV (.pointer (some ⟨g, 0, none⟩) :: ys) ∧ w.heap.size ≤ g ∧ ¬ S' g ∧ w'.heap[g]? = some (.cells xs.toArray ty (0, 0)) ∧ RepL w' S' cells xs ∧ Reps w' S' rest ys
def ACalls (P : Program) (f : Nat) (args : List AV) (res : Res) : Prop :=
  ∀ (w : World) (S : Nat → Prop) (xs : List Value), (∀ g, S g → g < w.heap.size) → gdOK w S → Reps w S args xs →
    Calls P f xs.toArray w fun e w' => ∃ y S', e = .returned y ∧ Gr w S w' S' ∧ ResR w w' S S' res y
def ResM (T : Nat → Prop) (pars' : Obs) (β : Nat → Value) (w w' : World) (S S' : Nat → Prop) : Res → Value → Prop
  | .pure xs, y => ∃ ys, y = tupV ys ∧ Reps w' S' xs ys
  | .own e sz rows rest, y => ∃ z ys zs, y = tupV (z :: ys) ∧ OwnR w' 0 e sz z rows.length zs ∧ RepL w' S' rows.flatten zs ∧ (∀ r ∈ rows, r.length = sz) ∧ (∀ g, z.ownBlock = some g → ¬ S' g ∧ (T g ∨ w.heap.size ≤ g) ∧ ¬ obsBlk pars' β g) ∧ Reps w' S' rest ys
  | .bx _ _ _, _ => False
/-- A call that writes to objects that it was handed. -/
def MCalls (P : Program) (f : Nat) (args : List AV) (pars pars' : Obs) (res : Res) : Prop :=
  ∀ (w : World) (S : Nat → Prop) (β : Nat → Value) (xs : List Value), (∀ g, S g → g < w.heap.size) → gdOK w S → (∀ k o, lk k pars = some o → ORep w S 0 (β k) o) →
    (∀ k k' o o', lk k pars = some o → lk k' pars = some o' → k ≠ k' → ∀ g, blkOf (β k) = some g → blkOf (β k') = some g → False) →
    (args.length = xs.length ∧ ∀ (i : Nat) (u : AV) (x : Value), args[i]? = some u → xs[i]? = some x → SRep0 w S β pars u x) →
    Calls P f xs.toArray w fun e w' => ∃ y S', e = .returned y ∧ GrK (obsBlk pars β) w S w' S' ∧ (∀ k o, lk k pars' = some o → ORep w' S' 0 (β k) o) ∧ ResM (obsBlk pars β) pars' β w w' S S' res y
def CSem (P : Program) : Key → List AV → Res → Prop
  | .fn f, args, r => (∀ as w, (callFunc f as).run P w = .ok (.enter f as) w) ∧ ACalls P f args r
  | .eq t, args, r => ∃ A B q, args = [A, B] ∧ r = .pure [.v (.bool q)] ∧ ∀ w S x y, Rep w S A x → Rep w S B y → ∃ n,
      (∀ ox oy, (do eqGuard .eql t ox oy x y; binOp .eql t x y : Sem Value).run P w = .ok (.bool q) (w.drewN n)) ∧ (∀ ox oy, (do eqGuard .neq t ox oy x y; binOp .neq t x y : Sem Value).run P w = .ok (.bool (!q)) (w.drewN n))
  | .conv s d, args, r => ∃ A, args = [A] ∧ ∀ w S x, (∀ g, S g → g < w.heap.size) → Rep w S A x → ∃ y w' S', (convert s d x).run P w = .ok y w' ∧ Gr w S w' S' ∧ ResR w w' S S' r y
  | .bi _ _, _, _ => False
  | .wr f pars pars', args, r => (∀ as w, (callFunc f as).run P w = .ok (.enter f as) w) ∧ MCalls P f args pars pars' r
  | .ben E ops, _, _ => benign E ops = true
  | .nilp t, _, _ => P.underlying t = some (.pointer (P.pointee t))
  | .nili t, _, _ => ∃ ms, P.underlying t = some (.interface ms)
  | .fld t i, args, r => ∃ A q, args = [A] ∧ r = .pure [q] ∧ ∀ w S x, Rep w S A x → ∃ y, (Instr.field t x i).run P w = .ok y w ∧ Rep w S q y
theorem ben_ok {P : Program} {E : En} {ops : List Oper} (h : benign E ops = true) : CSem P (.ben E ops) [] (.pure []) := h

/-- What is known of a place's cells. -/
theorem deref_ok {w : World} {S : Nat → Prop} {β : Nat → Value} {obs : Obs} {B : Nat} (ho : ∀ k o, lk k obs = some o → ORep w S B (β k) o)
    {p : AV} {y : Value} {cs : List AV} {off : Nat} (h : deref obs p = some (cs, off)) (hp : SRep w S β obs p y) :
    ∃ a : Addr, y = .pointer (some (a.add off)) ∧ ∀ (i : Nat) (u : AV), cs[i]? = some u → ∃ x, w.cell? (a.add i) = some x ∧ RepC w S u x := by
  cases p <;> simp only [deref, reduceCtorEq] at h
  case ept ds d =>
    injection h with h
    injection h with h1 h2
    subst h1 h2
    have hp' : Rep w S (.ept ds d) y := hp
    cases hp' with
    | c h => cases h
    | ept h => exact ⟨_, rfl, h.2⟩
  case ptr k d =>
    split at h
    · rename_i ty ds fz hk
      injection h with h
      injection h with h1 h2
      subst h1 h2
      obtain ⟨g, hg, hy⟩ : ∃ g, β k = .pointer (some ⟨g, 0, none⟩) ∧ y = .pointer (some ((⟨g, 0, none⟩ : Addr).add d)) := hp
      obtain ⟨g', xs, he, hB, hS, hh, hr⟩ := ho _ _ hk
      rw [hg] at he
      injection he with he
      injection he with he
      injection he with he
      subst he
      refine ⟨_, hy, fun i u hu => ?_⟩
      obtain ⟨x, hx, hrx⟩ := hr.get hu
      refine ⟨x, ?_, hrx⟩
      rw [add_mk, cell_of_row w g i _ _ _ hh]
      simpa using hx
    · simp at h
  case rel k ver mver j ds d =>
    split at h
    · rename_i e sz rows ver' mver' hk
      split at h
      · rename_i e1
        subst e1
        split at h
        · rename_i e2
          subst e2
          injection h with h
          injection h with h1 h2
          subst h1 h2
          obtain ⟨_, _, ⟨g, n, c, hβ, hy⟩, hrow⟩ := (show RelP β obs k ver mver j ds d y from hp) _ _ _ _ hk
          have hrow := hrow rfl
          obtain ⟨xs, hown, hrep, hlen, hS⟩ := ho _ _ hk
          refine ⟨(⟨g, 0, none⟩ : Addr).add (j * sz), by rw [add_add]; exact hy, fun i u hu => ?_⟩
          rw [add_add, add_mk]
          obtain ⟨hl, hv⟩ := hown
          have hjlt : j < rows.length := (List.getElem?_eq_some_iff.1 hrow).1
          have hil : i < ds.length := (List.getElem?_eq_some_iff.1 hu).1
          have hds : ds.length = sz := hlen ds (List.mem_of_getElem? hrow)
          have hflat : ∀ (rows : List (List AV)) (j : Nat), (∀ r ∈ rows, r.length = sz) → rows[j]? = some ds → rows.flatten[j * sz + i]? = some u := by
            intro rows
            induction rows with
            | nil => intro j _ h; simp at h
            | cons r rs ih =>
              intro j hl hj
              have hr0 : r.length = sz := hl r List.mem_cons_self
              cases j with
              | zero =>
                simp at hj
                subst hj
                rw [List.flatten_cons, List.getElem?_append_left (by omega)]
                simpa using hu
              | succ j =>
                rw [List.flatten_cons, List.getElem?_append_right (by rw [hr0, Nat.succ_mul]; omega)]
                have := ih j (fun r hr => hl r (List.mem_cons_of_mem _ hr)) (by simpa using hj)
                rw [hr0, Nat.succ_mul, show j * sz + sz + i - sz = j * sz + i from by omega]
                exact this
          obtain ⟨x, hx, hrx⟩ := hrep.get (hflat rows j hlen hrow)
          rcases hv with ⟨hv, hn⟩ | ⟨g', cap, cur, fr, hv, hB, hh, hfr, hn, hm, hcs, htake⟩
          · rw [hv] at hβ; simp at hβ
          · rw [hv] at hβ
            injection hβ with h1 h2 h3
            injection h1 with h1
            injection h1 with h1
            subst h1
            refine ⟨x, ?_, hrx⟩
            rw [cell_of_row w g' _ _ _ _ hh]
            rw [← htake, List.getElem?_take] at hx
            split at hx
            · simpa using hx
            · simp at hx
        · simp at h
      · simp at h
    · simp at h

theorem cut_ok {w : World} {cs : List AV} {S : Nat → Prop} {f : Nat → Addr} (hf : ∀ (i : Nat) (u : AV), cs[i]? = some u → ∃ x, w.cell? (f i) = some x ∧ RepC w S u x) :
    ∀ (off n : Nat) (ds : List AV), cut off n cs = some ds → ∃ xs : List Value, ds.length = n ∧ RepL w S ds xs ∧ ∀ (j : Nat) (x : Value), xs[j]? = some x → w.cell? (f (off + j)) = some x := by
  have key : ∀ (off n : Nat) (cs ds : List AV), cut off n cs = some ds → ds = (cs.drop off).take n ∧ ds.length = n := by
    intro off
    induction off with
    | zero =>
      intro n
      induction n with
      | zero => intro cs ds h; simp [cut] at h; subst h; simp
      | succ n ih =>
        intro cs ds h
        cases cs with
        | nil => simp [cut] at h
        | cons c cs =>
          simp only [cut] at h
          split at h
          · rename_i r hr
            injection h with h
            subst h
            obtain ⟨h1, h2⟩ := ih cs r hr
            exact ⟨by simpa using h1, by simp [h2]⟩
          · simp at h
    | succ off ih =>
      intro n cs ds h
      cases cs with
      | nil => cases n <;> simp [cut] at h
      | cons c cs =>
        simp only [cut] at h
        obtain ⟨h1, h2⟩ := ih n cs ds h
        exact ⟨by simpa using h1, h2⟩
  intro off n ds h
  obtain ⟨h1, h2⟩ := key off n cs ds h
  -- choose the values
  have hex : ∀ i : Nat, ∃ x : Value, ∀ u : AV, ds[i]? = some u → w.cell? (f (off + i)) = some x ∧ RepC w S u x := by
    intro i
    cases hu : ds[i]? with
    | none => exact ⟨.bool true, fun u h => by simp at h⟩
    | some u =>
      have : cs[off + i]? = some u := by
        rw [h1, List.getElem?_take] at hu
        split at hu
        · simpa using hu
        · simp at hu
      obtain ⟨x, hx, hr⟩ := hf _ _ this
      exact ⟨x, fun u' h => by injection h with h; subst h; exact ⟨hx, hr⟩⟩
  obtain ⟨g, hg⟩ : ∃ g : Nat → Value, ∀ (i : Nat) (u : AV), ds[i]? = some u → w.cell? (f (off + i)) = some (g i) ∧ RepC w S u (g i) := ⟨fun i => (hex i).choose, fun i u hu => (hex i).choose_spec u hu⟩
  refine ⟨(List.range n).map g, h2, ⟨by simp [h2], fun i u x hu hx => ?_⟩, fun j x hx => ?_⟩
  · have hi : i < n := by rw [← h2]; exact (List.getElem?_eq_some_iff.1 hu).1
    simp [List.getElem?_map, List.getElem?_range hi] at hx
    subst hx
    exact (hg i u hu).2
  · have hj : j < n := by have := (List.getElem?_eq_some_iff.1 hx).1; simpa using this
    simp [List.getElem?_map, List.getElem?_range hj] at hx
    subst hx
    have hd : ds[j]? = some (ds[j]'(by rw [h2]; exact hj)) := List.getElem?_eq_getElem _
    exact (hg j _ hd).1
end Go.Proofs.YthepmpfkkhckpaaGreatDoor.Am
