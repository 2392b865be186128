import Derived.WalkKit
import Derived.Below
import Derived.Orders
import Derived.Laws.AppendOwn
import Derived.Laws.AppendOwnNone
import Derived.Laws.Rows
import Derived.Laws.Cells
import Derived.KernelRfl
import Derived.Deep.Draws
import Derived.Maps.RangeRun
set_option linter.unusedSimpArgs false
set_option linter.unusedVariables false
namespace Go.Proofs.Ytdnaadcbimbfmaa.Am
open Go Go.RowKit
inductive AV where
 | v (x : Value)
 | b (c : Bool)
 | agg (cs : List AV)
 | ptr (k off : Nat)
 | own (k ver : Nat)
 | sl (rows : List (List AV))
 | ept (cs : List AV) (off : Nat)
 | rel (k ver mver i : Nat) (cs : List AV) (off : Nat)
 | osl (k ver lo : Nat)
 | clo (g : Nat) (caps : List AV)
 | tup (vs : List AV)
 | lit (rows : List (List AV))
 | ftp (vs : List AV)
 | mo (k : Nat)
 | mp (ks : List ByteArray) (vs : List AV)
 | dead
 deriving Inhabited
inductive RepC (w : World) (S : Nat→Prop) : AV→Value→Prop
 | v (x : Value) (h1 : x.oneCell' = true) : RepC w S (.v x) x
 | b (c : Bool) : RepC w S (.b c) (.bool c)
 | nil (a : Option Addr) (c : Nat) (hn : a = none→c = 0) : RepC w S (.sl []) (.slice a 0 c)
 | sl (rows : List (List AV)) (a : Addr) (c sz : Nat) (f : Nat→Nat→Value) (ha : S a.block) (hlen : ∀ r ∈ rows,r.length = sz) (hc : rows.length ≤ c) (hm : rows.length ≤ 9223372036854775807)
   (h : ∀ i r,rows[i]? = some r→∀ j u,r[j]? = some u→w.cell? (a.add (i * sz + j)) = some (f i j))
   (h' : ∀ i r,rows[i]? = some r→∀ j u,r[j]? = some u→RepC w S u (f i j)) : RepC w S (.sl rows) (.slice (some a) rows.length c)
 | ept (cs : List AV) (off : Nat) (a : Addr) (f : Nat→Value) (ha : S a.block) (h : ∀ i u,cs[i]? = some u→w.cell? (a.add i) = some (f i)) (h' : ∀ i u,cs[i]? = some u→RepC w S u (f i)) : RepC w S (.ept cs off) (.pointer (some (a.add off)))
 | mp (ks : List ByteArray) (vs : List AV) (es : Array MapEntry) (clock r : Nat) (hS : S r) (hh : w.heap[r]? = some (.map es clock)) (hk : es.toList.map (·.key) = ks.map Value.string) (hl : vs.length = ks.length) (hn : (es.toList.map (·.born)).Nodup) (hbd : ∀ x ∈ es.toList,x.born < clock) (h : ∀ (i : Nat) (u : AV) (e : MapEntry),vs[i]? = some u→es.toList[i]? = some e→RepC w S u e.val) : RepC w S (.mp ks vs) (.map (some r))
def SameOn (S : Nat→Prop) (w w' : World) : Prop:=∀ g,S g→w'.heap[g]? = w.heap[g]?
theorem RepC.mono {w w' : World} {S S' : Nat→Prop} (hw : SameOn S w w') (hS : ∀ g,S g→S' g) {x : AV} {y : Value} (h : RepC w S x y) : RepC w' S' x y:=by
 induction h with
 | v x h1=>exact .v x h1
 | b c=>exact .b c
 | nil a c hn=>exact .nil a c hn
 | sl rows a c sz f ha hlen hc hm h h' ih =>
  refine .sl rows a c sz f (hS _ ha) hlen hc hm (fun i r hr j u hu=>?_) ih
  have h0:=h i r hr j u hu
  have hb : (a.add (i * sz + j)).block = a.block:=by unfold Addr.add; split <;> rfl
  rw [World.cell?_of_block (w:=w) (by rw [hb]; exact hw _ ha)]
  exact h0
 | ept cs off a f ha h h' ih =>
  refine .ept cs off a f (hS _ ha) (fun i u hu=>?_) ih
  have h0:=h i u hu
  have hb : (a.add i).block = a.block:=by unfold Addr.add; split <;> rfl
  rw [World.cell?_of_block (w:=w) (by rw [hb]; exact hw _ ha)]
  exact h0
 | mp ks vs es clock r hs hh hk hl hn hbd h ih=>exact .mp ks vs es clock r (hS _ hs) ((hw _ hs).trans hh) hk hl hn hbd ih
theorem RepC.one {w : World} {S : Nat→Prop} {x : AV} {y : Value} (h : RepC w S x y) : y.oneCell' = true:=by
 cases h <;> first | assumption | rfl
def RepL (w : World) (S : Nat→Prop) (cs : List AV) (xs : List Value) : Prop :=
 cs.length = xs.length∧∀ (i : Nat) (u : AV) (x : Value),cs[i]? = some u→xs[i]? = some x→RepC w S u x
theorem RepL.mono {w w' : World} {S S' : Nat→Prop} (hw : SameOn S w w') (hS : ∀ g,S g→S' g) {cs : List AV} {xs : List Value} (h : RepL w S cs xs) : RepL w' S' cs xs :=
 ⟨h.1,fun i u x hu hx=>(h.2 i u x hu hx).mono hw hS⟩
theorem RepL.nil (w : World) (S : Nat→Prop) : RepL w S [] []:=⟨rfl,fun i u x h=>by simp at h⟩
theorem RepL.cons {w : World} {S : Nat→Prop} {c : AV} {x : Value} {cs : List AV} {xs : List Value} (h : RepC w S c x) (hs : RepL w S cs xs) : RepL w S (c :: cs) (x :: xs) :=
 ⟨by simp [hs.1],fun i u y hu hy=>by
  cases i with
  | zero=>simp at hu hy; subst hu hy; exact h
  | succ i=>exact hs.2 i u y (by simpa using hu) (by simpa using hy)⟩
theorem RepL.append {w : World} {S : Nat→Prop} {cs ds : List AV} {xs ys : List Value} (h : RepL w S cs xs) (k : RepL w S ds ys) : RepL w S (cs ++ ds) (xs ++ ys):=by
 refine ⟨by simp [h.1,k.1],fun i u x hu hx=>?_⟩
 by_cases hi : i < cs.length
 ·rw [List.getElem?_append_left hi] at hu
  rw [List.getElem?_append_left (by rw [← h.1]; exact hi)] at hx
  exact h.2 i u x hu hx
 ·rw [List.getElem?_append_right (by omega)] at hu
  rw [List.getElem?_append_right (by rw [← h.1]; omega),← h.1] at hx
  exact k.2 _ u x hu hx
theorem RepL.uncons {w : World} {S : Nat→Prop} {c : AV} {cs : List AV} {xs : List Value} (h : RepL w S (c :: cs) xs) : ∃ y ys,xs = y :: ys∧RepC w S c y∧RepL w S cs ys:=by
 cases xs with
 | nil=>have:=h.1; simp at this
 | cons y ys=>exact ⟨y,ys,rfl,h.2 0 c y rfl rfl,by have:=h.1; simpa using this,fun i u x hu hx=>h.2 (i + 1) u x (by simpa using hu) (by simpa using hx)⟩
theorem RepL.unnil {w : World} {S : Nat→Prop} {xs : List Value} (h : RepL w S [] xs) : xs = []:=by
 have:=h.1; simpa using this.symm
theorem RepL.drop {w : World} {S : Nat→Prop} {cs : List AV} {xs : List Value} (n : Nat) (h : RepL w S cs xs) : RepL w S (cs.drop n) (xs.drop n) :=
 ⟨by simp [h.1],fun i u x hu hx=>h.2 (n + i) u x (by simpa using hu) (by simpa using hx)⟩
theorem RepL.take {w : World} {S : Nat→Prop} {cs : List AV} {xs : List Value} (n : Nat) (h : RepL w S cs xs) : RepL w S (cs.take n) (xs.take n) :=
 ⟨by simp [h.1],fun i u x hu hx=>by
  rw [List.getElem?_take] at hu hx
  split at hu
  ·rename_i hi; rw [if_pos hi] at hx; exact h.2 i u x hu hx
  ·simp at hu⟩
theorem RepL.one {w : World} {S : Nat→Prop} {cs : List AV} {xs : List Value} (h : RepL w S cs xs) : ∀ x ∈ xs,x.oneCell' = true:=by
 intro x hx
 obtain ⟨i,hi,rfl⟩:=List.getElem_of_mem hx
 have hc : i < cs.length:=by rw [h.1]; exact hi
 exact (h.2 i cs[i] xs[i] (List.getElem?_eq_getElem hc) (List.getElem?_eq_getElem hi)).one
theorem RepL.get {w : World} {S : Nat→Prop} {cs : List AV} {xs : List Value} (h : RepL w S cs xs) {i : Nat} {u : AV} (hu : cs[i]? = some u) : ∃ x,xs[i]? = some x∧RepC w S u x:=by
 have hi : i < xs.length:=by rw [← h.1]; exact (List.getElem?_eq_some_iff.1 hu).1
 exact ⟨xs[i],List.getElem?_eq_getElem hi,h.2 i u _ hu (List.getElem?_eq_getElem hi)⟩
theorem add_add (a : Addr) (m n : Nat) : (a.add m).add n = a.add (m + n):=by
 unfold Addr.add
 by_cases h1 : m = 0
 ·subst h1; simp
 ·by_cases h2 : n = 0
  ·subst h2; simp
  ·simp [h1,h2,Nat.add_assoc]
theorem add_block (a : Addr) (n : Nat) : (a.add n).block = a.block:=by unfold Addr.add; split <;> rfl
theorem add_mk (g n : Nat) : (⟨g,0,none⟩ : Addr).add n = ⟨g,n,none⟩:=by unfold Addr.add; split <;> simp_all
def CellsAt (w : World) (S : Nat→Prop) (a : Addr) (cs : List AV) : Prop :=
 S a.block∧∀ (i : Nat) (u : AV),cs[i]? = some u→∃ y,w.cell? (a.add i) = some y∧RepC w S u y
theorem CellsAt.mono {w w' : World} {S S' : Nat→Prop} (hw : SameOn S w w') (hS : ∀ g,S g→S' g) {a : Addr} {cs : List AV} (h : CellsAt w S a cs) : CellsAt w' S' a cs :=
 ⟨hS _ h.1,fun i u hu=>by
  obtain ⟨y,hy,hr⟩:=h.2 i u hu
  exact ⟨y,by rw [World.cell?_of_block (w:=w) (by rw [add_block]; exact hw _ h.1)]; exact hy,hr.mono hw hS⟩⟩
inductive Rep (w : World) (S : Nat→Prop) : AV→Value→Prop
 | c {x : AV} {y : Value} (h : RepC w S x y) : Rep w S x y
 | agg {cs : List AV} {xs : List Value} (h : RepL w S cs xs) : Rep w S (.agg cs) (.agg xs.toArray)
 | ept {cs : List AV} {off : Nat} {a : Addr} (h : CellsAt w S a cs) : Rep w S (.ept cs off) (.pointer (some (a.add off)))
 | clo {g : Nat} {caps : List AV} {xs : List Value} (hl : caps.length = xs.length) (h : ∀ (i : Nat) (u : AV) (x : Value),caps[i]? = some u→xs[i]? = some x→Rep w S u x) : Rep w S (.clo g caps) (.func (.func g) #[] xs.toArray)
 | lit {rows : List (List AV)} {a : Option Addr} (h : RepC w S (.sl rows) (.slice a rows.length rows.length)) : Rep w S (.lit rows) (.slice a rows.length rows.length)
 | ftp {vs : List AV} {xs : List Value} (hl : vs.length = xs.length) (h : ∀ (i : Nat) (u : AV) (x : Value),vs[i]? = some u→xs[i]? = some x→Rep w S u x) : Rep w S (.ftp vs) (.tuple xs.toArray)
 | mp {ks : List ByteArray} {vs : List AV} {es : Array MapEntry} {clock r : Nat} (hS : S r) (hh : w.heap[r]? = some (.map es clock)) (hk : es.toList.map (·.key) = ks.map Value.string) (hl : vs.length = ks.length) (hn : (es.toList.map (·.born)).Nodup) (hbd : ∀ x ∈ es.toList,x.born < clock) (h : ∀ (i : Nat) (u : AV) (e : MapEntry),vs[i]? = some u→es.toList[i]? = some e→Rep w S u e.val) : Rep w S (.mp ks vs) (.map (some r))
theorem Rep.mono {w w' : World} {S S' : Nat→Prop} (hw : SameOn S w w') (hS : ∀ g,S g→S' g) {x : AV} {y : Value} (h : Rep w S x y) : Rep w' S' x y:=by
 induction h with
 | c h=>exact .c (h.mono hw hS)
 | agg h=>exact .agg (h.mono hw hS)
 | ept h=>exact .ept (h.mono hw hS)
 | clo hl h ih=>exact .clo hl ih
 | lit h=>exact .lit (h.mono hw hS)
 | ftp hl h ih=>exact .ftp hl ih
 | mp hs hh hk hl hn hbd h ih=>exact .mp (hS _ hs) ((hw _ hs).trans hh) hk hl hn hbd ih
theorem Rep.ept_inv {w : World} {S : Nat→Prop} {cs : List AV} {off : Nat} {y : Value} (h : Rep w S (.ept cs off) y) : ∃ a : Addr,y = .pointer (some (a.add off))∧CellsAt w S a cs:=by
 cases h with
 | c h =>
  cases h with
  | ept _ _ a f ha h h'=>exact ⟨a,rfl,ha,fun i u hu=>⟨f i,h i u hu,h' i u hu⟩⟩
 | ept h=>exact ⟨_,rfl,h⟩
theorem Rep.mp_inv {w : World} {S : Nat→Prop} {ks : List ByteArray} {vs : List AV} {y : Value} (h : Rep w S (.mp ks vs) y) : ∃ (es : Array MapEntry) (clock r : Nat),y = .map (some r)∧S r∧w.heap[r]? = some (.map es clock)∧es.toList.map (·.key) = ks.map Value.string∧vs.length = ks.length∧(es.toList.map (·.born)).Nodup∧(∀ x ∈ es.toList,x.born < clock)∧∀ (i : Nat) (u : AV) (e : MapEntry),vs[i]? = some u→es.toList[i]? = some e→Rep w S u e.val:=by
 cases h with
 | c h =>
  cases h with
  | mp _ _ es clock r hS hh hk hl hn hbd h=>exact ⟨es,clock,r,rfl,hS,hh,hk,hl,hn,hbd,fun i u e h1 h2=>.c (h i u e h1 h2)⟩
 | mp hS hh hk hl hn hbd h=>exact ⟨_,_,_,rfl,hS,hh,hk,hl,hn,hbd,h⟩
theorem CellsAt.repc {w : World} {S : Nat→Prop} {a : Addr} {cs : List AV} (h : CellsAt w S a cs) (off : Nat) : RepC w S (.ept cs off) (.pointer (some (a.add off))):=by
 refine .ept cs off a (fun i=>match w.cell? (a.add i) with | some y=>y | none=>.bool true) h.1 (fun i u hu=>?_) (fun i u hu=>?_)
 ·obtain ⟨y,hy,_⟩:=h.2 i u hu
  rw [hy]
 ·obtain ⟨y,hy,hr⟩:=h.2 i u hu
  simp only [hy]
  exact hr
def Reps (w : World) (S : Nat→Prop) (cs : List AV) (xs : List Value) : Prop :=
 cs.length = xs.length∧∀ (i : Nat) (u : AV) (x : Value),cs[i]? = some u→xs[i]? = some x→Rep w S u x
theorem Reps.mono {w w' : World} {S S' : Nat→Prop} (hw : SameOn S w w') (hS : ∀ g,S g→S' g) {cs : List AV} {xs : List Value} (h : Reps w S cs xs) : Reps w' S' cs xs :=
 ⟨h.1,fun i u x hu hx=>(h.2 i u x hu hx).mono hw hS⟩
theorem Reps.nil (w : World) (S : Nat→Prop) : Reps w S [] []:=⟨rfl,fun i u x h=>by simp at h⟩
theorem Reps.cons {w : World} {S : Nat→Prop} {c : AV} {x : Value} {cs : List AV} {xs : List Value} (h : Rep w S c x) (hs : Reps w S cs xs) : Reps w S (c :: cs) (x :: xs) :=
 ⟨by simp [hs.1],fun i u y hu hy=>by
  cases i with
  | zero=>simp at hu hy; subst hu hy; exact h
  | succ i=>exact hs.2 i u y (by simpa using hu) (by simpa using hy)⟩
theorem Reps.uncons {w : World} {S : Nat→Prop} {c : AV} {cs : List AV} {xs : List Value} (h : Reps w S (c :: cs) xs) : ∃ y ys,xs = y :: ys∧Rep w S c y∧Reps w S cs ys:=by
 cases xs with
 | nil=>have:=h.1; simp at this
 | cons y ys=>exact ⟨y,ys,rfl,h.2 0 c y rfl rfl,by have:=h.1; simpa using this,fun i u x hu hx=>h.2 (i + 1) u x (by simpa using hu) (by simpa using hx)⟩
theorem Reps.unnil {w : World} {S : Nat→Prop} {xs : List Value} (h : Reps w S [] xs) : xs = []:=by
 have:=h.1; simpa using this.symm
end Go.Proofs.Ytdnaadcbimbfmaa.Am
namespace Go.Proofs.Ytdnaadcbimbfmaa.Am
open Go Go.RowKit
inductive TK where
 | other
 | struct
 | arr (n esz : Nat)
 | sli (e esz bytes : Nat)
 | mp (k e : Nat)
 | int (k : IntKind)
 | str
structure TI where
 size : Nat
 agg : Bool
 zero : List AV
 offs : List (Nat × Nat)
 kind : TK
end Go.Proofs.Ytdnaadcbimbfmaa.Am
namespace Go.Proofs.Ytdnaadcbimbfmaa.Am
open Go Go.RowKit
def ti2 : TI:=⟨1,false,[.v (.int .i64 0)],[],(.int .i64)⟩
def ti3 : TI:=⟨1,false,[.v (.int .i64 0)],[],(.int .i64)⟩
def ti4 : TI:=⟨1,false,[.v (.bool false)],[],.other⟩
def ti5 : TI:=⟨1,false,[.v (.int .u8 0)],[],(.int .u8)⟩
def ti9 : TI:=⟨1,false,[.v (.string ⟨#[]⟩)],[],.str⟩
def ti12 : TI:=⟨1,false,[.v (.int .u64 0)],[],(.int .u64)⟩
def ti21 : TI:=⟨1,false,[.v (.int .i32 0)],[],(.int .i32)⟩
def ti22 : TI:=⟨1,false,[.v (.slice none 0 0)],[],(.sli 37 26 232)⟩
def ti28 : TI:=⟨16,true,[.v (.int .i64 0),.v (.int .i64 0),.v (.int .i64 0),.v (.int .i64 0),.v (.int .i64 0),.v (.int .i64 0),.v (.int .i64 0),.v (.int .i64 0),.v (.int .i64 0),.v (.int .i64 0),.v (.int .i64 0),.v (.int .i64 0),.v (.int .i64 0),.v (.int .i64 0),.v (.int .i64 0),.v (.int .i64 0)],[],(.arr 16 1)⟩
def ti29 : TI:=⟨16,true,[.v (.int .i64 0),.v (.int .i64 0),.v (.int .i64 0),.v (.int .i64 0),.v (.int .i64 0),.v (.int .i64 0),.v (.int .i64 0),.v (.int .i64 0),.v (.int .i64 0),.v (.int .i64 0),.v (.int .i64 0),.v (.int .i64 0),.v (.int .i64 0),.v (.int .i64 0),.v (.int .i64 0),.v (.int .i64 0)],[],(.arr 16 1)⟩
def ti32 : TI:=⟨2,true,[.v (.int .i64 0),.v (.int .i64 0)],[(0,1),(1,1)],.struct⟩
def ti33 : TI:=⟨2,true,[.v (.int .i64 0),.v (.int .i64 0)],[(0,1),(1,1)],.struct⟩
def ti34 : TI:=⟨7,true,[.v (.int .i64 0),.v (.string ⟨#[]⟩),.v (.string ⟨#[]⟩),.v (.string ⟨#[]⟩),.v (.int .i64 0),.v (.int .i64 0),.v (.int .i64 0)],[(0,1),(1,1),(2,1),(3,1),(4,1),(5,2)],.struct⟩
def ti35 : TI:=⟨7,true,[.v (.int .i64 0),.v (.string ⟨#[]⟩),.v (.string ⟨#[]⟩),.v (.string ⟨#[]⟩),.v (.int .i64 0),.v (.int .i64 0),.v (.int .i64 0)],[(0,1),(1,1),(2,1),(3,1),(4,1),(5,2)],.struct⟩
def ti36 : TI:=⟨26,true,[.v (.int .i64 0),.v (.int .i64 0),.v (.int .i64 0),.v (.int .i64 0),.v (.int .i64 0),.v (.int .i64 0),.v (.int .i64 0),.v (.int .i64 0),.v (.int .i64 0),.v (.int .i64 0),.v (.int .i64 0),.v (.int .i64 0),.v (.int .i64 0),.v (.int .i64 0),.v (.int .i64 0),.v (.int .i64 0),.v (.int .i64 0),.v (.int .i64 0),.v (.int .i64 0),.v (.int .i64 0),.v (.string ⟨#[]⟩),.v (.string ⟨#[]⟩),.v (.string ⟨#[]⟩),.v (.int .i64 0),.v (.int .i64 0),.v (.int .i64 0)],[(0,2),(2,1),(3,16),(19,7)],.struct⟩
def ti37 : TI:=⟨26,true,[.v (.int .i64 0),.v (.int .i64 0),.v (.int .i64 0),.v (.int .i64 0),.v (.int .i64 0),.v (.int .i64 0),.v (.int .i64 0),.v (.int .i64 0),.v (.int .i64 0),.v (.int .i64 0),.v (.int .i64 0),.v (.int .i64 0),.v (.int .i64 0),.v (.int .i64 0),.v (.int .i64 0),.v (.int .i64 0),.v (.int .i64 0),.v (.int .i64 0),.v (.int .i64 0),.v (.int .i64 0),.v (.string ⟨#[]⟩),.v (.string ⟨#[]⟩),.v (.string ⟨#[]⟩),.v (.int .i64 0),.v (.int .i64 0),.v (.int .i64 0)],[(0,2),(2,1),(3,16),(19,7)],.struct⟩
def ti38 : TI:=⟨1,false,[.v (.int .i64 0)],[],(.int .i64)⟩
def ti50 : TI:=⟨1,false,[.v (.map none)],[],(.mp 9 74)⟩
def ti51 : TI:=⟨18,true,[.v (.map none),.v (.int .i64 0),.v (.int .i64 0),.v (.int .i64 0),.v (.int .i64 0),.v (.int .i64 0),.v (.int .i64 0),.v (.int .i64 0),.v (.int .i64 0),.v (.int .i64 0),.v (.int .i64 0),.v (.int .i64 0),.v (.int .i64 0),.v (.int .i64 0),.v (.int .i64 0),.v (.int .i64 0),.v (.int .i64 0),.v (.int .i64 0)],[(0,1),(1,16),(17,1)],.struct⟩
def ti52 : TI:=⟨18,true,[.v (.map none),.v (.int .i64 0),.v (.int .i64 0),.v (.int .i64 0),.v (.int .i64 0),.v (.int .i64 0),.v (.int .i64 0),.v (.int .i64 0),.v (.int .i64 0),.v (.int .i64 0),.v (.int .i64 0),.v (.int .i64 0),.v (.int .i64 0),.v (.int .i64 0),.v (.int .i64 0),.v (.int .i64 0),.v (.int .i64 0),.v (.int .i64 0)],[(0,1),(1,16),(17,1)],.struct⟩
def ti53 : TI:=⟨1,false,[.v (.slice none 0 0)],[],(.sli 5 1 1)⟩
def ti54 : TI:=⟨1,false,[.v (.slice none 0 0)],[],(.sli 3 1 8)⟩
def ti56 : TI:=⟨1,false,[.v (.int .u64 0)],[],(.int .u64)⟩
def ti62 : TI:=⟨1,false,[.v (.slice none 0 0)],[],(.sli 65 28 248)⟩
def ti64 : TI:=⟨28,true,[.v (.int .i64 0),.v (.int .i64 0),.v (.int .i64 0),.v (.int .i64 0),.v (.int .i64 0),.v (.int .i64 0),.v (.int .i64 0),.v (.int .i64 0),.v (.int .i64 0),.v (.int .i64 0),.v (.int .i64 0),.v (.int .i64 0),.v (.int .i64 0),.v (.int .i64 0),.v (.int .i64 0),.v (.int .i64 0),.v (.int .i64 0),.v (.int .i64 0),.v (.int .i64 0),.v (.int .i64 0),.v (.int .i64 0),.v (.int .i64 0),.v (.string ⟨#[]⟩),.v (.string ⟨#[]⟩),.v (.string ⟨#[]⟩),.v (.int .i64 0),.v (.int .i64 0),.v (.int .i64 0)],[(0,2),(2,26)],.struct⟩
def ti65 : TI:=⟨28,true,[.v (.int .i64 0),.v (.int .i64 0),.v (.int .i64 0),.v (.int .i64 0),.v (.int .i64 0),.v (.int .i64 0),.v (.int .i64 0),.v (.int .i64 0),.v (.int .i64 0),.v (.int .i64 0),.v (.int .i64 0),.v (.int .i64 0),.v (.int .i64 0),.v (.int .i64 0),.v (.int .i64 0),.v (.int .i64 0),.v (.int .i64 0),.v (.int .i64 0),.v (.int .i64 0),.v (.int .i64 0),.v (.int .i64 0),.v (.int .i64 0),.v (.string ⟨#[]⟩),.v (.string ⟨#[]⟩),.v (.string ⟨#[]⟩),.v (.int .i64 0),.v (.int .i64 0),.v (.int .i64 0)],[(0,2),(2,26)],.struct⟩
def ti67 : TI:=⟨28,true,[.v (.int .i64 0),.v (.int .i64 0),.v (.int .i64 0),.v (.int .i64 0),.v (.int .i64 0),.v (.int .i64 0),.v (.int .i64 0),.v (.int .i64 0),.v (.int .i64 0),.v (.int .i64 0),.v (.int .i64 0),.v (.int .i64 0),.v (.int .i64 0),.v (.int .i64 0),.v (.int .i64 0),.v (.int .i64 0),.v (.int .i64 0),.v (.int .i64 0),.v (.int .i64 0),.v (.int .i64 0),.v (.string ⟨#[]⟩),.v (.string ⟨#[]⟩),.v (.string ⟨#[]⟩),.v (.int .i64 0),.v (.int .i64 0),.v (.int .i64 0),.v (.int .i64 0),.v (.int .i64 0)],[(0,26),(26,2)],.struct⟩
def ti68 : TI:=⟨28,true,[.v (.int .i64 0),.v (.int .i64 0),.v (.int .i64 0),.v (.int .i64 0),.v (.int .i64 0),.v (.int .i64 0),.v (.int .i64 0),.v (.int .i64 0),.v (.int .i64 0),.v (.int .i64 0),.v (.int .i64 0),.v (.int .i64 0),.v (.int .i64 0),.v (.int .i64 0),.v (.int .i64 0),.v (.int .i64 0),.v (.int .i64 0),.v (.int .i64 0),.v (.int .i64 0),.v (.int .i64 0),.v (.string ⟨#[]⟩),.v (.string ⟨#[]⟩),.v (.string ⟨#[]⟩),.v (.int .i64 0),.v (.int .i64 0),.v (.int .i64 0),.v (.int .i64 0),.v (.int .i64 0)],[(0,26),(26,2)],.struct⟩
def ti69 : TI:=⟨1,false,[.v (.slice none 0 0)],[],(.sli 72 30 264)⟩
def ti71 : TI:=⟨30,true,[.v (.int .i64 0),.v (.int .i64 0),.v (.int .i64 0),.v (.int .i64 0),.v (.int .i64 0),.v (.int .i64 0),.v (.int .i64 0),.v (.int .i64 0),.v (.int .i64 0),.v (.int .i64 0),.v (.int .i64 0),.v (.int .i64 0),.v (.int .i64 0),.v (.int .i64 0),.v (.int .i64 0),.v (.int .i64 0),.v (.int .i64 0),.v (.int .i64 0),.v (.int .i64 0),.v (.int .i64 0),.v (.int .i64 0),.v (.int .i64 0),.v (.string ⟨#[]⟩),.v (.string ⟨#[]⟩),.v (.string ⟨#[]⟩),.v (.int .i64 0),.v (.int .i64 0),.v (.int .i64 0),.v (.int .i64 0),.v (.int .i64 0)],[(0,2),(2,28)],.struct⟩
def ti72 : TI:=⟨30,true,[.v (.int .i64 0),.v (.int .i64 0),.v (.int .i64 0),.v (.int .i64 0),.v (.int .i64 0),.v (.int .i64 0),.v (.int .i64 0),.v (.int .i64 0),.v (.int .i64 0),.v (.int .i64 0),.v (.int .i64 0),.v (.int .i64 0),.v (.int .i64 0),.v (.int .i64 0),.v (.int .i64 0),.v (.int .i64 0),.v (.int .i64 0),.v (.int .i64 0),.v (.int .i64 0),.v (.int .i64 0),.v (.int .i64 0),.v (.int .i64 0),.v (.string ⟨#[]⟩),.v (.string ⟨#[]⟩),.v (.string ⟨#[]⟩),.v (.int .i64 0),.v (.int .i64 0),.v (.int .i64 0),.v (.int .i64 0),.v (.int .i64 0)],[(0,2),(2,28)],.struct⟩
def ti74 : TI:=⟨1,false,[.v (.pointer none)],[],.other⟩
def ti76 : TI:=⟨1,true,[.v (.slice none 0 0)],[(0,1)],.struct⟩
def ti77 : TI:=⟨1,true,[.v (.slice none 0 0)],[(0,1)],.struct⟩
def ti78 : TI:=⟨1,true,[.v (.slice none 0 0)],[(0,1)],.struct⟩
def ti79 : TI:=⟨1,true,[.v (.slice none 0 0)],[(0,1)],.struct⟩
def ti80 : TI:=⟨2,true,[.v (.slice none 0 0),.v (.slice none 0 0)],[(0,1),(1,1)],.struct⟩
def ti81 : TI:=⟨2,true,[.v (.slice none 0 0),.v (.slice none 0 0)],[(0,1),(1,1)],.struct⟩
def ti89 : TI:=⟨1,true,[.v (.int .i64 0)],[(0,1)],.struct⟩
def ti90 : TI:=⟨1,true,[.v (.int .i64 0)],[(0,1)],.struct⟩
def ti93 : TI:=⟨2,true,[.v (.slice none 0 0),.v (.int .i64 0)],[(0,1),(1,1)],.struct⟩
def ti94 : TI:=⟨2,true,[.v (.slice none 0 0),.v (.int .i64 0)],[(0,1),(1,1)],.struct⟩
def ti117 : TI:=⟨1,false,[.v (.slice none 0 0)],[],(.sli 68 28 248)⟩
def ti125 : TI:=⟨1,false,[.v (.int .u64 0)],[],(.int .u64)⟩
def ti126 : TI:=⟨4,true,[.v (.bool false),.v (.bool false),.v (.bool false),.v (.bool false)],[(0,1),(1,1),(2,1),(3,1)],.struct⟩
def ti127 : TI:=⟨4,true,[.v (.bool false),.v (.bool false),.v (.bool false),.v (.bool false)],[(0,1),(1,1),(2,1),(3,1)],.struct⟩
def ti158 : TI:=⟨3,true,[.v (.slice none 0 0),.v (.int .i64 0),.v (.int .i64 0)],[(0,1),(1,1),(2,1)],.struct⟩
def ti159 : TI:=⟨3,true,[.v (.slice none 0 0),.v (.int .i64 0),.v (.int .i64 0)],[(0,1),(1,1),(2,1)],.struct⟩
def ti177 : TI:=⟨1,false,[.v (.int .u32 0)],[],(.int .u32)⟩
def ti184 : TI:=⟨11,true,[.v (.int .u64 0),.v (.int .u64 0),.v (.int .u32 0),.v (.int .u8 0),.v (.int .u8 0),.v (.int .u8 0),.v (.int .u8 0),.v .nilFunc,.v (.pointer none),.v (.int .i32 0),.v (.int .i32 0)],[(0,1),(1,1),(2,1),(3,1),(4,1),(5,1),(6,1),(7,1),(8,1),(9,1),(10,1)],.struct⟩
def gam (t : Nat) : Option TI:=if t = 2 then some ti2 else if t = 3 then some ti3 else if t = 4 then some ti4 else if t = 5 then some ti5 else if t = 9 then some ti9 else if t = 12 then some ti12 else if t = 21 then some ti21 else if t = 56 then some ti56 else if t = 125 then some ti125 else if t = 177 then some ti177 else if t = 22 then some ti22 else if t = 28 then some ti28 else if t = 29 then some ti29 else if t = 32 then some ti32 else if t = 33 then some ti33 else if t = 34 then some ti34 else if t = 35 then some ti35 else if t = 36 then some ti36 else if t = 37 then some ti37 else if t = 38 then some ti38 else if t = 50 then some ti50 else if t = 51 then some ti51 else if t = 52 then some ti52 else if t = 53 then some ti53 else if t = 54 then some ti54 else if t = 62 then some ti62 else if t = 64 then some ti64 else if t = 65 then some ti65 else if t = 67 then some ti67 else if t = 68 then some ti68 else if t = 69 then some ti69 else if t = 71 then some ti71 else if t = 72 then some ti72 else if t = 74 then some ti74 else if t = 76 then some ti76 else if t = 77 then some ti77 else if t = 78 then some ti78 else if t = 79 then some ti79 else if t = 80 then some ti80 else if t = 81 then some ti81 else if t = 89 then some ti89 else if t = 90 then some ti90 else if t = 93 then some ti93 else if t = 94 then some ti94 else if t = 117 then some ti117 else if t = 126 then some ti126 else if t = 127 then some ti127 else if t = 158 then some ti158 else if t = 159 then some ti159 else if t = 184 then some ti184 else none
def gndA : List (Nat × List AV):=[]
def gndI : List Nat:=[]
end Go.Proofs.Ytdnaadcbimbfmaa.Am
namespace Go.Proofs.Ytdnaadcbimbfmaa.Am
open Go Go.RowKit
def lk {α : Type} (t : Nat) : List (Nat × α)→Option α
 | []=>none
 | (k,x) :: r=>if k = t then some x else lk t r
def del {α : Type} (t : Nat) : List (Nat × α)→List (Nat × α)
 | []=>[]
 | (k,x) :: r=>if k = t then del t r else (k,x) :: del t r
inductive Tg where
 | cmp | ar | scmp | bnot | len | slen | app | cat | wrp | bt | set | mx | mn | sb
@[reducible] def Tg.ty : Tg→Type
 | .cmp=>BinOp→Int→Int→Bool
 | .ar=>BinOp→IntKind→Int→Int→Int
 | .scmp=>BinOp→ByteArray→ByteArray→Bool
 | .bnot=>Bool→Bool
 | .len=>List (List AV)→Int
 | .slen=>ByteArray→Int
 | .app=>List (List AV)→List (List AV)→List (List AV)
 | .cat=>ByteArray→ByteArray→ByteArray
 | .wrp=>IntKind→Int→Int
 | .bt=>ByteArray→Int→Int
 | .set=>List (List AV)→Nat→List AV→List (List AV)
 | .mx=>Int→Int→Int
 | .mn=>Int→Int→Int
 | .sb=>ByteArray→List (List AV)
abbrev Sy:=(t : Tg)→t.ty
def sy : Sy
 | .cmp=>fun op a b=>match op with | .eql=>a == b | .neq=>a != b | .lss=>decide (a < b) | .leq=>decide (a ≤ b) | .gtr=>decide (a > b) | .geq=>decide (a ≥ b) | _=>false
 | .ar=>fun op k a b=>match op with | .add=>k.wrap (a + b) | .sub=>k.wrap (a - b) | .mul=>k.wrap (a * b) | .quo=>k.wrap (a.tdiv b) | .rem=>a.tmod b | .shl=>k.wrap (a * 2 ^ (min b.toNat k.bits)) | .shr=>a.fdiv (2 ^ (min b.toNat k.bits)) | .and=>k.wrap (BitVec.ofInt k.bits a &&& BitVec.ofInt k.bits b).toNat | .or=>k.wrap (BitVec.ofInt k.bits a ||| BitVec.ofInt k.bits b).toNat | .xor=>k.wrap (BitVec.ofInt k.bits a ^^^ BitVec.ofInt k.bits b).toNat | _=>0
 | .scmp=>fun op a b=>match op with | .eql=>a.toList == b.toList | .neq=>!(a.toList == b.toList) | .lss=>Op.bytesLess a.toList b.toList | .leq=>Op.bytesLess a.toList b.toList || a.toList == b.toList | .gtr=>!(Op.bytesLess a.toList b.toList || a.toList == b.toList) | .geq=>!(Op.bytesLess a.toList b.toList) | _=>false
 | .bnot=>fun b=>!b
 | .len=>fun r=>(r.length : Int)
 | .slen=>fun s=>(s.size : Int)
 | .app=>fun a b=>a ++ b
 | .cat=>fun a b=>a ++ b
 | .wrp=>fun k n=>k.wrap n
 | .bt=>fun s i=>if h : i.toNat < s.size then ((s[i.toNat]'h).toNat : Int) else 0
 | .set=>fun rows i r=>rows.set i r
 | .mx=>fun a b=>if b > a then b else a
 | .mn=>fun a b=>if b < a then b else a
 | .sb=>fun s=>s.data.toList.map fun b=>[.v (.int .u8 b.toNat)]
inductive Res where
 | pure (xs : List AV)
 | own (e sz : Nat) (rows : List (List AV)) (rest : List AV)
 | bx (ty : Nat) (cells rest : List AV)
structure En where
 n : Nat
 keep : List Nat:=[]
 wrs : List Nat:=[]
 cuts : List Nat:=[]
 bxs : List Nat:=[]
def memN (d : Nat) : List Nat→Bool
 | []=>false
 | x :: r=>if x = d then true else memN d r
def okD (n : Nat) : Option Nat→Bool
 | none=>true
 | some d=>Nat.blt d n
def dstOf (all : List Oper) (j : Nat) : Option Nat :=
 match all[j]? with
 | some o=>o.dst
 | none=>none
def isW (E : En) (o : Oper) : Bool :=
 match o.op with
 | .store _ _ _=>true
 | .mapUpdate _ _ _ _=>true
 | .call { callee:=.value (.func g),args:=_,argTypes:=_ }=>memN g E.wrs
 | _=>false
def isTmp : Operand→Option Nat
 | .tmp t=>some t
 | _=>none
def looks (all : List Oper) (o : Oper) : List Nat :=
 (o.op.operands.toList.filterMap isTmp) ++ (match o.guard with | some (j,_)=>(match dstOf all j with | some d=>[d] | none=>[]) | none=>[])
def aheadN (all : List Oper) (i : Nat) : Nat→Oper→Bool
 | 0,_=>false
 | n + 1,q=>q.after.any fun e=>Region.binds .any e && (e.on == i || (match all[e.on]? with
  | some k=>aheadN all i n k
  | none=>false))
def ahead (all : List Oper) (i : Nat) (q : Oper) : Bool:=aheadN all i 12 q
def benignOne (all : List Oper) (i : Nat) (o : Oper) : Bool :=
 (List.range all.length).all fun j =>
  (match dstOf all j with
   | none=>true
   | some d=>(j == i || !(o.dst == some d)) && (!(looks all o).contains d || (decide (j < i) && o.after.any (fun e=>e.on == j && Region.binds .any e)) || (decide (i < j) && (match all[j]? with | some q=>ahead all i q | none=>false))))
def triv (o : Oper) : Bool :=
 match o.op with
 | .move _=>true
 | .assign _=>true
 | .pick _ _ _=>true
 | .binOp _ _ _ _ _=>true
 | .unOp _ _ _=>true
 | .extract _ _=>true
 | _=>false
def ordOne (E : En) (all : List Oper) (i : Nat) (o : Oper) : Bool :=
 (List.range all.length).all fun j=>match all[j]? with
  | none=>true
  | some q=>if isW E q = true then (j == i || triv o || (if j < i then ahead all j o else ahead all i q)) else true
def benign (E : En) (all : List Oper) : Bool :=
 (List.range all.length).all fun i=>match all[i]? with
  | none=>true
  | some o=>ordOne E all i o && benignOne all i o && o.after.all (fun e=>decide (e.on < i) || !Region.binds .any e) && (match o.guard with | some (j,_)=>(dstOf all j).isSome | none=>true)
inductive Ob where
 | box (ty : Nat) (cells : List AV) (fz : Bool)
 | row (e sz : Nat) (rows : List (List AV)) (ver mver : Nat)
 | mp (ks : List ByteArray) (vs : List AV)
 | it (ks : List ByteArray) (vs : List AV) (cur : Option (ByteArray × AV))
abbrev Obs:=List (Nat × Ob)
inductive Key where
 | fn (f : Nat)
 | eq (t : Nat)
 | conv (src dst : Nat)
 | bi (b : Builtin) (t : Nat)
 | wr (f : Nat) (pars pars' : Obs)
 | ben (E : En) (ops : List Oper)
 | nilp (t : Nat)
 | nili (t : Nat)
 | fld (t i : Nat)
 | idx (t : Nat)
def cut : Nat→Nat→List AV→Option (List AV)
 | 0,0,_=>some []
 | 0,n + 1,c :: cs=>match cut 0 n cs with | some r=>some (c :: r) | none=>none
 | 0,_ + 1,[]=>none
 | o + 1,n,_ :: cs=>cut o n cs
 | _ + 1,_,[]=>none
def cellsOf : AV→Option (List AV)
 | .agg cs=>some cs
 | .b c=>some [.v (.bool c)]
 | .v (.bool c)=>some [.v (.bool c)]
 | .v (.int k n)=>some [.v (.int k n)]
 | .v (.string s)=>some [.v (.string s)]
 | .v (.slice a n c)=>some [.v (.slice a n c)]
 | .sl rows=>some [.sl rows]
 | .ept cs off=>some [.ept cs off]
 | _=>none
def deref (obs : Obs) : AV→Option (List AV × Nat)
 | .ept cs off=>some (cs,off)
 | .ptr k off=>match lk k obs with | some (.box _ cs _)=>some (cs,off) | _=>none
 | .rel k ver mver i cs off=>match lk k obs with | some (.row _ _ _ ver' mver')=>if ver = ver' then (if mver = mver' then some (cs,off) else none) else none | _=>none
 | _=>none
def wholeOf (obs : Obs) (ti : TI) : AV→Option (List AV)
 | .rel k ver mver _ cs off=>match lk k obs with
  | some (.row _ sz _ ver' m)=>if ver = ver' then (if mver = m then (if off = 0 then (if sz = ti.size then (if ti.agg = true then some cs else none) else none) else none) else none) else none
  | _=>none
 | _=>none
def movePtr (d : Nat) : AV→Option AV
 | .ept cs off=>some (.ept cs (off + d))
 | .ptr k off=>some (.ptr k (off + d))
 | .rel k ver mver i cs off=>some (.rel k ver mver i cs (off + d))
 | _=>none
def rowsOf (obs : Obs) : AV→Option (List (List AV))
 | .sl rows=>some rows
 | .v (.slice none 0 0)=>some []
 | .own k ver=>match lk k obs with | some (.row _ _ rows ver' _)=>if ver = ver' then some rows else none | _=>none
 | _=>none
def mapOf (obs : Obs) : AV→Option (List ByteArray × List AV)
 | .mp ks vs=>some (ks,vs)
 | .v (.map none)=>some ([],[])
 | .mo k=>match lk k obs with | some (.mp ks vs)=>some (ks,vs) | _=>none
 | _=>none
def mget : List ByteArray→List AV→ByteArray→Option AV
 | k :: ks,v :: vs,s=>if k = s then some v else mget ks vs s
 | _,_,_=>none
def mputK : List ByteArray→ByteArray→List ByteArray
 | [],s=>[s]
 | k :: ks,s=>if k = s then k :: ks else k :: mputK ks s
def mputV : List ByteArray→List AV→ByteArray→AV→List AV
 | k :: ks,u :: vs,s,v=>if k = s then v :: vs else u :: mputV ks vs s v
 | _,_,_,v=>[v]
def zAV (ti : TI) : AV:=if ti.agg = true then (if ti.size = 1 then .dead else .agg ti.zero) else (match ti.zero with | [.v x]=>.v x | [.b c]=>.v (.bool c) | _=>.dead)
inductive MG (ti : TI) (ks : List ByteArray) (vs : List AV) (s : ByteArray) : Bool→AV→Prop where
 | hit {v : AV} (h : mget ks vs s = some v) : MG ti ks vs s true (.tup [v,.v (.bool true)])
 | miss (h : mget ks vs s = none) : MG ti ks vs s true (.tup [zAV ti,.v (.bool false)])
 | hit1 {v : AV} (h : mget ks vs s = some v) : MG ti ks vs s false v
 | miss1 (h : mget ks vs s = none) : MG ti ks vs s false (zAV ti)
inductive NX (ks : List ByteArray) (vs : List AV) (s : ByteArray) (v : AV) (ks' : List ByteArray) (vs' : List AV) : Prop where
 | mk (j : Nat) (h1 : ks[j]? = some s) (h2 : vs[j]? = some v) (h3 : ks' = ks.eraseIdx j) (h4 : vs' = vs.eraseIdx j) : NX ks vs s v ks' vs'
inductive NXe (ks : List ByteArray) : Prop where
 | mk (h : ks = []) : NXe ks
inductive MP (ks : List ByteArray) (vs : List AV) (s : ByteArray) (v : AV) (ks' : List ByteArray) (vs' : List AV) : Prop where
 | mk (h1 : ks' = mputK ks s) (h2 : vs' = mputV ks vs s v) : MP ks vs s v ks' vs'
def evs (ev : Operand→Option AV) : List Operand→Option (List AV)
 | []=>some []
 | x :: xs=>match ev x with | none=>none | some a=>match evs ev xs with | none=>none | some r=>some (a :: r)
def partRows (ev : Operand→Option AV) (sz : Nat) (i : Nat) : List (Nat × Operand)→Option (List (List AV))
 | []=>some []
 | (j,x) :: r=>if j = i then (match ev x with | some a=>(match cellsOf a with | some cs=>if cs.length = sz then (match partRows ev sz (i + 1) r with | some t=>some (cs :: t) | none=>none) else none | none=>none) | none=>none) else none
def setCells : Nat→List AV→List AV→Option (List AV)
 | 0,[],cs=>some cs
 | 0,x :: xs,_ :: cs=>match setCells 0 xs cs with | some r=>some (x :: r) | none=>none
 | 0,_ :: _,[]=>none
 | o + 1,xs,c :: cs=>match setCells o xs cs with | some r=>some (c :: r) | none=>none
 | _ + 1,_,[]=>none
def partCells (ev : Operand→Option AV) (offs : List (Nat × Nat)) (cs : List AV) : List (Nat × Operand)→Option (List AV)
 | []=>some cs
 | (j,x) :: r=>match offs[j]? with
  | none=>none
  | some (off,size)=>match ev x with
   | none=>none
   | some a=>match cellsOf a with
    | none=>none
    | some ds=>if ds.length = size then (match setCells off ds cs with
     | none=>none
     | some cs'=>partCells ev offs cs' r) else none
def plain : AV→AV
 | .b c=>.v (.bool c)
 | x=>x
def tupOf : List AV→AV
 | [x]=>x
 | xs=>.tup xs
def binA (F : Sy) (op : BinOp) (x y : AV) : Option AV :=
 match plain x,plain y with
 | .v (.int k a),.v (.int k' b) =>
  if k = k' then
   match op with
   | .add=>some (.v (.int k (F .ar .add k a b)))
   | .sub=>some (.v (.int k (F .ar .sub k a b)))
   | .mul=>some (.v (.int k (F .ar .mul k a b)))
   | .and=>some (.v (.int k (F .ar .and k a b)))
   | .or=>some (.v (.int k (F .ar .or k a b)))
   | .xor=>some (.v (.int k (F .ar .xor k a b)))
   | .eql=>some (.v (.bool (F .cmp .eql a b)))
   | .neq=>some (.v (.bool (F .cmp .neq a b)))
   | .lss=>some (.v (.bool (F .cmp .lss a b)))
   | .leq=>some (.v (.bool (F .cmp .leq a b)))
   | .gtr=>some (.v (.bool (F .cmp .gtr a b)))
   | .geq=>some (.v (.bool (F .cmp .geq a b)))
   | _=>none
  else none
 | .v (.string a),.v (.string b) =>
  match op with
  | .eql=>some (.v (.bool (F .scmp .eql a b)))
  | .neq=>some (.v (.bool (F .scmp .neq a b)))
  | .lss=>some (.v (.bool (F .scmp .lss a b)))
  | .leq=>some (.v (.bool (F .scmp .leq a b)))
  | .gtr=>some (.v (.bool (F .scmp .gtr a b)))
  | .geq=>some (.v (.bool (F .scmp .geq a b)))
  | _=>none
 | _,_=>none
def okArg : AV→Bool
 | .ptr _ _=>false
 | .own _ _=>false
 | .rel _ _ _ _ _ _=>false
 | .osl _ _ _=>false
 | .mo _=>false
 | .tup _=>false
 | .dead=>false
 | _=>true
def isEpt : AV→Bool
 | .ept _ _=>true
 | _=>false
def resAV : Res→AV
 | .pure xs=>tupOf xs
 | .own _ _ rows rest=>tupOf (.sl rows :: rest)
 | .bx _ cells rest=>tupOf (.ept cells 0 :: rest)
section
variable (F : Sy) (C : Key→List AV→Res→Prop)
def dop (ev : Operand→Option AV) (obs : Obs) (op : Op) (K : AV→Prop) : Prop :=
 match op with
 | .move x=>match ev x with | some a=>K a | none=>False
 | .assign x=>match ev x with | some a=>K a | none=>False
 | .pick c x y=>match ev c with
  | some (.b true)=>(match ev x with | some a=>K a | none=>False)
  | some (.b false)=>(match ev y with | some a=>K a | none=>False)
  | some (.v (.bool t))=>(match ev x with | some a=>(match ev y with | some b=>(t = true→K a)∧(t = false→K b) | none=>False) | none=>False)
  | _=>False
 | .box t x=>match gam t,ev x with
  | some ti,some a=>(match cellsOf a with | some cs=>if cs.length = ti.size then K (.ept cs 0) else False | none=>False)
  | _,_=>False
 | .load t x=>match gam t,ev x with
  | some ti,some p=>(match wholeOf obs ti p with
   | some cs=>K (.agg cs)
   | none=>match deref obs p with
   | some (cs,off)=>(match cut off ti.size cs with
    | some ds=>if ti.agg = true then K (.agg ds) else (match ds with | [d]=>K d | _=>False)
    | none=>False)
   | none=>False)
  | _,_=>False
 | .nilCheck x=>match ev x with
  | some (.ept cs off)=>K (.ept cs off)
  | some (.ptr k off)=>K (.ptr k off)
  | some (.clo g caps)=>K (.clo g caps)
  | some (.v (.pointer (some ad)))=>K (.v (.pointer (some ad)))
  | _=>False
 | .binOp o t x y _=>match ev x,ev y with
  | some a,some b=>(match binA F o a b with
   | some r=>K r
   | none=>match o,a,b with
    | .eql,.agg cs,.agg ds=>∃ r : Bool,C (.eq t) [.agg cs,.agg ds] (.pure [.v (.bool r)])∧K (.v (.bool r))
    | .neq,.agg cs,.agg ds=>∃ r : Bool,C (.eq t) [.agg cs,.agg ds] (.pure [.v (.bool r)])∧K (.v (.bool (F .bnot r)))
    | .rem,.v (.int k a),.v (.int k' b)=>k = k'∧b ≠ 0∧K (.v (.int k (F .ar .rem k a b)))
    | .quo,.v (.int k a),.v (.int k' b)=>k = k'∧b ≠ 0∧K (.v (.int k (F .ar .quo k a b)))
    | .shl,.v (.int k a),.v (.int _ b)=>0 ≤ b∧K (.v (.int k (F .ar .shl k a b)))
    | .shr,.v (.int k a),.v (.int _ b)=>0 ≤ b∧K (.v (.int k (F .ar .shr k a b)))
    | .add,.v (.string s),.v (.string u)=>(F .slen s) + (F .slen u) ≤ 9223372036854775807∧K (.v (.string (F .cat s u)))
    | .eql,.ptr _ _,.v (.pointer none)=>C (.nilp t) [] (.pure [])∧K (.b false)
    | .neq,.ptr _ _,.v (.pointer none)=>C (.nilp t) [] (.pure [])∧K (.b true)
    | .eql,.ept _ _,.v (.pointer none)=>C (.nilp t) [] (.pure [])∧K (.b false)
    | .neq,.ept _ _,.v (.pointer none)=>C (.nilp t) [] (.pure [])∧K (.b true)
    | .eql,.v (.pointer (some _)),.v (.pointer none)=>C (.nilp t) [] (.pure [])∧K (.b false)
    | .neq,.v (.pointer (some _)),.v (.pointer none)=>C (.nilp t) [] (.pure [])∧K (.b true)
    | .eql,.v (.pointer none),.v (.pointer none)=>C (.nilp t) [] (.pure [])∧K (.b true)
    | .neq,.v (.pointer none),.v (.pointer none)=>C (.nilp t) [] (.pure [])∧K (.b false)
    | .eql,.v .nilIface,.v .nilIface=>(match y with | .const _=>C (.nili t) [] (.pure [])∧K (.b true) | _=>False)
    | .neq,.v .nilIface,.v .nilIface=>(match y with | .const _=>C (.nili t) [] (.pure [])∧K (.b false) | _=>False)
    | .eql,.v (.bool c),.v (.bool d)=>∃ r : Bool,C (.eq t) [.v (.bool c),.v (.bool d)] (.pure [.v (.bool r)])∧K (.v (.bool r))
    | .neq,.v (.bool c),.v (.bool d)=>∃ r : Bool,C (.eq t) [.v (.bool c),.v (.bool d)] (.pure [.v (.bool r)])∧K (.v (.bool (F .bnot r)))
    | .eql,.v (.bool c),.b d=>∃ r : Bool,C (.eq t) [.v (.bool c),.v (.bool d)] (.pure [.v (.bool r)])∧K (.v (.bool r))
    | .neq,.v (.bool c),.b d=>∃ r : Bool,C (.eq t) [.v (.bool c),.v (.bool d)] (.pure [.v (.bool r)])∧K (.v (.bool (F .bnot r)))
    | _,_,_=>False)
  | _,_=>False
 | .unOp .not _ x=>match ev x with
  | some (.b c)=>K (.b (!c))
  | some (.v (.bool c))=>K (.v (.bool (F .bnot c)))
  | _=>False
 | .unOp .neg _ x=>match ev x with
  | some (.v (.int k n))=>K (.v (.int k (F .ar .sub k 0 n)))
  | _=>False
 | .convert s d x=>match gam d,ev x with
  | some ti,some a=>(match ti.kind,a with
   | .int k,.v (.int _ n)=>(match gam s with | some _=>K (.v (.int k (F .wrp k n))) | none=>False)
   | _,_=>if okArg a = true then ∃ r,C (.conv s d) [plain a] (.pure [r])∧K r else False)
  | _,_=>False
 | .makeFunc (.func g) fs caps=>match fs.toList,evs ev caps.toList with
  | [],some cs=>if cs.all isEpt = true then K (.clo g cs) else False
  | _,_=>False
 | .fieldAddr t x f=>match gam t,ev x with
  | some ti,some (.v (.pointer (some ad)))=>(match ti.offs[f]? with
   | some (d,_)=>K (.v (.pointer (some (ad.add d))))
   | none=>False)
  | some ti,some p=>(match ti.offs[f]? with
   | some (d,_)=>(match deref obs p with | some _=>(match movePtr d p with | some q=>K q | none=>False) | none=>False)
   | none=>False)
  | _,_=>False
 | .indexAddr t x i=>match gam t,ev x,ev i with
  | some ti,some p,some (.v (.int k j))=>(match ti.kind with
   | .sli e esz bytes=>(match p with
    | .own q ver=>(match lk q obs with
     | some (.row _ sz rows ver' mver)=>if ver = ver' then (if sz = esz then ∃ (m : Nat) (cs : List AV),j = (m : Int)∧rows[m]? = some cs∧K (.rel q ver mver m cs 0) else False) else False
     | _=>False)
    | .sl rows=>∃ (m : Nat) (cs : List AV),j = (m : Int)∧rows[m]? = some cs∧cs.length = esz∧K (.ept cs 0)
    | .osl q ver lo=>(match lk q obs with
     | some (.row _ sz rows ver' mver)=>if ver = ver' then (if sz = esz then ∃ (m : Nat) (cs : List AV),j = (m : Int)∧rows[lo + m]? = some cs∧K (.rel q ver mver (lo + m) cs 0) else False) else False
     | _=>False)
    | _=>False)
   | .arr n esz=>(match p with
    | .ept cs off=>∃ (m : Nat) (ds : List AV),j = (m : Int)∧m < n∧cut (off + m * esz) esz cs = some ds∧K (.ept ds 0)
    | .ptr q off=>∃ m : Nat,j = (m : Int)∧m < n∧K (.ptr q (off + m * esz))
    | _=>False)
   | _=>False)
  | _,_,_=>False
 | .index t x i=>match gam t,ev x,ev i with
  | some ti,some (.v (.string s)),some (.v (.int k j))=>(match ti.kind with
   | .str=>0 ≤ j∧j < F .slen s∧K (.v (.int .u8 (F .bt s j)))
   | _=>False)
  | _,some (.agg cs),some (.v (.int k j))=>∃ r,C (.idx t) [.agg cs,.v (.int k j)] (.pure [r])∧K r
  | _,_,_=>False
 | .slice t x lo hi none=>match gam t,ev x with
  | some ti,some (.v (.string s))=>(match ti.kind with
   | .str=>∃ l h : Nat,(match lo with | none=>l = 0 | some o=>ev o = some (.v (.int .i64 (l : Int))))∧(match hi with | none=>(h : Int) = F .slen s | some o=>ev o = some (.v (.int .i64 (h : Int))))∧l ≤ h∧(h : Int) ≤ F .slen s∧∃ r,r = s.extract l h∧K (.v (.string r))
   | _=>False)
  | some ti,some (.sl rows)=>(match ti.kind with
   | .sli e esz bytes=>∃ l h : Nat,(match lo with | none=>l = 0 | some o=>ev o = some (.v (.int .i64 (l : Int))))∧(match hi with | none=>(h : Int) = F .len rows | some o=>ev o = some (.v (.int .i64 (h : Int))))∧l ≤ h∧(h : Int) ≤ F .len rows∧(∀ r ∈ rows,r.length = esz)∧∃ rs,rs = (rows.drop l).take (h - l)∧K (.sl rs)
   | _=>False)
  | some ti,some (.own q ver)=>(match ti.kind,lo,hi,lk q obs with
   | .sli _ esz _,some o,none,some (.row _ sz rows ver' _)=>if ver = ver' then (if sz = esz then ∃ l : Nat,ev o = some (.v (.int .i64 (l : Int)))∧(l : Int) ≤ F .len rows∧K (.osl q ver l) else False) else False
   | _,_,_,_=>False)
  | _,_=>False
 | .extract x i=>match ev x with
  | some (.tup vs)=>(match vs[i]? with | some (.tup _)=>False | some a=>K a | none=>False)
  | _=>False
 | .entry x=>match ev x with
  | some (.ptr k 0)=>(match lk k obs with
   | some (.it _ _ (some (s,v)))=>K (.tup [.v (.string s),v])
   | _=>False)
  | _=>False
 | .field t x i=>match ev x with
  | some (.agg cs)=>∃ r,C (.fld t i) [.agg cs] (.pure [r])∧K r
  | _=>False
 | .lookup t m x ck=>match gam t,ev m,ev x with
  | some ti,some p,some (.v (.string s))=>(match ti.kind,mapOf obs p with
   | .mp k e,some (ks,vs)=>(match gam e with
    | some te=>∃ r,MG te ks vs s ck r∧(mget ks vs s = none→(match zAV te with | .dead=>False | _=>True))∧K r
    | none=>False)
   | _,_=>False)
  | _,_,_=>False
 | .build t parts=>match gam t with
  | some ti=>(match ti.kind with
   | .struct=>(match partCells ev ti.offs ti.zero parts.toList with | some cs=>K (.agg cs) | none=>False)
   | .arr _ _=>(match parts.toList with | []=>K (.agg ti.zero) | _=>False)
   | _=>False)
  | none=>False
 | .buildSlice t n parts=>match gam t with
  | some ti=>(match ti.kind with
   | .sli e esz bytes=>(match partRows ev esz 0 parts.toList with | some rows=>if rows.length = n then (if n * esz ≤ 16777216 then K (.sl rows) else False) else False | none=>False)
   | _=>False)
  | none=>False
 | .call { callee:=.value f,args,argTypes }=>match ev f,evs ev args.toList with
  | some (.clo g caps),some as=>if as.all okArg = true then ∃ r,C (.fn g) (as.map plain ++ caps) r∧K (resAV r) else False
  | _,_=>False
 | .call { callee:=.builtin .len,args,argTypes }=>match args.toList with
  | [x]=>(match ev x with
   | some (.v (.string s))=>(match argTypes.toList with | [t]=>(match gam t with | some ti=>(match ti.kind with | .str=>K (.v (.int .i64 (F .slen s))) | _=>False) | none=>False) | _=>False)
   | some (.osl q ver lo)=>(match lk q obs with
    | some (.row _ sz rows ver' _)=>(match argTypes.toList with | [t]=>(match gam t with | some ti=>(match ti.kind with | .sli _ _ _=>if ver = ver' then K (.v (.int .i64 (F .len (rows.drop lo)))) else False | _=>False) | none=>False) | _=>False)
    | _=>False)
   | some a=>(match rowsOf obs a with
    | some rows=>(match argTypes.toList with | [t]=>(match gam t with | some ti=>(match ti.kind with | .sli _ _ _=>K (.v (.int .i64 (F .len rows))) | _=>False) | none=>False) | _=>False)
    | none=>False)
   | none=>False)
  | _=>False
 | .call { callee:=.builtin .max,args,argTypes }=>match evs ev args.toList with
  | some [.v (.int k a),.v (.int k' b)]=>K (.v (.int k (F .mx a b)))
  | some [.v (.int k a),.v (.int k' b),.v (.int k'' c)]=>K (.v (.int k (F .mx (F .mx a b) c)))
  | _=>False
 | .call { callee:=.builtin .min,args,argTypes }=>match evs ev args.toList with
  | some [.v (.int k a),.v (.int k' b)]=>K (.v (.int k (F .mn a b)))
  | _=>False
 | _=>False
end
end Go.Proofs.Ytdnaadcbimbfmaa.Am
namespace Go.Proofs.Ytdnaadcbimbfmaa.Am
open Go Go.RowKit
def RelP (β : Nat→Value) (obs : Obs) (k ver mver i : Nat) (cs : List AV) (off : Nat) (y : Value) : Prop :=
 ∀ e sz rows m,lk k obs = some (.row e sz rows ver m)→mver ≤ m∧i < rows.length∧(∃ g n c,β k = .slice (some ⟨g,0,none⟩) n c∧y = .pointer (some ((⟨g,0,none⟩ : Addr).add (i * sz + off))))∧(m = mver→rows[i]? = some cs)
def OslP (β : Nat→Value) (k lo sz n : Nat) (y : Value) : Prop :=
 lo ≤ n∧∃ ad c',y = .slice ad (n - lo) c'∧(lo < n→∃ g n' c,β k = .slice (some ⟨g,0,none⟩) n' c∧ad = some ((⟨g,0,none⟩ : Addr).add (lo * sz)))
def byteT (e : Nat) : Bool:=match gam e with | some ti=>(match ti.kind with | .int .u8=>true | _=>false) | none=>false
def frB (e : Nat) (fr : Nat × Nat) (n : Nat) : Prop:=fr = (0,0) ∨ (byteT e = true∧n ≤ fr.1)
def OwnR (w : World) (B e sz : Nat) (v : Value) (n : Nat) (xs : List Value) : Prop :=
 xs.length = n * sz∧((v = .slice none 0 0∧n = 0) ∨ ∃ g cap cur fr,v = .slice (some ⟨g,0,none⟩) n cap∧B ≤ g∧w.heap[g]? = some (.cells cur e fr)∧frB e fr cur.size∧n ≤ cap∧cap ≤ maxLen∧cur.size = cap * sz∧cur.toList.take (n * sz) = xs)
theorem OwnR.nil (w : World) (B e sz : Nat) : OwnR w B e sz (.slice none 0 0) 0 []:=⟨by simp,.inl ⟨rfl,rfl⟩⟩
theorem OwnR.of {w : World} {B e sz n : Nat} {v : Value} {xs : List Value} (h : w.ownsRow B e sz v n xs) : OwnR w B e sz v n xs:=by
 refine ⟨h.1,?_⟩
 rcases h.2 with h | ⟨g,cap,cur,h1,h2,h3,r⟩
 ·exact .inl h
 ·exact .inr ⟨g,cap,cur,(0,0),h1,h2,h3,.inl rfl,r⟩
theorem OwnR.owns {w : World} {B e sz n : Nat} {v : Value} {xs : List Value} (hb : byteT e = false) (h : OwnR w B e sz v n xs) : w.ownsRow B e sz v n xs:=by
 refine ⟨h.1,?_⟩
 rcases h.2 with h | ⟨g,cap,cur,fr,h1,h2,h3,h4,r⟩
 ·exact .inl h
 ·rcases h4 with rfl | ⟨h4,_⟩
  ·exact .inr ⟨g,cap,cur,h1,h2,h3,r⟩
  ·rw [hb] at h4; cases h4
theorem OwnR.lt {w : World} {B e sz n : Nat} {v : Value} {xs : List Value} (h : OwnR w B e sz v n xs) : ∀ k,v.ownBlock = some k→B ≤ k∧k < w.heap.size:=by
 intro k hk
 rcases h.2 with ⟨rfl,_⟩ | ⟨g,cap,cur,fr,rfl,hb,hg,_⟩
 ·simp [Value.ownBlock] at hk
 ·simp [Value.ownBlock] at hk
  subst hk
  exact ⟨hb,(Array.getElem?_eq_some_iff.1 hg).1⟩
theorem OwnR.cells {w : World} {B e sz n : Nat} {v : Value} {xs : List Value} (h : OwnR w B e sz v n xs) {g : Nat} (hg : v.ownBlock = some g) : ∀ j u,xs[j]? = some u→w.cell? ((⟨g,0,none⟩ : Addr).add j) = some u:=by
 intro j u hu
 rcases h.2 with ⟨rfl,_⟩ | ⟨g',cap,cur,fr,rfl,_,hgg,_,_,_,_,htake⟩
 ·simp [Value.ownBlock] at hg
 ·simp [Value.ownBlock] at hg
  subst hg
  rw [add_mk,cell_of_row w g' j cur e fr hgg]
  rw [← htake,List.getElem?_take] at hu
  split at hu
  ·simpa using hu
  ·cases hu
def SRep0 (w : World) (S : Nat→Prop) (β : Nat→Value) (obs : Obs) : AV→Value→Prop
 | .ptr k off,y=>∃ g,β k = .pointer (some ⟨g,0,none⟩)∧y = .pointer (some ((⟨g,0,none⟩ : Addr).add off))
 | .own k ver,y=>∀ e sz rows m,lk k obs = some (.row e sz rows ver m)→y = β k
 | .rel k ver mver i cs off,y=>RelP β obs k ver mver i cs off y
 | .osl k ver lo,y=>∀ e sz rows m,lk k obs = some (.row e sz rows ver m)→OslP β k lo sz rows.length y
 | .mo k,y=>∀ ks vs,lk k obs = some (.mp ks vs)→y = β k
 | .dead,_=>True
 | x,y=>Rep w S x y
def SRep (w : World) (S : Nat→Prop) (β : Nat→Value) (obs : Obs) : AV→Value→Prop
 | .tup vs,y=>∃ ys : List Value,y = .tuple ys.toArray∧vs.length = ys.length∧∀ (i : Nat) (u : AV) (x : Value),vs[i]? = some u→ys[i]? = some x→SRep0 w S β obs u x
 | x,y=>SRep0 w S β obs x y
def ORep (w : World) (S : Nat→Prop) (B : Nat) (x : Value) : Ob→Prop
 | .box ty cells fz=>∃ g xs,x = .pointer (some ⟨g,0,none⟩)∧B ≤ g∧¬ S g∧w.heap[g]? = some (.cells xs.toArray ty (0,0))∧RepL w S cells xs
 | .row e sz rows ver mver=>∃ xs,OwnR w B e sz x rows.length xs∧RepL w S rows.flatten xs∧(∀ r ∈ rows,r.length = sz)∧(∀ g,x.ownBlock = some g→¬ S g)
 | .mp ks vs=>∃ r es clock,x = .map (some r)∧B ≤ r∧¬ S r∧w.heap[r]? = some (.map es clock)∧es.toList.map (·.key) = ks.map Value.string∧vs.length = ks.length∧(es.toList.map (·.born)).Nodup∧(∀ x ∈ es.toList,x.born < clock)∧∀ (i : Nat) (u : AV) (e : MapEntry),vs[i]? = some u→es.toList[i]? = some e→Rep w S u e.val
 | .it ks vs cur=>∃ r bm since seen c0 es clock,x = .pointer (some ⟨r,0,none⟩)∧B ≤ r∧¬ S r∧w.heap[r]? = some (.mapIter (some bm) since seen c0)∧S bm∧w.heap[bm]? = some (.map es clock)∧(es.toList.map (·.born)).Nodup∧(∀ x ∈ es.toList,x.born < since)∧since ≤ c0∧since ≤ clock ∧
  (leftOf es seen).toList.map (·.key) = ks.map Value.string∧vs.length = ks.length∧(∀ (i : Nat) (u : AV) (e : MapEntry),vs[i]? = some u→(leftOf es seen).toList[i]? = some e→Rep w S u e.val) ∧
  ∀ s v,cur = some (s,v)→∃ (e : MapEntry) (seen' : Array Nat),e ∈ es.toList∧seen = seen'.push e.born∧c0 = clock∧e.key = .string s∧Rep w S v e.val
structure gdOK (w : World) (S : Nat→Prop) : Prop where
 cells : ∀ g cs,lk g gndA = some cs→S g∧∃ xs ty fr,w.heap[g]? = some (.cells xs ty fr)∧RepL w S cs xs.toList
 ints : ∀ g,memN g gndI = true→S g∧∃ m ty fr,w.heap[g]? = some (.cells #[.int .i64 m] ty fr)
theorem gdOK.mono {w w' : World} {S S' : Nat→Prop} (h : gdOK w S) (hw : SameOn S w w') (hS : ∀ g,S g→S' g) : gdOK w' S' where
 cells:=fun g cs hg=>by
  obtain ⟨h1,xs,ty,fr,h2,h3⟩:=h.cells g cs hg
  exact ⟨hS g h1,xs,ty,fr,(hw g h1).trans h2,h3.mono hw hS⟩
 ints:=fun g hg=>by
  obtain ⟨h1,m,ty,fr,h2⟩:=h.ints g hg
  exact ⟨hS g h1,m,ty,fr,(hw g h1).trans h2⟩
structure Gr (w : World) (S : Nat→Prop) (w' : World) (S' : Nat→Prop) : Prop where
 below : Below w.heap.size w w'
 sub : ∀ g,S g→S' g
 new : ∀ g,S' g→S g ∨ w.heap.size ≤ g
 lt : ∀ g,S' g→g < w'.heap.size
theorem Gr.same {w w' : World} {S S' : Nat→Prop} (h : Gr w S w' S') (hS : ∀ g,S g→g < w.heap.size) : SameOn S w w':=fun g hg=>h.below.block g (hS g hg)
theorem Gr.refl {w : World} {S : Nat→Prop} (hS : ∀ g,S g→g < w.heap.size) : Gr w S w S:=⟨Below.refl _ _,fun _ h=>h,fun _ h=>.inl h,hS⟩
theorem Gr.trans {w w1 w2 : World} {S S1 S2 : Nat→Prop} (h : Gr w S w1 S1) (k : Gr w1 S1 w2 S2) : Gr w S w2 S2 :=
 ⟨h.below.trans (k.below.mono h.below.size),fun g hg=>k.sub g (h.sub g hg),fun g hg=>by
  rcases k.new g hg with h1 | h1
  ·exact h.new g h1
  ·exact .inr (Nat.le_trans h.below.size h1),k.lt⟩
structure GrK (T : Nat→Prop) (w : World) (S : Nat→Prop) (w' : World) (S' : Nat→Prop) : Prop where
 os : w'.os = w.os
 tape : w'.tape = w.tape
 output : w'.output = w.output
 size : w.heap.size ≤ w'.heap.size
 block : ∀ k,k < w.heap.size→¬ T k→w'.heap[k]? = w.heap[k]?
 sub : ∀ g,S g→S' g
 new : ∀ g,S' g→S g ∨ w.heap.size ≤ g ∨ T g
 lt : ∀ g,S' g→g < w'.heap.size
 gd : gdOK w S∧gdOK w' S'
theorem GrK.refl {T : Nat→Prop} {w : World} {S : Nat→Prop} (hS : ∀ g,S g→g < w.heap.size) (hgd : gdOK w S) : GrK T w S w S:=⟨rfl,rfl,rfl,Nat.le_refl _,fun _ _ _=>rfl,fun _ h=>h,fun _ h=>.inl h,hS,hgd,hgd⟩
theorem GrK.trans {T T' : Nat→Prop} {w w1 w2 : World} {S S1 S2 : Nat→Prop} (h : GrK T w S w1 S1) (k : GrK T' w1 S1 w2 S2) (hT : ∀ g,T' g→T g ∨ w.heap.size ≤ g) : GrK T w S w2 S2 :=
 ⟨k.os.trans h.os,k.tape.trans h.tape,k.output.trans h.output,Nat.le_trans h.size k.size,fun g hg hn=>(k.block g (Nat.lt_of_lt_of_le hg h.size) (fun ht=>by rcases hT g ht with h1 | h1; exact hn h1; omega)).trans (h.block g hg hn),
  fun g hg=>k.sub g (h.sub g hg),fun g hg=>by
   rcases k.new g hg with h1 | h1 | h1
   ·exact h.new g h1
   ·exact .inr (.inl (Nat.le_trans h.size h1))
   ·rcases hT g h1 with h2 | h2
    ·exact .inr (.inr h2)
    ·exact .inr (.inl h2),k.lt,h.gd.1,k.gd.2⟩
theorem Gr.k {w w' : World} {S S' : Nat→Prop} (h : Gr w S w' S') (hS : ∀ g,S g→g < w.heap.size) (hgd : gdOK w S) (T : Nat→Prop) : GrK T w S w' S':=⟨h.below.os,h.below.tape,h.below.output,h.below.size,fun k hk _=>h.below.block k hk,h.sub,fun g hg=>(h.new g hg).elim .inl (fun h=>.inr (.inl h)),h.lt,hgd,hgd.mono (h.same hS) h.sub⟩
theorem GrK.gr {w w' : World} {S S' : Nat→Prop} {T : Nat→Prop} (h : GrK T w S w' S') (hT : ∀ g,¬ T g) : Gr w S w' S':=⟨⟨h.os,h.tape,h.output,h.size,fun k hk=>h.block k hk (hT k)⟩,h.sub,fun g hg=>(h.new g hg).elim .inl (fun h=>h.elim .inr (fun h=>absurd h (hT g))),h.lt⟩
theorem GrK.step {T : Nat→Prop} {w w1 w2 : World} {S S1 S2 : Nat→Prop} (h : GrK T w S w1 S1) (k : Gr w1 S1 w2 S2) : GrK T w S w2 S2:=h.trans (k.k h.lt h.gd.2 fun _=>False) fun _ h=>h.elim
def blkOf : Value→Option Nat
 | .pointer (some a)=>some a.block
 | .map (some r)=>some r
 | v=>v.ownBlock
def obsBlk (obs : Obs) (β : Nat→Value) (g : Nat) : Prop:=∃ k o,lk k obs = some o∧blkOf (β k) = some g
structure TOK (P : Program) (t : Nat) (ti : TI) : Prop where
 size : ∀ w,(Go.sizeOf t).run P w = .ok ti.size w
 agg : ∀ w,(isAgg t).run P w = .ok ti.agg w
 one : ti.agg = false→ti.size = 1
 zone : ti.agg = false→∀ w z,(zeroValue t).run P w = .ok z w→z.cells = #[z]
 und : ∃ d,P.underlying t = some d
 offs : ∀ f d s,ti.offs[f]? = some (d,s)→∀ a w,(Instr.fieldAt t (.pointer (some a)) f).run P w = .ok (.pointer (some (a.add d))) w
 zero : ∀ w,∃ z,(zeroValue t).run P w = .ok z w∧z.cells.size = ti.size∧∀ w' S,RepL w' S ti.zero z.cells.toList
 kind : match ti.kind with
  | .other=>True
  | .struct=>∃ fields,P.underlying t = some (.struct fields)∧∀ w,(fields.mapM fun f=>do pure (f.offset,← Go.sizeOf f.type) : Sem (Array (Nat × Nat))).run P w = .ok ti.offs.toArray w
  | .arr n esz=>∃ e,P.underlying t = some (.array n e)∧∀ w,(Go.sizeOf e).run P w = .ok esz w
  | .sli e esz bytes=>P.underlying t = some (.slice e)∧(0 < esz∧0 < bytes)∧∃ i z,P.info? e = some i∧i.zero = some z∧i.size = esz∧i.bytes = bytes∧z.cells.size = esz
  | .mp k e=>P.underlying t = some (.map k e)∧P.underlying k = some .string
  | .int k=>P.underlying t = some (.int k)
  | .str=>P.underlying t = some .string
def TOKs (P : Program) : Prop:=∀ t ti,gam t = some ti→TOK P t ti
def tupV : List Value→Value
 | [x]=>x
 | xs=>.tuple xs.toArray
def ResR (w w' : World) (S S' : Nat→Prop) : Res→Value→Prop
 | .pure xs,y=>∃ ys,y = tupV ys∧Reps w' S' xs ys
 | .own e sz rows rest,y=>∃ z ys zs,y = tupV (z :: ys)∧OwnR w' w.heap.size e sz z rows.length zs∧RepL w' S' rows.flatten zs∧(∀ r ∈ rows,r.length = sz)∧(∀ g,z.ownBlock = some g→¬ S' g)∧Reps w' S' rest ys∧rows.length ≤ 9223372036854775807
 | .bx ty cells rest,y=>∃ g ys xs,y = tupV (.pointer (some ⟨g,0,none⟩) :: ys)∧w.heap.size ≤ g∧¬ S' g∧w'.heap[g]? = some (.cells xs.toArray ty (0,0))∧RepL w' S' cells xs∧Reps w' S' rest ys
def ACalls (P : Program) (f : Nat) (args : List AV) (res : Res) : Prop :=
 ∀ (w : World) (S : Nat→Prop) (xs : List Value),(∀ g,S g→g < w.heap.size)→gdOK w S→Reps w S args xs →
  Calls P f xs.toArray w fun e w'=>∃ y S',e = .returned y∧Gr w S w' S'∧ResR w w' S S' res y
def ResM (T : Nat→Prop) (pars' : Obs) (β : Nat→Value) (w w' : World) (S S' : Nat→Prop) : Res→Value→Prop
 | .pure xs,y=>∃ ys,y = tupV ys∧Reps w' S' xs ys
 | .own e sz rows rest,y=>∃ z ys zs,y = tupV (z :: ys)∧OwnR w' 0 e sz z rows.length zs∧RepL w' S' rows.flatten zs∧(∀ r ∈ rows,r.length = sz)∧(∀ g,z.ownBlock = some g→¬ S' g∧(T g ∨ w.heap.size ≤ g)∧¬ obsBlk pars' β g)∧Reps w' S' rest ys
 | .bx _ _ _,_=>False
def MCalls (P : Program) (f : Nat) (args : List AV) (pars pars' : Obs) (res : Res) : Prop :=
 ∀ (w : World) (S : Nat→Prop) (β : Nat→Value) (xs : List Value),(∀ g,S g→g < w.heap.size)→gdOK w S→(∀ k o,lk k pars = some o→ORep w S 0 (β k) o) →
  (∀ k k' o o',lk k pars = some o→lk k' pars = some o'→k ≠ k'→∀ g,blkOf (β k) = some g→blkOf (β k') = some g→False) →
  (args.length = xs.length∧∀ (i : Nat) (u : AV) (x : Value),args[i]? = some u→xs[i]? = some x→SRep0 w S β pars u x) →
  Calls P f xs.toArray w fun e w'=>∃ y S',e = .returned y∧GrK (obsBlk pars β) w S w' S'∧(∀ k o,lk k pars' = some o→ORep w' S' 0 (β k) o)∧ResM (obsBlk pars β) pars' β w w' S S' res y
def CSem (P : Program) : Key→List AV→Res→Prop
 | .fn f,args,r=>(∀ as w,(callFunc f as).run P w = .ok (.enter f as) w)∧ACalls P f args r
 | .eq t,args,r=>∃ A B q,args = [A,B]∧r = .pure [.v (.bool q)]∧∀ w S x y,Rep w S A x→Rep w S B y→∃ n,
   (∀ ox oy,(do eqGuard .eql t ox oy x y; binOp .eql t x y : Sem Value).run P w = .ok (.bool q) (w.drewN n))∧(∀ ox oy,(do eqGuard .neq t ox oy x y; binOp .neq t x y : Sem Value).run P w = .ok (.bool (!q)) (w.drewN n))
 | .conv s d,args,r=>∃ A,args = [A]∧∀ w S x,(∀ g,S g→g < w.heap.size)→Rep w S A x→∃ y w' S',(convert s d x).run P w = .ok y w'∧Gr w S w' S'∧ResR w w' S S' r y
 | .bi _ _,_,_=>False
 | .wr f pars pars',args,r=>(∀ as w,(callFunc f as).run P w = .ok (.enter f as) w)∧MCalls P f args pars pars' r
 | .ben E ops,_,_=>benign E ops = true
 | .nilp t,_,_=>P.underlying t = some (.pointer (P.pointee t))
 | .nili t,_,_=>∃ ms,P.underlying t = some (.interface ms)
 | .idx t,args,r=>∃ A i q,args = [A,.v i]∧r = .pure [q]∧∀ w S x,Rep w S A x→∃ y,(Instr.index t x i).run P w = .ok y w∧Rep w S q y
 | .fld t i,args,r=>∃ A q,args = [A]∧r = .pure [q]∧∀ w S x,Rep w S A x→∃ y,(Instr.field t x i).run P w = .ok y w∧Rep w S q y
theorem ben_ok {P : Program} {E : En} {ops : List Oper} (h : benign E ops = true) : CSem P (.ben E ops) [] (.pure []):=h
theorem deref_ok {w : World} {S : Nat→Prop} {β : Nat→Value} {obs : Obs} {B : Nat} (ho : ∀ k o,lk k obs = some o→ORep w S B (β k) o)
  {p : AV} {y : Value} {cs : List AV} {off : Nat} (h : deref obs p = some (cs,off)) (hp : SRep w S β obs p y) :
  ∃ a : Addr,y = .pointer (some (a.add off))∧∀ (i : Nat) (u : AV),cs[i]? = some u→∃ x,w.cell? (a.add i) = some x∧RepC w S u x:=by
 cases p <;> simp only [deref,reduceCtorEq] at h
 case ept ds d =>
  injection h with h
  injection h with h1 h2
  subst h1 h2
  have hp' : Rep w S (.ept ds d) y:=hp
  obtain ⟨a,rfl,h⟩:=Rep.ept_inv hp'
  exact ⟨_,rfl,h.2⟩
 case ptr k d =>
  split at h
  ·rename_i ty ds fz hk
   injection h with h
   injection h with h1 h2
   subst h1 h2
   obtain ⟨g,hg,hy⟩ : ∃ g,β k = .pointer (some ⟨g,0,none⟩)∧y = .pointer (some ((⟨g,0,none⟩ : Addr).add d)):=hp
   obtain ⟨g',xs,he,hB,hS,hh,hr⟩:=ho _ _ hk
   rw [hg] at he
   injection he with he
   injection he with he
   injection he with he
   subst he
   refine ⟨_,hy,fun i u hu=>?_⟩
   obtain ⟨x,hx,hrx⟩:=hr.get hu
   refine ⟨x,?_,hrx⟩
   rw [add_mk,cell_of_row w g i _ _ _ hh]
   simpa using hx
  ·simp at h
 case rel k ver mver j ds d =>
  split at h
  ·rename_i e sz rows ver' mver' hk
   split at h
   ·rename_i e1
    subst e1
    split at h
    ·rename_i e2
     subst e2
     injection h with h
     injection h with h1 h2
     subst h1 h2
     obtain ⟨_,_,⟨g,n,c,hβ,hy⟩,hrow⟩:=(show RelP β obs k ver mver j ds d y from hp) _ _ _ _ hk
     have hrow:=hrow rfl
     obtain ⟨xs,hown,hrep,hlen,hS⟩:=ho _ _ hk
     refine ⟨(⟨g,0,none⟩ : Addr).add (j * sz),by rw [add_add]; exact hy,fun i u hu=>?_⟩
     rw [add_add,add_mk]
     obtain ⟨hl,hv⟩:=hown
     have hjlt : j < rows.length:=(List.getElem?_eq_some_iff.1 hrow).1
     have hil : i < ds.length:=(List.getElem?_eq_some_iff.1 hu).1
     have hds : ds.length = sz:=hlen ds (List.mem_of_getElem? hrow)
     have hflat : ∀ (rows : List (List AV)) (j : Nat),(∀ r ∈ rows,r.length = sz)→rows[j]? = some ds→rows.flatten[j * sz + i]? = some u:=by
      intro rows
      induction rows with
      | nil=>intro j _ h; simp at h
      | cons r rs ih =>
       intro j hl hj
       have hr0 : r.length = sz:=hl r List.mem_cons_self
       cases j with
       | zero =>
        simp at hj
        subst hj
        rw [List.flatten_cons,List.getElem?_append_left (by omega)]
        simpa using hu
       | succ j =>
        rw [List.flatten_cons,List.getElem?_append_right (by rw [hr0,Nat.succ_mul]; omega)]
        have:=ih j (fun r hr=>hl r (List.mem_cons_of_mem _ hr)) (by simpa using hj)
        rw [hr0,Nat.succ_mul,show j * sz + sz + i - sz = j * sz + i from by omega]
        exact this
     obtain ⟨x,hx,hrx⟩:=hrep.get (hflat rows j hlen hrow)
     rcases hv with ⟨hv,hn⟩ | ⟨g',cap,cur,fr,hv,hB,hh,hfr,hn,hm,hcs,htake⟩
     ·rw [hv] at hβ; simp at hβ
     ·rw [hv] at hβ
      injection hβ with h1 h2 h3
      injection h1 with h1
      injection h1 with h1
      subst h1
      refine ⟨x,?_,hrx⟩
      rw [cell_of_row w g' _ _ _ _ hh]
      rw [← htake,List.getElem?_take] at hx
      split at hx
      ·simpa using hx
      ·simp at hx
    ·simp at h
   ·simp at h
  ·simp at h
theorem cut_ok {w : World} {cs : List AV} {S : Nat→Prop} {f : Nat→Addr} (hf : ∀ (i : Nat) (u : AV),cs[i]? = some u→∃ x,w.cell? (f i) = some x∧RepC w S u x) :
  ∀ (off n : Nat) (ds : List AV),cut off n cs = some ds→∃ xs : List Value,ds.length = n∧RepL w S ds xs∧∀ (j : Nat) (x : Value),xs[j]? = some x→w.cell? (f (off + j)) = some x:=by
 have key : ∀ (off n : Nat) (cs ds : List AV),cut off n cs = some ds→ds = (cs.drop off).take n∧ds.length = n:=by
  intro off
  induction off with
  | zero =>
   intro n
   induction n with
   | zero=>intro cs ds h; simp [cut] at h; subst h; simp
   | succ n ih =>
    intro cs ds h
    cases cs with
    | nil=>simp [cut] at h
    | cons c cs =>
     simp only [cut] at h
     split at h
     ·rename_i r hr
      injection h with h
      subst h
      obtain ⟨h1,h2⟩:=ih cs r hr
      exact ⟨by simpa using h1,by simp [h2]⟩
     ·simp at h
  | succ off ih =>
   intro n cs ds h
   cases cs with
   | nil=>cases n <;> simp [cut] at h
   | cons c cs =>
    simp only [cut] at h
    obtain ⟨h1,h2⟩:=ih n cs ds h
    exact ⟨by simpa using h1,h2⟩
 intro off n ds h
 obtain ⟨h1,h2⟩:=key off n cs ds h
 have hex : ∀ i : Nat,∃ x : Value,∀ u : AV,ds[i]? = some u→w.cell? (f (off + i)) = some x∧RepC w S u x:=by
  intro i
  cases hu : ds[i]? with
  | none=>exact ⟨.bool true,fun u h=>by simp at h⟩
  | some u =>
   have : cs[off + i]? = some u:=by
    rw [h1,List.getElem?_take] at hu
    split at hu
    ·simpa using hu
    ·simp at hu
   obtain ⟨x,hx,hr⟩:=hf _ _ this
   exact ⟨x,fun u' h=>by injection h with h; subst h; exact ⟨hx,hr⟩⟩
 obtain ⟨g,hg⟩ : ∃ g : Nat→Value,∀ (i : Nat) (u : AV),ds[i]? = some u→w.cell? (f (off + i)) = some (g i)∧RepC w S u (g i):=⟨fun i=>(hex i).choose,fun i u hu=>(hex i).choose_spec u hu⟩
 refine ⟨(List.range n).map g,h2,⟨by simp [h2],fun i u x hu hx=>?_⟩,fun j x hx=>?_⟩
 ·have hi : i < n:=by rw [← h2]; exact (List.getElem?_eq_some_iff.1 hu).1
  simp [List.getElem?_map,List.getElem?_range hi] at hx
  subst hx
  exact (hg i u hu).2
 ·have hj : j < n:=by have:=(List.getElem?_eq_some_iff.1 hx).1; simpa using this
  simp [List.getElem?_map,List.getElem?_range hj] at hx
  subst hx
  have hd : ds[j]? = some (ds[j]'(by rw [h2]; exact hj)):=List.getElem?_eq_getElem _
  exact (hg j _ hd).1
end Go.Proofs.Ytdnaadcbimbfmaa.Am
