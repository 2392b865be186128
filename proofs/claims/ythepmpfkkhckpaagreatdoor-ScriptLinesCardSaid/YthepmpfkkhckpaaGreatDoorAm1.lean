import Derived.WalkKit
import Derived.Below
import Derived.Orders
import Derived.Laws.AppendOwn
import Derived.Laws.AppendOwnNone
import Derived.Laws.Rows
import Derived.Laws.Cells
import Derived.KernelRfl
import Derived.Deep.Draws
set_option linter.unusedVariables false
set_option linter.unusedSimpArgs false
namespace Go.Proofs.YthepmpfkkhckpaaGreatDoor.Am
open Go Go.RowKit

/-! ### 1. Abstract values -/
inductive AV where
  | v (x : Value)
  | b (c : Bool)
  | agg (cs : List AV)
  | ptr (k off : Nat)
  | own (k ver : Nat)
  | sl (rows : List (List AV))
  | ept (cs : List AV) (off : Nat)
  | rel (k ver mver i : Nat) (cs : List AV) (off : Nat)
  | osl (k ver lo : Nat)
  | clo (g : Nat) (caps : List AV)
  | tup (vs : List AV)
  | lit (rows : List (List AV))
  | ftp (vs : List AV)
  | mo (k : Nat)
  | mp (ks : List ByteArray) (vs : List AV)
  | dead
  deriving Inhabited

/-- What a memory cell (or a plain slot) holds. S: the blocks that stay as they are. -/
inductive RepC (w : World) (S : Nat → Prop) : AV → Value → Prop
  | v (x : Value) (h1 : x.oneCell' = true) : RepC w S (.v x) x
  | b (c : Bool) : RepC w S (.b c) (.bool c)
  | nil (a : Option Addr) (c : Nat) (hn : a = none → c = 0) : RepC w S (.sl []) (.slice a 0 c)
  | sl (rows : List (List AV)) (a : Addr) (c sz : Nat) (f : Nat → Nat → Value) (ha : S a.block) (hlen : ∀ r ∈ rows, r.length = sz) (hc : rows.length ≤ c) (hm : rows.length ≤ 9223372036854775807)
      (h : ∀ i r, rows[i]? = some r → ∀ j u, r[j]? = some u → w.cell? (a.add (i * sz + j)) = some (f i j))
      (h' : ∀ i r, rows[i]? = some r → ∀ j u, r[j]? = some u → RepC w S u (f i j)) : RepC w S (.sl rows) (.slice (some a) rows.length c)

/-- w' is w on the blocks of S. -/
def SameOn (S : Nat → Prop) (w w' : World) : Prop := ∀ g, S g → w'.heap[g]? = w.heap[g]?

theorem RepC.mono {w w' : World} {S S' : Nat → Prop} (hw : SameOn S w w') (hS : ∀ g, S g → S' g) {x : AV} {y : Value} (h : RepC w S x y) : RepC w' S' x y := by
  induction h with
  | v x h1 => exact .v x h1
  | b c => exact .b c
  | nil a c hn => exact .nil a c hn
  | sl rows a c sz f ha hlen hc hm h h' ih =>
    refine .sl rows a c sz f (hS _ ha) hlen hc hm (fun i r hr j u hu => ?_) ih
    have h0 := h i r hr j u hu
    have hb : (a.add (i * sz + j)).block = a.block := by unfold Addr.add; split <;> rfl
    rw [World.cell?_of_block (w := w) (by rw [hb]; exact hw _ ha)]
    exact h0

theorem RepC.one {w : World} {S : Nat → Prop} {x : AV} {y : Value} (h : RepC w S x y) : y.oneCell' = true := by
  cases h <;> first | assumption | rfl
/-- Lists, place by place. -/
def RepL (w : World) (S : Nat → Prop) (cs : List AV) (xs : List Value) : Prop :=
  cs.length = xs.length ∧ ∀ (i : Nat) (u : AV) (x : Value), cs[i]? = some u → xs[i]? = some x → RepC w S u x
theorem RepL.mono {w w' : World} {S S' : Nat → Prop} (hw : SameOn S w w') (hS : ∀ g, S g → S' g) {cs : List AV} {xs : List Value} (h : RepL w S cs xs) : RepL w' S' cs xs :=
  ⟨h.1, fun i u x hu hx => (h.2 i u x hu hx).mono hw hS⟩
theorem RepL.nil (w : World) (S : Nat → Prop) : RepL w S [] [] := ⟨rfl, fun i u x h => by simp at h⟩
theorem RepL.cons {w : World} {S : Nat → Prop} {c : AV} {x : Value} {cs : List AV} {xs : List Value} (h : RepC w S c x) (hs : RepL w S cs xs) : RepL w S (c :: cs) (x :: xs) :=
  ⟨by simp [hs.1], fun i u y hu hy => by
    cases i with
    | zero => simp at hu hy; subst hu hy; exact h
    | succ i => exact hs.2 i u y (by simpa using hu) (by simpa using hy)⟩
theorem RepL.append {w : World} {S : Nat → Prop} {cs ds : List AV} {xs ys : List Value} (h : RepL w S cs xs) (k : RepL w S ds ys) : RepL w S (cs ++ ds) (xs ++ ys) := by
  refine ⟨by simp [h.1, k.1], fun i u x hu hx => ?_⟩
  by_cases hi : i < cs.length
  · rw [List.getElem?_append_left hi] at hu
    rw [List.getElem?_append_left (by rw [← h.1]; exact hi)] at hx
    exact h.2 i u x hu hx
  · rw [List.getElem?_append_right (by omega)] at hu
    rw [List.getElem?_append_right (by rw [← h.1]; omega), ← h.1] at hx
    exact k.2 _ u x hu hx
theorem RepL.uncons {w : World} {S : Nat → Prop} {c : AV} {cs : List AV} {xs : List Value} (h : RepL w S (c :: cs) xs) : ∃ y ys, xs = y :: ys ∧ RepC w S c y ∧ RepL w S cs ys := by
  cases xs with
  | nil => have := h.1; simp at this
  | cons y ys => exact ⟨y, ys, rfl, h.2 0 c y rfl rfl, by have := h.1; simpa using this, fun i u x hu hx => h.2 (i + 1) u x (by simpa using hu) (by simpa using hx)⟩
theorem RepL.unnil {w : World} {S : Nat → Prop} {xs : List Value} (h : RepL w S [] xs) : xs = [] := by
  have := h.1; simpa using this.symm
theorem RepL.drop {w : World} {S : Nat → Prop} {cs : List AV} {xs : List Value} (n : Nat) (h : RepL w S cs xs) : RepL w S (cs.drop n) (xs.drop n) :=
  ⟨by simp [h.1], fun i u x hu hx => h.2 (n + i) u x (by simpa using hu) (by simpa using hx)⟩
theorem RepL.take {w : World} {S : Nat → Prop} {cs : List AV} {xs : List Value} (n : Nat) (h : RepL w S cs xs) : RepL w S (cs.take n) (xs.take n) :=
  ⟨by simp [h.1], fun i u x hu hx => by
    rw [List.getElem?_take] at hu hx
    split at hu
    · rename_i hi; rw [if_pos hi] at hx; exact h.2 i u x hu hx
    · simp at hu⟩
theorem RepL.one {w : World} {S : Nat → Prop} {cs : List AV} {xs : List Value} (h : RepL w S cs xs) : ∀ x ∈ xs, x.oneCell' = true := by
  intro x hx
  obtain ⟨i, hi, rfl⟩ := List.getElem_of_mem hx
  have hc : i < cs.length := by rw [h.1]; exact hi
  exact (h.2 i cs[i] xs[i] (List.getElem?_eq_getElem hc) (List.getElem?_eq_getElem hi)).one
theorem RepL.get {w : World} {S : Nat → Prop} {cs : List AV} {xs : List Value} (h : RepL w S cs xs) {i : Nat} {u : AV} (hu : cs[i]? = some u) : ∃ x, xs[i]? = some x ∧ RepC w S u x := by
  have hi : i < xs.length := by rw [← h.1]; exact (List.getElem?_eq_some_iff.1 hu).1
  exact ⟨xs[i], List.getElem?_eq_getElem hi, h.2 i u _ hu (List.getElem?_eq_getElem hi)⟩

theorem add_add (a : Addr) (m n : Nat) : (a.add m).add n = a.add (m + n) := by
  unfold Addr.add
  by_cases h1 : m = 0
  · subst h1; simp
  · by_cases h2 : n = 0
    · subst h2; simp
    · simp [h1, h2, Nat.add_assoc]
theorem add_block (a : Addr) (n : Nat) : (a.add n).block = a.block := by unfold Addr.add; split <;> rfl
theorem add_mk (g n : Nat) : (⟨g, 0, none⟩ : Addr).add n = ⟨g, n, none⟩ := by unfold Addr.add; split <;> simp_all

/-- A place in memory from which on these cells stand. -/
def CellsAt (w : World) (S : Nat → Prop) (a : Addr) (cs : List AV) : Prop :=
  S a.block ∧ ∀ (i : Nat) (u : AV), cs[i]? = some u → ∃ y, w.cell? (a.add i) = some y ∧ RepC w S u y
theorem CellsAt.mono {w w' : World} {S S' : Nat → Prop} (hw : SameOn S w w') (hS : ∀ g, S g → S' g) {a : Addr} {cs : List AV} (h : CellsAt w S a cs) : CellsAt w' S' a cs :=
  ⟨hS _ h.1, fun i u hu => by
    obtain ⟨y, hy, hr⟩ := h.2 i u hu
    exact ⟨y, by rw [World.cell?_of_block (w := w) (by rw [add_block]; exact hw _ h.1)]; exact hy, hr.mono hw hS⟩⟩

/-- What may be handed to a call, and come out of one. -/
inductive Rep (w : World) (S : Nat → Prop) : AV → Value → Prop
  | c {x : AV} {y : Value} (h : RepC w S x y) : Rep w S x y
  | agg {cs : List AV} {xs : List Value} (h : RepL w S cs xs) : Rep w S (.agg cs) (.agg xs.toArray)
  | ept {cs : List AV} {off : Nat} {a : Addr} (h : CellsAt w S a cs) : Rep w S (.ept cs off) (.pointer (some (a.add off)))
  | clo {g : Nat} {caps : List AV} {xs : List Value} (hl : caps.length = xs.length) (h : ∀ (i : Nat) (u : AV) (x : Value), caps[i]? = some u → xs[i]? = some x → Rep w S u x) : Rep w S (.clo g caps) (.func (.func g) #[] xs.toArray)
  | lit {rows : List (List AV)} {a : Option Addr} (h : RepC w S (.sl rows) (.slice a rows.length rows.length)) : Rep w S (.lit rows) (.slice a rows.length rows.length)
  | ftp {vs : List AV} {xs : List Value} (hl : vs.length = xs.length) (h : ∀ (i : Nat) (u : AV) (x : Value), vs[i]? = some u → xs[i]? = some x → Rep w S u x) : Rep w S (.ftp vs) (.tuple xs.toArray)
  | mp {ks : List ByteArray} {vs : List AV} {es : Array MapEntry} {clock r : Nat} (hS : S r) (hh : w.heap[r]? = some (.map es clock)) (hk : es.toList.map (·.key) = ks.map Value.string) (hl : vs.length = ks.length) (hn : (es.toList.map (·.born)).Nodup) (hbd : ∀ x ∈ es.toList, x.born < clock) (h : ∀ (i : Nat) (u : AV) (e : MapEntry), vs[i]? = some u → es.toList[i]? = some e → Rep w S u e.val) : Rep w S (.mp ks vs) (.map (some r))
theorem Rep.mono {w w' : World} {S S' : Nat → Prop} (hw : SameOn S w w') (hS : ∀ g, S g → S' g) {x : AV} {y : Value} (h : Rep w S x y) : Rep w' S' x y := by
  induction h with
  | c h => exact .c (h.mono hw hS)
  | agg h => exact .agg (h.mono hw hS)
  | ept h => exact .ept (h.mono hw hS)
  | clo hl h ih => exact .clo hl ih
  | lit h => exact .lit (h.mono hw hS)
  | ftp hl h ih => exact .ftp hl ih
  | mp hs hh hk hl hn hbd h ih => exact .mp (hS _ hs) ((hw _ hs).trans hh) hk hl hn hbd ih
def Reps (w : World) (S : Nat → Prop) (cs : List AV) (xs : List Value) : Prop :=
  cs.length = xs.length ∧ ∀ (i : Nat) (u : AV) (x : Value), cs[i]? = some u → xs[i]? = some x → Rep w S u x
theorem Reps.mono {w w' : World} {S S' : Nat → Prop} (hw : SameOn S w w') (hS : ∀ g, S g → S' g) {cs : List AV} {xs : List Value} (h : Reps w S cs xs) : Reps w' S' cs xs :=
  ⟨h.1, fun i u x hu hx => (h.2 i u x hu hx).mono hw hS⟩
theorem Reps.nil (w : World) (S : Nat → Prop) : Reps w S [] [] := ⟨rfl, fun i u x h => by simp at h⟩
theorem Reps.cons {w : World} {S : Nat → Prop} {c : AV} {x : Value} {cs : List AV} {xs : List Value} (h : Rep w S c x) (hs : Reps w S cs xs) : Reps w S (c :: cs) (x :: xs) :=
  ⟨by simp [hs.1], fun i u y hu hy => by
    cases i with
    | zero => simp at hu hy; subst hu hy; exact h
    | succ i => exact hs.2 i u y (by simpa using hu) (by simpa using hy)⟩
theorem Reps.uncons {w : World} {S : Nat → Prop} {c : AV} {cs : List AV} {xs : List Value} (h : Reps w S (c :: cs) xs) : ∃ y ys, xs = y :: ys ∧ Rep w S c y ∧ Reps w S cs ys := by
  cases xs with
  | nil => have := h.1; simp at this
  | cons y ys => exact ⟨y, ys, rfl, h.2 0 c y rfl rfl, by have := h.1; simpa using this, fun i u x hu hx => h.2 (i + 1) u x (by simpa using hu) (by simpa using hx)⟩
theorem Reps.unnil {w : World} {S : Nat → Prop} {xs : List Value} (h : Reps w S [] xs) : xs = [] := by
  have := h.1; simpa using this.symm
end Go.Proofs.YthepmpfkkhckpaaGreatDoor.Am
set_option linter.unusedVariables false
namespace Go.Proofs.YthepmpfkkhckpaaGreatDoor.Am
open Go Go.RowKit
inductive TK where
  | other
  | struct
  | arr (n esz : Nat)
  | sli (e esz bytes : Nat)
  | mp (k e : Nat)
  | int (k : IntKind)
  | str
structure TI where
  size : Nat
  agg : Bool
  zero : List AV
  offs : List (Nat × Nat)
  kind : TK
end Go.Proofs.YthepmpfkkhckpaaGreatDoor.Am
