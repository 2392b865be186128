import Derived.Test.YtdmdahnnfancpaaTy
import Derived.Laws.BytesString
import Derived.IntWalk
import Derived.ProofKit
set_option linter.unusedSimpArgs false
set_option linter.unusedVariables false
namespace Go.Proofs.Ytdmdahnnfancpaa
open Go Go.RowKit Am

abbrev aI (n : Int) : AV := .v (.int .i64 n)
abbrev aS (s : ByteArray) : AV := .v (.string s)
abbrev aB (b : Bool) : AV := .v (.bool b)
abbrev aU (n : Int) : AV := .v (.int .u8 n)
theorem wrap_in {n : Int} (h0 : -9223372036854775808 ≤ n) (h1 : n ≤ 9223372036854775807) : IntKind.i64.wrap n = n := IntWalk.i64_in n ⟨h0, h1⟩
theorem br {c : Bool} {p q : Prop} (h1 : c = true → p) (h2 : c = false → q) : (c = true → p) ∧ (c = false → q) := ⟨h1, h2⟩
theorem brf {c : Bool} {p q : Prop} (h1 : c = false → p) (h2 : c = true → q) : (c = false → p) ∧ (c = true → q) := ⟨h1, h2⟩
theorem bT {c : Bool} {p q : Prop} (h : c = true) (k : p) : (c = true → p) ∧ (c = false → q) := ⟨fun _ => k, fun e => by rw [h] at e; cases e⟩
theorem bF {c : Bool} {p q : Prop} (h : c = false) (k : q) : (c = true → p) ∧ (c = false → q) := ⟨fun e => (by rw [h] at e; cases e), fun _ => k⟩
theorem cT {c : Bool} {p q : Prop} (h : c = true) (k : q) : (c = false → p) ∧ (c = true → q) := ⟨fun e => (by rw [h] at e; cases e), fun _ => k⟩
theorem cF {c : Bool} {p q : Prop} (h : c = false) (k : p) : (c = false → p) ∧ (c = true → q) := ⟨fun _ => k, fun e => by rw [h] at e; cases e⟩
theorem nfB {c : Bool} {p : Prop} (h : c = true ↔ p) (h2 : c = false) : ¬ p := fun hp => by have := h.2 hp; rw [h2] at this; simp at this
theorem lenF {F : Sy} (hF : F = sy) (rows : List (List AV)) : F .len rows = (rows.length : Int) := by rw [hF]; rfl
theorem slenF {F : Sy} (hF : F = sy) (s : ByteArray) : F .slen s = (s.size : Int) := by rw [hF]; rfl
theorem incF {F : Sy} (hF : F = sy) {i : Nat} {i' : Int} (hi : i' = (i : Int)) (h : i ≤ 4000000000) : F .ar .add .i64 i' 1 = ((i + 1 : Nat) : Int) := by rw [hF, hi]; exact (wrap_in (by omega) (by omega)).trans (by omega)
theorem addF {F : Sy} (hF : F = sy) {i j : Nat} {i' j' : Int} (hi : i' = (i : Int)) (hj : j' = (j : Int)) (h : i + j ≤ 4000000000) : F .ar .add .i64 i' j' = ((i + j : Nat) : Int) := by rw [hF, hi, hj]; exact (wrap_in (by omega) (by omega)).trans (by omega)
theorem ltF {F : Sy} (hF : F = sy) (i j : Nat) (i' j' : Int) (hi : i' = (i : Int)) (hj : j' = (j : Int)) : F .cmp .lss i' j' = true ↔ i < j := by rw [hF, hi, hj]; simp [sy]
theorem bnotF {F : Sy} (hF : F = sy) (b : Bool) : F .bnot b = !b := by rw [hF]; rfl
theorem eqF {F : Sy} (hF : F = sy) (i j : Int) : F .cmp .eql i j = decide (i = j) := by rw [hF]; simp [sy, Bool.beq_eq_decide_eq]
theorem neF {F : Sy} (hF : F = sy) (i j : Int) : F .cmp .neq i j = decide (i ≠ j) := by rw [hF]; simp [sy, bne, Bool.beq_eq_decide_eq]
theorem lsF {F : Sy} (hF : F = sy) (i j : Int) : F .cmp .lss i j = decide (i < j) := by rw [hF]; rfl
theorem gtF {F : Sy} (hF : F = sy) (i j : Int) : F .cmp .gtr i j = decide (i > j) := by rw [hF]; rfl
theorem geF {F : Sy} (hF : F = sy) (i j : Int) : F .cmp .geq i j = decide (i ≥ j) := by rw [hF]; rfl
theorem leF {F : Sy} (hF : F = sy) (i j : Int) : F .cmp .leq i j = decide (i ≤ j) := by rw [hF]; rfl

/-! ### Bytes -/
abbrev L (s : ByteArray) : List UInt8 := s.data.toList
def BA (l : List UInt8) : ByteArray := ⟨l.toArray⟩
theorem L_BA (l : List UInt8) : L (BA l) = l := rfl
theorem BA_L (s : ByteArray) : BA (L s) = s := by cases s; rfl
theorem L_inj {a b : ByteArray} (h : L a = L b) : a = b := by rw [← BA_L a, ← BA_L b, h]
theorem L_size (s : ByteArray) : s.size = (L s).length := by cases s; rfl
theorem L_cat (a b : ByteArray) : L (a ++ b) = L a ++ L b := by simp [L]
theorem L_extract (s : ByteArray) (l h : Nat) : L (s.extract l h) = ((L s).drop l).take (h - l) := by
  simp [L, List.extract_eq_take_drop]
def byR (l : List UInt8) : List (List AV) := l.map fun b => [aU b.toNat]
theorem byR_len (l : List UInt8) : (byR l).length = l.length := by simp [byR]
theorem byR_get {l : List UInt8} {i : Nat} {b : UInt8} (h : l[i]? = some b) : (byR l)[i]? = some [aU b.toNat] := by simp [byR, h]
theorem byR_one (l : List UInt8) : ∀ r ∈ byR l, r.length = 1 := fun r h => by
  obtain ⟨b, _, rfl⟩ := List.mem_map.1 h; rfl
theorem sbF {F : Sy} (hF : F = sy) (s : ByteArray) : F .sb s = byR (L s) := by rw [hF]; rfl
def sR (l : List (List UInt8)) : List (List AV) := l.map fun s => [aS (BA s)]
theorem sR_len (l : List (List UInt8)) : (sR l).length = l.length := by simp [sR]
theorem sR_get {l : List (List UInt8)} {i : Nat} {b : List UInt8} (h : l[i]? = some b) : (sR l)[i]? = some [aS (BA b)] := by simp [sR, h]
theorem sR_one (l : List (List UInt8)) : ∀ r ∈ sR l, r.length = 1 := fun r h => by
  obtain ⟨b, _, rfl⟩ := List.mem_map.1 h; rfl
def cR (l : List (List (List UInt8))) : List (List AV) := l.map fun s => [.sl (sR s)]
theorem cR_len (l : List (List (List UInt8))) : (cR l).length = l.length := by simp [cR]
theorem cR_get {l : List (List (List UInt8))} {i : Nat} {b : List (List UInt8)} (h : l[i]? = some b) : (cR l)[i]? = some [.sl (sR b)] := by simp [cR, h]
theorem cR_one (l : List (List (List UInt8))) : ∀ r ∈ cR l, r.length = 1 := fun r h => by
  obtain ⟨b, _, rfl⟩ := List.mem_map.1 h; rfl
theorem btF {F : Sy} (hF : F = sy) {s : ByteArray} {i : Nat} {b : UInt8} (h : (L s)[i]? = some b) : F .bt s (i : Int) = (b.toNat : Int) := by
  rw [hF]
  obtain ⟨h1, h2⟩ := List.getElem?_eq_some_iff.1 h
  have hlt : i < s.size := by rw [L_size]; exact h1
  simp only [sy, Int.toNat_natCast, hlt, dite_true]
  congr 2
theorem seqF {F : Sy} (hF : F = sy) (a b : ByteArray) : F .scmp .eql a b = decide (a = b) := by
  rw [hF]
  show (a.toList == b.toList) = _
  rw [Bool.beq_eq_decide_eq]
  congr 1
  rw [ByteArray.toList_eq, ByteArray.toList_eq]
  exact propext ⟨fun h => L_inj h, fun h => by rw [h]⟩
theorem sneF {F : Sy} (hF : F = sy) (a b : ByteArray) : F .scmp .neq a b = decide (a ≠ b) := by
  have h := seqF hF a b
  have : F .scmp .neq a b = !(F .scmp .eql a b) := by rw [hF]; rfl
  rw [this, h]; simp
theorem catF {F : Sy} (hF : F = sy) (a b : ByteArray) : F .cat a b = BA (L a ++ L b) := by
  rw [hF]
  show a ++ b = _
  rw [← BA_L (a ++ b), L_cat]

/-! ### What the library does -/
theorem reps_one {w : World} {S : Nat → Prop} {x : AV} {xs : List Value} (h : Reps w S [x] xs) : ∃ y, xs = [y] ∧ Rep w S x y := by
  obtain ⟨y, ys, rfl, h1, h2⟩ := h.uncons
  rw [h2.unnil]
  exact ⟨y, rfl, h1⟩
theorem rep_v {w : World} {S : Nat → Prop} {x y : Value} (h : Rep w S (.v x) y) : y = x := by
  cases h with
  | c h => cases h; rfl
theorem gr_below {w w' : World} {S : Nat → Prop} (hS : ∀ g, S g → g < w.heap.size) (h : Below w.heap.size w w') : Gr w S w' S := ⟨h, fun _ h => h, fun _ h => .inl h, fun g hg => Nat.lt_of_lt_of_le (hS g hg) h.size⟩
theorem enterT {f : Nat} {fn : Func} {c : Code} (hf : Try.prog.funcs[f]? = some fn) (hname : (fn.name == "runtime.NumGoroutine") = false) (hb : fn.body = some c) : ∀ cs w, (callFunc f cs).run Try.prog w = .ok (.enter f cs) w := fun cs w => by
  have h1 : fn.name ≠ "runtime.NumGoroutine" := by simpa using hname
  simp [callFunc, hf, h1, hb]
theorem le_frzS (s : St) (l : List Operand) : Le s (frzArgs s l) := by
  rintro W0 S0 n a w ⟨S, β, h⟩
  obtain ⟨S', h'⟩ := rel_frzArgs l h
  exact ⟨S', β, h'⟩
end Go.Proofs.Ytdmdahnnfancpaa
