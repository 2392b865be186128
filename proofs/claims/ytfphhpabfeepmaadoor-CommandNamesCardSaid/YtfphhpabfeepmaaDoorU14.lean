import Derived.Test.YtfphhpabfeepmaaDoorU13
import Derived.Test.YtfphhpabfeepmaaDoorU7
import Derived.Laws.StructEq
import Derived.ChangeKeysEq
set_option linter.unusedSimpArgs false
set_option linter.unusedVariables false
namespace Go.Proofs.YtfphhpabfeepmaaDoor
open Go Go.RowKit Am

/-! ### Structs compared, a field taken -/
inductive FOK (d : Nat) (xs ys : Array Value) : List Field → List Bool → Prop
  | nil : FOK d xs ys [] []
  | cons {f : Field} {fs : List Field} {bs : List Bool} {a b : Value} {q : Bool} (hn : f.name ≠ "_") (h1 : ∀ w, (part f.type xs f.offset).run Tryd.prog w = .ok a w) (h2 : ∀ w, (part f.type ys f.offset).run Tryd.prog w = .ok b w)
      (h3 : ∀ w, (Op.equalIn d f.type a b).run Tryd.prog w = .ok q w) (h : FOK d xs ys fs bs) : FOK d xs ys (f :: fs) (q :: bs)
theorem run_fields {d : Nat} {xs ys : Array Value} : ∀ {fs : List Field} {bs : List Bool}, FOK d xs ys fs bs → ∀ w, (Op.eqFields d xs ys fs).run Tryd.prog w = .ok (bs.all id) w := by
  intro fs bs h
  induction h with
  | nil => intro w; simp [Op.eqFields]
  | cons hn h1 h2 h3 h ih =>
    rename_i f fs bs a b q
    intro w
    simp only [Op.eqFields, hn, ne_eq, not_false_eq_true, if_true, Sem.run_bind, h1, h2, h3, Result.andThen_ok]
    cases q
    · simp
    · simp [ih]
/-- The text of '==' at a struct. -/
theorem eq_struct {t : Nat} {fs : Array Field} {xs ys : Array Value} {bs : List Bool} (d : Nat) (hS : Tryd.prog.underlying t = some (.struct fs)) (hp : Tryd.prog.stoodInHeld t = false) (h : FOK d xs ys fs.toList bs) (w : World) :
    (Op.equalIn (d + 1) t (.agg xs) (.agg ys)).run Tryd.prog w = .ok (bs.all id) w := by
  have hf : Tryd.prog.fieldsOf t = fs := by simp [Program.fieldsOf, hS]
  rw [run_equalIn_struct w d t xs ys (by rw [hf]; exact hS) hp, hf]; exact run_fields h w
theorem bytes_beq (a b : ByteArray) : (a == b) = true ↔ a = b := by
  rw [beq_toListBytes, beq_iff_eq, ByteArray.toList_eq, ByteArray.toList_eq]
  obtain ⟨⟨x⟩⟩ := a
  obtain ⟨⟨y⟩⟩ := b
  simp
theorem eq_int (d : Nat) (a b : Int) (w : World) : (Op.equalIn (d + 1) 3 (.int .i64 a) (.int .i64 b)).run Tryd.prog w = .ok (a == b) w := run_equalIn_int w d 3 .i64 .i64 a b (by kernel_rfl)
theorem eq_str (d : Nat) (a b : ByteArray) (w : World) : (Op.equalIn (d + 1) 9 (.string a) (.string b)).run Tryd.prog w = .ok (a == b) w := by
  rw [run_equalIn_string w d 9 a b (by kernel_rfl), beq_toListBytes]
abbrev vI (n : Int) : Value := .int .i64 n
/-- What stands for plain cells is those cells. -/
def plV : AV → Option Value
  | .v x => some x
  | _ => none
theorem repl_v {w : World} {S : Nat → Prop} : ∀ (xs ys : List Value), RepL w S (xs.map AV.v) ys → ys = xs := by
  intro xs
  induction xs with
  | nil => intro ys h; exact h.unnil
  | cons x xs ih =>
    intro ys h
    obtain ⟨y, zs, rfl, h1, h2⟩ := RepL.uncons (c := .v x) h
    cases h1
    rw [ih zs h2]
theorem rep_agg_v {w : World} {S : Nat → Prop} {xs : List Value} {y : Value} (h : Rep w S (.agg (xs.map AV.v)) y) : y = .agg xs.toArray := by
  cases h with
  | c h => cases h
  | agg h => rw [repl_v xs _ h]
theorem csem_eq {t : Nat} {xs ys : List Value} {q : Bool} (hm : Tryd.prog.eqGuardType Tryd.prog.depth t = false) (h : ∀ w, (Op.equalIn 10000 t (.agg xs.toArray) (.agg ys.toArray)).run Tryd.prog w = .ok q w) : CSem Tryd.prog (.eq t) [.agg (xs.map AV.v), .agg (ys.map AV.v)] (.pure [aB q]) := by
  refine ⟨_, _, q, rfl, rfl, fun w S x y hx hy => ⟨0, fun ox oy => ?_, fun ox oy => ?_⟩⟩
  · rw [rep_agg_v hx, rep_agg_v hy]
    simp [run_eqGuard_agg w .eql t ox oy _ _ hm, run_eql_struct, h, World.drewN]
  · rw [rep_agg_v hx, rep_agg_v hy]
    simp [run_eqGuard_agg w .neq t ox oy _ _ hm, run_neq_struct, h, World.drewN]
theorem Cl.eq_iff (a b : Cl) : a = b ↔ (a.nm = b.nm ∧ a.ky = b.ky ∧ a.fl = b.fl ∧ a.vl = b.vl ∧ a.n = b.n ∧ a.m = b.m) := by
  obtain ⟨a1, a2, a3, a4, a5, a6⟩ := a
  obtain ⟨b1, b2, b3, b4, b5, b6⟩ := b
  simp
def Cl.vs (o : Cl) : Array Value := #[.string o.nm, .string o.ky, .string o.fl, .string o.vl, vI o.n, vI o.m]
theorem eq_cl61 (d : Nat) (a b : Cl) : ∃ q : Bool, (q = true ↔ a = b) ∧ ∀ w, (Op.equalIn (d + 2) 61 (.agg a.vs) (.agg b.vs)).run Tryd.prog w = .ok q w := by
  obtain ⟨a1, a2, a3, a4, a5, a6⟩ := a
  obtain ⟨b1, b2, b3, b4, b5, b6⟩ := b
  refine ⟨_, ?_, fun w => eq_struct (d + 1) Tryd.underlying61 (by kernel_rfl) (bs := [a1 == b1, a2 == b2, a3 == b3, a4 == b4, a5 == b5, a6 == b6]) ?_ w⟩
  · simp [Cl.eq_iff, bytes_beq]
  · exact .cons (by decide) (a := .string a1) (b := .string b1) (fun w => by kernel_rfl) (fun w => by kernel_rfl) (fun w => eq_str _ _ _ w) (.cons (by decide) (a := .string a2) (b := .string b2) (fun w => by kernel_rfl) (fun w => by kernel_rfl) (fun w => eq_str _ _ _ w)
      (.cons (by decide) (a := .string a3) (b := .string b3) (fun w => by kernel_rfl) (fun w => by kernel_rfl) (fun w => eq_str _ _ _ w) (.cons (by decide) (a := .string a4) (b := .string b4) (fun w => by kernel_rfl) (fun w => by kernel_rfl) (fun w => eq_str _ _ _ w)
      (.cons (by decide) (a := vI a5) (b := vI b5) (fun w => by kernel_rfl) (fun w => by kernel_rfl) (fun w => eq_int _ _ _ w) (.cons (by decide) (a := vI a6) (b := vI b6) (fun w => by kernel_rfl) (fun w => by kernel_rfl) (fun w => eq_int _ _ _ w) .nil)))))
theorem eqC61_ok (a : Cl) : CSem Tryd.prog (.eq 61) [.agg a.cs, .agg a.cs] (.pure [aB true]) := by
  obtain ⟨q', h1, h2⟩ := eq_cl61 9998 a a
  have := h1.2 rfl
  subst this
  exact csem_eq (t := 61) (xs := a.vs.toList) (ys := a.vs.toList) (by kernel_rfl) h2
theorem eq_cl64 (d : Nat) (a b : Cl) : ∃ q : Bool, (q = true ↔ a = b) ∧ ∀ w, (Op.equalIn (d + 2) 64 (.agg a.vs) (.agg b.vs)).run Tryd.prog w = .ok q w := by
  obtain ⟨a1, a2, a3, a4, a5, a6⟩ := a
  obtain ⟨b1, b2, b3, b4, b5, b6⟩ := b
  refine ⟨_, ?_, fun w => eq_struct (d + 1) Tryd.underlying64 (by kernel_rfl) (bs := [a1 == b1, a2 == b2, a3 == b3, a4 == b4, a5 == b5, a6 == b6]) ?_ w⟩
  · simp [Cl.eq_iff, bytes_beq]
  · exact .cons (by decide) (a := .string a1) (b := .string b1) (fun w => by kernel_rfl) (fun w => by kernel_rfl) (fun w => eq_str _ _ _ w) (.cons (by decide) (a := .string a2) (b := .string b2) (fun w => by kernel_rfl) (fun w => by kernel_rfl) (fun w => eq_str _ _ _ w)
      (.cons (by decide) (a := .string a3) (b := .string b3) (fun w => by kernel_rfl) (fun w => by kernel_rfl) (fun w => eq_str _ _ _ w) (.cons (by decide) (a := .string a4) (b := .string b4) (fun w => by kernel_rfl) (fun w => by kernel_rfl) (fun w => eq_str _ _ _ w)
      (.cons (by decide) (a := vI a5) (b := vI b5) (fun w => by kernel_rfl) (fun w => by kernel_rfl) (fun w => eq_int _ _ _ w) (.cons (by decide) (a := vI a6) (b := vI b6) (fun w => by kernel_rfl) (fun w => by kernel_rfl) (fun w => eq_int _ _ _ w) .nil)))))
theorem eqC64_ok (a : Cl) : CSem Tryd.prog (.eq 64) [.agg a.cs, .agg a.cs] (.pure [aB true]) := by
  obtain ⟨q', h1, h2⟩ := eq_cl64 9998 a a
  have := h1.2 rfl
  subst this
  exact csem_eq (t := 64) (xs := a.vs.toList) (ys := a.vs.toList) (by kernel_rfl) h2
theorem fld_run (s : ByteArray) (w : World) : (Instr.field 29 (.agg #[.int .i64 2, .string s, .int .i64 0, .slice none 0 0]) 1).run Tryd.prog w = .ok (.string s) w := by kernel_rfl
theorem fld_ok (s : ByteArray) : CSem Tryd.prog (.fld 29 1) [fltA s] (.pure [aS s]) := by
  refine ⟨_, _, rfl, rfl, fun w S x hx => ⟨.string s, ?_, .c (.v _ rfl)⟩⟩
  have e : x = .agg #[.int .i64 2, .string s, .int .i64 0, .slice none 0 0] := rep_agg_v (xs := [.int .i64 2, .string s, .int .i64 0, .slice none 0 0]) hx
  rw [e]
  exact fld_run s w
end Go.Proofs.YtfphhpabfeepmaaDoor
