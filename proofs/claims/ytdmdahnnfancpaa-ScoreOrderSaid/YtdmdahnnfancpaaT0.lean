import Derived.Test.YtdmdahnnfancpaaO3
import Derived.Laws.StructEq
import Derived.ChangeKeysEq
set_option linter.unusedSimpArgs false
set_option linter.unusedVariables false
namespace Go.Proofs.Ytdmdahnnfancpaa
open Go Go.RowKit Am

/-! ### Pairs and dots compared -/
theorem run_items (d : Nat) (e : TypeId) (k : IntKind) (he : Try.prog.underlying e = some (.int k)) (hp : Try.prog.plainKey e = true) (xs ys : Array Value) : ∀ (is : List Nat) (w : World), (∀ i ∈ is, ∃ a b : Int, xs[i * 1]? = some (.int k a) ∧ ys[i * 1]? = some (.int k b)) →
    ∃ r : Bool, (Op.eqItems (d + 1) e 1 xs ys is).run Try.prog w = .ok r w ∧ (r = true ↔ ∀ i ∈ is, xs[i * 1]? = ys[i * 1]?)
  | [], w, _ => ⟨true, by simp [Op.eqItems], by simp⟩
  | i :: is, w, h => by
    obtain ⟨a, b, ha, hb⟩ := h i List.mem_cons_self
    obtain ⟨r, hr, hi⟩ := run_items d e k he hp xs ys is w (fun j hj => h j (List.mem_cons_of_mem _ hj))
    have p1 := run_part_plain w hp ha
    have p2 := run_part_plain w hp hb
    simp only [Op.eqItems, Sem.run_bind, p1, p2, Result.andThen_ok, run_equalIn_int w d e k k a b he]
    by_cases hab : a = b
    · subst hab
      refine ⟨r, by simpa using hr, ?_⟩
      rw [hi]
      constructor
      · intro hh j hj
        rcases List.mem_cons.1 hj with rfl | hj
        · rw [ha, hb]
        · exact hh j hj
      · intro hh j hj; exact hh j (List.mem_cons_of_mem _ hj)
    · refine ⟨false, by simp [hab], ?_⟩
      constructor
      · intro hh; simp at hh
      · intro hh
        have := hh i List.mem_cons_self
        rw [ha, hb] at this
        simp at this
        exact absurd this hab

inductive FOK (d : Nat) (xs ys : Array Value) : List Field → List Bool → Prop
  | nil : FOK d xs ys [] []
  | cons {f : Field} {fs : List Field} {bs : List Bool} {a b : Value} {q : Bool} (hn : f.name ≠ "_") (h1 : ∀ w, (part f.type xs f.offset).run Try.prog w = .ok a w) (h2 : ∀ w, (part f.type ys f.offset).run Try.prog w = .ok b w)
      (h3 : ∀ w, (Op.equalIn d f.type a b).run Try.prog w = .ok q w) (h : FOK d xs ys fs bs) : FOK d xs ys (f :: fs) (q :: bs)
theorem run_fields {d : Nat} {xs ys : Array Value} : ∀ {fs : List Field} {bs : List Bool}, FOK d xs ys fs bs → ∀ w, (Op.eqFields d xs ys fs).run Try.prog w = .ok (bs.all id) w := by
  intro fs bs h
  induction h with
  | nil => intro w; simp [Op.eqFields]
  | cons hn h1 h2 h3 h ih =>
    rename_i f fs bs a b q
    intro w
    simp only [Op.eqFields, hn, ne_eq, not_false_eq_true, if_true, Sem.run_bind, h1, h2, h3, Result.andThen_ok]
    cases q
    · simp
    · simp [ih]
/-- The text of '==' at a struct. -/
theorem eq_struct {t : Nat} {fs : Array Field} {xs ys : Array Value} {bs : List Bool} (d : Nat) (hS : Try.prog.underlying t = some (.struct fs)) (hp : Try.prog.stoodInHeld t = false) (h : FOK d xs ys fs.toList bs) (w : World) :
    (Op.equalIn (d + 1) t (.agg xs) (.agg ys)).run Try.prog w = .ok (bs.all id) w := by
  have hf : Try.prog.fieldsOf t = fs := by simp [Program.fieldsOf, hS]
  rw [run_equalIn_struct w d t xs ys (by rw [hf]; exact hS) hp, hf]; exact run_fields h w
theorem bytes_beq (a b : ByteArray) : (a == b) = true ↔ a = b := by
  rw [beq_toListBytes, beq_iff_eq, ByteArray.toList_eq, ByteArray.toList_eq]
  obtain ⟨⟨x⟩⟩ := a
  obtain ⟨⟨y⟩⟩ := b
  simp
theorem eq_int (d : Nat) (a b : Int) (w : World) : (Op.equalIn (d + 1) 3 (.int .i64 a) (.int .i64 b)).run Try.prog w = .ok (a == b) w := run_equalIn_int w d 3 .i64 .i64 a b (by kernel_rfl)
theorem eq_str (d : Nat) (a b : ByteArray) (w : World) : (Op.equalIn (d + 1) 9 (.string a) (.string b)).run Try.prog w = .ok (a == b) w := by
  rw [run_equalIn_string w d 9 a b (by kernel_rfl), beq_toListBytes]
/-- What stands for plain cells is those cells. -/
def plV : AV → Option Value
  | .v x => some x
  | _ => none
theorem repl_v {w : World} {S : Nat → Prop} : ∀ (xs ys : List Value), RepL w S (xs.map AV.v) ys → ys = xs := by
  intro xs
  induction xs with
  | nil => intro ys h; exact h.unnil
  | cons x xs ih =>
    intro ys h
    obtain ⟨y, zs, rfl, h1, h2⟩ := RepL.uncons (c := .v x) h
    cases h1
    rw [ih zs h2]
theorem rep_agg_v {w : World} {S : Nat → Prop} {xs : List Value} {y : Value} (h : Rep w S (.agg (xs.map AV.v)) y) : y = .agg xs.toArray := by
  cases h with
  | c h => cases h
  | agg h => rw [repl_v xs _ h]
theorem csem_eq {t : Nat} {xs ys : List Value} {q : Bool} (hm : Try.prog.eqGuardType Try.prog.depth t = false) (h : ∀ w, (Op.equalIn 10000 t (.agg xs.toArray) (.agg ys.toArray)).run Try.prog w = .ok q w) : CSem Try.prog (.eq t) [.agg (xs.map AV.v), .agg (ys.map AV.v)] (.pure [aB q]) := by
  refine ⟨_, _, q, rfl, rfl, fun w S x y hx hy => ⟨0, fun ox oy => ?_, fun ox oy => ?_⟩⟩
  · rw [rep_agg_v hx, rep_agg_v hy]
    simp [run_eqGuard_agg w .eql t ox oy _ _ hm, run_eql_struct, h, World.drewN]
  · rw [rep_agg_v hx, rep_agg_v hy]
    simp [run_eqGuard_agg w .neq t ox oy _ _ hm, run_neq_struct, h, World.drewN]
theorem prEq (t : Nat) (fs : Array Field) (hu : Try.prog.underlying t = some (.struct fs)) (hp : Try.prog.stoodInHeld t = false) (hm : Try.prog.eqGuardType Try.prog.depth t = false)
    (hF : ∀ a b : Pr, FOK 9999 #[.string a.m, .int .i64 a.n] #[.string b.m, .int .i64 b.n] fs.toList [a.m == b.m, a.n == b.n]) (a b : Pr) (q : Bool) (hq : q = true ↔ a = b) : CSem Try.prog (.eq t) [.agg [aS a.m, aI a.n], .agg [aS b.m, aI b.n]] (.pure [aB q]) := by
  have h := fun w => eq_struct 9999 hu hp (hF a b) w
  have e : ([a.m == b.m, a.n == b.n].all id) = q := by
    have e1 : ([a.m == b.m, a.n == b.n].all id) = true ↔ a = b := by
      obtain ⟨am, an⟩ := a
      obtain ⟨bm, bn⟩ := b
      simp only [List.all_cons, List.all_nil, id, Bool.and_eq_true, Bool.and_true, bytes_beq, beq_iff_eq, Pr.mk.injEq]
    cases h1 : ([a.m == b.m, a.n == b.n].all id) with
    | true => exact (hq.2 (e1.1 h1)).symm
    | false =>
      cases h2 : q with
      | false => rfl
      | true => have := e1.2 (hq.1 h2); rw [h1] at this; cases this
  rw [e] at h
  exact csem_eq (t := t) (xs := [.string a.m, .int .i64 a.n]) (ys := [.string b.m, .int .i64 b.n]) hm h
theorem prEq73 (a b : Pr) (q : Bool) (hq : q = true ↔ a = b) : CSem Try.prog (.eq 73) [.agg [aS a.m, aI a.n], .agg [aS b.m, aI b.n]] (.pure [aB q]) :=
  prEq 73 _ Try.underlying73 (by kernel_rfl) (by kernel_rfl) (fun a b => .cons (by decide) (a := .string a.m) (b := .string b.m) (fun w => by kernel_rfl) (fun w => by kernel_rfl) (fun w => eq_str _ _ _ w) (.cons (by decide) (a := .int .i64 a.n) (b := .int .i64 b.n) (fun w => by kernel_rfl) (fun w => by kernel_rfl) (fun w => eq_int _ _ _ w) .nil)) a b q hq
theorem prEq41 (a b : Pr) (q : Bool) (hq : q = true ↔ a = b) : CSem Try.prog (.eq 41) [.agg [aS a.m, aI a.n], .agg [aS b.m, aI b.n]] (.pure [aB q]) :=
  prEq 41 _ Try.underlying41 (by kernel_rfl) (by kernel_rfl) (fun a b => .cons (by decide) (a := .string a.m) (b := .string b.m) (fun w => by kernel_rfl) (fun w => by kernel_rfl) (fun w => eq_str _ _ _ w) (.cons (by decide) (a := .int .i64 a.n) (b := .int .i64 b.n) (fun w => by kernel_rfl) (fun w => by kernel_rfl) (fun w => eq_int _ _ _ w) .nil)) a b q hq
end Go.Proofs.Ytdmdahnnfancpaa
