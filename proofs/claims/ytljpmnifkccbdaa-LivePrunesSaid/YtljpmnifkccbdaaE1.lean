import Derived.Test.YtljpmnifkccbdaaB3
import Derived.Laws.StructEq
import Derived.ChangeKeysEq
set_option linter.unusedSimpArgs false
set_option linter.unusedVariables false
namespace Go.Proofs.Ytljpmnifkccbdaa
open Go Go.RowKit Am

theorem run_items (d : Nat) (e : TypeId) (k : IntKind) (he : Try.prog.underlying e = some (.int k)) (hp : Try.prog.plainKey e = true) (xs ys : Array Value) : ∀ (is : List Nat) (w : World), (∀ i ∈ is, ∃ a b : Int, xs[i * 1]? = some (.int k a) ∧ ys[i * 1]? = some (.int k b)) →
    ∃ r : Bool, (Op.eqItems (d + 1) e 1 xs ys is).run Try.prog w = .ok r w ∧ (r = true ↔ ∀ i ∈ is, xs[i * 1]? = ys[i * 1]?)
  | [], w, _ => ⟨true, by simp [Op.eqItems], by simp⟩
  | i :: is, w, h => by
    obtain ⟨a, b, ha, hb⟩ := h i List.mem_cons_self
    obtain ⟨r, hr, hi⟩ := run_items d e k he hp xs ys is w (fun j hj => h j (List.mem_cons_of_mem _ hj))
    have p1 := run_part_plain w hp ha
    have p2 := run_part_plain w hp hb
    simp only [Op.eqItems, Sem.run_bind, p1, p2, Result.andThen_ok, run_equalIn_int w d e k k a b he]
    by_cases hab : a = b
    · subst hab
      refine ⟨r, by simpa using hr, ?_⟩
      rw [hi]
      constructor
      · intro hh j hj
        rcases List.mem_cons.1 hj with rfl | hj
        · rw [ha, hb]
        · exact hh j hj
      · intro hh j hj; exact hh j (List.mem_cons_of_mem _ hj)
    · refine ⟨false, by simp [hab], ?_⟩
      constructor
      · intro hh; simp at hh
      · intro hh
        have := hh i List.mem_cons_self
        rw [ha, hb] at this
        simp at this
        exact absurd this hab

inductive FOK (d : Nat) (xs ys : Array Value) : List Field → List Bool → Prop
  | nil : FOK d xs ys [] []
  | cons {f : Field} {fs : List Field} {bs : List Bool} {a b : Value} {q : Bool} (hn : f.name ≠ "_") (h1 : ∀ w, (part f.type xs f.offset).run Try.prog w = .ok a w) (h2 : ∀ w, (part f.type ys f.offset).run Try.prog w = .ok b w)
      (h3 : ∀ w, (Op.equalIn d f.type a b).run Try.prog w = .ok q w) (h : FOK d xs ys fs bs) : FOK d xs ys (f :: fs) (q :: bs)
theorem run_fields {d : Nat} {xs ys : Array Value} : ∀ {fs : List Field} {bs : List Bool}, FOK d xs ys fs bs → ∀ w, (Op.eqFields d xs ys fs).run Try.prog w = .ok (bs.all id) w := by
  intro fs bs h
  induction h with
  | nil => intro w; simp [Op.eqFields]
  | cons hn h1 h2 h3 h ih =>
    rename_i f fs bs a b q
    intro w
    simp only [Op.eqFields, hn, ne_eq, not_false_eq_true, if_true, Sem.run_bind, h1, h2, h3, Result.andThen_ok]
    cases q
    · simp
    · simp [ih]
/-- The text of '==' at a struct. -/
theorem eq_struct {t : Nat} {fs : Array Field} {xs ys : Array Value} {bs : List Bool} (d : Nat) (hS : Try.prog.underlying t = some (.struct fs)) (hp : Try.prog.stoodInHeld t = false) (h : FOK d xs ys fs.toList bs) (w : World) :
    (Op.equalIn (d + 1) t (.agg xs) (.agg ys)).run Try.prog w = .ok (bs.all id) w := by
  have hf : Try.prog.fieldsOf t = fs := by simp [Program.fieldsOf, hS]
  rw [run_equalIn_struct w d t xs ys (by rw [hf]; exact hS) hp, hf]; exact run_fields h w
theorem bytes_beq (a b : ByteArray) : (a == b) = true ↔ a = b := by
  rw [beq_toListBytes, beq_iff_eq, ByteArray.toList_eq, ByteArray.toList_eq]
  obtain ⟨⟨x⟩⟩ := a
  obtain ⟨⟨y⟩⟩ := b
  simp
theorem eq_int (d : Nat) (a b : Int) (w : World) : (Op.equalIn (d + 1) 3 (.int .i64 a) (.int .i64 b)).run Try.prog w = .ok (a == b) w := run_equalIn_int w d 3 .i64 .i64 a b (by kernel_rfl)
theorem eq_str (d : Nat) (a b : ByteArray) (w : World) : (Op.equalIn (d + 1) 9 (.string a) (.string b)).run Try.prog w = .ok (a == b) w := by
  rw [run_equalIn_string w d 9 a b (by kernel_rfl), beq_toListBytes]
abbrev vI (n : Int) : Value := .int .i64 n
def Dt.vs (d : Dt) : Array Value := #[vI d.R, vI d.N]
def vvs (v : VV) : Array Value := #[vI (v 0), vI (v 1), vI (v 2), vI (v 3), vI (v 4), vI (v 5), vI (v 6), vI (v 7), vI (v 8), vI (v 9), vI (v 10), vI (v 11), vI (v 12), vI (v 13), vI (v 14), vI (v 15)]
def Opn.vs (o : Opn) : Array Value := #[vI o.kind, .string o.key, .string o.fld, .string o.val, vI o.num, vI o.ref.R, vI o.ref.N]
def Ev.vs (e : Ev) : Array Value := #[vI e.dot.R, vI e.dot.N, vI e.time, vI (e.deps 0), vI (e.deps 1), vI (e.deps 2), vI (e.deps 3), vI (e.deps 4), vI (e.deps 5), vI (e.deps 6), vI (e.deps 7), vI (e.deps 8), vI (e.deps 9), vI (e.deps 10), vI (e.deps 11), vI (e.deps 12), vI (e.deps 13), vI (e.deps 14), vI (e.deps 15),
  vI e.op.kind, .string e.op.key, .string e.op.fld, .string e.op.val, vI e.op.num, vI e.op.ref.R, vI e.op.ref.N]
theorem eq_dot (d : Nat) (a b : Dt) : ∃ q : Bool, (q = true ↔ a = b) ∧ ∀ w, (Op.equalIn (d + 2) 28 (.agg a.vs) (.agg b.vs)).run Try.prog w = .ok q w := by
  obtain ⟨aR, aN⟩ := a
  obtain ⟨bR, bN⟩ := b
  refine ⟨_, ?_, fun w => eq_struct (d + 1) Try.underlying28 (by kernel_rfl) (bs := [aR == bR, aN == bN]) ?_ w⟩
  · simp
  · exact .cons (by decide) (a := vI aR) (b := vI bR) (fun w => by kernel_rfl) (fun w => by kernel_rfl) (fun w => eq_int d aR bR w) (.cons (by decide) (a := vI aN) (b := vI bN) (fun w => by kernel_rfl) (fun w => by kernel_rfl) (fun w => eq_int d aN bN w) .nil)
theorem vvs_get (v : VV) (i : Nat) (h : i < 16) : (vvs v)[i * 1]? = some (vI (v ⟨i, h⟩)) := by
  match i, h with
  | 0, _ => rfl | 1, _ => rfl | 2, _ => rfl | 3, _ => rfl | 4, _ => rfl | 5, _ => rfl | 6, _ => rfl | 7, _ => rfl
  | 8, _ => rfl | 9, _ => rfl | 10, _ => rfl | 11, _ => rfl | 12, _ => rfl | 13, _ => rfl | 14, _ => rfl | 15, _ => rfl
  | n+16, h => exact absurd h (by omega)
theorem info3 : ∃ i, Try.prog.info? 3 = some i ∧ Try.prog.cellsOf 3 = 1 := by
  have h : (Try.prog.info? 3).isSome = true := by kernel_rfl
  obtain ⟨i, hi⟩ := Option.isSome_iff_exists.1 h
  exact ⟨i, hi, by kernel_rfl⟩
theorem eq_vv (d : Nat) (a b : VV) : ∃ q : Bool, (q = true ↔ a = b) ∧ ∀ w, (Op.equalIn (d + 2) 30 (.agg (vvs a)) (.agg (vvs b))).run Try.prog w = .ok q w := by
  obtain ⟨i, hi, hc⟩ := info3
  have key : ∀ w, ∃ r : Bool, (Op.equalIn (d + 2) 30 (.agg (vvs a)) (.agg (vvs b))).run Try.prog w = .ok r w ∧ (r = true ↔ a = b) := by
    intro w
    rw [run_equalIn_array w (d + 1) (t := 30) (e := 3) (n := 16) (vvs a) (vvs b) (by kernel_rfl) hi, hc]
    obtain ⟨r, h1, h2⟩ := run_items d 3 .i64 (by kernel_rfl) (by kernel_rfl) (vvs a) (vvs b) (List.range 16) w (fun j hj => by
      have hj : j < 16 := by simpa using hj
      exact ⟨_, _, vvs_get a j hj, vvs_get b j hj⟩)
    refine ⟨r, h1, h2.trans ?_⟩
    constructor
    · intro h
      funext j
      have := h j.1 (by simp)
      rw [vvs_get a j.1 j.2, vvs_get b j.1 j.2] at this
      simpa using this
    · intro h j hj; rw [h]
  obtain ⟨q, hq⟩ : ∃ q : Bool, (q = true ↔ a = b) := by
    by_cases h : a = b
    · exact ⟨true, by simp [h]⟩
    · exact ⟨false, by simp [h]⟩
  refine ⟨q, hq, fun w => ?_⟩
  obtain ⟨r, h1, h2⟩ := key w
  rw [h1, Bool.eq_iff_iff.2 (h2.trans hq.symm)]
theorem eq_op (d : Nat) (a b : Opn) : ∃ q : Bool, (q = true ↔ a = b) ∧ ∀ w, (Op.equalIn (d + 3) 32 (.agg a.vs) (.agg b.vs)).run Try.prog w = .ok q w := by
  obtain ⟨q, hq, hr⟩ := eq_dot d a.ref b.ref
  obtain ⟨a1, a2, a3, a4, a5, a6⟩ := a
  obtain ⟨b1, b2, b3, b4, b5, b6⟩ := b
  refine ⟨_, ?_, fun w => eq_struct (d + 2) Try.underlying32 (by kernel_rfl) (bs := [a1 == b1, a2 == b2, a3 == b3, a4 == b4, a5 == b5, q]) ?_ w⟩
  · simp [hq, bytes_beq]
  · exact .cons (by decide) (a := vI a1) (b := vI b1) (fun w => by kernel_rfl) (fun w => by kernel_rfl) (fun w => eq_int _ _ _ w) (.cons (by decide) (a := .string a2) (b := .string b2) (fun w => by kernel_rfl) (fun w => by kernel_rfl) (fun w => eq_str _ _ _ w)
      (.cons (by decide) (a := .string a3) (b := .string b3) (fun w => by kernel_rfl) (fun w => by kernel_rfl) (fun w => eq_str _ _ _ w) (.cons (by decide) (a := .string a4) (b := .string b4) (fun w => by kernel_rfl) (fun w => by kernel_rfl) (fun w => eq_str _ _ _ w)
      (.cons (by decide) (a := vI a5) (b := vI b5) (fun w => by kernel_rfl) (fun w => by kernel_rfl) (fun w => eq_int _ _ _ w) (.cons (by decide) (a := .agg a6.vs) (b := .agg b6.vs) (fun w => by kernel_rfl) (fun w => by kernel_rfl) hr .nil)))))
theorem eq_ev (d : Nat) (a b : Ev) : ∃ q : Bool, (q = true ↔ a = b) ∧ ∀ w, (Op.equalIn (d + 4) 34 (.agg a.vs) (.agg b.vs)).run Try.prog w = .ok q w := by
  obtain ⟨q1, hq1, hr1⟩ := eq_dot (d + 1) a.dot b.dot
  obtain ⟨q2, hq2, hr2⟩ := eq_vv (d + 1) a.deps b.deps
  obtain ⟨q3, hq3, hr3⟩ := eq_op d a.op b.op
  obtain ⟨a1, a2, a3, a4⟩ := a
  obtain ⟨b1, b2, b3, b4⟩ := b
  refine ⟨_, ?_, fun w => eq_struct (d + 3) Try.underlying34 (by kernel_rfl) (bs := [q1, a2 == b2, q2, q3]) ?_ w⟩
  · simp [hq1, hq2, hq3]
  · exact .cons (by decide) (a := .agg a1.vs) (b := .agg b1.vs) (fun w => by kernel_rfl) (fun w => by kernel_rfl) hr1 (.cons (by decide) (a := vI a2) (b := vI b2) (fun w => by kernel_rfl) (fun w => by kernel_rfl) (fun w => eq_int _ _ _ w)
      (.cons (by decide) (a := .agg (vvs a3)) (b := .agg (vvs b3)) (fun w => by kernel_rfl) (fun w => by kernel_rfl) hr2 (.cons (by decide) (a := .agg a4.vs) (b := .agg b4.vs) (fun w => by kernel_rfl) (fun w => by kernel_rfl) hr3 .nil)))
/-- What stands for plain cells is those cells. -/
def plV : AV → Option Value
  | .v x => some x
  | _ => none
theorem repl_v {w : World} {S : Nat → Prop} : ∀ (xs ys : List Value), RepL w S (xs.map AV.v) ys → ys = xs := by
  intro xs
  induction xs with
  | nil => intro ys h; exact h.unnil
  | cons x xs ih =>
    intro ys h
    obtain ⟨y, zs, rfl, h1, h2⟩ := RepL.uncons (c := .v x) h
    cases h1
    rw [ih zs h2]
theorem rep_agg_v {w : World} {S : Nat → Prop} {xs : List Value} {y : Value} (h : Rep w S (.agg (xs.map AV.v)) y) : y = .agg xs.toArray := by
  cases h with
  | c h => cases h
  | agg h => rw [repl_v xs _ h]
theorem csem_eq {t : Nat} {xs ys : List Value} {q : Bool} (hm : Try.prog.eqGuardType Try.prog.depth t = false) (h : ∀ w, (Op.equalIn 10000 t (.agg xs.toArray) (.agg ys.toArray)).run Try.prog w = .ok q w) : CSem Try.prog (.eq t) [.agg (xs.map AV.v), .agg (ys.map AV.v)] (.pure [aB q]) := by
  refine ⟨_, _, q, rfl, rfl, fun w S x y hx hy => ⟨0, fun ox oy => ?_, fun ox oy => ?_⟩⟩
  · rw [rep_agg_v hx, rep_agg_v hy]
    simp [run_eqGuard_agg w .eql t ox oy _ _ hm, run_eql_struct, h, World.drewN]
  · rw [rep_agg_v hx, rep_agg_v hy]
    simp [run_eqGuard_agg w .neq t ox oy _ _ hm, run_neq_struct, h, World.drewN]
theorem evEq_ok (a b : Ev) : ∃ q : Bool, (q = true ↔ a = b) ∧ CSem Try.prog (.eq 34) [.agg a.ac, .agg b.ac] (.pure [aB q]) := by
  obtain ⟨q, h1, h2⟩ := eq_ev 9996 a b
  exact ⟨q, h1, csem_eq (t := 34) (xs := a.vs.toList) (ys := b.vs.toList) (by kernel_rfl) h2⟩
theorem dtEq_ok (a b : Dt) : ∃ q : Bool, (q = true ↔ a = b) ∧ CSem Try.prog (.eq 28) [.agg a.ac, .agg b.ac] (.pure [aB q]) := by
  obtain ⟨q, h1, h2⟩ := eq_dot 9998 a b
  exact ⟨q, h1, csem_eq (t := 28) (xs := a.vs.toList) (ys := b.vs.toList) (by kernel_rfl) h2⟩
end Go.Proofs.Ytljpmnifkccbdaa
