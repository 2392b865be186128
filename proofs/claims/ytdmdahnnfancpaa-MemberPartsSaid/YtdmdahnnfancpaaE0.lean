import Derived.Test.YtdmdahnnfancpaaM2
import Derived.Laws.StructEq
import Derived.ChangeKeysEq
import Derived.Sort.Walk0
set_option linter.unusedSimpArgs false
set_option linter.unusedVariables false
namespace Go.Proofs.Ytdmdahnnfancpaa
open Go Go.RowKit Am

/-! ### Pairs and dots compared -/
theorem run_items (d : Nat) (e : TypeId) (k : IntKind) (he : Try.prog.underlying e = some (.int k)) (hp : Try.prog.plainKey e = true) (xs ys : Array Value) : ∀ (is : List Nat) (w : World), (∀ i ∈ is, ∃ a b : Int, xs[i * 1]? = some (.int k a) ∧ ys[i * 1]? = some (.int k b)) →
    ∃ r : Bool, (Op.eqItems (d + 1) e 1 xs ys is).run Try.prog w = .ok r w ∧ (r = true ↔ ∀ i ∈ is, xs[i * 1]? = ys[i * 1]?)
  | [], w, _ => ⟨true, by simp [Op.eqItems], by simp⟩
  | i :: is, w, h => by
    obtain ⟨a, b, ha, hb⟩ := h i List.mem_cons_self
    obtain ⟨r, hr, hi⟩ := run_items d e k he hp xs ys is w (fun j hj => h j (List.mem_cons_of_mem _ hj))
    have p1 := run_part_plain w hp ha
    have p2 := run_part_plain w hp hb
    simp only [Op.eqItems, Sem.run_bind, p1, p2, Result.andThen_ok, run_equalIn_int w d e k k a b he]
    by_cases hab : a = b
    · subst hab
      refine ⟨r, by simpa using hr, ?_⟩
      rw [hi]
      constructor
      · intro hh j hj
        rcases List.mem_cons.1 hj with rfl | hj
        · rw [ha, hb]
        · exact hh j hj
      · intro hh j hj; exact hh j (List.mem_cons_of_mem _ hj)
    · refine ⟨false, by simp [hab], ?_⟩
      constructor
      · intro hh; simp at hh
      · intro hh
        have := hh i List.mem_cons_self
        rw [ha, hb] at this
        simp at this
        exact absurd this hab

inductive FOK (d : Nat) (xs ys : Array Value) : List Field → List Bool → Prop
  | nil : FOK d xs ys [] []
  | cons {f : Field} {fs : List Field} {bs : List Bool} {a b : Value} {q : Bool} (hn : f.name ≠ "_") (h1 : ∀ w, (part f.type xs f.offset).run Try.prog w = .ok a w) (h2 : ∀ w, (part f.type ys f.offset).run Try.prog w = .ok b w)
      (h3 : ∀ w, (Op.equalIn d f.type a b).run Try.prog w = .ok q w) (h : FOK d xs ys fs bs) : FOK d xs ys (f :: fs) (q :: bs)
theorem run_fields {d : Nat} {xs ys : Array Value} : ∀ {fs : List Field} {bs : List Bool}, FOK d xs ys fs bs → ∀ w, (Op.eqFields d xs ys fs).run Try.prog w = .ok (bs.all id) w := by
  intro fs bs h
  induction h with
  | nil => intro w; simp [Op.eqFields]
  | cons hn h1 h2 h3 h ih =>
    rename_i f fs bs a b q
    intro w
    simp only [Op.eqFields, hn, ne_eq, not_false_eq_true, if_true, Sem.run_bind, h1, h2, h3, Result.andThen_ok]
    cases q
    · simp
    · simp [ih]
/-- The text of '==' at a struct. -/
theorem eq_struct {t : Nat} {fs : Array Field} {xs ys : Array Value} {bs : List Bool} (d : Nat) (hS : Try.prog.underlying t = some (.struct fs)) (hp : Try.prog.stoodInHeld t = false) (h : FOK d xs ys fs.toList bs) (w : World) :
    (Op.equalIn (d + 1) t (.agg xs) (.agg ys)).run Try.prog w = .ok (bs.all id) w := by
  have hf : Try.prog.fieldsOf t = fs := by simp [Program.fieldsOf, hS]
  rw [run_equalIn_struct w d t xs ys (by rw [hf]; exact hS) hp, hf]; exact run_fields h w
theorem bytes_beq (a b : ByteArray) : (a == b) = true ↔ a = b := by
  rw [beq_toListBytes, beq_iff_eq, ByteArray.toList_eq, ByteArray.toList_eq]
  obtain ⟨⟨x⟩⟩ := a
  obtain ⟨⟨y⟩⟩ := b
  simp
theorem eq_int (d : Nat) (a b : Int) (w : World) : (Op.equalIn (d + 1) 3 (.int .i64 a) (.int .i64 b)).run Try.prog w = .ok (a == b) w := run_equalIn_int w d 3 .i64 .i64 a b (by kernel_rfl)
theorem eq_str (d : Nat) (a b : ByteArray) (w : World) : (Op.equalIn (d + 1) 9 (.string a) (.string b)).run Try.prog w = .ok (a == b) w := by
  rw [run_equalIn_string w d 9 a b (by kernel_rfl), beq_toListBytes]
/-- What stands for plain cells is those cells. -/
def plV : AV → Option Value
  | .v x => some x
  | _ => none
theorem repl_v {w : World} {S : Nat → Prop} : ∀ (xs ys : List Value), RepL w S (xs.map AV.v) ys → ys = xs := by
  intro xs
  induction xs with
  | nil => intro ys h; exact h.unnil
  | cons x xs ih =>
    intro ys h
    obtain ⟨y, zs, rfl, h1, h2⟩ := RepL.uncons (c := .v x) h
    cases h1
    rw [ih zs h2]
theorem rep_agg_v {w : World} {S : Nat → Prop} {xs : List Value} {y : Value} (h : Rep w S (.agg (xs.map AV.v)) y) : y = .agg xs.toArray := by
  cases h with
  | c h => cases h
  | agg h => rw [repl_v xs _ h]
theorem csem_eq {t : Nat} {xs ys : List Value} {q : Bool} (hm : Try.prog.eqGuardType Try.prog.depth t = false) (h : ∀ w, (Op.equalIn 10000 t (.agg xs.toArray) (.agg ys.toArray)).run Try.prog w = .ok q w) : CSem Try.prog (.eq t) [.agg (xs.map AV.v), .agg (ys.map AV.v)] (.pure [aB q]) := by
  refine ⟨_, _, q, rfl, rfl, fun w S x y hx hy => ⟨0, fun ox oy => ?_, fun ox oy => ?_⟩⟩
  · rw [rep_agg_v hx, rep_agg_v hy]
    simp [run_eqGuard_agg w .eql t ox oy _ _ hm, run_eql_struct, h, World.drewN]
  · rw [rep_agg_v hx, rep_agg_v hy]
    simp [run_eqGuard_agg w .neq t ox oy _ _ hm, run_neq_struct, h, World.drewN]
theorem eq_bool (d : Nat) (a b : Bool) (w : World) : (Op.equalIn (d + 1) 4 (.bool a) (.bool b)).run Try.prog w = .ok (a == b) w := by
  have h := run_underlying (w := w) Try.underlying4
  unfold Op.equalIn
  simp [h]
theorem csem_bool (c d : Bool) (q : Bool) (hq : q = (c == d)) : CSem Try.prog (.eq 4) [aB c, aB d] (.pure [aB q]) := by
  refine ⟨_, _, q, rfl, rfl, fun w S x y hx hy => ⟨0, fun ox oy => ?_, fun ox oy => ?_⟩⟩
  · have h := eq_bool 9999 c d w
    rw [rep_v hx, rep_v hy]
    simp [eqGuard, binOp, Op.equal, h, World.drewN, hq, show Op.maxDepth = 10000 from rfl]
  · have h := eq_bool 9999 c d w
    rw [rep_v hx, rep_v hy]
    simp [eqGuard, binOp, Op.equal, h, World.drewN, hq, show Op.maxDepth = 10000 from rfl]
theorem slsF {F : Sy} (hF : F = sy) (a b : ByteArray) : F .scmp .lss a b = decide (L a < L b) := by
  rw [hF]
  show Op.bytesLess a.toList b.toList = _
  rw [bytesLess_eq, ByteArray.toList_eq, ByteArray.toList_eq]
theorem le_nilS (t : Nat) {s : St} (ht : lk t s.slots = some (.v (.slice none 0 0))) : Le s { slots := (t, .sl []) :: s.slots, obs := s.obs, ctr := s.ctr, par := s.par } := by
  rintro W0 S0 n a w ⟨S, β, hr⟩
  refine ⟨S, β, hr.gr, hr.par, hr.defers, hr.size, fun t' x hx => ?_, hr.objs, hr.up, hr.sep, hr.ctr, hr.parc, hr.fix⟩
  simp only [lk] at hx
  split at hx
  · rename_i e1
    injection hx with hx
    subst e1 hx
    obtain ⟨h1, h2⟩ := hr.slots _ _ ht
    refine ⟨h1, ?_⟩
    rw [srep_v h2]
    exact srep_c (.nil none 0 (fun _ => rfl))
  · exact hr.slots _ _ hx
theorem dtEq0 (t : Nat) (fs : Array Field) (hu : Try.prog.underlying t = some (.struct fs)) (hp : Try.prog.stoodInHeld t = false) (hm : Try.prog.eqGuardType Try.prog.depth t = false)
    (hF : ∀ a b : Dt, FOK 9999 #[.int .i64 a.R, .int .i64 a.N] #[.int .i64 b.R, .int .i64 b.N] fs.toList [a.R == b.R, a.N == b.N]) (a b : Dt) (q : Bool) (hq : q = true ↔ a = b) : CSem Try.prog (.eq t) [.agg [aI a.R, aI a.N], .agg [aI b.R, aI b.N]] (.pure [aB q]) := by
  have h := fun w => eq_struct 9999 hu hp (hF a b) w
  have e : ([a.R == b.R, a.N == b.N].all id) = q := by
    have e1 : ([a.R == b.R, a.N == b.N].all id) = true ↔ a = b := by
      obtain ⟨am, an⟩ := a
      obtain ⟨bm, bn⟩ := b
      simp only [List.all_cons, List.all_nil, id, Bool.and_eq_true, Bool.and_true, beq_iff_eq, Dt.mk.injEq]
    cases h1 : ([a.R == b.R, a.N == b.N].all id) with
    | true => exact (hq.2 (e1.1 h1)).symm
    | false =>
      cases h2 : q with
      | false => rfl
      | true => have := e1.2 (hq.1 h2); rw [h1] at this; cases this
  rw [e] at h
  exact csem_eq (t := t) (xs := [.int .i64 a.R, .int .i64 a.N]) (ys := [.int .i64 b.R, .int .i64 b.N]) hm h
theorem dtEq (a b : Dt) (q : Bool) (hq : q = true ↔ a = b) : CSem Try.prog (.eq 29) [.agg [aI a.R, aI a.N], .agg [aI b.R, aI b.N]] (.pure [aB q]) :=
  dtEq0 29 _ Try.underlying29 (by kernel_rfl) (by kernel_rfl) (fun a b => .cons (by decide) (a := .int .i64 a.R) (b := .int .i64 b.R) (fun w => by kernel_rfl) (fun w => by kernel_rfl) (fun w => eq_int _ _ _ w) (.cons (by decide) (a := .int .i64 a.N) (b := .int .i64 b.N) (fun w => by kernel_rfl) (fun w => by kernel_rfl) (fun w => eq_int _ _ _ w) .nil)) a b q hq
theorem sgeF {F : Sy} (hF : F = sy) (a b : ByteArray) : F .scmp .geq a b = !decide (L a < L b) := by
  rw [← slsF hF, hF]; rfl
/-! ### Events of unlike dots -/
theorem latR_some (l : List Ev) (h : l ≠ []) : ∃ e, latR l = some e := by
  rw [← best_latR]
  cases l with
  | nil => exact absurd rfl h
  | cons a t =>
    have key : ∀ (t : List Ev) (o : Ev), ∃ e, t.foldl best (some o) = some e := by
      intro t
      induction t with
      | nil => intro o; exact ⟨o, rfl⟩
      | cons b t ih =>
        intro o
        simp only [List.foldl_cons, best]
        split
        · exact ih b
        · exact ih o
    exact key t a
def unlikeL (l : List Ev) : Prop := (l.map Ev.dot).Nodup
theorem dot_inj {l : List Ev} (h : unlikeL l) {a b : Ev} (ha : a ∈ l) (hb : b ∈ l) (hd : a.dot = b.dot) : a = b := by
  unfold unlikeL at h
  revert h ha hb
  induction l with
  | nil => intro h ha; simp at ha
  | cons x l ih =>
    intro h ha hb
    rw [List.map_cons, List.nodup_cons] at h
    rcases List.mem_cons.1 ha with e1 | e1 <;> rcases List.mem_cons.1 hb with e2 | e2
    · rw [e1, e2]
    · exact absurd (List.mem_map.2 ⟨b, e2, hd.symm.trans (by rw [e1])⟩) h.1
    · exact absurd (List.mem_map.2 ⟨a, e1, hd.trans (by rw [e2])⟩) h.1
    · exact ih h.2 e1 e2
theorem later_eqdot {a b : Ev} (h1 : laterB a b = false) (h2 : laterB b a = false) : a.dot = b.dot := by
  have i1 := later_iff a b
  have i2 := later_iff b a
  rw [h1] at i1
  rw [h2] at i2
  simp only [Bool.false_eq_true, false_iff] at i1 i2
  obtain ⟨⟨ar, an⟩, at', ad, ao⟩ := a
  obtain ⟨⟨br, bn⟩, bt, bd, bo⟩ := b
  simp only [Dt.mk.injEq] at i1 i2 ⊢
  omega
theorem latR_none (l : List Ev) : latR l = none → l = [] := fun h => by
  cases l with
  | nil => rfl
  | cons a t => obtain ⟨e, he⟩ := latR_some (a :: t) (by simp); rw [h] at he; cases he
theorem latR_ext {l m : List Ev} (hu : unlikeL l) (h : ∀ x, x ∈ l ↔ x ∈ m) : latR l = latR m := by
  cases hl : latR l with
  | none =>
    have hln := latR_none l hl
    cases hm : latR m with
    | none => rfl
    | some b =>
      have := List.mem_of_find?_eq_some (by unfold latR at hm; exact hm)
      rw [← h, hln] at this
      simp at this
  | some a =>
    have ha : a ∈ l := List.mem_of_find?_eq_some (by unfold latR at hl; exact hl)
    have hta : topB l a = true := List.find?_some (by unfold latR at hl; exact hl)
    cases hm : latR m with
    | none => have := latR_none m hm; rw [h, this] at ha; simp at ha
    | some b =>
      have hb : b ∈ m := List.mem_of_find?_eq_some (by unfold latR at hm; exact hm)
      have htb : topB m b = true := List.find?_some (by unfold latR at hm; exact hm)
      unfold topB at hta htb
      rw [List.all_eq_true] at hta htb
      have h1 : laterB b a = false := by have := hta b ((h b).2 hb); simpa using this
      have h2 : laterB a b = false := by have := htb a ((h a).1 ha); simpa using this
      rw [dot_inj hu ha ((h b).2 hb) (later_eqdot h2 h1)]
theorem unlike_filter {l : List Ev} (hu : unlikeL l) (p : Ev → Bool) : unlikeL (l.filter p) := by
  unfold unlikeL at hu ⊢
  exact hu.sublist ((List.filter_sublist).map _)
/-- Events of which no two at unlike places have one dot. -/
theorem unlike_of {l : List Ev} (h : ∀ (a b : Nat) (x y : Ev), b < a → l[a]? = some x → l[b]? = some y → x.dot ≠ y.dot) : unlikeL l := by
  unfold unlikeL
  rw [List.nodup_iff_pairwise_ne, List.pairwise_map, List.pairwise_iff_getElem]
  intro i j hi hj hij
  exact fun e => h j i _ _ hij (List.getElem?_eq_getElem hj) (List.getElem?_eq_getElem hi) e.symm
theorem rev_take {l : List Ev} {c : Nat} {e : Ev} (hc : c < l.length) (he : l[l.length - 1 - c]? = some e) : l.reverse.take (c + 1) = l.reverse.take c ++ [e] := by
  rw [List.take_add_one, List.getElem?_reverse hc, he]; rfl
end Go.Proofs.Ytdmdahnnfancpaa
