import Derived.Test.YtfphhpabfeepmaaDoorV6
import Derived.Laws.StructEq
import Derived.ChangeKeysEq
set_option linter.unusedSimpArgs false
set_option linter.unusedVariables false
namespace Go.Proofs.YtfphhpabfeepmaaDoor
open Go Go.RowKit Am

/-! ### Scripts: steps compared; the law -/
inductive FOK (d : Nat) (xs ys : Array Value) : List Field → List Bool → Prop
  | nil : FOK d xs ys [] []
  | cons {f : Field} {fs : List Field} {bs : List Bool} {a b : Value} {q : Bool} (hn : f.name ≠ "_") (h1 : ∀ w, (part f.type xs f.offset).run Tryd.prog w = .ok a w) (h2 : ∀ w, (part f.type ys f.offset).run Tryd.prog w = .ok b w)
      (h3 : ∀ w, (Op.equalIn d f.type a b).run Tryd.prog w = .ok q w) (h : FOK d xs ys fs bs) : FOK d xs ys (f :: fs) (q :: bs)
theorem run_fields {d : Nat} {xs ys : Array Value} : ∀ {fs : List Field} {bs : List Bool}, FOK d xs ys fs bs → ∀ w, (Op.eqFields d xs ys fs).run Tryd.prog w = .ok (bs.all id) w := by
  intro fs bs h
  induction h with
  | nil => intro w; simp [Op.eqFields]
  | cons hn h1 h2 h3 h ih =>
    rename_i f fs bs a b q
    intro w
    simp only [Op.eqFields, hn, ne_eq, not_false_eq_true, if_true, Sem.run_bind, h1, h2, h3, Result.andThen_ok]
    cases q
    · simp
    · simp [ih]
/-- The text of '==' at a struct. -/
theorem eq_struct {t : Nat} {fs : Array Field} {xs ys : Array Value} {bs : List Bool} (d : Nat) (hS : Tryd.prog.underlying t = some (.struct fs)) (hp : Tryd.prog.stoodInHeld t = false) (h : FOK d xs ys fs.toList bs) (w : World) :
    (Op.equalIn (d + 1) t (.agg xs) (.agg ys)).run Tryd.prog w = .ok (bs.all id) w := by
  have hf : Tryd.prog.fieldsOf t = fs := by simp [Program.fieldsOf, hS]
  rw [run_equalIn_struct w d t xs ys (by rw [hf]; exact hS) hp, hf]; exact run_fields h w
theorem bytes_beq (a b : ByteArray) : (a == b) = true ↔ a = b := by
  rw [beq_toListBytes, beq_iff_eq, ByteArray.toList_eq, ByteArray.toList_eq]
  obtain ⟨⟨x⟩⟩ := a
  obtain ⟨⟨y⟩⟩ := b
  simp
theorem eq_int (d : Nat) (a b : Int) (w : World) : (Op.equalIn (d + 1) 3 (.int .i64 a) (.int .i64 b)).run Tryd.prog w = .ok (a == b) w := run_equalIn_int w d 3 .i64 .i64 a b (by kernel_rfl)
theorem eq_str (d : Nat) (a b : ByteArray) (w : World) : (Op.equalIn (d + 1) 9 (.string a) (.string b)).run Tryd.prog w = .ok (a == b) w := by
  rw [run_equalIn_string w d 9 a b (by kernel_rfl), beq_toListBytes]
abbrev vI (n : Int) : Value := .int .i64 n
/-- What stands for plain cells is those cells. -/
def plV : AV → Option Value
  | .v x => some x
  | _ => none
theorem repl_v {w : World} {S : Nat → Prop} : ∀ (xs ys : List Value), RepL w S (xs.map AV.v) ys → ys = xs := by
  intro xs
  induction xs with
  | nil => intro ys h; exact h.unnil
  | cons x xs ih =>
    intro ys h
    obtain ⟨y, zs, rfl, h1, h2⟩ := RepL.uncons (c := .v x) h
    cases h1
    rw [ih zs h2]
theorem rep_agg_v {w : World} {S : Nat → Prop} {xs : List Value} {y : Value} (h : Rep w S (.agg (xs.map AV.v)) y) : y = .agg xs.toArray := by
  cases h with
  | c h => cases h
  | agg h => rw [repl_v xs _ h]
theorem csem_eq {t : Nat} {xs ys : List Value} {q : Bool} (hm : Tryd.prog.eqGuardType Tryd.prog.depth t = false) (h : ∀ w, (Op.equalIn 10000 t (.agg xs.toArray) (.agg ys.toArray)).run Tryd.prog w = .ok q w) : CSem Tryd.prog (.eq t) [.agg (xs.map AV.v), .agg (ys.map AV.v)] (.pure [aB q]) := by
  refine ⟨_, _, q, rfl, rfl, fun w S x y hx hy => ⟨0, fun ox oy => ?_, fun ox oy => ?_⟩⟩
  · rw [rep_agg_v hx, rep_agg_v hy]
    simp [run_eqGuard_agg w .eql t ox oy _ _ hm, run_eql_struct, h, World.drewN]
  · rw [rep_agg_v hx, rep_agg_v hy]
    simp [run_eqGuard_agg w .neq t ox oy _ _ hm, run_neq_struct, h, World.drewN]
theorem Stp.eq_iff (a b : Stp) : a = b ↔ (a.kind = b.kind ∧ a.node = b.node ∧ a.n = b.n ∧ a.ta = b.ta ∧ a.turn = b.turn ∧ a.by_ = b.by_) := by
  obtain ⟨a1, a2, a3, a4, a5, a6⟩ := a
  obtain ⟨b1, b2, b3, b4, b5, b6⟩ := b
  simp
def Stp.vs (o : Stp) : Array Value := #[vI o.kind, vI o.node, vI o.n, vI o.ta, vI o.turn, .string o.by_]
theorem eq_st58 (d : Nat) (a b : Stp) : ∃ q : Bool, (q = true ↔ a = b) ∧ ∀ w, (Op.equalIn (d + 2) 58 (.agg a.vs) (.agg b.vs)).run Tryd.prog w = .ok q w := by
  obtain ⟨a1, a2, a3, a4, a5, a6⟩ := a
  obtain ⟨b1, b2, b3, b4, b5, b6⟩ := b
  refine ⟨_, ?_, fun w => eq_struct (d + 1) Tryd.underlying58 (by kernel_rfl) (bs := [a1 == b1, a2 == b2, a3 == b3, a4 == b4, a5 == b5, a6 == b6]) ?_ w⟩
  · simp [Stp.eq_iff, bytes_beq]
  · exact .cons (by decide) (a := vI a1) (b := vI b1) (fun w => by kernel_rfl) (fun w => by kernel_rfl) (fun w => eq_int _ _ _ w) (.cons (by decide) (a := vI a2) (b := vI b2) (fun w => by kernel_rfl) (fun w => by kernel_rfl) (fun w => eq_int _ _ _ w)
      (.cons (by decide) (a := vI a3) (b := vI b3) (fun w => by kernel_rfl) (fun w => by kernel_rfl) (fun w => eq_int _ _ _ w) (.cons (by decide) (a := vI a4) (b := vI b4) (fun w => by kernel_rfl) (fun w => by kernel_rfl) (fun w => eq_int _ _ _ w)
      (.cons (by decide) (a := vI a5) (b := vI b5) (fun w => by kernel_rfl) (fun w => by kernel_rfl) (fun w => eq_int _ _ _ w) (.cons (by decide) (a := .string a6) (b := .string b6) (fun w => by kernel_rfl) (fun w => by kernel_rfl) (fun w => eq_str _ _ _ w) .nil)))))
theorem eqS58_ok (a : Stp) : CSem Tryd.prog (.eq 58) [.agg a.cs, .agg a.cs] (.pure [aB true]) := by
  obtain ⟨q', h1, h2⟩ := eq_st58 9998 a a
  have := h1.2 rfl
  subst this
  exact csem_eq (t := 58) (xs := a.vs.toList) (ys := a.vs.toList) (by kernel_rfl) h2
def awL : List UInt8 := [1, 2, 0, 4, 3]
theorem aw_dec : manyS awL = 2 ∧ outS awL = [⟨2, 0, 0, 0, 0, BA []⟩, ⟨4, 0, 3, 0, 0, BA []⟩] := ⟨by kernel_rfl, by kernel_rfl⟩
theorem awake25_ok : CSem Tryd.prog (.fn 23) [] (.pure [aB true]) := by
  refine of_text gam_ok mixed { n := 29 } Tryd.func23 (by kernel_rfl) rfl rfl (by simp) (by decide) fun F C D hF hC hD => ?_
  obtain ⟨out, hout⟩ : ∃ o, o = stR (outS awL) := ⟨_, rfl⟩
  have hd := hC _ _ _ (decode_ok awL (by decide) [[aU 1], [aU 2], [aU 0], [aU 4], [aU 3]] rfl 2 (by rw [aw_dec.1]; rfl) out hout)
  rw [aw_dec.2] at hout
  have r0 : out[0]? = some [aI 2, aI 0, aI 0, aI 0, aI 0, aS (BA [])] := by rw [hout]; rfl
  have r1 : out[1]? = some [aI 4, aI 0, aI 3, aI 0, aI 0, aS (BA [])] := by rw [hout]; rfl
  have t2 : F .cmp .eql 2 2 = true := by rw [eqF hF]; rfl
  have t3 : F .cmp .eql 3 3 = true := by rw [eqF hF]; rfl
  obtain ⟨k, hk⟩ : ∃ k, F .len out = k := ⟨_, rfl⟩
  have ek : F .cmp .eql k 2 = true := by rw [eqF hF, ← hk, lenF hF, hout]; rfl
  clear hout
  cbv
  refine ⟨_, hd, ?_⟩
  cbv
  refine bT (t2) ?_
  cbv
  rw [hk]
  refine bT (ek) ?_
  cbv
  refine ⟨0, _, rfl, r0, rfl, ?_⟩
  cbv
  refine bT (t2) ?_
  cbv
  refine ⟨1, _, rfl, r1, rfl, ?_⟩
  cbv
  rw [t3]
  simp
theorem decS_len (many : Nat) : ∀ (n : Nat) (r : List UInt8), (decS many n r).length ≤ n
  | 0, _ => Nat.zero_le _
  | n + 1, [] => Nat.zero_le _
  | n + 1, c :: t => by
    rw [decS_cons]
    split
    · exact Nat.le_succ_of_le (decS_len many n t)
    · split
      · exact Nat.zero_le _
      · simp only [List.length_cons]; exact Nat.succ_le_succ (decS_len many n _)
theorem scriptDecodes_ok (b : ByteArray) : CSem Tryd.prog (.fn 10) [aS b] (.pure [aB true]) := by
  refine of_text gam_ok mixed { n := 52 } Tryd.func10 (by kernel_rfl) rfl rfl (by simp) (by decide) fun F C D hF hC hD => ?_
  have haw := hC _ _ _ awake25_ok
  have tn : F .bnot true = false := by rw [bnotF hF]; rfl
  obtain ⟨l, hl⟩ : ∃ l, l = L b := ⟨_, rfl⟩
  obtain ⟨n', hn'⟩ : ∃ n' : Int, F .slen b = n' := ⟨_, rfl⟩
  have en : n' = (l.length : Int) := by rw [← hn', slenF hF, L_size, hl]
  have t0 : F .cmp .gtr n' 10000 = decide (10000 < l.length) := by rw [gtF hF, en]; congr 1; exact propext ⟨fun h => by omega, fun h => by omega⟩
  by_cases h1 : 10000 < l.length
  · have t0 : F .cmp .gtr n' 10000 = true := by rw [t0]; exact decide_eq_true h1
    clear hl en
    cbv
    refine ⟨_, haw, ?_⟩
    cbv
    refine cF (tn) ?_
    cbv
    rw [hn']
    refine bT (t0) ?_
    cbv
    refine ⟨_, haw, ?_⟩
    cbv
    simp
  · have t0 : F .cmp .gtr n' 10000 = false := by rw [t0]; exact decide_eq_false h1
    obtain ⟨r0, hr0⟩ : ∃ r, r = byR l := ⟨_, rfl⟩
    have hsb := hC _ _ _ (sb_ok b (by rw [L_size, ← hl]; omega) r0 (by rw [hr0, hl]))
    obtain ⟨m', hm'⟩ : ∃ m : Int, m = (manyS l : Nat) := ⟨_, rfl⟩
    obtain ⟨out, hout⟩ : ∃ o, o = stR (outS l) := ⟨_, rfl⟩
    have hd := hC _ _ _ (decode_ok l (by omega) r0 hr0 m' hm' out hout)
    have hr := hC _ _ _ (rdecode_ok b l hl (by omega) m' hm' out hout)
    obtain ⟨k', hk'⟩ : ∃ k : Int, F .len out = k := ⟨_, rfl⟩
    obtain ⟨o, ho⟩ : ∃ o, o = outS l := ⟨_, rfl⟩
    rw [← ho] at hout
    have ek : k' = (o.length : Int) := by rw [← hk', lenF hF, hout, stR_len]
    have u1 : F .cmp .neq m' m' = false := by rw [neF hF]; exact decide_eq_false (fun h => h rfl)
    have u2 : F .cmp .neq k' k' = false := by rw [neF hF]; exact decide_eq_false (fun h => h rfl)
    have hol : o.length ≤ 5000 := by rw [ho]; exact decS_len _ _ _
    clear hl en hr0 hm' ho
    cbv
    refine ⟨_, haw, ?_⟩
    cbv
    refine cF (tn) ?_
    cbv
    rw [hn']
    refine bF (t0) ?_
    cbv
    refine ⟨_, hsb, ?_⟩
    cbv
    refine ⟨_, hd, ?_⟩
    cbv
    refine ⟨_, hr, ?_⟩
    cbv
    refine cF (u1) ?_
    cbv
    rw [hk']
    refine bF (u2) ?_
    cbv
    rw [hk']
    refine ⟨Nat × Int, fun x => { slots := [(39, aI x.2), (38, aI k'), (4, .sl out), (6, .sl out)], obs := [], ctr := 0 }, fun x => x.2 = (x.1 : Int) ∧ x.1 ≤ o.length, fun x => o.length - x.1, ⟨(0, 0), ⟨rfl, Nat.zero_le _⟩, (le_of [] (by simp [leSl, leOb, injK, memK, parK, noTup, lk, rn0, rnA, plain] <;> first | rfl | decide))⟩, fun x hx => ?_⟩
    obtain ⟨i, i'⟩ := x
    obtain ⟨ei, hi⟩ := hx
    simp only at ei hi
    have ek : k' = (o.length : Int) := ek
    have tl := ltF hF i o.length i' k' ei ek
    obtain ⟨i2, hi2⟩ : ∃ i2, F .ar .add .i64 i' 1 = i2 := ⟨_, rfl⟩
    by_cases hil : i < o.length
    · have tl : F .cmp .lss i' k' = true := tl.2 hil
      obtain ⟨x, hx⟩ : ∃ s, o[i]? = some s := ⟨_, List.getElem?_eq_getElem hil⟩
      have hrow : out[i]? = some x.cs := by rw [hout]; unfold stR; rw [List.getElem?_map, hx]; rfl
      have he := hC _ _ _ (eqS58_ok x)
      have ei2 : i2 = ((i + 1 : Nat) : Int) := hi2.symm.trans (incF hF ei (by omega))
      obtain ⟨xk, xn, xm, xa, xt, xb⟩ := x
      cbv
      refine bT (tl) ?_
      cbv
      refine ⟨hC _ _ _ (ben_ok (by kernel_rfl)), ?_⟩
      cbv
      refine ⟨i, _, ei, hrow, rfl, ?_⟩
      cbv
      refine ⟨i, _, ei, hrow, rfl, ?_⟩
      cbv
      refine ⟨_, he, ?_⟩
      cbv
      refine bF (tn) ?_
      cbv
      rw [hi2]
      exact ⟨(i + 1, i2), ⟨ei2, hil⟩, (show o.length - (i + 1) < o.length - i by omega), (le_of [] (by simp [leSl, leOb, injK, memK, parK, noTup, lk, rn0, rnA, plain] <;> first | rfl | decide))⟩
    · have tl : F .cmp .lss i' k' = false := by cases h : F .cmp .lss i' k' with | true => exact absurd (tl.1 h) hil | false => rfl
      cbv
      refine bF (tl) ?_
      cbv
end Go.Proofs.YtfphhpabfeepmaaDoor
