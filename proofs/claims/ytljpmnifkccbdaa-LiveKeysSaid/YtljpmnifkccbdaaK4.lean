import Derived.Test.YtljpmnifkccbdaaK3
set_option linter.unusedSimpArgs false
set_option linter.unusedVariables false
namespace Go.Proofs.Ytljpmnifkccbdaa
open Go Go.RowKit Am Go.Sort

def bodyR (x y : Int) (one rf : Bool) : Bool := x == 11 || ((x == 4 || x == 3) && y == 3 && one) || ((x == 6 || x == 5) && y == 5 && one) || ((x == 8 || x == 7) && y == 7 && one) || (x == 1 && y == 1) || (x == 10 && y == 9 && rf)
def endsR (b a : Ev) : Bool := covers b a && !(typI a.op.kind == 0) && (b.op.key == a.op.key) && bodyR b.op.kind a.op.kind (b.op.fld == a.op.fld) (decide (b.op.ref.R = a.dot.R) && decide (b.op.ref.N = a.dot.N))
theorem brT {c : Bool} {p q : Prop} (h : c = true) (k : p) : (c = true → p) ∧ (c = false → q) := ⟨fun _ => k, fun e => by rw [h] at e; cases e⟩
theorem brF {c : Bool} {p q : Prop} (h : c = false) (k : q) : (c = true → p) ∧ (c = false → q) := ⟨fun e => (by rw [h] at e; cases e), fun _ => k⟩
theorem bfT {c : Bool} {p q : Prop} (h : c = true) (k : q) : (c = false → p) ∧ (c = true → q) := ⟨fun e => (by rw [h] at e; cases e), fun _ => k⟩
theorem bfF {c : Bool} {p q : Prop} (h : c = false) (k : p) : (c = false → p) ∧ (c = true → q) := ⟨fun _ => k, fun e => by rw [h] at e; cases e⟩
set_option maxHeartbeats 4000000 in
set_option maxRecDepth 20000 in
theorem endsR_ok (b a : Ev) (r : Bool) (hr : r = endsR b a) : CSem Try.prog (.fn 24) [.agg b.ac, .agg a.ac] (.pure [aB r]) := by
  obtain ⟨q, hq1, hq2⟩ := dtEq_ok b.op.ref a.dot
  have hq1 : q = (decide (b.op.ref.R = a.dot.R) && decide (b.op.ref.N = a.dot.N)) := by
    rw [Bool.eq_iff_iff, hq1]
    obtain ⟨x, y⟩ := a.dot
    obtain ⟨z, u⟩ := b.op.ref
    simp
  obtain ⟨co, hco⟩ : ∃ co, co = covers b a := ⟨_, rfl⟩
  obtain ⟨ty, hty⟩ : ∃ ty, ty = typI a.op.kind := ⟨_, rfl⟩
  obtain ⟨ke, hke⟩ : ∃ ke, ke = (b.op.key == a.op.key) := ⟨_, rfl⟩
  obtain ⟨fe, hfe⟩ : ∃ fe, fe = (b.op.fld == a.op.fld) := ⟨_, rfl⟩
  have hr2 : r = (co && !(ty == 0) && ke && bodyR b.op.kind a.op.kind fe q) := by rw [hr, hco, hty, hke, hfe, hq1]; rfl
  clear hr
  rw [beq_toListBytes] at hke hfe
  refine of_text gam_ok mixed { n := 112 } Try.func24 (by kernel_rfl) rfl rfl (by simp) (by decide) fun F C D hF hC hD => ?_
  have hcov := hC _ _ _ (coversRef_ok b a co hco)
  have htyp := hC _ _ _ (typR_ok a.op.kind ty hty)
  have heq := hC _ _ _ hq2
  have nco : F .bnot co = !co := bnotF hF co
  have ety := eqlF hF ty 0
  have eke : F .scmp .neq b.op.key a.op.key = !ke := by rw [hF, hke]; rfl
  have efe : F .scmp .eql b.op.fld a.op.fld = fe := by rw [hF, hfe]; rfl
  clear hco hty hke hfe hq1 hq2
  obtain ⟨⟨bR, bN⟩, bt, bd, ⟨kb, bkey, bfld, bval, bnum, ⟨bR2, bN2⟩⟩⟩ := b
  obtain ⟨⟨aR, aN⟩, at', ad, ⟨ka, akey, afld, aval, anum, ⟨aR2, aN2⟩⟩⟩ := a
  simp only at hr2 eke efe
  cases co with
  | false =>
    have hv : r = false := by rw [hr2]; rfl
    subst hv
    have t1 : F .bnot false = true := nco
    cbv
    refine ⟨_, hcov, ?_⟩
    cbv
    repeat ((first | refine brT (by assumption) ?_ | refine brF (by assumption) ?_ | refine bfT (by assumption) ?_ | refine bfF (by assumption) ?_) <;> cbv)
  | true =>
  have t1 : F .bnot true = false := nco
  by_cases hz : ty = 0
  · have hv : r = false := by rw [hr2, hz]; rfl
    subst hv
    have t2 : F .cmp .eql ty 0 = true := ety.trans (decide_eq_true hz)
    cbv
    refine ⟨_, hcov, ?_⟩
    cbv
    refine bfF t1 ?_
    cbv
    refine ⟨_, htyp, ?_⟩
    cbv
    repeat ((first | refine brT (by assumption) ?_ | refine brF (by assumption) ?_ | refine bfT (by assumption) ?_ | refine bfF (by assumption) ?_) <;> cbv)
  have t2 : F .cmp .eql ty 0 = false := ety.trans (decide_eq_false hz)
  have hz2 : (ty == 0) = false := by simpa using hz
  cases ke with
  | false =>
    have hv : r = false := by rw [hr2]; simp
    subst hv
    have t3 : F .scmp .neq bkey akey = true := eke
    cbv
    refine ⟨_, hcov, ?_⟩
    cbv
    refine bfF t1 ?_
    cbv
    refine ⟨_, htyp, ?_⟩
    cbv
    repeat ((first | refine brT (by assumption) ?_ | refine brF (by assumption) ?_ | refine bfT (by assumption) ?_ | refine bfF (by assumption) ?_) <;> cbv)
  | true =>
  have t3 : F .scmp .neq bkey akey = false := eke
  have hr3 : r = bodyR kb ka fe q := by rw [hr2, hz2]; simp
  clear hr2
  by_cases hkb : kb = 11
  · have hv : r = true := by rw [hr3, bodyR, hkb]; rfl
    subst hv
    have e11 : F .cmp .eql kb 11 = true := (eqlF hF kb 11).trans (decide_eq_true hkb)
    have e4 : F .cmp .eql kb 4 = false := (eqlF hF kb 4).trans (decide_eq_false (by omega))
    have e3 : F .cmp .eql kb 3 = false := (eqlF hF kb 3).trans (decide_eq_false (by omega))
    have e6 : F .cmp .eql kb 6 = false := (eqlF hF kb 6).trans (decide_eq_false (by omega))
    have e5 : F .cmp .eql kb 5 = false := (eqlF hF kb 5).trans (decide_eq_false (by omega))
    have e8 : F .cmp .eql kb 8 = false := (eqlF hF kb 8).trans (decide_eq_false (by omega))
    have e7 : F .cmp .eql kb 7 = false := (eqlF hF kb 7).trans (decide_eq_false (by omega))
    have e1 : F .cmp .eql kb 1 = false := (eqlF hF kb 1).trans (decide_eq_false (by omega))
    have e10 : F .cmp .eql kb 10 = false := (eqlF hF kb 10).trans (decide_eq_false (by omega))
    cbv
    refine ⟨_, hcov, ?_⟩
    cbv
    refine bfF t1 ?_
    cbv
    refine ⟨_, htyp, ?_⟩
    cbv
    refine bfF t2 ?_
    cbv
    refine brF t3 ?_
    cbv
    refine ⟨hC _ _ _ (ben_ok (by kernel_rfl)), ?_⟩
    cbv
    repeat ((first | refine brT (by assumption) ?_ | refine brF (by assumption) ?_ | refine bfT (by assumption) ?_ | refine bfF (by assumption) ?_ | refine ⟨_, heq, ?_⟩) <;> cbv)
  by_cases hkb : kb = 4
  · skip
    have e11 : F .cmp .eql kb 11 = false := (eqlF hF kb 11).trans (decide_eq_false (by omega))
    have e4 : F .cmp .eql kb 4 = true := (eqlF hF kb 4).trans (decide_eq_true hkb)
    have e3 : F .cmp .eql kb 3 = false := (eqlF hF kb 3).trans (decide_eq_false (by omega))
    have e6 : F .cmp .eql kb 6 = false := (eqlF hF kb 6).trans (decide_eq_false (by omega))
    have e5 : F .cmp .eql kb 5 = false := (eqlF hF kb 5).trans (decide_eq_false (by omega))
    have e8 : F .cmp .eql kb 8 = false := (eqlF hF kb 8).trans (decide_eq_false (by omega))
    have e7 : F .cmp .eql kb 7 = false := (eqlF hF kb 7).trans (decide_eq_false (by omega))
    have e1 : F .cmp .eql kb 1 = false := (eqlF hF kb 1).trans (decide_eq_false (by omega))
    have e10 : F .cmp .eql kb 10 = false := (eqlF hF kb 10).trans (decide_eq_false (by omega))
    by_cases hka : ka = 3
    · have hv : r = fe := by rw [hr3, bodyR, hkb, hka]; simp
      subst hv
      have f1 : F .cmp .eql ka 3 = true := (eqlF hF ka 3).trans (decide_eq_true hka)
      cases r with
      | true =>
        cbv
        refine ⟨_, hcov, ?_⟩
        cbv
        refine bfF t1 ?_
        cbv
        refine ⟨_, htyp, ?_⟩
        cbv
        refine bfF t2 ?_
        cbv
        refine brF t3 ?_
        cbv
        refine ⟨hC _ _ _ (ben_ok (by kernel_rfl)), ?_⟩
        cbv
        repeat ((first | refine brT (by assumption) ?_ | refine brF (by assumption) ?_ | refine bfT (by assumption) ?_ | refine bfF (by assumption) ?_ | refine ⟨_, heq, ?_⟩) <;> cbv)
      | false =>
        cbv
        refine ⟨_, hcov, ?_⟩
        cbv
        refine bfF t1 ?_
        cbv
        refine ⟨_, htyp, ?_⟩
        cbv
        refine bfF t2 ?_
        cbv
        refine brF t3 ?_
        cbv
        refine ⟨hC _ _ _ (ben_ok (by kernel_rfl)), ?_⟩
        cbv
        repeat ((first | refine brT (by assumption) ?_ | refine brF (by assumption) ?_ | refine bfT (by assumption) ?_ | refine bfF (by assumption) ?_ | refine ⟨_, heq, ?_⟩) <;> cbv)
    · have hv : r = false := by rw [hr3, bodyR, hkb]; simp [hka]
      subst hv
      have f1 : F .cmp .eql ka 3 = false := (eqlF hF ka 3).trans (decide_eq_false hka)
      cbv
      refine ⟨_, hcov, ?_⟩
      cbv
      refine bfF t1 ?_
      cbv
      refine ⟨_, htyp, ?_⟩
      cbv
      refine bfF t2 ?_
      cbv
      refine brF t3 ?_
      cbv
      refine ⟨hC _ _ _ (ben_ok (by kernel_rfl)), ?_⟩
      cbv
      repeat ((first | refine brT (by assumption) ?_ | refine brF (by assumption) ?_ | refine bfT (by assumption) ?_ | refine bfF (by assumption) ?_ | refine ⟨_, heq, ?_⟩) <;> cbv)
  by_cases hkb : kb = 3
  · skip
    have e11 : F .cmp .eql kb 11 = false := (eqlF hF kb 11).trans (decide_eq_false (by omega))
    have e4 : F .cmp .eql kb 4 = false := (eqlF hF kb 4).trans (decide_eq_false (by omega))
    have e3 : F .cmp .eql kb 3 = true := (eqlF hF kb 3).trans (decide_eq_true hkb)
    have e6 : F .cmp .eql kb 6 = false := (eqlF hF kb 6).trans (decide_eq_false (by omega))
    have e5 : F .cmp .eql kb 5 = false := (eqlF hF kb 5).trans (decide_eq_false (by omega))
    have e8 : F .cmp .eql kb 8 = false := (eqlF hF kb 8).trans (decide_eq_false (by omega))
    have e7 : F .cmp .eql kb 7 = false := (eqlF hF kb 7).trans (decide_eq_false (by omega))
    have e1 : F .cmp .eql kb 1 = false := (eqlF hF kb 1).trans (decide_eq_false (by omega))
    have e10 : F .cmp .eql kb 10 = false := (eqlF hF kb 10).trans (decide_eq_false (by omega))
    by_cases hka : ka = 3
    · have hv : r = fe := by rw [hr3, bodyR, hkb, hka]; simp
      subst hv
      have f1 : F .cmp .eql ka 3 = true := (eqlF hF ka 3).trans (decide_eq_true hka)
      cases r with
      | true =>
        cbv
        refine ⟨_, hcov, ?_⟩
        cbv
        refine bfF t1 ?_
        cbv
        refine ⟨_, htyp, ?_⟩
        cbv
        refine bfF t2 ?_
        cbv
        refine brF t3 ?_
        cbv
        refine ⟨hC _ _ _ (ben_ok (by kernel_rfl)), ?_⟩
        cbv
        repeat ((first | refine brT (by assumption) ?_ | refine brF (by assumption) ?_ | refine bfT (by assumption) ?_ | refine bfF (by assumption) ?_ | refine ⟨_, heq, ?_⟩) <;> cbv)
      | false =>
        cbv
        refine ⟨_, hcov, ?_⟩
        cbv
        refine bfF t1 ?_
        cbv
        refine ⟨_, htyp, ?_⟩
        cbv
        refine bfF t2 ?_
        cbv
        refine brF t3 ?_
        cbv
        refine ⟨hC _ _ _ (ben_ok (by kernel_rfl)), ?_⟩
        cbv
        repeat ((first | refine brT (by assumption) ?_ | refine brF (by assumption) ?_ | refine bfT (by assumption) ?_ | refine bfF (by assumption) ?_ | refine ⟨_, heq, ?_⟩) <;> cbv)
    · have hv : r = false := by rw [hr3, bodyR, hkb]; simp [hka]
      subst hv
      have f1 : F .cmp .eql ka 3 = false := (eqlF hF ka 3).trans (decide_eq_false hka)
      cbv
      refine ⟨_, hcov, ?_⟩
      cbv
      refine bfF t1 ?_
      cbv
      refine ⟨_, htyp, ?_⟩
      cbv
      refine bfF t2 ?_
      cbv
      refine brF t3 ?_
      cbv
      refine ⟨hC _ _ _ (ben_ok (by kernel_rfl)), ?_⟩
      cbv
      repeat ((first | refine brT (by assumption) ?_ | refine brF (by assumption) ?_ | refine bfT (by assumption) ?_ | refine bfF (by assumption) ?_ | refine ⟨_, heq, ?_⟩) <;> cbv)
  by_cases hkb : kb = 6
  · skip
    have e11 : F .cmp .eql kb 11 = false := (eqlF hF kb 11).trans (decide_eq_false (by omega))
    have e4 : F .cmp .eql kb 4 = false := (eqlF hF kb 4).trans (decide_eq_false (by omega))
    have e3 : F .cmp .eql kb 3 = false := (eqlF hF kb 3).trans (decide_eq_false (by omega))
    have e6 : F .cmp .eql kb 6 = true := (eqlF hF kb 6).trans (decide_eq_true hkb)
    have e5 : F .cmp .eql kb 5 = false := (eqlF hF kb 5).trans (decide_eq_false (by omega))
    have e8 : F .cmp .eql kb 8 = false := (eqlF hF kb 8).trans (decide_eq_false (by omega))
    have e7 : F .cmp .eql kb 7 = false := (eqlF hF kb 7).trans (decide_eq_false (by omega))
    have e1 : F .cmp .eql kb 1 = false := (eqlF hF kb 1).trans (decide_eq_false (by omega))
    have e10 : F .cmp .eql kb 10 = false := (eqlF hF kb 10).trans (decide_eq_false (by omega))
    by_cases hka : ka = 5
    · have hv : r = fe := by rw [hr3, bodyR, hkb, hka]; simp
      subst hv
      have f1 : F .cmp .eql ka 5 = true := (eqlF hF ka 5).trans (decide_eq_true hka)
      cases r with
      | true =>
        cbv
        refine ⟨_, hcov, ?_⟩
        cbv
        refine bfF t1 ?_
        cbv
        refine ⟨_, htyp, ?_⟩
        cbv
        refine bfF t2 ?_
        cbv
        refine brF t3 ?_
        cbv
        refine ⟨hC _ _ _ (ben_ok (by kernel_rfl)), ?_⟩
        cbv
        repeat ((first | refine brT (by assumption) ?_ | refine brF (by assumption) ?_ | refine bfT (by assumption) ?_ | refine bfF (by assumption) ?_ | refine ⟨_, heq, ?_⟩) <;> cbv)
      | false =>
        cbv
        refine ⟨_, hcov, ?_⟩
        cbv
        refine bfF t1 ?_
        cbv
        refine ⟨_, htyp, ?_⟩
        cbv
        refine bfF t2 ?_
        cbv
        refine brF t3 ?_
        cbv
        refine ⟨hC _ _ _ (ben_ok (by kernel_rfl)), ?_⟩
        cbv
        repeat ((first | refine brT (by assumption) ?_ | refine brF (by assumption) ?_ | refine bfT (by assumption) ?_ | refine bfF (by assumption) ?_ | refine ⟨_, heq, ?_⟩) <;> cbv)
    · have hv : r = false := by rw [hr3, bodyR, hkb]; simp [hka]
      subst hv
      have f1 : F .cmp .eql ka 5 = false := (eqlF hF ka 5).trans (decide_eq_false hka)
      cbv
      refine ⟨_, hcov, ?_⟩
      cbv
      refine bfF t1 ?_
      cbv
      refine ⟨_, htyp, ?_⟩
      cbv
      refine bfF t2 ?_
      cbv
      refine brF t3 ?_
      cbv
      refine ⟨hC _ _ _ (ben_ok (by kernel_rfl)), ?_⟩
      cbv
      repeat ((first | refine brT (by assumption) ?_ | refine brF (by assumption) ?_ | refine bfT (by assumption) ?_ | refine bfF (by assumption) ?_ | refine ⟨_, heq, ?_⟩) <;> cbv)
  by_cases hkb : kb = 5
  · skip
    have e11 : F .cmp .eql kb 11 = false := (eqlF hF kb 11).trans (decide_eq_false (by omega))
    have e4 : F .cmp .eql kb 4 = false := (eqlF hF kb 4).trans (decide_eq_false (by omega))
    have e3 : F .cmp .eql kb 3 = false := (eqlF hF kb 3).trans (decide_eq_false (by omega))
    have e6 : F .cmp .eql kb 6 = false := (eqlF hF kb 6).trans (decide_eq_false (by omega))
    have e5 : F .cmp .eql kb 5 = true := (eqlF hF kb 5).trans (decide_eq_true hkb)
    have e8 : F .cmp .eql kb 8 = false := (eqlF hF kb 8).trans (decide_eq_false (by omega))
    have e7 : F .cmp .eql kb 7 = false := (eqlF hF kb 7).trans (decide_eq_false (by omega))
    have e1 : F .cmp .eql kb 1 = false := (eqlF hF kb 1).trans (decide_eq_false (by omega))
    have e10 : F .cmp .eql kb 10 = false := (eqlF hF kb 10).trans (decide_eq_false (by omega))
    by_cases hka : ka = 5
    · have hv : r = fe := by rw [hr3, bodyR, hkb, hka]; simp
      subst hv
      have f1 : F .cmp .eql ka 5 = true := (eqlF hF ka 5).trans (decide_eq_true hka)
      cases r with
      | true =>
        cbv
        refine ⟨_, hcov, ?_⟩
        cbv
        refine bfF t1 ?_
        cbv
        refine ⟨_, htyp, ?_⟩
        cbv
        refine bfF t2 ?_
        cbv
        refine brF t3 ?_
        cbv
        refine ⟨hC _ _ _ (ben_ok (by kernel_rfl)), ?_⟩
        cbv
        repeat ((first | refine brT (by assumption) ?_ | refine brF (by assumption) ?_ | refine bfT (by assumption) ?_ | refine bfF (by assumption) ?_ | refine ⟨_, heq, ?_⟩) <;> cbv)
      | false =>
        cbv
        refine ⟨_, hcov, ?_⟩
        cbv
        refine bfF t1 ?_
        cbv
        refine ⟨_, htyp, ?_⟩
        cbv
        refine bfF t2 ?_
        cbv
        refine brF t3 ?_
        cbv
        refine ⟨hC _ _ _ (ben_ok (by kernel_rfl)), ?_⟩
        cbv
        repeat ((first | refine brT (by assumption) ?_ | refine brF (by assumption) ?_ | refine bfT (by assumption) ?_ | refine bfF (by assumption) ?_ | refine ⟨_, heq, ?_⟩) <;> cbv)
    · have hv : r = false := by rw [hr3, bodyR, hkb]; simp [hka]
      subst hv
      have f1 : F .cmp .eql ka 5 = false := (eqlF hF ka 5).trans (decide_eq_false hka)
      cbv
      refine ⟨_, hcov, ?_⟩
      cbv
      refine bfF t1 ?_
      cbv
      refine ⟨_, htyp, ?_⟩
      cbv
      refine bfF t2 ?_
      cbv
      refine brF t3 ?_
      cbv
      refine ⟨hC _ _ _ (ben_ok (by kernel_rfl)), ?_⟩
      cbv
      repeat ((first | refine brT (by assumption) ?_ | refine brF (by assumption) ?_ | refine bfT (by assumption) ?_ | refine bfF (by assumption) ?_ | refine ⟨_, heq, ?_⟩) <;> cbv)
  by_cases hkb : kb = 8
  · skip
    have e11 : F .cmp .eql kb 11 = false := (eqlF hF kb 11).trans (decide_eq_false (by omega))
    have e4 : F .cmp .eql kb 4 = false := (eqlF hF kb 4).trans (decide_eq_false (by omega))
    have e3 : F .cmp .eql kb 3 = false := (eqlF hF kb 3).trans (decide_eq_false (by omega))
    have e6 : F .cmp .eql kb 6 = false := (eqlF hF kb 6).trans (decide_eq_false (by omega))
    have e5 : F .cmp .eql kb 5 = false := (eqlF hF kb 5).trans (decide_eq_false (by omega))
    have e8 : F .cmp .eql kb 8 = true := (eqlF hF kb 8).trans (decide_eq_true hkb)
    have e7 : F .cmp .eql kb 7 = false := (eqlF hF kb 7).trans (decide_eq_false (by omega))
    have e1 : F .cmp .eql kb 1 = false := (eqlF hF kb 1).trans (decide_eq_false (by omega))
    have e10 : F .cmp .eql kb 10 = false := (eqlF hF kb 10).trans (decide_eq_false (by omega))
    by_cases hka : ka = 7
    · have hv : r = fe := by rw [hr3, bodyR, hkb, hka]; simp
      subst hv
      have f1 : F .cmp .eql ka 7 = true := (eqlF hF ka 7).trans (decide_eq_true hka)
      cases r with
      | true =>
        cbv
        refine ⟨_, hcov, ?_⟩
        cbv
        refine bfF t1 ?_
        cbv
        refine ⟨_, htyp, ?_⟩
        cbv
        refine bfF t2 ?_
        cbv
        refine brF t3 ?_
        cbv
        refine ⟨hC _ _ _ (ben_ok (by kernel_rfl)), ?_⟩
        cbv
        repeat ((first | refine brT (by assumption) ?_ | refine brF (by assumption) ?_ | refine bfT (by assumption) ?_ | refine bfF (by assumption) ?_ | refine ⟨_, heq, ?_⟩) <;> cbv)
      | false =>
        cbv
        refine ⟨_, hcov, ?_⟩
        cbv
        refine bfF t1 ?_
        cbv
        refine ⟨_, htyp, ?_⟩
        cbv
        refine bfF t2 ?_
        cbv
        refine brF t3 ?_
        cbv
        refine ⟨hC _ _ _ (ben_ok (by kernel_rfl)), ?_⟩
        cbv
        repeat ((first | refine brT (by assumption) ?_ | refine brF (by assumption) ?_ | refine bfT (by assumption) ?_ | refine bfF (by assumption) ?_ | refine ⟨_, heq, ?_⟩) <;> cbv)
    · have hv : r = false := by rw [hr3, bodyR, hkb]; simp [hka]
      subst hv
      have f1 : F .cmp .eql ka 7 = false := (eqlF hF ka 7).trans (decide_eq_false hka)
      cbv
      refine ⟨_, hcov, ?_⟩
      cbv
      refine bfF t1 ?_
      cbv
      refine ⟨_, htyp, ?_⟩
      cbv
      refine bfF t2 ?_
      cbv
      refine brF t3 ?_
      cbv
      refine ⟨hC _ _ _ (ben_ok (by kernel_rfl)), ?_⟩
      cbv
      repeat ((first | refine brT (by assumption) ?_ | refine brF (by assumption) ?_ | refine bfT (by assumption) ?_ | refine bfF (by assumption) ?_ | refine ⟨_, heq, ?_⟩) <;> cbv)
  by_cases hkb : kb = 7
  · skip
    have e11 : F .cmp .eql kb 11 = false := (eqlF hF kb 11).trans (decide_eq_false (by omega))
    have e4 : F .cmp .eql kb 4 = false := (eqlF hF kb 4).trans (decide_eq_false (by omega))
    have e3 : F .cmp .eql kb 3 = false := (eqlF hF kb 3).trans (decide_eq_false (by omega))
    have e6 : F .cmp .eql kb 6 = false := (eqlF hF kb 6).trans (decide_eq_false (by omega))
    have e5 : F .cmp .eql kb 5 = false := (eqlF hF kb 5).trans (decide_eq_false (by omega))
    have e8 : F .cmp .eql kb 8 = false := (eqlF hF kb 8).trans (decide_eq_false (by omega))
    have e7 : F .cmp .eql kb 7 = true := (eqlF hF kb 7).trans (decide_eq_true hkb)
    have e1 : F .cmp .eql kb 1 = false := (eqlF hF kb 1).trans (decide_eq_false (by omega))
    have e10 : F .cmp .eql kb 10 = false := (eqlF hF kb 10).trans (decide_eq_false (by omega))
    by_cases hka : ka = 7
    · have hv : r = fe := by rw [hr3, bodyR, hkb, hka]; simp
      subst hv
      have f1 : F .cmp .eql ka 7 = true := (eqlF hF ka 7).trans (decide_eq_true hka)
      cases r with
      | true =>
        cbv
        refine ⟨_, hcov, ?_⟩
        cbv
        refine bfF t1 ?_
        cbv
        refine ⟨_, htyp, ?_⟩
        cbv
        refine bfF t2 ?_
        cbv
        refine brF t3 ?_
        cbv
        refine ⟨hC _ _ _ (ben_ok (by kernel_rfl)), ?_⟩
        cbv
        repeat ((first | refine brT (by assumption) ?_ | refine brF (by assumption) ?_ | refine bfT (by assumption) ?_ | refine bfF (by assumption) ?_ | refine ⟨_, heq, ?_⟩) <;> cbv)
      | false =>
        cbv
        refine ⟨_, hcov, ?_⟩
        cbv
        refine bfF t1 ?_
        cbv
        refine ⟨_, htyp, ?_⟩
        cbv
        refine bfF t2 ?_
        cbv
        refine brF t3 ?_
        cbv
        refine ⟨hC _ _ _ (ben_ok (by kernel_rfl)), ?_⟩
        cbv
        repeat ((first | refine brT (by assumption) ?_ | refine brF (by assumption) ?_ | refine bfT (by assumption) ?_ | refine bfF (by assumption) ?_ | refine ⟨_, heq, ?_⟩) <;> cbv)
    · have hv : r = false := by rw [hr3, bodyR, hkb]; simp [hka]
      subst hv
      have f1 : F .cmp .eql ka 7 = false := (eqlF hF ka 7).trans (decide_eq_false hka)
      cbv
      refine ⟨_, hcov, ?_⟩
      cbv
      refine bfF t1 ?_
      cbv
      refine ⟨_, htyp, ?_⟩
      cbv
      refine bfF t2 ?_
      cbv
      refine brF t3 ?_
      cbv
      refine ⟨hC _ _ _ (ben_ok (by kernel_rfl)), ?_⟩
      cbv
      repeat ((first | refine brT (by assumption) ?_ | refine brF (by assumption) ?_ | refine bfT (by assumption) ?_ | refine bfF (by assumption) ?_ | refine ⟨_, heq, ?_⟩) <;> cbv)
  by_cases hkb : kb = 1
  · skip
    have e11 : F .cmp .eql kb 11 = false := (eqlF hF kb 11).trans (decide_eq_false (by omega))
    have e4 : F .cmp .eql kb 4 = false := (eqlF hF kb 4).trans (decide_eq_false (by omega))
    have e3 : F .cmp .eql kb 3 = false := (eqlF hF kb 3).trans (decide_eq_false (by omega))
    have e6 : F .cmp .eql kb 6 = false := (eqlF hF kb 6).trans (decide_eq_false (by omega))
    have e5 : F .cmp .eql kb 5 = false := (eqlF hF kb 5).trans (decide_eq_false (by omega))
    have e8 : F .cmp .eql kb 8 = false := (eqlF hF kb 8).trans (decide_eq_false (by omega))
    have e7 : F .cmp .eql kb 7 = false := (eqlF hF kb 7).trans (decide_eq_false (by omega))
    have e1 : F .cmp .eql kb 1 = true := (eqlF hF kb 1).trans (decide_eq_true hkb)
    have e10 : F .cmp .eql kb 10 = false := (eqlF hF kb 10).trans (decide_eq_false (by omega))
    by_cases hka : ka = 1
    · have hv : r = true := by rw [hr3, bodyR, hkb, hka]; simp
      subst hv
      have f1 : F .cmp .eql ka 1 = true := (eqlF hF ka 1).trans (decide_eq_true hka)
      cbv
      refine ⟨_, hcov, ?_⟩
      cbv
      refine bfF t1 ?_
      cbv
      refine ⟨_, htyp, ?_⟩
      cbv
      refine bfF t2 ?_
      cbv
      refine brF t3 ?_
      cbv
      refine ⟨hC _ _ _ (ben_ok (by kernel_rfl)), ?_⟩
      cbv
      repeat ((first | refine brT (by assumption) ?_ | refine brF (by assumption) ?_ | refine bfT (by assumption) ?_ | refine bfF (by assumption) ?_ | refine ⟨_, heq, ?_⟩) <;> cbv)
    · have hv : r = false := by rw [hr3, bodyR, hkb]; simp [hka]
      subst hv
      have f1 : F .cmp .eql ka 1 = false := (eqlF hF ka 1).trans (decide_eq_false hka)
      cbv
      refine ⟨_, hcov, ?_⟩
      cbv
      refine bfF t1 ?_
      cbv
      refine ⟨_, htyp, ?_⟩
      cbv
      refine bfF t2 ?_
      cbv
      refine brF t3 ?_
      cbv
      refine ⟨hC _ _ _ (ben_ok (by kernel_rfl)), ?_⟩
      cbv
      repeat ((first | refine brT (by assumption) ?_ | refine brF (by assumption) ?_ | refine bfT (by assumption) ?_ | refine bfF (by assumption) ?_ | refine ⟨_, heq, ?_⟩) <;> cbv)
  by_cases hkb : kb = 10
  · skip
    have e11 : F .cmp .eql kb 11 = false := (eqlF hF kb 11).trans (decide_eq_false (by omega))
    have e4 : F .cmp .eql kb 4 = false := (eqlF hF kb 4).trans (decide_eq_false (by omega))
    have e3 : F .cmp .eql kb 3 = false := (eqlF hF kb 3).trans (decide_eq_false (by omega))
    have e6 : F .cmp .eql kb 6 = false := (eqlF hF kb 6).trans (decide_eq_false (by omega))
    have e5 : F .cmp .eql kb 5 = false := (eqlF hF kb 5).trans (decide_eq_false (by omega))
    have e8 : F .cmp .eql kb 8 = false := (eqlF hF kb 8).trans (decide_eq_false (by omega))
    have e7 : F .cmp .eql kb 7 = false := (eqlF hF kb 7).trans (decide_eq_false (by omega))
    have e1 : F .cmp .eql kb 1 = false := (eqlF hF kb 1).trans (decide_eq_false (by omega))
    have e10 : F .cmp .eql kb 10 = true := (eqlF hF kb 10).trans (decide_eq_true hkb)
    by_cases hka : ka = 9
    · have hv : r = q := by rw [hr3, bodyR, hkb, hka]; simp
      subst hv
      have f1 : F .cmp .eql ka 9 = true := (eqlF hF ka 9).trans (decide_eq_true hka)
      cbv
      refine ⟨_, hcov, ?_⟩
      cbv
      refine bfF t1 ?_
      cbv
      refine ⟨_, htyp, ?_⟩
      cbv
      refine bfF t2 ?_
      cbv
      refine brF t3 ?_
      cbv
      refine ⟨hC _ _ _ (ben_ok (by kernel_rfl)), ?_⟩
      cbv
      repeat ((first | refine brT (by assumption) ?_ | refine brF (by assumption) ?_ | refine bfT (by assumption) ?_ | refine bfF (by assumption) ?_ | refine ⟨_, heq, ?_⟩) <;> cbv)
      exact ⟨rfl, trivial⟩
    · have hv : r = false := by rw [hr3, bodyR, hkb]; simp [hka]
      subst hv
      have f1 : F .cmp .eql ka 9 = false := (eqlF hF ka 9).trans (decide_eq_false hka)
      cbv
      refine ⟨_, hcov, ?_⟩
      cbv
      refine bfF t1 ?_
      cbv
      refine ⟨_, htyp, ?_⟩
      cbv
      refine bfF t2 ?_
      cbv
      refine brF t3 ?_
      cbv
      refine ⟨hC _ _ _ (ben_ok (by kernel_rfl)), ?_⟩
      cbv
      repeat ((first | refine brT (by assumption) ?_ | refine brF (by assumption) ?_ | refine bfT (by assumption) ?_ | refine bfF (by assumption) ?_ | refine ⟨_, heq, ?_⟩) <;> cbv)
  · have hv : r = false := by rw [hr3, bodyR]; simp_all
    subst hv
    have e11 : F .cmp .eql kb 11 = false := (eqlF hF kb 11).trans (decide_eq_false (by omega))
    have e4 : F .cmp .eql kb 4 = false := (eqlF hF kb 4).trans (decide_eq_false (by omega))
    have e3 : F .cmp .eql kb 3 = false := (eqlF hF kb 3).trans (decide_eq_false (by omega))
    have e6 : F .cmp .eql kb 6 = false := (eqlF hF kb 6).trans (decide_eq_false (by omega))
    have e5 : F .cmp .eql kb 5 = false := (eqlF hF kb 5).trans (decide_eq_false (by omega))
    have e8 : F .cmp .eql kb 8 = false := (eqlF hF kb 8).trans (decide_eq_false (by omega))
    have e7 : F .cmp .eql kb 7 = false := (eqlF hF kb 7).trans (decide_eq_false (by omega))
    have e1 : F .cmp .eql kb 1 = false := (eqlF hF kb 1).trans (decide_eq_false (by omega))
    have e10 : F .cmp .eql kb 10 = false := (eqlF hF kb 10).trans (decide_eq_false (by omega))
    cbv
    refine ⟨_, hcov, ?_⟩
    cbv
    refine bfF t1 ?_
    cbv
    refine ⟨_, htyp, ?_⟩
    cbv
    refine bfF t2 ?_
    cbv
    refine brF t3 ?_
    cbv
    refine ⟨hC _ _ _ (ben_ok (by kernel_rfl)), ?_⟩
    cbv
    repeat ((first | refine brT (by assumption) ?_ | refine brF (by assumption) ?_ | refine bfT (by assumption) ?_ | refine bfF (by assumption) ?_ | refine ⟨_, heq, ?_⟩) <;> cbv)
end Go.Proofs.Ytljpmnifkccbdaa
