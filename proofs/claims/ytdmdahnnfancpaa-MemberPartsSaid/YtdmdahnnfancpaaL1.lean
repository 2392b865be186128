import Derived.Test.YtdmdahnnfancpaaD1
set_option linter.unusedSimpArgs false
set_option linter.unusedVariables false
namespace Go.Proofs.Ytdmdahnnfancpaa
open Go Go.RowKit Am

/-! ### The latest event of each member -/
def evR (l : List Ev) : List (List AV) := l.map Ev.ac
theorem evR_len (l : List Ev) : (evR l).length = l.length := by simp [evR]
theorem evR_get {l : List Ev} {i : Nat} {e : Ev} (h : l[i]? = some e) : (evR l)[i]? = some e.ac := by simp [evR, h]
abbrev aE (e : Ev) : AV := .agg e.ac
def eget : List ByteArray → List Ev → ByteArray → Option Ev
  | k :: ks, v :: vs, s => if k = s then some v else eget ks vs s
  | _, _, _ => none
def eput : List ByteArray → List Ev → ByteArray → Ev → List Ev
  | k :: ks, u :: vs, s, v => if k = s then v :: vs else u :: eput ks vs s v
  | _, _, _, v => [v]
theorem mget_map : ∀ (ks : List ByteArray) (es : List Ev) (s : ByteArray), mget ks (es.map aE) s = (eget ks es s).map aE
  | [], _, _ => rfl
  | _ :: _, [], _ => rfl
  | k :: ks, e :: es, s => by
    simp only [List.map_cons, mget, eget]
    split
    · rfl
    · exact mget_map ks es s
theorem mput_map : ∀ (ks : List ByteArray) (es : List Ev) (s : ByteArray) (e : Ev), mputV ks (es.map aE) s (aE e) = (eput ks es s e).map aE
  | [], _, _, _ => rfl
  | _ :: _, [], _, _ => rfl
  | k :: ks, u :: es, s, e => by
    simp only [List.map_cons, mputV, eput]
    split
    · rfl
    · simp only [List.map_cons, mput_map ks es s e]
abbrev LM := List ByteArray × List Ev
def latF (m : LM) (e : Ev) : LM :=
  if e.op.kind = 7 then
    (match eget m.1 m.2 e.op.fld with
     | none => (mputK m.1 e.op.fld, eput m.1 m.2 e.op.fld e)
     | some old => if laterB e old = true then (mputK m.1 e.op.fld, eput m.1 m.2 e.op.fld e) else m)
  else m
def latS (l : List Ev) : LM := l.foldl latF ([], [])
theorem latS_step {l : List Ev} {i : Nat} {e : Ev} (h : l[i]? = some e) : latS (l.take (i + 1)) = latF (latS (l.take i)) e := by
  unfold latS
  rw [List.take_add_one, h]
  simp
set_option maxHeartbeats 4000000 in
theorem latest_ok (l : List Ev) (hl : l.length ≤ 1000000) (rows : List (List AV)) (hrows : rows = evR l) (ks : List ByteArray) (vs : List AV) (hk : ks = (latS l).1) (hv : vs = (latS l).2.map aE) : CSem Try.prog (.fn 39) [.sl rows] (.pure [.mp ks vs]) := by
  refine of_text gam_ok mixed { n := 41, cuts := [10] } Try.func39 (by kernel_rfl) rfl rfl (by simp) (by decide) fun F C D hF hC hD => ?_
  obtain ⟨n', hn'⟩ : ∃ n' : Int, F .len rows = n' := ⟨_, rfl⟩
  have en : n' = (l.length : Int) := by rw [← hn', lenF hF, hrows, evR_len]
  cbv
  rw [hn']
  refine ⟨Nat × Int × List ByteArray × List Ev × List AV, fun x => { slots := [(11, aI x.2.1), (10, aI n'), (9, .sl rows), (3, .mo 0)], obs := [(0, .mp x.2.2.1 x.2.2.2.2)], ctr := 1 }, fun x => x.2.1 = (x.1 : Int) ∧ x.1 ≤ l.length ∧ latS (l.take x.1) = (x.2.2.1, x.2.2.2.1) ∧ x.2.2.2.2 = x.2.2.2.1.map aE, fun x => l.length - x.1, ⟨(0, 0, [], [], []), ⟨rfl, Nat.zero_le _, rfl, rfl⟩, (le_of [] (by simp [leSl, leOb, injK, memK, parK, noTup, lk, rn0, rnA, plain] <;> first | rfl | decide))⟩, fun x hx => ?_⟩
  obtain ⟨i, i', kk, es, uu⟩ := x
  obtain ⟨ei, hi, hst, hu⟩ := hx
  simp only at ei hi hst hu
  have en : n' = (l.length : Int) := en
  have tl := ltF hF i l.length i' n' ei en
  obtain ⟨i2, hi2⟩ : ∃ i2, F .ar .add .i64 i' 1 = i2 := ⟨_, rfl⟩
  have ei2 : i2 = ((i + 1 : Nat) : Int) := hi2.symm.trans (incF hF ei (by omega))
  by_cases hil : i < l.length
  · have tl : F .cmp .lss i' n' = true := tl.2 hil
    obtain ⟨e, he⟩ : ∃ s, l[i]? = some s := ⟨_, List.getElem?_eq_getElem hil⟩
    have hrow : rows[i]? = some e.ac := by rw [hrows]; exact evR_get he
    have hstep := latS_step he
    rw [hst] at hstep
    have hmu : l.length - (i + 1) < l.length - i := by omega
    have t7 : F .cmp .neq e.op.kind 7 = decide (e.op.kind ≠ 7) := neF hF _ _
    by_cases h7 : e.op.kind = 7
    · have t7 : F .cmp .neq e.op.kind 7 = false := by rw [t7]; exact decide_eq_false (fun h => h h7)
      unfold latF at hstep
      rw [if_pos h7] at hstep
      obtain ⟨ks2, hks2⟩ : ∃ k, k = mputK kk e.op.fld := ⟨_, rfl⟩
      obtain ⟨es2, hes2⟩ : ∃ k, k = eput kk es e.op.fld e := ⟨_, rfl⟩
      obtain ⟨vs2, hvs2⟩ : ∃ k, k = mputV kk uu e.op.fld (aE e) := ⟨_, rfl⟩
      have hv2 : vs2 = es2.map aE := by rw [hvs2, hu, mput_map, hes2]
      cases hg : eget kk es e.op.fld with
      | none =>
        have hmg : mget kk uu e.op.fld = none := by rw [hu, mget_map, hg]; rfl
        have hst2 : latS (l.take (i + 1)) = (ks2, es2) := by rw [hstep, hks2, hes2]; simp only [hg]
        have tn : F .bnot false = true := by rw [bnotF hF]; rfl
        clear hk hv
        cbv
        refine bT (tl) ?_
        cbv
        refine ⟨i, _, ei, hrow, rfl, ?_⟩
        cbv
        refine bF (t7) ?_
        cbv
        refine ⟨_, .miss hmg, fun _ => trivial, ?_⟩
        cbv
        refine cT (tn) ?_
        cbv
        refine ⟨ks2, vs2, .mk hks2 hvs2, ?_⟩
        cbv
        rw [hi2]
        exact ⟨(i + 1, i2, ks2, es2, vs2), ⟨ei2, hil, hst2, hv2⟩, hmu, (le_of [] (by simp [leSl, leOb, injK, memK, parK, noTup, lk, rn0, rnA, plain] <;> first | rfl | decide))⟩
      | some old =>
        have hmg : mget kk uu e.op.fld = some (aE old) := by rw [hu, mget_map, hg]; rfl
        have tn : F .bnot true = false := by rw [bnotF hF]; rfl
        obtain ⟨q, hq⟩ : ∃ q, q = laterB e old := ⟨_, rfl⟩
        have hlt := hC _ _ _ (later_ok e old q hq)
        rw [hg] at hstep
        simp only [← hq] at hstep
        by_cases hqt : q = true
        · subst hqt
          rw [if_pos rfl] at hstep
          have hst2 : latS (l.take (i + 1)) = (ks2, es2) := by rw [hstep, hks2, hes2]
          clear hk hv
          cbv
          refine bT (tl) ?_
          cbv
          refine ⟨i, _, ei, hrow, rfl, ?_⟩
          cbv
          refine bF (t7) ?_
          cbv
          refine ⟨_, .hit hmg, fun _ => trivial, ?_⟩
          cbv
          refine cF (tn) ?_
          cbv
          refine ⟨_, hlt, ?_⟩
          cbv
          refine bT (rfl) ?_
          cbv
          refine ⟨ks2, vs2, .mk hks2 hvs2, ?_⟩
          cbv
          rw [hi2]
          exact ⟨(i + 1, i2, ks2, es2, vs2), ⟨ei2, hil, hst2, hv2⟩, hmu, (le_of [] (by simp [leSl, leOb, injK, memK, parK, noTup, lk, rn0, rnA, plain] <;> first | rfl | decide))⟩
        · have hqf : q = false := by cases q with
            | true => exact absurd rfl hqt
            | false => rfl
          subst hqf
          rw [if_neg (by decide)] at hstep
          clear hk hv
          cbv
          refine bT (tl) ?_
          cbv
          refine ⟨i, _, ei, hrow, rfl, ?_⟩
          cbv
          refine bF (t7) ?_
          cbv
          refine ⟨_, .hit hmg, fun _ => trivial, ?_⟩
          cbv
          refine cF (tn) ?_
          cbv
          refine ⟨_, hlt, ?_⟩
          cbv
          refine bF (rfl) ?_
          cbv
          rw [hi2]
          exact ⟨(i + 1, i2, kk, es, uu), ⟨ei2, hil, hstep, hu⟩, hmu, (le_of [] (by simp [leSl, leOb, injK, memK, parK, noTup, lk, rn0, rnA, plain] <;> first | rfl | decide))⟩
    · have t7 : F .cmp .neq e.op.kind 7 = true := by rw [t7]; exact decide_eq_true h7
      unfold latF at hstep
      rw [if_neg h7] at hstep
      clear hk hv
      cbv
      refine bT (tl) ?_
      cbv
      refine ⟨i, _, ei, hrow, rfl, ?_⟩
      cbv
      refine bT (t7) ?_
      cbv
      rw [hi2]
      exact ⟨(i + 1, i2, kk, es, uu), ⟨ei2, hil, hstep, hu⟩, hmu, (le_of [] (by simp [leSl, leOb, injK, memK, parK, noTup, lk, rn0, rnA, plain] <;> first | rfl | decide))⟩
  · have tl : F .cmp .lss i' n' = false := by cases h : F .cmp .lss i' n' with | true => exact absurd (tl.1 h) hil | false => rfl
    have hi0 : i = l.length := by omega
    rw [hi0, List.take_length] at hst
    have e1 : kk = ks := by rw [hk, hst]
    have e2 : uu = vs := by rw [hv, hst, hu]
    subst e1 e2
    clear hk hv hst hu
    cbv
    refine bF (tl) ?_
    cbv
    refine ⟨_, le_frzS _ [.tmp 3], hD _ _ _ ?_⟩
    cbv
end Go.Proofs.Ytdmdahnnfancpaa
