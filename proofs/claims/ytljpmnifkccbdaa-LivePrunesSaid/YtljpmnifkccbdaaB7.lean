import Derived.Test.YtljpmnifkccbdaaB6
set_option linter.unusedSimpArgs false
set_option linter.unusedVariables false
namespace Go.Proofs.Ytljpmnifkccbdaa
open Go Go.RowKit Am

def keyP (key : ByteArray) (e : Ev) : Bool := e.op.key == key
def ofL (l : List Ev) (key : ByteArray) : List Ev := liveAll (l.filter (keyP key))
def ofT (l : List Ev) (key : ByteArray) : Int := match (ofL l key).getLast? with | some e => typI e.op.kind | none => 0
theorem liveAll_len (l : List Ev) : (liveAll l).length ≤ l.length := by
  unfold liveAll
  rw [(isort_ok swo_ltE _).2.2]
  exact List.length_filter_le _ _
abbrev sh51 (i' n' : Int) (key : ByteArray) (rows out : List (List AV)) : St := { slots := [(11, aI i'), (10, aI n'), (9, .sl rows), (1, aS key), (6, .own 0 0)], obs := [(0, .row 34 26 out 0 0)], ctr := 1 }
theorem of_ok (l : List Ev) (hl : l.length ≤ 100000000) (key : ByteArray) (rows : List (List AV)) (hrows : rows = evR l) (out : List (List AV)) (hout : out = evR (ofL l key)) (t : Int) (ht : t = ofT l key) : CSem Try.prog (.fn 51) [.sl rows, aS key] (.own 34 26 out [aI t]) := by
  refine of_text gam_ok mixed { n := 40, keep := [23, 26] } Try.func51 (by kernel_rfl) rfl rfl (by simp) (by decide) fun F C D hF hC hD => ?_
  obtain ⟨n', hn'⟩ : ∃ n', F .len rows = n' := ⟨_, rfl⟩
  have en : n' = (l.length : Int) := by rw [← hn', lenF hF, hrows, evR_len]
  cbv
  rw [hn']
  refine ⟨Nat × Int × List (List AV), fun x => sh51 x.2.1 n' key rows x.2.2, fun x => x.2.1 = (x.1 : Int) ∧ x.1 ≤ l.length ∧ x.2.2 = evR ((l.take x.1).filter (keyP key)), fun x => l.length - x.1, ⟨(0, 0, []), ⟨rfl, Nat.zero_le _, by simp [evR]⟩, Le.trans (le_nil 6 34 26 (by rfl) (by rfl)) (le_of [] (by simp [leSl, leOb, injK, memK, parK, noTup, lk, rn0, rnA, plain, aI]))⟩, fun x hx => ?_⟩
  obtain ⟨i, i', o⟩ := x
  obtain ⟨ei, hi, ho⟩ := hx
  simp only at ei hi ho
  have en : n' = (l.length : Int) := en
  have tl := ltF hF i l.length i' n' ei en
  have ep := incF hF ei (by omega)
  have hol : o.length ≤ l.length := by
    rw [ho, evR_len]
    exact Nat.le_trans (List.length_filter_le _ _) (by simp; omega)
  have room : ∀ q : List (List AV), q.length = 1 → (F .len o + F .len q) * 232 ≤ 140737488355328 := fun q hq => by rw [lenF hF, lenF hF, hq]; omega
  obtain ⟨j, hj⟩ : ∃ j, F .ar .add .i64 i' 1 = j := ⟨_, rfl⟩
  have ej : j = ((i + 1 : Nat) : Int) := hj.symm.trans ep
  cbv
  refine br (fun h => ?_) (fun h => ?_) <;> cbv
  · have hil := tl.1 h
    obtain ⟨e, he⟩ : ∃ e, l[i]? = some e := ⟨_, List.getElem?_eq_getElem hil⟩
    have hrow : rows[i]? = some e.ac := by rw [hrows]; exact evR_get he
    have htake : l.take (i + 1) = l.take i ++ [e] := by rw [List.take_add_one, he]; rfl
    have hno : keyP key e = false → o = evR ((l.take (i + 1)).filter (keyP key)) := fun h => by rw [htake, List.filter_append, ho]; simp [evR, h]
    obtain ⟨o2, ho2⟩ : ∃ o2, o2 = F .app o [e.ac] := ⟨_, rfl⟩
    have hyes : keyP key e = true → o2 = evR ((l.take (i + 1)).filter (keyP key)) := fun h => by rw [ho2, htake, List.filter_append, ho, hF]; simp [evR, h, sy]
    have hrm := room [e.ac] rfl
    have hel : ∀ r ∈ [e.ac], r.length = 26 := fun r h => by rw [List.mem_singleton.1 h]; rfl
    have hk : F .scmp .eql e.op.key key = keyP key e := by rw [hF, keyP, beq_toListBytes]; rfl
    refine ⟨i, e.ac, ei, hrow, rfl, ?_⟩
    cbv
    refine br (fun g => ?_) (fun g => ?_) <;> cbv
    · refine ⟨hel, hrm, ?_⟩
      rw [hj]
      exact ⟨(i + 1, j, o2), ⟨ej, hil, hyes (hk.symm.trans g)⟩, (show l.length - (i + 1) < l.length - i by omega), le_of [(0, 2)] (by simp [leSl, leOb, injK, memK, parK, noTup, lk, rn0, rnA, plain]; exact ⟨ho2.symm, rfl⟩)⟩
    · rw [hj]
      exact ⟨(i + 1, j, o), ⟨ej, hil, hno (hk.symm.trans g)⟩, (show l.length - (i + 1) < l.length - i by omega), le_of [] (by simp [leSl, leOb, injK, memK, parK, noTup, lk, rn0, rnA, plain])⟩
  · have hge : l.length ≤ i := by have := nfB tl h; omega
    have hfin : o = evR (l.filter (keyP key)) := by rw [ho, List.take_of_length_le hge]
    have hfl : (l.filter (keyP key)).length ≤ 100000000 := Nat.le_trans (List.length_filter_le _ _) hl
    refine ⟨34, 26, out, [], hC _ _ _ (liveAll_ok _ hfl o hfin out hout), ?_⟩
    have hln : F .len out = (out.length : Int) := lenF hF out
    have hlast : out.length = (ofL l key).length := by rw [hout, evR_len]
    have h0 : F .cmp .eql (F .len out) 0 = true → out = [] ∧ t = 0 := fun g => by
      rw [hln, hF] at g
      simp [sy] at g
      refine ⟨g, ?_⟩
      have : ofL l key = [] := List.eq_nil_of_length_eq_zero (by rw [← hlast, g]; rfl)
      rw [ht, ofT, this]; rfl
    have h1 : F .cmp .eql (F .len out) 0 = false → ∃ (m : Nat) (e : Ev), (ofL l key)[m]? = some e ∧ F .ar .sub .i64 (F .len out) 1 = (m : Int) ∧ out[m]? = some e.ac ∧ t = typI e.op.kind := fun g => by
      rw [hln, hF] at g
      simp [sy] at g
      have hpos : 0 < out.length := List.length_pos_iff.2 g
      have hll := liveAll_len (l.filter (keyP key))
      have hb : out.length ≤ 100000000 := by rw [hlast]; exact Nat.le_trans hll hfl
      obtain ⟨e, he⟩ : ∃ e, (ofL l key)[out.length - 1]? = some e := ⟨_, List.getElem?_eq_getElem (by omega)⟩
      refine ⟨out.length - 1, e, he, by rw [hln, hF]; exact (wrap_in (by omega) (by omega)).trans (by omega), by rw [show out = evR (ofL l key) from hout] at *; exact evR_get he, ?_⟩
      rw [ht, ofT, List.getLast?_eq_getElem?, ← hlast, he]
    cbv
    refine br (fun g => ?_) (fun g => ?_) <;> cbv
    · obtain ⟨g1, g2⟩ := h0 g
      rw [g1, g2]
      exact ⟨rfl, rfl, trivial⟩
    · obtain ⟨m, e, q1, q2, q3, q4⟩ := h1 g
      refine ⟨m, e.ac, q2, q3, ?_⟩
      cbv
      refine ⟨_, hC _ _ _ (typ_ok _ t q4), ?_⟩
      cbv
      exact ⟨rfl, trivial⟩
end Go.Proofs.Ytljpmnifkccbdaa
