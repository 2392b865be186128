import Derived.Test.YtljpmnifkccbdaaB5
import Derived.Test.YtljpmnifkccbdaaAm16
set_option linter.unusedSimpArgs false
set_option linter.unusedVariables false
namespace Go.Proofs.Ytljpmnifkccbdaa
open Go Go.RowKit Am

def ltE (x y : Ev) : Bool := laterB y x
theorem swo_ltE : SWO ltE where
  asym x y h := by
    unfold ltE at h ⊢
    rw [later_iff] at h
    rw [Bool.eq_false_iff]
    intro h2
    rw [later_iff] at h2
    omega
  ntr x y z h := by
    unfold ltE at h ⊢
    rw [later_iff] at h ⊢
    rw [later_iff]
    omega
theorem ltR_ac (x y : Ev) : ltR x.ac y.ac = ltE x y := by unfold ltR ltE; rw [getEv_ac, getEv_ac]
theorem ins_ac (x : Ev) : ∀ (l : List Ev), ins ltR x.ac (evR l) = evR (ins ltE x l) := by
  intro l
  induction l with
  | nil => rfl
  | cons y l ih =>
    show ins ltR x.ac (y.ac :: evR l) = _
    simp only [ins, ltR_ac]
    split
    · rfl
    · rw [ih]; rfl
theorem isort_ac (l : List Ev) : isort ltR (evR l) = evR (isort ltE l) := by
  have : ∀ (l acc : List Ev), (evR l).foldl (fun acc x => ins ltR x acc) (evR acc) = evR (l.foldl (fun acc x => ins ltE x acc) acc) := by
    intro l
    induction l with
    | nil => intro acc; rfl
    | cons x l ih =>
      intro acc
      show (evR l).foldl _ (ins ltR x.ac (evR acc)) = _
      rw [ins_ac, ih]; rfl
  exact this l []
theorem evR_ev (l : List Ev) : ∀ r ∈ evR l, isEv r := fun r h => by
  obtain ⟨e, _, rfl⟩ := List.mem_map.1 h
  exact ⟨e, rfl⟩
def liveP (l : List Ev) (a : Ev) : Bool := addsB a.op.kind && !(l.any fun b => endsB b a)
def liveAll (l : List Ev) : List Ev := isort ltE (l.filter (liveP l))
abbrev oneR (e : Ev) : List (List AV) := [e.ac]
abbrev sh21 (i' n' : Int) (rows out : List (List AV)) : St := { slots := [(8, aI i'), (7, aI n'), (6, .sl rows), (0, .sl rows), (3, .own 0 0)], obs := [(0, .row 34 26 out 0 0)], ctr := 1 }
theorem liveAll_ok (l : List Ev) (hl : l.length ≤ 100000000) (rows : List (List AV)) (hrows : rows = evR l) (out : List (List AV)) (hout : out = evR (liveAll l)) : CSem Try.prog (.fn 21) [.sl rows] (.own 34 26 out []) := by
  refine of_text gam_ok mixed { n := 30, keep := [25], wrs := [45] } Try.func21 (by kernel_rfl) rfl rfl (by simp) (by decide) fun F C D hF hC hD => ?_
  obtain ⟨n', hn'⟩ : ∃ n', F .len rows = n' := ⟨_, rfl⟩
  have en : n' = (l.length : Int) := by rw [← hn', lenF hF, hrows, evR_len]
  cbv
  rw [hn']
  refine ⟨Nat × Int × List (List AV), fun x => sh21 x.2.1 n' rows x.2.2, fun x => x.2.1 = (x.1 : Int) ∧ x.1 ≤ l.length ∧ x.2.2 = evR ((l.take x.1).filter (liveP l)), fun x => l.length - x.1, ⟨(0, 0, []), ⟨rfl, Nat.zero_le _, by simp [evR]⟩, Le.trans (le_nil 3 34 26 (by rfl) (by rfl)) (le_of [] (by simp [leSl, leOb, injK, memK, parK, noTup, lk, rn0, rnA, plain, aI]))⟩, fun x hx => ?_⟩
  obtain ⟨i, i', o⟩ := x
  obtain ⟨ei, hi, ho⟩ := hx
  simp only at ei hi ho
  have en : n' = (l.length : Int) := en
  have tl := ltF hF i l.length i' n' ei en
  have ep := incF hF ei (by omega)
  have hol : o.length ≤ l.length := by
    rw [ho, evR_len]
    exact Nat.le_trans (List.length_filter_le _ _) (by simp; omega)
  have hlen : ∀ r ∈ o, r.length = 26 := fun r h => by rw [ho] at h; exact (evR_ev _ r h).len
  have room : ∀ q : List (List AV), q.length = 1 → (F .len o + F .len q) * 232 ≤ 140737488355328 := fun q hq => by rw [lenF hF, lenF hF, hq]; omega
  obtain ⟨j, hj⟩ : ∃ j, F .ar .add .i64 i' 1 = j := ⟨_, rfl⟩
  have ej : j = ((i + 1 : Nat) : Int) := hj.symm.trans ep
  cbv
  refine br (fun h => ?_) (fun h => ?_) <;> cbv
  · have hil := tl.1 h
    obtain ⟨e, he⟩ : ∃ e, l[i]? = some e := ⟨_, List.getElem?_eq_getElem hil⟩
    have hrow : rows[i]? = some e.ac := by rw [hrows]; exact evR_get he
    have htake : l.take (i + 1) = l.take i ++ [e] := by rw [List.take_add_one, he]; rfl
    have hno : liveP l e = false → o = evR ((l.take (i + 1)).filter (liveP l)) := fun h => by rw [htake, List.filter_append, ho]; simp [evR, h]
    obtain ⟨o2, ho2⟩ : ∃ o2, o2 = F .app o [e.ac] := ⟨_, rfl⟩
    have hyes : liveP l e = true → o2 = evR ((l.take (i + 1)).filter (liveP l)) := fun h => by rw [ho2, htake, List.filter_append, ho, hF]; simp [evR, h, sy]
    have hrm := room [e.ac] rfl
    have hel : ∀ r ∈ [e.ac], r.length = 26 := fun r h => by rw [List.mem_singleton.1 h]; rfl
    generalize ha : addsB e.op.kind = ad
    have hadd := hC _ _ _ (adds_ok _ _ ha.symm)
    generalize hy : (l.any fun b => endsB b e) = an
    have hany := hC _ _ _ (containsFunc_ok 44 [.ept e.ac 0] (fun b => endsB b e) (fun b => all1_ok b e _ rfl) l hl rows hrows an hy.symm)
    have hb : F .bnot an = !an := by rw [hF]; rfl
    have hlp : liveP l e = (ad && !an) := by unfold liveP; rw [ha, hy]
    refine ⟨i, e.ac, ei, hrow, rfl, ?_⟩
    cbv
    refine ⟨_, hadd, ?_⟩
    cbv
    refine br (fun g => ?_) (fun g => ?_) <;> cbv
    · refine ⟨_, hany, ?_⟩
      cbv
      refine br (fun f => ?_) (fun f => ?_) <;> cbv
      · refine ⟨hel, hrm, ?_⟩
        rw [hj]
        exact ⟨(i + 1, j, o2), ⟨ej, hil, hyes (by rw [hlp, g, ← hb, f]; rfl)⟩, (show l.length - (i + 1) < l.length - i by omega), le_of [(0, 2)] (by simp [leSl, leOb, injK, memK, parK, noTup, lk, rn0, rnA, plain]; exact ⟨ho2.symm, rfl⟩)⟩
      · rw [hj]
        exact ⟨(i + 1, j, o), ⟨ej, hil, hno (by rw [hlp, g, ← hb, f]; rfl)⟩, (show l.length - (i + 1) < l.length - i by omega), le_of [] (by simp [leSl, leOb, injK, memK, parK, noTup, lk, rn0, rnA, plain])⟩
    · rw [hj]
      exact ⟨(i + 1, j, o), ⟨ej, hil, hno (by rw [hlp, g]; rfl)⟩, (show l.length - (i + 1) < l.length - i by omega), le_of [] (by simp [leSl, leOb, injK, memK, parK, noTup, lk, rn0, rnA, plain])⟩
  · have hge : l.length ≤ i := by have := nfB tl h; omega
    have hfin : o = evR (l.filter (liveP l)) := by rw [ho, List.take_of_length_le hge]
    refine ⟨_, _, hC _ _ _ (sortStable_ok o (by omega) (by rw [hfin]; exact evR_ev _) out (by rw [hout, hfin, isort_ac]; rfl)), ?_⟩
    cbv
end Go.Proofs.Ytljpmnifkccbdaa
