import Derived.Test.YtdmdahnnfancpaaO1
set_option linter.unusedSimpArgs false
set_option linter.unusedVariables false
namespace Go.Proofs.Ytdmdahnnfancpaa
open Go Go.RowKit Am

/-! ### few -/
def fewB (l : List Ev) : Bool := decide (l.length ≤ 150) && l.all fun e => decide (e.op.fld.size ≤ 1000)
theorem few_ok (l : List Ev) (rows : List (List AV)) (hrows : rows = evR l) (r : Bool) (hr : r = fewB l) : CSem Try.prog (.fn 15) [.sl rows] (.pure [aB r]) := by
  refine of_text gam_ok mixed { n := 21 } Try.func15 (by kernel_rfl) rfl rfl (by simp) (by decide) fun F C D hF hC hD => ?_
  obtain ⟨n', hn'⟩ : ∃ n' : Int, F .len rows = n' := ⟨_, rfl⟩
  have en : n' = (l.length : Int) := by rw [← hn', lenF hF, hrows, evR_len]
  have tg : F .cmp .gtr n' 150 = decide (n' > 150) := gtF hF _ _
  by_cases h150 : l.length ≤ 150
  · have tg : F .cmp .gtr n' 150 = false := by rw [tg]; exact decide_eq_false (by omega)
    have hr : r = l.all fun e => decide (e.op.fld.size ≤ 1000) := by rw [hr]; unfold fewB; rw [decide_eq_true h150]; rfl
    cbv
    rw [hn']
    refine bF (tg) ?_
    cbv
    rw [hn']
    refine ⟨Nat × Int, fun x => { slots := [(9, aI x.2), (8, aI n'), (2, aB false), (0, .sl rows)], obs := [], ctr := 0 }, fun x => x.2 = (x.1 : Int) ∧ x.1 ≤ l.length ∧ (l.take x.1).all (fun e => decide (e.op.fld.size ≤ 1000)) = true, fun x => l.length - x.1, ⟨(0, 0), ⟨rfl, Nat.zero_le _, rfl⟩, (le_of [] (by simp [leSl, leOb, injK, memK, parK, noTup, lk, rn0, rnA, plain] <;> first | rfl | decide))⟩, fun x hx => ?_⟩
    obtain ⟨i, i'⟩ := x
    obtain ⟨ei, hi, hall⟩ := hx
    simp only at ei hi hall
    have en : n' = (l.length : Int) := en
    have tl := ltF hF i l.length i' n' ei en
    obtain ⟨i2, hi2⟩ : ∃ i2, F .ar .add .i64 i' 1 = i2 := ⟨_, rfl⟩
    have ei2 : i2 = ((i + 1 : Nat) : Int) := hi2.symm.trans (incF hF ei (by omega))
    by_cases hil : i < l.length
    · have tl : F .cmp .lss i' n' = true := tl.2 hil
      obtain ⟨e, he⟩ : ∃ s, l[i]? = some s := ⟨_, List.getElem?_eq_getElem hil⟩
      have hrow : rows[i]? = some e.ac := by rw [hrows]; exact evR_get he
      have hmu : l.length - (i + 1) < l.length - i := by omega
      obtain ⟨z, hz⟩ : ∃ z : Int, F .slen e.op.fld = z := ⟨_, rfl⟩
      have ez : z = (e.op.fld.size : Int) := by rw [← hz, slenF hF]
      have t1 : F .cmp .gtr z 1000 = decide (z > 1000) := gtF hF _ _
      by_cases hsz : e.op.fld.size ≤ 1000
      · have t1 : F .cmp .gtr z 1000 = false := by rw [t1]; exact decide_eq_false (by omega)
        have hall2 : (l.take (i + 1)).all (fun e => decide (e.op.fld.size ≤ 1000)) = true := by
          rw [List.take_add_one, he, List.all_append, hall]; simp [hsz]
        clear hr
        cbv
        refine bT (tl) ?_
        cbv
        refine ⟨i, _, ei, hrow, rfl, ?_⟩
        cbv
        have hz : F .slen e.4.3 = z := hz
        rw [hz]
        refine bF (t1) ?_
        cbv
        rw [hi2]
        exact ⟨(i + 1, i2), ⟨ei2, hil, hall2⟩, hmu, (le_of [] (by simp [leSl, leOb, injK, memK, parK, noTup, lk, rn0, rnA, plain] <;> first | rfl | decide))⟩
      · have t1 : F .cmp .gtr z 1000 = true := by rw [t1]; exact decide_eq_true (by omega)
        have hr : r = false := by
          rw [hr, List.all_eq_false]
          exact ⟨e, List.mem_of_getElem? he, by simpa using hsz⟩
        subst hr
        cbv
        refine bT (tl) ?_
        cbv
        refine ⟨i, _, ei, hrow, rfl, ?_⟩
        cbv
        have hz : F .slen e.4.3 = z := hz
        rw [hz]
        refine bT (t1) ?_
        cbv
        try simp
    · have tl : F .cmp .lss i' n' = false := by cases h : F .cmp .lss i' n' with | true => exact absurd (tl.1 h) hil | false => rfl
      have hr : r = true := by rw [hr, ← hall, List.take_of_length_le (by omega)]
      subst hr
      cbv
      refine bF (tl) ?_
      cbv
      try simp
  · have tg : F .cmp .gtr n' 150 = true := by rw [tg]; exact decide_eq_true (by omega)
    have hr : r = false := by rw [hr]; unfold fewB; rw [decide_eq_false h150]; rfl
    subst hr
    cbv
    rw [hn']
    refine bT (tg) ?_
    cbv
    try simp
end Go.Proofs.Ytdmdahnnfancpaa
