import Derived.Test.YtdmdahnnfancpaaL2
set_option linter.unusedSimpArgs false
set_option linter.unusedVariables false
namespace Go.Proofs.Ytdmdahnnfancpaa
open Go Go.RowKit Am

/-! ### The reference: which event is later, the latest one -/
theorem rlater_ok (b a : Ev) (r : Bool) (hr : r = laterB b a) : CSem Try.prog (.fn 67) [aE b, aE a] (.pure [aB r]) := by
  refine of_text gam_ok mixed { n := 36 } Try.func67 (by kernel_rfl) rfl rfl (by simp) (by decide) fun F C D hF hC hD => ?_
  have hi := later_iff b a
  rw [← hr] at hi
  have t1 : F .cmp .neq b.time a.time = decide (b.time ≠ a.time) := neF hF _ _
  have t2 : F .cmp .neq b.dot.R a.dot.R = decide (b.dot.R ≠ a.dot.R) := neF hF _ _
  have g1 : F .cmp .gtr b.time a.time = decide (b.time > a.time) := gtF hF _ _
  have g2 : F .cmp .gtr b.dot.R a.dot.R = decide (b.dot.R > a.dot.R) := gtF hF _ _
  have g3 : F .cmp .gtr b.dot.N a.dot.N = decide (b.dot.N > a.dot.N) := gtF hF _ _
  have bool : ∀ (p : Prop) [Decidable p], (r = true ↔ p) → decide p = r := fun p _ h => by
    cases r with
    | true => exact decide_eq_true (h.1 rfl)
    | false => exact decide_eq_false (fun hp => by have := h.2 hp; cases this)
  by_cases h1 : b.time = a.time
  · have t1 : F .cmp .neq b.time a.time = false := by rw [t1]; exact decide_eq_false (fun h => h h1)
    by_cases h2 : b.dot.R = a.dot.R
    · have t2 : F .cmp .neq b.dot.R a.dot.R = false := by rw [t2]; exact decide_eq_false (fun h => h h2)
      have g3 : F .cmp .gtr b.dot.N a.dot.N = r := by rw [g3]; exact bool _ (hi.trans ⟨fun h => by omega, fun h => by omega⟩)
      clear hi bool hr
      cbv
      refine bF (t1) ?_
      cbv
      refine bF (t2) ?_
      cbv
      have g3 : F .cmp .gtr b.1.2 a.1.2 = r := g3
      simp [g3]
    · have t2 : F .cmp .neq b.dot.R a.dot.R = true := by rw [t2]; exact decide_eq_true h2
      have g2 : F .cmp .gtr b.dot.R a.dot.R = r := by rw [g2]; exact bool _ (hi.trans ⟨fun h => by omega, fun h => by omega⟩)
      clear hi bool hr
      cbv
      refine bF (t1) ?_
      cbv
      refine bT (t2) ?_
      cbv
      have g2 : F .cmp .gtr b.1.1 a.1.1 = r := g2
      simp [g2]
  · have t1 : F .cmp .neq b.time a.time = true := by rw [t1]; exact decide_eq_true h1
    have g1 : F .cmp .gtr b.time a.time = r := by rw [g1]; exact bool _ (hi.trans ⟨fun h => by omega, fun h => by omega⟩)
    clear hi bool hr
    cbv
    refine bT (t1) ?_
    cbv
    have g1 : F .cmp .gtr b.2 a.2 = r := g1
    simp [g1]
def zE : Ev := ⟨⟨0, 0⟩, 0, fun _ => 0, ⟨0, BA [], BA [], BA [], 0, ⟨0, 0⟩⟩⟩
def topB (l : List Ev) (e : Ev) : Bool := l.all fun k => !laterB k e
def latR (l : List Ev) : Option Ev := l.find? (topB l)
set_option maxHeartbeats 4000000 in
theorem rlatest_ok (l : List Ev) (hl : l.length ≤ 1000000) (rows : List (List AV)) (hrows : rows = evR l) (x : Ev) (ok : Bool) (h1 : ∀ e, latR l = some e → x = e ∧ ok = true) (h2 : latR l = none → x = zE ∧ ok = false) : CSem Try.prog (.fn 45) [.sl rows] (.pure [aE x, aB ok]) := by
  refine of_text gam_ok mixed { n := 38 } Try.func45 (by kernel_rfl) rfl rfl (by simp) (by decide) fun F C D hF hC hD => ?_
  obtain ⟨n', hn'⟩ : ∃ n' : Int, F .len rows = n' := ⟨_, rfl⟩
  have en : n' = (l.length : Int) := by rw [← hn', lenF hF, hrows, evR_len]
  cbv
  rw [hn']
  refine ⟨Nat × Int, fun x => { slots := [(9, aI x.2), (8, aI n'), (3, aB false), (2, .ptr 0 0), (0, .sl rows)], obs := [(0, .box 35 zE.ac true)], ctr := 1 }, fun x => x.2 = (x.1 : Int) ∧ x.1 ≤ l.length ∧ ∀ j e, j < x.1 → l[j]? = some e → topB l e = false, fun x => l.length - x.1, ⟨(0, 0), ⟨rfl, Nat.zero_le _, fun j e h => by omega⟩, (le_of [] (by simp [leSl, leOb, injK, memK, parK, noTup, lk, rn0, rnA, plain] <;> first | rfl | decide))⟩, fun x hx => ?_⟩
  obtain ⟨i, i'⟩ := x
  obtain ⟨ei, hi, hno⟩ := hx
  simp only at ei hi hno
  have en : n' = (l.length : Int) := en
  have tl := ltF hF i l.length i' n' ei en
  obtain ⟨i2, hi2⟩ : ∃ i2, F .ar .add .i64 i' 1 = i2 := ⟨_, rfl⟩
  have ei2 : i2 = ((i + 1 : Nat) : Int) := hi2.symm.trans (incF hF ei (by omega))
  by_cases hil : i < l.length
  · have tl : F .cmp .lss i' n' = true := tl.2 hil
    obtain ⟨e, he⟩ : ∃ s, l[i]? = some s := ⟨_, List.getElem?_eq_getElem hil⟩
    have hrow : rows[i]? = some e.ac := by rw [hrows]; exact evR_get he
    have hmu : l.length - (i + 1) < l.length - i := by omega
    cbv
    refine bT (tl) ?_
    cbv
    rw [hn']
    refine ⟨Nat × Int × Bool, fun x => { slots := [(14, aI x.2.1), (13, aI n'), (5, aB x.2.2), (4, aI i'), (9, aI i'), (8, aI n'), (3, aB false), (2, .ptr 0 0), (0, .sl rows)], obs := [(0, .box 35 zE.ac true)], ctr := 1 }, fun x => x.2.1 = (x.1 : Int) ∧ x.1 ≤ l.length ∧ x.2.2 = (l.take x.1).all fun k => !laterB k e, fun x => l.length - x.1, ⟨(0, 0, true), ⟨rfl, Nat.zero_le _, rfl⟩, (le_of [] (by simp [leSl, leOb, injK, memK, parK, noTup, lk, rn0, rnA, plain] <;> first | rfl | decide))⟩, fun x hx => ?_⟩
    obtain ⟨k, k', tp⟩ := x
    obtain ⟨ek, hk, etp⟩ := hx
    simp only at ek hk etp
    have en : n' = (l.length : Int) := en
    have ei2 : i2 = ((i + 1 : Nat) : Int) := ei2
    have tk := ltF hF k l.length k' n' ek en
    obtain ⟨k2, hk2⟩ : ∃ i2, F .ar .add .i64 k' 1 = i2 := ⟨_, rfl⟩
    have ek2 : k2 = ((k + 1 : Nat) : Int) := hk2.symm.trans (incF hF ek (by omega))
    by_cases hkl : k < l.length
    · have tk : F .cmp .lss k' n' = true := tk.2 hkl
      obtain ⟨f, hf⟩ : ∃ s, l[k]? = some s := ⟨_, List.getElem?_eq_getElem hkl⟩
      have hrowf : rows[k]? = some f.ac := by rw [hrows]; exact evR_get hf
      have htk : (l.take (k + 1)).all (fun k => !laterB k e) = (tp && !laterB f e) := by rw [List.take_add_one, hf, etp]; simp
      have hmk : l.length - (k + 1) < l.length - k := by omega
      obtain ⟨q, hq⟩ : ∃ q, q = laterB f e := ⟨_, rfl⟩
      have hlt := hC _ _ _ (rlater_ok f e q hq)
      obtain ⟨nq, hnq⟩ : ∃ x, F .bnot q = x := ⟨_, rfl⟩
      have enq : nq = !q := by rw [← hnq, bnotF hF]
      rw [← hq, ← enq] at htk
      by_cases htp : tp = true
      · subst htp
        have htk : nq = (l.take (k + 1)).all (fun k => !laterB k e) := by rw [htk]; rfl
        clear h1 h2 hno
        cbv
        refine bT (tk) ?_
        cbv
        refine ⟨hC _ _ _ (ben_ok (by kernel_rfl)), ?_⟩
        cbv
        refine bT (rfl) ?_
        cbv
        refine ⟨k, _, ek, hrowf, rfl, ?_⟩
        cbv
        refine ⟨i, _, ei, hrow, rfl, ?_⟩
        cbv
        refine ⟨_, hlt, ?_⟩
        cbv
        rw [hnq, hk2]
        exact ⟨(k + 1, k2, nq), ⟨ek2, hkl, htk⟩, hmk, (le_of [] (by simp [leSl, leOb, injK, memK, parK, noTup, lk, rn0, rnA, plain] <;> first | rfl | decide))⟩
      · have hf0 : tp = false := by cases tp with
          | true => exact absurd rfl htp
          | false => rfl
        subst hf0
        have htk : false = (l.take (k + 1)).all (fun k => !laterB k e) := by rw [htk]; rfl
        clear h1 h2 hno
        cbv
        refine bT (tk) ?_
        cbv
        refine ⟨hC _ _ _ (ben_ok (by kernel_rfl)), ?_⟩
        cbv
        refine bF (rfl) ?_
        cbv
        rw [hk2]
        exact ⟨(k + 1, k2, false), ⟨ek2, hkl, htk⟩, hmk, (le_of [] (by simp [leSl, leOb, injK, memK, parK, noTup, lk, rn0, rnA, plain] <;> first | rfl | decide))⟩
    · have tk : F .cmp .lss k' n' = false := by cases h : F .cmp .lss k' n' with | true => exact absurd (tk.1 h) hkl | false => rfl
      have hkn : k = l.length := by omega
      have etp : tp = topB l e := by rw [etp, hkn, List.take_length]; rfl
      by_cases htp : tp = true
      · subst htp
        have hfind : latR l = some e := by
          unfold latR
          rw [List.find?_eq_some_iff_getElem]
          obtain ⟨g1, g2⟩ := List.getElem?_eq_some_iff.1 he
          exact ⟨etp.symm, i, g1, g2, fun j hj => by rw [hno j _ hj (List.getElem?_eq_getElem (by omega))]; rfl⟩
        obtain ⟨f1, f2⟩ := h1 e hfind
        subst f1 f2
        clear h1 h2 hno etp hfind
        cbv
        refine bF (tk) ?_
        cbv
        refine bT (rfl) ?_
        cbv
        refine ⟨i, _, ei, hrow, rfl, ?_⟩
        cbv
        try simp
      · have hf0 : tp = false := by cases tp with
          | true => exact absurd rfl htp
          | false => rfl
        subst hf0
        have hno2 : ∀ j e', j < i + 1 → l[j]? = some e' → topB l e' = false := fun j e' hj h => by
          by_cases hji : j < i
          · exact hno j e' hji h
          · have : j = i := by omega
            rw [this, he] at h; injection h with h; rw [← h]; exact etp.symm
        clear h1 h2 hno etp
        cbv
        refine bF (tk) ?_
        cbv
        refine bF (rfl) ?_
        cbv
        rw [hi2]
        exact ⟨(i + 1, i2), ⟨ei2, hil, hno2⟩, hmu, (le_of [] (by simp [leSl, leOb, injK, memK, parK, noTup, lk, rn0, rnA, plain] <;> first | rfl | decide))⟩
  · have tl : F .cmp .lss i' n' = false := by cases h : F .cmp .lss i' n' with | true => exact absurd (tl.1 h) hil | false => rfl
    have hnone : latR l = none := by
      unfold latR
      rw [List.find?_eq_none]
      intro e he
      obtain ⟨j, hj, hje⟩ := List.getElem_of_mem he
      rw [hno j e (by omega) (by rw [List.getElem?_eq_getElem hj, hje])]
      simp
    obtain ⟨f1, f2⟩ := h2 hnone
    subst f1 f2
    clear h1 h2 hno hnone
    cbv
    refine bF (tl) ?_
    cbv
    try simp
end Go.Proofs.Ytdmdahnnfancpaa
