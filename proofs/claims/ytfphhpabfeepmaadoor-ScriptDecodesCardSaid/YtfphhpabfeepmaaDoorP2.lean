import Derived.Test.YtfphhpabfeepmaaDoorP1
set_option linter.unusedSimpArgs false
set_option linter.unusedVariables false
namespace Go.Proofs.YtfphhpabfeepmaaDoor
open Go Go.RowKit Am

theorem new_ok : CSem Tryd.prog (.fn 19) [] (.bx 45 [.sl [], aI 0] []) := by
  refine of_text gam_ok mixed { n := 3, keep := [2] } Tryd.func19 (by kernel_rfl) rfl rfl (by simp) (by decide) fun F C D hF hC hD => ?_
  cbv
  simp
abbrev SO (rows : List (List AV)) (a : Int) (m : Bool) (e : Int) : Obs := [(0, .box 79 [.sl rows, aI a, aB m, aI e] false)]
theorem stopped_ok (rows : List (List AV)) (a : Int) (m : Bool) (e : Int) (r : Bool) (hr : r = (m || decide (e ≠ 0))) : CSem Tryd.prog (.wr 42 (SO rows a m e) (SO rows a m e)) [.ptr 0 0] (.pure [aB r]) := by
  refine of_textW gam_ok mixed { n := 14 } Tryd.func42 (by kernel_rfl) rfl rfl (by simp) (by decide) rfl fun F C D hF hC hD => ?_
  have t1 : F .cmp .neq e 0 = decide (e ≠ 0) := neF hF e 0
  obtain ⟨c, hc⟩ : ∃ c, F .cmp .neq e 0 = c := ⟨_, rfl⟩
  have hr' : r = (m || c) := by rw [hr, ← hc, t1]
  clear hr t1
  cbv
  refine brf (fun h => ?_) (fun h => ?_) <;> cbv
  · rw [hc]; subst h; simp at hr'; simp [hr']
  · subst h; simp at hr'; simp [hr']
/-- A byte passed. -/
structure Sc where
  a : Nat
  m : Bool
  e : Int
def mustS (l : List UInt8) (c : Int) (s : Sc) : Sc :=
  if s.m = true ∨ s.e ≠ 0 then s else match l[s.a]? with
    | none => ⟨s.a, true, s.e⟩
    | some b => if (b.toNat : Int) ≠ c then ⟨s.a, s.m, 3⟩ else ⟨s.a + 1, s.m, s.e⟩
theorem stop_iff {m : Bool} {e : Int} : (m || decide (e ≠ 0)) = true ↔ (m = true ∨ e ≠ 0) := by cases m <;> simp
theorem must_ok (l : List UInt8) (hl : l.length ≤ 1000000) (rows : List (List AV)) (hrows : rows = byR l) (c : Int) (a : Nat) (m : Bool) (e : Int) (a' : Int) (ha : a' = (a : Int)) (hle : a ≤ l.length) (b : Nat) (m2 : Bool) (e2 : Int) (b' : Int) (hb : b' = (b : Int))
    (hs : (⟨b, m2, e2⟩ : Sc) = mustS l c ⟨a, m, e⟩) : CSem Tryd.prog (.wr 70 (SO rows a' m e) (SO rows b' m2 e2)) [.ptr 0 0, aU c] (.pure []) := by
  refine of_textW gam_ok mixed { n := 44, wrs := [42] } Tryd.func70 (by kernel_rfl) rfl rfl (by simp) (by decide) rfl fun F C D hF hC hD => ?_
  obtain ⟨st, hst⟩ : ∃ st : Bool, st = (m || decide (e ≠ 0)) := ⟨_, rfl⟩
  have hstop := hC _ _ _ (stopped_ok rows a' m e st hst)
  obtain ⟨n', hn'⟩ : ∃ n', F .len rows = n' := ⟨_, rfl⟩
  have en : n' = (l.length : Int) := by rw [← hn', lenF hF, hrows, byR_len]
  cases st with
  | true =>
    have hu : (m = true ∨ e ≠ 0) := stop_iff.1 hst.symm
    have e1 : b = a ∧ m2 = m ∧ e2 = e := by unfold mustS at hs; rw [if_pos hu] at hs; cases hs; exact ⟨rfl, rfl, rfl⟩
    obtain ⟨rfl, rfl, rfl⟩ := e1
    have hab : b' = a' := by omega
    subst hab
    cbv
    refine ⟨_, _, hstop, ?_⟩
    cbv
    refine bT (by first | assumption | rfl) ?_
    cbv
    simp
  | false =>
    have hu : ¬ (m = true ∨ e ≠ 0) := fun h => by have := stop_iff.2 h; rw [← hst] at this; cases this
    have hm : m = false := by cases m; rfl; exact absurd (.inl rfl) hu
    have he : e = 0 := by
      by_cases h : e = 0
      · exact h
      · exact absurd (.inr h) hu
    subst hm he
    unfold mustS at hs
    rw [if_neg hu] at hs
    simp only at hs
    have t1 : F .cmp .eql a' n' = decide (a = l.length) := by rw [eqF hF, ha, en]; congr 1; exact propext ⟨fun h => by omega, fun h => by omega⟩
    cases hb0 : l[a]? with
    | none =>
      have hge : a = l.length := by have := List.getElem?_eq_none_iff.1 hb0; omega
      have t2 : F .cmp .eql a' n' = true := by rw [t1]; simp [hge]
      rw [hb0] at hs
      cases hs
      have hab : b' = a' := by omega
      subst hab
      clear t1
      cbv
      refine ⟨_, _, hstop, ?_⟩
      cbv
      refine bF (by first | assumption | rfl) ?_
      cbv
      refine ⟨hC _ _ _ (ben_ok (by kernel_rfl)), ?_⟩
      cbv
      rw [hn']
      refine bT (t2) ?_
      cbv
      simp
    | some x =>
      have hlt : a < l.length := (List.getElem?_eq_some_iff.1 hb0).1
      have t2 : F .cmp .eql a' n' = false := by rw [t1]; simp; omega
      have hrow : rows[a]? = some [aU x.toNat] := by rw [hrows]; exact byR_get hb0
      obtain ⟨xi, hxi⟩ : ∃ xi : Int, xi = (x.toNat : Int) := ⟨_, rfl⟩
      rw [← hxi] at hrow
      rw [hb0] at hs
      simp only [← hxi] at hs
      have t3 : F .cmp .neq xi c = decide (xi ≠ c) := neF hF xi c
      have ep := incF hF ha (by omega)
      clear t1
      by_cases hne : xi = c
      · have t4 : F .cmp .neq xi c = false := by rw [t3]; simp [hne]
        rw [if_neg (by simp [hne])] at hs
        cases hs
        have hj : F .ar .add .i64 a' 1 = b' := by rw [ep, hb]
        clear t3 ep
        cbv
        refine ⟨_, _, hstop, ?_⟩
        cbv
        refine bF (by first | assumption | rfl) ?_
        cbv
        refine ⟨hC _ _ _ (ben_ok (by kernel_rfl)), ?_⟩
        cbv
        rw [hn']
        refine bF (t2) ?_
        cbv
        refine ⟨hC _ _ _ (ben_ok (by kernel_rfl)), ?_⟩
        cbv
        refine ⟨a, _, ha, hrow, rfl, ?_⟩
        cbv
        refine bF (t4) ?_
        cbv
        rw [hj]
        simp
      · have t4 : F .cmp .neq xi c = true := by rw [t3]; simp [hne]
        rw [if_pos (by simp [hne])] at hs
        cases hs
        have hab : b' = a' := by omega
        subst hab
        clear t3 ep
        cbv
        refine ⟨_, _, hstop, ?_⟩
        cbv
        refine bF (by first | assumption | rfl) ?_
        cbv
        refine ⟨hC _ _ _ (ben_ok (by kernel_rfl)), ?_⟩
        cbv
        rw [hn']
        refine bF (t2) ?_
        cbv
        refine ⟨hC _ _ _ (ben_ok (by kernel_rfl)), ?_⟩
        cbv
        refine ⟨a, _, ha, hrow, rfl, ?_⟩
        cbv
        refine bT (t4) ?_
        cbv
        simp
end Go.Proofs.YtfphhpabfeepmaaDoor
