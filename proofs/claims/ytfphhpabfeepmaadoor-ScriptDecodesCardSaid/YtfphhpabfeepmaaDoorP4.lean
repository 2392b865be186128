import Derived.Test.YtfphhpabfeepmaaDoorP3
set_option linter.unusedSimpArgs false
set_option linter.unusedVariables false
namespace Go.Proofs.YtfphhpabfeepmaaDoor
open Go Go.RowKit Am

/-! ### What a scan does, as functions on its state -/
abbrev stp (s : Sc) : Prop := s.m = true ∨ s.e ≠ 0
def digS (l : List UInt8) (s : Sc) : Sc × Nat :=
  if stp s then (s, 0) else (⟨s.a + (dgs (l.drop s.a) 0 0).2.1, decide ((dgs (l.drop s.a) 0 0).2.2 = 1), eOf (dgs (l.drop s.a) 0 0).2.2⟩, (dgs (l.drop s.a) 0 0).1)
def rangeS (lo hi : Nat) (p : Sc × Nat) : Sc × Nat := (if ¬ stp p.1 ∧ (p.2 < lo ∨ hi < p.2) then ⟨p.1.a, p.1.m, 4⟩ else p.1, p.2)
def cntS (l : List UInt8) (sign : Int) (lo hi : Nat) (s : Sc) : Sc × Nat :=
  rangeS lo hi (mustS l 10 (mustS l 13 (digS l (mustS l sign s)).1), (digS l (mustS l sign s)).2)
def txtS (l : List UInt8) (n : Nat) (s : Sc) : Sc × List UInt8 :=
  if stp s then (s, []) else if l.length - s.a < n then (⟨s.a, true, s.e⟩, []) else (mustS l 10 (mustS l 13 ⟨s.a + n, s.m, s.e⟩), (l.drop s.a).take n)
theorem mustS_le {l : List UInt8} {c : Int} {s : Sc} (h : s.a ≤ l.length) : (mustS l c s).a ≤ l.length := by
  unfold mustS
  split
  · exact h
  · split
    · exact h
    · rename_i b hb
      have := (List.getElem?_eq_some_iff.1 hb).1
      split
      · exact h
      · exact this
theorem digS_le {l : List UInt8} {s : Sc} (h : s.a ≤ l.length) : (digS l s).1.a ≤ l.length := by
  unfold digS
  split
  · exact h
  · have := (dgs_bound (l.drop s.a) 0 0 (by omega) (by decide)).2
    rw [List.length_drop] at this
    show s.a + _ ≤ _
    omega
theorem digS_lt (l : List UInt8) (s : Sc) : (digS l s).2 < 1000000 := by
  unfold digS
  split
  · exact (by omega : (0 : Nat) < 1000000)
  · exact (dgs_bound (l.drop s.a) 0 0 (by omega) (by decide)).1
theorem cntS_le {l : List UInt8} {c : Int} {lo hi : Nat} {s : Sc} (h : s.a ≤ l.length) : (cntS l c lo hi s).1.a ≤ l.length := by
  unfold cntS rangeS
  have := mustS_le (c := 10) (mustS_le (c := 13) (digS_le (mustS_le (c := c) h)))
  simp only
  split <;> exact this
theorem cntS_lt (l : List UInt8) (c : Int) (lo hi : Nat) (s : Sc) : (cntS l c lo hi s).2 < 1000000 := digS_lt l _
theorem txtS_le {l : List UInt8} {n : Nat} {s : Sc} (h : s.a ≤ l.length) : (txtS l n s).1.a ≤ l.length := by
  unfold txtS
  split
  · exact h
  · split
    · exact h
    · exact mustS_le (mustS_le (show s.a + n ≤ l.length by omega))
theorem must_S (l : List UInt8) (hl : l.length ≤ 1000000) (rows : List (List AV)) (hrows : rows = byR l) (c : Int) (s : Sc) (hle : s.a ≤ l.length) : CSem Tryd.prog (.wr 70 (SO rows (s.a : Int) s.m s.e) (SO rows ((mustS l c s).a : Int) (mustS l c s).m (mustS l c s).e)) [.ptr 0 0, aU c] (.pure []) :=
  must_ok l hl rows hrows c s.a s.m s.e _ rfl hle _ _ _ _ rfl rfl
theorem digits_S (l : List UInt8) (hl : l.length ≤ 1000000) (rows : List (List AV)) (hrows : rows = byR l) (s : Sc) (hle : s.a ≤ l.length) : CSem Tryd.prog (.wr 71 (SO rows (s.a : Int) s.m s.e) (SO rows ((digS l s).1.a : Int) (digS l s).1.m (digS l s).1.e)) [.ptr 0 0] (.pure [aI ((digS l s).2 : Nat)]) := by
  obtain ⟨a, m, e⟩ := s
  by_cases h : stp ⟨a, m, e⟩
  · unfold digS
    rw [if_pos h]
    exact digits_st rows _ m e h
  · have hm : m = false := by cases m; rfl; exact absurd (.inl rfl) h
    have he : e = 0 := by
      by_cases h0 : e = 0
      · exact h0
      · exact absurd (.inr h0) h
    unfold digS
    rw [if_neg h]
    subst hm he
    exact digits_ok l hl rows hrows a _ rfl hle _ _ _ rfl _ rfl _ rfl _ rfl _ rfl
theorem count_w (rows : List (List AV)) (c lo hi n : Int) (a0 a1 a2 a3 a4 : Int) (m0 m1 m2 m3 m4 : Bool) (e0 e1 e2 e3 e4 e5 : Int)
    (h1 : CSem Tryd.prog (.wr 70 (SO rows a0 m0 e0) (SO rows a1 m1 e1)) [.ptr 0 0, aU c] (.pure [])) (h2 : CSem Tryd.prog (.wr 71 (SO rows a1 m1 e1) (SO rows a2 m2 e2)) [.ptr 0 0] (.pure [aI n]))
    (h3 : CSem Tryd.prog (.wr 70 (SO rows a2 m2 e2) (SO rows a3 m3 e3)) [.ptr 0 0, aU 13] (.pure [])) (h4 : CSem Tryd.prog (.wr 70 (SO rows a3 m3 e3) (SO rows a4 m4 e4)) [.ptr 0 0, aU 10] (.pure []))
    (he5 : e5 = if ¬ (m4 = true ∨ e4 ≠ 0) ∧ (n < lo ∨ hi < n) then 4 else e4) : CSem Tryd.prog (.wr 60 (SO rows a0 m0 e0) (SO rows a4 m4 e5)) [.ptr 0 0, aU c, aI lo, aI hi] (.pure [aI n]) := by
  refine of_textW gam_ok mixed { n := 36, wrs := [42, 70, 71] } Tryd.func60 (by kernel_rfl) rfl rfl (by simp) (by decide) rfl fun F C D hF hC hD => ?_
  have h1 := hC _ _ _ h1
  have h2 := hC _ _ _ h2
  have h3 := hC _ _ _ h3
  have h4 := hC _ _ _ h4
  obtain ⟨st, hst⟩ : ∃ st : Bool, st = (m4 || decide (e4 ≠ 0)) := ⟨_, rfl⟩
  have hstop := hC _ _ _ (stopped_ok rows a4 m4 e4 st hst)
  have nb : F .bnot st = !st := bnotF hF st
  have q1 : F .cmp .lss n lo = decide (n < lo) := lsF hF n lo
  have q2 : F .cmp .gtr n hi = decide (hi < n) := gtF hF n hi
  obtain ⟨c1, hc1⟩ : ∃ c, F .cmp .lss n lo = c := ⟨_, rfl⟩
  obtain ⟨c2, hc2⟩ : ∃ c, F .cmp .gtr n hi = c := ⟨_, rfl⟩
  have r1 : st = true → e5 = e4 := fun h => by rw [he5, if_neg]; intro h'; exact h'.1 (stop_iff.1 (hst.symm.trans h))
  have r2 : st = false → (c1 = true ∨ c2 = true) → e5 = 4 := fun h h' => by
    rw [he5, if_pos]
    refine ⟨fun h2 => ?_, ?_⟩
    · have := stop_iff.2 h2; rw [← hst, h] at this; cases this
    · rcases h' with h' | h'
      · exact .inl (of_decide_eq_true (q1.symm.trans (hc1.trans h')))
      · exact .inr (of_decide_eq_true (q2.symm.trans (hc2.trans h')))
  have r3 : c1 = false → c2 = false → e5 = e4 := fun h h' => by
    rw [he5, if_neg]
    rintro ⟨_, h2⟩
    have i1 := of_decide_eq_false (q1.symm.trans (hc1.trans h))
    have i2 := of_decide_eq_false (q2.symm.trans (hc2.trans h'))
    omega
  clear he5 hst q1 q2
  cbv
  refine ⟨_, _, h1, ?_⟩
  cbv
  refine ⟨_, _, h2, ?_⟩
  cbv
  refine ⟨_, _, h3, ?_⟩
  cbv
  refine ⟨_, _, h4, ?_⟩
  cbv
  refine ⟨_, _, hstop, ?_⟩
  cbv
  cases st with
  | true =>
    have f1 : F .bnot true = false := nb
    refine bF (f1) ?_
    cbv
    have := r1 rfl
    subst this
    simp
  | false =>
    have f1 : F .bnot false = true := nb
    refine bT (f1) ?_
    cbv
    rw [hc1]
    refine brf (fun z1 => ?_) (fun z1 => ?_) <;> cbv
    · rw [hc2]
      refine br (fun z2 => ?_) (fun z2 => ?_) <;> cbv
      · have := r2 rfl (.inr z2)
        subst this
        simp
      · have := r3 z1 z2
        subst this
        simp
    · have := r2 rfl (.inl z1)
      subst this
      simp
theorem count_S (l : List UInt8) (hl : l.length ≤ 1000000) (rows : List (List AV)) (hrows : rows = byR l) (c : Int) (lo hi : Nat) (s : Sc) (hle : s.a ≤ l.length) :
    CSem Tryd.prog (.wr 60 (SO rows (s.a : Int) s.m s.e) (SO rows ((cntS l c lo hi s).1.a : Int) (cntS l c lo hi s).1.m (cntS l c lo hi s).1.e)) [.ptr 0 0, aU c, aI (lo : Int), aI (hi : Int)] (.pure [aI ((cntS l c lo hi s).2 : Nat)]) := by
  have k1 := mustS_le (c := c) hle
  have k2 := digS_le k1
  have k3 := mustS_le (c := 13) k2
  have h1 := must_S l hl rows hrows c s hle
  have h2 := digits_S l hl rows hrows _ k1
  have h3 := must_S l hl rows hrows 13 _ k2
  have h4 := must_S l hl rows hrows 10 _ k3
  have h := count_w rows c (lo : Int) (hi : Int) _ _ _ _ _ _ _ _ _ _ _ _ _ _ _ _ (cntS l c lo hi s).1.e h1 h2 h3 h4 (by
    unfold cntS rangeS
    simp only
    generalize mustS l 10 (mustS l 13 (digS l (mustS l c s)).1) = t
    generalize (digS l (mustS l c s)).2 = n
    have e1 : (¬ stp t ∧ (n < lo ∨ hi < n)) ↔ (¬ (t.m = true ∨ t.e ≠ 0) ∧ ((n : Int) < (lo : Int) ∨ (hi : Int) < (n : Int))) := by
      constructor <;> rintro ⟨h1, h2⟩ <;> exact ⟨h1, by omega⟩
    by_cases h : ¬ stp t ∧ (n < lo ∨ hi < n)
    · rw [if_pos h, if_pos (e1.1 h)]
    · rw [if_neg h, if_neg (fun h' => h (e1.2 h'))])
  have ea : (cntS l c lo hi s).1.a = (mustS l 10 (mustS l 13 (digS l (mustS l c s)).1)).a := by unfold cntS rangeS; simp only; split <;> rfl
  have em : (cntS l c lo hi s).1.m = (mustS l 10 (mustS l 13 (digS l (mustS l c s)).1)).m := by unfold cntS rangeS; simp only; split <;> rfl
  rw [ea, em]
  exact h
/-! ### A text -/
theorem text_st (rows : List (List AV)) (a n : Int) (m : Bool) (e : Int) (hu : m = true ∨ e ≠ 0) : CSem Tryd.prog (.wr 61 (SO rows a m e) (SO rows a m e)) [.ptr 0 0, aI n] (.pure [aS (BA [])]) := by
  refine of_textW gam_ok mixed { n := 49, wrs := [42, 70] } Tryd.func61 (by kernel_rfl) rfl rfl (by simp) (by decide) rfl fun F C D hF hC hD => ?_
  have hstop := hC _ _ _ (stopped_ok rows a m e true (stop_iff.2 hu).symm)
  cbv
  refine ⟨_, _, hstop, ?_⟩
  cbv
  refine bT (by first | assumption | rfl) ?_
  cbv
  simp
theorem text_w (l : List UInt8) (hl : l.length ≤ 1000000) (rows : List (List AV)) (hrows : rows = byR l) (a n : Nat) (a' n' : Int) (ha : a' = (a : Int)) (hn : n' = (n : Int)) (hle : a ≤ l.length) (hn2 : n ≤ 1000000)
    (b c d : Int) (m1 m2 : Bool) (e1 e2 : Int) (r : ByteArray) (hr : a + n ≤ l.length → r = BA ((l.drop a).take n))
    (hmore : ¬ a + n ≤ l.length → d = a' ∧ m2 = true ∧ e2 = 0 ∧ r = BA [])
    (hgo : a + n ≤ l.length → b = ((a + n : Nat) : Int) ∧ CSem Tryd.prog (.wr 70 (SO rows b false 0) (SO rows c m1 e1)) [.ptr 0 0, aU 13] (.pure []) ∧ CSem Tryd.prog (.wr 70 (SO rows c m1 e1) (SO rows d m2 e2)) [.ptr 0 0, aU 10] (.pure [])) :
    CSem Tryd.prog (.wr 61 (SO rows a' false 0) (SO rows d m2 e2)) [.ptr 0 0, aI n'] (.pure [aS r]) := by
  refine of_textW gam_ok mixed { n := 49, wrs := [42, 70] } Tryd.func61 (by kernel_rfl) rfl rfl (by simp) (by decide) rfl fun F C D hF hC hD => ?_
  have hstop := hC _ _ _ (stopped_ok rows a' false 0 false rfl)
  obtain ⟨nl, hnl⟩ : ∃ nl, F .len rows = nl := ⟨_, rfl⟩
  have en : nl = (l.length : Int) := by rw [← hnl, lenF hF, hrows, byR_len]
  have hel : ∀ r ∈ rows, r.length = 1 := by rw [hrows]; exact byR_one l
  obtain ⟨c1, hc1⟩ : ∃ c1, F .cmp .lss (F .ar .sub .i64 nl a') n' = c1 := ⟨_, rfl⟩
  have d1 : c1 = decide (¬ a + n ≤ l.length) := by
    rw [← hc1, lsF hF, hF, en, ha, hn]
    have : sy .ar .sub .i64 (l.length : Int) (a : Int) = ((l.length - a : Nat) : Int) := (wrap_in (by omega) (by omega)).trans (by omega)
    rw [this]
    congr 1
    exact propext ⟨fun h => by omega, fun h => by omega⟩
  obtain ⟨s1, hs1⟩ : ∃ s1, F .ar .add .i64 a' n' = s1 := ⟨_, rfl⟩
  have es1 : s1 = ((a + n : Nat) : Int) := hs1.symm.trans (addF hF ha hn (by omega))
  by_cases hc : a + n ≤ l.length
  · have z : c1 = false := by rw [d1]; simp [hc]
    obtain ⟨hb, h1, h2⟩ := hgo hc
    have hsb : s1 = b := by rw [es1, hb]
    have h1 := hC _ _ _ h1
    have h2 := hC _ _ _ h2
    have hr := hr hc
    obtain ⟨rs, hrs⟩ : ∃ rs, rs = (rows.drop a).take (a + n - a) := ⟨_, rfl⟩
    have hrs2 : rs = byR ((l.drop a).take n) := by rw [hrs, hrows, show a + n - a = n by omega]; simp [byR, List.map_take, List.map_drop]
    have hbs := hC _ _ _ (bs_ok _ rs hrs2 r hr)
    have hln : ((a + n : Nat) : Int) ≤ nl := by omega
    have ha2 : a' = (a : Int) := ha
    clear d1 hmore hgo
    cbv
    refine ⟨_, _, hstop, ?_⟩
    cbv
    refine bF (by first | assumption | rfl) ?_
    cbv
    refine ⟨hC _ _ _ (ben_ok (by kernel_rfl)), ?_⟩
    cbv
    rw [hnl, hc1]
    refine bF (z) ?_
    cbv
    rw [hs1, hsb]
    refine ⟨_, _, h1, ?_⟩
    cbv
    refine ⟨_, _, h2, ?_⟩
    cbv
    refine ⟨a, a + n, by rw [ha2]; rfl, by rw [hs1, es1]; rfl, by omega, by rw [hnl]; exact hln, hel, rs, hrs, ?_⟩
    cbv
    refine ⟨_, hbs, ?_⟩
    cbv
    simp
  · have z : c1 = true := by rw [d1]; simp [hc]
    obtain ⟨f1, f2, f3, f4⟩ := hmore hc
    subst f1 f2 f3 f4
    clear d1 hmore hgo hr
    cbv
    refine ⟨_, _, hstop, ?_⟩
    cbv
    refine bF (by first | assumption | rfl) ?_
    cbv
    refine ⟨hC _ _ _ (ben_ok (by kernel_rfl)), ?_⟩
    cbv
    rw [hnl, hc1]
    refine bT (z) ?_
    cbv
    exact ⟨by simp, rfl, trivial⟩
theorem text_S (l : List UInt8) (hl : l.length ≤ 1000000) (rows : List (List AV)) (hrows : rows = byR l) (n : Nat) (hn : n ≤ 1000000) (s : Sc) (hle : s.a ≤ l.length) :
    CSem Tryd.prog (.wr 61 (SO rows (s.a : Int) s.m s.e) (SO rows ((txtS l n s).1.a : Int) (txtS l n s).1.m (txtS l n s).1.e)) [.ptr 0 0, aI (n : Int)] (.pure [aS (BA (txtS l n s).2)]) := by
  obtain ⟨a, m, e⟩ := s
  simp only at hle
  by_cases h : stp ⟨a, m, e⟩
  · unfold txtS
    rw [if_pos h]
    exact text_st rows _ _ m e h
  · have hm : m = false := by cases m; rfl; exact absurd (.inl rfl) h
    have he : e = 0 := by
      by_cases h0 : e = 0
      · exact h0
      · exact absurd (.inr h0) h
    unfold txtS
    rw [if_neg h]
    subst hm he
    by_cases hc : a + n ≤ l.length
    · rw [if_neg (by simp only; omega)]
      refine text_w l hl rows hrows a n _ _ rfl rfl hle hn _ _ _ _ _ _ _ _ (fun _ => rfl) (fun h => absurd hc h) (fun _ => ⟨rfl, must_S l hl rows hrows 13 ⟨a + n, false, 0⟩ hc, must_S l hl rows hrows 10 _ (mustS_le (c := 13) (s := ⟨a + n, false, 0⟩) hc)⟩)
    · rw [if_pos (by simp only; omega)]
      exact text_w l hl rows hrows a n _ _ rfl rfl hle hn 0 0 _ false _ 0 _ _ (fun h => absurd h hc) (fun _ => ⟨rfl, rfl, rfl, rfl⟩) (fun h => absurd h hc)
end Go.Proofs.YtfphhpabfeepmaaDoor
