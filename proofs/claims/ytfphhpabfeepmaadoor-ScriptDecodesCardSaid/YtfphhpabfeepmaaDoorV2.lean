import Derived.Test.YtfphhpabfeepmaaDoorV1
set_option linter.unusedSimpArgs false
set_option linter.unusedVariables false
namespace Go.Proofs.YtfphhpabfeepmaaDoor
open Go Go.RowKit Am

/-! ### Scripts: a text -/
def textS (s : RS) : List UInt8 × RS :=
  if (oneS s).2.1.length < (oneS s).1 then ([], ((oneS s).2.1, true)) else ((oneS s).2.1.take (oneS s).1, ((oneS s).2.1.drop (oneS s).1, (oneS s).2.2))
theorem textS_len (s : RS) : (textS s).2.1.length ≤ s.1.length ∧ (textS s).1.length ≤ 255 := by
  have h1 := oneS_len s
  have h2 := oneS_lt s
  unfold textS
  split
  · exact ⟨h1, Nat.zero_le _⟩
  · exact ⟨by show ((oneS s).2.1.drop _).length ≤ _; rw [List.length_drop]; omega, by show ((oneS s).2.1.take _).length ≤ _; rw [List.length_take]; omega⟩
theorem text_ok (s : RS) (hl : s.1.length ≤ 1000000) (rows : List (List AV)) (hr : rows = byR s.1) (x : ByteArray) (hx : x = BA (textS s).1) (rows2 : List (List AV)) (hr2 : rows2 = byR (textS s).2.1) (o o2 : Bool) (ho : o = s.2) (ho2 : o2 = (textS s).2.2) :
    CSem Tryd.prog (.wr 64 (RD rows o) (RD rows2 o2)) [.ptr 0 0] (.pure [aS x]) := by
  refine of_textW gam_ok mixed { n := 34, wrs := [44] } Tryd.func64 (by kernel_rfl) rfl rfl (by simp) (by decide) rfl fun F C D hF hC hD => ?_
  obtain ⟨m, hm⟩ : ∃ m : Nat, m = (oneS s).1 := ⟨_, rfl⟩
  obtain ⟨t, ht⟩ : ∃ t, t = (oneS s).2.1 := ⟨_, rfl⟩
  obtain ⟨n1, hn1⟩ : ∃ n1 : Int, n1 = ((oneS s).1 : Int) := ⟨_, rfl⟩
  obtain ⟨r1, hr1⟩ : ∃ r, r = byR (oneS s).2.1 := ⟨_, rfl⟩
  obtain ⟨o1, ho1⟩ : ∃ r, r = (oneS s).2.2 := ⟨_, rfl⟩
  have hc1 := hC _ _ _ (one_ok s hl rows hr n1 hn1 r1 hr1 o o1 ho ho1)
  unfold textS at hx hr2 ho2
  rw [← hm, ← ht] at hx hr2 ho2
  rw [← ho1] at ho2
  rw [← hm] at hn1
  rw [← ht] at hr1
  obtain ⟨k, hk⟩ : ∃ k : Int, F .len r1 = k := ⟨_, rfl⟩
  have ek : k = (t.length : Int) := by rw [← hk, lenF hF, hr1, byR_len]
  have t1 : F .cmp .gtr n1 k = decide (t.length < m) := by rw [gtF hF, ek, hn1]; congr 1; exact propext ⟨fun h => by omega, fun h => by omega⟩
  by_cases h : t.length < m
  · have t1 : F .cmp .gtr n1 k = true := by rw [t1]; exact decide_eq_true h
    rw [if_pos h] at hx hr2 ho2
    have e1 : rows2 = r1 := by rw [hr2, hr1]
    subst hx e1 ho2
    clear hr1 hr2 hr
    cbv
    refine ⟨_, _, hc1, ?_⟩
    cbv
    rw [hk]
    refine bT (t1) ?_
    cbv
    simp
  · have t1 : F .cmp .gtr n1 k = false := by rw [t1]; exact decide_eq_false h
    rw [if_neg h] at hx hr2 ho2
    obtain ⟨pre, hpre⟩ : ∃ p, p = (r1.drop 0).take (m - 0) := ⟨_, rfl⟩
    have epre : pre = byR (t.take m) := by rw [hpre, hr1]; unfold byR; rw [List.drop_zero, Nat.sub_zero, List.map_take]
    have hrs : rows2 = (r1.drop m).take (t.length - m) := by
      rw [hr2, hr1]
      unfold byR
      rw [← List.map_drop, ← List.map_take, List.take_of_length_le (l := t.drop m) (by rw [List.length_drop]; exact Nat.le_refl _)]
    have hone : ∀ r ∈ r1, r.length = 1 := by rw [hr1]; exact byR_one _
    have hbs := hC _ _ _ (bs_ok (t.take m) pre epre x hx)
    have en : some (aI n1) = some (aI (m : Int)) := by rw [hn1]
    have hle : m ≤ t.length := by omega
    have h1 : ((m : Nat) : Int) ≤ F .len r1 := by rw [hk, ek]; exact Int.ofNat_le.2 hle
    have h2 : ((t.length : Nat) : Int) = F .len r1 := by rw [hk, ek]
    have h3 : ((t.length : Nat) : Int) ≤ F .len r1 := by rw [hk, ek]; exact Int.le_refl _
    have e2 : o2 = o1 := ho2
    subst e2
    clear hr1 hr2 hr epre hx ho2 hn1 ek
    cbv
    refine ⟨_, _, hc1, ?_⟩
    cbv
    rw [hk]
    refine bF (t1) ?_
    cbv
    refine ⟨0, m, rfl, en, Nat.zero_le _, h1, hone, pre, hpre, ?_⟩
    cbv
    refine ⟨_, hbs, ?_⟩
    cbv
    refine ⟨m, t.length, en, h2, hle, h3, hone, rows2, hrs, ?_⟩
    cbv
    simp
def textA (l : List UInt8) (a : Nat) : Nat :=
  if l.length < nextA l a + (oneS (at_ l a false)).1 then nextA l a else nextA l a + (oneS (at_ l a false)).1
theorem one_at (l : List UInt8) (a : Nat) (o : Bool) : (oneS (at_ l a o)).1 = (oneS (at_ l a false)).1 := by
  unfold at_
  cases l.drop a <;> rfl
theorem text_at (l : List UInt8) (a : Nat) (o : Bool) (ha : a ≤ l.length) : (textS (at_ l a o)).2 = at_ l (textA l a) ((textS (at_ l a o)).2.2) ∧ textA l a ≤ l.length := by
  obtain ⟨h1, h2⟩ := next_at l a o ha
  unfold textS textA
  rw [one_at]
  have h3 : (oneS (at_ l a o)).2.1 = l.drop (nextA l a) := by rw [h1]; rfl
  rw [h3, List.length_drop]
  by_cases h : l.length < nextA l a + (oneS (at_ l a false)).1
  · rw [if_pos h, if_pos (by omega)]
    exact ⟨rfl, h2⟩
  · rw [if_neg h, if_neg (by omega)]
    refine ⟨?_, by omega⟩
    show ((l.drop (nextA l a)).drop _, _) = (l.drop _, _)
    rw [List.drop_drop]
theorem rtext_ok (l : List UInt8) (hl : l.length ≤ 1000000) (b : ByteArray) (hb : l = L b) (a : Nat) (ha : a ≤ l.length) (o : Bool) (a1 a2 : Int) (h1 : a1 = (a : Int)) (h2 : a2 = (textA l a : Nat)) (x : ByteArray) (hx : x = BA (textS (at_ l a o)).1) (o2 : Bool) (ho2 : o2 = (textS (at_ l a o)).2.2) :
    CSem Tryd.prog (.wr 66 (RR b a1 o) (RR b a2 o2)) [.ptr 0 0] (.pure [aS x]) := by
  refine of_textW gam_ok mixed { n := 47, wrs := [46] } Tryd.func66 (by kernel_rfl) rfl rfl (by simp) (by decide) rfl fun F C D hF hC hD => ?_
  obtain ⟨m, hm⟩ : ∃ m : Nat, m = (oneS (at_ l a o)).1 := ⟨_, rfl⟩
  obtain ⟨n, hn⟩ : ∃ n1 : Int, n1 = ((oneS (at_ l a o)).1 : Int) := ⟨_, rfl⟩
  obtain ⟨o1, ho1⟩ : ∃ r, r = (oneS (at_ l a o)).2.2 := ⟨_, rfl⟩
  obtain ⟨p, hp⟩ : ∃ p : Int, p = (nextA l a : Nat) := ⟨_, rfl⟩
  have hc1 := hC _ _ _ (next_ok l hl b hb a ha o a1 p n h1 hp hn o1 ho1)
  obtain ⟨hq1, hq2⟩ := next_at l a o ha
  have h3 : (oneS (at_ l a o)).2.1 = l.drop (nextA l a) := by rw [hq1]; rfl
  have hm256 := oneS_lt (at_ l a o)
  rw [← hm] at hm256
  unfold textS at hx ho2
  unfold textA at h2
  rw [h3, List.length_drop, ← hm] at hx ho2
  rw [← ho1] at ho2
  rw [← one_at l a o, ← hm] at h2
  rw [← hm] at hn
  obtain ⟨k, hk⟩ : ∃ k : Int, F .slen b = k := ⟨_, rfl⟩
  have ek : k = (l.length : Int) := by rw [← hk, slenF hF, L_size, hb]
  obtain ⟨z, hz⟩ : ∃ z, F .ar .add .i64 p n = z := ⟨_, rfl⟩
  have ez : z = ((nextA l a + m : Nat) : Int) := by rw [← hz]; exact addF hF hp hn (by omega)
  have t1 : F .cmp .gtr z k = decide (l.length < nextA l a + m) := by rw [gtF hF, ek, ez]; congr 1; exact propext ⟨fun h => by omega, fun h => by omega⟩
  by_cases h : l.length < nextA l a + m
  · have t1 : F .cmp .gtr z k = true := by rw [t1]; exact decide_eq_true h
    rw [if_pos h] at h2
    rw [if_pos (by omega)] at hx ho2
    have e1 : a2 = p := by rw [h2, hp]
    subst hx e1 ho2
    clear hq1 h3 h2 hp hn ek ez
    cbv
    refine ⟨_, _, hc1, ?_⟩
    cbv
    refine ⟨hC _ _ _ (ben_ok (by kernel_rfl)), ?_⟩
    cbv
    rw [hz]
    simp only [hk]
    refine bT (t1) ?_
    cbv
    simp
  · have t1 : F .cmp .gtr z k = false := by rw [t1]; exact decide_eq_false h
    rw [if_neg h] at h2
    rw [if_neg (by omega)] at hx ho2
    have e1 : z = a2 := by rw [ez, h2]
    have e2 : o2 = o1 := ho2
    subst e1 e2
    have hle : nextA l a + m ≤ l.length := by omega
    have hxs : x = b.extract (nextA l a) (nextA l a + m) := by
      rw [hx, ← BA_L (b.extract _ _), L_extract, ← hb]
      simp
    have en1 : some (aI p) = some (aI ((nextA l a : Nat) : Int)) := by rw [hp]
    have en2 : some (aI z) = some (aI ((nextA l a + m : Nat) : Int)) := by rw [ez]
    have hle2 : ((nextA l a + m : Nat) : Int) ≤ F .slen b := by rw [hk, ek]; exact Int.ofNat_le.2 hle
    clear hq1 h3 h2 hp hn ek ez hx ho2
    cbv
    refine ⟨_, _, hc1, ?_⟩
    cbv
    refine ⟨hC _ _ _ (ben_ok (by kernel_rfl)), ?_⟩
    cbv
    rw [hz, hk]
    refine bF (t1) ?_
    cbv
    refine ⟨hC _ _ _ (ben_ok (by kernel_rfl)), ?_⟩
    cbv
    rw [hz]
    refine ⟨nextA l a, nextA l a + m, en1, en2, Nat.le_add_right _ _, hle2, x, hxs, ?_⟩
    cbv
    rw [hz]
    simp
end Go.Proofs.YtfphhpabfeepmaaDoor
