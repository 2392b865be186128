import Derived.Test.YtdmdahnnfancpaaG3
set_option linter.unusedSimpArgs false
set_option linter.unusedVariables false
namespace Go.Proofs.Ytdmdahnnfancpaa
open Go Go.RowKit Am

/-! ### reg.Latest, field.Get -/
theorem csem_nil {f : Nat} {r : Res} (h : CSem Try.prog (.fn f) [.sl []] r) : CSem Try.prog (.fn f) [.v (.slice none 0 0)] r := by
  refine ⟨h.1, fun w S xs hS hgd hr => h.2 w S xs hS hgd ?_⟩
  obtain ⟨y, rfl, hy⟩ := reps_one hr
  rw [rep_v hy]
  exact Reps.cons (.c (.nil none 0 (fun _ => rfl))) (Reps.nil _ _)
set_option maxHeartbeats 4000000 in
theorem latest2_ok (l : List Ev) (hl : l.length ≤ 1000000) (rows : List (List AV)) (hrows : rows = evR l) (x : Ev) (ok : Bool) (h1 : ∀ e, latR l = some e → x = e ∧ ok = true) (h2 : latR l = none → x = zE ∧ ok = false) : CSem Try.prog (.fn 49) [.sl rows] (.pure [aE x, aB ok]) := by
  refine of_text gam_ok mixed { n := 27, keep := [4] } Try.func49 (by kernel_rfl) rfl rfl (by simp) (by decide) fun F C D hF hC hD => ?_
  obtain ⟨n', hn'⟩ : ∃ n' : Int, F .len rows = n' := ⟨_, rfl⟩
  have en : n' = (l.length : Int) := by rw [← hn', lenF hF, hrows, evR_len]
  rw [← best_latR] at h1 h2
  cbv
  rw [hn']
  refine ⟨Nat × Int × Ev, fun x => { slots := [(9, aI x.2.1), (8, aI n'), (7, .sl rows), (4, .ptr 1 0), (3, aB false), (2, .ptr 0 0), (0, .sl rows)], obs := [(1, .box 35 x.2.2.ac false), (0, .box 35 zE.ac true)], ctr := 2 }, fun x => x.2.1 = (x.1 : Int) ∧ x.1 ≤ l.length ∧ (x.1 = 0 → x.2.2 = zE) ∧ (0 < x.1 → (l.take x.1).foldl best none = some x.2.2), fun x => l.length - x.1, ⟨(0, 0, zE), ⟨rfl, Nat.zero_le _, fun _ => rfl, fun h => absurd h (Nat.lt_irrefl 0)⟩, (le_of [] (by simp [leSl, leOb, injK, memK, parK, noTup, lk, rn0, rnA, plain] <;> first | rfl | decide))⟩, fun x hx => ?_⟩
  obtain ⟨i, i', c⟩ := x
  obtain ⟨ei, hi, hc0, hc1⟩ := hx
  simp only at ei hi hc0 hc1
  have en : n' = (l.length : Int) := en
  have tl := ltF hF i l.length i' n' ei en
  obtain ⟨i2, hi2⟩ : ∃ i2, F .ar .add .i64 i' 1 = i2 := ⟨_, rfl⟩
  have ei2 : i2 = ((i + 1 : Nat) : Int) := hi2.symm.trans (incF hF ei (by omega))
  by_cases hil : i < l.length
  · have tl : F .cmp .lss i' n' = true := tl.2 hil
    obtain ⟨e, he⟩ : ∃ s, l[i]? = some s := ⟨_, List.getElem?_eq_getElem hil⟩
    have hrow : rows[i]? = some e.ac := by rw [hrows]; exact evR_get he
    have hmu : l.length - (i + 1) < l.length - i := by omega
    have hst : (l.take (i + 1)).foldl best none = best ((l.take i).foldl best none) e := by rw [List.take_add_one, he, List.foldl_append]; rfl
    have tz : F .cmp .eql i' 0 = decide (i' = 0) := eqF hF _ _
    by_cases hi0 : i = 0
    · have tz : F .cmp .eql i' 0 = true := by rw [tz]; exact decide_eq_true (by omega)
      have hc2 : (l.take (i + 1)).foldl best none = some e := by rw [hst, hi0]; rfl
      clear h1 h2 hst hc0 hc1
      cbv
      refine bT (tl) ?_
      cbv
      refine ⟨i, _, ei, hrow, rfl, ?_⟩
      cbv
      refine cT (tz) ?_
      cbv
      rw [hi2]
      exact ⟨(i + 1, i2, e), ⟨ei2, hil, fun h => absurd h (Nat.succ_ne_zero _), fun _ => hc2⟩, hmu, le_of [] (by simp [leSl, leOb, injK, memK, parK, noTup, lk, rn0, rnA, plain]; repeat (first | rfl | refine And.intro ?_ ?_ | trivial))⟩
    · have tz : F .cmp .eql i' 0 = false := by rw [tz]; exact decide_eq_false (by omega)
      obtain ⟨q, hq⟩ : ∃ q, q = laterB e c := ⟨_, rfl⟩
      have hlat := hC _ _ _ (later_ok e c q hq)
      have hs := hc1 (by omega)
      rw [hs] at hst
      cases q with
      | true =>
        have hc2 : (l.take (i + 1)).foldl best none = some e := by rw [hst]; simp only [best, ← hq, if_true]
        clear h1 h2 hst hc0 hc1 hs hq
        cbv
        refine bT (tl) ?_
        cbv
        refine ⟨i, _, ei, hrow, rfl, ?_⟩
        cbv
        refine cF (tz) ?_
        cbv
        refine ⟨_, hlat, ?_⟩
        cbv
        refine bT (rfl) ?_
        cbv
        rw [hi2]
        exact ⟨(i + 1, i2, e), ⟨ei2, hil, fun h => absurd h (Nat.succ_ne_zero _), fun _ => hc2⟩, hmu, le_of [] (by simp [leSl, leOb, injK, memK, parK, noTup, lk, rn0, rnA, plain]; repeat (first | rfl | refine And.intro ?_ ?_ | trivial))⟩
      | false =>
        have hc2 : (l.take (i + 1)).foldl best none = some c := by rw [hst]; simp [best, ← hq]
        clear h1 h2 hst hc0 hc1 hs hq
        cbv
        refine bT (tl) ?_
        cbv
        refine ⟨i, _, ei, hrow, rfl, ?_⟩
        cbv
        refine cF (tz) ?_
        cbv
        refine ⟨_, hlat, ?_⟩
        cbv
        refine bF (rfl) ?_
        cbv
        rw [hi2]
        exact ⟨(i + 1, i2, c), ⟨ei2, hil, fun h => absurd h (Nat.succ_ne_zero _), fun _ => hc2⟩, hmu, le_of [] (by simp [leSl, leOb, injK, memK, parK, noTup, lk, rn0, rnA, plain]; repeat (first | rfl | refine And.intro ?_ ?_ | trivial))⟩
  · have tl : F .cmp .lss i' n' = false := by cases h : F .cmp .lss i' n' with | true => exact absurd (tl.1 h) hil | false => rfl
    have tg : F .cmp .gtr n' 0 = decide (n' > 0) := gtF hF _ _
    have hxc : x = c ∧ decide (n' > 0) = ok := by
      have hil2 : i = l.length := by omega
      rw [hil2, List.take_length] at hc1
      by_cases h0 : i = 0
      · have hn : l = [] := List.eq_nil_of_length_eq_zero (by omega)
        subst hn
        obtain ⟨a1, a2⟩ := h2 rfl
        exact ⟨by rw [a1, hc0 h0], by rw [a2]; exact decide_eq_false (by omega)⟩
      · obtain ⟨a1, a2⟩ := h1 _ (hc1 (by omega))
        exact ⟨a1, by rw [a2]; exact decide_eq_true (by omega)⟩
    obtain ⟨rfl, hok⟩ := hxc
    rw [hok] at tg
    clear h1 h2 hc0 hc1 hok
    cbv
    refine bF (tl) ?_
    cbv
    rw [hn', tg]
    simp
def getH (l : List Ev) (s : ByteArray) : Option Ev := latR (ownH l s)
theorem latR_nil : latR [] = none := rfl
theorem getF_ok (l : List Ev) (hl : l.length ≤ 1000000) (rows : List (List AV)) (hrows : rows = evR l) (s v : ByteArray) (q : Bool) (g1 : ∀ e, getH l s = some e → v = e.op.val ∧ q = true) (g2 : getH l s = none → v = BA [] ∧ q = false) : CSem Try.prog (.fn 25) [.sl rows, aS s] (.pure [aS v, aB q]) := by
  refine of_text gam_ok mixed { n := 20 } Try.func25 (by kernel_rfl) rfl rfl (by simp) (by decide) fun F C D hF hC hD => ?_
  obtain ⟨ks, hks⟩ : ∃ k, k = keysH l := ⟨_, rfl⟩
  obtain ⟨vs, hvs⟩ : ∃ k, k = mapH l := ⟨_, rfl⟩
  have hby := hC _ _ _ (by_ok l hl rows hrows ks vs hks hvs)
  have hol : (ownH l s).length ≤ l.length := List.length_filter_le _ _
  obtain ⟨x, hx1, hx2, hxv⟩ : ∃ x : Ev, (∀ e, latR (ownH l s) = some e → x = e ∧ q = true) ∧ (latR (ownH l s) = none → x = zE ∧ q = false) ∧ x.op.val = v := by
    unfold getH at g1 g2
    cases h : latR (ownH l s) with
    | none => exact ⟨zE, (fun e he => by cases he), fun _ => ⟨rfl, (g2 h).2⟩, by rw [(g2 h).1]; rfl⟩
    | some e => exact ⟨e, (fun e' he => by injection he with he; exact ⟨he, (g1 e h).2⟩), (fun he => by cases he), (g1 e h).1.symm⟩
  obtain ⟨r2, hr2⟩ : ∃ r, r = evR (ownH l s) := ⟨_, rfl⟩
  have hlat0 := latest2_ok (ownH l s) (by omega) r2 hr2 x q hx1 hx2
  by_cases hin : s ∈ keysH l
  · have hm := mapH_hit l s hin
    rw [← hks, ← hvs, ← hr2] at hm
    have hlat := hC _ _ _ hlat0
    clear g1 g2 hx1 hx2 hr2 hlat0 hks hvs
    cbv
    refine ⟨_, hby, ?_⟩
    cbv
    refine ⟨_, .hit1 hm, fun _ => trivial, ?_⟩
    cbv
    refine ⟨_, hlat, ?_⟩
    cbv
    have hxv : x.4.4 = v := hxv
    simp [hxv]
  · have hm := mapH_miss l s hin
    rw [← hks, ← hvs] at hm
    have hnil : r2 = [] := by rw [hr2, (ownH_nil l s).1 hin]; rfl
    rw [hnil] at hlat0
    have hlat := hC _ _ _ (csem_nil hlat0)
    clear g1 g2 hx1 hx2 hr2 hlat0 hks hvs
    cbv
    refine ⟨_, hby, ?_⟩
    cbv
    refine ⟨_, .miss1 hm, fun _ => trivial, ?_⟩
    cbv
    refine ⟨_, hlat, ?_⟩
    cbv
    have hxv : x.4.4 = v := hxv
    simp [hxv]
def awH : Ev := ⟨⟨0, 0⟩, 0, fun _ => 0, ⟨5, BA [], BA [102], BA [97], 0, ⟨0, 0⟩⟩⟩
theorem awH_get : getH [awH] (BA [102]) = some awH := by
  unfold getH
  have h : ownH [awH] (BA [102]) = [awH] := by unfold ownH; simp [awH]
  rw [h]
  unfold latR topB
  simp [later_irr]
theorem awakeF_ok : CSem Try.prog (.fn 23) [] (.pure [aB true]) := by
  refine of_text gam_ok mixed { n := 15 } Try.func23 (by kernel_rfl) rfl rfl (by simp) (by decide) fun F C D hF hC hD => ?_
  have hg := hC _ _ _ (getF_ok [awH] (by decide) [awH.ac] rfl (BA [102]) (BA [97]) true (fun e h => by rw [awH_get] at h; injection h with h; rw [← h]; exact ⟨rfl, rfl⟩) (fun h => by rw [awH_get] at h; cases h))
  have t3 : F .scmp .eql (BA [97]) (BA [97]) = true := by rw [seqF hF]; exact decide_eq_true rfl
  unfold awH Ev.ac BA at hg
  unfold BA at t3
  cbv
  refine ⟨_, hg, ?_⟩
  cbv
  refine bT (t3) ?_
  cbv
  simp
end Go.Proofs.Ytdmdahnnfancpaa
