import Derived.Test.YthepmpfkkhckpaaGreatDoorK9
set_option linter.unusedSimpArgs false
set_option linter.unusedVariables false
namespace Go.Proofs.YthepmpfkkhckpaaGreatDoor
open Go Go.RowKit Am

/-! ### What is fixed: the script of five bytes -/
def ea : Stp := ⟨2, 0, 0, 0, 0, BA []⟩
def eb : Stp := ⟨4, 0, 3, 0, 0, BA []⟩
theorem stR_len (l : List Stp) : (stR l).length = l.length := by simp [stR]
set_option maxHeartbeats 4000000 in
theorem decode_ok (rows : List (List AV)) (hrows : rows = byR [1, 2, 0, 4, 3]) (out : List (List AV)) (hout : out = stR [ea, eb]) : CSem Tryz.prog (.fn 7) [.sl rows] (.pure [aI 2, .sl out]) := by
  refine of_text gam_ok mixed { n := 51, keep := [15, 48], wrs := [15, 16], cuts := [11] } Tryz.func7 (by kernel_rfl) rfl rfl (by simp) (by decide) fun F C D hF hC hD => ?_
  obtain ⟨n', hn'⟩ : ∃ n' : Int, F .len rows = n' := ⟨_, rfl⟩
  have en : n' = 5 := by rw [← hn', lenF hF, hrows]; rfl
  obtain ⟨mn, hmn⟩ : ∃ mn, F .mn n' 4096 = mn := ⟨_, rfl⟩
  have emn : mn = ((5 : Nat) : Int) := by rw [← hmn, hF, en]; rfl
  obtain ⟨rs, hrs⟩ : ∃ rs, rs = (rows.drop 0).take (5 - 0) := ⟨_, rfl⟩
  have ers : rs = byR [1, 2, 0, 4, 3] := by rw [hrs, hrows]; rfl
  have hone : ∀ r ∈ rows, r.length = 1 := by rw [hrows]; exact byR_one _
  have esl : some (aI mn) = some (aI ((5 : Nat) : Int)) := by rw [emn]
  have hsl : ((5 : Nat) : Int) ≤ n' := by rw [en]; exact Int.le_refl _
  obtain ⟨r1, hr1⟩ : ∃ r, r = byR [2, 0, 4, 3] := ⟨_, rfl⟩
  have hc1 := hC _ _ _ (one_ok ([1, 2, 0, 4, 3], false) (by decide) rs ers 1 rfl r1 (by rw [hr1]; rfl) false false rfl rfl)
  have hq : F .ar .rem .i64 1 16 = 1 := by rw [hF]; rfl
  have hadd : F .ar .add .i64 1 1 = 2 := by rw [hF]; rfl
  clear en emn
  cbv
  rw [hn', hmn]
  refine ⟨0, 5, rfl, esl, Nat.zero_le _, hsl, hone, rs, hrs, ?_⟩
  cbv
  refine ⟨_, _, hc1, ?_⟩
  cbv
  rw [hq, hadd]
  refine ⟨List UInt8 × List (List AV) × List Stp × List (List AV), fun x => { slots := [(6, .own 1 0), (5, aI 2), (4, .ptr 0 0)], obs := [(1, .row 31 6 x.2.2.2 0 0), (0, .box 48 [.sl x.2.1, aB false] false)], ctr := 2 },
    fun x => x.2.1 = byR x.1 ∧ x.2.2.2 = stR x.2.2.1 ∧ ((x.1 = [2, 0, 4, 3] ∧ x.2.2.1 = []) ∨ (x.1 = [4, 3] ∧ x.2.2.1 = [ea]) ∨ (x.1 = [] ∧ x.2.2.1 = [ea, eb])),
    fun x => x.1.length, ⟨([2, 0, 4, 3], r1, [], []), ⟨hr1, rfl, .inl ⟨rfl, rfl⟩⟩, Le.trans (le_nil 6 31 6 (by rfl) (by rfl)) (le_of [] (by simp [leSl, leOb, injK, memK, parK, noTup, lk, rn0, rnA, plain] <;> first | rfl | decide))⟩, fun x hx => ?_⟩
  obtain ⟨r, rr, acc, oR⟩ := x
  obtain ⟨er, eR, hx⟩ := hx
  simp only at er eR hx
  obtain ⟨k5, hk5⟩ : ∃ k, F .len rr = k := ⟨_, rfl⟩
  have ek5 : k5 = (r.length : Int) := by rw [← hk5, lenF hF, er, byR_len]
  have t5 : F .cmp .gtr k5 0 = decide (0 < r.length) := by rw [gtF hF, ek5]; congr 1; exact propext ⟨fun h => by omega, fun h => by omega⟩
  rcases hx with ⟨rfl, rfl⟩ | ⟨rfl, rfl⟩ | ⟨rfl, rfl⟩
  · have t5 : F .cmp .gtr k5 0 = true := t5
    obtain ⟨rr2, hrr2⟩ : ∃ r, r = byR [0, 4, 3] := ⟨_, rfl⟩
    have hc2 := hC _ _ _ (one_ok ([2, 0, 4, 3], false) (by decide) rr er 2 rfl rr2 hrr2 false false rfl rfl)
    have u1 : F .cmp .lss 2 1 = false := by rw [lsF hF]; rfl
    have u2 : F .cmp .gtr 2 11 = false := by rw [gtF hF]; rfl
    obtain ⟨rr3, hrr3⟩ : ∃ x, x = byR [4, 3] := ⟨_, rfl⟩
    have hent := hC _ _ _ (entry_ok ([0, 4, 3], false) (by decide) 2 2 (by decide) (by decide) (by decide) (by decide) 2 2 rfl rfl rr2 hrr2 ea rfl rr3 hrr3 false false rfl rfl)
    obtain ⟨x, hx⟩ : ∃ x, x = ea := ⟨_, rfl⟩
    rw [← hx] at hent
    obtain ⟨oR2, hoR2⟩ : ∃ o2, F .app oR [x.cs] = o2 := ⟨_, rfl⟩
    have eR2 : oR2 = stR [ea] := by rw [← hoR2, hF, eR, hx]; rfl
    have hrm : (F .len oR + F .len [x.cs]) * 56 ≤ 140737488355328 := by rw [lenF hF, lenF hF, eR]; simp [stR]
    have hel : ∀ r ∈ [x.cs], r.length = 6 := fun r h => by rw [List.mem_singleton.1 h]; rfl
    clear ek5 hx
    obtain ⟨xk, xn, xm, xa, xt, xb⟩ := x
    cbv
    rw [hk5]
    refine bT (t5) ?_
    cbv
    refine ⟨_, _, hc2, ?_⟩
    cbv
    refine cF (u1) ?_
    cbv
    refine bF (u2) ?_
    cbv
    refine ⟨_, _, hent, ?_⟩
    cbv
    refine bF (rfl) ?_
    cbv
    refine ⟨hel, hrm, ?_⟩
    cbv
    rw [hoR2]
    exact ⟨([4, 3], rr3, [ea], oR2), ⟨hrr3, eR2, .inr (.inl ⟨rfl, rfl⟩)⟩, (show List.length [4, 3] < List.length [2, 0, 4, 3] by decide), (le_of [(1, 3)] (by simp [leSl, leOb, injK, memK, parK, noTup, lk, rn0, rnA, plain] <;> first | rfl | decide))⟩
  · have t5 : F .cmp .gtr k5 0 = true := t5
    obtain ⟨rr2, hrr2⟩ : ∃ r, r = byR [3] := ⟨_, rfl⟩
    have hc2 := hC _ _ _ (one_ok ([4, 3], false) (by decide) rr er 4 rfl rr2 hrr2 false false rfl rfl)
    have u1 : F .cmp .lss 4 1 = false := by rw [lsF hF]; rfl
    have u2 : F .cmp .gtr 4 11 = false := by rw [gtF hF]; rfl
    obtain ⟨rr3, hrr3⟩ : ∃ x : List (List AV), x = byR [] := ⟨_, rfl⟩
    have hent := hC _ _ _ (entry_ok ([3], false) (by decide) 4 2 (by decide) (by decide) (by decide) (by decide) 4 2 rfl rfl rr2 hrr2 eb rfl rr3 hrr3 false false rfl rfl)
    obtain ⟨x, hx⟩ : ∃ x, x = eb := ⟨_, rfl⟩
    rw [← hx] at hent
    obtain ⟨oR2, hoR2⟩ : ∃ o2, F .app oR [x.cs] = o2 := ⟨_, rfl⟩
    have eR2 : oR2 = stR [ea, eb] := by rw [← hoR2, hF, eR, hx]; rfl
    have hrm : (F .len oR + F .len [x.cs]) * 56 ≤ 140737488355328 := by rw [lenF hF, lenF hF, eR]; simp [stR]
    have hel : ∀ r ∈ [x.cs], r.length = 6 := fun r h => by rw [List.mem_singleton.1 h]; rfl
    clear ek5 hx
    obtain ⟨xk, xn, xm, xa, xt, xb⟩ := x
    cbv
    rw [hk5]
    refine bT (t5) ?_
    cbv
    refine ⟨_, _, hc2, ?_⟩
    cbv
    refine cF (u1) ?_
    cbv
    refine bF (u2) ?_
    cbv
    refine ⟨_, _, hent, ?_⟩
    cbv
    refine bF (rfl) ?_
    cbv
    refine ⟨hel, hrm, ?_⟩
    cbv
    rw [hoR2]
    exact ⟨([], rr3, [ea, eb], oR2), ⟨hrr3, eR2, .inr (.inr ⟨rfl, rfl⟩)⟩, (show List.length [] < List.length [4, 3] by decide), (le_of [(1, 3)] (by simp [leSl, leOb, injK, memK, parK, noTup, lk, rn0, rnA, plain] <;> first | rfl | decide))⟩
  · have t5 : F .cmp .gtr k5 0 = false := t5
    have e : oR = out := by rw [hout, eR]
    subst e
    clear hout er eR ek5
    cbv
    rw [hk5]
    refine bF (t5) ?_
    cbv
    refine ⟨_, le_frzV _ [.tmp 6], hD _ _ _ ?_⟩
    cbv
    simp
theorem awake_ok : CSem Tryz.prog (.fn 4) [] (.pure [aB true]) := by
  refine of_text gam_ok mixed { n := 29 } Tryz.func4 (by kernel_rfl) rfl rfl (by simp) (by decide) fun F C D hF hC hD => ?_
  obtain ⟨out, hout⟩ : ∃ o, o = stR [ea, eb] := ⟨_, rfl⟩
  have hd := hC _ _ _ (decode_ok [[aU 1], [aU 2], [aU 0], [aU 4], [aU 3]] rfl out hout)
  have r0 : out[0]? = some [aI 2, aI 0, aI 0, aI 0, aI 0, aS (BA [])] := by rw [hout]; rfl
  have r1 : out[1]? = some [aI 4, aI 0, aI 3, aI 0, aI 0, aS (BA [])] := by rw [hout]; rfl
  have t2 : F .cmp .eql 2 2 = true := by rw [eqF hF]; rfl
  have t3 : F .cmp .eql 3 3 = true := by rw [eqF hF]; rfl
  obtain ⟨k, hk⟩ : ∃ k, F .len out = k := ⟨_, rfl⟩
  have ek : F .cmp .eql k 2 = true := by rw [eqF hF, ← hk, lenF hF, hout]; rfl
  clear hout
  cbv
  refine ⟨_, hd, ?_⟩
  cbv
  refine bT (t2) ?_
  cbv
  rw [hk]
  refine bT (ek) ?_
  cbv
  refine ⟨0, _, rfl, r0, rfl, ?_⟩
  cbv
  refine bT (t2) ?_
  cbv
  refine ⟨1, _, rfl, r1, rfl, ?_⟩
  cbv
  rw [t3]
  simp
end Go.Proofs.YthepmpfkkhckpaaGreatDoor
