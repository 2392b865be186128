import Derived.Test.YtljpmnifkccbdaaK5
set_option linter.unusedSimpArgs false
set_option linter.unusedVariables false
namespace Go.Proofs.Ytljpmnifkccbdaa
open Go Go.RowKit Am Go.Sort

theorem keyT_take {l : List Ev} {i : Nat} {e : Ev} (he : l[i]? = some e) (key : ByteArray) : keyT (l.take (i + 1)) key = if keyP key e = true then typI e.op.kind else keyT (l.take i) key := by
  have htake : l.take (i + 1) = l.take i ++ [e] := by rw [List.take_add_one, he]; rfl
  rw [htake, keyT_snoc]
theorem key40_ok (l : List Ev) (hl : l.length ≤ 100000000) (key : ByteArray) (rows : List (List AV)) (hrows : rows = evR l) (r : Int) (hr : r = keyT l key) : CSem Try.prog (.fn 40) [.sl rows, aS key] (.pure [aI r]) := by
  refine of_text gam_ok mixed { n := 29 } Try.func40 (by kernel_rfl) rfl rfl (by simp) (by decide) fun F C D hF hC hD => ?_
  obtain ⟨n', hn'⟩ : ∃ n', F .len rows = n' := ⟨_, rfl⟩
  have en : n' = (l.length : Int) := by rw [← hn', lenF hF, hrows, evR_len]
  cbv
  rw [hn']
  refine ⟨Nat × Int × Int, fun x => { slots := [(9, aI x.2.1), (8, aI n'), (5, aI x.2.2), (0, .sl rows), (1, aS key)], obs := [], ctr := 0 }, fun x => x.2.1 = (x.1 : Int) ∧ x.1 ≤ l.length ∧ x.2.2 = keyT (l.take x.1) key, fun x => l.length - x.1, ⟨(0, 0, 0), ⟨rfl, Nat.zero_le _, by simp [keyT]⟩, le_of [] (by simp [leSl, leOb, injK, memK, parK, noTup, lk, rn0, rnA, plain, aI])⟩, fun x hx => ?_⟩
  obtain ⟨i, i', v⟩ := x
  obtain ⟨ei, hi, hv⟩ := hx
  simp only at ei hi hv
  have en : n' = (l.length : Int) := en
  have tl := ltF hF i l.length i' n' ei en
  have ep := incF hF ei (by omega)
  obtain ⟨j, hj⟩ : ∃ j, F .ar .add .i64 i' 1 = j := ⟨_, rfl⟩
  have ej : j = ((i + 1 : Nat) : Int) := hj.symm.trans ep
  cbv
  refine br (fun h => ?_) (fun h => ?_) <;> cbv
  · have hil := tl.1 h
    obtain ⟨e, he⟩ : ∃ e, l[i]? = some e := ⟨_, List.getElem?_eq_getElem hil⟩
    have hrow : rows[i]? = some e.ac := by rw [hrows]; exact evR_get he
    have hk : F .scmp .eql e.op.key key = keyP key e := by rw [hF, keyP, beq_toListBytes]; rfl
    have ht := keyT_take he key
    obtain ⟨ty, hty⟩ : ∃ ty, ty = typI e.op.kind := ⟨_, rfl⟩
    have htyp := hC _ _ _ (typR_ok e.op.kind ty hty)
    refine ⟨i, e.ac, ei, hrow, rfl, ?_⟩
    cbv
    refine br (fun g => ?_) (fun g => ?_) <;> cbv
    · refine ⟨i, e.ac, ei, hrow, rfl, ?_⟩
      cbv
      refine ⟨_, htyp, ?_⟩
      cbv
      rw [hj]
      exact ⟨(i + 1, j, ty), ⟨ej, hil, (show ty = keyT (l.take (i + 1)) key by rw [ht, if_pos (hk.symm.trans g)]; exact hty)⟩, (show l.length - (i + 1) < l.length - i by omega), le_of [] (by simp [leSl, leOb, injK, memK, parK, noTup, lk, rn0, rnA, plain])⟩
    · rw [hj]
      exact ⟨(i + 1, j, v), ⟨ej, hil, (show v = keyT (l.take (i + 1)) key by rw [ht, if_neg (by rw [hk.symm.trans g]; simp)]; exact hv)⟩, (show l.length - (i + 1) < l.length - i by omega), le_of [] (by simp [leSl, leOb, injK, memK, parK, noTup, lk, rn0, rnA, plain])⟩
  · have hge : l.length ≤ i := by have := nfB tl h; omega
    have : v = r := by rw [hr, hv, List.take_of_length_le hge]
    rw [this]; exact ⟨rfl, trivial⟩
abbrev sh41 (i' n' t : Int) (key : ByteArray) (rows out : List (List AV)) : St := { slots := [(13, aI i'), (12, aI n'), (5, aI t), (0, .sl rows), (1, aS key), (6, .own 0 0)], obs := [(0, .row 34 26 out 0 0)], ctr := 1 }
theorem ofR_ok (l : List Ev) (hl : l.length ≤ 100000000) (key : ByteArray) (rows : List (List AV)) (hrows : rows = evR l) (out : List (List AV)) (hout : out = evR (ofR l key)) : CSem Try.prog (.fn 41) [.sl rows, aS key] (.own 34 26 out []) := by
  refine of_text gam_ok mixed { n := 44, keep := [41] } Try.func41 (by kernel_rfl) rfl rfl (by simp) (by decide) fun F C D hF hC hD => ?_
  obtain ⟨n', hn'⟩ : ∃ n', F .len rows = n' := ⟨_, rfl⟩
  have en : n' = (l.length : Int) := by rw [← hn', lenF hF, hrows, evR_len]
  obtain ⟨t, ht⟩ : ∃ t, t = keyT l key := ⟨_, rfl⟩
  have hkt := hC _ _ _ (key40_ok l hl key rows hrows t ht)
  obtain ⟨p, hp⟩ : ∃ p : Ev → Bool, p = fun e => keyP key e && typI e.op.kind == t := ⟨_, rfl⟩
  have hout : out = evR (l.filter p) := by rw [hout, ofR, hp, ht]
  cbv
  refine ⟨_, hkt, ?_⟩
  cbv
  rw [hn']
  refine ⟨Nat × Int × List (List AV), fun x => sh41 x.2.1 n' t key rows x.2.2, fun x => x.2.1 = (x.1 : Int) ∧ x.1 ≤ l.length ∧ x.2.2 = evR ((l.take x.1).filter p), fun x => l.length - x.1, ⟨(0, 0, []), ⟨rfl, Nat.zero_le _, by simp [evR]⟩, Le.trans (le_nil 6 34 26 (by rfl) (by rfl)) (le_of [] (by simp [leSl, leOb, injK, memK, parK, noTup, lk, rn0, rnA, plain, aI]))⟩, fun x hx => ?_⟩
  obtain ⟨i, i', o⟩ := x
  obtain ⟨ei, hi, ho⟩ := hx
  simp only at ei hi ho
  have en : n' = (l.length : Int) := en
  have tl := ltF hF i l.length i' n' ei en
  have ep := incF hF ei (by omega)
  have hol : o.length ≤ l.length := by
    rw [ho, evR_len]
    exact Nat.le_trans (List.length_filter_le _ _) (by simp; omega)
  have room : ∀ q : List (List AV), q.length = 1 → (F .len o + F .len q) * 232 ≤ 140737488355328 := fun q hq => by rw [lenF hF, lenF hF, hq]; omega
  obtain ⟨j, hj⟩ : ∃ j, F .ar .add .i64 i' 1 = j := ⟨_, rfl⟩
  have ej : j = ((i + 1 : Nat) : Int) := hj.symm.trans ep
  cbv
  refine br (fun h => ?_) (fun h => ?_) <;> cbv
  · have hil := tl.1 h
    obtain ⟨e, he⟩ : ∃ e, l[i]? = some e := ⟨_, List.getElem?_eq_getElem hil⟩
    have hrow : rows[i]? = some e.ac := by rw [hrows]; exact evR_get he
    have htake : l.take (i + 1) = l.take i ++ [e] := by rw [List.take_add_one, he]; rfl
    have hno : p e = false → o = evR ((l.take (i + 1)).filter p) := fun h => by rw [htake, List.filter_append, ho]; simp [evR, h]
    obtain ⟨o2, ho2⟩ : ∃ o2, o2 = F .app o [e.ac] := ⟨_, rfl⟩
    have hyes : p e = true → o2 = evR ((l.take (i + 1)).filter p) := fun h => by rw [ho2, htake, List.filter_append, ho, hF]; simp [evR, h, sy]
    have hrm := room [e.ac] rfl
    have hel : ∀ r ∈ [e.ac], r.length = 26 := fun r h => by rw [List.mem_singleton.1 h]; rfl
    have hk : F .scmp .eql e.op.key key = keyP key e := by rw [hF, keyP, beq_toListBytes]; rfl
    obtain ⟨ty, hty⟩ : ∃ ty, ty = typI e.op.kind := ⟨_, rfl⟩
    have htyp := hC _ _ _ (typR_ok e.op.kind ty hty)
    have hq : F .cmp .eql ty t = (typI e.op.kind == t) := by rw [hF, hty]; rfl
    have hpe : p e = (keyP key e && typI e.op.kind == t) := by rw [hp]
    refine ⟨i, e.ac, ei, hrow, rfl, ?_⟩
    cbv
    refine br (fun g => ?_) (fun g => ?_) <;> cbv
    · refine ⟨i, e.ac, ei, hrow, rfl, ?_⟩
      cbv
      refine ⟨_, htyp, ?_⟩
      cbv
      refine br (fun f => ?_) (fun f => ?_) <;> cbv
      · refine ⟨i, e.ac, ei, hrow, rfl, ?_⟩
        cbv
        refine ⟨hel, hrm, ?_⟩
        rw [hj]
        exact ⟨(i + 1, j, o2), ⟨ej, hil, hyes (by rw [hpe, hk.symm.trans g, hq.symm.trans f]; rfl)⟩, (show l.length - (i + 1) < l.length - i by omega), le_of [(0, 1)] (by simp [leSl, leOb, injK, memK, parK, noTup, lk, rn0, rnA, plain]; exact ⟨ho2.symm, rfl⟩)⟩
      · rw [hj]
        exact ⟨(i + 1, j, o), ⟨ej, hil, hno (by rw [hpe, hk.symm.trans g, hq.symm.trans f]; rfl)⟩, (show l.length - (i + 1) < l.length - i by omega), le_of [] (by simp [leSl, leOb, injK, memK, parK, noTup, lk, rn0, rnA, plain])⟩
    · rw [hj]
      exact ⟨(i + 1, j, o), ⟨ej, hil, hno (by rw [hpe, hk.symm.trans g]; rfl)⟩, (show l.length - (i + 1) < l.length - i by omega), le_of [] (by simp [leSl, leOb, injK, memK, parK, noTup, lk, rn0, rnA, plain])⟩
  · have hge : l.length ≤ i := by have := nfB tl h; omega
    have hfin : o = out := by rw [ho, List.take_of_length_le hge, hout]
    exact ⟨hfin, trivial⟩
theorem gtrS {F : Sy} (hF : F = sy) (a b : ByteArray) : F .scmp .gtr a b = decide (kOf b < kOf a) := by
  have h1 : a.toList = kOf a := ByteArray.toList_eq a
  have h2 : b.toList = kOf b := ByteArray.toList_eq b
  rw [hF]
  show (!(Op.bytesLess a.toList b.toList || a.toList == b.toList)) = _
  rw [h1, h2, bytesLess_eq, Bool.eq_iff_iff]
  simp only [Bool.not_eq_true', Bool.or_eq_false_iff, decide_eq_false_iff_not, beq_eq_false_iff_ne, decide_eq_true_eq]
  constructor
  · rintro ⟨g1, g2⟩
    exact lt_of_ne g1 (fun e => g2 e.symm)
  · intro g
    exact ⟨fun g1 => absurd (List.lt_trans g g1) (List.lt_irrefl _), fun e => by rw [e] at g; exact absurd g (List.lt_irrefl _)⟩
theorem eqlS {F : Sy} (hF : F = sy) (a b : ByteArray) : F .scmp .eql a b = decide (kOf a = kOf b) := by
  have h1 : a.toList = kOf a := ByteArray.toList_eq a
  have h2 : b.toList = kOf b := ByteArray.toList_eq b
  rw [hF]
  show (a.toList == b.toList) = _
  rw [h1, h2, Bool.beq_eq_decide_eq]
abbrev sh67 (i' n' : Int) (f : Bool) (key : ByteArray) (rows out : List (List AV)) : St := { slots := [(10, aI i'), (9, aI n'), (6, aB f), (0, .sl rows), (1, aS key), (5, .own 0 0)], obs := [(0, .row 9 1 out 0 0)], ctr := 1 }
theorem sR_app (l : List Str) (a : ByteArray) : sR l ++ [[aS a]] = sR (l ++ [kOf a]) := by simp [sR, kOf]
theorem with_ok (l : List Str) (hl : l.length ≤ 100000000) (key : ByteArray) (rows : List (List AV)) (hrows : rows = sR l) (out : List (List AV)) (hout : out = sR (withS l (kOf key))) : CSem Try.prog (.fn 67) [.sl rows, aS key] (.pure [.sl out]) := by
  refine of_text gam_ok mixed { n := 49, keep := [33, 40, 47] } Try.func67 (by kernel_rfl) rfl rfl (by simp) (by decide) fun F C D hF hC hD => ?_
  obtain ⟨n', hn'⟩ : ∃ n', F .len rows = n' := ⟨_, rfl⟩
  have en : n' = (l.length : Int) := by rw [← hn', lenF hF, hrows, sR_len]
  obtain ⟨k, hk⟩ : ∃ k, k = kOf key := ⟨_, rfl⟩
  rw [← hk] at hout
  cbv
  rw [hn']
  refine ⟨Nat × Int × Bool × List (List AV), fun x => sh67 x.2.1 n' x.2.2.1 key rows x.2.2.2, fun x => x.2.1 = (x.1 : Int) ∧ x.1 ≤ l.length ∧ x.2.2.1 = (wS k (l.take x.1)).1 ∧ x.2.2.2 = sR (wS k (l.take x.1)).2 ∧ k ∉ l.take x.1, fun x => l.length - x.1, ⟨(0, 0, false, []), ⟨rfl, Nat.zero_le _, by simp [wS], by simp [wS, sR], by simp⟩, Le.trans (le_nil 5 9 1 (by rfl) (by rfl)) (le_of [] (by simp [leSl, leOb, injK, memK, parK, noTup, lk, rn0, rnA, plain, aI]))⟩, fun x hx => ?_⟩
  obtain ⟨i, i', f, o⟩ := x
  obtain ⟨ei, hi, hf, ho, hnk⟩ := hx
  simp only at ei hi hf ho hnk
  have en : n' = (l.length : Int) := en
  have tl := ltF hF i l.length i' n' ei en
  have ep := incF hF ei (by omega)
  have hwl := (wS_len k (l.take i)).1
  have hol : o.length ≤ l.length + 1 := by rw [ho, sR_len]; simp at hwl; omega
  obtain ⟨j, hj⟩ : ∃ j, F .ar .add .i64 i' 1 = j := ⟨_, rfl⟩
  have ej : j = ((i + 1 : Nat) : Int) := hj.symm.trans ep
  have nf : F .bnot f = !f := bnotF hF f
  cbv
  refine br (fun h => ?_) (fun h => ?_) <;> cbv
  · have hil := tl.1 h
    obtain ⟨s, hs⟩ : ∃ s, l[i]? = some s := ⟨_, List.getElem?_eq_getElem hil⟩
    obtain ⟨a, ha, hrow⟩ := sR_at hs
    rw [← hrows] at hrow
    have htake : l.take (i + 1) = l.take i ++ [s] := by rw [List.take_add_one, hs]; rfl
    have hw := wS_snoc k (l.take i) s
    rw [← htake, ← hf] at hw
    have heq := eqlS hF a key
    have hgt := gtrS hF a key
    rw [ha, ← hk] at heq hgt
    obtain ⟨o1, ho1⟩ : ∃ o1, o1 = F .app o [[aS a]] := ⟨_, rfl⟩
    obtain ⟨o2, ho2⟩ : ∃ o2, o2 = F .app o [[aS key]] := ⟨_, rfl⟩
    obtain ⟨o3, ho3⟩ : ∃ o3, o3 = F .app o2 [[aS a]] := ⟨_, rfl⟩
    have e1 : o1 = sR ((wS k (l.take i)).2 ++ [s]) := by rw [ho1, hF, ho, ← ha]; exact sR_app _ _
    have e2 : o2 = sR ((wS k (l.take i)).2 ++ [k]) := by rw [ho2, hF, ho, hk]; exact sR_app _ _
    have e3 : o3 = sR ((wS k (l.take i)).2 ++ [k] ++ [s]) := by rw [ho3, e2, hF, ← ha]; exact sR_app _ _
    have hb : ∀ q : List (List AV), ∀ c, q.length = 1 → c = o ∨ c = o2 → (F .len c + F .len q) * 16 ≤ 140737488355328 := fun q c hq hc => by
      have h2 : o2.length = o.length + 1 := by rw [ho2, hF]; simp [sy]
      rw [lenF hF, lenF hF, hq]
      rcases hc with rfl | rfl <;> omega
    have b1 := hb [[aS a]] o rfl (.inl rfl)
    have b2 := hb [[aS key]] o rfl (.inl rfl)
    have b3 := hb [[aS a]] o2 rfl (.inr rfl)
    have h1a : ∀ r ∈ [[aS a]], r.length = 1 := fun r h => by rw [List.mem_singleton.1 h]; rfl
    have h1k : ∀ r ∈ [[aS key]], r.length = 1 := fun r h => by rw [List.mem_singleton.1 h]; rfl
    refine ⟨i, [aS a], ei, hrow, rfl, ?_⟩
    cbv
    refine br (fun g => ?_) (fun g => ?_) <;> cbv
    · have hsk : s = k := of_decide_eq_true (heq.symm.trans g)
      have : rows = out := by rw [hout, withS, if_pos (by rw [← hsk]; exact List.mem_of_getElem? hs), hrows]
      rw [this]; exact ⟨rfl, trivial⟩
    have hsk : s ≠ k := of_decide_eq_false (heq.symm.trans g)
    have hnk2 : k ∉ l.take (i + 1) := by
      rw [htake, List.mem_append, List.mem_singleton]
      rintro (h | h)
      · exact hnk h
      · exact hsk h.symm
    refine br (fun g2 => ?_) (fun g2 => ?_) <;> cbv
    · have hff : f = false := by have := nf.symm.trans g2; simpa using this
      refine ⟨i, [aS a], ei, hrow, rfl, ?_⟩
      cbv
      refine br (fun g3 => ?_) (fun g3 => ?_) <;> cbv
      · have hks : k < s := of_decide_eq_true (hgt.symm.trans g3)
        rw [if_pos (by rw [hff]; simp [hks])] at hw
        refine ⟨h1k, b2, ?_⟩
        rw [← ho2]
        cbv
        refine ⟨i, [aS a], ei, hrow, rfl, ?_⟩
        cbv
        refine ⟨h1a, b3, ?_⟩
        rw [← ho3, hj]
        exact ⟨(i + 1, j, true, o3), ⟨ej, hil, (by rw [hw]), (by rw [hw]; exact e3), hnk2⟩, (show l.length - (i + 1) < l.length - i by omega), le_of [(0, 2)] (by simp [leSl, leOb, injK, memK, parK, noTup, lk, rn0, rnA, plain]; rfl)⟩
      · have hks : ¬ k < s := of_decide_eq_false (hgt.symm.trans g3)
        rw [if_neg (by simp [hks])] at hw
        refine ⟨i, [aS a], ei, hrow, rfl, ?_⟩
        cbv
        refine ⟨h1a, b1, ?_⟩
        rw [← ho1, hj]
        exact ⟨(i + 1, j, f, o1), ⟨ej, hil, (by rw [hw]), (by rw [hw]; exact e1), hnk2⟩, (show l.length - (i + 1) < l.length - i by omega), le_of [(0, 1)] (by simp [leSl, leOb, injK, memK, parK, noTup, lk, rn0, rnA, plain]; rfl)⟩
    · have hff : f = true := by have := nf.symm.trans g2; simpa using this
      rw [if_neg (by rw [hff]; simp)] at hw
      refine ⟨i, [aS a], ei, hrow, rfl, ?_⟩
      cbv
      refine ⟨h1a, b1, ?_⟩
      rw [← ho1, hj]
      exact ⟨(i + 1, j, f, o1), ⟨ej, hil, (by rw [hw]), (by rw [hw]; exact e1), hnk2⟩, (show l.length - (i + 1) < l.length - i by omega), le_of [(0, 1)] (by simp [leSl, leOb, injK, memK, parK, noTup, lk, rn0, rnA, plain]; rfl)⟩
  · have hge : l.length ≤ i := by have := nfB tl h; omega
    rw [List.take_of_length_le hge] at hf ho hnk
    have hw : withS l k = wEnd k l := if_neg hnk
    rw [hw, wEnd, ← hf] at hout
    have b2 : (F .len o + F .len [[aS key]]) * 16 ≤ 140737488355328 := by rw [lenF hF, lenF hF]; simp; omega
    have h1k : ∀ r ∈ [[aS key]], r.length = 1 := fun r h => by rw [List.mem_singleton.1 h]; rfl
    refine br (fun g => ?_) (fun g => ?_) <;> cbv
    · have hff : f = false := by have := nf.symm.trans g; simpa using this
      rw [hff] at hout
      have e2 : F .app o [[aS key]] = out := by rw [hout, hF, ho, hk]; exact sR_app _ _
      refine ⟨h1k, b2, ?_⟩
      rw [e2]; exact ⟨rfl, trivial⟩
    · have hff : f = true := by have := nf.symm.trans g; simpa using this
      rw [hff] at hout
      have e2 : o = out := by rw [hout, ho]; rfl
      rw [e2]; exact ⟨rfl, trivial⟩
end Go.Proofs.Ytljpmnifkccbdaa
