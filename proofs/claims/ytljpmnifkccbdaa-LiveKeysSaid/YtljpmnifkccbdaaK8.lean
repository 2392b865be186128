import Derived.Test.YtljpmnifkccbdaaK7
set_option linter.unusedSimpArgs false
set_option linter.unusedVariables false
namespace Go.Proofs.Ytljpmnifkccbdaa
open Go Go.RowKit Am Go.Sort

theorem withS_len (l : List Str) (k : Str) : (withS l k).length ≤ l.length + 1 := by
  unfold withS
  split
  · omega
  · unfold wEnd
    have h := wS_len k l
    cases hf : (wS k l).1 with
    | true => rw [if_pos rfl]; exact h.1
    | false => rw [if_neg (by simp)]; have := h.2 hf; simp; omega
theorem withs_len : ∀ (l acc : List Str), (l.foldl withS acc).length ≤ acc.length + l.length := by
  intro l
  induction l with
  | nil => intro acc; simp
  | cons a l ih =>
    intro acc
    have h1 := ih (withS acc a)
    have h2 := withS_len acc a
    simp only [List.foldl_cons, List.length_cons]
    omega
theorem keysR_ok (l : List Ev) (hl : l.length ≤ 1000000) (rows : List (List AV)) (hrows : rows = evR l) (out : List (List AV)) (hout : out = sR ((l.map keyK).foldl withS [])) : CSem Try.prog (.fn 39) [.sl rows] (.pure [.sl out]) := by
  refine of_text gam_ok mixed { n := 20 } Try.func39 (by kernel_rfl) rfl rfl (by simp) (by decide) fun F C D hF hC hD => ?_
  obtain ⟨n', hn'⟩ : ∃ n', F .len rows = n' := ⟨_, rfl⟩
  have en : n' = (l.length : Int) := by rw [← hn', lenF hF, hrows, evR_len]
  cbv
  rw [hn']
  refine ⟨Nat × Int × List (List AV), fun x => { slots := [(7, aI x.2.1), (6, aI n'), (0, .sl rows), (3, .sl x.2.2)], obs := [], ctr := 0 }, fun x => x.2.1 = (x.1 : Int) ∧ x.1 ≤ l.length ∧ x.2.2 = sR (((l.take x.1).map keyK).foldl withS []), fun x => l.length - x.1, ⟨(0, 0, []), ⟨rfl, Nat.zero_le _, by simp [sR]⟩, Le.trans (le_nilS 3 (by rfl)) (le_of [] (by simp [leSl, leOb, injK, memK, parK, noTup, lk, rn0, rnA, plain, aI]))⟩, fun x hx => ?_⟩
  obtain ⟨i, i', o⟩ := x
  obtain ⟨ei, hi, ho⟩ := hx
  simp only at ei hi ho
  have en : n' = (l.length : Int) := en
  have tl := ltF hF i l.length i' n' ei en
  have ep := incF hF ei (by omega)
  obtain ⟨j, hj⟩ : ∃ j, F .ar .add .i64 i' 1 = j := ⟨_, rfl⟩
  have ej : j = ((i + 1 : Nat) : Int) := hj.symm.trans ep
  cbv
  refine br (fun h => ?_) (fun h => ?_) <;> cbv
  · have hil := tl.1 h
    obtain ⟨e, he⟩ : ∃ e, l[i]? = some e := ⟨_, List.getElem?_eq_getElem hil⟩
    have hrow : rows[i]? = some e.ac := by rw [hrows]; exact evR_get he
    have htake : l.take (i + 1) = l.take i ++ [e] := by rw [List.take_add_one, he]; rfl
    obtain ⟨o2, ho2⟩ : ∃ o2, o2 = sR (withS (((l.take i).map keyK).foldl withS []) (keyK e)) := ⟨_, rfl⟩
    have hwl := withs_len ((l.take i).map keyK) []
    have hw := hC _ _ _ (with_ok (((l.take i).map keyK).foldl withS []) (by rw [List.length_map, List.length_take, List.length_nil] at hwl; omega) e.op.key o ho o2 ho2)
    have hnext : o2 = sR (((l.take (i + 1)).map keyK).foldl withS []) := by rw [ho2, htake, List.map_append, List.foldl_append]; rfl
    refine ⟨i, e.ac, ei, hrow, rfl, ?_⟩
    cbv
    refine ⟨_, hw, ?_⟩
    cbv
    rw [hj]
    exact ⟨(i + 1, j, o2), ⟨ej, hil, hnext⟩, (show l.length - (i + 1) < l.length - i by omega), le_of [] (by simp [leSl, leOb, injK, memK, parK, noTup, lk, rn0, rnA, plain])⟩
  · have hge : l.length ≤ i := by have := nfB tl h; omega
    have : o = out := by rw [ho, hout, List.take_of_length_le hge]
    rw [this]; exact ⟨rfl, trivial⟩
theorem bigKeys_ok (l : List Ev) (hl : ¬ l.length ≤ 200) (rows : List (List AV)) (hrows : rows = evR l) (key : ByteArray) (r : Bool) (hr : true = r) : CSem Try.prog (.fn 12) [.sl rows, aS key] (.pure [aB r]) := by
  refine of_text gam_ok mixed { n := 72 } Try.func12 (by kernel_rfl) rfl rfl (by simp) (by decide) fun F C D hF hC hD => ?_
  have haw := hC _ _ _ (awake10_ok true rfl)
  obtain ⟨fb, hfb⟩ : ∃ fb, fb = few10 l := ⟨_, rfl⟩
  have hfew := hC _ _ _ (few10_ok l rows hrows fb hfb)
  have hff : fb = false := by cases h : fb; rfl; exact absurd (few10_len (hfb.symm.trans h)) hl
  have nt : F .bnot true = false := bnotF hF true
  have nf : F .bnot fb = !fb := bnotF hF fb
  cbv
  refine ⟨_, haw, ?_⟩
  cbv
  refine brf (fun h1 => ?_) (fun h1 => by rw [nt] at h1; cases h1)
  cbv
  refine ⟨_, hfew, ?_⟩
  cbv
  refine br (fun h2 => ?_) (fun h2 => by have := nf.symm.trans h2; rw [hff] at this; cases this)
  cbv
  refine ⟨_, haw, ?_⟩
  cbv
  rw [← hr]; exact ⟨rfl, trivial⟩
theorem liveKeys_ok (l : List Ev) (hl : l.length ≤ 200) (rows : List (List AV)) (hrows : rows = evR l) (key : ByteArray) (r : Bool) (hr : true = r) : CSem Try.prog (.fn 12) [.sl rows, aS key] (.pure [aB r]) := by
  refine of_text gam_ok mixed { n := 72 } Try.func12 (by kernel_rfl) rfl rfl (by simp) (by decide) fun F C D hF hC hD => ?_
  have haw := hC _ _ _ (awake10_ok true rfl)
  obtain ⟨fb, hfb⟩ : ∃ fb, fb = few10 l := ⟨_, rfl⟩
  have hfew := hC _ _ _ (few10_ok l rows hrows fb hfb)
  have nt : F .bnot true = false := bnotF hF true
  have nf : F .bnot fb = !fb := bnotF hF fb
  obtain ⟨n', hn'⟩ : ∃ n', F .len rows = n' := ⟨_, rfl⟩
  have en : n' = (l.length : Int) := by rw [← hn', lenF hF, hrows, evR_len]
  have hLl := liveAll_len l
  obtain ⟨A, hA⟩ : ∃ A, A = evR (liveAll l) := ⟨_, rfl⟩
  have ha := hC _ _ _ (refAll_ok l (by omega) rows hrows A (by rw [refAll_eq]; exact hA))
  obtain ⟨Q, hQ⟩ : ∃ Q, Q = sR (keysL l) := ⟨_, rfl⟩
  have hk1 := hC _ _ _ (keys_ok l (by omega) rows hrows Q hQ)
  have hk2 := hC _ _ _ (keysR_ok (liveAll l) (by omega) A hA Q (by rw [hQ, keysL_withs]))
  have hs3 := hC _ _ _ (texts_ok (keysL l) (keysL l) (by have := keysL_len l; omega) (by have := keysL_len l; omega) Q Q hQ hQ true (by simp))
  have hty : ∀ k : ByteArray, ∃ t V, F .cmp .neq t t = false ∧ C (.fn 27) [.sl rows, aS k] (.pure [aI t]) ∧ C (.fn 40) [.sl A, aS k] (.pure [aI t]) ∧ C (.fn 28) [.sl rows, aS k] (.own 34 26 V []) ∧ C (.fn 41) [.sl A, aS k] (.own 34 26 V []) ∧ C (.fn 20) [.sl V, .sl V] (.pure [aB true]) := fun k => by
    refine ⟨ofT l k, evR (ofV l k), by rw [hF]; simp [sy], hC _ _ _ (type_ok l (by omega) k rows hrows _ rfl), hC _ _ _ (key40_ok (liveAll l) (by omega) k A hA _ (ofT_keyT l k)), hC _ _ _ (ofLive_ok l (by omega) k rows hrows _ rfl), hC _ _ _ (ofR_ok (liveAll l) (by omega) k A hA _ (by rw [ofV_ofR])), hC _ _ _ (same_ok (ofV l k) (ofV l k) (by have := ofV_len l k; omega) (by have := ofV_len l k; omega) _ _ rfl rfl true (by simp))⟩
  have bt : F .bnot true = false := bnotF hF true
  cbv
  refine ⟨_, haw, ?_⟩
  cbv
  refine brf (fun h1 => ?_) (fun h1 => by rw [nt] at h1; cases h1)
  cbv
  refine ⟨_, hfew, ?_⟩
  cbv
  refine br (fun h2 => ?_) (fun h2 => ?_) <;> cbv
  · refine ⟨_, haw, ?_⟩
    cbv
    rw [← hr]; exact ⟨rfl, trivial⟩
  obtain ⟨t, V, q0, q1, q2, q3, q4, q5⟩ := hty key
  refine ⟨_, ha, ?_⟩
  cbv
  refine ⟨_, hk1, ?_⟩
  cbv
  refine ⟨_, hk2, ?_⟩
  cbv
  refine ⟨_, hs3, ?_⟩
  cbv
  refine bfF bt ?_
  cbv
  refine ⟨_, q1, ?_⟩
  cbv
  refine ⟨_, q2, ?_⟩
  cbv
  refine bfF q0 ?_
  cbv
  refine ⟨_, q3, ?_⟩
  cbv
  refine ⟨_, q4, ?_⟩
  cbv
  refine ⟨_, q5, ?_⟩
  cbv
  refine brF bt ?_
  cbv
  rw [hn']
  refine ⟨Nat × Int, fun x => { slots := [(45, aI x.2), (44, aI n'), (5, .sl A), (0, .sl rows)], obs := [], ctr := 0 }, fun x => x.2 = (x.1 : Int) ∧ x.1 ≤ l.length, fun x => l.length - x.1, ⟨(0, 0), ⟨rfl, Nat.zero_le _⟩, le_of [] (by simp [leSl, leOb, injK, memK, parK, noTup, lk, rn0, rnA, plain, aI])⟩, fun x hx => ?_⟩
  obtain ⟨i, i'⟩ := x
  obtain ⟨ei, hi⟩ := hx
  simp only at ei hi
  have en : n' = (l.length : Int) := en
  have tl := ltF hF i l.length i' n' ei en
  have ep := incF hF ei (by omega)
  obtain ⟨j, hj⟩ : ∃ j, F .ar .add .i64 i' 1 = j := ⟨_, rfl⟩
  have ej : j = ((i + 1 : Nat) : Int) := hj.symm.trans ep
  cbv
  refine br (fun h => ?_) (fun h => ?_) <;> cbv
  · have hil := tl.1 h
    obtain ⟨e, he⟩ : ∃ e, l[i]? = some e := ⟨_, List.getElem?_eq_getElem hil⟩
    have hrow : rows[i]? = some e.ac := by rw [hrows]; exact evR_get he
    obtain ⟨t, V, q0, q1, q2, q3, q4, q5⟩ := hty e.op.key
    refine ⟨i, e.ac, ei, hrow, rfl, ?_⟩
    cbv
    refine ⟨_, q1, ?_⟩
    cbv
    refine ⟨_, q2, ?_⟩
    cbv
    refine bfF q0 ?_
    cbv
    refine ⟨_, q3, ?_⟩
    cbv
    refine ⟨_, q4, ?_⟩
    cbv
    refine ⟨_, q5, ?_⟩
    cbv
    refine brF bt ?_
    cbv
    rw [hj]
    exact ⟨(i + 1, j), ⟨ej, hil⟩, (show l.length - (i + 1) < l.length - i by omega), le_of [] (by simp [leSl, leOb, injK, memK, parK, noTup, lk, rn0, rnA, plain])⟩
  · rw [← hr]; exact ⟨rfl, trivial⟩
theorem liveKeys_all (l : List Ev) (key : ByteArray) : CSem Try.prog (.fn 12) [.sl (evR l), aS key] (.pure [aB true]) := by
  by_cases h : l.length ≤ 200
  · exact liveKeys_ok l h _ rfl key true rfl
  · exact bigKeys_ok l h _ rfl key true rfl
end Go.Proofs.Ytljpmnifkccbdaa
