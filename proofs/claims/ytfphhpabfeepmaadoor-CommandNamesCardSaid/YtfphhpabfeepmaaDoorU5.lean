import Derived.Test.YtfphhpabfeepmaaDoorU4
set_option linter.unusedSimpArgs false
set_option linter.unusedVariables false
namespace Go.Proofs.YtfphhpabfeepmaaDoor
open Go Go.RowKit Am

/-! ### The forms -/
def tab : List (List UInt8 × List UInt8 × Int) := [([83, 69, 84], [107, 118], 1), ([71, 69, 84], [107], 1), ([73, 78, 67, 82, 66, 89], [107, 110], 2), ([67, 79, 85, 78, 84], [107], 2), ([83, 65, 68, 68], [107, 102], 3), ([83, 82, 69, 77], [107, 102], 3), ([83, 73, 83, 77, 69, 77, 66, 69, 82], [107, 102], 3), ([83, 77, 69, 77, 66, 69, 82, 83], [107], 3), ([72, 83, 69, 84], [107, 102, 118], 4), ([72, 68, 69, 76], [107, 102], 4), ([72, 71, 69, 84], [107, 102], 4), ([72, 71, 69, 84, 65, 76, 76], [107], 4), ([90, 65, 68, 68], [107, 110, 102], 5), ([90, 82, 69, 77], [107, 102], 5), ([90, 83, 67, 79, 82, 69], [107, 102], 5), ([90, 82, 65, 78, 75], [107, 102], 5), ([90, 82, 65, 78, 71, 69], [107, 110, 109], 5), ([76, 80, 85, 83, 72], [107, 118], 6), ([82, 80, 85, 83, 72], [107, 118], 6), ([76, 73, 78, 83, 69, 82, 84], [107, 110, 118], 6), ([76, 82, 69, 77], [107, 110], 6), ([76, 82, 65, 78, 71, 69], [107, 110, 109], 6), ([68, 69, 76], [107], -1), ([84, 89, 80, 69], [107], -1), ([75, 69, 89, 83], [], -1)]
def formR (l : List UInt8) : Option (List UInt8 × Int) := (tab.find? fun x => decide (x.1 = l)).map (·.2)
theorem find_at {l : List UInt8} {i : Nat} {x : List UInt8 × List UInt8 × Int} (h : ∀ j y, j < i → tab[j]? = some y → y.1 ≠ l) (hx : tab[i]? = some x) (he : x.1 = l) : formR l = some x.2 := by
  unfold formR
  have : tab.find? (fun x => decide (x.1 = l)) = some x := by
    rw [List.find?_eq_some_iff_getElem]
    obtain ⟨h1, h2⟩ := List.getElem?_eq_some_iff.1 hx
    refine ⟨by simpa using he, i, h1, h2, fun j hj => ?_⟩
    simpa using h j _ hj (List.getElem?_eq_getElem (by omega))
  rw [this]; rfl
theorem find_no {l : List UInt8} (h : ∀ j y, j < 25 → tab[j]? = some y → y.1 ≠ l) : formR l = none := by
  unfold formR
  have : tab.find? (fun x => decide (x.1 = l)) = none := by
    rw [List.find?_eq_none]
    intro x hx
    obtain ⟨j, hj, hjx⟩ := List.getElem_of_mem hx
    simpa using h j x hj (by rw [List.getElem?_eq_getElem hj, hjx])
  rw [this]; rfl
set_option maxHeartbeats 4000000 in
theorem rform_ok (s : ByteArray) (l : List UInt8) (hs : l = L s) (f : ByteArray) (k : Int) (ok : Bool) (h1 : ∀ x, formR l = some x → f = BA x.1 ∧ k = x.2 ∧ ok = true) (h2 : formR l = none → f = BA [] ∧ k = 0 ∧ ok = false) : CSem Tryd.prog (.fn 52) [aS s] (.pure [aS f, aI k, aB ok]) := by
  refine of_text gam_ok mixed { n := 32 } Tryd.func52 (by kernel_rfl) rfl rfl (by simp) (by decide) fun F C D hF hC hD => ?_
  obtain ⟨rN, hrN⟩ : ∃ r : List (List AV), [[aS ⟨⟨[83, 69, 84]⟩⟩], [aS ⟨⟨[71, 69, 84]⟩⟩], [aS ⟨⟨[73, 78, 67, 82, 66, 89]⟩⟩], [aS ⟨⟨[67, 79, 85, 78, 84]⟩⟩], [aS ⟨⟨[83, 65, 68, 68]⟩⟩], [aS ⟨⟨[83, 82, 69, 77]⟩⟩], [aS ⟨⟨[83, 73, 83, 77, 69, 77, 66, 69, 82]⟩⟩], [aS ⟨⟨[83, 77, 69, 77, 66, 69, 82, 83]⟩⟩], [aS ⟨⟨[72, 83, 69, 84]⟩⟩], [aS ⟨⟨[72, 68, 69, 76]⟩⟩], [aS ⟨⟨[72, 71, 69, 84]⟩⟩], [aS ⟨⟨[72, 71, 69, 84, 65, 76, 76]⟩⟩], [aS ⟨⟨[90, 65, 68, 68]⟩⟩], [aS ⟨⟨[90, 82, 69, 77]⟩⟩], [aS ⟨⟨[90, 83, 67, 79, 82, 69]⟩⟩], [aS ⟨⟨[90, 82, 65, 78, 75]⟩⟩], [aS ⟨⟨[90, 82, 65, 78, 71, 69]⟩⟩], [aS ⟨⟨[76, 80, 85, 83, 72]⟩⟩], [aS ⟨⟨[82, 80, 85, 83, 72]⟩⟩], [aS ⟨⟨[76, 73, 78, 83, 69, 82, 84]⟩⟩], [aS ⟨⟨[76, 82, 69, 77]⟩⟩], [aS ⟨⟨[76, 82, 65, 78, 71, 69]⟩⟩], [aS ⟨⟨[68, 69, 76]⟩⟩], [aS ⟨⟨[84, 89, 80, 69]⟩⟩], [aS ⟨⟨[75, 69, 89, 83]⟩⟩]] = r := ⟨_, rfl⟩
  obtain ⟨rF, hrF⟩ : ∃ r : List (List AV), [[aS ⟨⟨[107, 118]⟩⟩], [aS ⟨⟨[107]⟩⟩], [aS ⟨⟨[107, 110]⟩⟩], [aS ⟨⟨[107]⟩⟩], [aS ⟨⟨[107, 102]⟩⟩], [aS ⟨⟨[107, 102]⟩⟩], [aS ⟨⟨[107, 102]⟩⟩], [aS ⟨⟨[107]⟩⟩], [aS ⟨⟨[107, 102, 118]⟩⟩], [aS ⟨⟨[107, 102]⟩⟩], [aS ⟨⟨[107, 102]⟩⟩], [aS ⟨⟨[107]⟩⟩], [aS ⟨⟨[107, 110, 102]⟩⟩], [aS ⟨⟨[107, 102]⟩⟩], [aS ⟨⟨[107, 102]⟩⟩], [aS ⟨⟨[107, 102]⟩⟩], [aS ⟨⟨[107, 110, 109]⟩⟩], [aS ⟨⟨[107, 118]⟩⟩], [aS ⟨⟨[107, 118]⟩⟩], [aS ⟨⟨[107, 110, 118]⟩⟩], [aS ⟨⟨[107, 110]⟩⟩], [aS ⟨⟨[107, 110, 109]⟩⟩], [aS ⟨⟨[107]⟩⟩], [aS ⟨⟨[107]⟩⟩], [aS ⟨⟨[]⟩⟩]] = r := ⟨_, rfl⟩
  obtain ⟨rK, hrK⟩ : ∃ r : List (List AV), [[aI 1], [aI 1], [aI 2], [aI 2], [aI 3], [aI 3], [aI 3], [aI 3], [aI 4], [aI 4], [aI 4], [aI 4], [aI 5], [aI 5], [aI 5], [aI 5], [aI 5], [aI 6], [aI 6], [aI 6], [aI 6], [aI 6], [aI (-1)], [aI (-1)], [aI (-1)]] = r := ⟨_, rfl⟩
  have eN : rN = tab.map fun x => [aS (BA x.1)] := by rw [← hrN]; rfl
  have eF : rF = tab.map fun x => [aS (BA x.2.1)] := by rw [← hrF]; rfl
  have eK : rK = tab.map fun x => [aI x.2.2] := by rw [← hrK]; rfl
  have htl : tab.length = 25 := rfl
  obtain ⟨n', hn'⟩ : ∃ n' : Int, F .len rN = n' := ⟨_, rfl⟩
  have en : n' = ((25 : Nat) : Int) := by rw [← hn', lenF hF, eN, List.length_map, htl]
  cbv
  rw [hrN, hrF, hrK, hn']
  refine ⟨Nat × Int, fun x => { slots := [(14, aI x.2), (13, aI n'), (5, .sl rN), (6, .sl rF), (7, .sl rK), (0, aS s)], obs := [], ctr := 0 }, fun x => x.2 = (x.1 : Int) ∧ x.1 ≤ 25 ∧ ∀ j y, j < x.1 → tab[j]? = some y → y.1 ≠ l, fun x => 25 - x.1, ⟨(0, 0), ⟨rfl, Nat.zero_le _, fun j y h => by omega⟩, (le_of [] (by simp [leSl, leOb, injK, memK, parK, noTup, lk, rn0, rnA, plain] <;> first | rfl | decide))⟩, fun x hx => ?_⟩
  obtain ⟨i, i'⟩ := x
  obtain ⟨ei, hi, hne⟩ := hx
  simp only at ei hi hne
  have en : n' = ((25 : Nat) : Int) := en
  have hs : l = L s := hs
  have tl := ltF hF i 25 i' n' ei en
  obtain ⟨i2, hi2⟩ : ∃ i2, F .ar .add .i64 i' 1 = i2 := ⟨_, rfl⟩
  have ei2 : i2 = ((i + 1 : Nat) : Int) := hi2.symm.trans (incF hF ei (by omega))
  by_cases hil : i < 25
  · have tl : F .cmp .lss i' n' = true := tl.2 hil
    obtain ⟨x, hx⟩ : ∃ x, tab[i]? = some x := ⟨_, List.getElem?_eq_getElem (by rw [htl]; exact hil)⟩
    obtain ⟨sn, hsn⟩ : ∃ sn, sn = BA x.1 := ⟨_, rfl⟩
    obtain ⟨sf, hsf⟩ : ∃ sn, sn = BA x.2.1 := ⟨_, rfl⟩
    obtain ⟨sk, hsk⟩ : ∃ sn : Int, sn = x.2.2 := ⟨_, rfl⟩
    have rowN : rN[i]? = some [aS sn] := by rw [eN, hsn, List.getElem?_map, hx]; rfl
    have rowF : rF[i]? = some [aS sf] := by rw [eF, hsf, List.getElem?_map, hx]; rfl
    have rowK : rK[i]? = some [aI sk] := by rw [eK, hsk, List.getElem?_map, hx]; rfl
    have w : F .scmp .eql sn s = decide (x.1 = l) := by
      rw [seqF hF, hsn]
      congr 1
      exact propext ⟨fun h => by rw [hs, ← h]; rfl, fun h => by rw [h, hs, BA_L]⟩
    by_cases he : x.1 = l
    · have w : F .scmp .eql sn s = true := by rw [w]; exact decide_eq_true he
      obtain ⟨g1, g2, g3⟩ := h1 _ (find_at hne hx he)
      rw [← hsf] at g1
      rw [← hsk] at g2
      subst g1 g2 g3
      clear h1 h2
      cbv
      refine bT (tl) ?_
      cbv
      refine ⟨i, _, ei, rowN, rfl, ?_⟩
      cbv
      refine bT (w) ?_
      cbv
      refine ⟨hC _ _ _ (ben_ok (by kernel_rfl)), ?_⟩
      cbv
      refine ⟨i, _, ei, rowF, rfl, ?_⟩
      cbv
      refine ⟨i, _, ei, rowK, rfl, ?_⟩
      cbv
      simp
    · have w : F .scmp .eql sn s = false := by rw [w]; exact decide_eq_false he
      cbv
      refine bT (tl) ?_
      cbv
      refine ⟨i, _, ei, rowN, rfl, ?_⟩
      cbv
      refine bF (w) ?_
      cbv
      rw [hi2]
      exact ⟨(i + 1, i2), ⟨ei2, hil, fun j y hj hy => by
        by_cases hjn : j < i
        · exact hne j y hjn hy
        · have hji : j = i := by omega
          rw [hji, hx] at hy; injection hy with hy; rw [← hy]; exact he⟩, (show 25 - (i + 1) < 25 - i by omega), (le_of [] (by simp [leSl, leOb, injK, memK, parK, noTup, lk, rn0, rnA, plain] <;> first | rfl | decide))⟩
  · have tl : F .cmp .lss i' n' = false := by cases h : F .cmp .lss i' n' with | true => exact absurd (tl.1 h) hil | false => rfl
    obtain ⟨g1, g2, g3⟩ := h2 (find_no fun j y hj hy => hne j y (by omega) hy)
    subst g1 g2 g3
    clear h1 h2
    cbv
    refine bF (tl) ?_
    cbv
    simp
end Go.Proofs.YtfphhpabfeepmaaDoor
