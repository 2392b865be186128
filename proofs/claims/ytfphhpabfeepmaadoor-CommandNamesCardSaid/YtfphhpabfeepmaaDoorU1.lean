import Derived.Test.YtfphhpabfeepmaaDoorP9
set_option linter.unusedSimpArgs false
set_option linter.unusedVariables false
namespace Go.Proofs.YtfphhpabfeepmaaDoor
open Go Go.RowKit Am

/-! ### Commands: the small functions -/
theorem small_ok (ags : List (List UInt8)) (rows : List (List AV)) (hrows : rows = sR ags) (q : Bool) (hq : q = true ↔ (ags.length ≤ 20 ∧ ∀ a ∈ ags, a.length ≤ 1000)) : CSem Tryd.prog (.fn 27) [.sl rows] (.pure [aB q]) := by
  refine of_text gam_ok mixed { n := 19 } Tryd.func27 (by kernel_rfl) rfl rfl (by simp) (by decide) fun F C D hF hC hD => ?_
  obtain ⟨n', hn'⟩ : ∃ n' : Int, F .len rows = n' := ⟨_, rfl⟩
  have en : n' = (ags.length : Int) := by rw [← hn', lenF hF, hrows, sR_len]
  have g1 : F .cmp .gtr n' 20 = decide (20 < ags.length) := by rw [gtF hF, en]; congr 1; exact propext ⟨fun h => by omega, fun h => by omega⟩
  have fal : ¬ (ags.length ≤ 20 ∧ ∀ a ∈ ags, a.length ≤ 1000) → q = false := fun h => by cases hqq : q with | false => rfl | true => exact absurd (hq.1 hqq) h
  by_cases h100 : 20 < ags.length
  · have g1 : F .cmp .gtr n' 20 = true := by rw [g1]; exact decide_eq_true h100
    have hqf := fal (fun h => by have := h.1; omega)
    subst hqf
    clear hq fal
    cbv
    rw [hn']
    refine bT (g1) ?_
    cbv
  · have g1 : F .cmp .gtr n' 20 = false := by rw [g1]; exact decide_eq_false h100
    cbv
    rw [hn']
    refine bF (g1) ?_
    cbv
    rw [hn']
    refine ⟨Nat × Int, fun x => { slots := [(9, aI x.2), (8, aI n'), (0, .sl rows)], obs := [], ctr := 0 }, fun x => x.2 = (x.1 : Int) ∧ x.1 ≤ ags.length ∧ ∀ j a, j < x.1 → ags[j]? = some a → a.length ≤ 1000, fun x => ags.length - x.1, ⟨(0, 0), ⟨rfl, Nat.zero_le _, fun j a h => by omega⟩, (le_of [] (by simp [leSl, leOb, injK, memK, parK, noTup, lk, rn0, rnA, plain] <;> first | rfl | decide))⟩, fun x hx => ?_⟩
    obtain ⟨i, i'⟩ := x
    obtain ⟨ei, hi, hsm⟩ := hx
    simp only at ei hi hsm
    have en : n' = (ags.length : Int) := en
    have tl := ltF hF i ags.length i' n' ei en
    obtain ⟨i2, hi2⟩ : ∃ i2, F .ar .add .i64 i' 1 = i2 := ⟨_, rfl⟩
    have ei2 : i2 = ((i + 1 : Nat) : Int) := hi2.symm.trans (incF hF ei (by omega))
    by_cases hil : i < ags.length
    · have tl : F .cmp .lss i' n' = true := tl.2 hil
      obtain ⟨a, ha⟩ : ∃ a, ags[i]? = some a := ⟨_, List.getElem?_eq_getElem hil⟩
      obtain ⟨sa, hsa⟩ : ∃ sa, sa = BA a := ⟨_, rfl⟩
      have hrow : rows[i]? = some [aS sa] := by rw [hrows, hsa]; exact sR_get ha
      have hsz : sa.size = a.length := by rw [hsa, L_size, L_BA]
      have v1 : F .cmp .gtr (F .slen sa) 1000 = decide (1000 < a.length) := by rw [slenF hF, gtF hF, hsz]; congr 1; exact propext ⟨fun h => by omega, fun h => by omega⟩
      by_cases hbig : 1000 < a.length
      · have v1 : F .cmp .gtr (F .slen sa) 1000 = true := by rw [v1]; exact decide_eq_true hbig
        have hqf := fal (fun h => by have := h.2 a (List.mem_of_getElem? ha); omega)
        subst hqf
        clear hq fal
        cbv
        refine bT (tl) ?_
        cbv
        refine ⟨i, _, ei, hrow, rfl, ?_⟩
        cbv
        refine bT (v1) ?_
        cbv
      · have v1 : F .cmp .gtr (F .slen sa) 1000 = false := by rw [v1]; exact decide_eq_false hbig
        cbv
        refine bT (tl) ?_
        cbv
        refine ⟨i, _, ei, hrow, rfl, ?_⟩
        cbv
        refine bF (v1) ?_
        cbv
        rw [hi2]
        exact ⟨(i + 1, i2), ⟨ei2, hil, fun j b hj hb => by
          by_cases hjn : j < i
          · exact hsm j b hjn hb
          · have hji : j = i := by omega
            rw [hji, ha] at hb; injection hb with hb; rw [← hb]; omega⟩, (show ags.length - (i + 1) < ags.length - i by omega), (le_of [] (by simp [leSl, leOb, injK, memK, parK, noTup, lk, rn0, rnA, plain] <;> first | rfl | decide))⟩
    · have tl : F .cmp .lss i' n' = false := by cases h : F .cmp .lss i' n' with | true => exact absurd (tl.1 h) hil | false => rfl
      have hqt : q = true := hq.2 ⟨by omega, fun a ha => by
        obtain ⟨j, hj, hja⟩ := List.getElem_of_mem ha
        exact hsm j a (by omega) (by rw [List.getElem?_eq_getElem hj, hja])⟩
      subst hqt
      clear hq fal
      cbv
      refine bF (tl) ?_
      cbv
theorem texts_ok (a b : List (List UInt8)) (hla : a.length ≤ 1000000) (hlb : b.length ≤ 1000000) (ra rb : List (List AV)) (hra : ra = sR a) (hrb : rb = sR b) (q : Bool) (hq : q = decide (a = b)) :
    CSem Tryd.prog (.fn 54) [.sl ra, .sl rb] (.pure [aB q]) := by
  refine of_text gam_ok mixed { n := 26 } Tryd.func54 (by kernel_rfl) rfl rfl (by simp) (by decide) fun F C D hF hC hD => ?_
  obtain ⟨na, hna⟩ : ∃ na : Int, F .len ra = na := ⟨_, rfl⟩
  obtain ⟨nb, hnb⟩ : ∃ nb : Int, F .len rb = nb := ⟨_, rfl⟩
  have ena : na = (a.length : Int) := by rw [← hna, lenF hF, hra, sR_len]
  have enb : nb = (b.length : Int) := by rw [← hnb, lenF hF, hrb, sR_len]
  have t1 : F .cmp .neq na nb = decide (a.length ≠ b.length) := by rw [neF hF, ena, enb]; congr 1; exact propext ⟨fun h h2 => h (by rw [h2]), fun h h2 => h (Int.ofNat.inj h2)⟩
  have fals : a ≠ b → q = false := fun h => by rw [hq]; simp [h]
  have tru : a = b → q = true := fun h => by rw [hq]; simp [h]
  clear hq
  by_cases hlen : a.length = b.length
  · have t1 : F .cmp .neq na nb = false := by rw [t1]; exact decide_eq_false (fun h => h hlen)
    cbv
    rw [hna, hnb]
    refine bF (t1) ?_
    cbv
    rw [hna]
    refine ⟨Nat × Int, fun x => { slots := [(13, aI x.2), (12, aI na), (1, .sl rb), (0, .sl ra)], obs := [], ctr := 0 }, fun x => x.2 = (x.1 : Int) ∧ x.1 ≤ a.length ∧ a.take x.1 = b.take x.1, fun x => a.length - x.1, ⟨(0, 0), ⟨rfl, Nat.zero_le _, rfl⟩, (le_of [] (by simp [leSl, leOb, injK, memK, parK, noTup, lk, rn0, rnA, plain] <;> first | rfl | decide))⟩, fun x hx => ?_⟩
    obtain ⟨i, i'⟩ := x
    obtain ⟨ei, hi, heq⟩ := hx
    simp only at ei hi heq
    have ena : na = (a.length : Int) := ena
    have tl := ltF hF i a.length i' na ei ena
    obtain ⟨i2, hi2⟩ : ∃ i2, F .ar .add .i64 i' 1 = i2 := ⟨_, rfl⟩
    have ei2 : i2 = ((i + 1 : Nat) : Int) := hi2.symm.trans (incF hF ei (by omega))
    by_cases hil : i < a.length
    · have tl : F .cmp .lss i' na = true := tl.2 hil
      obtain ⟨xa, hxa⟩ : ∃ xa, a[i]? = some xa := ⟨_, List.getElem?_eq_getElem hil⟩
      obtain ⟨xb, hxb⟩ : ∃ xb, b[i]? = some xb := ⟨_, List.getElem?_eq_getElem (by omega)⟩
      obtain ⟨sa, hsa⟩ : ∃ sa, sa = BA xa := ⟨_, rfl⟩
      obtain ⟨sb, hsb⟩ : ∃ sb, sb = BA xb := ⟨_, rfl⟩
      have hrowa : ra[i]? = some [aS sa] := by rw [hra, hsa]; exact sR_get hxa
      have hrowb : rb[i]? = some [aS sb] := by rw [hrb, hsb]; exact sR_get hxb
      have t2 : F .scmp .neq sa sb = decide (xa ≠ xb) := by rw [sneF hF, hsa, hsb]; congr 1; exact propext ⟨fun h h2 => h (by rw [h2]), fun h h2 => h (BA_inj h2)⟩
      by_cases hne : xa = xb
      · have t2 : F .scmp .neq sa sb = false := by rw [t2]; exact decide_eq_false (fun h => h hne)
        cbv
        refine bT (tl) ?_
        cbv
        refine ⟨hC _ _ _ (ben_ok (by kernel_rfl)), ?_⟩
        cbv
        refine ⟨i, _, ei, hrowa, rfl, ?_⟩
        cbv
        refine ⟨i, _, ei, hrowb, rfl, ?_⟩
        cbv
        refine bF (t2) ?_
        cbv
        rw [hi2]
        exact ⟨(i + 1, i2), ⟨ei2, hil, take_next heq hxa hxb hne⟩, (show a.length - (i + 1) < a.length - i by omega), (le_of [] (by simp [leSl, leOb, injK, memK, parK, noTup, lk, rn0, rnA, plain] <;> first | rfl | decide))⟩
      · have t2 : F .scmp .neq sa sb = true := by rw [t2]; exact decide_eq_true hne
        have hqf := fals (some_ne hxa hxb hne)
        subst hqf
        clear fals tru
        cbv
        refine bT (tl) ?_
        cbv
        refine ⟨hC _ _ _ (ben_ok (by kernel_rfl)), ?_⟩
        cbv
        refine ⟨i, _, ei, hrowa, rfl, ?_⟩
        cbv
        refine ⟨i, _, ei, hrowb, rfl, ?_⟩
        cbv
        refine bT (t2) ?_
        cbv
    · have tl : F .cmp .lss i' na = false := by cases h : F .cmp .lss i' na with | true => exact absurd (tl.1 h) hil | false => rfl
      have hqt := tru (take_all heq hlen (by omega))
      subst hqt
      clear fals tru
      cbv
      refine bF (tl) ?_
      cbv
  · have t1 : F .cmp .neq na nb = true := by rw [t1]; exact decide_eq_true hlen
    have hqf := fals (fun h => hlen (by rw [h]))
    subst hqf
    clear fals tru
    cbv
    rw [hna, hnb]
    refine bT (t1) ?_
    cbv
end Go.Proofs.YtfphhpabfeepmaaDoor
