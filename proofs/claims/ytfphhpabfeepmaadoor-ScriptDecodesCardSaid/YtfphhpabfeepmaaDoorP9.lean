import Derived.Test.YtfphhpabfeepmaaDoorP8
set_option linter.unusedSimpArgs false
set_option linter.unusedVariables false
namespace Go.Proofs.YtfphhpabfeepmaaDoor
open Go Go.RowKit Am

theorem take_next {α : Type} {a b : List α} {i : Nat} {x y : α} (h : a.take i = b.take i) (h1 : a[i]? = some x) (h2 : b[i]? = some y) (e : x = y) : a.take (i + 1) = b.take (i + 1) := by
  rw [List.take_add_one, List.take_add_one, h, h1, h2, e]
theorem take_all {α : Type} {a b : List α} {i : Nat} (h : a.take i = b.take i) (hl : a.length = b.length) (hi : a.length ≤ i) : a = b := by
  rwa [List.take_of_length_le hi, List.take_of_length_le (by omega)] at h
theorem some_ne {α : Type} {a b : List α} {i : Nat} {x y : α} (h1 : a[i]? = some x) (h2 : b[i]? = some y) (e : x ≠ y) : a ≠ b := fun h => by
  rw [h, h2] at h1; injection h1 with h1; exact e h1.symm
theorem BA_inj {a b : List UInt8} (h : BA a = BA b) : a = b := by rw [← L_BA a, ← L_BA b, h]
set_option maxHeartbeats 1000000 in
theorem same_ok (a b : List (List (List UInt8))) (hla : a.length ≤ 1000000) (hlb : b.length ≤ 1000000) (hea : ∀ x ∈ a, x.length ≤ 1000000) (heb : ∀ x ∈ b, x.length ≤ 1000000) (ra rb : List (List AV)) (hra : ra = cR a) (hrb : rb = cR b) (q : Bool) (hq : q = decide (a = b)) :
    CSem Tryd.prog (.fn 22) [.sl ra, .sl rb] (.pure [aB q]) := by
  refine of_text gam_ok mixed { n := 53 } Tryd.func22 (by kernel_rfl) rfl rfl (by simp) (by decide) fun F C D hF hC hD => ?_
  obtain ⟨na, hna⟩ : ∃ na : Int, F .len ra = na := ⟨_, rfl⟩
  obtain ⟨nb, hnb⟩ : ∃ nb : Int, F .len rb = nb := ⟨_, rfl⟩
  have ena : na = (a.length : Int) := by rw [← hna, lenF hF, hra, cR_len]
  have enb : nb = (b.length : Int) := by rw [← hnb, lenF hF, hrb, cR_len]
  have t1 := neF hF na nb
  have fals : a ≠ b → q = false := fun h => by rw [hq]; simp [h]
  have tru : a = b → q = true := fun h => by rw [hq]; simp [h]
  clear hq
  cbv
  rw [hna, hnb]
  refine br (fun z => ?_) (fun z => ?_) <;> cbv
  · rw [t1] at z
    have hne : a ≠ b := fun h => by subst h; simp at z; omega
    rw [fals hne]
    simp
  · rw [t1] at z
    have hlen : a.length = b.length := by have z2 : na = nb := Decidable.not_not.1 (of_decide_eq_false z); exact Int.ofNat.inj (ena.symm.trans (z2.trans enb))
    clear t1
    rw [hna]
    refine ⟨Nat × Int, fun x => { slots := [(14, aI x.2), (13, aI na), (1, .sl rb), (0, .sl ra)], obs := [], ctr := 0, par := 0 }, fun x => x.2 = (x.1 : Int) ∧ x.1 ≤ a.length ∧ a.take x.1 = b.take x.1, fun x => a.length - x.1, ⟨(0, 0), ⟨rfl, Nat.zero_le _, rfl⟩, (le_of [] (by simp [leSl, leOb, injK, memK, parK, noTup, lk, rn0, rnA, plain] <;> first | rfl | decide))⟩, fun x hx => ?_⟩
    obtain ⟨i, i'⟩ := x
    obtain ⟨ei, hi, heq⟩ := hx
    simp only at ei hi heq
    have ena : na = (a.length : Int) := ena
    have tl := ltF hF i a.length i' na ei ena
    obtain ⟨i2, hi2⟩ : ∃ i2, F .ar .add .i64 i' 1 = i2 := ⟨_, rfl⟩
    have ei2 : i2 = ((i + 1 : Nat) : Int) := hi2.symm.trans (incF hF ei (by omega))
    cbv
    refine br (fun h => ?_) (fun h => ?_) <;> cbv
    · have hil := tl.1 h
      obtain ⟨xa, hxa⟩ : ∃ xa, a[i]? = some xa := ⟨_, List.getElem?_eq_getElem hil⟩
      obtain ⟨xb, hxb⟩ : ∃ xb, b[i]? = some xb := ⟨_, List.getElem?_eq_getElem (by omega)⟩
      have hla2 := hea _ (List.mem_of_getElem? hxa)
      have hlb2 := heb _ (List.mem_of_getElem? hxb)
      obtain ⟨sa, hsa⟩ : ∃ sa, sa = sR xa := ⟨_, rfl⟩
      obtain ⟨sb, hsb⟩ : ∃ sb, sb = sR xb := ⟨_, rfl⟩
      have hrowa : ra[i]? = some [.sl sa] := by rw [hra, hsa]; exact cR_get hxa
      have hrowb : rb[i]? = some [.sl sb] := by rw [hrb, hsb]; exact cR_get hxb
      obtain ⟨ma, hma⟩ : ∃ ma : Int, F .len sa = ma := ⟨_, rfl⟩
      obtain ⟨mb, hmb⟩ : ∃ mb : Int, F .len sb = mb := ⟨_, rfl⟩
      have ema : ma = (xa.length : Int) := by rw [← hma, lenF hF, hsa, sR_len]
      have emb : mb = (xb.length : Int) := by rw [← hmb, lenF hF, hsb, sR_len]
      have t1 := neF hF ma mb
      refine ⟨hC _ _ _ (ben_ok (by kernel_rfl)), ?_⟩
      cbv
      refine ⟨i, _, ei, hrowa, rfl, ?_⟩
      cbv
      refine ⟨i, _, ei, hrowb, rfl, ?_⟩
      cbv
      rw [hma, hmb]
      refine br (fun z => ?_) (fun z => ?_) <;> cbv
      · rw [t1] at z
        have hne : xa ≠ xb := fun h => by subst h; simp at z; omega
        rw [fals (some_ne hxa hxb hne)]
        simp
      · rw [t1] at z
        have hlen2 : xa.length = xb.length := by have z2 : ma = mb := Decidable.not_not.1 (of_decide_eq_false z); exact Int.ofNat.inj (ema.symm.trans (z2.trans emb))
        clear t1
        refine ⟨i, _, ei, hrowa, rfl, ?_⟩
        cbv
        rw [hma]
        refine ⟨Nat × Int, fun x => { slots := [(33, aI x.2), (32, aI ma), (14, aI i'), (13, aI na), (5, aI i'), (1, .sl rb), (0, .sl ra)], obs := [], ctr := 0 }, fun x => x.2 = (x.1 : Int) ∧ x.1 ≤ xa.length ∧ xa.take x.1 = xb.take x.1, fun x => xa.length - x.1, ⟨(0, 0), ⟨rfl, Nat.zero_le _, rfl⟩, (le_of [] (by simp [leSl, leOb, injK, memK, parK, noTup, lk, rn0, rnA, plain] <;> first | rfl | decide))⟩, fun x hx => ?_⟩
        obtain ⟨j, j'⟩ := x
        obtain ⟨ej, hj, heqj⟩ := hx
        simp only at ej hj heqj
        have ema : ma = (xa.length : Int) := ema
        have tl := ltF hF j xa.length j' ma ej ema
        obtain ⟨j2, hj2⟩ : ∃ j2, F .ar .add .i64 j' 1 = j2 := ⟨_, rfl⟩
        have ej2 : j2 = ((j + 1 : Nat) : Int) := hj2.symm.trans (incF hF ej (by omega))
        have ei : i' = (i : Int) := ei
        cbv
        refine br (fun h => ?_) (fun h => ?_) <;> cbv
        · have hjl := tl.1 h
          obtain ⟨ya, hya⟩ : ∃ ya, xa[j]? = some ya := ⟨_, List.getElem?_eq_getElem hjl⟩
          obtain ⟨yb, hyb⟩ : ∃ yb, xb[j]? = some yb := ⟨_, List.getElem?_eq_getElem (by omega)⟩
          obtain ⟨va, hva⟩ : ∃ va, va = BA ya := ⟨_, rfl⟩
          obtain ⟨vb, hvb⟩ : ∃ vb, vb = BA yb := ⟨_, rfl⟩
          have hrowa2 : sa[j]? = some [aS va] := by rw [hsa, hva]; exact sR_get hya
          have hrowb2 : sb[j]? = some [aS vb] := by rw [hsb, hvb]; exact sR_get hyb
          have t1 := sneF hF va vb
          refine ⟨hC _ _ _ (ben_ok (by kernel_rfl)), ?_⟩
          cbv
          refine ⟨i, _, ei, hrowa, rfl, ?_⟩
          cbv
          refine ⟨j, _, ej, hrowa2, rfl, ?_⟩
          cbv
          refine ⟨i, _, ei, hrowb, rfl, ?_⟩
          cbv
          refine ⟨j, _, ej, hrowb2, rfl, ?_⟩
          cbv
          refine br (fun z => ?_) (fun z => ?_) <;> cbv
          · rw [t1] at z
            have hne : ya ≠ yb := fun h => by subst h; rw [hva, hvb] at z; simp at z
            rw [fals (some_ne hxa hxb (some_ne hya hyb hne))]
            simp
          · rw [t1] at z
            have heq3 : ya = yb := BA_inj (by rw [← hva, ← hvb]; simpa using z)
            rw [hj2]
            exact ⟨(j + 1, j2), ⟨ej2, hjl, take_next heqj hya hyb heq3⟩, (show xa.length - (j + 1) < xa.length - j by omega), (le_of [] (by simp [leSl, leOb, injK, memK, parK, noTup, lk, rn0, rnA, plain] <;> first | rfl | decide))⟩
        · have hge : xa.length ≤ j := by have := nfB tl h; omega
          have heq4 := take_all heqj hlen2 hge
          rw [hi2]
          exact ⟨(i + 1, i2), ⟨ei2, hil, take_next heq hxa hxb heq4⟩, (show a.length - (i + 1) < a.length - i by omega), (le_of [] (by simp [leSl, leOb, injK, memK, parK, noTup, lk, rn0, rnA, plain] <;> first | rfl | decide))⟩
    · have hge : a.length ≤ i := by have := nfB tl h; omega
      rw [tru (take_all heq hlen hge)]
      simp
end Go.Proofs.YtfphhpabfeepmaaDoor
