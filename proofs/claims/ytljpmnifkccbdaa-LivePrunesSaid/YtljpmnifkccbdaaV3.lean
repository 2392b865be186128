import Derived.Test.YtljpmnifkccbdaaV2
set_option linter.unusedSimpArgs false
set_option linter.unusedVariables false
namespace Go.Proofs.Ytljpmnifkccbdaa
open Go Go.RowKit Am

theorem bigPrunes_ok (l : List Ev) (hl : ¬ l.length ≤ 200) (rows : List (List AV)) (hrows : rows = evR l) (c : Int) (r : Bool) (hr : true = r) : CSem Try.prog (.fn 6) [.sl rows, .v (.int .u64 c)] (.pure [aB r]) := by
  refine of_text gam_ok mixed { n := 65 } Try.func6 (by kernel_rfl) rfl rfl (by simp) (by decide) fun F C D hF hC hD => ?_
  have haw := hC _ _ _ (awake10_ok true rfl)
  obtain ⟨fb, hfb⟩ : ∃ fb, fb = few10 l := ⟨_, rfl⟩
  have hfew := hC _ _ _ (few10_ok l rows hrows fb hfb)
  have hff : fb = false := by cases h : fb; rfl; exact absurd (few10_len (hfb.symm.trans h)) hl
  have nt : F .bnot true = false := bnotF hF true
  have nf : F .bnot fb = !fb := bnotF hF fb
  subst hff
  have nf : F .bnot false = true := nf
  cbv
  refine ⟨_, haw, ?_⟩
  cbv
  refine brf (fun h1 => ?_) (fun h1 => by rw [nt] at h1; cases h1)
  cbv
  refine ⟨_, hfew, ?_⟩
  cbv
  refine brf (fun h2 => by rw [nf] at h2; cases h2) (fun h2 => ?_)
  cbv
  refine ⟨_, haw, ?_⟩
  cbv
  rw [← hr]; exact ⟨rfl, trivial⟩
set_option maxHeartbeats 8000000 in
theorem livePrunes_ok (l : List Ev) (hl : l.length ≤ 200) (rows : List (List AV)) (hrows : rows = evR l) (c : Int) (hc : 0 ≤ c) (r : Bool) (hr : true = r) : CSem Try.prog (.fn 6) [.sl rows, .v (.int .u64 c)] (.pure [aB r]) := by
  refine of_textX gam_ok mixed { n := 65, keep := [50, 55, 59], cuts := [12] } Try.func6 (by kernel_rfl) rfl rfl (by simp) (by decide) fun F C D hF hC hD hX => ?_
  have haw := hC _ _ _ (awake10_ok true rfl)
  obtain ⟨fb, hfb⟩ : ∃ fb, fb = few10 l := ⟨_, rfl⟩
  have hfew := hC _ _ _ (few10_ok l rows hrows fb hfb)
  obtain ⟨ub, hub⟩ : ∃ ub : Bool, ub = true ↔ unlikeP l := by
    by_cases h : unlikeP l
    · exact ⟨true, by simp [h]⟩
    · exact ⟨false, by simp [h]⟩
  have hunl := hC _ _ _ (unlike_ok l (by omega) rows hrows ub hub)
  have nt : F .bnot true = false := bnotF hF true
  have nf : F .bnot fb = !fb := bnotF hF fb
  have nu : F .bnot ub = !ub := bnotF hF ub
  obtain ⟨n', hn'⟩ : ∃ n', F .len rows = n' := ⟨_, rfl⟩
  have en : n' = (l.length : Int) := by rw [← hn', lenF hF, hrows, evR_len]
  obtain ⟨k, hk, ek, hnz, _⟩ := modF hF l.length n' c en (by omega) hc
  obtain ⟨k', hk'⟩ : ∃ k', F .wrp .i64 (F .ar .rem .u64 c (F .wrp .u64 (F .ar .add .i64 n' 1))) = k' := ⟨_, rfl⟩
  have ek : k' = (k : Int) := hk'.symm.trans ek
  have hel : ∀ r ∈ rows, r.length = 26 := fun r h => by rw [hrows] at h; exact (evR_ev _ r h).len
  have hkn : (k : Int) ≤ n' := by omega
  have hnn : n' ≤ n' := Int.le_refl _
  obtain ⟨rs, hrs⟩ : ∃ rs, rs = (rows.drop 0).take (k - 0) := ⟨_, rfl⟩
  have hrs2 : rs = evR (l.take k) := by rw [hrs, hrows]; simp [evR, List.map_take]
  obtain ⟨rd, hrd⟩ : ∃ rd, rd = (rows.drop k).take (l.length - k) := ⟨_, rfl⟩
  have hrd2 : rd = evR (l.drop k) := by
    rw [hrd, hrows, List.take_of_length_le (by simp [evR])]; simp [evR, List.map_drop]
  obtain ⟨A, hA⟩ : ∃ A, A = evR (liveAll (l.take k)) := ⟨_, rfl⟩
  have hLt := liveAll_len (l.take k)
  have hpart := hC _ _ _ (liveAll_ok (l.take k) (by simp; omega) rs hrs2 A hA)
  have hAe : ∀ r ∈ A, r.length = 26 := fun r h => by rw [hA] at h; exact (evR_ev _ r h).len
  have hde : ∀ r ∈ rd, r.length = 26 := fun r h => by rw [hrd2] at h; exact (evR_ev _ r h).len
  have hAl : A.length ≤ 200 := by rw [hA, evR_len]; simp at hLt; omega
  have hdl : rd.length ≤ 200 := by rw [hrd2, evR_len]; simp; omega
  obtain ⟨K1, hK1⟩ : ∃ K1, F .app [] A = K1 := ⟨_, rfl⟩
  have eK1 : K1 = A := by rw [← hK1, hF]; rfl
  have big1 : (F .len [] + F .len A) * 232 ≤ 140737488355328 := by rw [lenF hF, lenF hF]; simp; omega
  obtain ⟨K2, hK2⟩ : ∃ K2, F .app K1 rd = K2 := ⟨_, rfl⟩
  have big2 : (F .len K1 + F .len rd) * 232 ≤ 140737488355328 := by rw [lenF hF, lenF hF, eK1]; omega
  have eK2 : K2 = evR (Prn.keptL l k) := by rw [← hK2, eK1, hF, hA, hrd2]; simp [evR, Prn.keptL, sy]
  have hkl : (Prn.keptL l k).length ≤ 400 := by
    have : K2.length ≤ 400 := by rw [← hK2, eK1, hF]; simp [sy]; omega
    rw [eK2, evR_len] at this; exact this
  obtain ⟨B1, hB1⟩ : ∃ B1, B1 = evR (liveAll (Prn.keptL l k)) := ⟨_, rfl⟩
  have hall1 := hC _ _ _ (liveAll_ok (Prn.keptL l k) (by omega) K2 eK2 B1 hB1)
  obtain ⟨B2, hB2⟩ : ∃ B2, B2 = evR (liveAll l) := ⟨_, rfl⟩
  have hall2 := hC _ _ _ (liveAll_ok l (by omega) rows hrows B2 hB2)
  have hL1 := liveAll_len (Prn.keptL l k)
  have hL2 := liveAll_len l
  have hsame : (∀ a ∈ l.take k, ∀ b ∈ l.drop k, covers a b = false) → ub = true → C (.fn 20) [.sl B1, .sl B2] (.pure [aB true]) := fun hcc hu => by
    refine hC _ _ _ (same_ok (liveAll (Prn.keptL l k)) (liveAll l) (by omega) (by omega) B1 B2 hB1 hB2 true ?_)
    simp only [true_iff]
    exact Prn.prunes l k (Prn.unlike_pw (hub.1 hu)) hcc
  clear hall1
  have hall1 := hC _ _ _ (liveAll_ok (Prn.keptL l k) (by omega) K2 eK2 B1 hB1)
  cbv
  refine ⟨_, haw, ?_⟩
  cbv
  refine brf (fun h1 => ?_) (fun h1 => by rw [nt] at h1; cases h1)
  cbv
  refine ⟨_, hfew, ?_⟩
  cbv
  refine brf (fun h2 => ?_) (fun h2 => ?_) <;> cbv
  · refine ⟨_, hunl, ?_⟩
    cbv
    refine br (fun h3 => ?_) (fun h3 => ?_) <;> cbv
    · refine ⟨_, haw, ?_⟩
      cbv
      rw [← hr]; exact ⟨rfl, trivial⟩
    have hu : ub = true := by have := nu.symm.trans h3; simpa using this
    rw [hn', hk']
    refine ⟨hnz, ?_⟩
    cbv
    refine ⟨Nat × Int, fun x => { slots := [(6, aI x.2), (5, aI k'), (0, .sl rows)], obs := [], ctr := 0 }, fun x => x.2 = (x.1 : Int) ∧ k ≤ x.1 ∧ x.1 ≤ l.length ∧ ∀ (n m : Nat) (a b : Ev), n < k → k ≤ m → m < x.1 → l[n]? = some a → l[m]? = some b → covers a b = false, fun x => l.length - x.1, ⟨(k, k'), ⟨ek, Nat.le_refl _, hk, fun n m a b _ h1 h2 => by omega⟩, le_of [] (by simp [leSl, leOb, injK, memK, parK, noTup, lk, rn0, rnA, plain, aI])⟩, fun x hx => ?_⟩
    obtain ⟨i, i'⟩ := x
    obtain ⟨ei, hki, hil0, hz⟩ := hx
    simp only at ei hki hil0 hz
    have en : n' = (l.length : Int) := en
    have ek : k' = (k : Int) := ek
    have tl := ltF hF i l.length i' n' ei en
    have ep := incF hF ei (by omega)
    obtain ⟨j, hj⟩ : ∃ j, F .ar .add .i64 i' 1 = j := ⟨_, rfl⟩
    have ej : j = ((i + 1 : Nat) : Int) := hj.symm.trans ep
    cbv
    rw [hn']
    refine br (fun h => ?_) (fun h => ?_) <;> cbv
    · have hil := tl.1 h
      obtain ⟨f, hf⟩ : ∃ f, l[i]? = some f := ⟨_, List.getElem?_eq_getElem hil⟩
      have hrowf : rows[i]? = some f.ac := by rw [hrows]; exact evR_get hf
      refine ⟨Nat × Int, fun x => { slots := [(7, aI x.2), (6, aI i'), (5, aI k'), (0, .sl rows)], obs := [], ctr := 0 }, fun x => x.2 = (x.1 : Int) ∧ x.1 ≤ k ∧ ∀ (n : Nat) (a : Ev), n < x.1 → l[n]? = some a → covers a f = false, fun x => k - x.1, ⟨(0, 0), ⟨rfl, Nat.zero_le _, fun n a h => by omega⟩, le_of [] (by simp [leSl, leOb, injK, memK, parK, noTup, lk, rn0, rnA, plain, aI])⟩, fun x hx => ?_⟩
      obtain ⟨n, nn⟩ := x
      obtain ⟨enn, hnk, hy⟩ := hx
      simp only at enn hnk hy
      have ek : k' = (k : Int) := ek
      have tl2 := ltF hF n k nn k' enn ek
      have ep2 := incF hF enn (by omega)
      obtain ⟨n2, hn2⟩ : ∃ n2, F .ar .add .i64 nn 1 = n2 := ⟨_, rfl⟩
      have en2 : n2 = ((n + 1 : Nat) : Int) := hn2.symm.trans ep2
      cbv
      refine br (fun g => ?_) (fun g => ?_) <;> cbv
      · have hnk2 := tl2.1 g
        obtain ⟨e, he⟩ : ∃ e, l[n]? = some e := ⟨_, List.getElem?_eq_getElem (by omega)⟩
        have hrow : rows[n]? = some e.ac := by rw [hrows]; exact evR_get he
        obtain ⟨co, hco⟩ : ∃ co, co = covers e f := ⟨_, rfl⟩
        have hcov := hC _ _ _ (coversRef_ok e f co hco)
        refine ⟨hC _ _ _ (ben_ok (by kernel_rfl)), ?_⟩
        cbv
        refine ⟨n, e.ac, enn, hrow, rfl, ?_⟩
        cbv
        refine ⟨i, f.ac, ei, hrowf, rfl, ?_⟩
        cbv
        refine ⟨_, hcov, ?_⟩
        cbv
        refine br (fun q => ?_) (fun q => ?_) <;> cbv
        · rw [← hr]; exact ⟨rfl, trivial⟩
        · rw [hn2]
          refine ⟨(n + 1, n2), ⟨en2, hnk2, fun m a hm ha => ?_⟩, (show k - (n + 1) < k - n by omega), le_of [] (by simp [leSl, leOb, injK, memK, parK, noTup, lk, rn0, rnA, plain, aI])⟩
          by_cases e1 : m < n
          · exact hy m a e1 ha
          · have : m = n := by have := (show m < n + 1 from hm); omega
            rw [this, he] at ha
            injection ha with ha
            rw [← ha, ← hco, q]
      · have hge : k ≤ n := by have := nfB tl2 g; omega
        rw [hj]
        refine ⟨(i + 1, j), ⟨ej, (show k ≤ i + 1 by omega), hil, fun m p a b hm hp hp2 ha hb => ?_⟩, (show l.length - (i + 1) < l.length - i by omega), le_of [] (by simp [leSl, leOb, injK, memK, parK, noTup, lk, rn0, rnA, plain, aI])⟩
        by_cases e1 : p < i
        · exact hz m p a b hm hp e1 ha hb
        · have : p = i := by have := (show p < i + 1 from hp2); omega
          rw [this, hf] at hb
          injection hb with hb
          rw [← hb]
          exact hy m a (by omega) ha
    · have hge : l.length ≤ i := by have := nfB tl h; omega
      have hcc : ∀ a ∈ l.take k, ∀ b ∈ l.drop k, covers a b = false := fun a ha b hb => by
        obtain ⟨n, hn, rfl⟩ := List.getElem_of_mem ha
        obtain ⟨m, hm, rfl⟩ := List.getElem_of_mem hb
        simp only [List.length_take, List.length_drop] at hn hm
        refine hz n (k + m) _ _ (by omega) (by omega) (by omega) ?_ ?_
        · rw [List.getElem_take]; exact List.getElem?_eq_getElem _
        · rw [List.getElem_drop]; exact List.getElem?_eq_getElem _
      have hs := hsame hcc hu
      refine ⟨{ slots := [(5, aI k'), (0, .sl rows)], obs := [], ctr := 0 }, le_of [] (by simp [leSl, leOb, injK, memK, parK, noTup, lk, rn0, rnA, plain, aI]), hX _ _ _ _ _ (by kernel_rfl) (by rfl) ?_⟩
      cbv
      refine ⟨0, k, rfl, by rw [ek]; rfl, Nat.zero_le _, by rw [hn']; exact hkn, hel, rs, hrs, ?_⟩
      cbv
      refine ⟨_, hpart, ?_⟩
      cbv
      refine ⟨hAe, big1, ?_⟩
      cbv
      rw [hK1]
      refine ⟨k, l.length, by rw [ek]; rfl, (hn'.trans en).symm, hk, by rw [hn', en]; exact Int.le_refl _, hel, rd, hrd, ?_⟩
      cbv
      refine ⟨hde, big2, ?_⟩
      cbv
      rw [hK2]
      refine hD _ _ _ ?_
      cbv
      refine ⟨_, hall1, ?_⟩
      cbv
      refine ⟨_, hall2, ?_⟩
      cbv
      refine ⟨_, hs, ?_⟩
      cbv
      rw [← hr]; exact ⟨rfl, trivial⟩
  · refine ⟨_, haw, ?_⟩
    cbv
    rw [← hr]; exact ⟨rfl, trivial⟩
theorem livePrunes_all (l : List Ev) (c : Int) (hc : 0 ≤ c) : CSem Try.prog (.fn 6) [.sl (evR l), .v (.int .u64 c)] (.pure [aB true]) := by
  by_cases h : l.length ≤ 200
  · exact livePrunes_ok l h _ rfl c hc true rfl
  · exact bigPrunes_ok l h _ rfl c true rfl
end Go.Proofs.Ytljpmnifkccbdaa
