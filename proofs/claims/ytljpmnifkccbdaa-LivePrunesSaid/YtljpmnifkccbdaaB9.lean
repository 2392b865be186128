import Derived.Test.YtljpmnifkccbdaaB8
set_option linter.unusedSimpArgs false
set_option linter.unusedVariables false
namespace Go.Proofs.Ytljpmnifkccbdaa
open Go Go.RowKit Am

theorem liveAll_mem {l : List Ev} {e : Ev} : e ∈ liveAll l ↔ e ∈ l ∧ liveP l e = true := by
  unfold liveAll
  constructor
  · intro h; exact List.mem_filter.1 (isort_mem swo_ltE h)
  · intro h; exact (isort_ok swo_ltE _).2.1.symm.mem swo_ltE (List.mem_filter.2 h)
/-- What is live among all, and stands in a part, is live in the part. -/
theorem stays (l m : List Ev) (hm : ∀ e ∈ m, e ∈ l) (e : Ev) (h : e ∈ liveAll l) (hem : e ∈ m) : e ∈ liveAll m := by
  rw [liveAll_mem] at h ⊢
  obtain ⟨h1, h2⟩ := h
  refine ⟨hem, ?_⟩
  unfold liveP at h2 ⊢
  simp only [Bool.and_eq_true, Bool.not_eq_true', List.any_eq_false] at h2 ⊢
  exact ⟨h2.1, fun b hb => h2.2 b (hm b hb)⟩
theorem modF {F : Sy} (hF : F = sy) (n : Nat) (n' c : Int) (hn : n' = (n : Int)) (hn1 : n ≤ 1000000000) (hc : 0 ≤ c) : ∃ k : Nat, k ≤ n ∧ F .wrp .i64 (F .ar .rem .u64 c (F .wrp .u64 (F .ar .add .i64 n' 1))) = (k : Int) ∧ F .wrp .u64 (F .ar .add .i64 n' 1) ≠ 0 ∧ (k : Int) = c % ((n : Int) + 1) := by
  have e1 : F .wrp .u64 (F .ar .add .i64 n' 1) = ((n : Int) + 1) := by
    rw [hF, hn]
    have : sy .ar .add .i64 (n : Int) 1 = (n : Int) + 1 := wrap_in (by omega) (by omega)
    rw [this]
    show IntKind.u64.wrap _ = _
    simp [IntKind.wrap, IntKind.signed, IntKind.bits, BitVec.toNat_ofInt]
    omega
  have h1 : 0 ≤ c % ((n : Int) + 1) := Int.emod_nonneg _ (by omega)
  have h2 : c % ((n : Int) + 1) < (n : Int) + 1 := Int.emod_lt_of_pos _ (by omega)
  refine ⟨(c % ((n : Int) + 1)).toNat, by omega, ?_, by rw [e1]; omega, by omega⟩
  rw [e1, hF]
  have e2 : sy .ar .rem .u64 c ((n : Int) + 1) = c % ((n : Int) + 1) := Int.tmod_eq_emod_of_nonneg hc
  rw [e2]
  exact (wrap_in (by omega) (by omega)).trans (by omega)
theorem bnotF {F : Sy} (hF : F = sy) (b : Bool) : F .bnot b = !b := by rw [hF]; rfl
theorem bigStays_ok (l : List Ev) (hl : ¬ l.length ≤ 200) (rows : List (List AV)) (hrows : rows = evR l) (c : Int) (r : Bool) (hr : true = r) : CSem Try.prog (.fn 5) [.sl rows, .v (.int .u64 c)] (.pure [aB r]) := by
  refine of_text gam_ok mixed { n := 83 } Try.func5 (by kernel_rfl) rfl rfl (by simp) (by decide) fun F C D hF hC hD => ?_
  have haw := hC _ _ _ (awake10_ok true rfl)
  obtain ⟨fb, hfb⟩ : ∃ fb, fb = few10 l := ⟨_, rfl⟩
  have hfew := hC _ _ _ (few10_ok l rows hrows fb hfb)
  have hff : fb = false := by cases h : fb; rfl; exact absurd (few10_len (hfb.symm.trans h)) hl
  have nt : F .bnot true = false := bnotF hF true
  have nf : F .bnot fb = !fb := bnotF hF fb
  cbv
  refine ⟨_, haw, ?_⟩
  cbv
  refine brf (fun h1 => ?_) (fun h1 => by rw [nt] at h1; cases h1)
  cbv
  refine ⟨_, hfew, ?_⟩
  cbv
  refine br (fun h2 => ?_) (fun h2 => by have := nf.symm.trans h2; rw [hff] at this; cases this)
  cbv
  refine ⟨_, haw, ?_⟩
  cbv
  rw [← hr]; exact ⟨rfl, trivial⟩
set_option maxHeartbeats 2000000 in
theorem liveStays_ok (l : List Ev) (hl : l.length ≤ 200) (rows : List (List AV)) (hrows : rows = evR l) (c : Int) (hc : 0 ≤ c) (r : Bool) (hr : true = r) : CSem Try.prog (.fn 5) [.sl rows, .v (.int .u64 c)] (.pure [aB r]) := by
  refine of_text gam_ok mixed { n := 83 } Try.func5 (by kernel_rfl) rfl rfl (by simp) (by decide) fun F C D hF hC hD => ?_
  have haw := hC _ _ _ (awake10_ok true rfl)
  obtain ⟨fb, hfb⟩ : ∃ fb, fb = few10 l := ⟨_, rfl⟩
  have hfew := hC _ _ _ (few10_ok l rows hrows fb hfb)
  have nt : F .bnot true = false := bnotF hF true
  have nf : F .bnot fb = !fb := bnotF hF fb
  obtain ⟨n', hn'⟩ : ∃ n', F .len rows = n' := ⟨_, rfl⟩
  have en : n' = (l.length : Int) := by rw [← hn', lenF hF, hrows, evR_len]
  obtain ⟨k, hk, ek, hnz, _⟩ := modF hF l.length n' c en (by omega) hc
  obtain ⟨k', hk'⟩ : ∃ k', F .wrp .i64 (F .ar .rem .u64 c (F .wrp .u64 (F .ar .add .i64 n' 1))) = k' := ⟨_, rfl⟩
  have ek : k' = (k : Int) := hk'.symm.trans ek
  obtain ⟨m, hm⟩ : ∃ m, m = l.take k := ⟨_, rfl⟩
  have hml : m.length = k := by rw [hm]; simp; omega
  obtain ⟨rs, hrs⟩ : ∃ rs, rs = (rows.drop 0).take (k - 0) := ⟨_, rfl⟩
  have hrs2 : rs = evR m := by rw [hrs, hm, hrows]; simp [evR, List.map_take]
  have hel : ∀ r ∈ rows, r.length = 26 := fun r h => by rw [hrows] at h; exact (evR_ev _ r h).len
  have hkn : (k : Int) ≤ n' := by omega
  obtain ⟨A, hA⟩ : ∃ A, A = evR (liveAll l) := ⟨_, rfl⟩
  obtain ⟨B, hB⟩ : ∃ B, B = evR (liveAll m) := ⟨_, rfl⟩
  have hall := hC _ _ _ (liveAll_ok l (by omega) rows hrows A hA)
  have hpart := hC _ _ _ (liveAll_ok m (by omega) rs hrs2 B hB)
  have hLa := liveAll_len l
  have hLb := liveAll_len m
  obtain ⟨na, hna⟩ : ∃ na, F .len A = na := ⟨_, rfl⟩
  have ena : na = ((liveAll l).length : Int) := by rw [← hna, lenF hF, hA, evR_len]
  obtain ⟨nb, hnb⟩ : ∃ nb, F .len B = nb := ⟨_, rfl⟩
  have enb : nb = ((liveAll m).length : Int) := by rw [← hnb, lenF hF, hB, evR_len]
  obtain ⟨nr, hnr⟩ : ∃ nr, F .len rs = nr := ⟨_, rfl⟩
  have enr : nr = (k : Int) := by rw [← hnr, lenF hF, hrs2, evR_len, hml]
  cbv
  refine ⟨_, haw, ?_⟩
  cbv
  refine brf (fun h1 => ?_) (fun h1 => by rw [nt] at h1; cases h1)
  cbv
  refine ⟨_, hfew, ?_⟩
  cbv
  refine br (fun h2 => ?_) (fun h2 => ?_) <;> cbv
  · refine ⟨_, haw, ?_⟩
    cbv
    rw [← hr]; exact ⟨rfl, trivial⟩
  have hfb2 : fb = true := by have := nf.symm.trans h2; simpa using this
  rw [hn', hk']
  refine ⟨hnz, hC _ _ _ (ben_ok (by kernel_rfl)), ?_⟩
  cbv
  refine ⟨_, hall, ?_⟩
  cbv
  refine ⟨0, k, rfl, by rw [ek]; rfl, Nat.zero_le _, by rw [hn']; exact hkn, hel, rs, hrs, ?_⟩
  cbv
  refine ⟨_, hpart, ?_⟩
  cbv
  rw [hna]
  refine ⟨Nat × Int, fun x => { slots := [(36, aI x.2), (35, aI na), (6, .sl A), (7, .sl B), (5, aI k'), (0, .sl rows)], obs := [], ctr := 0 }, fun x => x.2 = (x.1 : Int) ∧ x.1 ≤ (liveAll l).length, fun x => (liveAll l).length - x.1, ⟨(0, 0), ⟨rfl, Nat.zero_le _⟩, le_of [] (by simp [leSl, leOb, injK, memK, parK, noTup, lk, rn0, rnA, plain, aI])⟩, fun x hx => ?_⟩
  obtain ⟨i, i'⟩ := x
  obtain ⟨ei, hi⟩ := hx
  simp only at ei hi
  have ena : na = ((liveAll l).length : Int) := ena
  have enb : nb = ((liveAll m).length : Int) := enb
  have enr : nr = (k : Int) := enr
  have ek : k' = (k : Int) := ek
  have tl := ltF hF i (liveAll l).length i' na ei ena
  have ep := incF hF ei (by omega)
  obtain ⟨j, hj⟩ : ∃ j, F .ar .add .i64 i' 1 = j := ⟨_, rfl⟩
  have ej : j = ((i + 1 : Nat) : Int) := hj.symm.trans ep
  cbv
  refine br (fun h => ?_) (fun h => ?_) <;> cbv
  · have hil := tl.1 h
    obtain ⟨e, he⟩ : ∃ e, (liveAll l)[i]? = some e := ⟨_, List.getElem?_eq_getElem hil⟩
    have hrow : A[i]? = some e.ac := by rw [hA]; exact evR_get he
    refine ⟨0, k, rfl, by rw [ek]; rfl, Nat.zero_le _, by rw [hn']; exact hkn, hel, rs, hrs, ?_⟩
    cbv
    rw [hnr]
    refine ⟨Nat × Int × Bool, fun x => { slots := [(43, aI x.2.1), (42, aI nr), (9, aB x.2.2), (10, aB false), (8, aI i'), (36, aI i'), (35, aI na), (6, .sl A), (7, .sl B), (5, aI k'), (0, .sl rows)], obs := [], ctr := 0 }, fun x => x.2.1 = (x.1 : Int) ∧ x.1 ≤ k ∧ (x.2.2 = true → ∃ n : Nat, n < x.1 ∧ l[n]? = some e), fun x => k - x.1, ⟨(0, 0, false), ⟨rfl, Nat.zero_le _, fun h => by cases h⟩, le_of [] (by simp [leSl, leOb, injK, memK, parK, noTup, lk, rn0, rnA, plain, aI])⟩, fun x hx => ?_⟩
    obtain ⟨n, nn', b9⟩ := x
    obtain ⟨enn, hn, hb9⟩ := hx
    simp only at enn hn hb9
    have enr : nr = (k : Int) := enr
    have tl2 := ltF hF n k nn' nr enn enr
    have ep2 := incF hF enn (by omega)
    obtain ⟨n2, hn2⟩ : ∃ n2, F .ar .add .i64 nn' 1 = n2 := ⟨_, rfl⟩
    have en2 : n2 = ((n + 1 : Nat) : Int) := hn2.symm.trans ep2
    cbv
    refine br (fun g => ?_) (fun g => ?_) <;> cbv
    · have hnk := tl2.1 g
      obtain ⟨f, hf⟩ : ∃ f, l[n]? = some f := ⟨_, List.getElem?_eq_getElem (by omega)⟩
      have hrowf : rows[n]? = some f.ac := by rw [hrows]; exact evR_get hf
      obtain ⟨q, hq1, hq2⟩ := evEq_ok f e
      have heq := hC _ _ _ hq2
      refine ⟨hC _ _ _ (ben_ok (by kernel_rfl)), ?_⟩
      cbv
      refine brf (fun g2 => ?_) (fun g2 => ?_) <;> cbv
      · refine ⟨n, f.ac, enn, hrowf, rfl, ?_⟩
        cbv
        refine ⟨i, e.ac, ei, hrow, rfl, ?_⟩
        cbv
        refine ⟨_, heq, ?_⟩
        cbv
        rw [hn2]
        exact ⟨(n + 1, n2, q), ⟨en2, hnk, fun h => ⟨n, Nat.lt_succ_self _, by rw [hf, hq1.1 h]⟩⟩, (show k - (n + 1) < k - n by omega), le_of [] (by simp [leSl, leOb, injK, memK, parK, noTup, lk, rn0, rnA, plain])⟩
      · rw [hn2]
        exact ⟨(n + 1, n2, true), ⟨en2, hnk, fun _ => by obtain ⟨u, hu1, hu2⟩ := hb9 g2; exact ⟨u, Nat.lt_succ_of_lt hu1, hu2⟩⟩, (show k - (n + 1) < k - n by omega), le_of [] (by simp [leSl, leOb, injK, memK, parK, noTup, lk, rn0, rnA, plain])⟩
    · have hin : b9 = true → e ∈ m := fun h => by
        obtain ⟨u, hu1, hu2⟩ := hb9 h
        rw [hm]
        exact List.mem_of_getElem? (i := u) (by rw [List.getElem?_take, if_pos (by omega)]; exact hu2)
      have hst : b9 = true → e ∈ liveAll m := fun h => stays l m (fun x hx => by rw [hm] at hx; exact List.mem_of_mem_take hx) e (List.mem_of_getElem? he) (hin h)
      rw [hnb]
      refine ⟨Nat × Int × Bool, fun x => { slots := [(61, aI x.2.1), (60, aI nb), (9, aB b9), (10, aB x.2.2), (8, aI i'), (36, aI i'), (35, aI na), (6, .sl A), (7, .sl B), (5, aI k'), (0, .sl rows)], obs := [], ctr := 0 }, fun x => x.2.1 = (x.1 : Int) ∧ x.1 ≤ (liveAll m).length ∧ (x.2.2 = false → ∀ (n : Nat) (f : Ev), n < x.1 → (liveAll m)[n]? = some f → f ≠ e), fun x => (liveAll m).length - x.1, ⟨(0, 0, false), ⟨rfl, Nat.zero_le _, fun _ n f h => by omega⟩, le_of [] (by simp [leSl, leOb, injK, memK, parK, noTup, lk, rn0, rnA, plain, aI])⟩, fun x hx => ?_⟩
      obtain ⟨d, d', b10⟩ := x
      obtain ⟨ed, hd, hb10⟩ := hx
      simp only at ed hd hb10
      have enb : nb = ((liveAll m).length : Int) := enb
      have tl3 := ltF hF d (liveAll m).length d' nb ed enb
      have ep3 := incF hF ed (by omega)
      obtain ⟨d2, hd2⟩ : ∃ d2, F .ar .add .i64 d' 1 = d2 := ⟨_, rfl⟩
      have ed2 : d2 = ((d + 1 : Nat) : Int) := hd2.symm.trans ep3
      have nb10 := bnotF hF b10
      cbv
      refine br (fun g3 => ?_) (fun g3 => ?_) <;> cbv
      · have hdk := tl3.1 g3
        obtain ⟨f, hf⟩ : ∃ f, (liveAll m)[d]? = some f := ⟨_, List.getElem?_eq_getElem hdk⟩
        have hrowf : B[d]? = some f.ac := by rw [hB]; exact evR_get hf
        obtain ⟨q, hq1, hq2⟩ := evEq_ok f e
        have heq := hC _ _ _ hq2
        refine ⟨hC _ _ _ (ben_ok (by kernel_rfl)), ?_⟩
        cbv
        refine brf (fun g2 => ?_) (fun g2 => ?_) <;> cbv
        · refine ⟨d, f.ac, ed, hrowf, rfl, ?_⟩
          cbv
          refine ⟨i, e.ac, ei, hrow, rfl, ?_⟩
          cbv
          refine ⟨_, heq, ?_⟩
          cbv
          rw [hd2]
          refine ⟨(d + 1, d2, q), ⟨ed2, hdk, fun hq u y hu hy => ?_⟩, (show (liveAll m).length - (d + 1) < (liveAll m).length - d by omega), le_of [] (by simp [leSl, leOb, injK, memK, parK, noTup, lk, rn0, rnA, plain])⟩
          by_cases e1 : u < d
          · exact hb10 g2 u y e1 hy
          · have : u = d := by have := (show u < d + 1 from hu); omega
            rw [this, hf] at hy
            injection hy with hy
            rw [← hy]
            intro h
            rw [hq1.2 h] at hq
            cases hq
        · rw [hd2]
          exact ⟨(d + 1, d2, true), ⟨ed2, hdk, fun h => by cases h⟩, (show (liveAll m).length - (d + 1) < (liveAll m).length - d by omega), le_of [] (by simp [leSl, leOb, injK, memK, parK, noTup, lk, rn0, rnA, plain])⟩
      · have hge : (liveAll m).length ≤ d := by have := nfB tl3 g3; omega
        have hno : b9 = true → b10 = true := fun h => by
          cases hb : b10
          · obtain ⟨u, hu, hue⟩ := List.getElem_of_mem (hst h)
            exact absurd hue (hb10 hb u _ (by omega) (List.getElem?_eq_getElem hu))
          · rfl
        refine br (fun g4 => ?_) (fun g4 => ?_) <;> cbv
        · have := hno g4
          refine br (fun g5 => ?_) (fun g5 => ?_) <;> cbv
          · have h5 := nb10.symm.trans g5
            rw [this] at h5
            cases h5
          · rw [hj]
            exact ⟨(i + 1, j), ⟨ej, hil⟩, (show (liveAll l).length - (i + 1) < (liveAll l).length - i by omega), le_of [] (by simp [leSl, leOb, injK, memK, parK, noTup, lk, rn0, rnA, plain])⟩
        · rw [hj]
          exact ⟨(i + 1, j), ⟨ej, hil⟩, (show (liveAll l).length - (i + 1) < (liveAll l).length - i by omega), le_of [] (by simp [leSl, leOb, injK, memK, parK, noTup, lk, rn0, rnA, plain])⟩
  · rw [← hr]; exact ⟨rfl, trivial⟩
theorem liveStays_all (l : List Ev) (c : Int) (hc : 0 ≤ c) : CSem Try.prog (.fn 5) [.sl (evR l), .v (.int .u64 c)] (.pure [aB true]) := by
  by_cases h : l.length ≤ 200
  · exact liveStays_ok l h _ rfl c hc true rfl
  · exact bigStays_ok l h _ rfl c true rfl
end Go.Proofs.Ytljpmnifkccbdaa
