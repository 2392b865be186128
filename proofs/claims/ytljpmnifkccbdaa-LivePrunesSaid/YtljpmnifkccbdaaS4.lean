import Derived.Test.YtljpmnifkccbdaaS3
set_option linter.unusedSimpArgs false
set_option linter.unusedVariables false
namespace Go.Proofs.Ytljpmnifkccbdaa
open Go Go.RowKit Am

def OutI (A M B : List (List AV)) (i : Nat) (r : List (List AV)) : Prop :=
  ∃ k, 1 ≤ k ∧ i = A.length + k ∧ r = A ++ (isort ltR (M.take k) ++ (M.drop k ++ B)) ∧ (k ≤ M.length ∨ k = 1)
theorem OutI.start (A M B : List (List AV)) : OutI A M B (A.length + 1) (A ++ (M ++ B)) := by
  refine ⟨1, Nat.le_refl _, rfl, ?_, .inr rfl⟩
  cases M with
  | nil => rfl
  | cons x M => rfl
theorem OutI.stop {A M B r : List (List AV)} {i : Nat} (h : OutI A M B i r) (hi : A.length + M.length ≤ i) : r = A ++ (isort ltR M ++ B) := by
  obtain ⟨k, h1, rfl, rfl, h2⟩ := h
  have h3 : M.length ≤ k := by omega
  rw [List.take_of_length_le h3, List.drop_of_length_le h3]
  simp
theorem OutI.inner {A M B r : List (List AV)} {i : Nat} (h : OutI A M B i r) (hi : i < A.length + M.length) :
    ∃ L rest x, InsI A L rest x i r ∧ Srt ltR L ∧ A.length + L.length + 1 + rest.length = A.length + M.length + B.length ∧ OutI A M B (i + 1) (A ++ (ins ltR x L ++ rest)) ∧ (∀ q, q ∈ A ++ (L ++ (x :: rest)) → q ∈ A ++ (M ++ B)) := by
  obtain ⟨k, h1, rfl, rfl, h2⟩ := h
  have hk : k < M.length := by omega
  have hd : M.drop k = M[k] :: M.drop (k + 1) := List.drop_eq_getElem_cons hk
  have ht : M.take (k + 1) = M.take k ++ [M[k]] := by rw [List.take_succ_eq_append_getElem hk]
  obtain ⟨s1, s2, s3⟩ := isort_ok swo_ltR (M.take k)
  have hl : (isort ltR (M.take k)).length = k := by rw [s3]; simp; omega
  refine ⟨isort ltR (M.take k), M.drop (k + 1) ++ B, M[k], ?_, s1, by simp [hl]; omega, ⟨k + 1, by omega, by omega, ?_, .inl (by omega)⟩, fun q hq => ?_⟩
  · have := InsI.start A (isort ltR (M.take k)) (M.drop (k + 1) ++ B) M[k]
    rw [hl] at this
    rw [hd]
    exact this
  · rw [ht, isort_snoc]
  · simp only [List.mem_append, List.mem_cons] at hq ⊢
    rcases hq with h | h | h | h | h
    · exact .inl h
    · exact .inr (.inl (List.mem_of_mem_take (isort_mem swo_ltR h)))
    · subst h; exact .inr (.inl (List.getElem_mem hk))
    · exact .inr (.inl (List.mem_of_mem_drop h))
    · exact .inr (.inr h)
theorem insertionSort_ok (rows : List (List AV)) (a b : Nat) (a' b' : Int) (ea : a' = (a : Int)) (eb : b' = (b : Int)) (A M B : List (List AV)) (hrows : rows = A ++ (M ++ B)) (hA : A.length = a) (hM : a + M.length = b) (hlen : rows.length ≤ 1000000000) (hr : ∀ r ∈ rows, isEv r) (rows' : List (List AV)) (hrows' : rows' = A ++ (isort ltR M ++ B)) :
    CSem Try.prog (.wr 78 [(0, .row 34 26 rows 0 0)] [(0, .row 34 26 rows' 0 0)]) [.own 0 0, aI a', aI b', .clo 46 []] (.pure []) := by
  have hlr : rows.length = a + M.length + B.length := by rw [hrows]; simp; omega
  refine of_textW gam_ok mixed { n := 53 } Try.func78 (by kernel_rfl) rfl rfl (by simp) (by decide) rfl fun F C D hF hC hD => ?_
  have e1 : F .ar .add .i64 a' 1 = ((a + 1 : Nat) : Int) := by rw [hF]; exact (wrap_in (by omega) (by omega)).trans (by omega)
  obtain ⟨i0, hi0⟩ : ∃ i0, F .ar .add .i64 a' 1 = i0 := ⟨_, rfl⟩
  rw [hi0] at e1
  cbv
  rw [hi0]
  refine ⟨Nat × Int × List (List AV), fun x => { slots := [(8, aI x.2.1), (0, .own 0 0), (1, aI a'), (2, aI b'), (3, .clo 46 [])], obs := [(0, .row 34 26 x.2.2 0 0)], ctr := 4, par := 4 }, fun x => x.2.1 = (x.1 : Int) ∧ OutI A M B x.1 x.2.2, fun x => b + 1 - x.1, ⟨(a + 1, i0, rows), ⟨e1, by rw [hrows, ← hA]; exact OutI.start A M B⟩, le_of [] (by simp [leSl, leOb, injK, memK, parK, noTup, lk, rn0, rnA, plain, aI])⟩, fun x hx => ?_⟩
  obtain ⟨i, i', r⟩ := x
  obtain ⟨ei, hri⟩ := hx
  simp only at ei hri
  have eb : b' = (b : Int) := eb
  have ea : a' = (a : Int) := ea
  have hlt : F .cmp .lss i' b' = true → i < b := fun g => by rw [hF] at g; simp [sy] at g; omega
  have hge : F .cmp .lss i' b' = false → b ≤ i := fun g => by rw [hF] at g; simp [sy] at g; omega
  have ep : i < b → F .ar .add .i64 i' 1 = ((i + 1 : Nat) : Int) := fun h => by rw [hF]; exact (wrap_in (by omega) (by omega)).trans (by omega)
  cbv
  refine ⟨fun h => ?_, fun h => ?_⟩ <;> cbv
  · have hib := hlt h
    obtain ⟨L, rest, x, hin, hsL, hlL, hout, hmem⟩ := hri.inner (by omega)
    refine ⟨Nat × Int × List (List AV), fun y => { slots := [(9, aI y.2.1), (8, aI i'), (0, .own 0 0), (1, aI a'), (2, aI b'), (3, .clo 46 [])], obs := [(0, .row 34 26 y.2.2 0 0)], ctr := 4, par := 4 }, fun y => y.2.1 = (y.1 : Int) ∧ InsI A L rest x y.1 y.2.2, fun y => y.1, ⟨(i, i', r), ⟨ei, hin⟩, le_of [] (by simp [leSl, leOb, injK, memK, parK, noTup, lk, rn0, rnA, plain, aI])⟩, fun y hy => ?_⟩
    obtain ⟨j, j', q⟩ := y
    obtain ⟨ej, hq⟩ := hy
    simp only at ej hq
    have ea : a' = (a : Int) := ea
    have hev : ∀ z, z ∈ q → isEv z := fun z hz => hr z (by rw [hrows]; exact hmem z (hq.mem hz))
    have hql : q.length = A.length + L.length + 1 + rest.length := hq.len
    have hjt : F .cmp .gtr j' a' = true → a < j := fun g => by rw [hF] at g; simp [sy] at g; omega
    have hjf : F .cmp .gtr j' a' = false → j ≤ a := fun g => by rw [hF] at g; simp [sy] at g; omega
    have hjl : j < q.length := by
      have := hq.at
      exact (List.getElem?_eq_some_iff.1 this).1
    have em : a < j → F .ar .sub .i64 j' 1 = ((j - 1 : Nat) : Int) := fun h => by rw [hF]; exact (wrap_in (by omega) (by omega)).trans (by omega)
    have cn : ∀ n : Int, F .cmp .lss n 0 = true → n < 0 := fun n g => by rw [hF] at g; simpa [sy] using g
    have cp : ∀ n : Int, F .cmp .lss n 0 = false → ¬ n < 0 := fun n g => by rw [hF] at g; simp [sy] at g; omega
    cbv
    refine ⟨hC _ _ _ (ben_ok (by kernel_rfl)), ?_⟩
    cbv
    have next : ∀ i2 : Int, F .ar .add .i64 i' 1 = i2 → i2 = ((i + 1 : Nat) : Int) := fun i2 h => h.symm.trans (ep hib)
    refine ⟨fun g => ?_, fun g => ?_⟩ <;> cbv
    · have hja := hjt g
      obtain ⟨y, hy, hstep, hstop⟩ := hq.step (by omega)
      obtain ⟨k, hk⟩ : ∃ k, k = j - 1 := ⟨_, rfl⟩
      have hyk : q[k]? = some y := by rw [hk]; exact hy
      have emk : F .ar .sub .i64 j' 1 = (k : Int) := (em hja).trans (by rw [hk])
      have hxe : isEv x := hev x (List.mem_of_getElem? hq.at)
      have hye : isEv y := hev y (List.mem_of_getElem? hy)
      refine ⟨j, x, ej, hq.at, ?_⟩
      cbv
      refine ⟨k, y, emk, hyk, ?_⟩
      cbv
      refine ⟨_, hC _ _ _ (orderR_ok x y hxe hye _ rfl), ?_⟩
      have hneg := orderR_neg x y
      generalize orderR x y = n at hneg
      cbv
      refine ⟨fun f => ?_, fun f => ?_⟩ <;> cbv
      · have hxy : ltR x y = true := hneg.1 (cn n f)
        refine ⟨hC _ _ _ (ben_ok (by kernel_rfl)), ?_⟩
        cbv
        have hyl : y.length = 26 := hye.len
        have hxl : x.length = 26 := hxe.len
        refine ⟨k, y, emk, hyk, ?_⟩
        cbv
        refine ⟨j, x, ej, hq.at, ?_⟩
        cbv
        refine ⟨j, x, ej, hq.at, ?_⟩
        cbv
        refine ⟨.mk hyl, ?_⟩
        cbv
        obtain ⟨q2, hq2⟩ : ∃ q2, F .set q j y = q2 := ⟨_, rfl⟩
        rw [hq2]
        have eq2 : q2 = q.set j y := by rw [← hq2, hF]; rfl
        obtain ⟨c2, hc2⟩ : ∃ c2, q2[k]? = some c2 := ⟨_, List.getElem?_eq_getElem (by rw [eq2]; simp; omega)⟩
        refine ⟨k, c2, emk, hc2, ?_⟩
        cbv
        refine ⟨.mk hxl, ?_⟩
        cbv
        obtain ⟨q3, hq3⟩ : ∃ q3, F .set q2 k x = q3 := ⟨_, rfl⟩
        rw [hq3]
        have eq3 : q3 = (q.set j y).set (j - 1) x := by rw [← hq3, hF, eq2, hk]; rfl
        obtain ⟨j2, hj2⟩ : ∃ j2, F .ar .sub .i64 j' 1 = j2 := ⟨_, rfl⟩
        rw [hj2]
        exact ⟨(k, j2, q3), ⟨hj2.symm.trans emk, by rw [eq3, hk]; exact hstep hxy⟩, (by simp; omega), Le.trans le_fresh (le_of [] (by simp [St.fresh, freshObs, Ob.fresh, mapS, killR, relT, leSl, leOb, injK, memK, parK, noTup, lk, rn0, rnA, plain]))⟩
      · have hxy : ltR x y = false := by
          rw [Bool.eq_false_iff]
          exact fun h => cp n f (hneg.2 h)
        have hr2 := hstop hxy hsL
        obtain ⟨i2, hi2⟩ : ∃ i2, F .ar .add .i64 i' 1 = i2 := ⟨_, rfl⟩
        rw [hi2]
        exact ⟨(i + 1, i2, q), ⟨next i2 hi2, by rw [hr2]; exact hout⟩, (by simp; omega), Le.trans le_fresh (le_of [] (by simp [St.fresh, freshObs, Ob.fresh, mapS, killR, relT, leSl, leOb, injK, memK, parK, noTup, lk, rn0, rnA, plain]))⟩
    · have hr2 := hq.stop (by have := hjf g; omega)
      obtain ⟨i2, hi2⟩ : ∃ i2, F .ar .add .i64 i' 1 = i2 := ⟨_, rfl⟩
      rw [hi2]
      exact ⟨(i + 1, i2, q), ⟨next i2 hi2, by rw [hr2]; exact hout⟩, (by simp; omega), Le.trans le_fresh (le_of [] (by simp [St.fresh, freshObs, Ob.fresh, mapS, killR, relT, leSl, leOb, injK, memK, parK, noTup, lk, rn0, rnA, plain]))⟩
  · have hr2 := hri.stop (by have := hge h; omega)
    exact ⟨⟨hr2.trans hrows'.symm, trivial⟩, trivial⟩
end Go.Proofs.Ytljpmnifkccbdaa
