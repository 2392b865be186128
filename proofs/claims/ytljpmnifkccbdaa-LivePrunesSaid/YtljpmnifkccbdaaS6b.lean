import Derived.Test.YtljpmnifkccbdaaS6a
set_option linter.unusedSimpArgs false
set_option linter.unusedVariables false
namespace Go.Proofs.Ytljpmnifkccbdaa
open Go Go.RowKit Am

/-- A part of a text. -/
def nav : List Nat → Code → Code
  | 0 :: r, .seq x _ => nav r x
  | 1 :: r, .seq _ y => nav r y
  | 0 :: r, .cond _ x _ => nav r x
  | 1 :: r, .cond _ _ y => nav r y
  | _ :: r, .block _ c => nav r c
  | _ :: r, .loop c => nav r c
  | _, c => c
set_option maxHeartbeats 2000000 in
theorem c2 {F : Sy} {C : Key → List AV → Res → Prop} {D : Code → (AE → St → Prop) → St → Prop} (hF : F = sy) (hC : ∀ k l r, CSem Try.prog k l r → C k l r) (hD : ∀ c Q s, awp F C D E79 c Q s → D c Q s) (rows : List (List AV)) (a m b : Nat) (a' m' b' : Int) (ea : a' = (a : Int)) (em : m' = (m : Int)) (eb : b' = (b : Int)) (A L R B : List (List AV)) (hrows : rows = A ++ (L ++ (R ++ B))) (hA : A.length = a) (hL : a + L.length = m) (hR : m + R.length = b) (h0 : 0 < L.length) (h1 : 0 < R.length) (hsL : Srt ltR L) (hsR : Srt ltR R) (hlen : rows.length ≤ 500000000) (hr : ∀ r ∈ rows, isEv r) (rows' : List (List AV)) (hrows' : rows' = A ++ (isort ltR (L ++ R) ++ B)) (hl1 : L.length = 1)
    (Q : AE → St → Prop) (hQ : ∀ s, retOKW Try.f79.results.toList [(0, .row 34 26 rows' 0 0)] (.pure []) s → Q .ret s) :
    awp F C D E79 (nav [0, 1, 0, 1] body79) Q { slots := [(10, aI m'), (0, .own 0 0), (1, aI a'), (2, aI m'), (3, aI b'), (4, .clo 46 [])], obs := [(0, .row 34 26 rows 0 0)], ctr := 5, par := 5 } := by
  have hlr : rows.length = b + B.length := by rw [hrows]; simp; omega
  have es : ∀ k : Nat, k ≤ 1000000000 → ∀ l : Nat, l ≤ k → F .ar .sub .i64 (k : Int) (l : Int) = ((k - l : Nat) : Int) := fun k hk l hl => by rw [hF]; exact (wrap_in (by omega) (by omega)).trans (by omega)
  have ep : ∀ k : Nat, k ≤ 1000000000 → ∀ l : Nat, l ≤ 1000000000 → F .ar .add .i64 (k : Int) (l : Int) = ((k + l : Nat) : Int) := fun k hk l hl => by rw [hF]; exact (wrap_in (by omega) (by omega)).trans (by omega)
  have eh : ∀ (i j : Nat) (i' j' : Int), i' = (i : Int) → j' = (j : Int) → i ≤ 1000000000 → j ≤ 1000000000 → F .wrp .i64 (F .ar .shr .u64 (F .wrp .u64 (F .ar .add .i64 i' j')) 1) = (((i + j) / 2 : Nat) : Int) := fun i j i' j' hi hj h2 h3 => by rw [hi, hj, ep i h2 j h3, hF]; exact half_eq i j h2 h3
  have lt_iff : ∀ (i j : Nat) (i' j' : Int), i' = (i : Int) → j' = (j : Int) → (F .cmp .lss i' j' = true ↔ i < j) ∧ (F .cmp .gtr i' j' = true ↔ j < i) := fun i j i' j' hi hj => by rw [hF, hi, hj]; simp [sy]
  have cn : ∀ n : Int, F .cmp .lss n 0 = true ↔ n < 0 := fun n => by rw [hF]; simp [sy]
  obtain ⟨x, rfl⟩ := List.length_eq_one_iff.1 hl1
  obtain ⟨R1, R2, hRs, q1, q2⟩ := low_split R hsR x
  have hfin : rows' = A ++ (R1 ++ (x :: (R2 ++ B))) := by
    rw [hrows', hRs, ← merge_one swo_ltR x R1 R2 (hRs ▸ hsR) q1 q2]; simp
  have hmm : m = a + 1 := by simp at hL; omega
  have hbb : m + R1.length + R2.length = b := by rw [← hR, hRs]; simp; omega
  have hxe : isEv x := hr x (by rw [hrows]; simp)
  have hxa : rows[a]? = some x := by rw [hrows, List.getElem?_append_right (by omega), hA, Nat.sub_self]; rfl
  have hat : ∀ k, m ≤ k → k < b → ∃ y, rows[k]? = some y ∧ isEv y ∧ (ltR y x = true ↔ k < m + R1.length) := by
    intro k hk1 hk2
    have e1 : rows[k]? = (R1 ++ R2)[k - m]? := by
      rw [hrows, List.getElem?_append_right (by omega), List.getElem?_append_right (by simp; omega), List.getElem?_append_left (by simp; omega), hRs, hA]
      congr 1; simp; omega
    by_cases e : k - m < R1.length
    · have e2 : rows[k]? = some R1[k - m] := by rw [e1, List.getElem?_append_left e, List.getElem?_eq_getElem e]
      exact ⟨_, e2, hr _ (List.mem_of_getElem? e2), ⟨fun _ => by omega, fun _ => q1 _ (List.getElem_mem e)⟩⟩
    · have e3 : k - m - R1.length < R2.length := by omega
      have e2 : rows[k]? = some R2[k - m - R1.length] := by rw [e1, List.getElem?_append_right (by omega), List.getElem?_eq_getElem e3]
      exact ⟨_, e2, hr _ (List.mem_of_getElem? e2), ⟨fun h => by rw [q2 _ (List.getElem_mem e3)] at h; simp at h, fun h => by omega⟩⟩
  obtain ⟨s, hs⟩ : ∃ s, s = m + R1.length := ⟨_, rfl⟩
  rw [← hs] at hat
  cbv
  refine ⟨Nat × Nat × Int × Int, fun y => { slots := [(10, aI y.2.2.1), (11, aI y.2.2.2), (0, .own 0 0), (1, aI a'), (2, aI m'), (3, aI b'), (4, .clo 46 [])], obs := [(0, .row 34 26 rows 0 0)], ctr := 5, par := 5 }, fun y => y.2.2.1 = (y.1 : Int) ∧ y.2.2.2 = (y.2.1 : Int) ∧ m ≤ y.1 ∧ y.1 ≤ s ∧ s ≤ y.2.1 ∧ y.2.1 ≤ b, fun y => y.2.1 - y.1, ⟨(m, b, m', b'), ⟨em, eb, Nat.le_refl _, (show m ≤ s by omega), (show s ≤ b by omega), Nat.le_refl _⟩, le_of [] (by simp [leSl, leOb, injK, memK, parK, noTup, lk, rn0, rnA, plain, aI])⟩, fun y hy => ?_⟩
  obtain ⟨i, j, i', j'⟩ := y
  obtain ⟨ei, ej, g1, g2, g3, g4⟩ := hy
  simp only at ei ej g1 g2 g3 g4
  have tl := (lt_iff i j i' j' ei ej).1
  have thalf := eh i j i' j' ei ej (by omega) (by omega)
  have tp : ∀ (k : Nat) (k' : Int), k' = (k : Int) → k ≤ 500000000 → F .ar .add .i64 k' 1 = ((k + 1 : Nat) : Int) := fun k k' hk h => by rw [hk]; exact ep k (by omega) 1 (by omega)
  have tm : F .ar .sub .i64 i' 1 = ((i - 1 : Nat) : Int) := by rw [ei]; exact es i (by omega) 1 (by omega)
  cbv
  refine ⟨fun f => ?_, fun f => ?_⟩ <;> cbv
  · have hij := tl.1 f
    obtain ⟨k, hk⟩ : ∃ k, k = (i + j) / 2 := ⟨_, rfl⟩
    obtain ⟨k', hk'⟩ : ∃ k', F .wrp .i64 (F .ar .shr .u64 (F .wrp .u64 (F .ar .add .i64 i' j')) 1) = k' := ⟨_, rfl⟩
    have ek : k' = (k : Int) := hk'.symm.trans (thalf.trans (by rw [hk]))
    obtain ⟨y, hy, hye, hyx⟩ := hat k (by omega) (by omega)
    have ek1 := tp k k' ek (by omega)
    rw [hk']
    refine ⟨hC _ _ _ (ben_ok (by kernel_rfl)), ?_⟩
    cbv
    refine ⟨k, y, ek, hy, ?_⟩
    cbv
    refine ⟨a, x, ea, hxa, ?_⟩
    cbv
    refine ⟨_, hC _ _ _ (orderR_ok y x hye hxe _ rfl), ?_⟩
    have hneg := orderR_neg y x
    generalize orderR y x = n at hneg
    have hn1 : F .cmp .lss n 0 = true → k < s := fun g => hyx.1 (hneg.1 ((cn n).1 g))
    have hn2 : F .cmp .lss n 0 = false → ¬ k < s := fun g g2 => by
      have := (cn n).2 (hneg.2 (hyx.2 g2))
      rw [g] at this
      simp at this
    cbv
    refine ⟨fun e => ?_, fun e => ?_⟩ <;> cbv
    · obtain ⟨i2, hi2⟩ : ∃ i2, F .ar .add .i64 k' 1 = i2 := ⟨_, rfl⟩
      rw [hi2]
      exact ⟨(k + 1, j, i2, j'), ⟨hi2.symm.trans ek1, ej, (show m ≤ k + 1 by omega), (show k + 1 ≤ s from hn1 e), g3, g4⟩, (show j - (k + 1) < j - i by omega), le_of [] (by simp [leSl, leOb, injK, memK, parK, noTup, lk, rn0, rnA, plain])⟩
    · exact ⟨(i, k, i', k'), ⟨ei, ek, g1, g2, (show s ≤ k by have := hn2 e; omega), (show k ≤ b by omega)⟩, (show k - i < j - i by omega), le_of [] (by simp [leSl, leOb, injK, memK, parK, noTup, lk, rn0, rnA, plain])⟩
  · have hij : ¬ i < j := fun g => by have := tl.2 g; rw [f] at this; simp at this
    have his : i = s := by omega
    have hstart : FwdI A R1 (R2 ++ B) x a rows := ⟨[], R1, rfl, by rw [hrows, hRs]; simp, by simpa using hA⟩
    refine ⟨Nat × Int × List (List AV), fun y => { slots := [(13, aI y.2.1), (10, aI i'), (0, .own 0 0), (1, aI a'), (2, aI m'), (3, aI b'), (4, .clo 46 [])], obs := [(0, .row 34 26 y.2.2 0 0)], ctr := 5, par := 5 }, fun y => y.2.1 = (y.1 : Int) ∧ a ≤ y.1 ∧ y.1 ≤ i - 1 ∧ FwdI A R1 (R2 ++ B) x y.1 y.2.2, fun y => i - y.1, ⟨(a, a', rows), ⟨ea, Nat.le_refl _, (show a ≤ i - 1 by omega), hstart⟩, le_of [] (by simp [leSl, leOb, injK, memK, parK, noTup, lk, rn0, rnA, plain, aI])⟩, fun y hy => ?_⟩
    obtain ⟨k, k', q⟩ := y
    obtain ⟨ek, t1, t2, hq⟩ := hy
    simp only at ek t1 t2 hq
    have hqev : ∀ z, z ∈ q → isEv z := fun z hz => hr z (by
      have := hq.mem hz
      rw [hrows, hRs]
      simp only [List.mem_append, List.mem_cons] at this ⊢
      rcases this with h | h | h | h | h <;> simp [h])
    have hql : q.length = rows.length := by rw [hq.len, hrows, hRs]; simp; omega
    have tl2 := (lt_iff k (i - 1) k' (F .ar .sub .i64 i' 1) ek tm).1
    have ek1 := tp k k' ek (by omega)
    cbv
    refine ⟨fun e => ?_, fun e => ?_⟩ <;> cbv
    · have hki := tl2.1 e
      obtain ⟨u1, y, u2, u3⟩ := hq.step (by omega)
      obtain ⟨k1, hk1⟩ : ∃ k1, k1 = k + 1 := ⟨_, rfl⟩
      have ek2 : F .ar .add .i64 k' 1 = (k1 : Int) := ek1.trans (by rw [hk1])
      have u2 : q[k1]? = some y := by rw [hk1]; exact u2
      have hyl : y.length = 26 := (hqev y (List.mem_of_getElem? u2)).len
      have hxl : x.length = 26 := hxe.len
      have hkq : k1 < q.length := (List.getElem?_eq_some_iff.1 u2).1
      refine ⟨hC _ _ _ (ben_ok (by kernel_rfl)), ?_⟩
      cbv
      refine ⟨k1, y, ek2, u2, ?_⟩
      cbv
      refine ⟨k, x, ek, u1, ?_⟩
      cbv
      refine ⟨k, x, ek, u1, ?_⟩
      cbv
      refine ⟨.mk hyl, ?_⟩
      cbv
      obtain ⟨q2, hq2⟩ : ∃ q2, F .set q k y = q2 := ⟨_, rfl⟩
      rw [hq2]
      have eq2 : q2 = q.set k y := by rw [← hq2, hF]; rfl
      obtain ⟨c2, hc2⟩ : ∃ c2, q2[k1]? = some c2 := ⟨_, List.getElem?_eq_getElem (by rw [eq2]; simpa using hkq)⟩
      refine ⟨k1, c2, ek2, hc2, ?_⟩
      cbv
      refine ⟨.mk hxl, ?_⟩
      cbv
      obtain ⟨q3, hq3⟩ : ∃ q3, F .set q2 k1 x = q3 := ⟨_, rfl⟩
      rw [hq3]
      have eq3 : q3 = (q.set k y).set (k + 1) x := by rw [← hq3, hF, eq2, hk1]; rfl
      obtain ⟨k2, hk2⟩ : ∃ k2, F .ar .add .i64 k' 1 = k2 := ⟨_, rfl⟩
      rw [hk2]
      exact ⟨(k1, k2, q3), ⟨hk2.symm.trans ek2, (show a ≤ k1 by omega), (show k1 ≤ i - 1 by omega), by rw [eq3, hk1]; exact u3⟩, (show i - k1 < i - k by omega), Le.trans le_fresh (le_of [] (by simp [St.fresh, freshObs, Ob.fresh, mapS, killR, relT, leSl, leOb, injK, memK, parK, noTup, lk, rn0, rnA, plain]))⟩
    · have hki : ¬ k < i - 1 := fun g => by have := tl2.2 g; rw [e] at this; simp at this
      have := hq.stop (by omega)
      exact hQ _ (by cbv; exact ⟨⟨this.trans hfin.symm, trivial⟩, trivial⟩)
set_option maxHeartbeats 2000000 in
theorem c14 {F : Sy} {C : Key → List AV → Res → Prop} {D : Code → (AE → St → Prop) → St → Prop} (hF : F = sy) (hC : ∀ k l r, CSem Try.prog k l r → C k l r) (hD : ∀ c Q s, awp F C D E79 c Q s → D c Q s) (rows : List (List AV)) (a m b : Nat) (a' m' b' : Int) (ea : a' = (a : Int)) (em : m' = (m : Int)) (eb : b' = (b : Int)) (A L R B : List (List AV)) (hrows : rows = A ++ (L ++ (R ++ B))) (hA : A.length = a) (hL : a + L.length = m) (hR : m + R.length = b) (h0 : 0 < L.length) (h1 : 0 < R.length) (hsL : Srt ltR L) (hsR : Srt ltR R) (hlen : rows.length ≤ 500000000) (hr : ∀ r ∈ rows, isEv r) (rows' : List (List AV)) (hrows' : rows' = A ++ (isort ltR (L ++ R) ++ B)) (hr1 : R.length = 1)
    (Q : AE → St → Prop) (hQ : ∀ s, retOKW Try.f79.results.toList [(0, .row 34 26 rows' 0 0)] (.pure []) s → Q .ret s) :
    awp F C D E79 (nav [1, 0, 1, 0, 1] body79) Q { slots := [(14, aI a'), (0, .own 0 0), (1, aI a'), (2, aI m'), (3, aI b'), (4, .clo 46 [])], obs := [(0, .row 34 26 rows 0 0)], ctr := 5, par := 5 } := by
  have hlr : rows.length = b + B.length := by rw [hrows]; simp; omega
  have es : ∀ k : Nat, k ≤ 1000000000 → ∀ l : Nat, l ≤ k → F .ar .sub .i64 (k : Int) (l : Int) = ((k - l : Nat) : Int) := fun k hk l hl => by rw [hF]; exact (wrap_in (by omega) (by omega)).trans (by omega)
  have ep : ∀ k : Nat, k ≤ 1000000000 → ∀ l : Nat, l ≤ 1000000000 → F .ar .add .i64 (k : Int) (l : Int) = ((k + l : Nat) : Int) := fun k hk l hl => by rw [hF]; exact (wrap_in (by omega) (by omega)).trans (by omega)
  have eh : ∀ (i j : Nat) (i' j' : Int), i' = (i : Int) → j' = (j : Int) → i ≤ 1000000000 → j ≤ 1000000000 → F .wrp .i64 (F .ar .shr .u64 (F .wrp .u64 (F .ar .add .i64 i' j')) 1) = (((i + j) / 2 : Nat) : Int) := fun i j i' j' hi hj h2 h3 => by rw [hi, hj, ep i h2 j h3, hF]; exact half_eq i j h2 h3
  have lt_iff : ∀ (i j : Nat) (i' j' : Int), i' = (i : Int) → j' = (j : Int) → (F .cmp .lss i' j' = true ↔ i < j) ∧ (F .cmp .gtr i' j' = true ↔ j < i) := fun i j i' j' hi hj => by rw [hF, hi, hj]; simp [sy]
  have cn : ∀ n : Int, F .cmp .lss n 0 = true ↔ n < 0 := fun n => by rw [hF]; simp [sy]
  obtain ⟨x, rfl⟩ := List.length_eq_one_iff.1 hr1
  obtain ⟨L1, L2, hLs, q1, q2⟩ := high_split L hsL x
  have hfin : rows' = (A ++ L1) ++ (x :: (L2 ++ B)) := by
    rw [hrows', hLs, ← merge_last swo_ltR x L1 L2 (hLs ▸ hsL) q1 q2]; simp
  have hbb : b = m + 1 := by simp at hR; omega
  have hmm : a + L1.length + L2.length = m := by rw [← hL, hLs]; simp; omega
  have hxe : isEv x := hr x (by rw [hrows]; simp)
  have hxm : rows[m]? = some x := by rw [hrows, List.getElem?_append_right (by omega), List.getElem?_append_right (by omega), show m - A.length - L.length = 0 by omega]; rfl
  have hat : ∀ k, a ≤ k → k < m → ∃ y, rows[k]? = some y ∧ isEv y ∧ (ltR x y = false ↔ k < a + L1.length) := by
    intro k hk1 hk2
    have e1 : rows[k]? = (L1 ++ L2)[k - a]? := by
      rw [hrows, List.getElem?_append_right (by omega), List.getElem?_append_left (by omega), hLs, hA]
    by_cases e : k - a < L1.length
    · have e2 : rows[k]? = some L1[k - a] := by rw [e1, List.getElem?_append_left e, List.getElem?_eq_getElem e]
      exact ⟨_, e2, hr _ (List.mem_of_getElem? e2), ⟨fun _ => by omega, fun _ => q1 _ (List.getElem_mem e)⟩⟩
    · have e3 : k - a - L1.length < L2.length := by omega
      have e2 : rows[k]? = some L2[k - a - L1.length] := by rw [e1, List.getElem?_append_right (by omega), List.getElem?_eq_getElem e3]
      exact ⟨_, e2, hr _ (List.mem_of_getElem? e2), ⟨fun h => by rw [q2 _ (List.getElem_mem e3)] at h; simp at h, fun h => by omega⟩⟩
  obtain ⟨s, hs⟩ : ∃ s, s = a + L1.length := ⟨_, rfl⟩
  rw [← hs] at hat
  cbv
  refine ⟨Nat × Nat × Int × Int, fun y => { slots := [(14, aI y.2.2.1), (15, aI y.2.2.2), (0, .own 0 0), (1, aI a'), (2, aI m'), (3, aI b'), (4, .clo 46 [])], obs := [(0, .row 34 26 rows 0 0)], ctr := 5, par := 5 }, fun y => y.2.2.1 = (y.1 : Int) ∧ y.2.2.2 = (y.2.1 : Int) ∧ a ≤ y.1 ∧ y.1 ≤ s ∧ s ≤ y.2.1 ∧ y.2.1 ≤ m, fun y => y.2.1 - y.1, ⟨(a, m, a', m'), ⟨ea, em, Nat.le_refl _, (show a ≤ s by omega), (show s ≤ m by omega), Nat.le_refl _⟩, le_of [] (by simp [leSl, leOb, injK, memK, parK, noTup, lk, rn0, rnA, plain, aI])⟩, fun y hy => ?_⟩
  obtain ⟨i, j, i', j'⟩ := y
  obtain ⟨ei, ej, g1, g2, g3, g4⟩ := hy
  simp only at ei ej g1 g2 g3 g4
  have tl := (lt_iff i j i' j' ei ej).1
  have thalf := eh i j i' j' ei ej (by omega) (by omega)
  have tp : ∀ (k : Nat) (k' : Int), k' = (k : Int) → k ≤ 500000000 → F .ar .add .i64 k' 1 = ((k + 1 : Nat) : Int) := fun k k' hk h => by rw [hk]; exact ep k (by omega) 1 (by omega)
  have ts : ∀ (k : Nat) (k' : Int), k' = (k : Int) → 1 ≤ k → k ≤ 500000000 → F .ar .sub .i64 k' 1 = ((k - 1 : Nat) : Int) := fun k k' hk h h2 => by rw [hk]; exact es k (by omega) 1 (by omega)
  cbv
  refine ⟨fun f => ?_, fun f => ?_⟩ <;> cbv
  · have hij := tl.1 f
    obtain ⟨k, hk⟩ : ∃ k, k = (i + j) / 2 := ⟨_, rfl⟩
    obtain ⟨k', hk'⟩ : ∃ k', F .wrp .i64 (F .ar .shr .u64 (F .wrp .u64 (F .ar .add .i64 i' j')) 1) = k' := ⟨_, rfl⟩
    have ek : k' = (k : Int) := hk'.symm.trans (thalf.trans (by rw [hk]))
    obtain ⟨y, hy, hye, hyx⟩ := hat k (by omega) (by omega)
    have ek1 := tp k k' ek (by omega)
    rw [hk']
    refine ⟨hC _ _ _ (ben_ok (by kernel_rfl)), ?_⟩
    cbv
    refine ⟨m, x, em, hxm, ?_⟩
    cbv
    refine ⟨k, y, ek, hy, ?_⟩
    cbv
    refine ⟨_, hC _ _ _ (orderR_ok x y hxe hye _ rfl), ?_⟩
    have hneg := orderR_neg x y
    generalize orderR x y = n at hneg
    have hn1 : F .bnot (F .cmp .lss n 0) = true → k < s := fun g => hyx.1 (by
      rw [Bool.eq_false_iff]
      intro g2
      have := (cn n).2 (hneg.2 g2)
      rw [this, hF] at g
      simp [sy] at g)
    have hn2 : F .bnot (F .cmp .lss n 0) = false → ¬ k < s := fun g g2 => by
      have h3 : F .cmp .lss n 0 = true := by rw [hF] at g ⊢; simpa [sy] using g
      have := hneg.1 ((cn n).1 h3)
      rw [hyx.2 g2] at this
      simp at this
    cbv
    refine ⟨fun e => ?_, fun e => ?_⟩ <;> cbv
    · obtain ⟨i2, hi2⟩ : ∃ i2, F .ar .add .i64 k' 1 = i2 := ⟨_, rfl⟩
      rw [hi2]
      exact ⟨(k + 1, j, i2, j'), ⟨hi2.symm.trans ek1, ej, (show a ≤ k + 1 by omega), (show k + 1 ≤ s from hn1 e), g3, g4⟩, (show j - (k + 1) < j - i by omega), le_of [] (by simp [leSl, leOb, injK, memK, parK, noTup, lk, rn0, rnA, plain])⟩
    · exact ⟨(i, k, i', k'), ⟨ei, ek, g1, g2, (show s ≤ k by have := hn2 e; omega), (show k ≤ m by omega)⟩, (show k - i < j - i by omega), le_of [] (by simp [leSl, leOb, injK, memK, parK, noTup, lk, rn0, rnA, plain])⟩
  · have hij : ¬ i < j := fun g => by have := tl.2 g; rw [f] at this; simp at this
    have his : i = s := by omega
    have hstart : BwdI (A ++ L1) L2 B x m rows := ⟨L2, [], by simp, by rw [hrows, hLs]; simp, by simp; omega⟩
    refine ⟨Nat × Int × List (List AV), fun y => { slots := [(17, aI y.2.1), (14, aI i'), (0, .own 0 0), (1, aI a'), (2, aI m'), (3, aI b'), (4, .clo 46 [])], obs := [(0, .row 34 26 y.2.2 0 0)], ctr := 5, par := 5 }, fun y => y.2.1 = (y.1 : Int) ∧ i ≤ y.1 ∧ y.1 ≤ m ∧ BwdI (A ++ L1) L2 B x y.1 y.2.2, fun y => y.1, ⟨(m, m', rows), ⟨em, (show i ≤ m by omega), Nat.le_refl _, hstart⟩, le_of [] (by simp [leSl, leOb, injK, memK, parK, noTup, lk, rn0, rnA, plain, aI])⟩, fun y hy => ?_⟩
    obtain ⟨k, k', q⟩ := y
    obtain ⟨ek, t1, t2, hq⟩ := hy
    simp only at ek t1 t2 hq
    have hqev : ∀ z, z ∈ q → isEv z := fun z hz => hr z (by
      have := hq.mem hz
      rw [hrows, hLs]
      simp only [List.mem_append, List.mem_cons] at this ⊢
      rcases this with (h | h) | h | h | h <;> simp [h])
    have hql : q.length = rows.length := by rw [hq.len, hrows, hLs]; simp; omega
    have tl2 := (lt_iff k i k' i' ek ei).2
    have hal : (A ++ L1).length = i := by simp; omega
    have ts1 := fun h => ts k k' ek h (by omega)
    cbv
    refine ⟨fun e => ?_, fun e => ?_⟩ <;> cbv
    · have hki := tl2.1 e
      obtain ⟨u1, y, u2, u3⟩ := hq.step (by omega)
      obtain ⟨k1, hk1⟩ : ∃ k1, k1 = k - 1 := ⟨_, rfl⟩
      have ek2 : F .ar .sub .i64 k' 1 = (k1 : Int) := (ts1 (by omega)).trans (by rw [hk1])
      have u2 : q[k1]? = some y := by rw [hk1]; exact u2
      have hyl : y.length = 26 := (hqev y (List.mem_of_getElem? u2)).len
      have hxl : x.length = 26 := hxe.len
      have hkq : k1 < q.length := (List.getElem?_eq_some_iff.1 u2).1
      refine ⟨hC _ _ _ (ben_ok (by kernel_rfl)), ?_⟩
      cbv
      refine ⟨k1, y, ek2, u2, ?_⟩
      cbv
      refine ⟨k, x, ek, u1, ?_⟩
      cbv
      refine ⟨k, x, ek, u1, ?_⟩
      cbv
      refine ⟨.mk hyl, ?_⟩
      cbv
      obtain ⟨q2, hq2⟩ : ∃ q2, F .set q k y = q2 := ⟨_, rfl⟩
      rw [hq2]
      have eq2 : q2 = q.set k y := by rw [← hq2, hF]; rfl
      obtain ⟨c2, hc2⟩ : ∃ c2, q2[k1]? = some c2 := ⟨_, List.getElem?_eq_getElem (by rw [eq2]; simpa using hkq)⟩
      refine ⟨k1, c2, ek2, hc2, ?_⟩
      cbv
      refine ⟨.mk hxl, ?_⟩
      cbv
      obtain ⟨q3, hq3⟩ : ∃ q3, F .set q2 k1 x = q3 := ⟨_, rfl⟩
      rw [hq3]
      have eq3 : q3 = (q.set k y).set (k - 1) x := by rw [← hq3, hF, eq2, hk1]; rfl
      obtain ⟨k2, hk2⟩ : ∃ k2, F .ar .sub .i64 k' 1 = k2 := ⟨_, rfl⟩
      rw [hk2]
      exact ⟨(k1, k2, q3), ⟨hk2.symm.trans ek2, (show i ≤ k1 by omega), (show k1 ≤ m by omega), by rw [eq3, hk1]; exact u3⟩, (show k1 < k by omega), Le.trans le_fresh (le_of [] (by simp [St.fresh, freshObs, Ob.fresh, mapS, killR, relT, leSl, leOb, injK, memK, parK, noTup, lk, rn0, rnA, plain]))⟩
    · have hki : ¬ i < k := fun g => by have := tl2.2 g; rw [e] at this; simp at this
      have := hq.stop (by omega)
      exact hQ _ (by cbv; exact ⟨⟨this.trans hfin.symm, trivial⟩, trivial⟩)
set_option maxHeartbeats 2000000 in
theorem t32 {F : Sy} {C : Key → List AV → Res → Prop} {D : Code → (AE → St → Prop) → St → Prop} (hF : F = sy) (hC : ∀ k l r, CSem Try.prog k l r → C k l r) (hD : ∀ c Q s, awp F C D E79 c Q s → D c Q s) (d : Nat) (ih : Mrg d) (rows : List (List AV)) (a m b : Nat) (a' m' b' : Int) (ea : a' = (a : Int)) (em : m' = (m : Int)) (eb : b' = (b : Int)) (A L R B : List (List AV)) (hrows : rows = A ++ (L ++ (R ++ B))) (hA : A.length = a) (hL : a + L.length = m) (hR : m + R.length = b) (h0 : 0 < L.length) (h1 : 0 < R.length) (hsL : Srt ltR L) (hsR : Srt ltR R) (hlen : rows.length ≤ 500000000) (hr : ∀ r ∈ rows, isEv r) (rows' : List (List AV)) (hrows' : rows' = A ++ (isort ltR (L ++ R) ++ B)) (hd : b - a ≤ d + 1)
    (mid n s0 r0 : Nat) (c' n' s0' r0' : Int) (hmid : mid = (a + b) / 2) (ec : c' = (mid : Int)) (hn : n = mid + m) (en : n' = (n : Int)) (es0 : s0' = (s0 : Int)) (er0 : r0' = (r0 : Int)) (k1 : a ≤ s0) (k2 : n ≤ b + s0) (k3 : s0 ≤ r0) (k4 : r0 ≤ m) (k5 : r0 ≤ mid) (k6 : r0 = m ∨ r0 = mid) (k7 : s0 = a ∨ n = b + s0) (hl2 : 2 ≤ L.length) (hr2 : 2 ≤ R.length) :
    awp F C D E79 (dropSeq 6 body79) (fun e st => match e with | .normal => retOKW Try.f79.results.toList [(0, .row 34 26 rows' 0 0)] (.pure []) st | .ret => retOKW Try.f79.results.toList [(0, .row 34 26 rows' 0 0)] (.pure []) st | .exit _ => False)
      { slots := [(20, aI s0'), (21, aI r0'), (19, aI n'), (18, aI c'), (0, .own 0 0), (1, aI a'), (2, aI m'), (3, aI b'), (4, .clo 46 [])], obs := [(0, .row 34 26 rows 0 0)], ctr := 5, par := 5 } := by
  have hlr : rows.length = b + B.length := by rw [hrows]; simp; omega
  have es : ∀ k : Nat, k ≤ 1000000000 → ∀ l : Nat, l ≤ k → F .ar .sub .i64 (k : Int) (l : Int) = ((k - l : Nat) : Int) := fun k hk l hl => by rw [hF]; exact (wrap_in (by omega) (by omega)).trans (by omega)
  have ep : ∀ k : Nat, k ≤ 1000000000 → ∀ l : Nat, l ≤ 1000000000 → F .ar .add .i64 (k : Int) (l : Int) = ((k + l : Nat) : Int) := fun k hk l hl => by rw [hF]; exact (wrap_in (by omega) (by omega)).trans (by omega)
  have eh : ∀ (i j : Nat) (i' j' : Int), i' = (i : Int) → j' = (j : Int) → i ≤ 1000000000 → j ≤ 1000000000 → F .wrp .i64 (F .ar .shr .u64 (F .wrp .u64 (F .ar .add .i64 i' j')) 1) = (((i + j) / 2 : Nat) : Int) := fun i j i' j' hi hj h2 h3 => by rw [hi, hj, ep i h2 j h3, hF]; exact half_eq i j h2 h3
  have lt_iff : ∀ (i j : Nat) (i' j' : Int), i' = (i : Int) → j' = (j : Int) → (F .cmp .lss i' j' = true ↔ i < j) ∧ (F .cmp .gtr i' j' = true ↔ j < i) := fun i j i' j' hi hj => by rw [hF, hi, hj]; simp [sy]
  have cn : ∀ n : Int, F .cmp .lss n 0 = true ↔ n < 0 := fun n => by rw [hF]; simp [sy]
  obtain ⟨p', hp'⟩ : ∃ p', F .ar .sub .i64 n' 1 = p' := ⟨_, rfl⟩
  have epp : p' = ((n - 1 : Nat) : Int) := by rw [← hp', en]; exact es n (by omega) 1 (by omega)
  have hLat : ∀ k, a ≤ k → k < m → rows[k]? = L[k - a]? := fun k h1 h2 => by
    rw [hrows, List.getElem?_append_right (by omega), List.getElem?_append_left (by omega), hA]
  have hRat : ∀ k, m ≤ k → k < b → rows[k]? = R[k - m]? := fun k h1 h2 => by
    rw [hrows, List.getElem?_append_right (by omega), List.getElem?_append_right (by omega), List.getElem?_append_left (by omega), hA]
    congr 1; omega
  have hget : ∀ k, k < b → ∃ y, rows[k]? = some y ∧ isEv y := fun k hk => by
    have : k < rows.length := by omega
    exact ⟨_, List.getElem?_eq_getElem this, hr _ (List.getElem_mem this)⟩
  obtain ⟨Pf, hPf⟩ : ∃ Pf : Nat → Bool, Pf = fun c => match rows[c]?, rows[n - 1 - c]? with | some x, some y => !ltR y x | _, _ => false := ⟨_, rfl⟩
  have hPat : ∀ c x y, rows[c]? = some x → rows[n - 1 - c]? = some y → (Pf c = true ↔ ltR y x = false) := fun c x y hx hy => by rw [hPf]; simp [hx, hy]
  have hmono : ∀ c c', a ≤ c' → c' < c → c < m → m ≤ n - 1 - c → n - 1 - c' < b → Pf c = true → Pf c' = true := by
    intro c d hd1 hd2 hc1 hc2 hc3 hP
    obtain ⟨x, hx, _⟩ := hget c (by omega)
    obtain ⟨y, hy, _⟩ := hget (n - 1 - c) (by omega)
    obtain ⟨x2, hx2, _⟩ := hget d (by omega)
    obtain ⟨y2, hy2, _⟩ := hget (n - 1 - d) (by omega)
    rw [hPat c x y hx hy] at hP
    rw [hPat d x2 y2 hx2 hy2]
    have l1 : ltR x x2 = false := srt_get hsL (by rw [← hLat d (by omega) (by omega)]; exact hx2) (by rw [← hLat c (by omega) (by omega)]; exact hx) (by omega)
    have l2 : ltR y2 y = false := srt_get hsR (by rw [← hRat (n - 1 - c) (by omega) (by omega)]; exact hy) (by rw [← hRat (n - 1 - d) (by omega) (by omega)]; exact hy2) (by omega)
    exact swo_ltR.le_trans (swo_ltR.le_trans l1 hP) l2
  obtain ⟨s, hs1, hs2, hs3⟩ := bsplit Pf s0 (r0 - s0) (fun c c' h1 h2 h3 h4 => hmono c c' (by omega) h2 (by omega) (by omega) (by omega) h4)
  cbv
  rw [hp']
  refine ⟨Nat × Nat × Int × Int, fun y => { slots := [(20, aI y.2.2.1), (21, aI y.2.2.2), (22, aI p'), (18, aI c'), (19, aI n'), (0, .own 0 0), (1, aI a'), (2, aI m'), (3, aI b'), (4, .clo 46 [])], obs := [(0, .row 34 26 rows 0 0)], ctr := 5, par := 5 }, fun y => y.2.2.1 = (y.1 : Int) ∧ y.2.2.2 = (y.2.1 : Int) ∧ s0 ≤ y.1 ∧ y.1 ≤ s ∧ s ≤ y.2.1 ∧ y.2.1 ≤ r0, fun y => y.2.1 - y.1, ⟨(s0, r0, s0', r0'), ⟨es0, er0, Nat.le_refl _, hs1, (show s ≤ r0 by omega), Nat.le_refl _⟩, le_of [] (by simp [leSl, leOb, injK, memK, parK, noTup, lk, rn0, rnA, plain, aI])⟩, fun y hy => ?_⟩
  obtain ⟨i, j, i', j'⟩ := y
  obtain ⟨ei, ej, g1, g2, g3, g4⟩ := hy
  simp only at ei ej g1 g2 g3 g4
  have tl := (lt_iff i j i' j' ei ej).1
  have thalf := eh i j i' j' ei ej (by omega) (by omega)
  have tp : ∀ (k : Nat) (k' : Int), k' = (k : Int) → k ≤ 500000000 → F .ar .add .i64 k' 1 = ((k + 1 : Nat) : Int) := fun k k' hk h => by rw [hk]; exact ep k (by omega) 1 (by omega)
  have tpc : ∀ (k : Nat) (k' : Int), k' = (k : Int) → k ≤ n - 1 → F .ar .sub .i64 p' k' = ((n - 1 - k : Nat) : Int) := fun k k' hk h => by rw [hk, epp]; exact es (n - 1) (by omega) k h
  have tend : i ≤ n → F .ar .sub .i64 n' i' = ((n - i : Nat) : Int) := fun h => by rw [ei, en]; exact es n (by omega) i h
  cbv
  refine ⟨fun f => ?_, fun f => ?_⟩ <;> cbv
  · have hij := tl.1 f
    obtain ⟨k, hk⟩ : ∃ k, k = (i + j) / 2 := ⟨_, rfl⟩
    obtain ⟨k', hk'⟩ : ∃ k', F .wrp .i64 (F .ar .shr .u64 (F .wrp .u64 (F .ar .add .i64 i' j')) 1) = k' := ⟨_, rfl⟩
    have ek : k' = (k : Int) := hk'.symm.trans (thalf.trans (by rw [hk]))
    obtain ⟨x, hx, hxe⟩ := hget k (by omega)
    obtain ⟨l, hl⟩ : ∃ l, l = n - 1 - k := ⟨_, rfl⟩
    obtain ⟨y, hy, hye⟩ := hget l (by omega)
    have ek1 := tp k k' ek (by omega)
    have el : F .ar .sub .i64 p' k' = (l : Int) := (tpc k k' ek (by omega)).trans (by rw [hl])
    have hP := hPat k x y hx (by rw [← hl]; exact hy)
    have hPs := hs3 k (by omega) (by omega)
    rw [hk']
    refine ⟨hC _ _ _ (ben_ok (by kernel_rfl)), ?_⟩
    cbv
    refine ⟨l, y, el, hy, ?_⟩
    cbv
    refine ⟨k, x, ek, hx, ?_⟩
    cbv
    refine ⟨_, hC _ _ _ (orderR_ok y x hye hxe _ rfl), ?_⟩
    have hneg := orderR_neg y x
    generalize orderR y x = q at hneg
    have hn1 : F .bnot (F .cmp .lss q 0) = true → k < s := fun g => hPs.1 (hP.2 (by
      rw [Bool.eq_false_iff]
      intro g2
      have := (cn q).2 (hneg.2 g2)
      rw [this, hF] at g
      simp [sy] at g))
    have hn2 : F .bnot (F .cmp .lss q 0) = false → ¬ k < s := fun g g2 => by
      have h3 : F .cmp .lss q 0 = true := by rw [hF] at g ⊢; simpa [sy] using g
      have := hneg.1 ((cn q).1 h3)
      rw [hP.1 (hPs.2 g2)] at this
      simp at this
    cbv
    refine ⟨fun e => ?_, fun e => ?_⟩ <;> cbv
    · obtain ⟨i2, hi2⟩ : ∃ i2, F .ar .add .i64 k' 1 = i2 := ⟨_, rfl⟩
      rw [hi2]
      exact ⟨(k + 1, j, i2, j'), ⟨hi2.symm.trans ek1, ej, (show s0 ≤ k + 1 by omega), (show k + 1 ≤ s from hn1 e), g3, g4⟩, (show j - (k + 1) < j - i by omega), le_of [] (by simp [leSl, leOb, injK, memK, parK, noTup, lk, rn0, rnA, plain])⟩
    · exact ⟨(i, k, i', k'), ⟨ei, ek, g1, g2, (show s ≤ k by have := hn2 e; omega), (show k ≤ r0 by omega)⟩, (show k - i < j - i by omega), le_of [] (by simp [leSl, leOb, injK, memK, parK, noTup, lk, rn0, rnA, plain])⟩
  · have hij : ¬ i < j := fun g => by have := tl.2 g; rw [f] at this; simp at this
    have his : i = s := by omega
    obtain ⟨e, he⟩ : ∃ e, e = n - i := ⟨_, rfl⟩
    obtain ⟨e', he'⟩ : ∃ e', F .ar .sub .i64 n' i' = e' := ⟨_, rfl⟩
    have ee : e' = (e : Int) := he'.symm.trans ((tend (by omega)).trans (by rw [he]))
    have hie : i + e = mid + m := by omega
    obtain ⟨cf1, cf2⟩ := cut_found swo_ltR hsL hsR (i - a) (e - m) (by omega) (by omega) (fun x y hx hj hy => by
      have hil : i - a < L.length := (List.getElem?_eq_some_iff.1 hx).1
      have hx2 : rows[i]? = some x := by rw [hLat i (by omega) (by omega)]; exact hx
      have hy2 : rows[n - 1 - i]? = some y := by rw [hRat _ (by omega) (by omega), show n - 1 - i - m = e - m - 1 by omega]; exact hy
      have h1 := hPat i x y hx2 hy2
      have h2 := hs3 i (by omega) (by omega)
      cases h3 : ltR y x
      · have := h2.1 (h1.2 h3); omega
      · rfl) (fun u v hi hu hv => by
      have hjl : e - m < R.length := (List.getElem?_eq_some_iff.1 hv).1
      have hu2 : rows[i - 1]? = some u := by rw [hLat _ (by omega) (by omega), show i - 1 - a = i - a - 1 by omega]; exact hu
      have hv2 : rows[n - 1 - (i - 1)]? = some v := by rw [hRat _ (by omega) (by omega), show n - 1 - (i - 1) - m = e - m by omega]; exact hv
      exact (hPat (i - 1) u v hu2 hv2).1 ((hs3 (i - 1) (by omega) (by omega)).2 (by omega)))
    obtain ⟨L1, hL1⟩ : ∃ L1, L1 = L.take (i - a) := ⟨_, rfl⟩
    obtain ⟨L2, hL2⟩ : ∃ L2, L2 = L.drop (i - a) := ⟨_, rfl⟩
    obtain ⟨R1, hR1⟩ : ∃ R1, R1 = R.take (e - m) := ⟨_, rfl⟩
    obtain ⟨R2, hR2⟩ : ∃ R2, R2 = R.drop (e - m) := ⟨_, rfl⟩
    have hLs : L = L1 ++ L2 := by rw [hL1, hL2, List.take_append_drop]
    have hRs : R = R1 ++ R2 := by rw [hR1, hR2, List.take_append_drop]
    have lL1 : a + L1.length = i := by rw [hL1]; simp; omega
    have lL2 : i + L2.length = m := by rw [hL2]; simp; omega
    have lR1 : m + R1.length = e := by rw [hR1]; simp; omega
    have lR2 : e + R2.length = b := by rw [hR2]; simp; omega
    have sL := hLs ▸ hsL
    have sR := hRs ▸ hsR
    obtain ⟨sL1, sL2, _⟩ := List.pairwise_append.1 sL
    obtain ⟨sR1, sR2, _⟩ := List.pairwise_append.1 sR
    have hmc := merge_cut swo_ltR L1 L2 R1 R2 sL sR (by rw [hL2, hR1]; exact cf1) (by rw [hL1, hR2]; exact cf2)
    have hfin : rows' = (A ++ isort ltR (L1 ++ R1)) ++ (isort ltR (L2 ++ R2) ++ B) := by
      rw [hrows', hLs, hRs, ← hmc]; simp
    have hA1 : (A ++ L1).length = i := by simp; omega
    have hrows0 : rows = A ++ (L1 ++ (L2 ++ (R1 ++ (R2 ++ B)))) := by rw [hrows, hLs, hRs]; simp
    exact ⟨_, le_of [] (by simp [leSl, leOb, injK, memK, parK, noTup, lk, rn0, rnA, plain, aI]), hD _ _ _ (t38 hF hC hD d ih rows rows' a i m mid n e b a' i' m' c' n' b' ea ei em ec en eb hn (by omega) A L1 R1 L2 R2 B hrows0 hA lL1 lL2 lR1 lR2 sL1 sR1 sL2 sR2 (by omega) (by omega) hlen hr hfin)⟩
set_option maxHeartbeats 2000000 in
theorem symMerge_ok : ∀ (d : Nat), Mrg d := by
  intro d
  induction d with
  | zero => intro rows a m b; intros; omega
  | succ d ih =>
  intro rows a m b a' m' b' ea em eb A L R B hrows hA hL hR h0 h1 hsL hsR hd hlen hr rows' hrows'
  have hlr : rows.length = b + B.length := by rw [hrows]; simp; omega
  refine of_textW gam_ok mixed E79 Try.func79 (by kernel_rfl) rfl rfl (by simp) (by decide) rfl fun F C D hF hC hD => ?_
  have es : ∀ k : Nat, k ≤ 1000000000 → ∀ l : Nat, l ≤ k → F .ar .sub .i64 (k : Int) (l : Int) = ((k - l : Nat) : Int) := fun k hk l hl => by rw [hF]; exact (wrap_in (by omega) (by omega)).trans (by omega)
  have ep : ∀ k : Nat, k ≤ 1000000000 → ∀ l : Nat, l ≤ 1000000000 → F .ar .add .i64 (k : Int) (l : Int) = ((k + l : Nat) : Int) := fun k hk l hl => by rw [hF]; exact (wrap_in (by omega) (by omega)).trans (by omega)
  have eh : ∀ (i j : Nat) (i' j' : Int), i' = (i : Int) → j' = (j : Int) → i ≤ 1000000000 → j ≤ 1000000000 → F .wrp .i64 (F .ar .shr .u64 (F .wrp .u64 (F .ar .add .i64 i' j')) 1) = (((i + j) / 2 : Nat) : Int) := fun i j i' j' hi hj h2 h3 => by rw [hi, hj, ep i h2 j h3, hF]; exact half_eq i j h2 h3
  have lt_iff : ∀ (i j : Nat) (i' j' : Int), i' = (i : Int) → j' = (j : Int) → (F .cmp .lss i' j' = true ↔ i < j) ∧ (F .cmp .gtr i' j' = true ↔ j < i) := fun i j i' j' hi hj => by rw [hF, hi, hj]; simp [sy]
  have cn : ∀ n : Int, F .cmp .lss n 0 = true ↔ n < 0 := fun n => by rw [hF]; simp [sy]
  have c1 : F .cmp .eql (F .ar .sub .i64 m' a') 1 = true → L.length = 1 := fun g => by
    rw [ea, em, es m (by omega) a (by omega), hF] at g
    simp [sy] at g
    omega
  have c1n : F .cmp .eql (F .ar .sub .i64 m' a') 1 = false → 2 ≤ L.length := fun g => by
    rw [ea, em, es m (by omega) a (by omega), hF] at g
    simp [sy] at g
    omega
  have c2' : F .cmp .eql (F .ar .sub .i64 b' m') 1 = true → R.length = 1 := fun g => by
    rw [eb, em, es b (by omega) m (by omega), hF] at g
    simp [sy] at g
    omega
  have c2n : F .cmp .eql (F .ar .sub .i64 b' m') 1 = false → 2 ≤ R.length := fun g => by
    rw [eb, em, es b (by omega) m (by omega), hF] at g
    simp [sy] at g
    omega
  obtain ⟨mid, hmid⟩ : ∃ mid, mid = (a + b) / 2 := ⟨_, rfl⟩
  obtain ⟨c', hc'⟩ : ∃ c', F .wrp .i64 (F .ar .shr .u64 (F .wrp .u64 (F .ar .add .i64 a' b')) 1) = c' := ⟨_, rfl⟩
  have ec : c' = (mid : Int) := hc'.symm.trans ((eh a b a' b' ea eb (by omega) (by omega)).trans (by rw [hmid]))
  obtain ⟨n, hn⟩ : ∃ n, n = mid + m := ⟨_, rfl⟩
  obtain ⟨n', hn'⟩ : ∃ n', F .ar .add .i64 c' m' = n' := ⟨_, rfl⟩
  have en : n' = (n : Int) := by rw [← hn', ec, em, ep mid (by omega) m (by omega), hn]
  obtain ⟨b0', hb0'⟩ : ∃ b0', F .ar .sub .i64 n' b' = b0' := ⟨_, rfl⟩
  have tgm := (lt_iff m mid m' c' em ec).2
  have efb : b ≤ n → b0' = ((n - b : Nat) : Int) := fun h => by rw [← hb0', en, eb]; exact es n (by omega) b h
  cbv
  refine ⟨fun h => ?_, fun h => ?_⟩ <;> cbv
  · exact ⟨_, le_of [] (by simp [leSl, leOb, injK, memK, parK, noTup, lk, rn0, rnA, plain, aI]), hD _ _ _ (c2 hF hC hD rows a m b a' m' b' ea em eb A L R B hrows hA hL hR h0 h1 hsL hsR hlen hr rows' hrows' (c1 h) _ (fun s h => h))⟩
  have hl2 := c1n h
  refine ⟨fun h' => ?_, fun h' => ?_⟩ <;> cbv
  · exact ⟨_, le_of [] (by simp [leSl, leOb, injK, memK, parK, noTup, lk, rn0, rnA, plain, aI]), hD _ _ _ (c14 hF hC hD rows a m b a' m' b' ea em eb A L R B hrows hA hL hR h0 h1 hsL hsR hlen hr rows' hrows' (c2' h') _ (fun s h => h))⟩
  have hr2 := c2n h'
  rw [hc', hn']
  refine ⟨fun e0 => ?_, fun e0 => ?_⟩ <;> cbv
  · have hmm := tgm.1 e0
    rw [hb0']
    exact ⟨_, le_of [] (by simp [leSl, leOb, injK, memK, parK, noTup, lk, rn0, rnA, plain, aI]), hD _ _ _ (t32 hF hC hD d ih rows a m b a' m' b' ea em eb A L R B hrows hA hL hR h0 h1 hsL hsR hlen hr rows' hrows' hd mid n (n - b) mid c' n' b0' c' hmid ec hn en (efb (by omega)) ec (by omega) (by omega) (by omega) (by omega) (by omega) (by omega) (by omega) hl2 hr2)⟩
  · have hmm : ¬ mid < m := fun g => by have := tgm.2 g; rw [e0] at this; simp at this
    exact ⟨_, le_of [] (by simp [leSl, leOb, injK, memK, parK, noTup, lk, rn0, rnA, plain, aI]), hD _ _ _ (t32 hF hC hD d ih rows a m b a' m' b' ea em eb A L R B hrows hA hL hR h0 h1 hsL hsR hlen hr rows' hrows' hd mid n a m c' n' a' m' hmid ec hn en ea em (by omega) (by omega) (by omega) (by omega) (by omega) (by omega) (by omega) hl2 hr2)⟩
end Go.Proofs.Ytljpmnifkccbdaa
