import Derived.Test.YtljpmnifkccbdaaB2
set_option linter.unusedSimpArgs false
set_option linter.unusedVariables false
namespace Go.Proofs.Ytljpmnifkccbdaa
open Go Go.RowKit Am

def swap1 (r : List (List AV)) (i j : Nat) : List (List AV) := match r[i]?, r[j]? with
  | some x, some y => (r.set i y).set j x
  | _, _ => r
def swapF (r : List (List AV)) (a b : Nat) : Nat → List (List AV)
  | 0 => r
  | n + 1 => swap1 (swapF r a b n) (a + n) (b + n)
theorem swap1_len (r : List (List AV)) (i j : Nat) : (swap1 r i j).length = r.length := by
  unfold swap1; split <;> simp
theorem swapF_len (r : List (List AV)) (a b n : Nat) : (swapF r a b n).length = r.length := by
  induction n with
  | zero => rfl
  | succ n ih => simp [swapF, swap1_len, ih]
theorem swap1_mem (r : List (List AV)) (i j : Nat) {x : List AV} (h : x ∈ swap1 r i j) : x ∈ r := by
  unfold swap1 at h
  split at h
  · rename_i a b ha hb
    rcases List.mem_or_eq_of_mem_set h with h | h
    · rcases List.mem_or_eq_of_mem_set h with h | h
      · exact h
      · subst h; exact List.mem_of_getElem? hb
    · subst h; exact List.mem_of_getElem? ha
  · exact h
theorem swapF_mem (r : List (List AV)) (a b n : Nat) {x : List AV} (h : x ∈ swapF r a b n) : x ∈ r := by
  induction n with
  | zero => exact h
  | succ n ih => exact ih (swap1_mem _ _ _ h)
theorem swapRange_ok (rows : List (List AV)) (a b n : Nat) (a' b' n' : Int) (ea : a' = (a : Int)) (eb : b' = (b : Int)) (en : n' = (n : Int)) (ha : a + n ≤ rows.length) (hb : b + n ≤ rows.length) (hlen : rows.length ≤ 1000000000) (hr : ∀ r ∈ rows, r.length = 26) (rows' : List (List AV)) (hrows' : rows' = swapF rows a b n) :
    CSem Try.prog (.wr 110 [(0, .row 34 26 rows 0 0)] [(0, .row 34 26 rows' 0 0)]) [.own 0 0, aI a', aI b', aI n', .clo 46 []] (.pure []) := by
  refine of_textW gam_ok mixed { n := 38 } Try.func110 (by kernel_rfl) rfl rfl (by simp) (by decide) rfl fun F C D hF hC hD => ?_
  cbv
  refine ⟨Nat × Int × List (List AV), fun x => { slots := [(10, aI x.2.1), (0, .own 0 0), (1, aI a'), (2, aI b'), (3, aI n'), (4, .clo 46 [])], obs := [(0, .row 34 26 x.2.2 0 0)], ctr := 5, par := 5 }, fun x => x.2.1 = (x.1 : Int) ∧ x.1 ≤ n ∧ x.2.2 = swapF rows a b x.1, fun x => n - x.1, ⟨(0, 0, rows), ⟨rfl, Nat.zero_le _, rfl⟩, le_of [] (by simp [leSl, leOb, injK, memK, parK, noTup, lk, rn0, rnA, plain, aI])⟩, fun x hx => ?_⟩
  obtain ⟨i, i', r⟩ := x
  obtain ⟨hi0, hin, hri⟩ := hx
  simp only at hi0 hin hri
  have hrl : r.length = rows.length := by rw [hri, swapF_len]
  cbv
  refine ⟨fun h => ?_, fun h => ?_⟩ <;> cbv
  · refine ⟨hC _ _ _ (ben_ok (by kernel_rfl)), ?_⟩
    have ea : a' = (a : Int) := ea
    have eb : b' = (b : Int) := eb
    have en : n' = (n : Int) := en
    have hi0 : i' = (i : Int) := hi0
    have hin' : i < n := by rw [hF] at h; simp [sy] at h; omega
    obtain ⟨kb, hkb⟩ : ∃ kb, kb = b + i := ⟨_, rfl⟩
    obtain ⟨ka, hka⟩ : ∃ ka, ka = a + i := ⟨_, rfl⟩
    have eb2 : F .ar .add .i64 b' i' = (kb : Int) := by rw [hF]; exact (wrap_in (by omega) (by omega)).trans (by omega)
    have ea2 : F .ar .add .i64 a' i' = (ka : Int) := by rw [hF]; exact (wrap_in (by omega) (by omega)).trans (by omega)
    have ei : F .ar .add .i64 i' 1 = ((i + 1 : Nat) : Int) := by rw [hF]; exact (wrap_in (by omega) (by omega)).trans (by omega)
    have hlb : kb < r.length := by omega
    have hla : ka < r.length := by omega
    obtain ⟨cb, hcb⟩ : ∃ cb, r[kb]? = some cb := ⟨_, List.getElem?_eq_getElem hlb⟩
    obtain ⟨ca, hca⟩ : ∃ ca, r[ka]? = some ca := ⟨_, List.getElem?_eq_getElem hla⟩
    have hlca : ca.length = 26 := hr _ (swapF_mem _ _ _ _ (hri ▸ List.mem_of_getElem? hca))
    have hlcb : cb.length = 26 := hr _ (swapF_mem _ _ _ _ (hri ▸ List.mem_of_getElem? hcb))
    cbv
    refine ⟨kb, cb, eb2, hcb, ?_⟩
    cbv
    refine ⟨ka, ca, ea2, hca, ?_⟩
    cbv
    refine ⟨ka, ca, ea2, hca, ?_⟩
    cbv
    refine ⟨.mk hlcb, ?_⟩
    cbv
    obtain ⟨r2, hr2⟩ : ∃ r2, F .set r ka cb = r2 := ⟨_, rfl⟩
    rw [hr2]
    have er2 : r2 = r.set ka cb := by rw [← hr2, hF]; rfl
    obtain ⟨c2, hc2⟩ : ∃ c2, r2[kb]? = some c2 := ⟨_, List.getElem?_eq_getElem (by rw [er2]; simpa using hlb)⟩
    refine ⟨kb, c2, eb2, hc2, ?_⟩
    cbv
    refine ⟨.mk hlca, ?_⟩
    cbv
    obtain ⟨r3, hr3⟩ : ∃ r3, F .set r2 kb ca = r3 := ⟨_, rfl⟩
    rw [hr3]
    have er3 : r3 = r2.set kb ca := by rw [← hr3, hF]; rfl
    have e3 : r3 = swapF rows a b (i + 1) := by
      rw [swapF, ← hri, ← hka, ← hkb, er3, er2]
      simp [swap1, hca, hcb]
    obtain ⟨j, hj⟩ : ∃ j, F .ar .add .i64 i' 1 = j := ⟨_, rfl⟩
    rw [hj]
    exact ⟨(i + 1, j, r3), ⟨by rw [← hj]; exact ei, by omega, e3⟩, by simp; omega, Le.trans le_fresh (le_of [] (by simp [St.fresh, freshObs, Ob.fresh, mapS, killR, relT, leSl, leOb, injK, memK, parK, noTup, lk, rn0, rnA, plain]))⟩
  · have en : n' = (n : Int) := en
    have hi0 : i' = (i : Int) := hi0
    rw [hF] at h
    simp [sy] at h
    have : i = n := by omega
    subst this
    exact ⟨⟨hri.trans hrows'.symm, trivial⟩, trivial⟩
end Go.Proofs.Ytljpmnifkccbdaa
set_option linter.unusedSimpArgs false
set_option linter.unusedVariables false
namespace Go.Proofs.Ytljpmnifkccbdaa
open Go Go.RowKit Am

theorem swapF_get (r : List (List AV)) (a b : Nat) : ∀ (n : Nat), a + n ≤ b → b + n ≤ r.length → ∀ k, (swapF r a b n)[k]? = if a ≤ k ∧ k < a + n then r[k - a + b]? else if b ≤ k ∧ k < b + n then r[k - b + a]? else r[k]? := by
  intro n
  induction n with
  | zero => intro _ _ k; simp only [swapF]; rw [if_neg (by omega), if_neg (by omega)]
  | succ n ih =>
    intro h1 h2 k
    have ih := ih (by omega) (by omega)
    have e1 : (swapF r a b n)[a + n]? = r[a + n]? := by rw [ih, if_neg (by omega), if_neg (by omega)]
    have e2 : (swapF r a b n)[b + n]? = r[b + n]? := by rw [ih, if_neg (by omega), if_neg (by omega)]
    have ha : a + n < r.length := by omega
    have hb : b + n < r.length := by omega
    have hl := swapF_len r a b n
    rw [List.getElem?_eq_getElem ha] at e1
    rw [List.getElem?_eq_getElem hb] at e2
    simp only [swapF, swap1, e1, e2, List.getElem?_set, List.length_set, hl]
    by_cases hk : b + n = k
    · subst hk
      rw [if_pos rfl, if_pos hb, if_neg (by omega), if_pos (by omega), show b + n - b + a = a + n by omega, List.getElem?_eq_getElem ha]
    · rw [if_neg hk]
      by_cases hk2 : a + n = k
      · subst hk2
        rw [if_pos rfl, if_pos ha, if_pos (by omega), show a + n - a + b = b + n by omega, List.getElem?_eq_getElem hb]
      · rw [if_neg hk2]
        have i := ih k
        by_cases c1 : a ≤ k ∧ k < a + n
        · rw [if_pos c1] at i
          rw [i, if_pos (by omega)]
        · rw [if_neg c1] at i
          by_cases c2 : b ≤ k ∧ k < b + n
          · rw [if_pos c2] at i
            rw [i, if_neg (by omega), if_pos (by omega)]
          · rw [if_neg c2] at i
            rw [i, if_neg (by omega), if_neg (by omega)]
theorem swapF_mid (P X M Y Q : List (List AV)) (a b n : Nat) (ha : a = P.length) (hx : X.length = n) (hy : Y.length = n) (hb : b = P.length + n + M.length) : swapF (P ++ (X ++ (M ++ (Y ++ Q)))) a b n = P ++ (Y ++ (M ++ (X ++ Q))) := by
  subst ha hb
  apply List.ext_getElem?
  intro k
  rw [swapF_get _ _ _ _ (by omega) (by simp; omega)]
  simp only [List.getElem?_append]
  (repeat' split) <;> first | rfl | (exfalso; omega) | (congr 1; omega)
end Go.Proofs.Ytljpmnifkccbdaa
set_option linter.unusedSimpArgs false
set_option linter.unusedVariables false
namespace Go.Proofs.Ytljpmnifkccbdaa
open Go Go.RowKit Am

/-- How a rotation goes on. -/
def RotI (goal : List (List AV)) (m : Nat) (i j : Nat) (r : List (List AV)) : Prop :=
  ∃ P X Y Q : List (List AV), r = P ++ (X ++ (Y ++ Q)) ∧ goal = P ++ (Y ++ (X ++ Q)) ∧ P.length + i = m ∧ X.length = i ∧ Y.length = j ∧ 0 < i ∧ 0 < j
theorem rot_gt {goal r : List (List AV)} {m i j : Nat} (h : RotI goal m i j r) (hij : j < i) : RotI goal m (i - j) j (swapF r (m - i) m j) ∧ m + j ≤ r.length ∧ i ≤ m := by
  obtain ⟨P, X, Y, Q, rfl, hg, h1, h2, h3, h4, h5⟩ := h
  have hx : X = X.take j ++ X.drop j := (List.take_append_drop j X).symm
  have e : P ++ (X ++ (Y ++ Q)) = P ++ (X.take j ++ (X.drop j ++ (Y ++ Q))) := by rw [← List.append_assoc (X.take j), ← hx]
  have hl : (X.take j).length = j := by simp; omega
  refine ⟨⟨P ++ Y, X.drop j, X.take j, Q, ?_, ?_, by simp; omega, by simp; omega, hl, by omega, h5⟩, by simp; omega, by omega⟩
  · rw [e, swapF_mid P (X.take j) (X.drop j) Y Q (m - i) m j (by omega) hl h3 (by simp; omega)]
    simp
  · rw [hg]
    simp only [List.append_assoc]
    rw [← List.append_assoc (X.take j), List.take_append_drop]
theorem rot_lt {goal r : List (List AV)} {m i j : Nat} (h : RotI goal m i j r) (hij : i < j) : RotI goal m i (j - i) (swapF r (m - i) (m + j - i) i) ∧ m + j ≤ r.length ∧ i ≤ m := by
  obtain ⟨P, X, Y, Q, rfl, hg, h1, h2, h3, h4, h5⟩ := h
  have hy : Y = Y.take (j - i) ++ Y.drop (j - i) := (List.take_append_drop _ Y).symm
  have e : P ++ (X ++ (Y ++ Q)) = P ++ (X ++ (Y.take (j - i) ++ (Y.drop (j - i) ++ Q))) := by rw [← List.append_assoc (Y.take (j - i)), ← hy]
  have hl : (Y.drop (j - i)).length = i := by simp; omega
  refine ⟨⟨P, Y.drop (j - i), Y.take (j - i), X ++ Q, ?_, ?_, h1, hl, by simp; omega, h4, by omega⟩, by simp; omega, by omega⟩
  · rw [e, swapF_mid P X (Y.take (j - i)) (Y.drop (j - i)) Q (m - i) (m + j - i) i (by omega) h2 hl (by simp; omega)]
  · rw [hg]
    rw [← List.append_assoc (Y.take (j - i)), List.take_append_drop]
theorem rot_eq {goal r : List (List AV)} {m i : Nat} (h : RotI goal m i i r) : swapF r (m - i) m i = goal ∧ m + i ≤ r.length ∧ i ≤ m := by
  obtain ⟨P, X, Y, Q, rfl, hg, h1, h2, h3, h4, h5⟩ := h
  refine ⟨?_, by simp; omega, by omega⟩
  have := swapF_mid P X [] Y Q (m - i) m i (by omega) h2 h3 (by simp; omega)
  simp only [List.nil_append] at this
  rw [this, hg]
theorem rotate_ok (rows : List (List AV)) (a m b : Nat) (a' m' b' : Int) (ea : a' = (a : Int)) (em : m' = (m : Int)) (eb : b' = (b : Int)) (A U V B : List (List AV)) (hrows : rows = A ++ (U ++ (V ++ B))) (hA : A.length = a) (hU : a + U.length = m) (hV : m + V.length = b) (h0 : 0 < U.length) (h1 : 0 < V.length) (hlen : rows.length ≤ 1000000000) (hr : ∀ r ∈ rows, r.length = 26) (rows' : List (List AV)) (hrows' : rows' = A ++ (V ++ (U ++ B))) :
    CSem Try.prog (.wr 100 [(0, .row 34 26 rows 0 0)] [(0, .row 34 26 rows' 0 0)]) [.own 0 0, aI a', aI m', aI b', .clo 46 []] (.pure []) := by
  have hlens : rows.length = b + B.length := by rw [hrows]; simp; omega
  have hrot : RotI rows' m (m - a) (b - m) rows := ⟨A, U, V, B, hrows, hrows', by omega, by omega, by omega, by omega, by omega⟩
  have hmem' : ∀ i j r, RotI rows' m i j r → r.length = rows.length ∧ ∀ q ∈ r, q.length = 26 := by
    rintro i j r ⟨P, X, Y, Q, rfl, hg, _⟩
    have hp : (P ++ (X ++ (Y ++ Q))).Perm rows := by
      have h2 : rows'.Perm rows := by rw [hrows', hrows]; exact List.Perm.append_left _ (by rw [← List.append_assoc, ← List.append_assoc]; exact List.Perm.append_right _ List.perm_append_comm)
      refine List.Perm.trans ?_ h2
      rw [hg]
      exact List.Perm.append_left _ (by rw [← List.append_assoc, ← List.append_assoc]; exact List.Perm.append_right _ List.perm_append_comm)
    exact ⟨hp.length_eq, fun q hq => hr q (hp.mem_iff.1 hq)⟩
  refine of_textW gam_ok mixed { n := 58, wrs := [110] } Try.func100 (by kernel_rfl) rfl rfl (by simp) (by decide) rfl fun F C D hF hC hD => ?_
  have e1 : F .ar .sub .i64 m' a' = ((m - a : Nat) : Int) := by rw [hF]; exact (wrap_in (by omega) (by omega)).trans (by omega)
  have e2 : F .ar .sub .i64 b' m' = ((b - m : Nat) : Int) := by rw [hF]; exact (wrap_in (by omega) (by omega)).trans (by omega)
  obtain ⟨i0, hi0⟩ : ∃ i0, F .ar .sub .i64 m' a' = i0 := ⟨_, rfl⟩
  obtain ⟨j0, hj0⟩ : ∃ j0, F .ar .sub .i64 b' m' = j0 := ⟨_, rfl⟩
  rw [hi0] at e1
  rw [hj0] at e2
  cbv
  rw [hi0, hj0]
  refine ⟨Nat × Nat × Int × Int × List (List AV), fun x => { slots := [(10, aI x.2.2.1), (11, aI x.2.2.2.1), (0, .own 0 0), (2, aI m'), (4, .clo 46 [])], obs := [(0, .row 34 26 x.2.2.2.2 0 0)], ctr := 5, par := 5 }, fun x => x.2.2.1 = (x.1 : Int) ∧ x.2.2.2.1 = (x.2.1 : Int) ∧ RotI rows' m x.1 x.2.1 x.2.2.2.2, fun x => x.1 + x.2.1, ⟨(m - a, b - m, i0, j0, rows), ⟨e1, e2, hrot⟩, le_of [] (by simp [leSl, leOb, injK, memK, parK, noTup, lk, rn0, rnA, plain, aI])⟩, fun x hx => ?_⟩
  obtain ⟨i, j, i', j', r⟩ := x
  obtain ⟨ei, ej, hri⟩ := hx
  simp only at ei ej hri
  obtain ⟨hrl, hrm⟩ := hmem' _ _ _ hri
  have em : m' = (m : Int) := em
  have es : ∀ k : Nat, k ≤ 1000000000 → ∀ l : Nat, l ≤ k → F .ar .sub .i64 (k : Int) (l : Int) = ((k - l : Nat) : Int) := fun k hk l hl => by rw [hF]; exact (wrap_in (by omega) (by omega)).trans (by omega)
  have ep : ∀ k : Nat, k ≤ 1000000000 → ∀ l : Nat, l ≤ 1000000000 → F .ar .add .i64 (k : Int) (l : Int) = ((k + l : Nat) : Int) := fun k hk l hl => by rw [hF]; exact (wrap_in (by omega) (by omega)).trans (by omega)
  have hb : m ≤ 1000000000 := by have := hlens; omega
  have hpos : 0 < i ∧ 0 < j := by obtain ⟨_, _, _, _, _, _, _, _, _, p1, p2⟩ := hri; exact ⟨p1, p2⟩
  have hgt : F .cmp .gtr i' j' = true → j < i := fun g => by rw [hF] at g; simp [sy] at g; omega
  have hle : F .cmp .gtr i' j' = false → ¬ j < i := fun g => by rw [hF] at g; simp [sy] at g; omega
  have hne : F .cmp .neq i' j' = true → i ≠ j := fun g => by rw [hF] at g; simp [sy] at g; omega
  have heq : F .cmp .neq i' j' = false → i = j := fun g => by rw [hF] at g; simp [sy] at g; omega
  have f1 : i ≤ m → F .ar .sub .i64 m' i' = ((m - i : Nat) : Int) := fun h => by rw [em, ei]; exact es _ hb _ h
  have f2 : j < i → i ≤ m → F .ar .sub .i64 i' j' = ((i - j : Nat) : Int) := fun h h2 => by rw [ei, ej]; exact es _ (by omega) _ (by omega)
  have f3 : i < j → j ≤ rows.length → F .ar .sub .i64 j' i' = ((j - i : Nat) : Int) := fun h h2 => by rw [ei, ej]; exact es _ (by omega) _ (by omega)
  have f4 : i < j → m + j ≤ rows.length → F .ar .sub .i64 (F .ar .add .i64 m' j') i' = ((m + j - i : Nat) : Int) := fun h h2 => by rw [em, ei, ej, ep _ hb _ (by omega)]; exact es _ (by omega) _ (by omega)
  cbv
  refine ⟨fun h => ?_, fun h => ?_⟩ <;> cbv
  · refine ⟨fun g => ?_, fun g => ?_⟩ <;> cbv
    · have hij := hgt g
      obtain ⟨q1, q2, q3⟩ := rot_gt hri hij
      obtain ⟨r2, hr2⟩ : ∃ r2, swapF r (m - i) m j = r2 := ⟨_, rfl⟩
      rw [hr2] at q1
      refine ⟨_, _, hC _ _ _ (swapRange_ok r (m - i) m j _ _ _ (f1 q3) em ej (by omega) (by omega) (by omega) hrm r2 hr2.symm), ?_⟩
      cbv
      obtain ⟨i2, hi2⟩ : ∃ i2, F .ar .sub .i64 i' j' = i2 := ⟨_, rfl⟩
      rw [hi2]
      exact ⟨(i - j, j, i2, j', r2), ⟨hi2.symm.trans (f2 hij q3), ej, q1⟩, (by simp; omega), Le.trans le_fresh (le_of [] (by simp [St.fresh, freshObs, Ob.fresh, mapS, killR, relT, leSl, leOb, injK, memK, parK, noTup, lk, rn0, rnA, plain]))⟩
    · have hij : i < j := by have h1 := hle g; have h2 := hne h; omega
      obtain ⟨q1, q2, q3⟩ := rot_lt hri hij
      obtain ⟨r2, hr2⟩ : ∃ r2, swapF r (m - i) (m + j - i) i = r2 := ⟨_, rfl⟩
      rw [hr2] at q1
      refine ⟨_, _, hC _ _ _ (swapRange_ok r (m - i) (m + j - i) i _ _ _ (f1 q3) (f4 hij (by omega)) ei (by omega) (by omega) (by omega) hrm r2 hr2.symm), ?_⟩
      cbv
      obtain ⟨j2, hj2⟩ : ∃ j2, F .ar .sub .i64 j' i' = j2 := ⟨_, rfl⟩
      rw [hj2]
      exact ⟨(i, j - i, i', j2, r2), ⟨ei, hj2.symm.trans (f3 hij (by omega)), q1⟩, (by simp; omega), Le.trans le_fresh (le_of [] (by simp [St.fresh, freshObs, Ob.fresh, mapS, killR, relT, leSl, leOb, injK, memK, parK, noTup, lk, rn0, rnA, plain]))⟩
  · have hij := heq h
    subst hij
    obtain ⟨q1, q2, q3⟩ := rot_eq hri
    refine ⟨_, _, hC _ _ _ (swapRange_ok r (m - i) m i _ _ _ (f1 q3) em ei (by omega) (by omega) (by omega) hrm rows' q1.symm), ?_⟩
    cbv
end Go.Proofs.Ytljpmnifkccbdaa
