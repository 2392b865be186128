import Derived.Test.YtljpmnifkccbdaaB2
set_option linter.unusedSimpArgs false
set_option linter.unusedVariables false
namespace Go.Proofs.Ytljpmnifkccbdaa
open Go Go.RowKit Am

def swap1 (r : List (List AV)) (i j : Nat) : List (List AV) := match r[i]?, r[j]? with
  | some x, some y => (r.set i y).set j x
  | _, _ => r
def swapF (r : List (List AV)) (a b : Nat) : Nat → List (List AV)
  | 0 => r
  | n + 1 => swap1 (swapF r a b n) (a + n) (b + n)
theorem swap1_len (r : List (List AV)) (i j : Nat) : (swap1 r i j).length = r.length := by
  unfold swap1; split <;> simp
theorem swapF_len (r : List (List AV)) (a b n : Nat) : (swapF r a b n).length = r.length := by
  induction n with
  | zero => rfl
  | succ n ih => simp [swapF, swap1_len, ih]
theorem swap1_mem (r : List (List AV)) (i j : Nat) {x : List AV} (h : x ∈ swap1 r i j) : x ∈ r := by
  unfold swap1 at h
  split at h
  · rename_i a b ha hb
    rcases List.mem_or_eq_of_mem_set h with h | h
    · rcases List.mem_or_eq_of_mem_set h with h | h
      · exact h
      · subst h; exact List.mem_of_getElem? hb
    · subst h; exact List.mem_of_getElem? ha
  · exact h
theorem swapF_mem (r : List (List AV)) (a b n : Nat) {x : List AV} (h : x ∈ swapF r a b n) : x ∈ r := by
  induction n with
  | zero => exact h
  | succ n ih => exact ih (swap1_mem _ _ _ h)
theorem swapRange_ok (rows : List (List AV)) (a b n : Nat) (a' b' n' : Int) (ea : a' = (a : Int)) (eb : b' = (b : Int)) (en : n' = (n : Int)) (ha : a + n ≤ rows.length) (hb : b + n ≤ rows.length) (hlen : rows.length ≤ 1000000000) (hr : ∀ r ∈ rows, r.length = 26) (rows' : List (List AV)) (hrows' : rows' = swapF rows a b n) :
    CSem Try.prog (.wr 110 [(0, .row 34 26 rows 0 0)] [(0, .row 34 26 rows' 0 0)]) [.own 0 0, aI a', aI b', aI n', .clo 46 []] (.pure []) := by
  refine of_textW gam_ok mixed { n := 38 } Try.func110 (by kernel_rfl) rfl rfl (by simp) (by decide) rfl fun F C D hF hC hD => ?_
  cbv
  refine ⟨Nat × Int × List (List AV), fun x => { slots := [(10, aI x.2.1), (0, .own 0 0), (1, aI a'), (2, aI b'), (3, aI n'), (4, .clo 46 [])], obs := [(0, .row 34 26 x.2.2 0 0)], ctr := 5, par := 5 }, fun x => x.2.1 = (x.1 : Int) ∧ x.1 ≤ n ∧ x.2.2 = swapF rows a b x.1, fun x => n - x.1, ⟨(0, 0, rows), ⟨rfl, Nat.zero_le _, rfl⟩, le_of [] (by simp [leSl, leOb, injK, memK, parK, noTup, lk, rn0, rnA, plain, aI])⟩, fun x hx => ?_⟩
  obtain ⟨i, i', r⟩ := x
  obtain ⟨hi0, hin, hri⟩ := hx
  simp only at hi0 hin hri
  have hrl : r.length = rows.length := by rw [hri, swapF_len]
  cbv
  refine ⟨fun h => ?_, fun h => ?_⟩ <;> cbv
  · refine ⟨hC _ _ _ (ben_ok (by kernel_rfl)), ?_⟩
    have ea : a' = (a : Int) := ea
    have eb : b' = (b : Int) := eb
    have en : n' = (n : Int) := en
    have hi0 : i' = (i : Int) := hi0
    have hin' : i < n := by rw [hF] at h; simp [sy] at h; omega
    obtain ⟨kb, hkb⟩ : ∃ kb, kb = b + i := ⟨_, rfl⟩
    obtain ⟨ka, hka⟩ : ∃ ka, ka = a + i := ⟨_, rfl⟩
    have eb2 : F .ar .add .i64 b' i' = (kb : Int) := by rw [hF]; exact (wrap_in (by omega) (by omega)).trans (by omega)
    have ea2 : F .ar .add .i64 a' i' = (ka : Int) := by rw [hF]; exact (wrap_in (by omega) (by omega)).trans (by omega)
    have ei : F .ar .add .i64 i' 1 = ((i + 1 : Nat) : Int) := by rw [hF]; exact (wrap_in (by omega) (by omega)).trans (by omega)
    have hlb : kb < r.length := by omega
    have hla : ka < r.length := by omega
    obtain ⟨cb, hcb⟩ : ∃ cb, r[kb]? = some cb := ⟨_, List.getElem?_eq_getElem hlb⟩
    obtain ⟨ca, hca⟩ : ∃ ca, r[ka]? = some ca := ⟨_, List.getElem?_eq_getElem hla⟩
    have hlca : ca.length = 26 := hr _ (swapF_mem _ _ _ _ (hri ▸ List.mem_of_getElem? hca))
    have hlcb : cb.length = 26 := hr _ (swapF_mem _ _ _ _ (hri ▸ List.mem_of_getElem? hcb))
    cbv
    refine ⟨kb, cb, eb2, hcb, ?_⟩
    cbv
    refine ⟨ka, ca, ea2, hca, ?_⟩
    cbv
    refine ⟨ka, ca, ea2, hca, ?_⟩
    cbv
    refine ⟨.mk hlcb, ?_⟩
    cbv
    obtain ⟨r2, hr2⟩ : ∃ r2, F .set r ka cb = r2 := ⟨_, rfl⟩
    rw [hr2]
    have er2 : r2 = r.set ka cb := by rw [← hr2, hF]; rfl
    obtain ⟨c2, hc2⟩ : ∃ c2, r2[kb]? = some c2 := ⟨_, List.getElem?_eq_getElem (by rw [er2]; simpa using hlb)⟩
    refine ⟨kb, c2, eb2, hc2, ?_⟩
    cbv
    refine ⟨.mk hlca, ?_⟩
    cbv
    obtain ⟨r3, hr3⟩ : ∃ r3, F .set r2 kb ca = r3 := ⟨_, rfl⟩
    rw [hr3]
    have er3 : r3 = r2.set kb ca := by rw [← hr3, hF]; rfl
    have e3 : r3 = swapF rows a b (i + 1) := by
      rw [swapF, ← hri, ← hka, ← hkb, er3, er2]
      simp [swap1, hca, hcb]
    obtain ⟨j, hj⟩ : ∃ j, F .ar .add .i64 i' 1 = j := ⟨_, rfl⟩
    rw [hj]
    exact ⟨(i + 1, j, r3), ⟨by rw [← hj]; exact ei, by omega, e3⟩, by simp; omega, Le.trans le_fresh (le_of [] (by simp [St.fresh, freshObs, Ob.fresh, mapS, killR, relT, leSl, leOb, injK, memK, parK, noTup, lk, rn0, rnA, plain]))⟩
  · have en : n' = (n : Int) := en
    have hi0 : i' = (i : Int) := hi0
    rw [hF] at h
    simp [sy] at h
    have : i = n := by omega
    subst this
    exact ⟨⟨hri.trans hrows'.symm, trivial⟩, trivial⟩
end Go.Proofs.Ytljpmnifkccbdaa
