import Derived.Test.YtdnaadcbimbfmaaRows
import Derived.ProofKit
import Derived.OpenShut
import Derived.ShutString
import Derived.ChangeOld
import Derived.Below
import Derived.Deep.Slices
import Derived.Test.YtdnaadcbimbfmaaG6
import Derived.Test.YtdnaadcbimbfmaaG8
set_option linter.unusedSimpArgs false
set_option linter.unusedVariables false
namespace Go.Proofs.Ytdnaadcbimbfmaa
open Go Go.RowKit Am

theorem lss16 {F : Sy} (hF : F = sy) {i : Nat} {i' : Int} (h : i' = (i : Int)) : (F .cmp .lss i' 16 = true ↔ i < 16) := by rw [lsF hF, h]; simp; omega
def vset (v : VV) (i : Nat) (x : Int) : VV := fun k => if k.1 = i then x else v k
theorem vac_set (v : VV) (m : Nat) (h : m < 16) (x : Int) : setCells (0 + m * 1) [aI x] (vac v) = some (vac (vset v m x)) := by
  match m, h with
  | 0, _ => rfl | 1, _ => rfl | 2, _ => rfl | 3, _ => rfl | 4, _ => rfl | 5, _ => rfl | 6, _ => rfl | 7, _ => rfl
  | 8, _ => rfl | 9, _ => rfl | 10, _ => rfl | 11, _ => rfl | 12, _ => rfl | 13, _ => rfl | 14, _ => rfl | 15, _ => rfl
  | n+16, h => exact absurd h (by omega)
theorem vac_len (v : VV) : (vac v).length = 16 := rfl
theorem vidx_ok (v : VV) (i : Nat) (i' : Int) (hi : i' = (i : Int)) (h : i < 16) (x : Int) (hx : x = v ⟨i, h⟩) : CSem Try.prog (.idx 29) [.agg (vac v), aI i'] (.pure [aI x]) := by
  refine ⟨_, _, _, rfl, rfl, fun w S y hy => ⟨_, ?_, .c (.v _ rfl)⟩⟩
  rw [rep_agg_v (xs := (vvs v).toList) hy, hx, hi]
  exact idxVV v w i h
def joinV (a b : VV) : VV := fun k => max (a k) (b k)
def joinAt (a b : VV) (i : Nat) : VV := fun k => if k.1 < i then max (a k) (b k) else a k
theorem joinAt_step (a b : VV) (i : Nat) (h : i < 16) : vset (joinAt a b i) i (max (joinAt a b i ⟨i, h⟩) (b ⟨i, h⟩)) = joinAt a b (i + 1) := by
  funext k
  unfold vset joinAt
  by_cases hk : k.1 = i
  · have : k = ⟨i, h⟩ := Fin.ext hk
    subst this
    simp
  · rw [if_neg hk]
    by_cases h1 : k.1 < i
    · rw [if_pos h1, if_pos (by omega)]
    · rw [if_neg h1, if_neg (by omega)]
set_option maxRecDepth 100000 in
set_option maxHeartbeats 8000000 in
theorem join_ok (a b : VV) (r : VV) (hr : r = joinV a b) : CSem Try.prog (.fn 26) [.agg (vac a), .agg (vac b)] (.pure [.agg (vac r)]) := by
  refine of_text gam_ok mixed { n := 21, keep := [2] } Try.func26 (by kernel_rfl) rfl rfl (by simp) (by decide) fun F C D hF hC hD => ?_
  have hmx : ∀ x y : Int, F .mx x y = max x y := fun x y => by rw [hF]; show (if x < y then y else x) = max x y; omega
  cbv
  refine ⟨Nat × Int × VV, fun y => { slots := [(8, aI y.2.1), (7, .agg (vac b)), (2, .ptr 0 0), (4, .ptr 1 0)], obs := [(0, .box 29 (vac y.2.2) false), (1, .box 29 (vac fun _ => 0) true)], ctr := 2 }, fun y => y.2.1 = (y.1 : Int) ∧ y.1 ≤ 16 ∧ y.2.2 = joinAt a b y.1, fun y => 16 - y.1, ⟨(0, 0, a), ⟨rfl, Nat.zero_le _, rfl⟩, (le_of [(0, 0), (1, 1)] (by simp [leSl, leOb, injK, memK, parK, noTup, lk, rn0, rnA, plain] <;> exact ⟨rfl, rfl, rfl⟩))⟩, fun y hy => ?_⟩
  obtain ⟨i, i', u⟩ := y
  obtain ⟨ei, h16, hu⟩ := hy
  simp only at ei h16 hu
  have tl := lss16 hF ei
  obtain ⟨i2, hi2⟩ : ∃ i2, F .ar .add .i64 i' 1 = i2 := ⟨_, rfl⟩
  by_cases hi : i < 16
  · have tt : F .cmp .lss i' 16 = true := tl.2 hi
    have ei2 : i2 = ((i + 1 : Nat) : Int) := hi2.symm.trans (incF hF ei (by omega))
    obtain ⟨u', hu'⟩ : ∃ u', u' = joinAt a b (i + 1) := ⟨_, rfl⟩
    have hst : ∀ (h : i < 16), u' = vset u i (max (u ⟨i, h⟩) (b ⟨i, h⟩)) := fun h => by rw [hu', hu]; exact (joinAt_step a b i h).symm
    have hidx : ∀ (h : i < 16), C (.idx 29) [.agg (vac b), aI i'] (.pure [aI (b ⟨i, h⟩)]) := fun h => hC _ _ _ (vidx_ok b i i' ei h _ rfl)
    clear hu tl
    obtain rfl | rfl | rfl | rfl | rfl | rfl | rfl | rfl | rfl | rfl | rfl | rfl | rfl | rfl | rfl | rfl : i = 0 ∨ i = 1 ∨ i = 2 ∨ i = 3 ∨ i = 4 ∨ i = 5 ∨ i = 6 ∨ i = 7 ∨ i = 8 ∨ i = 9 ∨ i = 10 ∨ i = 11 ∨ i = 12 ∨ i = 13 ∨ i = 14 ∨ i = 15 := by omega
    · obtain ⟨x, hx⟩ : ∃ x, x = b 0 := ⟨_, rfl⟩
      have hix : C (.idx 29) [.agg (vac b), aI i'] (.pure [aI x]) := by rw [hx]; exact hidx (by decide)
      obtain ⟨z, hz⟩ : ∃ z, F .mx (u 0) x = z := ⟨_, rfl⟩
      have hv : vac u' = [aI z, aI (u 1), aI (u 2), aI (u 3), aI (u 4), aI (u 5), aI (u 6), aI (u 7), aI (u 8), aI (u 9), aI (u 10), aI (u 11), aI (u 12), aI (u 13), aI (u 14), aI (u 15)] := by rw [hst (by decide), ← hz, hmx, hx]; rfl
      clear hmx hx hst hidx hr
      cbv
      refine bT (tt) ?_
      cbv
      refine ⟨_, hix, ?_⟩
      cbv
      refine ⟨0, ei, by decide, ?_⟩
      cbv
      rw [hz]
      refine ⟨0, ei, by decide, ?_⟩
      cbv
      rw [hi2]
      exact ⟨(1, i2, u'), ⟨ei2, Nat.le_of_ble_eq_true rfl, hu'⟩, (show 16 - 1 < 16 - 0 by decide), le_of [(0, 0), (1, 1)] (by simp [leSl, leOb, injK, memK, parK, noTup, lk, rn0, rnA, plain, hv] <;> exact ⟨rfl, rfl⟩)⟩
    · obtain ⟨x, hx⟩ : ∃ x, x = b 1 := ⟨_, rfl⟩
      have hix : C (.idx 29) [.agg (vac b), aI i'] (.pure [aI x]) := by rw [hx]; exact hidx (by decide)
      obtain ⟨z, hz⟩ : ∃ z, F .mx (u 1) x = z := ⟨_, rfl⟩
      have hv : vac u' = [aI (u 0), aI z, aI (u 2), aI (u 3), aI (u 4), aI (u 5), aI (u 6), aI (u 7), aI (u 8), aI (u 9), aI (u 10), aI (u 11), aI (u 12), aI (u 13), aI (u 14), aI (u 15)] := by rw [hst (by decide), ← hz, hmx, hx]; rfl
      clear hmx hx hst hidx hr
      cbv
      refine bT (tt) ?_
      cbv
      refine ⟨_, hix, ?_⟩
      cbv
      refine ⟨1, ei, by decide, ?_⟩
      cbv
      rw [hz]
      refine ⟨1, ei, by decide, ?_⟩
      cbv
      rw [hi2]
      exact ⟨(2, i2, u'), ⟨ei2, Nat.le_of_ble_eq_true rfl, hu'⟩, (show 16 - 2 < 16 - 1 by decide), le_of [(0, 0), (1, 1)] (by simp [leSl, leOb, injK, memK, parK, noTup, lk, rn0, rnA, plain, hv] <;> exact ⟨rfl, rfl⟩)⟩
    · obtain ⟨x, hx⟩ : ∃ x, x = b 2 := ⟨_, rfl⟩
      have hix : C (.idx 29) [.agg (vac b), aI i'] (.pure [aI x]) := by rw [hx]; exact hidx (by decide)
      obtain ⟨z, hz⟩ : ∃ z, F .mx (u 2) x = z := ⟨_, rfl⟩
      have hv : vac u' = [aI (u 0), aI (u 1), aI z, aI (u 3), aI (u 4), aI (u 5), aI (u 6), aI (u 7), aI (u 8), aI (u 9), aI (u 10), aI (u 11), aI (u 12), aI (u 13), aI (u 14), aI (u 15)] := by rw [hst (by decide), ← hz, hmx, hx]; rfl
      clear hmx hx hst hidx hr
      cbv
      refine bT (tt) ?_
      cbv
      refine ⟨_, hix, ?_⟩
      cbv
      refine ⟨2, ei, by decide, ?_⟩
      cbv
      rw [hz]
      refine ⟨2, ei, by decide, ?_⟩
      cbv
      rw [hi2]
      exact ⟨(3, i2, u'), ⟨ei2, Nat.le_of_ble_eq_true rfl, hu'⟩, (show 16 - 3 < 16 - 2 by decide), le_of [(0, 0), (1, 1)] (by simp [leSl, leOb, injK, memK, parK, noTup, lk, rn0, rnA, plain, hv] <;> exact ⟨rfl, rfl⟩)⟩
    · obtain ⟨x, hx⟩ : ∃ x, x = b 3 := ⟨_, rfl⟩
      have hix : C (.idx 29) [.agg (vac b), aI i'] (.pure [aI x]) := by rw [hx]; exact hidx (by decide)
      obtain ⟨z, hz⟩ : ∃ z, F .mx (u 3) x = z := ⟨_, rfl⟩
      have hv : vac u' = [aI (u 0), aI (u 1), aI (u 2), aI z, aI (u 4), aI (u 5), aI (u 6), aI (u 7), aI (u 8), aI (u 9), aI (u 10), aI (u 11), aI (u 12), aI (u 13), aI (u 14), aI (u 15)] := by rw [hst (by decide), ← hz, hmx, hx]; rfl
      clear hmx hx hst hidx hr
      cbv
      refine bT (tt) ?_
      cbv
      refine ⟨_, hix, ?_⟩
      cbv
      refine ⟨3, ei, by decide, ?_⟩
      cbv
      rw [hz]
      refine ⟨3, ei, by decide, ?_⟩
      cbv
      rw [hi2]
      exact ⟨(4, i2, u'), ⟨ei2, Nat.le_of_ble_eq_true rfl, hu'⟩, (show 16 - 4 < 16 - 3 by decide), le_of [(0, 0), (1, 1)] (by simp [leSl, leOb, injK, memK, parK, noTup, lk, rn0, rnA, plain, hv] <;> exact ⟨rfl, rfl⟩)⟩
    · obtain ⟨x, hx⟩ : ∃ x, x = b 4 := ⟨_, rfl⟩
      have hix : C (.idx 29) [.agg (vac b), aI i'] (.pure [aI x]) := by rw [hx]; exact hidx (by decide)
      obtain ⟨z, hz⟩ : ∃ z, F .mx (u 4) x = z := ⟨_, rfl⟩
      have hv : vac u' = [aI (u 0), aI (u 1), aI (u 2), aI (u 3), aI z, aI (u 5), aI (u 6), aI (u 7), aI (u 8), aI (u 9), aI (u 10), aI (u 11), aI (u 12), aI (u 13), aI (u 14), aI (u 15)] := by rw [hst (by decide), ← hz, hmx, hx]; rfl
      clear hmx hx hst hidx hr
      cbv
      refine bT (tt) ?_
      cbv
      refine ⟨_, hix, ?_⟩
      cbv
      refine ⟨4, ei, by decide, ?_⟩
      cbv
      rw [hz]
      refine ⟨4, ei, by decide, ?_⟩
      cbv
      rw [hi2]
      exact ⟨(5, i2, u'), ⟨ei2, Nat.le_of_ble_eq_true rfl, hu'⟩, (show 16 - 5 < 16 - 4 by decide), le_of [(0, 0), (1, 1)] (by simp [leSl, leOb, injK, memK, parK, noTup, lk, rn0, rnA, plain, hv] <;> exact ⟨rfl, rfl⟩)⟩
    · obtain ⟨x, hx⟩ : ∃ x, x = b 5 := ⟨_, rfl⟩
      have hix : C (.idx 29) [.agg (vac b), aI i'] (.pure [aI x]) := by rw [hx]; exact hidx (by decide)
      obtain ⟨z, hz⟩ : ∃ z, F .mx (u 5) x = z := ⟨_, rfl⟩
      have hv : vac u' = [aI (u 0), aI (u 1), aI (u 2), aI (u 3), aI (u 4), aI z, aI (u 6), aI (u 7), aI (u 8), aI (u 9), aI (u 10), aI (u 11), aI (u 12), aI (u 13), aI (u 14), aI (u 15)] := by rw [hst (by decide), ← hz, hmx, hx]; rfl
      clear hmx hx hst hidx hr
      cbv
      refine bT (tt) ?_
      cbv
      refine ⟨_, hix, ?_⟩
      cbv
      refine ⟨5, ei, by decide, ?_⟩
      cbv
      rw [hz]
      refine ⟨5, ei, by decide, ?_⟩
      cbv
      rw [hi2]
      exact ⟨(6, i2, u'), ⟨ei2, Nat.le_of_ble_eq_true rfl, hu'⟩, (show 16 - 6 < 16 - 5 by decide), le_of [(0, 0), (1, 1)] (by simp [leSl, leOb, injK, memK, parK, noTup, lk, rn0, rnA, plain, hv] <;> exact ⟨rfl, rfl⟩)⟩
    · obtain ⟨x, hx⟩ : ∃ x, x = b 6 := ⟨_, rfl⟩
      have hix : C (.idx 29) [.agg (vac b), aI i'] (.pure [aI x]) := by rw [hx]; exact hidx (by decide)
      obtain ⟨z, hz⟩ : ∃ z, F .mx (u 6) x = z := ⟨_, rfl⟩
      have hv : vac u' = [aI (u 0), aI (u 1), aI (u 2), aI (u 3), aI (u 4), aI (u 5), aI z, aI (u 7), aI (u 8), aI (u 9), aI (u 10), aI (u 11), aI (u 12), aI (u 13), aI (u 14), aI (u 15)] := by rw [hst (by decide), ← hz, hmx, hx]; rfl
      clear hmx hx hst hidx hr
      cbv
      refine bT (tt) ?_
      cbv
      refine ⟨_, hix, ?_⟩
      cbv
      refine ⟨6, ei, by decide, ?_⟩
      cbv
      rw [hz]
      refine ⟨6, ei, by decide, ?_⟩
      cbv
      rw [hi2]
      exact ⟨(7, i2, u'), ⟨ei2, Nat.le_of_ble_eq_true rfl, hu'⟩, (show 16 - 7 < 16 - 6 by decide), le_of [(0, 0), (1, 1)] (by simp [leSl, leOb, injK, memK, parK, noTup, lk, rn0, rnA, plain, hv] <;> exact ⟨rfl, rfl⟩)⟩
    · obtain ⟨x, hx⟩ : ∃ x, x = b 7 := ⟨_, rfl⟩
      have hix : C (.idx 29) [.agg (vac b), aI i'] (.pure [aI x]) := by rw [hx]; exact hidx (by decide)
      obtain ⟨z, hz⟩ : ∃ z, F .mx (u 7) x = z := ⟨_, rfl⟩
      have hv : vac u' = [aI (u 0), aI (u 1), aI (u 2), aI (u 3), aI (u 4), aI (u 5), aI (u 6), aI z, aI (u 8), aI (u 9), aI (u 10), aI (u 11), aI (u 12), aI (u 13), aI (u 14), aI (u 15)] := by rw [hst (by decide), ← hz, hmx, hx]; rfl
      clear hmx hx hst hidx hr
      cbv
      refine bT (tt) ?_
      cbv
      refine ⟨_, hix, ?_⟩
      cbv
      refine ⟨7, ei, by decide, ?_⟩
      cbv
      rw [hz]
      refine ⟨7, ei, by decide, ?_⟩
      cbv
      rw [hi2]
      exact ⟨(8, i2, u'), ⟨ei2, Nat.le_of_ble_eq_true rfl, hu'⟩, (show 16 - 8 < 16 - 7 by decide), le_of [(0, 0), (1, 1)] (by simp [leSl, leOb, injK, memK, parK, noTup, lk, rn0, rnA, plain, hv] <;> exact ⟨rfl, rfl⟩)⟩
    · obtain ⟨x, hx⟩ : ∃ x, x = b 8 := ⟨_, rfl⟩
      have hix : C (.idx 29) [.agg (vac b), aI i'] (.pure [aI x]) := by rw [hx]; exact hidx (by decide)
      obtain ⟨z, hz⟩ : ∃ z, F .mx (u 8) x = z := ⟨_, rfl⟩
      have hv : vac u' = [aI (u 0), aI (u 1), aI (u 2), aI (u 3), aI (u 4), aI (u 5), aI (u 6), aI (u 7), aI z, aI (u 9), aI (u 10), aI (u 11), aI (u 12), aI (u 13), aI (u 14), aI (u 15)] := by rw [hst (by decide), ← hz, hmx, hx]; rfl
      clear hmx hx hst hidx hr
      cbv
      refine bT (tt) ?_
      cbv
      refine ⟨_, hix, ?_⟩
      cbv
      refine ⟨8, ei, by decide, ?_⟩
      cbv
      rw [hz]
      refine ⟨8, ei, by decide, ?_⟩
      cbv
      rw [hi2]
      exact ⟨(9, i2, u'), ⟨ei2, Nat.le_of_ble_eq_true rfl, hu'⟩, (show 16 - 9 < 16 - 8 by decide), le_of [(0, 0), (1, 1)] (by simp [leSl, leOb, injK, memK, parK, noTup, lk, rn0, rnA, plain, hv] <;> exact ⟨rfl, rfl⟩)⟩
    · obtain ⟨x, hx⟩ : ∃ x, x = b 9 := ⟨_, rfl⟩
      have hix : C (.idx 29) [.agg (vac b), aI i'] (.pure [aI x]) := by rw [hx]; exact hidx (by decide)
      obtain ⟨z, hz⟩ : ∃ z, F .mx (u 9) x = z := ⟨_, rfl⟩
      have hv : vac u' = [aI (u 0), aI (u 1), aI (u 2), aI (u 3), aI (u 4), aI (u 5), aI (u 6), aI (u 7), aI (u 8), aI z, aI (u 10), aI (u 11), aI (u 12), aI (u 13), aI (u 14), aI (u 15)] := by rw [hst (by decide), ← hz, hmx, hx]; rfl
      clear hmx hx hst hidx hr
      cbv
      refine bT (tt) ?_
      cbv
      refine ⟨_, hix, ?_⟩
      cbv
      refine ⟨9, ei, by decide, ?_⟩
      cbv
      rw [hz]
      refine ⟨9, ei, by decide, ?_⟩
      cbv
      rw [hi2]
      exact ⟨(10, i2, u'), ⟨ei2, Nat.le_of_ble_eq_true rfl, hu'⟩, (show 16 - 10 < 16 - 9 by decide), le_of [(0, 0), (1, 1)] (by simp [leSl, leOb, injK, memK, parK, noTup, lk, rn0, rnA, plain, hv] <;> exact ⟨rfl, rfl⟩)⟩
    · obtain ⟨x, hx⟩ : ∃ x, x = b 10 := ⟨_, rfl⟩
      have hix : C (.idx 29) [.agg (vac b), aI i'] (.pure [aI x]) := by rw [hx]; exact hidx (by decide)
      obtain ⟨z, hz⟩ : ∃ z, F .mx (u 10) x = z := ⟨_, rfl⟩
      have hv : vac u' = [aI (u 0), aI (u 1), aI (u 2), aI (u 3), aI (u 4), aI (u 5), aI (u 6), aI (u 7), aI (u 8), aI (u 9), aI z, aI (u 11), aI (u 12), aI (u 13), aI (u 14), aI (u 15)] := by rw [hst (by decide), ← hz, hmx, hx]; rfl
      clear hmx hx hst hidx hr
      cbv
      refine bT (tt) ?_
      cbv
      refine ⟨_, hix, ?_⟩
      cbv
      refine ⟨10, ei, by decide, ?_⟩
      cbv
      rw [hz]
      refine ⟨10, ei, by decide, ?_⟩
      cbv
      rw [hi2]
      exact ⟨(11, i2, u'), ⟨ei2, Nat.le_of_ble_eq_true rfl, hu'⟩, (show 16 - 11 < 16 - 10 by decide), le_of [(0, 0), (1, 1)] (by simp [leSl, leOb, injK, memK, parK, noTup, lk, rn0, rnA, plain, hv] <;> exact ⟨rfl, rfl⟩)⟩
    · obtain ⟨x, hx⟩ : ∃ x, x = b 11 := ⟨_, rfl⟩
      have hix : C (.idx 29) [.agg (vac b), aI i'] (.pure [aI x]) := by rw [hx]; exact hidx (by decide)
      obtain ⟨z, hz⟩ : ∃ z, F .mx (u 11) x = z := ⟨_, rfl⟩
      have hv : vac u' = [aI (u 0), aI (u 1), aI (u 2), aI (u 3), aI (u 4), aI (u 5), aI (u 6), aI (u 7), aI (u 8), aI (u 9), aI (u 10), aI z, aI (u 12), aI (u 13), aI (u 14), aI (u 15)] := by rw [hst (by decide), ← hz, hmx, hx]; rfl
      clear hmx hx hst hidx hr
      cbv
      refine bT (tt) ?_
      cbv
      refine ⟨_, hix, ?_⟩
      cbv
      refine ⟨11, ei, by decide, ?_⟩
      cbv
      rw [hz]
      refine ⟨11, ei, by decide, ?_⟩
      cbv
      rw [hi2]
      exact ⟨(12, i2, u'), ⟨ei2, Nat.le_of_ble_eq_true rfl, hu'⟩, (show 16 - 12 < 16 - 11 by decide), le_of [(0, 0), (1, 1)] (by simp [leSl, leOb, injK, memK, parK, noTup, lk, rn0, rnA, plain, hv] <;> exact ⟨rfl, rfl⟩)⟩
    · obtain ⟨x, hx⟩ : ∃ x, x = b 12 := ⟨_, rfl⟩
      have hix : C (.idx 29) [.agg (vac b), aI i'] (.pure [aI x]) := by rw [hx]; exact hidx (by decide)
      obtain ⟨z, hz⟩ : ∃ z, F .mx (u 12) x = z := ⟨_, rfl⟩
      have hv : vac u' = [aI (u 0), aI (u 1), aI (u 2), aI (u 3), aI (u 4), aI (u 5), aI (u 6), aI (u 7), aI (u 8), aI (u 9), aI (u 10), aI (u 11), aI z, aI (u 13), aI (u 14), aI (u 15)] := by rw [hst (by decide), ← hz, hmx, hx]; rfl
      clear hmx hx hst hidx hr
      cbv
      refine bT (tt) ?_
      cbv
      refine ⟨_, hix, ?_⟩
      cbv
      refine ⟨12, ei, by decide, ?_⟩
      cbv
      rw [hz]
      refine ⟨12, ei, by decide, ?_⟩
      cbv
      rw [hi2]
      exact ⟨(13, i2, u'), ⟨ei2, Nat.le_of_ble_eq_true rfl, hu'⟩, (show 16 - 13 < 16 - 12 by decide), le_of [(0, 0), (1, 1)] (by simp [leSl, leOb, injK, memK, parK, noTup, lk, rn0, rnA, plain, hv] <;> exact ⟨rfl, rfl⟩)⟩
    · obtain ⟨x, hx⟩ : ∃ x, x = b 13 := ⟨_, rfl⟩
      have hix : C (.idx 29) [.agg (vac b), aI i'] (.pure [aI x]) := by rw [hx]; exact hidx (by decide)
      obtain ⟨z, hz⟩ : ∃ z, F .mx (u 13) x = z := ⟨_, rfl⟩
      have hv : vac u' = [aI (u 0), aI (u 1), aI (u 2), aI (u 3), aI (u 4), aI (u 5), aI (u 6), aI (u 7), aI (u 8), aI (u 9), aI (u 10), aI (u 11), aI (u 12), aI z, aI (u 14), aI (u 15)] := by rw [hst (by decide), ← hz, hmx, hx]; rfl
      clear hmx hx hst hidx hr
      cbv
      refine bT (tt) ?_
      cbv
      refine ⟨_, hix, ?_⟩
      cbv
      refine ⟨13, ei, by decide, ?_⟩
      cbv
      rw [hz]
      refine ⟨13, ei, by decide, ?_⟩
      cbv
      rw [hi2]
      exact ⟨(14, i2, u'), ⟨ei2, Nat.le_of_ble_eq_true rfl, hu'⟩, (show 16 - 14 < 16 - 13 by decide), le_of [(0, 0), (1, 1)] (by simp [leSl, leOb, injK, memK, parK, noTup, lk, rn0, rnA, plain, hv] <;> exact ⟨rfl, rfl⟩)⟩
    · obtain ⟨x, hx⟩ : ∃ x, x = b 14 := ⟨_, rfl⟩
      have hix : C (.idx 29) [.agg (vac b), aI i'] (.pure [aI x]) := by rw [hx]; exact hidx (by decide)
      obtain ⟨z, hz⟩ : ∃ z, F .mx (u 14) x = z := ⟨_, rfl⟩
      have hv : vac u' = [aI (u 0), aI (u 1), aI (u 2), aI (u 3), aI (u 4), aI (u 5), aI (u 6), aI (u 7), aI (u 8), aI (u 9), aI (u 10), aI (u 11), aI (u 12), aI (u 13), aI z, aI (u 15)] := by rw [hst (by decide), ← hz, hmx, hx]; rfl
      clear hmx hx hst hidx hr
      cbv
      refine bT (tt) ?_
      cbv
      refine ⟨_, hix, ?_⟩
      cbv
      refine ⟨14, ei, by decide, ?_⟩
      cbv
      rw [hz]
      refine ⟨14, ei, by decide, ?_⟩
      cbv
      rw [hi2]
      exact ⟨(15, i2, u'), ⟨ei2, Nat.le_of_ble_eq_true rfl, hu'⟩, (show 16 - 15 < 16 - 14 by decide), le_of [(0, 0), (1, 1)] (by simp [leSl, leOb, injK, memK, parK, noTup, lk, rn0, rnA, plain, hv] <;> exact ⟨rfl, rfl⟩)⟩
    · obtain ⟨x, hx⟩ : ∃ x, x = b 15 := ⟨_, rfl⟩
      have hix : C (.idx 29) [.agg (vac b), aI i'] (.pure [aI x]) := by rw [hx]; exact hidx (by decide)
      obtain ⟨z, hz⟩ : ∃ z, F .mx (u 15) x = z := ⟨_, rfl⟩
      have hv : vac u' = [aI (u 0), aI (u 1), aI (u 2), aI (u 3), aI (u 4), aI (u 5), aI (u 6), aI (u 7), aI (u 8), aI (u 9), aI (u 10), aI (u 11), aI (u 12), aI (u 13), aI (u 14), aI z] := by rw [hst (by decide), ← hz, hmx, hx]; rfl
      clear hmx hx hst hidx hr
      cbv
      refine bT (tt) ?_
      cbv
      refine ⟨_, hix, ?_⟩
      cbv
      refine ⟨15, ei, by decide, ?_⟩
      cbv
      rw [hz]
      refine ⟨15, ei, by decide, ?_⟩
      cbv
      rw [hi2]
      exact ⟨(16, i2, u'), ⟨ei2, Nat.le_of_ble_eq_true rfl, hu'⟩, (show 16 - 16 < 16 - 15 by decide), le_of [(0, 0), (1, 1)] (by simp [leSl, leOb, injK, memK, parK, noTup, lk, rn0, rnA, plain, hv] <;> exact ⟨rfl, rfl⟩)⟩
  · obtain rfl : i = 16 := by omega
    have tl : F .cmp .lss i' 16 = false := by cases h : F .cmp .lss i' 16 with | true => exact absurd (tl.1 h) hi | false => rfl
    have hur : u = r := by rw [hu, hr]; funext k; unfold joinAt joinV; rw [if_pos k.2]
    subst hur
    clear hu hr hmx
    cbv
    refine bF (tl) ?_
    cbv
end Go.Proofs.Ytdnaadcbimbfmaa
set_option linter.unusedSimpArgs false
set_option linter.unusedVariables false
namespace Go.Proofs.Ytdnaadcbimbfmaa
open Go Go.RowKit Am

theorem vRight_ok (v : VV) (r : Bool) (hr : r = true ↔ vrightP v) : CSem Try.prog (.fn 49) [.agg (vac v)] (.pure [aB r]) := by
  refine ⟨enterT Try.func49 (by kernel_rfl) rfl, fun w S xs hS hgd hxs => ?_⟩
  obtain ⟨y, rfl, hy⟩ := reps_one hxs
  rw [rep_agg_v (xs := (vvs v).toList) hy]
  refine (vRightW v r hr w).mono ?_
  rintro e w' ⟨rfl, rfl⟩
  exact ⟨_, S, rfl, gr_below hS ((Below.refl _ _).alloc (Nat.le_refl _) _), [.bool r], rfl, Reps.cons (.c (.v _ rfl)) (Reps.nil _ _)⟩
set_option maxRecDepth 100000 in
set_option maxHeartbeats 8000000 in
theorem with_ok (v : VV) (d : Dt) (m : Nat) (hm : m < 16) (hR : d.R = (m : Int)) (hv : vrightP v) (hd : dotB d = true) (hN : d.N = v ⟨m, hm⟩ + 1) (u : VV) (hu : u = vset v m d.N) : CSem Try.prog (.fn 33) [.agg (vac v), .agg d.ac] (.pure [.agg (vac u), aI 0]) := by
  refine of_text gam_ok mixed { n := 32, keep := [2] } Try.func33 (by kernel_rfl) rfl rfl (by simp) (by decide) fun F C D hF hC hD => ?_
  have hb := hv ⟨m, hm⟩
  have hr := hC _ _ _ (vRight_ok v true (by simp [hv]))
  have hdt := hC _ _ _ (dot_ok d true hd.symm)
  obtain ⟨dR, dN⟩ := d
  simp only at hR hN hu
  have tbn : F .bnot true = false := bnotF hF true
  have tN : ∀ x : Int, dN = x + 1 → 0 ≤ x → x ≤ 1048576 → F .cmp .neq dN (F .ar .add .i64 x 1) = false := fun x h h0 h1 => by
    have : F .ar .add .i64 x 1 = x + 1 := by rw [hF]; exact wrap_in (by omega) (by omega)
    rw [this, neF hF, h]
    simp
  clear hv hd
  obtain rfl | rfl | rfl | rfl | rfl | rfl | rfl | rfl | rfl | rfl | rfl | rfl | rfl | rfl | rfl | rfl : m = 0 ∨ m = 1 ∨ m = 2 ∨ m = 3 ∨ m = 4 ∨ m = 5 ∨ m = 6 ∨ m = 7 ∨ m = 8 ∨ m = 9 ∨ m = 10 ∨ m = 11 ∨ m = 12 ∨ m = 13 ∨ m = 14 ∨ m = 15 := by omega
  · have tn := tN (v 0) hN hb.1 hb.2
    have hv : vac u = [aI dN, aI (v 1), aI (v 2), aI (v 3), aI (v 4), aI (v 5), aI (v 6), aI (v 7), aI (v 8), aI (v 9), aI (v 10), aI (v 11), aI (v 12), aI (v 13), aI (v 14), aI (v 15)] := by rw [hu]; rfl
    clear hu hN hb tN
    cbv
    refine ⟨_, hr, ?_⟩
    cbv
    rw [tbn]
    refine cF (rfl) ?_
    cbv
    refine ⟨_, hdt, ?_⟩
    cbv
    rw [tbn]
    cbv
    refine bF (rfl) ?_
    cbv
    refine ⟨hC _ _ _ (ben_ok (by kernel_rfl)), ?_⟩
    cbv
    refine ⟨0, hR, by decide, ?_⟩
    cbv
    rw [tn]
    refine bF (rfl) ?_
    cbv
    refine ⟨0, hR, by decide, ?_⟩
    cbv
    exact ⟨congrArg AV.agg hv.symm, rfl, trivial⟩
  · have tn := tN (v 1) hN hb.1 hb.2
    have hv : vac u = [aI (v 0), aI dN, aI (v 2), aI (v 3), aI (v 4), aI (v 5), aI (v 6), aI (v 7), aI (v 8), aI (v 9), aI (v 10), aI (v 11), aI (v 12), aI (v 13), aI (v 14), aI (v 15)] := by rw [hu]; rfl
    clear hu hN hb tN
    cbv
    refine ⟨_, hr, ?_⟩
    cbv
    rw [tbn]
    refine cF (rfl) ?_
    cbv
    refine ⟨_, hdt, ?_⟩
    cbv
    rw [tbn]
    cbv
    refine bF (rfl) ?_
    cbv
    refine ⟨hC _ _ _ (ben_ok (by kernel_rfl)), ?_⟩
    cbv
    refine ⟨1, hR, by decide, ?_⟩
    cbv
    rw [tn]
    refine bF (rfl) ?_
    cbv
    refine ⟨1, hR, by decide, ?_⟩
    cbv
    exact ⟨congrArg AV.agg hv.symm, rfl, trivial⟩
  · have tn := tN (v 2) hN hb.1 hb.2
    have hv : vac u = [aI (v 0), aI (v 1), aI dN, aI (v 3), aI (v 4), aI (v 5), aI (v 6), aI (v 7), aI (v 8), aI (v 9), aI (v 10), aI (v 11), aI (v 12), aI (v 13), aI (v 14), aI (v 15)] := by rw [hu]; rfl
    clear hu hN hb tN
    cbv
    refine ⟨_, hr, ?_⟩
    cbv
    rw [tbn]
    refine cF (rfl) ?_
    cbv
    refine ⟨_, hdt, ?_⟩
    cbv
    rw [tbn]
    cbv
    refine bF (rfl) ?_
    cbv
    refine ⟨hC _ _ _ (ben_ok (by kernel_rfl)), ?_⟩
    cbv
    refine ⟨2, hR, by decide, ?_⟩
    cbv
    rw [tn]
    refine bF (rfl) ?_
    cbv
    refine ⟨2, hR, by decide, ?_⟩
    cbv
    exact ⟨congrArg AV.agg hv.symm, rfl, trivial⟩
  · have tn := tN (v 3) hN hb.1 hb.2
    have hv : vac u = [aI (v 0), aI (v 1), aI (v 2), aI dN, aI (v 4), aI (v 5), aI (v 6), aI (v 7), aI (v 8), aI (v 9), aI (v 10), aI (v 11), aI (v 12), aI (v 13), aI (v 14), aI (v 15)] := by rw [hu]; rfl
    clear hu hN hb tN
    cbv
    refine ⟨_, hr, ?_⟩
    cbv
    rw [tbn]
    refine cF (rfl) ?_
    cbv
    refine ⟨_, hdt, ?_⟩
    cbv
    rw [tbn]
    cbv
    refine bF (rfl) ?_
    cbv
    refine ⟨hC _ _ _ (ben_ok (by kernel_rfl)), ?_⟩
    cbv
    refine ⟨3, hR, by decide, ?_⟩
    cbv
    rw [tn]
    refine bF (rfl) ?_
    cbv
    refine ⟨3, hR, by decide, ?_⟩
    cbv
    exact ⟨congrArg AV.agg hv.symm, rfl, trivial⟩
  · have tn := tN (v 4) hN hb.1 hb.2
    have hv : vac u = [aI (v 0), aI (v 1), aI (v 2), aI (v 3), aI dN, aI (v 5), aI (v 6), aI (v 7), aI (v 8), aI (v 9), aI (v 10), aI (v 11), aI (v 12), aI (v 13), aI (v 14), aI (v 15)] := by rw [hu]; rfl
    clear hu hN hb tN
    cbv
    refine ⟨_, hr, ?_⟩
    cbv
    rw [tbn]
    refine cF (rfl) ?_
    cbv
    refine ⟨_, hdt, ?_⟩
    cbv
    rw [tbn]
    cbv
    refine bF (rfl) ?_
    cbv
    refine ⟨hC _ _ _ (ben_ok (by kernel_rfl)), ?_⟩
    cbv
    refine ⟨4, hR, by decide, ?_⟩
    cbv
    rw [tn]
    refine bF (rfl) ?_
    cbv
    refine ⟨4, hR, by decide, ?_⟩
    cbv
    exact ⟨congrArg AV.agg hv.symm, rfl, trivial⟩
  · have tn := tN (v 5) hN hb.1 hb.2
    have hv : vac u = [aI (v 0), aI (v 1), aI (v 2), aI (v 3), aI (v 4), aI dN, aI (v 6), aI (v 7), aI (v 8), aI (v 9), aI (v 10), aI (v 11), aI (v 12), aI (v 13), aI (v 14), aI (v 15)] := by rw [hu]; rfl
    clear hu hN hb tN
    cbv
    refine ⟨_, hr, ?_⟩
    cbv
    rw [tbn]
    refine cF (rfl) ?_
    cbv
    refine ⟨_, hdt, ?_⟩
    cbv
    rw [tbn]
    cbv
    refine bF (rfl) ?_
    cbv
    refine ⟨hC _ _ _ (ben_ok (by kernel_rfl)), ?_⟩
    cbv
    refine ⟨5, hR, by decide, ?_⟩
    cbv
    rw [tn]
    refine bF (rfl) ?_
    cbv
    refine ⟨5, hR, by decide, ?_⟩
    cbv
    exact ⟨congrArg AV.agg hv.symm, rfl, trivial⟩
  · have tn := tN (v 6) hN hb.1 hb.2
    have hv : vac u = [aI (v 0), aI (v 1), aI (v 2), aI (v 3), aI (v 4), aI (v 5), aI dN, aI (v 7), aI (v 8), aI (v 9), aI (v 10), aI (v 11), aI (v 12), aI (v 13), aI (v 14), aI (v 15)] := by rw [hu]; rfl
    clear hu hN hb tN
    cbv
    refine ⟨_, hr, ?_⟩
    cbv
    rw [tbn]
    refine cF (rfl) ?_
    cbv
    refine ⟨_, hdt, ?_⟩
    cbv
    rw [tbn]
    cbv
    refine bF (rfl) ?_
    cbv
    refine ⟨hC _ _ _ (ben_ok (by kernel_rfl)), ?_⟩
    cbv
    refine ⟨6, hR, by decide, ?_⟩
    cbv
    rw [tn]
    refine bF (rfl) ?_
    cbv
    refine ⟨6, hR, by decide, ?_⟩
    cbv
    exact ⟨congrArg AV.agg hv.symm, rfl, trivial⟩
  · have tn := tN (v 7) hN hb.1 hb.2
    have hv : vac u = [aI (v 0), aI (v 1), aI (v 2), aI (v 3), aI (v 4), aI (v 5), aI (v 6), aI dN, aI (v 8), aI (v 9), aI (v 10), aI (v 11), aI (v 12), aI (v 13), aI (v 14), aI (v 15)] := by rw [hu]; rfl
    clear hu hN hb tN
    cbv
    refine ⟨_, hr, ?_⟩
    cbv
    rw [tbn]
    refine cF (rfl) ?_
    cbv
    refine ⟨_, hdt, ?_⟩
    cbv
    rw [tbn]
    cbv
    refine bF (rfl) ?_
    cbv
    refine ⟨hC _ _ _ (ben_ok (by kernel_rfl)), ?_⟩
    cbv
    refine ⟨7, hR, by decide, ?_⟩
    cbv
    rw [tn]
    refine bF (rfl) ?_
    cbv
    refine ⟨7, hR, by decide, ?_⟩
    cbv
    exact ⟨congrArg AV.agg hv.symm, rfl, trivial⟩
  · have tn := tN (v 8) hN hb.1 hb.2
    have hv : vac u = [aI (v 0), aI (v 1), aI (v 2), aI (v 3), aI (v 4), aI (v 5), aI (v 6), aI (v 7), aI dN, aI (v 9), aI (v 10), aI (v 11), aI (v 12), aI (v 13), aI (v 14), aI (v 15)] := by rw [hu]; rfl
    clear hu hN hb tN
    cbv
    refine ⟨_, hr, ?_⟩
    cbv
    rw [tbn]
    refine cF (rfl) ?_
    cbv
    refine ⟨_, hdt, ?_⟩
    cbv
    rw [tbn]
    cbv
    refine bF (rfl) ?_
    cbv
    refine ⟨hC _ _ _ (ben_ok (by kernel_rfl)), ?_⟩
    cbv
    refine ⟨8, hR, by decide, ?_⟩
    cbv
    rw [tn]
    refine bF (rfl) ?_
    cbv
    refine ⟨8, hR, by decide, ?_⟩
    cbv
    exact ⟨congrArg AV.agg hv.symm, rfl, trivial⟩
  · have tn := tN (v 9) hN hb.1 hb.2
    have hv : vac u = [aI (v 0), aI (v 1), aI (v 2), aI (v 3), aI (v 4), aI (v 5), aI (v 6), aI (v 7), aI (v 8), aI dN, aI (v 10), aI (v 11), aI (v 12), aI (v 13), aI (v 14), aI (v 15)] := by rw [hu]; rfl
    clear hu hN hb tN
    cbv
    refine ⟨_, hr, ?_⟩
    cbv
    rw [tbn]
    refine cF (rfl) ?_
    cbv
    refine ⟨_, hdt, ?_⟩
    cbv
    rw [tbn]
    cbv
    refine bF (rfl) ?_
    cbv
    refine ⟨hC _ _ _ (ben_ok (by kernel_rfl)), ?_⟩
    cbv
    refine ⟨9, hR, by decide, ?_⟩
    cbv
    rw [tn]
    refine bF (rfl) ?_
    cbv
    refine ⟨9, hR, by decide, ?_⟩
    cbv
    exact ⟨congrArg AV.agg hv.symm, rfl, trivial⟩
  · have tn := tN (v 10) hN hb.1 hb.2
    have hv : vac u = [aI (v 0), aI (v 1), aI (v 2), aI (v 3), aI (v 4), aI (v 5), aI (v 6), aI (v 7), aI (v 8), aI (v 9), aI dN, aI (v 11), aI (v 12), aI (v 13), aI (v 14), aI (v 15)] := by rw [hu]; rfl
    clear hu hN hb tN
    cbv
    refine ⟨_, hr, ?_⟩
    cbv
    rw [tbn]
    refine cF (rfl) ?_
    cbv
    refine ⟨_, hdt, ?_⟩
    cbv
    rw [tbn]
    cbv
    refine bF (rfl) ?_
    cbv
    refine ⟨hC _ _ _ (ben_ok (by kernel_rfl)), ?_⟩
    cbv
    refine ⟨10, hR, by decide, ?_⟩
    cbv
    rw [tn]
    refine bF (rfl) ?_
    cbv
    refine ⟨10, hR, by decide, ?_⟩
    cbv
    exact ⟨congrArg AV.agg hv.symm, rfl, trivial⟩
  · have tn := tN (v 11) hN hb.1 hb.2
    have hv : vac u = [aI (v 0), aI (v 1), aI (v 2), aI (v 3), aI (v 4), aI (v 5), aI (v 6), aI (v 7), aI (v 8), aI (v 9), aI (v 10), aI dN, aI (v 12), aI (v 13), aI (v 14), aI (v 15)] := by rw [hu]; rfl
    clear hu hN hb tN
    cbv
    refine ⟨_, hr, ?_⟩
    cbv
    rw [tbn]
    refine cF (rfl) ?_
    cbv
    refine ⟨_, hdt, ?_⟩
    cbv
    rw [tbn]
    cbv
    refine bF (rfl) ?_
    cbv
    refine ⟨hC _ _ _ (ben_ok (by kernel_rfl)), ?_⟩
    cbv
    refine ⟨11, hR, by decide, ?_⟩
    cbv
    rw [tn]
    refine bF (rfl) ?_
    cbv
    refine ⟨11, hR, by decide, ?_⟩
    cbv
    exact ⟨congrArg AV.agg hv.symm, rfl, trivial⟩
  · have tn := tN (v 12) hN hb.1 hb.2
    have hv : vac u = [aI (v 0), aI (v 1), aI (v 2), aI (v 3), aI (v 4), aI (v 5), aI (v 6), aI (v 7), aI (v 8), aI (v 9), aI (v 10), aI (v 11), aI dN, aI (v 13), aI (v 14), aI (v 15)] := by rw [hu]; rfl
    clear hu hN hb tN
    cbv
    refine ⟨_, hr, ?_⟩
    cbv
    rw [tbn]
    refine cF (rfl) ?_
    cbv
    refine ⟨_, hdt, ?_⟩
    cbv
    rw [tbn]
    cbv
    refine bF (rfl) ?_
    cbv
    refine ⟨hC _ _ _ (ben_ok (by kernel_rfl)), ?_⟩
    cbv
    refine ⟨12, hR, by decide, ?_⟩
    cbv
    rw [tn]
    refine bF (rfl) ?_
    cbv
    refine ⟨12, hR, by decide, ?_⟩
    cbv
    exact ⟨congrArg AV.agg hv.symm, rfl, trivial⟩
  · have tn := tN (v 13) hN hb.1 hb.2
    have hv : vac u = [aI (v 0), aI (v 1), aI (v 2), aI (v 3), aI (v 4), aI (v 5), aI (v 6), aI (v 7), aI (v 8), aI (v 9), aI (v 10), aI (v 11), aI (v 12), aI dN, aI (v 14), aI (v 15)] := by rw [hu]; rfl
    clear hu hN hb tN
    cbv
    refine ⟨_, hr, ?_⟩
    cbv
    rw [tbn]
    refine cF (rfl) ?_
    cbv
    refine ⟨_, hdt, ?_⟩
    cbv
    rw [tbn]
    cbv
    refine bF (rfl) ?_
    cbv
    refine ⟨hC _ _ _ (ben_ok (by kernel_rfl)), ?_⟩
    cbv
    refine ⟨13, hR, by decide, ?_⟩
    cbv
    rw [tn]
    refine bF (rfl) ?_
    cbv
    refine ⟨13, hR, by decide, ?_⟩
    cbv
    exact ⟨congrArg AV.agg hv.symm, rfl, trivial⟩
  · have tn := tN (v 14) hN hb.1 hb.2
    have hv : vac u = [aI (v 0), aI (v 1), aI (v 2), aI (v 3), aI (v 4), aI (v 5), aI (v 6), aI (v 7), aI (v 8), aI (v 9), aI (v 10), aI (v 11), aI (v 12), aI (v 13), aI dN, aI (v 15)] := by rw [hu]; rfl
    clear hu hN hb tN
    cbv
    refine ⟨_, hr, ?_⟩
    cbv
    rw [tbn]
    refine cF (rfl) ?_
    cbv
    refine ⟨_, hdt, ?_⟩
    cbv
    rw [tbn]
    cbv
    refine bF (rfl) ?_
    cbv
    refine ⟨hC _ _ _ (ben_ok (by kernel_rfl)), ?_⟩
    cbv
    refine ⟨14, hR, by decide, ?_⟩
    cbv
    rw [tn]
    refine bF (rfl) ?_
    cbv
    refine ⟨14, hR, by decide, ?_⟩
    cbv
    exact ⟨congrArg AV.agg hv.symm, rfl, trivial⟩
  · have tn := tN (v 15) hN hb.1 hb.2
    have hv : vac u = [aI (v 0), aI (v 1), aI (v 2), aI (v 3), aI (v 4), aI (v 5), aI (v 6), aI (v 7), aI (v 8), aI (v 9), aI (v 10), aI (v 11), aI (v 12), aI (v 13), aI (v 14), aI dN] := by rw [hu]; rfl
    clear hu hN hb tN
    cbv
    refine ⟨_, hr, ?_⟩
    cbv
    rw [tbn]
    refine cF (rfl) ?_
    cbv
    refine ⟨_, hdt, ?_⟩
    cbv
    rw [tbn]
    cbv
    refine bF (rfl) ?_
    cbv
    refine ⟨hC _ _ _ (ben_ok (by kernel_rfl)), ?_⟩
    cbv
    refine ⟨15, hR, by decide, ?_⟩
    cbv
    rw [tn]
    refine bF (rfl) ?_
    cbv
    refine ⟨15, hR, by decide, ?_⟩
    cbv
    exact ⟨congrArg AV.agg hv.symm, rfl, trivial⟩
end Go.Proofs.Ytdnaadcbimbfmaa
set_option linter.unusedSimpArgs false
set_option linter.unusedVariables false
namespace Go.Proofs.Ytdnaadcbimbfmaa
open Go Go.RowKit Am

/-! ### event.uses, can -/
structure Us where
  f : Bool
  v : Bool
  n : Bool
  r : Bool
  ok : Bool
def usesU (k : Int) : Us := ⟨decide (k = 3) || decide (k = 4) || decide (k = 6) || decide (k = 8) || decide (k = 5) || decide (k = 7), decide (k = 1) || decide (k = 5) || decide (k = 9), decide (k = 2) || decide (k = 7), decide (k = 9) || decide (k = 10), decide (1 ≤ k) && decide (k ≤ 11)⟩
theorem uses_ok (k : Int) (u : Us) (hu : u = usesU k) : CSem Try.prog (.fn 68) [aI k] (.pure [.agg [aB u.f, aB u.v, aB u.n, aB u.r], aB u.ok]) := by
  refine of_text gam_ok mixed { n := 32 } Try.func68 (by kernel_rfl) rfl rfl (by simp) (by decide) fun F C D hF hC hD => ?_
  have te : ∀ m : Int, F .cmp .eql k m = decide (k = m) := fun m => eqF hF k m
  clear hC hD
  by_cases hk : 1 ≤ k ∧ k ≤ 11
  · obtain rfl | rfl | rfl | rfl | rfl | rfl | rfl | rfl | rfl | rfl | rfl : k = 1 ∨ k = 2 ∨ k = 3 ∨ k = 4 ∨ k = 5 ∨ k = 6 ∨ k = 7 ∨ k = 8 ∨ k = 9 ∨ k = 10 ∨ k = 11 := by omega
    all_goals (subst hu; clear hk te; subst hF; cbv; repeat (first | (refine bT rfl ?_; cbv) | (refine bF rfl ?_; cbv)))
    all_goals (first | exact ⟨rfl, rfl, trivial⟩ | trivial)
  · have tn : ∀ m : Int, 1 ≤ m → m ≤ 11 → F .cmp .eql k m = false := fun m h1 h2 => by rw [te]; exact decide_eq_false (by omega)
    have hu0 : u = ⟨false, false, false, false, false⟩ := by
      have d : ∀ m : Int, 1 ≤ m → m ≤ 11 → decide (k = m) = false := fun m h1 h2 => decide_eq_false (by omega)
      rw [hu]
      unfold usesU
      rw [d 3 (by decide) (by decide), d 4 (by decide) (by decide), d 6 (by decide) (by decide), d 8 (by decide) (by decide), d 5 (by decide) (by decide), d 7 (by decide) (by decide), d 1 (by decide) (by decide), d 9 (by decide) (by decide), d 2 (by decide) (by decide), d 10 (by decide) (by decide)]
      have : (decide (1 ≤ k) && decide (k ≤ 11)) = false := by
        simp only [Bool.and_eq_false_iff, decide_eq_false_iff_not]; omega
      rw [this]; rfl
    subst hu0
    have t1 := tn 1 (by decide) (by decide)
    have t2 := tn 2 (by decide) (by decide)
    have t3 := tn 3 (by decide) (by decide)
    have t4 := tn 4 (by decide) (by decide)
    have t5 := tn 5 (by decide) (by decide)
    have t6 := tn 6 (by decide) (by decide)
    have t7 := tn 7 (by decide) (by decide)
    have t8 := tn 8 (by decide) (by decide)
    have t9 := tn 9 (by decide) (by decide)
    have t10 := tn 10 (by decide) (by decide)
    have t11 := tn 11 (by decide) (by decide)
    clear tn te hk hu
    cbv
    repeat (first | (refine bF rfl ?_; cbv) | rw [t1] | rw [t2] | rw [t3] | rw [t4] | rw [t5] | rw [t6] | rw [t7] | rw [t8] | rw [t9] | rw [t10] | rw [t11])
    all_goals (first | exact ⟨rfl, rfl, trivial⟩ | trivial)
def canB (o : Opn) : Bool := (usesU o.kind).ok && decide (o.key ≠ BA []) && decide (o.key.size ≤ 64) && decide (o.fld.size ≤ 64) && decide (o.val.size ≤ 64) && decide (-1099511627776 ≤ o.num) && decide (o.num ≤ 1099511627776) &&
  (((usesU o.kind).f || decide (o.fld = BA [])) && ((usesU o.kind).v || decide (o.val = BA [])) && ((usesU o.kind).n || decide (o.num = 0)) && ((usesU o.kind).r || decide (o.ref = ⟨0, 0⟩)))
set_option maxRecDepth 100000 in
theorem can_ok (o : Opn) (r : Bool) (hr : r = canB o) : CSem Try.prog (.fn 50) [.agg o.ac] (.pure [aB r]) := by
  refine of_text gam_ok mixed { n := 76 } Try.func50 (by kernel_rfl) rfl rfl (by simp) (by decide) fun F C D hF hC hD => ?_
  obtain ⟨u, hu⟩ : ∃ u, u = usesU o.kind := ⟨_, rfl⟩
  have hus := hC _ _ _ (uses_ok o.kind u hu)
  obtain ⟨q, hq, heq⟩ := dtEq_ok o.ref ⟨0, 0⟩
  have heq := hC _ _ _ heq
  unfold canB at hr
  rw [← hu] at hr
  have hqd : decide (o.ref = (⟨0, 0⟩ : Dt)) = q := by
    cases hqq : q with
    | true => exact decide_eq_true (hq.1 hqq)
    | false => exact decide_eq_false fun h => by rw [hq.2 h] at hqq; cases hqq
  rw [hqd] at hr
  obtain ⟨uf, uv, un, ur, uo⟩ := u
  obtain ⟨kind, key, fld, val, num, ref⟩ := o
  obtain ⟨rR, rN⟩ := ref
  obtain ⟨k0, e1⟩ : ∃ c, F .scmp .eql key ⟨⟨[]⟩⟩ = c := ⟨_, rfl⟩
  obtain ⟨k1, e2⟩ : ∃ c, F .cmp .gtr (F .mx (F .mx (F .slen key) (F .slen fld)) (F .slen val)) 64 = c := ⟨_, rfl⟩
  obtain ⟨k2, e3⟩ : ∃ c, F .cmp .lss num (-1099511627776) = c := ⟨_, rfl⟩
  obtain ⟨k3, e4⟩ : ∃ c, F .cmp .gtr num 1099511627776 = c := ⟨_, rfl⟩
  obtain ⟨k4, e5⟩ : ∃ c, F .scmp .eql fld ⟨⟨[]⟩⟩ = c := ⟨_, rfl⟩
  obtain ⟨k5, e6⟩ : ∃ c, F .scmp .eql val ⟨⟨[]⟩⟩ = c := ⟨_, rfl⟩
  obtain ⟨k6, e7⟩ : ∃ c, F .cmp .eql num 0 = c := ⟨_, rfl⟩
  have e0 := bnotF hF uo
  have hr2 : r = (uo && !k0 && !k1 && !k2 && !k3 && ((uf || k4) && (uv || k5) && (un || k6) && (ur || q))) := by
    have d1 : decide (key ≠ BA []) = !k0 := by rw [← e1, seqF hF, decide_not]; rfl
    have d4 : decide (fld = BA []) = k4 := by rw [← e5, seqF hF]; rfl
    have d5 : decide (val = BA []) = k5 := by rw [← e6, seqF hF]; rfl
    have d6 : decide (num = 0) = k6 := by rw [← e7, eqF hF]
    have d2 : decide (-1099511627776 ≤ num) = !k2 := by rw [← e3, lsF hF]; by_cases h : num < -1099511627776 <;> simp [h] <;> omega
    have d3 : decide (num ≤ 1099511627776) = !k3 := by rw [← e4, gtF hF]; by_cases h : num > 1099511627776 <;> simp [h] <;> omega
    have dm : ∀ x y : Int, F .mx x y = max x y := fun x y => by rw [hF]; show (if x < y then y else x) = max x y; omega
    have dz : (decide (key.size ≤ 64) && decide (fld.size ≤ 64) && decide (val.size ≤ 64)) = !k1 := by
      rw [← e2, gtF hF, dm, dm, slenF hF, slenF hF, slenF hF]
      by_cases h : max (max (key.size : Int) (fld.size : Int)) (val.size : Int) > 64
      · rw [decide_eq_true h]
        simp only [Bool.not_true, Bool.and_eq_false_iff, decide_eq_false_iff_not]
        omega
      · rw [decide_eq_false h]
        simp only [Bool.not_false, Bool.and_eq_true, decide_eq_true_eq]
        omega
    simp only at hr
    rw [hr, d1, d4, d5, d6, d2, d3, ← dz]
    simp only [Bool.and_assoc]
  clear hr hq hu hqd
  cbv
  refine ⟨_, hus, ?_⟩
  cbv
  rw [e0]
  clear e0 hC hD
  cases uo <;> (repeat (first | (refine bT rfl ?_; cbv) | (refine bF rfl ?_; cbv) | (refine cT rfl ?_; cbv) | (refine cF rfl ?_; cbv) | (refine ⟨_, heq, ?_⟩; cbv)))
  all_goals (try (rw [e1]; clear e1; cases k0 <;> (repeat (first | (refine bT rfl ?_; cbv) | (refine bF rfl ?_; cbv) | (refine cT rfl ?_; cbv) | (refine cF rfl ?_; cbv) | (refine ⟨_, heq, ?_⟩; cbv)))))
  all_goals (try (rw [e2]; clear e2; cases k1 <;> (repeat (first | (refine bT rfl ?_; cbv) | (refine bF rfl ?_; cbv) | (refine cT rfl ?_; cbv) | (refine cF rfl ?_; cbv) | (refine ⟨_, heq, ?_⟩; cbv)))))
  all_goals (try (rw [e3]; clear e3; cases k2 <;> (repeat (first | (refine bT rfl ?_; cbv) | (refine bF rfl ?_; cbv) | (refine cT rfl ?_; cbv) | (refine cF rfl ?_; cbv) | (refine ⟨_, heq, ?_⟩; cbv)))))
  all_goals (try (rw [e4]; clear e4; cases k3 <;> (repeat (first | (refine bT rfl ?_; cbv) | (refine bF rfl ?_; cbv) | (refine cT rfl ?_; cbv) | (refine cF rfl ?_; cbv) | (refine ⟨_, heq, ?_⟩; cbv)))))
  all_goals (try (cases uf <;> (repeat (first | (refine bT rfl ?_; cbv) | (refine bF rfl ?_; cbv) | (refine cT rfl ?_; cbv) | (refine cF rfl ?_; cbv) | (refine ⟨_, heq, ?_⟩; cbv)))))
  all_goals (try (rw [e5]; clear e5; cases k4 <;> (repeat (first | (refine bT rfl ?_; cbv) | (refine bF rfl ?_; cbv) | (refine cT rfl ?_; cbv) | (refine cF rfl ?_; cbv) | (refine ⟨_, heq, ?_⟩; cbv)))))
  all_goals (try (cases uv <;> (repeat (first | (refine bT rfl ?_; cbv) | (refine bF rfl ?_; cbv) | (refine cT rfl ?_; cbv) | (refine cF rfl ?_; cbv) | (refine ⟨_, heq, ?_⟩; cbv)))))
  all_goals (try (rw [e6]; clear e6; cases k5 <;> (repeat (first | (refine bT rfl ?_; cbv) | (refine bF rfl ?_; cbv) | (refine cT rfl ?_; cbv) | (refine cF rfl ?_; cbv) | (refine ⟨_, heq, ?_⟩; cbv)))))
  all_goals (try (cases un <;> (repeat (first | (refine bT rfl ?_; cbv) | (refine bF rfl ?_; cbv) | (refine cT rfl ?_; cbv) | (refine cF rfl ?_; cbv) | (refine ⟨_, heq, ?_⟩; cbv)))))
  all_goals (try (rw [e7]; clear e7; cases k6 <;> (repeat (first | (refine bT rfl ?_; cbv) | (refine bF rfl ?_; cbv) | (refine cT rfl ?_; cbv) | (refine cF rfl ?_; cbv) | (refine ⟨_, heq, ?_⟩; cbv)))))
  all_goals (try (cases ur <;> (repeat (first | (refine bT rfl ?_; cbv) | (refine bF rfl ?_; cbv) | (refine cT rfl ?_; cbv) | (refine cF rfl ?_; cbv) | (refine ⟨_, heq, ?_⟩; cbv)))))
  all_goals (try (cases q <;> (repeat (first | (refine bT rfl ?_; cbv) | (refine bF rfl ?_; cbv) | (refine cT rfl ?_; cbv) | (refine cF rfl ?_; cbv) | (refine ⟨_, heq, ?_⟩; cbv)))))
  all_goals (subst hr2; clear heq; try simp; try rfl)
end Go.Proofs.Ytdnaadcbimbfmaa
set_option linter.unusedSimpArgs false
set_option linter.unusedVariables false
namespace Go.Proofs.Ytdnaadcbimbfmaa
open Go Go.RowKit Am

/-! ### event.Right -/
theorem ev_cut (e : Ev) : ∀ (m : Nat) (h : m < 16), cut (3 + m * 1) 1 e.ac = some [aI (e.deps ⟨m, h⟩)]
  | 0, _ => rfl
  | 1, _ => rfl
  | 2, _ => rfl
  | 3, _ => rfl
  | 4, _ => rfl
  | 5, _ => rfl
  | 6, _ => rfl
  | 7, _ => rfl
  | 8, _ => rfl
  | 9, _ => rfl
  | 10, _ => rfl
  | 11, _ => rfl
  | 12, _ => rfl
  | 13, _ => rfl
  | 14, _ => rfl
  | 15, _ => rfl
  | n+16, h => absurd h (by omega)
structure RightP (e : Ev) : Prop where
  r0 : 0 ≤ e.dot.R
  r1 : e.dot.R < 16
  n0 : 1 ≤ e.dot.N
  n1 : e.dot.N ≤ 1048576
  t0 : 0 ≤ e.time
  t1 : e.time ≤ 1152921504606846975
  vv : vrightP e.deps
  at' : vget e.deps e.dot.R = e.dot.N - 1
  can : canB e.op = true
  rf : hasB e.deps e.op.ref = true ∨ (e.op.kind ≠ 10 ∧ e.op.ref = ⟨0, 0⟩)
set_option maxRecDepth 100000 in
set_option maxHeartbeats 4000000 in
theorem right_ok (e : Ev) (r : Bool) (hr : r = true ↔ RightP e) : CSem Try.prog (.fn 25) [.agg e.ac] (.pure [aB r]) := by
  refine of_text gam_ok mixed { n := 77 } Try.func25 (by kernel_rfl) rfl rfl (by simp) (by decide) fun F C D hF hC hD => ?_
  obtain ⟨⟨R, N⟩, time, deps, op⟩ := e
  obtain ⟨rv, hrv⟩ : ∃ rv : Bool, (rv = true ↔ vrightP deps) := ⟨@decide (vrightP deps) (Classical.propDecidable _), by simp⟩
  have kv := hC _ _ _ (vRight_ok deps rv hrv)
  obtain ⟨rc, hrc⟩ : ∃ rc, rc = canB op := ⟨_, rfl⟩
  have kc := hC _ _ _ (can_ok op rc hrc)
  obtain ⟨rh, hrh⟩ : ∃ rh, rh = hasB deps op.ref := ⟨_, rfl⟩
  have kh := hC _ _ _ (has_ok deps op.ref rh hrh)
  obtain ⟨q, hq, heq⟩ := dtEq_ok op.ref ⟨0, 0⟩
  have heq := hC _ _ _ heq
  obtain ⟨kind, key, fld, val, num, rR, rN⟩ := op
  obtain ⟨k0, e0⟩ : ∃ c, F .cmp .lss R 0 = c := ⟨_, rfl⟩
  obtain ⟨k1, e1⟩ : ∃ c, F .cmp .geq R 16 = c := ⟨_, rfl⟩
  obtain ⟨k2, e2⟩ : ∃ c, F .cmp .lss N 1 = c := ⟨_, rfl⟩
  obtain ⟨k3, e3⟩ : ∃ c, F .cmp .gtr N 1048576 = c := ⟨_, rfl⟩
  obtain ⟨k4, e4⟩ : ∃ c, F .cmp .lss time 0 = c := ⟨_, rfl⟩
  obtain ⟨k5, e5⟩ : ∃ c, F .cmp .gtr time 1152921504606846975 = c := ⟨_, rfl⟩
  by_cases hA : 0 ≤ R ∧ R < 16 ∧ 1 ≤ N ∧ N ≤ 1048576 ∧ 0 ≤ time ∧ time ≤ 1152921504606846975
  · have z0 : k0 = false := by rw [← e0, lsF hF]; exact decide_eq_false (by omega)
    have z1 : k1 = false := by rw [← e1, geF hF]; exact decide_eq_false (by omega)
    have z2 : k2 = false := by rw [← e2, lsF hF]; exact decide_eq_false (by omega)
    have z3 : k3 = false := by rw [← e3, gtF hF]; exact decide_eq_false (by omega)
    have z4 : k4 = false := by rw [← e4, lsF hF]; exact decide_eq_false (by omega)
    have z5 : k5 = false := by rw [← e5, gtF hF]; exact decide_eq_false (by omega)
    subst z0; subst z1; subst z2; subst z3; subst z4; subst z5
    obtain ⟨m, hR⟩ : ∃ m : Nat, R = (m : Int) := ⟨R.toNat, (Int.toNat_of_nonneg hA.1).symm⟩
    have hm : m < 16 := by omega
    have hcut : cut (3 + m * 1) 1 (Ev.ac ⟨⟨R, N⟩, time, deps, ⟨kind, key, fld, val, num, ⟨rR, rN⟩⟩⟩) = some [aI (deps ⟨m, hm⟩)] := ev_cut _ m hm
    obtain ⟨x, hx⟩ : ∃ x, x = deps ⟨m, hm⟩ := ⟨_, rfl⟩
    rw [← hx] at hcut
    obtain ⟨n1, hn1⟩ : ∃ y, F .ar .sub .i64 N 1 = y := ⟨_, rfl⟩
    have en1 : n1 = N - 1 := by rw [← hn1, hF]; exact wrap_in (by omega) (by omega)
    obtain ⟨kx, ex⟩ : ∃ c, F .cmp .neq x n1 = c := ⟨_, rfl⟩
    obtain ⟨k10, e10⟩ : ∃ c, F .cmp .neq kind 10 = c := ⟨_, rfl⟩
    have bv := bnotF hF rv
    have bc := bnotF hF rc
    have hvg : vget deps R = x := by unfold vget; rw [hR, Int.toNat_natCast, dif_pos hm, hx]
    have hkx : kx = false ↔ x = N - 1 := by rw [← ex, neF hF, en1]; simp
    have hk10 : k10 = true ↔ kind ≠ 10 := by rw [← e10, neF hF]; simp
    have hr2 : r = (rv && !kx && rc && (rh || (k10 && q))) := by
      rw [Bool.eq_iff_iff, hr]
      simp only [Bool.and_eq_true, Bool.or_eq_true, Bool.not_eq_true', hrv, hkx, hk10, hq, hrc, hrh]
      constructor
      · intro h
        exact ⟨⟨⟨h.vv, by have := h.at'; rw [← hvg]; exact this⟩, h.can⟩, h.rf⟩
      · rintro ⟨⟨⟨h1, h2⟩, h3⟩, h4⟩
        exact ⟨hA.1, hA.2.1, hA.2.2.1, hA.2.2.2.1, hA.2.2.2.2.1, hA.2.2.2.2.2, h1, by show vget deps R = N - 1; rw [hvg]; exact h2, h3, h4⟩
    clear hr hA hrv hrc hrh hq hx hvg hkx hk10 en1
    cbv
    rw [e0]
    refine cF (rfl) ?_
    cbv
    rw [e1]
    refine cF (rfl) ?_
    cbv
    rw [e2]
    refine cF (rfl) ?_
    cbv
    rw [e3]
    refine cF (rfl) ?_
    cbv
    rw [e4]
    refine cF (rfl) ?_
    cbv
    rw [e5]
    refine bF (rfl) ?_
    cbv
    refine ⟨hC _ _ _ (ben_ok (by kernel_rfl)), ?_⟩
    cbv
    refine ⟨_, kv, ?_⟩
    cbv
    rw [bv]
    clear bv kv
    cases rv with
    | false =>
      repeat (first | (refine bT rfl ?_; cbv) | (refine bF rfl ?_; cbv) | (refine cT rfl ?_; cbv) | (refine cF rfl ?_; cbv))
      subst hr2; simp
    | true =>
      repeat (first | (refine bT rfl ?_; cbv) | (refine bF rfl ?_; cbv) | (refine cT rfl ?_; cbv) | (refine cF rfl ?_; cbv))
      refine ⟨m, _, hR, hm, hcut, ?_⟩
      cbv
      rw [hn1, ex]
      clear ex hn1 hcut
      cases kx with
      | true =>
        repeat (first | (refine bT rfl ?_; cbv) | (refine bF rfl ?_; cbv) | (refine cT rfl ?_; cbv) | (refine cF rfl ?_; cbv))
        subst hr2; simp
      | false =>
        repeat (first | (refine bT rfl ?_; cbv) | (refine bF rfl ?_; cbv) | (refine cT rfl ?_; cbv) | (refine cF rfl ?_; cbv))
        refine ⟨_, kc, ?_⟩
        cbv
        rw [bc]
        clear kc bc
        cases rc with
        | false =>
          repeat (first | (refine bT rfl ?_; cbv) | (refine bF rfl ?_; cbv) | (refine cT rfl ?_; cbv) | (refine cF rfl ?_; cbv))
          subst hr2; simp
        | true =>
          repeat (first | (refine bT rfl ?_; cbv) | (refine bF rfl ?_; cbv) | (refine cT rfl ?_; cbv) | (refine cF rfl ?_; cbv))
          refine ⟨_, kh, ?_⟩
          cbv
          clear kh
          cases rh with
          | true =>
            repeat (first | (refine bT rfl ?_; cbv) | (refine bF rfl ?_; cbv) | (refine cT rfl ?_; cbv) | (refine cF rfl ?_; cbv))
            subst hr2; simp
          | false =>
            repeat (first | (refine bT rfl ?_; cbv) | (refine bF rfl ?_; cbv) | (refine cT rfl ?_; cbv) | (refine cF rfl ?_; cbv))
            rw [e10]
            clear e10
            cases k10 with
            | false =>
              repeat (first | (refine bT rfl ?_; cbv) | (refine bF rfl ?_; cbv) | (refine cT rfl ?_; cbv) | (refine cF rfl ?_; cbv))
              subst hr2; simp
            | true =>
              repeat (first | (refine bT rfl ?_; cbv) | (refine bF rfl ?_; cbv) | (refine cT rfl ?_; cbv) | (refine cF rfl ?_; cbv))
              refine ⟨_, heq, ?_⟩
              cbv
              subst hr2; simp
  · have hrf : r = false := by
      cases hrr : r with
      | false => rfl
      | true => have h := hr.1 hrr; exact absurd ⟨h.r0, h.r1, h.n0, h.n1, h.t0, h.t1⟩ hA
    have hor : ¬ (k0 = false ∧ k1 = false ∧ k2 = false ∧ k3 = false ∧ k4 = false ∧ k5 = false) := by
      rintro ⟨z0, z1, z2, z3, z4, z5⟩
      rw [← e0, lsF hF] at z0
      rw [← e1, geF hF] at z1
      rw [← e2, lsF hF] at z2
      rw [← e3, gtF hF] at z3
      rw [← e4, lsF hF] at z4
      rw [← e5, gtF hF] at z5
      have := of_decide_eq_false z0
      have := of_decide_eq_false z1
      have := of_decide_eq_false z2
      have := of_decide_eq_false z3
      have := of_decide_eq_false z4
      have := of_decide_eq_false z5
      exact hA (by omega)
    subst hrf
    clear hr hA hrv hrc hrh hq kv kc kh heq hC hD
    cbv
    rw [e0]
    clear e0
    cases k0 <;> (repeat (first | (refine bT rfl ?_; cbv) | (refine bF rfl ?_; cbv) | (refine cT rfl ?_; cbv) | (refine cF rfl ?_; cbv)))
    all_goals (try (rw [e1]; clear e1; cases k1 <;> (repeat (first | (refine bT rfl ?_; cbv) | (refine bF rfl ?_; cbv) | (refine cT rfl ?_; cbv) | (refine cF rfl ?_; cbv)))))
    all_goals (try (rw [e2]; clear e2; cases k2 <;> (repeat (first | (refine bT rfl ?_; cbv) | (refine bF rfl ?_; cbv) | (refine cT rfl ?_; cbv) | (refine cF rfl ?_; cbv)))))
    all_goals (try (rw [e3]; clear e3; cases k3 <;> (repeat (first | (refine bT rfl ?_; cbv) | (refine bF rfl ?_; cbv) | (refine cT rfl ?_; cbv) | (refine cF rfl ?_; cbv)))))
    all_goals (try (rw [e4]; clear e4; cases k4 <;> (repeat (first | (refine bT rfl ?_; cbv) | (refine bF rfl ?_; cbv) | (refine cT rfl ?_; cbv) | (refine cF rfl ?_; cbv)))))
    all_goals (try (rw [e5]; clear e5; cases k5))
    all_goals (first | (exact absurd ⟨rfl, rfl, rfl, rfl, rfl, rfl⟩ hor) | (repeat (first | (refine bT rfl ?_; cbv) | (refine bF rfl ?_; cbv) | (refine cT rfl ?_; cbv) | (refine cF rfl ?_; cbv)); (try simp)))
end Go.Proofs.Ytdnaadcbimbfmaa
set_option linter.unusedSimpArgs false
set_option linter.unusedVariables false
namespace Go.Proofs.Ytdnaadcbimbfmaa
open Go Go.RowKit Am

/-! ### Space.Ready, VV, Time -/
def spA (mA : AV) (v : VV) (t : Int) : List AV := [mA, aI (v 0), aI (v 1), aI (v 2), aI (v 3), aI (v 4), aI (v 5), aI (v 6), aI (v 7), aI (v 8), aI (v 9), aI (v 10), aI (v 11), aI (v 12), aI (v 13), aI (v 14), aI (v 15), aI t]
theorem sp_cut (mA : AV) (v : VV) (t : Int) : ∀ (m : Nat) (h : m < 16), cut (1 + m * 1) 1 (spA mA v t) = some [aI (v ⟨m, h⟩)]
  | 0, _ => rfl
  | 1, _ => rfl
  | 2, _ => rfl
  | 3, _ => rfl
  | 4, _ => rfl
  | 5, _ => rfl
  | 6, _ => rfl
  | 7, _ => rfl
  | 8, _ => rfl
  | 9, _ => rfl
  | 10, _ => rfl
  | 11, _ => rfl
  | 12, _ => rfl
  | 13, _ => rfl
  | 14, _ => rfl
  | 15, _ => rfl
  | n+16, h => absurd h (by omega)
theorem vv_ok (mA : AV) (v : VV) (t : Int) : CSem Try.prog (.fn 10) [.ept (spA mA v t) 0] (.pure [.agg (vac v)]) := by
  refine of_text gam_ok mixed { n := 10 } Try.func10 (by kernel_rfl) rfl rfl (by simp) (by decide) fun F C D hF hC hD => ?_
  cbv
  refine ⟨hC _ _ _ (show Try.prog.underlying 25 = _ from by kernel_rfl), ?_⟩
  cbv
  try simp
structure ReadyP (v : VV) (e : Ev) : Prop where
  rt : RightP e
  nx : e.dot.N = vget v e.dot.R + 1
  dp : joinV e.deps v = v
set_option maxRecDepth 100000 in
set_option maxHeartbeats 4000000 in
theorem ready_ok (mA : AV) (v : VV) (t : Int) (hv : vrightP v) (e : Ev) (r : Bool) (hr : r = true ↔ ReadyP v e) : CSem Try.prog (.fn 11) [.ept (spA mA v t) 0, .agg e.ac] (.pure [aB r]) := by
  refine of_text gam_ok mixed { n := 39 } Try.func11 (by kernel_rfl) rfl rfl (by simp) (by decide) fun F C D hF hC hD => ?_
  obtain ⟨rr, hrr⟩ : ∃ rr : Bool, (rr = true ↔ RightP e) := ⟨@decide (RightP e) (Classical.propDecidable _), by simp⟩
  have kr := hC _ _ _ (right_ok e rr hrr)
  have kj := hC _ _ _ (join_ok e.deps v _ rfl)
  obtain ⟨q, hq, heq0⟩ := vvEq_ok (joinV e.deps v) v
  have heq := hC _ _ _ heq0
  clear heq0
  obtain ⟨J, hJ⟩ : ∃ J, J = joinV e.deps v := ⟨_, rfl⟩
  rw [← hJ] at kj heq hq
  have br0 := bnotF hF rr
  have nilp := hC _ _ _ (show CSem Try.prog (.nilp 25) [] (.pure []) from (show Try.prog.underlying 25 = _ from by kernel_rfl))
  by_cases hR : RightP e
  · have hrt : rr = true := hrr.2 hR
    obtain ⟨m, hRm⟩ : ∃ m : Nat, e.dot.R = (m : Int) := ⟨e.dot.R.toNat, (Int.toNat_of_nonneg hR.r0).symm⟩
    have hm : m < 16 := by have := hR.r1; omega
    have hcut := sp_cut mA v t m hm
    obtain ⟨x, hx⟩ : ∃ x, x = v ⟨m, hm⟩ := ⟨_, rfl⟩
    rw [← hx] at hcut
    have hxr := hv ⟨m, hm⟩
    rw [← hx] at hxr
    obtain ⟨x1, hx1⟩ : ∃ y, F .ar .add .i64 x 1 = y := ⟨_, rfl⟩
    have ex1 : x1 = x + 1 := by rw [← hx1, hF]; exact wrap_in (by have := hxr.1; omega) (by have := hxr.2; omega)
    have hvg : vget v e.dot.R = x := by unfold vget; rw [hRm, Int.toNat_natCast, dif_pos hm, hx]
    obtain ⟨kx, ekx⟩ : ∃ c, F .cmp .neq e.dot.N x1 = c := ⟨_, rfl⟩
    have hkx : kx = false ↔ e.dot.N = x + 1 := by rw [← ekx, neF hF, ex1]; simp
    have hr2 : r = (!kx && q) := by
      rw [Bool.eq_iff_iff, hr]
      simp only [Bool.and_eq_true, Bool.not_eq_true', hkx, hq]
      exact ⟨fun h => ⟨by rw [← hvg]; exact h.nx, by rw [hJ]; exact h.dp⟩, fun h => ⟨hR, by rw [hvg]; exact h.1, by rw [← hJ]; exact h.2⟩⟩
    subst hrt
    clear hr hrr hq hJ hx hxr ex1 hvg hkx hR hv
    obtain ⟨⟨R, N⟩, time, deps, kind, key, fld, val, num, rR, rN⟩ := e
    simp only at hRm ekx
    cbv
    refine ⟨hC _ _ _ (ben_ok (by kernel_rfl)), ?_⟩
    cbv
    refine ⟨nilp, ?_⟩
    cbv
    refine ⟨_, kr, ?_⟩
    cbv
    rw [br0]
    clear kr br0
    repeat (first | (refine bT rfl ?_; cbv) | (refine bF rfl ?_; cbv) | (refine cT rfl ?_; cbv) | (refine cF rfl ?_; cbv))
    refine ⟨m, _, hRm, hm, hcut, ?_⟩
    cbv
    rw [hx1, ekx]
    clear hx1 ekx
    cases kx with
    | true =>
      repeat (first | (refine bT rfl ?_; cbv) | (refine bF rfl ?_; cbv) | (refine cT rfl ?_; cbv) | (refine cF rfl ?_; cbv))
      subst hr2; simp
    | false =>
      repeat (first | (refine bT rfl ?_; cbv) | (refine bF rfl ?_; cbv) | (refine cT rfl ?_; cbv) | (refine cF rfl ?_; cbv))
      refine ⟨hC _ _ _ (ben_ok (by kernel_rfl)), ?_⟩
      cbv
      refine ⟨_, kj, ?_⟩
      cbv
      refine ⟨_, heq, ?_⟩
      cbv
      subst hr2; simp
  · have hrf : r = false := by
      cases hrr : r with
      | false => rfl
      | true => exact absurd (hr.1 hrr).rt hR
    have hrt : rr = false := by
      cases h : rr with
      | false => rfl
      | true => exact absurd (hrr.1 h) hR
    subst hrf; subst hrt
    clear hr hrr hq hJ hR hv
    obtain ⟨⟨R, N⟩, time, deps, kind, key, fld, val, num, rR, rN⟩ := e
    cbv
    refine ⟨hC _ _ _ (ben_ok (by kernel_rfl)), ?_⟩
    cbv
    refine ⟨nilp, ?_⟩
    cbv
    refine ⟨_, kr, ?_⟩
    cbv
    rw [br0]
    repeat (first | (refine bT rfl ?_; cbv) | (refine bF rfl ?_; cbv) | (refine cT rfl ?_; cbv) | (refine cF rfl ?_; cbv))
    try simp
end Go.Proofs.Ytdnaadcbimbfmaa
set_option linter.unusedSimpArgs false
set_option linter.unusedVariables false
namespace Go.Proofs.Ytdnaadcbimbfmaa
open Go Go.RowKit Am

/-! ### What Apply does, plain -/
def stepA (e : Ev) (s : List ElE × List ElT) (x : Ev) : List ElE × List ElT :=
  if endsB e x = true then (delD dE s.1 x.dot, if x.op.kind = 9 then insD dT s.2 (x, e.dot) else s.2) else s
def foldA (e : Ev) (en : Ent) (k : Nat) : List ElE × List ElT := (en.lv.take k).foldl (stepA e) (en.lv, en.dd)
def applyE (e : Ev) (en : Ent) : Ent :=
  ⟨if addsB e.op.kind = true then insD dE (foldA e en en.lv.length).1 e else (foldA e en en.lv.length).1, (foldA e en en.lv.length).2⟩
/-- An entry whose bags rise, and whose dots are unlike. -/
structure EntOK (en : Ent) : Prop where
  lr : Rise dE en.lv
  dr : Rise dT en.dd
  ap : ∀ x ∈ en.lv, ∀ y ∈ en.dd, dE x ≠ dT y
theorem delD_mem {α : Type} (d : α → Dt) (l : List α) (x : Dt) (a : α) : a ∈ delD d l x ↔ a ∈ l ∧ d a ≠ x := by simp [delD]
/-- What holds behind k items. -/
structure FoldI (e : Ev) (en : Ent) (k : Nat) : Prop where
  lr : Rise dE (foldA e en k).1
  dr : Rise dT (foldA e en k).2
  lsub : ∀ x ∈ (foldA e en k).1, x ∈ en.lv
  rest : ∀ (j : Nat) (x : Ev), k ≤ j → en.lv[j]? = some x → x ∈ (foldA e en k).1
  dsub : ∀ y ∈ (foldA e en k).2, y ∈ en.dd ∨ ∃ (j : Nat) (x : Ev), j < k ∧ en.lv[j]? = some x ∧ x ∉ (foldA e en k).1 ∧ dT y = x.dot
  dlen : (foldA e en k).2.length ≤ en.dd.length + k
theorem foldA_succ (e : Ev) (en : Ent) (k : Nat) (x : Ev) (h : en.lv[k]? = some x) : foldA e en (k + 1) = stepA e (foldA e en k) x := by
  unfold foldA
  rw [List.take_add_one, h, List.foldl_append]; rfl
theorem lv_inj {en : Ent} (h : EntOK en) {i j : Nat} {x y : Ev} (hi : en.lv[i]? = some x) (hj : en.lv[j]? = some y) (hd : x.dot = y.dot) : i = j := rise_inj h.lr hi hj hd
theorem foldI (e : Ev) (en : Ent) (h : EntOK en) : ∀ k, k ≤ en.lv.length → FoldI e en k
  | 0, _ => ⟨h.lr, h.dr, fun x hx => hx, fun j x _ hx => List.mem_of_getElem? hx, fun y hy => .inl hy, by simp [foldA]⟩
  | k + 1, hk => by
    have ih := foldI e en h k (by omega)
    obtain ⟨x, hx⟩ : ∃ x, en.lv[k]? = some x := ⟨_, List.getElem?_eq_getElem (by omega)⟩
    have hs := foldA_succ e en k x hx
    unfold stepA at hs
    by_cases he : endsB e x = true
    · rw [if_pos he] at hs
      have hnew : ∀ y ∈ (foldA e en k).2, dT y ≠ dT (x, e.dot) := fun y hy hd => by
        rcases ih.dsub y hy with h1 | ⟨j, x', h1, h2, h3, h4⟩
        · exact h.ap x (List.mem_of_getElem? hx) y h1 hd.symm
        · have := lv_inj h h2 hx (h4.symm.trans hd)
          omega
      have hl : (foldA e en (k + 1)).1 = delD dE (foldA e en k).1 x.dot := by rw [hs]
      have hd : (foldA e en (k + 1)).2 = if x.op.kind = 9 then insD dT (foldA e en k).2 (x, e.dot) else (foldA e en k).2 := by rw [hs]
      refine ⟨by rw [hl]; exact delD_rise ih.lr _, ?_, fun y hy => ?_, fun j y hj hy => ?_, fun y hy => ?_, ?_⟩
      · rw [hd]
        split
        · exact insD_rise ih.dr hnew
        · exact ih.dr
      · rw [hl, delD_mem] at hy; exact ih.lsub y hy.1
      · rw [hl, delD_mem]
        exact ⟨ih.rest j y (by omega) hy, fun hdy => by have := lv_inj h hy hx hdy; omega⟩
      · have hno : x ∉ (foldA e en (k + 1)).1 := fun hm => by rw [hl, delD_mem] at hm; exact hm.2 rfl
        have hmono : ∀ z, z ∉ (foldA e en k).1 → z ∉ (foldA e en (k + 1)).1 := fun z hz hm => by rw [hl, delD_mem] at hm; exact hz hm.1
        have old : y ∈ (foldA e en k).2 → y ∈ en.dd ∨ ∃ (j : Nat) (x : Ev), j < k + 1 ∧ en.lv[j]? = some x ∧ x ∉ (foldA e en (k + 1)).1 ∧ dT y = x.dot := fun hy => by
          rcases ih.dsub y hy with h1 | ⟨j, x', h1, h2, h3, h4⟩
          · exact .inl h1
          · exact .inr ⟨j, x', by omega, h2, hmono x' h3, h4⟩
        rw [hd] at hy
        split at hy
        · rcases (insD_mem _ _ _ _).1 hy with rfl | hy
          · exact .inr ⟨k, x, by omega, hx, hno, rfl⟩
          · exact old hy
        · exact old hy
      · rw [hd]
        have := ih.dlen
        split
        · rw [insD_len]; omega
        · omega
    · rw [if_neg he] at hs
      rw [show FoldI e en (k + 1) = FoldI e en (k + 1) from rfl]
      refine ⟨by rw [hs]; exact ih.lr, by rw [hs]; exact ih.dr, by rw [hs]; exact ih.lsub, fun j y hj hy => by rw [hs]; exact ih.rest j y (by omega) hy, fun y hy => ?_, by rw [hs]; have := ih.dlen; omega⟩
      rw [hs] at hy ⊢
      rcases ih.dsub y hy with h1 | ⟨j, x', h1, h2, h3, h4⟩
      · exact .inl h1
      · exact .inr ⟨j, x', by omega, h2, h3, h4⟩
theorem delD_len {α : Type} (d : α → Dt) (l : List α) (x : Dt) : (delD d l x).length ≤ l.length := List.length_filter_le _ _
theorem foldA_len (e : Ev) (en : Ent) : ∀ k, k ≤ en.lv.length → (foldA e en k).1.length ≤ en.lv.length
  | 0, _ => Nat.le_refl _
  | k + 1, hk => by
    obtain ⟨x, hx⟩ : ∃ x, en.lv[k]? = some x := ⟨_, List.getElem?_eq_getElem (by omega)⟩
    rw [foldA_succ e en k x hx]
    have := foldA_len e en k (by omega)
    unfold stepA
    split
    · exact Nat.le_trans (delD_len _ _ _) this
    · exact this
noncomputable def Sp.idx (σ : Sp) (key : ByteArray) : Nat := (σ.at key).ks.findIdx fun k => @decide (k = key) (Classical.propDecidable _)
def EntD : Ent := ⟨[], []⟩
/-- What Apply leaves of a space, an event seen. -/
def Sp.app (σ : Sp) (i : Nat) (e : Ev) : Sp := { ks := σ.ks, es := σ.es.set i (applyE e ((σ.es[i]?).getD EntD)), vv := vset σ.vv e.dot.R.toNat e.dot.N, tm := max σ.tm e.time }
end Go.Proofs.Ytdnaadcbimbfmaa
set_option linter.unusedSimpArgs false
set_option linter.unusedVariables false
namespace Go.Proofs.Ytdnaadcbimbfmaa
open Go Go.RowKit Am

theorem loop_by {P : Program} {c : Code} {R : Exit → Act → World → Prop} {a : Act} {w : World} (I : Nat → Act → World → Prop) (μ : Nat → Nat) (i0 : Nat) (h0 : I i0 a w)
    (hs : ∀ i a w, I i a w → c.wp P (fun e a' w' => match e with | .normal => ∃ j, I j a' w' ∧ μ j < μ i | e => R e a' w') a w) : (Code.loop c).wp P R a w := by
  have key : ∀ (n i : Nat) (a : Act) (w : World), I i a w → μ i < n → Code.rounds P c R n a w := by
    intro n
    induction n with
    | zero => intro i a w _ h; omega
    | succ n ih =>
      intro i a w hI hn
      rw [rounds_succ]
      refine wp_mono (hs i a w hI) fun e a' w' h => ?_
      cases e with
      | normal => obtain ⟨j, hj, hm⟩ := h; exact ih j a' w' hj (by omega)
      | _ => exact h
  exact wp_loop_rounds (μ i0 + 1) (key _ i0 a w h0 (by omega))
/-- A walk beside a space. -/
structure AS (n : Nat) (w0 : World) (L0 : Lay) (p : Nat) (sl : List (Nat × AV)) (S : Nat → Prop) (L : Lay) (σ : Sp) (mv : Value) (a : Act) (w : World) : Prop where
  hi : HI n sl S a w
  sp : SpAt w L p σ mv
  ap : ∀ g, S g → L.o g = none
  kp : Kp L0.dom w0 w
  ex : Ext L0 L w0.heap.size
variable {n p : Nat} {w0 w w' : World} {L0 L L' : Lay} {sl sl' : List (Nat × AV)} {S S' : Nat → Prop} {σ σ' : Sp} {mv mv' : Value} {a a' : Act}
theorem AS.gr (h : AS n w0 L0 p sl S L σ mv a w) (h' : HI n sl' S' a' w') (hg : Gr w S w' S') : AS n w0 L0 p sl' S' L σ mv a' w' :=
  ⟨h', h.sp.below hg.below, fun g hs => by
    rcases hg.new g hs with h1 | h1
    · exact h.ap g h1
    · cases ho : L.o g with
      | none => rfl
      | some t => have := h.sp.dom g t ho; omega, h.kp.trans (Kp.of (U := L0.dom) hg.below) (fun g hd => .inl hd), h.ex⟩
theorem AS.wr (h : AS n w0 L0 p sl S L σ mv a w) (hs : SpAt w' L' p σ' mv') (hk : Kp L.dom w w') (hx : Ext L L' w.heap.size) : AS n w0 L0 p sl S L' σ' mv' a w' :=
  ⟨h.hi.out (hk.same h.hi.lt fun g hg hd => hd (h.ap g hg)) hk.size, hs, fun g hg => by
    cases ho : L'.o g with
    | none => rfl
    | some t =>
      rcases hx.new g (by rw [ho]; simp) with h1 | h1
      · exact absurd (h.ap g hg) h1
      · have := h.hi.lt g hg; omega, h.kp.trans hk (fun g hd => h.ex.new g hd), h.ex.trans hx h.kp.size⟩
theorem AS.bw (h : AS n w0 L0 p sl S L σ mv a w) (hb : Below w.heap.size w w') : AS n w0 L0 p sl S L σ mv a w' := h.wr (h.sp.below hb) (Kp.of hb) (Ext.refl _ _)
theorem AS.put (h : AS n w0 L0 p sl S L σ mv a w) {d : Nat} (hd : d < n) (x : AV) {v : Value} (hv : SRep w S (fun _ => .bool true) [] x v) : AS n w0 L0 p ((d, x) :: sl) S L σ mv (a.put (some d) v) w := ⟨h.hi.put hd x hv, h.sp, h.ap, h.kp, h.ex⟩
theorem AS.sub (h : AS n w0 L0 p sl S L σ mv a w) (hs : ∀ t x, lk t sl' = some x → lk t sl = some x) : AS n w0 L0 p sl' S L σ mv a w := ⟨h.hi.sub hs, h.sp, h.ap, h.kp, h.ex⟩
theorem AS.val (h : AS n w0 L0 p sl S L σ mv a w) {t : Nat} {v : Value} (ht : lk t sl = some (.v v)) : a.eval (.tmp t) = v := srep_v (h.hi.slots t _ ht).2
/-- A piece that the machine walks. -/
theorem AS.pc {E : En} {c : Code} {R : Exit → Act → World → Prop} (sl' : List (Nat × AV)) (h : AS E.n w0 L0 p sl S L σ mv a w) (hsl : (sl'.all fun q => fzA q.2) = true)
    (hw : ∀ (F : Sy) (C : Key → List AV → Res → Prop) (D : Code → (AE → St → Prop) → St → Prop), F = sy → (∀ k ar r, CSem Try.prog k ar r → C k ar r) → awp F C D E c (fun e s => match e with | .normal => ∃ ct, Le s { slots := sl', obs := [], ctr := ct } | _ => False) { slots := sl, obs := [], ctr := 0 })
    (k : ∀ S' a' w', AS E.n w0 L0 p sl' S' L σ mv a' w' → R .normal a' w') : c.wp Try.prog R a w :=
  Ytdnaadcbimbfmaa.pc sl' h.hi (fun q hq => List.all_eq_true.1 hsl q hq) hw fun S' a' w' h1 h2 => k S' a' w' (h.gr h1 h2)
theorem AS.pcl {E : En} {ops : Array Oper} {rest : List Oper} {R : Exit → Act → World → Prop} (sl' : List (Nat × AV)) (h : AS E.n w0 L0 p sl S L σ mv a w) (hsl : (sl'.all fun q => fzA q.2) = true)
    (hw : ∀ (F : Sy) (C : Key → List AV → Res → Prop), F = sy → (∀ k ar r, CSem Try.prog k ar r → C k ar r) → aops F C E ops.toList rest (fun s => ∃ ct, Le s { slots := sl', obs := [], ctr := ct }) { slots := sl, obs := [], ctr := 0 })
    (k : ∀ S' a' w', AS E.n w0 L0 p sl' S' L σ mv a' w' → R .normal a' w') : wpList Try.prog ops R rest a w :=
  Ytdnaadcbimbfmaa.pcl sl' h.hi (fun q hq => List.all_eq_true.1 hsl q hq) hw fun S' a' w' h1 h2 => k S' a' w' (h.gr h1 h2)
theorem wpList_pre {P : Program} {ops : Array Oper} {Q : Exit → Act → World → Prop} {l : List Oper} {a : Act} {w : World} (k : Nat) (h : wpList P ops (thenL P ops Q (l.drop k)) (l.take k) a w) : wpList P ops Q l a w := by
  have := wpList_app h
  rwa [List.take_append_drop] at this
/-- The first k operations by the machine. -/
theorem AS.pre {E : En} {ops : Array Oper} {l : List Oper} {R : Exit → Act → World → Prop} (m : Nat) (sl' : List (Nat × AV)) (h : AS E.n w0 L0 p sl S L σ mv a w) (hsl : (sl'.all fun q => fzA q.2) = true)
    (hw : ∀ (F : Sy) (C : Key → List AV → Res → Prop), F = sy → (∀ k ar r, CSem Try.prog k ar r → C k ar r) → aops F C E ops.toList (l.take m) (fun s => ∃ ct, Le s { slots := sl', obs := [], ctr := ct }) { slots := sl, obs := [], ctr := 0 })
    (k : ∀ S' a' w', AS E.n w0 L0 p sl' S' L σ mv a' w' → wpList Try.prog ops R (l.drop m) a' w') : wpList Try.prog ops R l a w :=
  wpList_pre m (h.pcl sl' hsl hw fun S' a' w' h' => k S' a' w' h')
/-- The beginning. -/
theorem AS.start {xs : List Value} {args : List AV} (ha : a.tmps.size = n) (hd : a.defers = []) (hsp : SpAt w L p σ mv) (hsl : ∀ t x, lk t sl = some x → t < n ∧ SRep w (fun _ => False) (fun _ => .bool true) [] x (a.tmps.getD t undef)) : AS n w L p sl (fun _ => False) L σ mv a w :=
  ⟨⟨ha, hd, fun g h => h.elim, gd_all _ _, hsl⟩, hsp, fun g h => h.elim, Kp.refl _ _, Ext.refl _ _⟩
end Go.Proofs.Ytdnaadcbimbfmaa
set_option linter.unusedSimpArgs false
set_option linter.unusedVariables false
namespace Go.Proofs.Ytdnaadcbimbfmaa
open Go Go.RowKit Am

def mapA (σ : Sp) : AV := match σ.ks with | [] => .v (.map none) | _ => .mp σ.ks (σ.es.map fun en => .ept [.sl (en.lv.map itE), .sl (en.dd.map itT)] 0)
theorem EntAt.rep {w : World} {o : Nat → Option Tag} {i : Nat} {en : Ent} {a : Nat} {v u : Value} {S : Nat → Prop} (h : EntAt w o i en a v u) (hS : ∀ g, o g ≠ none → S g) : RepC w S (.ept [.sl (en.lv.map itE), .sl (en.dd.map itT)] 0) (.pointer (some ⟨a, 0, none⟩)) := by
  have h1 : RepC w S (.sl (en.lv.map itE)) v := repc_of_own (B := 0) (e := 65) (sz := 28) (zs := (en.lv.map itvE).flatten) (by rw [List.length_map]; exact OwnR.of h.lv) (repl_rows itvE_ac itvE_one _) (fun r hr => by obtain ⟨a, _, rfl⟩ := List.mem_map.1 hr; rfl) (fun g hg => hS g (by rw [h.ol g hg]; simp))
  have h2 : RepC w S (.sl (en.dd.map itT)) u := repc_of_own (B := 0) (e := 72) (sz := 30) (zs := (en.dd.map itvT).flatten) (by rw [List.length_map]; exact OwnR.of h.dd) (repl_rows itvT_ac itvT_one _) (fun r hr => by obtain ⟨a, _, rfl⟩ := List.mem_map.1 hr; rfl) (fun g hg => hS g (by rw [h.od g hg]; simp))
  have := CellsAt.repc (w := w) (S := S) (a := ⟨a, 0, none⟩) (cs := [.sl (en.lv.map itE), .sl (en.dd.map itT)]) ⟨hS a (by rw [h.oa]; simp), fun j x hx => ?_⟩ 0
  · simpa [Addr.add_lit] using this
  · match j with
    | 0 => injection hx with hx; subst hx; exact ⟨v, by rw [Addr.add_lit, cell_of_row _ _ _ _ _ _ h.at']; rfl, h1⟩
    | 1 => injection hx with hx; subst hx; exact ⟨u, by rw [Addr.add_lit, cell_of_row _ _ _ _ _ _ h.at']; rfl, h2⟩
    | j + 2 => simp at hx
/-- The machine reads a space. -/
theorem SpAt.rep {w : World} {L : Lay} {p : Nat} {σ : Sp} {mv : Value} {S : Nat → Prop} (h : SpAt w L p σ mv) (hS : ∀ g, L.o g ≠ none → S g) : Rep w S (.ept (spA (mapA σ) σ.vv σ.tm) 0) (.pointer (some ⟨p, 0, none⟩)) := by
  have hm : RepC w S (mapA σ) mv := by
    unfold mapA
    rcases h.mp with ⟨rfl, h1⟩ | ⟨h0, m, es, clock, rfl, hm⟩
    · rw [h1]; exact .v _ rfl
    · have hel : es.toList.length = σ.ks.length := by have := congrArg List.length hm.keys; simpa using this
      have : RepC w S (.mp σ.ks (σ.es.map fun en => .ept [.sl (en.lv.map itE), .sl (en.dd.map itT)] 0)) (.map (some m)) := .mp _ _ es clock m (hS m (by rw [hm.om]; simp)) hm.at' hm.keys (by rw [List.length_map]; exact h.len) hm.nd hm.bd fun i u e hu he => by
        rw [List.getElem?_map] at hu
        obtain ⟨en, hen, rfl⟩ := Option.map_eq_some_iff.1 hu
        obtain ⟨q1, v, u, q2⟩ := hm.ents i e en he hen
        rw [q1]
        exact q2.rep hS
      split
      · rename_i hk; exact absurd hk h0
      · exact this
  have hl := RepL.cons hm (repl_map_v (w := w) (S := S) (vvs σ.vv ++ #[vI σ.tm]).toList (List.all_eq_true.1 (show ((vvs σ.vv ++ #[vI σ.tm]).toList).all (fun v => v.oneCell') = true from rfl)))
  have := Rep.ept (w := w) (S := S) (a := ⟨p, 0, none⟩) (cs := spA (mapA σ) σ.vv σ.tm) (off := 0) ⟨hS p (by rw [h.op]; simp), fun j x hx => ?_⟩
  · simpa [Addr.add_lit] using this
  · obtain ⟨y, hy, hr⟩ := RepL.get (show RepL w S (spA (mapA σ) σ.vv σ.tm) (mv :: (vvs σ.vv ++ #[vI σ.tm]).toList) from hl) hx
    refine ⟨y, ?_, hr⟩
    rw [Addr.add_lit, cell_of_row _ _ _ _ _ _ h.at', Nat.zero_add]
    have : (spV mv σ.vv σ.tm).toList[j]? = some y := hy
    simpa using this
theorem rep_ev {w : World} {S : Nat → Prop} (e : Ev) : Rep w S (.agg e.ac) (.agg e.vs) := .agg (xs := e.vs.toList) (repl_map_v e.vs.toList (List.all_eq_true.1 (show (e.vs.toList).all (fun v => v.oneCell') = true from rfl)))
theorem readyW {w : World} {L : Lay} {p : Nat} {σ : Sp} {mv : Value} (h : SpAt w L p σ mv) (hvv : vrightP σ.vv) (e : Ev) (r : Bool) (hr : r = true ↔ ReadyP σ.vv e) : Calls Try.prog 11 #[.pointer (some ⟨p, 0, none⟩), .agg e.vs] w fun x w' => x = .returned (.bool r) ∧ Below w.heap.size w w' := by
  refine ((ready_ok (mapA σ) σ.vv σ.tm hvv e r hr).2 w L.dom _ (fun g hg => ?_) (gd_all _ _) (Reps.cons (h.rep fun g hg => hg) (Reps.cons (rep_ev e) (Reps.nil _ _)))).mono fun x w' hh => ?_
  · cases ho : L.o g with
    | none => exact absurd ho hg
    | some t => exact h.dom g t ho
  · obtain ⟨y, S', rfl, hg, ys, rfl, hys⟩ := hh
    obtain ⟨z, zs, rfl, h1, hys⟩ := hys.uncons
    have := hys.unnil
    subst this
    rw [rep_v h1]
    exact ⟨rfl, hg.below⟩
theorem act2 (x y : Value) (n : Nat) (hn : 2 ≤ n) (a : Act) (h : a = { tmps := (#[x, y] : Array Value) ++ Array.replicate (n - (#[x, y] : Array Value).size) undef, defers := [] }) : a.tmps.size = n ∧ a.defers = [] ∧ a.tmps.getD 0 undef = x ∧ a.tmps.getD 1 undef = y := by
  subst h
  refine ⟨by simp; omega, rfl, by simp [Array.getD], by simp [Array.getD]; omega⟩
theorem xvone (e : Ev) : ∀ v ∈ e.vs.toList, v.oneCell' = true := List.all_eq_true.1 (show (e.vs.toList).all (fun v => v.oneCell') = true from rfl)
theorem repl_rows_uniq {w : World} {S : Nat → Prop} {α : Type} {it : α → List AV} {iv : α → List Value} (h : ∀ a, it a = (iv a).map .v) (l : List α) {zs : List Value} (hr : RepL w S (l.map it).flatten zs) : zs = (l.map iv).flatten := by
  have : (l.map it).flatten = ((l.map iv).flatten).map .v := by
    clear hr
    induction l with
    | nil => rfl
    | cons a l ih => rw [List.map_cons, List.flatten_cons, List.map_cons, List.flatten_cons, List.map_append, ih, h]
  rw [this] at hr
  exact repl_v _ _ hr
/-- Items, in whatever world. -/
theorem itemsEW {w : World} {b off : Nat} {v : Value} {l : List ElE} (h : BagAt w 65 28 b off v l.length (l.map itvE).flatten) (hl : l.length ≤ 1000000) : Calls Try.prog 21 #[.pointer (some ⟨b, off, none⟩)] w fun r w' => ∃ z, r = .returned z ∧ Below w.heap.size w w' ∧ OwnR w' w.heap.size 65 28 z l.length (l.map itvE).flatten := by
  refine ((itemsE_ok (l.map itE) (by rw [List.length_map]; exact hl) (fun r hr => by obtain ⟨a, _, rfl⟩ := List.mem_map.1 hr; rfl)).2 w (fun g => g = b ∨ v.ownBlock = some g) _ (fun g hg => ?_) (gd_all _ _) (Reps.cons (h.rep itvE_ac itvE_one itE_len (.inl rfl) fun g hg => .inr hg) (Reps.nil _ _))).mono fun r w' hh => ?_
  · rcases hg with rfl | hg
    · exact h.lt
    · exact h.blk g hg
  · obtain ⟨y, S', rfl, hg, z, ys, zs, rfl, hown, hrep, _, _, hys, _⟩ := hh
    have := hys.unnil
    subst this
    rw [repl_rows_uniq itvE_ac l hrep, List.length_map] at hown
    exact ⟨z, rfl, hg.below, hown⟩
theorem itemsTW {w : World} {b off : Nat} {v : Value} {l : List ElT} (h : BagAt w 72 30 b off v l.length (l.map itvT).flatten) (hl : l.length ≤ 1000000) : Calls Try.prog 24 #[.pointer (some ⟨b, off, none⟩)] w fun r w' => ∃ z, r = .returned z ∧ Below w.heap.size w w' ∧ OwnR w' w.heap.size 72 30 z l.length (l.map itvT).flatten := by
  refine ((itemsT_ok (l.map itT) (by rw [List.length_map]; exact hl) (fun r hr => by obtain ⟨a, _, rfl⟩ := List.mem_map.1 hr; rfl)).2 w (fun g => g = b ∨ v.ownBlock = some g) _ (fun g hg => ?_) (gd_all _ _) (Reps.cons (h.rep itvT_ac itvT_one itT_len (.inl rfl) fun g hg => .inr hg) (Reps.nil _ _))).mono fun r w' hh => ?_
  · rcases hg with rfl | hg
    · exact h.lt
    · exact h.blk g hg
  · obtain ⟨y, S', rfl, hg, z, ys, zs, rfl, hown, hrep, _, _, hys, _⟩ := hh
    have := hys.unnil
    subst this
    rw [repl_rows_uniq itvT_ac l hrep, List.length_map] at hown
    exact ⟨z, rfl, hg.below, hown⟩
/-- A new row comes in, and stays as it is. -/
theorem AS.row {n p : Nat} {w0 w w' : World} {L0 L : Lay} {sl : List (Nat × AV)} {S : Nat → Prop} {σ : Sp} {mv : Value} {a : Act} {α : Type} {it : α → List AV} {iv : α → List Value} {ety sz d : Nat} {z : Value} {l : List α} (h : AS n w0 L0 p sl S L σ mv a w) (hb : Below w.heap.size w w') (ho : OwnR w' w.heap.size ety sz z l.length (l.map iv).flatten) (hit : ∀ a, it a = (iv a).map .v) (h1 : ∀ a, ∀ v ∈ iv a, v.oneCell' = true) (hl : ∀ a, (it a).length = sz) (hd : d < n) :
    ∃ S', AS n w0 L0 p ((d, .sl (l.map it)) :: sl) S' L σ mv (a.put (some d) z) w' := by
  have hbw := h.bw hb
  have hlt : ∀ g, z.ownBlock = some g → w.heap.size ≤ g ∧ g < w'.heap.size := fun g hg => ho.lt g hg
  have hi' : HI n sl (fun g => S g ∨ z.ownBlock = some g) a w' := ⟨hbw.hi.size, hbw.hi.defers, fun g hg => hg.elim (hbw.hi.lt g) fun e => (hlt g e).2, gd_all _ _, fun t x ht => by
    obtain ⟨q1, q2⟩ := hbw.hi.slots t x ht
    exact ⟨q1, srep_mono (fun _ _ => rfl) (fun g hg => .inl hg) q2⟩⟩
  have hrc : RepC w' (fun g => S g ∨ z.ownBlock = some g) (.sl (l.map it)) z := repc_of_own (B := w.heap.size) (e := ety) (sz := sz) (zs := (l.map iv).flatten) (by rw [List.length_map]; exact ho) (repl_rows hit h1 l) (fun r hr => by obtain ⟨a, _, rfl⟩ := List.mem_map.1 hr; exact hl a) fun g hg => .inr hg
  refine ⟨fun g => S g ∨ z.ownBlock = some g, hi'.put hd _ (srep_of_rep (.c hrc)), hbw.sp, fun g hg => hg.elim (hbw.ap g) fun e => ?_, hbw.kp, hbw.ex⟩
  cases hog : L.o g with
  | none => rfl
  | some t => have := h.sp.dom g t hog; have := (hlt g e).1; omega
end Go.Proofs.Ytdnaadcbimbfmaa
set_option linter.unusedSimpArgs false
set_option linter.unusedVariables false
namespace Go.Proofs.Ytdnaadcbimbfmaa
open Go Go.RowKit Am Go.ChangeShapes Go.WideShapes Go.ChangeAt

theorem own : ownKnob Try.prog.godebug = none := by kernel_rfl
theorem laidOut : laidOutB Try.prog = true := by kernel_rfl
/-- All that was there. -/
abbrev AllB (w : World) : Nat → Prop := fun g => g < w.heap.size
theorem law_calls {f : Nat} {args : List AV} (h : CSem Try.prog (.fn f) args (.pure [aB true])) (W : World) (xs : List Value) (hr : Reps W (AllB W) args xs) :
    Calls Try.prog f xs.toArray W fun e W' => e = .returned (.bool true) ∧ Below W.heap.size W W' := by
  refine (h.2 W (AllB W) xs (fun _ h => h) (gd_all _ _) hr).mono fun e W' hh => ?_
  obtain ⟨y, S', rfl, hg, ys, rfl, hys⟩ := hh
  obtain ⟨z, zs, rfl, h1, h2⟩ := hys.uncons
  have := h2.unnil
  subst this
  cases h1 with
  | c h => cases h; exact ⟨rfl, hg.below⟩
end Go.Proofs.Ytdnaadcbimbfmaa
set_option linter.unusedSimpArgs false
set_option linter.unusedVariables false
namespace Go.Proofs.Ytdnaadcbimbfmaa
open Go Go.RowKit Am

def swap1 (r : List (List AV)) (i j : Nat) : List (List AV) := match r[i]?, r[j]? with
  | some x, some y => (r.set i y).set j x
  | _, _ => r
def swapF (r : List (List AV)) (a b : Nat) : Nat → List (List AV)
  | 0 => r
  | n + 1 => swap1 (swapF r a b n) (a + n) (b + n)
theorem swap1_len (r : List (List AV)) (i j : Nat) : (swap1 r i j).length = r.length := by
  unfold swap1; split <;> simp
theorem swapF_len (r : List (List AV)) (a b n : Nat) : (swapF r a b n).length = r.length := by
  induction n with
  | zero => rfl
  | succ n ih => simp [swapF, swap1_len, ih]
theorem swap1_mem (r : List (List AV)) (i j : Nat) {x : List AV} (h : x ∈ swap1 r i j) : x ∈ r := by
  unfold swap1 at h
  split at h
  · rename_i a b ha hb
    rcases List.mem_or_eq_of_mem_set h with h | h
    · rcases List.mem_or_eq_of_mem_set h with h | h
      · exact h
      · subst h; exact List.mem_of_getElem? hb
    · subst h; exact List.mem_of_getElem? ha
  · exact h
theorem swapF_mem (r : List (List AV)) (a b n : Nat) {x : List AV} (h : x ∈ swapF r a b n) : x ∈ r := by
  induction n with
  | zero => exact h
  | succ n ih => exact ih (swap1_mem _ _ _ h)
theorem swapRange_ok (rows : List (List AV)) (a b n : Nat) (a' b' n' : Int) (ea : a' = (a : Int)) (eb : b' = (b : Int)) (en : n' = (n : Int)) (ha : a + n ≤ rows.length) (hb : b + n ≤ rows.length) (hlen : rows.length ≤ 1000000000) (hr : ∀ r ∈ rows, r.length = 26) (rows' : List (List AV)) (hrows' : rows' = swapF rows a b n) :
    CSem Try.prog (.wr 115 [(0, .row 37 26 rows 0 0)] [(0, .row 37 26 rows' 0 0)]) [.own 0 0, aI a', aI b', aI n', .clo 105 []] (.pure []) := by
  refine of_textW gam_ok mixed { n := 38 } Try.func115 (by kernel_rfl) rfl rfl (by simp) (by decide) rfl fun F C D hF hC hD => ?_
  cbv
  refine ⟨Nat × Int × List (List AV), fun x => { slots := [(10, aI x.2.1), (0, .own 0 0), (1, aI a'), (2, aI b'), (3, aI n'), (4, .clo 105 [])], obs := [(0, .row 37 26 x.2.2 0 0)], ctr := 5, par := 5 }, fun x => x.2.1 = (x.1 : Int) ∧ x.1 ≤ n ∧ x.2.2 = swapF rows a b x.1, fun x => n - x.1, ⟨(0, 0, rows), ⟨rfl, Nat.zero_le _, rfl⟩, le_of [] (by simp [leSl, leOb, injK, memK, parK, noTup, lk, rn0, rnA, plain, aI])⟩, fun x hx => ?_⟩
  obtain ⟨i, i', r⟩ := x
  obtain ⟨hi0, hin, hri⟩ := hx
  simp only at hi0 hin hri
  have hrl : r.length = rows.length := by rw [hri, swapF_len]
  cbv
  refine ⟨fun h => ?_, fun h => ?_⟩ <;> cbv
  · refine ⟨hC _ _ _ (ben_ok (by kernel_rfl)), ?_⟩
    have ea : a' = (a : Int) := ea
    have eb : b' = (b : Int) := eb
    have en : n' = (n : Int) := en
    have hi0 : i' = (i : Int) := hi0
    have hin' : i < n := by rw [hF] at h; simp [sy] at h; omega
    obtain ⟨kb, hkb⟩ : ∃ kb, kb = b + i := ⟨_, rfl⟩
    obtain ⟨ka, hka⟩ : ∃ ka, ka = a + i := ⟨_, rfl⟩
    have eb2 : F .ar .add .i64 b' i' = (kb : Int) := by rw [hF]; exact (wrap_in (by omega) (by omega)).trans (by omega)
    have ea2 : F .ar .add .i64 a' i' = (ka : Int) := by rw [hF]; exact (wrap_in (by omega) (by omega)).trans (by omega)
    have ei : F .ar .add .i64 i' 1 = ((i + 1 : Nat) : Int) := by rw [hF]; exact (wrap_in (by omega) (by omega)).trans (by omega)
    have hlb : kb < r.length := by omega
    have hla : ka < r.length := by omega
    obtain ⟨cb, hcb⟩ : ∃ cb, r[kb]? = some cb := ⟨_, List.getElem?_eq_getElem hlb⟩
    obtain ⟨ca, hca⟩ : ∃ ca, r[ka]? = some ca := ⟨_, List.getElem?_eq_getElem hla⟩
    have hlca : ca.length = 26 := hr _ (swapF_mem _ _ _ _ (hri ▸ List.mem_of_getElem? hca))
    have hlcb : cb.length = 26 := hr _ (swapF_mem _ _ _ _ (hri ▸ List.mem_of_getElem? hcb))
    cbv
    refine ⟨kb, cb, eb2, hcb, ?_⟩
    cbv
    refine ⟨ka, ca, ea2, hca, ?_⟩
    cbv
    refine ⟨ka, ca, ea2, hca, ?_⟩
    cbv
    refine ⟨.mk hlcb, ?_⟩
    cbv
    obtain ⟨r2, hr2⟩ : ∃ r2, F .set r ka cb = r2 := ⟨_, rfl⟩
    rw [hr2]
    have er2 : r2 = r.set ka cb := by rw [← hr2, hF]; rfl
    obtain ⟨c2, hc2⟩ : ∃ c2, r2[kb]? = some c2 := ⟨_, List.getElem?_eq_getElem (by rw [er2]; simpa using hlb)⟩
    refine ⟨kb, c2, eb2, hc2, ?_⟩
    cbv
    refine ⟨.mk hlca, ?_⟩
    cbv
    obtain ⟨r3, hr3⟩ : ∃ r3, F .set r2 kb ca = r3 := ⟨_, rfl⟩
    rw [hr3]
    have er3 : r3 = r2.set kb ca := by rw [← hr3, hF]; rfl
    have e3 : r3 = swapF rows a b (i + 1) := by
      rw [swapF, ← hri, ← hka, ← hkb, er3, er2]
      simp [swap1, hca, hcb]
    obtain ⟨j, hj⟩ : ∃ j, F .ar .add .i64 i' 1 = j := ⟨_, rfl⟩
    rw [hj]
    exact ⟨(i + 1, j, r3), ⟨by rw [← hj]; exact ei, by omega, e3⟩, by simp; omega, Le.trans le_fresh (le_of [] (by simp [St.fresh, freshObs, Ob.fresh, mapS, killR, relT, leSl, leOb, injK, memK, parK, noTup, lk, rn0, rnA, plain]))⟩
  · have en : n' = (n : Int) := en
    have hi0 : i' = (i : Int) := hi0
    rw [hF] at h
    simp [sy] at h
    have : i = n := by omega
    subst this
    exact ⟨⟨hri.trans hrows'.symm, trivial⟩, trivial⟩
end Go.Proofs.Ytdnaadcbimbfmaa
set_option linter.unusedSimpArgs false
set_option linter.unusedVariables false
namespace Go.Proofs.Ytdnaadcbimbfmaa
open Go Go.RowKit Am

theorem swapF_get (r : List (List AV)) (a b : Nat) : ∀ (n : Nat), a + n ≤ b → b + n ≤ r.length → ∀ k, (swapF r a b n)[k]? = if a ≤ k ∧ k < a + n then r[k - a + b]? else if b ≤ k ∧ k < b + n then r[k - b + a]? else r[k]? := by
  intro n
  induction n with
  | zero => intro _ _ k; simp only [swapF]; rw [if_neg (by omega), if_neg (by omega)]
  | succ n ih =>
    intro h1 h2 k
    have ih := ih (by omega) (by omega)
    have e1 : (swapF r a b n)[a + n]? = r[a + n]? := by rw [ih, if_neg (by omega), if_neg (by omega)]
    have e2 : (swapF r a b n)[b + n]? = r[b + n]? := by rw [ih, if_neg (by omega), if_neg (by omega)]
    have ha : a + n < r.length := by omega
    have hb : b + n < r.length := by omega
    have hl := swapF_len r a b n
    rw [List.getElem?_eq_getElem ha] at e1
    rw [List.getElem?_eq_getElem hb] at e2
    simp only [swapF, swap1, e1, e2, List.getElem?_set, List.length_set, hl]
    by_cases hk : b + n = k
    · subst hk
      rw [if_pos rfl, if_pos hb, if_neg (by omega), if_pos (by omega), show b + n - b + a = a + n by omega, List.getElem?_eq_getElem ha]
    · rw [if_neg hk]
      by_cases hk2 : a + n = k
      · subst hk2
        rw [if_pos rfl, if_pos ha, if_pos (by omega), show a + n - a + b = b + n by omega, List.getElem?_eq_getElem hb]
      · rw [if_neg hk2]
        have i := ih k
        by_cases c1 : a ≤ k ∧ k < a + n
        · rw [if_pos c1] at i
          rw [i, if_pos (by omega)]
        · rw [if_neg c1] at i
          by_cases c2 : b ≤ k ∧ k < b + n
          · rw [if_pos c2] at i
            rw [i, if_neg (by omega), if_pos (by omega)]
          · rw [if_neg c2] at i
            rw [i, if_neg (by omega), if_neg (by omega)]
theorem swapF_mid (P X M Y Q : List (List AV)) (a b n : Nat) (ha : a = P.length) (hx : X.length = n) (hy : Y.length = n) (hb : b = P.length + n + M.length) : swapF (P ++ (X ++ (M ++ (Y ++ Q)))) a b n = P ++ (Y ++ (M ++ (X ++ Q))) := by
  subst ha hb
  apply List.ext_getElem?
  intro k
  rw [swapF_get _ _ _ _ (by omega) (by simp; omega)]
  simp only [List.getElem?_append]
  (repeat' split) <;> first | rfl | (exfalso; omega) | (congr 1; omega)
end Go.Proofs.Ytdnaadcbimbfmaa
set_option linter.unusedSimpArgs false
set_option linter.unusedVariables false
namespace Go.Proofs.Ytdnaadcbimbfmaa
open Go Go.RowKit Am

/-- How a rotation goes on. -/
def RotI (goal : List (List AV)) (m : Nat) (i j : Nat) (r : List (List AV)) : Prop :=
  ∃ P X Y Q : List (List AV), r = P ++ (X ++ (Y ++ Q)) ∧ goal = P ++ (Y ++ (X ++ Q)) ∧ P.length + i = m ∧ X.length = i ∧ Y.length = j ∧ 0 < i ∧ 0 < j
theorem rot_gt {goal r : List (List AV)} {m i j : Nat} (h : RotI goal m i j r) (hij : j < i) : RotI goal m (i - j) j (swapF r (m - i) m j) ∧ m + j ≤ r.length ∧ i ≤ m := by
  obtain ⟨P, X, Y, Q, rfl, hg, h1, h2, h3, h4, h5⟩ := h
  have hx : X = X.take j ++ X.drop j := (List.take_append_drop j X).symm
  have e : P ++ (X ++ (Y ++ Q)) = P ++ (X.take j ++ (X.drop j ++ (Y ++ Q))) := by rw [← List.append_assoc (X.take j), ← hx]
  have hl : (X.take j).length = j := by simp; omega
  refine ⟨⟨P ++ Y, X.drop j, X.take j, Q, ?_, ?_, by simp; omega, by simp; omega, hl, by omega, h5⟩, by simp; omega, by omega⟩
  · rw [e, swapF_mid P (X.take j) (X.drop j) Y Q (m - i) m j (by omega) hl h3 (by simp; omega)]
    simp
  · rw [hg]
    simp only [List.append_assoc]
    rw [← List.append_assoc (X.take j), List.take_append_drop]
theorem rot_lt {goal r : List (List AV)} {m i j : Nat} (h : RotI goal m i j r) (hij : i < j) : RotI goal m i (j - i) (swapF r (m - i) (m + j - i) i) ∧ m + j ≤ r.length ∧ i ≤ m := by
  obtain ⟨P, X, Y, Q, rfl, hg, h1, h2, h3, h4, h5⟩ := h
  have hy : Y = Y.take (j - i) ++ Y.drop (j - i) := (List.take_append_drop _ Y).symm
  have e : P ++ (X ++ (Y ++ Q)) = P ++ (X ++ (Y.take (j - i) ++ (Y.drop (j - i) ++ Q))) := by rw [← List.append_assoc (Y.take (j - i)), ← hy]
  have hl : (Y.drop (j - i)).length = i := by simp; omega
  refine ⟨⟨P, Y.drop (j - i), Y.take (j - i), X ++ Q, ?_, ?_, h1, hl, by simp; omega, h4, by omega⟩, by simp; omega, by omega⟩
  · rw [e, swapF_mid P X (Y.take (j - i)) (Y.drop (j - i)) Q (m - i) (m + j - i) i (by omega) h2 hl (by simp; omega)]
  · rw [hg]
    rw [← List.append_assoc (Y.take (j - i)), List.take_append_drop]
theorem rot_eq {goal r : List (List AV)} {m i : Nat} (h : RotI goal m i i r) : swapF r (m - i) m i = goal ∧ m + i ≤ r.length ∧ i ≤ m := by
  obtain ⟨P, X, Y, Q, rfl, hg, h1, h2, h3, h4, h5⟩ := h
  refine ⟨?_, by simp; omega, by omega⟩
  have := swapF_mid P X [] Y Q (m - i) m i (by omega) h2 h3 (by simp; omega)
  simp only [List.nil_append] at this
  rw [this, hg]
theorem rotate_ok (rows : List (List AV)) (a m b : Nat) (a' m' b' : Int) (ea : a' = (a : Int)) (em : m' = (m : Int)) (eb : b' = (b : Int)) (A U V B : List (List AV)) (hrows : rows = A ++ (U ++ (V ++ B))) (hA : A.length = a) (hU : a + U.length = m) (hV : m + V.length = b) (h0 : 0 < U.length) (h1 : 0 < V.length) (hlen : rows.length ≤ 1000000000) (hr : ∀ r ∈ rows, r.length = 26) (rows' : List (List AV)) (hrows' : rows' = A ++ (V ++ (U ++ B))) :
    CSem Try.prog (.wr 114 [(0, .row 37 26 rows 0 0)] [(0, .row 37 26 rows' 0 0)]) [.own 0 0, aI a', aI m', aI b', .clo 105 []] (.pure []) := by
  have hlens : rows.length = b + B.length := by rw [hrows]; simp; omega
  have hrot : RotI rows' m (m - a) (b - m) rows := ⟨A, U, V, B, hrows, hrows', by omega, by omega, by omega, by omega, by omega⟩
  have hmem' : ∀ i j r, RotI rows' m i j r → r.length = rows.length ∧ ∀ q ∈ r, q.length = 26 := by
    rintro i j r ⟨P, X, Y, Q, rfl, hg, _⟩
    have hp : (P ++ (X ++ (Y ++ Q))).Perm rows := by
      have h2 : rows'.Perm rows := by rw [hrows', hrows]; exact List.Perm.append_left _ (by rw [← List.append_assoc, ← List.append_assoc]; exact List.Perm.append_right _ List.perm_append_comm)
      refine List.Perm.trans ?_ h2
      rw [hg]
      exact List.Perm.append_left _ (by rw [← List.append_assoc, ← List.append_assoc]; exact List.Perm.append_right _ List.perm_append_comm)
    exact ⟨hp.length_eq, fun q hq => hr q (hp.mem_iff.1 hq)⟩
  refine of_textW gam_ok mixed { n := 58, wrs := [115] } Try.func114 (by kernel_rfl) rfl rfl (by simp) (by decide) rfl fun F C D hF hC hD => ?_
  have e1 : F .ar .sub .i64 m' a' = ((m - a : Nat) : Int) := by rw [hF]; exact (wrap_in (by omega) (by omega)).trans (by omega)
  have e2 : F .ar .sub .i64 b' m' = ((b - m : Nat) : Int) := by rw [hF]; exact (wrap_in (by omega) (by omega)).trans (by omega)
  obtain ⟨i0, hi0⟩ : ∃ i0, F .ar .sub .i64 m' a' = i0 := ⟨_, rfl⟩
  obtain ⟨j0, hj0⟩ : ∃ j0, F .ar .sub .i64 b' m' = j0 := ⟨_, rfl⟩
  rw [hi0] at e1
  rw [hj0] at e2
  cbv
  rw [hi0, hj0]
  refine ⟨Nat × Nat × Int × Int × List (List AV), fun x => { slots := [(10, aI x.2.2.1), (11, aI x.2.2.2.1), (0, .own 0 0), (2, aI m'), (4, .clo 105 [])], obs := [(0, .row 37 26 x.2.2.2.2 0 0)], ctr := 5, par := 5 }, fun x => x.2.2.1 = (x.1 : Int) ∧ x.2.2.2.1 = (x.2.1 : Int) ∧ RotI rows' m x.1 x.2.1 x.2.2.2.2, fun x => x.1 + x.2.1, ⟨(m - a, b - m, i0, j0, rows), ⟨e1, e2, hrot⟩, le_of [] (by simp [leSl, leOb, injK, memK, parK, noTup, lk, rn0, rnA, plain, aI])⟩, fun x hx => ?_⟩
  obtain ⟨i, j, i', j', r⟩ := x
  obtain ⟨ei, ej, hri⟩ := hx
  simp only at ei ej hri
  obtain ⟨hrl, hrm⟩ := hmem' _ _ _ hri
  have em : m' = (m : Int) := em
  have es : ∀ k : Nat, k ≤ 1000000000 → ∀ l : Nat, l ≤ k → F .ar .sub .i64 (k : Int) (l : Int) = ((k - l : Nat) : Int) := fun k hk l hl => by rw [hF]; exact (wrap_in (by omega) (by omega)).trans (by omega)
  have ep : ∀ k : Nat, k ≤ 1000000000 → ∀ l : Nat, l ≤ 1000000000 → F .ar .add .i64 (k : Int) (l : Int) = ((k + l : Nat) : Int) := fun k hk l hl => by rw [hF]; exact (wrap_in (by omega) (by omega)).trans (by omega)
  have hb : m ≤ 1000000000 := by have := hlens; omega
  have hpos : 0 < i ∧ 0 < j := by obtain ⟨_, _, _, _, _, _, _, _, _, p1, p2⟩ := hri; exact ⟨p1, p2⟩
  have hgt : F .cmp .gtr i' j' = true → j < i := fun g => by rw [hF] at g; simp [sy] at g; omega
  have hle : F .cmp .gtr i' j' = false → ¬ j < i := fun g => by rw [hF] at g; simp [sy] at g; omega
  have hne : F .cmp .neq i' j' = true → i ≠ j := fun g => by rw [hF] at g; simp [sy] at g; omega
  have heq : F .cmp .neq i' j' = false → i = j := fun g => by rw [hF] at g; simp [sy] at g; omega
  have f1 : i ≤ m → F .ar .sub .i64 m' i' = ((m - i : Nat) : Int) := fun h => by rw [em, ei]; exact es _ hb _ h
  have f2 : j < i → i ≤ m → F .ar .sub .i64 i' j' = ((i - j : Nat) : Int) := fun h h2 => by rw [ei, ej]; exact es _ (by omega) _ (by omega)
  have f3 : i < j → j ≤ rows.length → F .ar .sub .i64 j' i' = ((j - i : Nat) : Int) := fun h h2 => by rw [ei, ej]; exact es _ (by omega) _ (by omega)
  have f4 : i < j → m + j ≤ rows.length → F .ar .sub .i64 (F .ar .add .i64 m' j') i' = ((m + j - i : Nat) : Int) := fun h h2 => by rw [em, ei, ej, ep _ hb _ (by omega)]; exact es _ (by omega) _ (by omega)
  cbv
  refine ⟨fun h => ?_, fun h => ?_⟩ <;> cbv
  · refine ⟨fun g => ?_, fun g => ?_⟩ <;> cbv
    · have hij := hgt g
      obtain ⟨q1, q2, q3⟩ := rot_gt hri hij
      obtain ⟨r2, hr2⟩ : ∃ r2, swapF r (m - i) m j = r2 := ⟨_, rfl⟩
      rw [hr2] at q1
      refine ⟨_, _, hC _ _ _ (swapRange_ok r (m - i) m j _ _ _ (f1 q3) em ej (by omega) (by omega) (by omega) hrm r2 hr2.symm), ?_⟩
      cbv
      obtain ⟨i2, hi2⟩ : ∃ i2, F .ar .sub .i64 i' j' = i2 := ⟨_, rfl⟩
      rw [hi2]
      exact ⟨(i - j, j, i2, j', r2), ⟨hi2.symm.trans (f2 hij q3), ej, q1⟩, (by simp; omega), Le.trans le_fresh (le_of [] (by simp [St.fresh, freshObs, Ob.fresh, mapS, killR, relT, leSl, leOb, injK, memK, parK, noTup, lk, rn0, rnA, plain]))⟩
    · have hij : i < j := by have h1 := hle g; have h2 := hne h; omega
      obtain ⟨q1, q2, q3⟩ := rot_lt hri hij
      obtain ⟨r2, hr2⟩ : ∃ r2, swapF r (m - i) (m + j - i) i = r2 := ⟨_, rfl⟩
      rw [hr2] at q1
      refine ⟨_, _, hC _ _ _ (swapRange_ok r (m - i) (m + j - i) i _ _ _ (f1 q3) (f4 hij (by omega)) ei (by omega) (by omega) (by omega) hrm r2 hr2.symm), ?_⟩
      cbv
      obtain ⟨j2, hj2⟩ : ∃ j2, F .ar .sub .i64 j' i' = j2 := ⟨_, rfl⟩
      rw [hj2]
      exact ⟨(i, j - i, i', j2, r2), ⟨ei, hj2.symm.trans (f3 hij (by omega)), q1⟩, (by simp; omega), Le.trans le_fresh (le_of [] (by simp [St.fresh, freshObs, Ob.fresh, mapS, killR, relT, leSl, leOb, injK, memK, parK, noTup, lk, rn0, rnA, plain]))⟩
  · have hij := heq h
    subst hij
    obtain ⟨q1, q2, q3⟩ := rot_eq hri
    refine ⟨_, _, hC _ _ _ (swapRange_ok r (m - i) m i _ _ _ (f1 q3) em ei (by omega) (by omega) (by omega) hrm rows' q1.symm), ?_⟩
    cbv
end Go.Proofs.Ytdnaadcbimbfmaa
