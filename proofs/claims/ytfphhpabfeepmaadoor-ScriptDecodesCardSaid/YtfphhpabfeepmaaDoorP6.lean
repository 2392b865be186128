import Derived.Test.YtfphhpabfeepmaaDoorP5
set_option linter.unusedSimpArgs false
set_option linter.unusedVariables false
namespace Go.Proofs.YtfphhpabfeepmaaDoor
open Go Go.RowKit Am

def bbR (ls : List (List UInt8)) : List (List AV) := ls.map fun l => [.sl (byR l)]
theorem bbR_get {ls : List (List UInt8)} {i : Nat} {l : List UInt8} (h : ls[i]? = some l) : (bbR ls)[i]? = some [.sl (byR l)] := by simp [bbR, h]
theorem flat_take {ls : List (List UInt8)} {i : Nat} {l : List UInt8} (h : ls[i]? = some l) : (ls.take (i + 1)).flatten = (ls.take i).flatten ++ l := by
  rw [List.take_add_one, h]; simp
theorem flat_le (ls : List (List UInt8)) (i : Nat) : (ls.take i).flatten.length ≤ ls.flatten.length := by
  have h : ls.flatten = (ls.take i).flatten ++ (ls.drop i).flatten := by rw [← List.flatten_append, List.take_append_drop]
  rw [h, List.length_append]
  omega
set_option maxHeartbeats 1000000 in
theorem concat_ok (ls : List (List UInt8)) (hl : ls.flatten.length ≤ 1000000) (hn : ls.length ≤ 1000000) (rows : List (List AV)) (hrows : rows = bbR ls) (out : List (List AV)) (ho : out = byR ls.flatten) : CSem Tryd.prog (.fn 40) [.sl rows] (.own 5 1 out []) := by
  refine of_text gam_ok mixed { n := 36, keep := [24, 33] } Tryd.func40 (by kernel_rfl) rfl rfl (by simp) (by decide) fun F C D hF hC hD => ?_
  obtain ⟨n', hn'⟩ : ∃ n', F .len rows = n' := ⟨_, rfl⟩
  have en : n' = (ls.length : Int) := by rw [← hn', lenF hF, hrows]; simp [bbR]
  cbv
  rw [hn']
  refine ⟨Nat × Int × Int, fun x => { slots := [(11, aI x.2.1), (10, aI n'), (3, aI x.2.2), (9, .sl rows), (0, .sl rows)], obs := [], ctr := 0 }, fun x => x.2.1 = (x.1 : Int) ∧ x.1 ≤ ls.length ∧ x.2.2 = ((ls.take x.1).flatten.length : Int), fun x => ls.length - x.1, ⟨(0, 0, 0), ⟨rfl, Nat.zero_le _, rfl⟩, (le_of [] (by simp [leSl, leOb, injK, memK, parK, noTup, lk, rn0, rnA, plain] <;> first | rfl | decide))⟩, fun x hx => ?_⟩
  obtain ⟨i, i', s⟩ := x
  obtain ⟨ei, hi, es⟩ := hx
  simp only at ei hi es
  have en : n' = (ls.length : Int) := en
  have tl := ltF hF i ls.length i' n' ei en
  obtain ⟨i2, hi2⟩ : ∃ i2, F .ar .add .i64 i' 1 = i2 := ⟨_, rfl⟩
  have ei2 : i2 = ((i + 1 : Nat) : Int) := hi2.symm.trans (incF hF ei (by omega))
  cbv
  refine br (fun h => ?_) (fun h => ?_) <;> cbv
  · have hil := tl.1 h
    obtain ⟨l, hl2⟩ : ∃ l, ls[i]? = some l := ⟨_, List.getElem?_eq_getElem hil⟩
    have hrow : rows[i]? = some [.sl (byR l)] := by rw [hrows]; exact bbR_get hl2
    obtain ⟨rl, hrl⟩ : ∃ rl, rl = byR l := ⟨_, rfl⟩
    rw [← hrl] at hrow
    have h3 := flat_take hl2
    have h4 := flat_le ls (i + 1)
    obtain ⟨s2, hs2⟩ : ∃ s2, F .ar .add .i64 s (F .len rl) = s2 := ⟨_, rfl⟩
    have es2 : s2 = ((ls.take (i + 1)).flatten.length : Int) := by
      rw [← hs2, addF hF es (by rw [lenF hF, hrl, byR_len]) (by rw [h3, List.length_append] at h4; omega), h3, List.length_append]
    have t0 : F .cmp .lss s2 0 = false := by rw [lsF hF, es2]; simp
    refine ⟨i, _, ei, hrow, rfl, ?_⟩
    cbv
    rw [hs2]
    refine bF (t0) ?_
    cbv
    rw [hi2]
    exact ⟨(i + 1, i2, s2), ⟨ei2, hil, es2⟩, (show ls.length - (i + 1) < ls.length - i by omega), (le_of [] (by simp [leSl, leOb, injK, memK, parK, noTup, lk, rn0, rnA, plain] <;> first | rfl | decide))⟩
  · have hge : i = ls.length := by have := nfB tl h; omega
    subst hge
    have es : s = (ls.flatten.length : Int) := by rw [es, List.take_of_length_le (Nat.le_refl _)]
    have hg := hC _ _ _ (grow_ok s (by omega) (by omega))
    refine ⟨_, _, _, _, hg, ?_⟩
    cbv
    rw [hn']
    refine ⟨Nat × Int × List (List AV), fun x => { slots := [(27, aI x.2.1), (26, aI n'), (6, .own 0 0), (25, .sl rows)], obs := [(0, .row 5 1 x.2.2 0 0)], ctr := 1 }, fun x => x.2.1 = (x.1 : Int) ∧ x.1 ≤ ls.length ∧ x.2.2 = byR (ls.take x.1).flatten, fun x => ls.length - x.1, ⟨(0, 0, []), ⟨rfl, Nat.zero_le _, rfl⟩, (le_of [] (by simp [leSl, leOb, injK, memK, parK, noTup, lk, rn0, rnA, plain] <;> first | rfl | decide))⟩, fun x hx => ?_⟩
    obtain ⟨k, k', o⟩ := x
    obtain ⟨ek, hk, eo⟩ := hx
    simp only at ek hk eo
    have en : n' = (ls.length : Int) := en
    have tl := ltF hF k ls.length k' n' ek en
    obtain ⟨k2, hk2⟩ : ∃ k2, F .ar .add .i64 k' 1 = k2 := ⟨_, rfl⟩
    have ek2 : k2 = ((k + 1 : Nat) : Int) := hk2.symm.trans (incF hF ek (by omega))
    cbv
    refine br (fun h => ?_) (fun h => ?_) <;> cbv
    · have hil := tl.1 h
      obtain ⟨l, hl2⟩ : ∃ l, ls[k]? = some l := ⟨_, List.getElem?_eq_getElem hil⟩
      have hrow : rows[k]? = some [.sl (byR l)] := by rw [hrows]; exact bbR_get hl2
      obtain ⟨rl, hrl⟩ : ∃ rl, rl = byR l := ⟨_, rfl⟩
      rw [← hrl] at hrow
      have h3 := flat_take hl2
      have h4 := flat_le ls (k + 1)
      have h5 := flat_le ls k
      rw [h3] at h4
      simp only [List.length_append] at h4
      have hel : ∀ r ∈ rl, r.length = 1 := by rw [hrl]; exact byR_one l
      obtain ⟨o2, ho2⟩ : ∃ o2, F .app o rl = o2 := ⟨_, rfl⟩
      have eo2 : o2 = byR (ls.take (k + 1)).flatten := by rw [← ho2, hF, eo, hrl, h3]; simp [sy, byR]
      have hrm : (F .len o + F .len rl) * 1 ≤ 140737488355328 := by rw [lenF hF, lenF hF, eo, hrl, byR_len, byR_len]; omega
      refine ⟨k, _, ek, hrow, rfl, ?_⟩
      cbv
      refine ⟨hel, hrm, ?_⟩
      cbv
      rw [ho2, hk2]
      exact ⟨(k + 1, k2, o2), ⟨ek2, hil, eo2⟩, (show ls.length - (k + 1) < ls.length - k by omega), (le_of [(0, 1)] (by simp [leSl, leOb, injK, memK, parK, noTup, lk, rn0, rnA, plain] <;> first | rfl | decide))⟩
    · have hge : ls.length ≤ k := by have := nfB tl h; omega
      have e3 : o = out := by rw [eo, ho, List.take_of_length_le hge]
      rw [e3]
      simp
theorem nilp34 : CSem Tryd.prog (.nilp 34) [] (.pure []) := show Tryd.prog.underlying 34 = _ by kernel_rfl
abbrev PO (rows : List (List AV)) (e : Int) : Obs := [(0, .box 45 [.sl rows, aI e] false)]
theorem err_ok (rows : List (List AV)) (e : Int) : CSem Tryd.prog (.wr 39 (PO rows e) (PO rows e)) [.ptr 0 0] (.pure [aI e]) := by
  refine of_textW gam_ok mixed { n := 9 } Tryd.func39 (by kernel_rfl) rfl rfl (by simp) (by decide) rfl fun F C D hF hC hD => ?_
  cbv
  refine ⟨hC _ _ _ nilp34, ?_⟩
  cbv
theorem err_nil : CSem Tryd.prog (.fn 39) [.v (.pointer none)] (.pure [aI 0]) := by
  refine of_text gam_ok mixed { n := 9 } Tryd.func39 (by kernel_rfl) rfl rfl (by simp) (by decide) fun F C D hF hC hD => ?_
  cbv
  refine ⟨hC _ _ _ nilp34, ?_⟩
  cbv
theorem feed_nil (rows : List (List AV)) : CSem Tryd.prog (.fn 20) [.v (.pointer none), .sl rows] (.pure [.sl [], aI 0]) := by
  refine of_text gam_ok mixed { n := 68 } Tryd.func20 (by kernel_rfl) rfl rfl (by simp) (by decide) fun F C D hF hC hD => ?_
  cbv
  refine ⟨hC _ _ _ nilp34, ?_⟩
  cbv
  refine ⟨_, (hC _ _ _ err_nil), ?_⟩
  cbv
  simp
theorem feed_err (left rows : List (List AV)) (e : Int) (he : e ≠ 0) : CSem Tryd.prog (.wr 20 (PO left e) (PO left e)) [.ptr 0 0, .sl rows] (.pure [.sl [], aI e]) := by
  refine of_textW gam_ok mixed { n := 68, wrs := [39] } Tryd.func20 (by kernel_rfl) rfl rfl (by simp) (by decide) rfl fun F C D hF hC hD => ?_
  have t1 : F .cmp .neq e 0 = true := by rw [neF hF]; simp [he]
  cbv
  refine ⟨hC _ _ _ nilp34, ?_⟩
  cbv
  refine bT (t1) ?_
  cbv
  refine ⟨_, _, (hC _ _ _ (err_ok left e)), ?_⟩
  cbv
  simp
end Go.Proofs.YtfphhpabfeepmaaDoor
