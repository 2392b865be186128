import Derived.Test.YtfphhpabfeepmaaDoorQ7
set_option linter.unusedSimpArgs false
set_option linter.unusedVariables false
namespace Go.Proofs.YtfphhpabfeepmaaDoor
open Go Go.RowKit Am

theorem flat_bulk (ags : List (List UInt8)) (h : ∀ a ∈ ags, a.length ≤ 3000) (i : Nat) : ((ags.take i).map bulkL).flatten.length ≤ 3030 * ags.length := by
  induction ags generalizing i with
  | nil => simp
  | cons a ags ih =>
    cases i with
    | zero => simp
    | succ i =>
      have h1 := h a List.mem_cons_self
      have h2 := bulk_len a (by omega)
      have h3 := ih (fun b hb => h b (List.mem_cons_of_mem _ hb)) i
      simp only [List.take_succ_cons, List.map_cons, List.flatten_cons, List.length_append, List.length_cons]
      omega
set_option maxHeartbeats 2000000 in
theorem enc_cmd (ags : List (List UInt8)) (hn : ags.length ≤ 1000) (hl : ∀ a ∈ ags, a.length ≤ 3000) (rows : List (List AV)) (hrows : rows = sR ags) (out : List (List AV)) (ho : out = byR (cmdB ags)) : CSem Tryd.prog (.fn 17) [.sl rows] (.own 5 1 out []) := by
  refine of_text gam_ok mixed { n := 24, keep := [11, 21] } Tryd.func17 (by kernel_rfl) rfl rfl (by simp) (by decide) fun F C D hF hC hD => ?_
  obtain ⟨n', hn'⟩ : ∃ n' : Int, F .len rows = n' := ⟨_, rfl⟩
  have en : n' = (ags.length : Int) := by rw [← hn', lenF hF, hrows, sR_len]
  obtain ⟨d, hd⟩ : ∃ d, d = itoaB n' := ⟨_, rfl⟩
  have hit := hC _ _ _ (itoa_ok n' (by omega) (by omega) d hd)
  obtain ⟨x1, hx1⟩ : ∃ x1, F .cat (BA [42]) d = x1 := ⟨_, rfl⟩
  obtain ⟨x2, hx2⟩ : ∃ x2, F .cat x1 (BA [13, 10]) = x2 := ⟨_, rfl⟩
  have e2 : x2 = BA (42 :: dec ags.length ++ [13, 10]) := by rw [← hx2, ← hx1, catF hF, catF hF, hd, en]; rfl
  have n1 := catN hF hx1
  have nd : d.size ≤ 21 := by rw [hd, itoaB, BA_size]; exact dec_len n' (by omega) (by omega)
  rw [sz1] at n1
  have n2 := catN hF hx2
  rw [sz2] at n2
  have c1 := catS hF (a := BA [42]) (b := d) (by rw [sz1]; omega)
  have c2 := catS hF (a := x1) (b := BA [13, 10]) (by rw [sz2]; omega)
  obtain ⟨r0, hr0⟩ : ∃ r, r = byR (42 :: dec ags.length ++ [13, 10]) := ⟨_, rfl⟩
  have hcv := hC _ _ _ (sb_own x2 (by omega) r0 (by rw [e2]; exact hr0))
  have hdl := dec_len (ags.length : Int) (by omega) (by omega)
  unfold BA at hx1 hx2 c1 c2
  clear hd e2 n1 n2 nd
  cbv
  rw [hn']
  refine ⟨_, hit, ?_⟩
  cbv
  rw [hx1, hx2]
  refine ⟨c1, c2, ?_⟩
  refine ⟨_, _, _, hcv, ?_⟩
  cbv
  rw [hn']
  refine ⟨Nat × Int × List (List AV), fun x => { slots := [(14, aI x.2.1), (13, aI n'), (12, .sl rows), (3, .own 0 0)], obs := [(0, .row 5 1 x.2.2 0 0)], ctr := 1 }, fun x => x.2.1 = (x.1 : Int) ∧ x.1 ≤ ags.length ∧ x.2.2 = byR (42 :: dec ags.length ++ [13, 10] ++ ((ags.take x.1).map bulkL).flatten), fun x => ags.length - x.1, ⟨(0, 0, r0), ⟨rfl, Nat.zero_le _, by simp only; rw [hr0]; simp⟩, (le_of [] (by simp [leSl, leOb, injK, memK, parK, noTup, lk, rn0, rnA, plain] <;> first | rfl | decide))⟩, fun x hx => ?_⟩
  obtain ⟨i, i', oR⟩ := x
  obtain ⟨ei, hi, eo⟩ := hx
  simp only at ei hi eo
  have en : n' = (ags.length : Int) := en
  have tl := ltF hF i ags.length i' n' ei en
  obtain ⟨i2, hi2⟩ : ∃ i2, F .ar .add .i64 i' 1 = i2 := ⟨_, rfl⟩
  have ei2 : i2 = ((i + 1 : Nat) : Int) := hi2.symm.trans (incF hF ei (by omega))
  cbv
  refine br (fun h => ?_) (fun h => ?_) <;> cbv
  · have hil := tl.1 h
    obtain ⟨a, ha⟩ : ∃ a, ags[i]? = some a := ⟨_, List.getElem?_eq_getElem hil⟩
    have hla := hl a (List.mem_of_getElem? ha)
    obtain ⟨sa, hsa⟩ : ∃ sa, sa = BA a := ⟨_, rfl⟩
    have hrow : rows[i]? = some [aS sa] := by rw [hrows, hsa]; exact sR_get ha
    obtain ⟨bs, hbs⟩ : ∃ b, b = BA (bulkL a) := ⟨_, rfl⟩
    have hbk := hC _ _ _ (bulk_ok a (by omega) sa hsa bs hbs)
    have hf1 := flat_bulk ags hl i
    have hb1 := bulk_len a (by omega)
    have esb : F .sb bs = byR (bulkL a) := by rw [sbF hF, hbs, L_BA]
    have hel : ∀ r ∈ F .sb bs, r.length = 1 := by rw [esb]; exact byR_one _
    have hrm : (F .len oR + F .len (F .sb bs)) * 1 ≤ 140737488355328 := by
      rw [lenF hF, lenF hF, eo, esb, byR_len, byR_len]
      simp only [List.length_append, List.length_cons, List.length_nil]
      omega
    obtain ⟨o2, ho2⟩ : ∃ o2, F .app oR (F .sb bs) = o2 := ⟨_, rfl⟩
    have eo2 : o2 = byR (42 :: dec ags.length ++ [13, 10] ++ ((ags.take (i + 1)).map bulkL).flatten) := by
      rw [← ho2, hF, eo, ← hF, esb, hF, List.take_add_one, ha]
      simp [sy, byR]
    refine ⟨i, _, ei, hrow, rfl, ?_⟩
    cbv
    refine ⟨_, hbk, ?_⟩
    cbv
    refine ⟨hel, hrm, ?_⟩
    cbv
    rw [ho2, hi2]
    exact ⟨(i + 1, i2, o2), ⟨ei2, hil, eo2⟩, (show ags.length - (i + 1) < ags.length - i by omega), (le_of [(0, 1)] (by simp [leSl, leOb, injK, memK, parK, noTup, lk, rn0, rnA, plain] <;> first | rfl | decide))⟩
  · have hge : ags.length ≤ i := by have := nfB tl h; omega
    refine ⟨?_, trivial⟩
    rw [eo, ho, List.take_of_length_le hge]
    rfl
end Go.Proofs.YtfphhpabfeepmaaDoor
