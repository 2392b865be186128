import Derived.Test.YthepmpfkkhckpaaGreatDoorK11
set_option linter.unusedSimpArgs false
set_option linter.unusedVariables false
namespace Go.Proofs.YthepmpfkkhckpaaGreatDoor
open Go Go.RowKit Am

theorem cells_one {w : World} {S : Nat → Prop} {cs : List AV} {y : Value} (h : Rep w S (.ept cs 0) y) : ∃ ad : Addr, y = .pointer (some ad) ∧ S ad.block ∧ ∀ (i : Nat) (u : AV), cs[i]? = some u → ∃ x, w.cell? (ad.add i) = some x ∧ RepC w S u x := by
  cases h with
  | c h => cases h
  | ept h =>
    rename_i a
    refine ⟨a, by rw [show a.add 0 = a by unfold Addr.add; simp], h.1, h.2⟩
set_option maxHeartbeats 8000000 in
theorem line_repl (k node n ta turn : Int) (sb : ByteArray) (err : Int) (by_ : ByteArray) (num : Int) (hbs : by_.size ≤ 3000) (h0 : -9223372036854775808 ≤ node) (h1 : node ≤ 9223372036854775807) (he : err = 0) (hk1 : k = 1) (hby : by_ ≠ ⟨⟨[]⟩⟩)
    (o2 : ByteArray) (ho2 : o2 = line2 k node err) (r : ByteArray) (hr0 : r = o2 ++ (spc ++ lineB by_)) : CSem Tryz.prog (.fn 5) [.agg (stepC k node n ta turn sb), .agg (ansC err by_ num)] (.pure [aS r]) := by
  refine of_textS gam_ok mixed { n := 69, cuts := [5] } Tryz.func5 (by kernel_rfl) rfl rfl (by simp) (by decide) fun F C D hF hC hD hS hDS => ?_
  obtain ⟨w1, hw1⟩ : ∃ w, w = wordB kW k := ⟨_, rfl⟩
  have hwd1 := hC _ _ _ (word8_ok kW (by decide) _ rfl k w1 hw1)
  obtain ⟨w2, hw2⟩ : ∃ w, w = wordB eW err := ⟨_, rfl⟩
  have hwd2 := hC _ _ _ (word8_ok eW (by decide) _ rfl err w2 hw2)
  obtain ⟨q, hq⟩ : ∃ q : Bool, q = decide (4 ≤ k ∧ k ≤ 6) := ⟨_, rfl⟩
  have hnet := hC _ _ _ (net_ok k q hq)
  obtain ⟨d1, hd1⟩ : ∃ d, d = itoaB node := ⟨_, rfl⟩
  have hit1 := hC _ _ _ (itoa_ok node h0 h1 d1 hd1)
  obtain ⟨o1, ho1⟩ : ∃ o, o = line1 k node := ⟨_, rfl⟩
  have z1 : w1.size ≤ 10 := by rw [hw1]; exact kW_size k
  have z2 : w2.size ≤ 10 := by rw [hw2]; exact eW_size err
  have z3 : d1.size ≤ 21 := by rw [hd1]; exact itoa_size node h0 h1
  have zo1 : o1.size ≤ 40 := by rw [ho1]; exact line1_size k node h0 h1
  have zo2 : o2.size ≤ 60 := by rw [ho2]; exact line2_size k node err h0 h1
  have zs : spc.size ≤ 1 := by decide
  obtain ⟨x1, hx1⟩ : ∃ x, F .cat spc d1 = x := ⟨_, rfl⟩
  have zx1 : x1.size ≤ 22 := by rw [← hx1, catA hF, ba_app]; omega
  obtain ⟨x2, hx2⟩ : ∃ x, F .cat spc w2 = x := ⟨_, rfl⟩
  have zx2 : x2.size ≤ 11 := by rw [← hx2, catA hF, ba_app]; omega
  have b1 := catO hF zs z3 (by decide)
  have b2 := catO hF zs z2 (by decide)
  have b3 := catO hF z1 zx1 (by decide)
  have b4 := catO hF zo1 zx2 (by decide)
  have e2 : F .cat o1 x2 = o2 := by rw [ho2, ← hx2, catA hF, catA hF, ho1, hw2]; rfl
  have tn : F .bnot q = !q := bnotF hF q
  have e1t : q = true → w1 = o1 := fun h => by rw [ho1, hw1]; unfold line1; rw [if_pos (of_decide_eq_true (hq.symm.trans h))]
  have e1f : q = false → F .cat w1 x1 = o1 := fun h => by rw [ho1, ← hx1, catA hF, catA hF, hw1, hd1]; unfold line1; rw [if_neg (of_decide_eq_false (hq.symm.trans h))]
  clear hw1 hw2 hd1 ho1 z1 z2 z3 zo1 zx1 zx2 hq ho2
  cases q with
  | true =>
    have e1 := e1t rfl
    subst e1
    clear e1t e1f
    cbv
    refine ⟨_, hwd1, ?_⟩
    cbv
    refine ⟨_, hnet, ?_⟩
    cbv
    rw [tn]
    refine bF (rfl) ?_
    cbv
    refine ⟨_, hwd2, ?_⟩
    cbv
    refine ⟨b2, ?_⟩
    cbv
    rw [hx2]
    refine ⟨b4, ?_⟩
    cbv
    rw [e2]
    refine ⟨{ slots := [(5, aS o2), (3, .ept (ansC err by_ num) 0), (2, .ept (stepC k node n ta turn sb) 0)], obs := [], ctr := 0 }, (le_of [] (by simp [leSl, leOb, injK, memK, parK, noTup, lk, rn0, rnA, plain] <;> first | rfl | decide)), ?_⟩
    refine hS _ _ _ hDS ?_
    clear hS hDS hD
    intro W0 S0 R a w hr hq
    refine wp_seq (wp_block (wp_seq (piece (E := { n := 69 }) (fun x s => match x with | .normal => Le s { slots := [(27, aB false), (5, aS o2), (3, .ept (ansC err by_ num) 0), (2, .ept (stepC k node n ta turn sb) 0)], obs := [], ctr := 0 } | _ => False) hr (fun F C D hF hC => ?_) (fun x s a1 w1 hq1 hr1 => ?_))))
    · have te : F .cmp .neq err 0 = false := by rw [neF hF]; exact decide_eq_false (by omega)
      clear hq hr
      cbv
      rw [te]
      exact (le_of [] (by simp [leSl, leOb, injK, memK, parK, noTup, lk, rn0, rnA, plain] <;> first | rfl | decide))
    cases x with
    | ret => exact hq1.elim
    | exit _ => exact hq1.elim
    | normal =>
    have hrA := (show Le s _ from hq1) _ _ _ _ _ hr1
    clear hq1 hr1 hr
    have h27 : a1.eval (.tmp 27) = .bool false := by obtain ⟨S1, β1, hrA⟩ := hrA; exact srep_v (hrA.slots 27 _ rfl).2
    refine wp_cond_false h27 (wp_seq (piece (E := { n := 69 }) (fun x s => match x with | .normal => Le s { slots := [(31, aB true), (5, aS o2), (3, .ept (ansC err by_ num) 0), (2, .ept (stepC k node n ta turn sb) 0)], obs := [], ctr := 0 } | _ => False) hrA (fun F C D hF hC => ?_) (fun x s a2 w2 hq1 hr1 => ?_)))
    · have t1 : F .cmp .eql k 1 = true := by rw [eqF hF]; exact decide_eq_true hk1
      have ts : F .scmp .neq by_ ⟨⟨[]⟩⟩ = true := by rw [sneF hF]; exact decide_eq_true hby
      clear hq hrA h27
      cbv
      refine bT (t1) ?_
      cbv
      rw [ts]
      exact (le_of [] (by simp [leSl, leOb, injK, memK, parK, noTup, lk, rn0, rnA, plain] <;> first | rfl | decide))
    cases x with
    | ret => exact hq1.elim
    | exit _ => exact hq1.elim
    | normal =>
    have hrB := (show Le s _ from hq1) _ _ _ _ _ hr1
    clear hq1 hr1 hrA h27
    obtain ⟨S2, β2, hrB⟩ := hrB
    have h31 : a2.eval (.tmp 31) = .bool true := srep_v (hrB.slots 31 _ rfl).2
    have h5 : a2.tmps.getD 5 undef = .string o2 := srep_v (hrB.slots 5 _ rfl).2
    obtain ⟨ad, h3, had, hcs⟩ := cells_one (show Rep w2 S2 (.ept (ansC err by_ num) 0) (a2.tmps.getD 3 undef) from (hrB.slots 3 _ rfl).2)
    obtain ⟨y, hy, hyr⟩ := hcs 1 _ rfl
    have hyv : y = .string by_ := by cases hyr; rfl
    rw [hyv] at hy
    refine wp_cond_true h31 (rep_region (by rfl) (by kernel_rfl) hrB.size ad o2 by_ (by omega) (by omega) h3 (hrB.gr.lt _ had) h5 hy fun a3 w3 q1 q2 q3 q4 => ?_)
    have hrC : Rel W0 S0 69 { slots := [(5, aS r)], obs := [], ctr := 0 } a3 w3 := by
      refine ⟨S2, β2, hrB.gr.step (gr_below hrB.gr.lt q3), hrB.par, by rw [q2]; exact hrB.defers, q1, fun t x ht => ?_, fun k o h => by simp [lk] at h, fun k o g h => by simp [lk] at h, fun k k' o o' h => by simp [lk] at h, fun k o h => by simp [lk] at h, hrB.parc, fun k o _ h => by simp [lk] at h⟩
      simp only [lk] at ht
      split at ht
      · rename_i h; injection ht with ht; subst h ht; exact ⟨by omega, by rw [q4, ← hr0]; exact srep_of_rep (.c (.v _ rfl))⟩
      · cases ht
    refine piece (E := { n := 69 }) _ hrC (fun F C D hF hC => ?_) hq
    clear hq hrC
    cbv
    simp
  | false =>
    have e1 := e1f rfl
    clear e1t e1f
    cbv
    refine ⟨_, hwd1, ?_⟩
    cbv
    refine ⟨_, hnet, ?_⟩
    cbv
    rw [tn]
    refine bT (rfl) ?_
    cbv
    refine ⟨_, hit1, ?_⟩
    cbv
    refine ⟨b1, ?_⟩
    cbv
    rw [hx1]
    refine ⟨b3, ?_⟩
    cbv
    rw [e1]
    refine ⟨_, hwd2, ?_⟩
    cbv
    refine ⟨b2, ?_⟩
    cbv
    rw [hx2]
    refine ⟨b4, ?_⟩
    cbv
    rw [e2]
    refine ⟨{ slots := [(5, aS o2), (3, .ept (ansC err by_ num) 0), (2, .ept (stepC k node n ta turn sb) 0)], obs := [], ctr := 0 }, (le_of [] (by simp [leSl, leOb, injK, memK, parK, noTup, lk, rn0, rnA, plain] <;> first | rfl | decide)), ?_⟩
    refine hS _ _ _ hDS ?_
    clear hS hDS hD
    intro W0 S0 R a w hr hq
    refine wp_seq (wp_block (wp_seq (piece (E := { n := 69 }) (fun x s => match x with | .normal => Le s { slots := [(27, aB false), (5, aS o2), (3, .ept (ansC err by_ num) 0), (2, .ept (stepC k node n ta turn sb) 0)], obs := [], ctr := 0 } | _ => False) hr (fun F C D hF hC => ?_) (fun x s a1 w1 hq1 hr1 => ?_))))
    · have te : F .cmp .neq err 0 = false := by rw [neF hF]; exact decide_eq_false (by omega)
      clear hq hr
      cbv
      rw [te]
      exact (le_of [] (by simp [leSl, leOb, injK, memK, parK, noTup, lk, rn0, rnA, plain] <;> first | rfl | decide))
    cases x with
    | ret => exact hq1.elim
    | exit _ => exact hq1.elim
    | normal =>
    have hrA := (show Le s _ from hq1) _ _ _ _ _ hr1
    clear hq1 hr1 hr
    have h27 : a1.eval (.tmp 27) = .bool false := by obtain ⟨S1, β1, hrA⟩ := hrA; exact srep_v (hrA.slots 27 _ rfl).2
    refine wp_cond_false h27 (wp_seq (piece (E := { n := 69 }) (fun x s => match x with | .normal => Le s { slots := [(31, aB true), (5, aS o2), (3, .ept (ansC err by_ num) 0), (2, .ept (stepC k node n ta turn sb) 0)], obs := [], ctr := 0 } | _ => False) hrA (fun F C D hF hC => ?_) (fun x s a2 w2 hq1 hr1 => ?_)))
    · have t1 : F .cmp .eql k 1 = true := by rw [eqF hF]; exact decide_eq_true hk1
      have ts : F .scmp .neq by_ ⟨⟨[]⟩⟩ = true := by rw [sneF hF]; exact decide_eq_true hby
      clear hq hrA h27
      cbv
      refine bT (t1) ?_
      cbv
      rw [ts]
      exact (le_of [] (by simp [leSl, leOb, injK, memK, parK, noTup, lk, rn0, rnA, plain] <;> first | rfl | decide))
    cases x with
    | ret => exact hq1.elim
    | exit _ => exact hq1.elim
    | normal =>
    have hrB := (show Le s _ from hq1) _ _ _ _ _ hr1
    clear hq1 hr1 hrA h27
    obtain ⟨S2, β2, hrB⟩ := hrB
    have h31 : a2.eval (.tmp 31) = .bool true := srep_v (hrB.slots 31 _ rfl).2
    have h5 : a2.tmps.getD 5 undef = .string o2 := srep_v (hrB.slots 5 _ rfl).2
    obtain ⟨ad, h3, had, hcs⟩ := cells_one (show Rep w2 S2 (.ept (ansC err by_ num) 0) (a2.tmps.getD 3 undef) from (hrB.slots 3 _ rfl).2)
    obtain ⟨y, hy, hyr⟩ := hcs 1 _ rfl
    have hyv : y = .string by_ := by cases hyr; rfl
    rw [hyv] at hy
    refine wp_cond_true h31 (rep_region (by rfl) (by kernel_rfl) hrB.size ad o2 by_ (by omega) (by omega) h3 (hrB.gr.lt _ had) h5 hy fun a3 w3 q1 q2 q3 q4 => ?_)
    have hrC : Rel W0 S0 69 { slots := [(5, aS r)], obs := [], ctr := 0 } a3 w3 := by
      refine ⟨S2, β2, hrB.gr.step (gr_below hrB.gr.lt q3), hrB.par, by rw [q2]; exact hrB.defers, q1, fun t x ht => ?_, fun k o h => by simp [lk] at h, fun k o g h => by simp [lk] at h, fun k k' o o' h => by simp [lk] at h, fun k o h => by simp [lk] at h, hrB.parc, fun k o _ h => by simp [lk] at h⟩
      simp only [lk] at ht
      split at ht
      · rename_i h; injection ht with ht; subst h ht; exact ⟨by omega, by rw [q4, ← hr0]; exact srep_of_rep (.c (.v _ rfl))⟩
      · cases ht
    refine piece (E := { n := 69 }) _ hrC (fun F C D hF hC => ?_) hq
    clear hq hrC
    cbv
    simp
end Go.Proofs.YthepmpfkkhckpaaGreatDoor
