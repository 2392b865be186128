import Derived.Test.YtfphhpabfeepmaaDoorP2
set_option linter.unusedSimpArgs false
set_option linter.unusedVariables false
namespace Go.Proofs.YtfphhpabfeepmaaDoor
open Go Go.RowKit Am

/-! ### A count's digits: the number, how many bytes, how it ended (0: at a return, 1: the bytes ended, 3: no digits) -/
def dgs : List UInt8 → Nat → Nat → Nat × Nat × Nat
  | [], n, _ => (n, 0, 1)
  | c :: r, n, m => if c.toNat = 13 ∧ 0 < m then (n, 0, 0) else if c.toNat < 48 ∨ 57 < c.toNat ∨ m = 6 ∨ (0 < m ∧ n = 0) then (n, 0, 3) else
    ((dgs r (10 * n + (c.toNat - 48)) (m + 1)).1, (dgs r (10 * n + (c.toNat - 48)) (m + 1)).2.1 + 1, (dgs r (10 * n + (c.toNat - 48)) (m + 1)).2.2)
def eOf (st : Nat) : Int := if st = 3 then 3 else 0
theorem dgs_bound : ∀ (r : List UInt8) (n m : Nat), m ≤ 6 → n < 10 ^ m → (dgs r n m).1 < 1000000 ∧ (dgs r n m).2.1 ≤ r.length := by
  intro r
  induction r with
  | nil => intro n m hm hn; simp only [dgs]; exact ⟨Nat.lt_of_lt_of_le hn (Nat.pow_le_pow_right (by omega) hm), Nat.le_refl _⟩
  | cons c r ih =>
    intro n m hm hn
    have h0 : n < 1000000 := Nat.lt_of_lt_of_le hn (Nat.pow_le_pow_right (by omega) hm)
    simp only [dgs]
    split
    · exact ⟨h0, Nat.zero_le _⟩
    · split
      · exact ⟨h0, Nat.zero_le _⟩
      · rename_i h1 h2
        have := ih (10 * n + (c.toNat - 48)) (m + 1) (by omega) (by rw [Nat.pow_succ]; omega)
        exact ⟨this.1, by simp only [List.length_cons]; omega⟩
theorem digits_st (rows : List (List AV)) (a : Int) (m : Bool) (e : Int) (hu : m = true ∨ e ≠ 0) : CSem Tryd.prog (.wr 71 (SO rows a m e) (SO rows a m e)) [.ptr 0 0] (.pure [aI 0]) := by
  refine of_textW gam_ok mixed { n := 103, wrs := [42] } Tryd.func71 (by kernel_rfl) rfl rfl (by simp) (by decide) rfl fun F C D hF hC hD => ?_
  have hstop := hC _ _ _ (stopped_ok rows a m e true (stop_iff.2 hu).symm)
  have nb : F .bnot true = false := bnotF hF true
  cbv
  refine ⟨Unit, fun _ => { slots := [(3, aI 0), (0, .ptr 0 0)], obs := SO rows a m e, ctr := 1, par := 1 }, fun _ => True, fun _ => 0, ⟨(), trivial, (le_of [] (by simp [leSl, leOb, injK, memK, parK, noTup, lk, rn0, rnA, plain] <;> first | rfl | decide))⟩, fun x hx => ?_⟩
  cbv
  refine ⟨_, _, hstop, ?_⟩
  cbv
  refine bF (nb) ?_
  cbv
  simp
set_option maxHeartbeats 4000000 in
theorem digits_ok (l : List UInt8) (hl : l.length ≤ 1000000) (rows : List (List AV)) (hrows : rows = byR l) (a : Nat) (a' : Int) (ha : a' = (a : Int)) (hle : a ≤ l.length) (N k st : Nat) (hd : dgs (l.drop a) 0 0 = (N, k, st)) (b' : Int) (hb : b' = ((a + k : Nat) : Int)) (N' : Int) (hN : N' = (N : Int)) (m2 : Bool) (hm2 : m2 = decide (st = 1)) (e2 : Int) (he2 : e2 = eOf st) :
    CSem Tryd.prog (.wr 71 (SO rows a' false 0) (SO rows b' m2 e2)) [.ptr 0 0] (.pure [aI N']) := by
  refine of_textW gam_ok mixed { n := 103, wrs := [42] } Tryd.func71 (by kernel_rfl) rfl rfl (by simp) (by decide) rfl fun F C D hF hC hD => ?_
  have nb : F .bnot true = false := bnotF hF true
  have nb2 : F .bnot false = true := bnotF hF false
  obtain ⟨n', hn'⟩ : ∃ n', F .len rows = n' := ⟨_, rfl⟩
  have en : n' = (l.length : Int) := by rw [← hn', lenF hF, hrows, byR_len]
  cbv
  refine ⟨Nat × Int × Bool × Int × Nat × Int × Nat × Int, fun x => { slots := [(3, aI x.2.2.2.2.2.1), (4, aI x.2.2.2.2.2.2.2), (0, .ptr 0 0)], obs := SO rows x.2.1 x.2.2.1 x.2.2.2.1, ctr := 1, par := 1 },
    fun x => x.2.1 = (x.1 : Int) ∧ x.2.2.2.2.2.1 = (x.2.2.2.2.1 : Int) ∧ x.2.2.2.2.2.2.2 = (x.2.2.2.2.2.2.1 : Int) ∧ ((x.2.2.1 = false ∧ x.2.2.2.1 = 0 ∧ x.1 ≤ l.length ∧ x.2.2.2.2.2.2.1 ≤ 6 ∧ x.2.2.2.2.1 < 10 ^ x.2.2.2.2.2.2.1 ∧ ∃ j, dgs (l.drop x.1) x.2.2.2.2.1 x.2.2.2.2.2.2.1 = (N, j, st) ∧ x.1 + j = a + k) ∨ ((x.2.2.1 = true ∨ x.2.2.2.1 ≠ 0) ∧ x.1 = a + k ∧ x.2.2.2.2.1 = N ∧ x.2.2.1 = m2 ∧ x.2.2.2.1 = e2)),
    fun x => if x.2.2.1 = true ∨ x.2.2.2.1 ≠ 0 then 0 else l.length - x.1 + 1,
    ⟨(a, a', false, 0, 0, 0, 0, 0), ⟨ha, rfl, rfl, .inl ⟨rfl, rfl, hle, Nat.zero_le _, Nat.one_pos, k, hd, rfl⟩⟩, (le_of [] (by simp [leSl, leOb, injK, memK, parK, noTup, lk, rn0, rnA, plain] <;> first | rfl | decide))⟩, fun x hx => ?_⟩
  obtain ⟨p, p', mm, ee, n, nn', q, q'⟩ := x
  obtain ⟨ep, en2, eq, hcase⟩ := hx
  simp only at ep en2 eq hcase
  rcases hcase with ⟨h1, h2, h3, h4, h5, j, h6, h7⟩ | ⟨h1, h2, h3, h4, h5⟩
  · subst h1 h2
    have ha : a' = (a : Int) := ha
    have hb : b' = ((a + k : Nat) : Int) := hb
    have hN : N' = (N : Int) := hN
    have hstop := hC _ _ _ (stopped_ok rows p' false 0 false rfl)
    have en : n' = (l.length : Int) := en
    have t1 : F .cmp .eql p' n' = decide (p = l.length) := by rw [eqF hF, ep, en]; congr 1; exact propext ⟨fun h => by omega, fun h => by omega⟩
    cases hb0 : l[p]? with
    | none =>
      have hge : p = l.length := by have := List.getElem?_eq_none_iff.1 hb0; omega
      have t2 : F .cmp .eql p' n' = true := by rw [t1]; simp [hge]
      have hdr : l.drop p = [] := List.drop_eq_nil_iff.2 (by omega)
      rw [hdr] at h6
      simp only [dgs, Prod.mk.injEq] at h6
      obtain ⟨h8, h9, h10⟩ := h6
      have hm3 : m2 = true := by rw [hm2, ← h10]; rfl
      have he3 : e2 = 0 := by rw [he2, ← h10]; rfl
      clear t1
      cbv
      refine ⟨_, _, hstop, ?_⟩
      cbv
      refine bT (nb2) ?_
      cbv
      refine ⟨hC _ _ _ (ben_ok (by kernel_rfl)), ?_⟩
      cbv
      rw [hn']
      refine bT (t2) ?_
      cbv
      refine ⟨(p, p', true, 0, n, nn', q, q'), ⟨ep, en2, eq, .inr ⟨.inl rfl, by omega, by omega, hm3.symm, he3.symm⟩⟩, by simp, (le_of [] (by simp [leSl, leOb, injK, memK, parK, noTup, lk, rn0, rnA, plain] <;> first | rfl | decide))⟩
    | some x =>
      have hlt : p < l.length := (List.getElem?_eq_some_iff.1 hb0).1
      have t2 : F .cmp .eql p' n' = false := by rw [t1]; simp; omega
      have hrow : rows[p]? = some [aU x.toNat] := by rw [hrows]; exact byR_get hb0
      have hdr : l.drop p = x :: l.drop (p + 1) := by
        rw [List.drop_eq_getElem_cons hlt]
        congr 1
        exact (List.getElem?_eq_some_iff.1 hb0).2
      have hx256 : x.toNat < 256 := x.toNat_lt
      rw [hdr] at h6
      simp only [dgs] at h6
      obtain ⟨xi, hxi⟩ : ∃ xi : Int, xi = (x.toNat : Int) := ⟨_, rfl⟩
      rw [← hxi] at hrow
      obtain ⟨c13, hc13⟩ : ∃ c, F .cmp .eql xi 13 = c := ⟨_, rfl⟩
      obtain ⟨cm, hcm⟩ : ∃ c, F .cmp .gtr q' 0 = c := ⟨_, rfl⟩
      obtain ⟨c48, hc48⟩ : ∃ c, F .cmp .lss xi 48 = c := ⟨_, rfl⟩
      obtain ⟨c57, hc57⟩ : ∃ c, F .cmp .gtr xi 57 = c := ⟨_, rfl⟩
      obtain ⟨c6, hc6⟩ : ∃ c, F .cmp .eql q' 6 = c := ⟨_, rfl⟩
      obtain ⟨c0, hc0⟩ : ∃ c, F .cmp .eql nn' 0 = c := ⟨_, rfl⟩
      have d13 : c13 = decide (x.toNat = 13) := by rw [← hc13, eqF hF, hxi]; congr 1; exact propext ⟨fun h => by omega, fun h => by omega⟩
      have dm : cm = decide (0 < q) := by rw [← hcm, gtF hF, eq]; congr 1; exact propext ⟨fun h => by omega, fun h => by omega⟩
      have d48 : c48 = decide (x.toNat < 48) := by rw [← hc48, lsF hF, hxi]; congr 1; exact propext ⟨fun h => by omega, fun h => by omega⟩
      have d57 : c57 = decide (57 < x.toNat) := by rw [← hc57, gtF hF, hxi]; congr 1; exact propext ⟨fun h => by omega, fun h => by omega⟩
      have d6 : c6 = decide (q = 6) := by rw [← hc6, eqF hF, eq]; congr 1; exact propext ⟨fun h => by omega, fun h => by omega⟩
      have d0 : c0 = decide (n = 0) := by rw [← hc0, eqF hF, en2]; congr 1; exact propext ⟨fun h => by omega, fun h => by omega⟩
      obtain ⟨w1, hw1⟩ : ∃ w1, F .ar .add .i64 (F .ar .mul .i64 10 nn') (F .wrp .i64 (F .ar .sub .u8 xi 48)) = w1 := ⟨_, rfl⟩
      have ew1 : 48 ≤ x.toNat → n < 1000000 → w1 = ((10 * n + (x.toNat - 48) : Nat) : Int) := fun hx1 hx2 => by
        rw [← hw1, hF, en2, hxi]
        have e1 : sy .ar .mul .i64 10 (n : Int) = ((10 * n : Nat) : Int) := (wrap_in (by omega) (by omega)).trans (by omega)
        have e2 : sy .ar .sub .u8 (x.toNat : Int) 48 = ((x.toNat - 48 : Nat) : Int) := by
          show IntKind.u8.wrap _ = _
          simp [IntKind.wrap, IntKind.signed, IntKind.bits, BitVec.toNat_ofInt]
          omega
        rw [e1, e2]
        have e3 : sy .wrp .i64 ((x.toNat - 48 : Nat) : Int) = ((x.toNat - 48 : Nat) : Int) := wrap_in (by omega) (by omega)
        rw [e3]
        exact (wrap_in (by omega) (by omega)).trans (by omega)
      obtain ⟨p2, hp2⟩ : ∃ p2, F .ar .add .i64 p' 1 = p2 := ⟨_, rfl⟩
      have ep2 : p2 = ((p + 1 : Nat) : Int) := hp2.symm.trans (incF hF ep (by omega))
      obtain ⟨q2, hq2⟩ : ∃ q2, F .ar .add .i64 q' 1 = q2 := ⟨_, rfl⟩
      have eq2 : q2 = ((q + 1 : Nat) : Int) := hq2.symm.trans (incF hF eq (by omega))
      have hn6 : n < 1000000 := Nat.lt_of_lt_of_le h5 (Nat.pow_le_pow_right (by omega) h4)
      have bad : (c48 = true ∨ c57 = true ∨ c6 = true ∨ (cm = true ∧ c0 = true)) → ¬ (c13 = true ∧ cm = true) → (N = n ∧ j = 0 ∧ st = 3) := fun h hn => by
        simp only [d13, dm, d48, d57, d6, d0, decide_eq_true_eq] at h hn
        rw [if_neg hn, if_pos h] at h6
        simp only [Prod.mk.injEq] at h6
        omega
      have ret : (c13 = true ∧ cm = true) → (N = n ∧ j = 0 ∧ st = 0) := fun h => by
        simp only [d13, dm, decide_eq_true_eq] at h
        rw [if_pos h] at h6
        simp only [Prod.mk.injEq] at h6
        omega
      have good : ¬ (c48 = true ∨ c57 = true ∨ c6 = true ∨ (cm = true ∧ c0 = true)) → ¬ (c13 = true ∧ cm = true) → w1 = ((10 * n + (x.toNat - 48) : Nat) : Int) ∧ q + 1 ≤ 6 ∧ 10 * n + (x.toNat - 48) < 10 ^ (q + 1) ∧ ∃ j2, dgs (l.drop (p + 1)) (10 * n + (x.toNat - 48)) (q + 1) = (N, j2, st) ∧ p + 1 + j2 = a + k := fun h hn => by
        simp only [d13, dm, d48, d57, d6, d0, decide_eq_true_eq] at h hn
        rw [if_neg hn, if_neg h] at h6
        simp only [Prod.mk.injEq] at h6
        refine ⟨ew1 (by omega) hn6, by omega, by rw [Nat.pow_succ]; omega, (dgs (l.drop (p + 1)) (10 * n + (x.toNat - 48)) (q + 1)).2.1, ?_, by omega⟩
        rw [← h6.1, ← h6.2.2]
      have fbad : (N = n ∧ j = 0 ∧ st = 3) → e2 = 3 ∧ m2 = false ∧ p = a + k := fun h => ⟨by rw [he2, h.2.2]; rfl, by rw [hm2, h.2.2]; rfl, by omega⟩
      have fret : (N = n ∧ j = 0 ∧ st = 0) → e2 = 0 ∧ m2 = false ∧ p' = b' ∧ nn' = N' := fun h => ⟨by rw [he2, h.2.2]; rfl, by rw [hm2, h.2.2]; rfl, by omega, by omega⟩
      clear t1 d13 dm d48 d57 d6 d0 ew1 h6 hb0 hdr
      cbv
      refine ⟨_, _, hstop, ?_⟩
      cbv
      refine bT (nb2) ?_
      cbv
      refine ⟨hC _ _ _ (ben_ok (by kernel_rfl)), ?_⟩
      cbv
      rw [hn']
      refine bF (t2) ?_
      cbv
      refine ⟨hC _ _ _ (ben_ok (by kernel_rfl)), ?_⟩
      cbv
      refine ⟨p, _, ep, hrow, rfl, ?_⟩
      cbv
      rw [hc13]
      refine br (fun z13 => ?_) (fun z13 => ?_) <;> cbv
      · rw [hcm]
        refine br (fun zm => ?_) (fun zm => ?_) <;> cbv
        · obtain ⟨f1, f2, f3, f4⟩ := fret (ret ⟨z13, zm⟩)
          subst f1 f2 f3 f4
          simp
        · have hnot : ¬ (c13 = true ∧ cm = true) := fun h => by rw [zm] at h; cases h.2
          refine ⟨hC _ _ _ (ben_ok (by kernel_rfl)), ?_⟩
          cbv
          refine ⟨p, _, ep, hrow, rfl, ?_⟩
          cbv
          rw [hc48]
          refine brf (fun z48 => ?_) (fun z48 => ?_) <;> cbv
          · refine ⟨p, _, ep, hrow, rfl, ?_⟩
            cbv
            rw [hc57]
            refine brf (fun z57 => ?_) (fun z57 => ?_) <;> cbv
            · rw [hc6]
              refine brf (fun z6 => ?_) (fun z6 => ?_) <;> cbv
              · rw [hcm]
                refine br (fun zm => ?_) (fun zm => ?_) <;> cbv
                · rw [hc0]
                  refine br (fun z0 => ?_) (fun z0 => ?_) <;> cbv
                  · have hbad := bad (.inr (.inr (.inr ⟨zm, z0⟩))) hnot
                    obtain ⟨b1, b2, b3⟩ := fbad hbad
                    refine ⟨(p, p', false, 3, n, nn', q, q'), ⟨ep, en2, eq, .inr ⟨.inr (show ¬ ((3 : Int) = 0) by decide), b3, hbad.1.symm, b2.symm, b1.symm⟩⟩, ?_, (le_of [] (by simp [leSl, leOb, injK, memK, parK, noTup, lk, rn0, rnA, plain] <;> first | rfl | decide))⟩
                    simp
                  · have hng : ¬ (c48 = true ∨ c57 = true ∨ c6 = true ∨ (cm = true ∧ c0 = true)) := by simp [z48, z57, z6, z0]
                    obtain ⟨g1, g2, g3, g4⟩ := good hng hnot
                    refine ⟨hC _ _ _ (ben_ok (by kernel_rfl)), ?_⟩
                    cbv
                    refine ⟨p, _, ep, hrow, rfl, ?_⟩
                    cbv
                    rw [hw1, hp2, hq2]
                    refine ⟨(p + 1, p2, false, 0, 10 * n + (x.toNat - 48), w1, q + 1, q2), ⟨ep2, g1, eq2, .inl ⟨rfl, rfl, hlt, g2, g3, g4⟩⟩, ?_, (le_of [] (by simp [leSl, leOb, injK, memK, parK, noTup, lk, rn0, rnA, plain] <;> first | rfl | decide))⟩
                    simp
                    omega
                · have hng : ¬ (c48 = true ∨ c57 = true ∨ c6 = true ∨ (cm = true ∧ c0 = true)) := by simp [z48, z57, z6, zm]
                  obtain ⟨g1, g2, g3, g4⟩ := good hng hnot
                  refine ⟨hC _ _ _ (ben_ok (by kernel_rfl)), ?_⟩
                  cbv
                  refine ⟨p, _, ep, hrow, rfl, ?_⟩
                  cbv
                  rw [hw1, hp2, hq2]
                  refine ⟨(p + 1, p2, false, 0, 10 * n + (x.toNat - 48), w1, q + 1, q2), ⟨ep2, g1, eq2, .inl ⟨rfl, rfl, hlt, g2, g3, g4⟩⟩, ?_, (le_of [] (by simp [leSl, leOb, injK, memK, parK, noTup, lk, rn0, rnA, plain] <;> first | rfl | decide))⟩
                  simp
                  omega
              · have hbad := bad (.inr (.inr (.inl z6))) hnot
                obtain ⟨b1, b2, b3⟩ := fbad hbad
                refine ⟨(p, p', false, 3, n, nn', q, q'), ⟨ep, en2, eq, .inr ⟨.inr (show ¬ ((3 : Int) = 0) by decide), b3, hbad.1.symm, b2.symm, b1.symm⟩⟩, ?_, (le_of [] (by simp [leSl, leOb, injK, memK, parK, noTup, lk, rn0, rnA, plain] <;> first | rfl | decide))⟩
                simp
            · have hbad := bad (.inr (.inl z57)) hnot
              obtain ⟨b1, b2, b3⟩ := fbad hbad
              refine ⟨(p, p', false, 3, n, nn', q, q'), ⟨ep, en2, eq, .inr ⟨.inr (show ¬ ((3 : Int) = 0) by decide), b3, hbad.1.symm, b2.symm, b1.symm⟩⟩, ?_, (le_of [] (by simp [leSl, leOb, injK, memK, parK, noTup, lk, rn0, rnA, plain] <;> first | rfl | decide))⟩
              simp
          · have hbad := bad (.inl z48) hnot
            obtain ⟨b1, b2, b3⟩ := fbad hbad
            refine ⟨(p, p', false, 3, n, nn', q, q'), ⟨ep, en2, eq, .inr ⟨.inr (show ¬ ((3 : Int) = 0) by decide), b3, hbad.1.symm, b2.symm, b1.symm⟩⟩, ?_, (le_of [] (by simp [leSl, leOb, injK, memK, parK, noTup, lk, rn0, rnA, plain] <;> first | rfl | decide))⟩
            simp
      · have hnot : ¬ (c13 = true ∧ cm = true) := fun h => by rw [z13] at h; cases h.1
        refine ⟨hC _ _ _ (ben_ok (by kernel_rfl)), ?_⟩
        cbv
        refine ⟨p, _, ep, hrow, rfl, ?_⟩
        cbv
        rw [hc48]
        refine brf (fun z48 => ?_) (fun z48 => ?_) <;> cbv
        · refine ⟨p, _, ep, hrow, rfl, ?_⟩
          cbv
          rw [hc57]
          refine brf (fun z57 => ?_) (fun z57 => ?_) <;> cbv
          · rw [hc6]
            refine brf (fun z6 => ?_) (fun z6 => ?_) <;> cbv
            · rw [hcm]
              refine br (fun zm => ?_) (fun zm => ?_) <;> cbv
              · rw [hc0]
                refine br (fun z0 => ?_) (fun z0 => ?_) <;> cbv
                · have hbad := bad (.inr (.inr (.inr ⟨zm, z0⟩))) hnot
                  obtain ⟨b1, b2, b3⟩ := fbad hbad
                  refine ⟨(p, p', false, 3, n, nn', q, q'), ⟨ep, en2, eq, .inr ⟨.inr (show ¬ ((3 : Int) = 0) by decide), b3, hbad.1.symm, b2.symm, b1.symm⟩⟩, ?_, (le_of [] (by simp [leSl, leOb, injK, memK, parK, noTup, lk, rn0, rnA, plain] <;> first | rfl | decide))⟩
                  simp
                · have hng : ¬ (c48 = true ∨ c57 = true ∨ c6 = true ∨ (cm = true ∧ c0 = true)) := by simp [z48, z57, z6, z0]
                  obtain ⟨g1, g2, g3, g4⟩ := good hng hnot
                  refine ⟨hC _ _ _ (ben_ok (by kernel_rfl)), ?_⟩
                  cbv
                  refine ⟨p, _, ep, hrow, rfl, ?_⟩
                  cbv
                  rw [hw1, hp2, hq2]
                  refine ⟨(p + 1, p2, false, 0, 10 * n + (x.toNat - 48), w1, q + 1, q2), ⟨ep2, g1, eq2, .inl ⟨rfl, rfl, hlt, g2, g3, g4⟩⟩, ?_, (le_of [] (by simp [leSl, leOb, injK, memK, parK, noTup, lk, rn0, rnA, plain] <;> first | rfl | decide))⟩
                  simp
                  omega
              · have hng : ¬ (c48 = true ∨ c57 = true ∨ c6 = true ∨ (cm = true ∧ c0 = true)) := by simp [z48, z57, z6, zm]
                obtain ⟨g1, g2, g3, g4⟩ := good hng hnot
                refine ⟨hC _ _ _ (ben_ok (by kernel_rfl)), ?_⟩
                cbv
                refine ⟨p, _, ep, hrow, rfl, ?_⟩
                cbv
                rw [hw1, hp2, hq2]
                refine ⟨(p + 1, p2, false, 0, 10 * n + (x.toNat - 48), w1, q + 1, q2), ⟨ep2, g1, eq2, .inl ⟨rfl, rfl, hlt, g2, g3, g4⟩⟩, ?_, (le_of [] (by simp [leSl, leOb, injK, memK, parK, noTup, lk, rn0, rnA, plain] <;> first | rfl | decide))⟩
                simp
                omega
            · have hbad := bad (.inr (.inr (.inl z6))) hnot
              obtain ⟨b1, b2, b3⟩ := fbad hbad
              refine ⟨(p, p', false, 3, n, nn', q, q'), ⟨ep, en2, eq, .inr ⟨.inr (show ¬ ((3 : Int) = 0) by decide), b3, hbad.1.symm, b2.symm, b1.symm⟩⟩, ?_, (le_of [] (by simp [leSl, leOb, injK, memK, parK, noTup, lk, rn0, rnA, plain] <;> first | rfl | decide))⟩
              simp
          · have hbad := bad (.inr (.inl z57)) hnot
            obtain ⟨b1, b2, b3⟩ := fbad hbad
            refine ⟨(p, p', false, 3, n, nn', q, q'), ⟨ep, en2, eq, .inr ⟨.inr (show ¬ ((3 : Int) = 0) by decide), b3, hbad.1.symm, b2.symm, b1.symm⟩⟩, ?_, (le_of [] (by simp [leSl, leOb, injK, memK, parK, noTup, lk, rn0, rnA, plain] <;> first | rfl | decide))⟩
            simp
        · have hbad := bad (.inl z48) hnot
          obtain ⟨b1, b2, b3⟩ := fbad hbad
          refine ⟨(p, p', false, 3, n, nn', q, q'), ⟨ep, en2, eq, .inr ⟨.inr (show ¬ ((3 : Int) = 0) by decide), b3, hbad.1.symm, b2.symm, b1.symm⟩⟩, ?_, (le_of [] (by simp [leSl, leOb, injK, memK, parK, noTup, lk, rn0, rnA, plain] <;> first | rfl | decide))⟩
          simp
  · have hb : b' = ((a + k : Nat) : Int) := hb
    have hN : N' = (N : Int) := hN
    have hstop := hC _ _ _ (stopped_ok rows p' mm ee true (stop_iff.2 h1).symm)
    have e1 : p' = b' := by omega
    have e2' : nn' = N' := by omega
    subst e1 e2' h4 h5
    cbv
    refine ⟨_, _, hstop, ?_⟩
    cbv
    refine bF (nb) ?_
    cbv
    simp
end Go.Proofs.YtfphhpabfeepmaaDoor
