import Derived.Test.YtfphhpabfeepmaaDoorU2
set_option linter.unusedSimpArgs false
set_option linter.unusedVariables false
namespace Go.Proofs.YtfphhpabfeepmaaDoor
open Go Go.RowKit Am

/-! ### The reference: a number -/
def valN (l : List UInt8) : Nat := l.foldl (fun n c => 10 * n + (c.toNat - 48)) 0
def dig (c : UInt8) : Bool := decide (48 ≤ c.toNat ∧ c.toNat ≤ 57)
def numT (t : List UInt8) (neg : Bool) : Option Nat :=
  if t = [] ∨ 15 < t.length ∨ (t[0]? = some 48 ∧ (1 < t.length ∨ neg = true)) then none else if t.all dig = true then some (valN t) else none
def numR : List UInt8 → Option Int
  | [] => none
  | c :: t => if c = 45 then (numT t true).map (fun n => -(n : Int)) else (numT (c :: t) false).map (fun n => (n : Int))
theorem valN_step (l : List UInt8) (i : Nat) (c : UInt8) (h : l[i]? = some c) : valN (l.take (i + 1)) = 10 * valN (l.take i) + (c.toNat - 48) := by
  unfold valN
  rw [List.take_add_one, h]
  simp
theorem empF {F : Sy} (hF : F = sy) (u : ByteArray) (t : List UInt8) (h : t = L u) : F .scmp .eql u (BA []) = decide (t = []) := by
  rw [seqF hF]
  congr 1
  exact propext ⟨fun e => by rw [h, e]; rfl, fun e => L_inj (by rw [← h, e]; rfl)⟩
set_option maxHeartbeats 8000000 in
theorem rnum_ok (u : ByteArray) (l : List UInt8) (hs : l = L u) (hl : l.length ≤ 1000000) (v : Int) (ok : Bool) (h1 : ∀ n, numR l = some n → v = n ∧ ok = true) (h2 : numR l = none → v = 0 ∧ ok = false) : CSem Tryd.prog (.fn 53) [aS u] (.pure [aI v, aB ok]) := by
  refine of_text gam_ok mixed { n := 64, cuts := [5] } Tryd.func53 (by kernel_rfl) rfl rfl (by simp) (by decide) fun F C D hF hC hD => ?_
  have n0 : F .scmp .neq u (BA []) = decide (l ≠ []) := by
    have := empF hF u l hs
    have e : F .scmp .neq u (BA []) = !(F .scmp .eql u (BA [])) := by rw [hF]; rfl
    rw [e, this]; simp
  unfold BA at n0
  cases l with
  | nil =>
    have n0 : F .scmp .neq u ⟨[].toArray⟩ = false := n0
    obtain ⟨sg, hsg0⟩ : ∃ sg : Int, sg = 1 := ⟨_, rfl⟩
    have hsg : sg = 1 ∨ sg = -1 := .inl hsg0
    obtain ⟨neg, hng0⟩ : ∃ b : Bool, b = false := ⟨_, rfl⟩
    have hneg : neg = true ↔ sg < 0 := by rw [hng0, hsg0]; simp
    obtain ⟨t, ht⟩ : ∃ t : List UInt8, t = [] := ⟨_, rfl⟩
    have hu : t = L u := by rw [ht]; exact hs
    have hnoT : numT t neg = none → v = 0 ∧ ok = false := fun _ => h2 rfl
    have hyesT : ∀ n, numT t neg = some n → v = sg * (n : Int) ∧ ok = true := fun n h => by rw [ht] at h; simp [numT] at h
    cbv
    refine bF (n0) ?_
    cbv
    refine ⟨{ slots := [(4, aI sg), (0, aS u)], obs := [], ctr := 0 }, (le_of [] (by simp [leSl, leOb, injK, memK, parK, noTup, lk, rn0, rnA, plain, hsg0] <;> first | rfl | decide)), hD _ _ _ ?_⟩
    clear n0 h1 h2 hs ht hsg0
    have hu : t = L u := hu
    obtain ⟨un, hun⟩ : ∃ un : Int, F .slen u = un := ⟨_, rfl⟩
    have eun : un = (t.length : Int) := by rw [← hun, slenF hF, L_size, hu]
    have e0 := empF hF u t hu
    have e15 : F .cmp .gtr un 15 = decide (15 < t.length) := by rw [gtF hF, eun]; congr 1; exact propext ⟨fun h => by omega, fun h => by omega⟩
    have e1 : F .cmp .gtr un 1 = decide (1 < t.length) := by rw [gtF hF, eun]; congr 1; exact propext ⟨fun h => by omega, fun h => by omega⟩
    unfold BA at e0
    by_cases ht0 : t = []
    · have e0 := e0.trans (decide_eq_true ht0)
      obtain ⟨f1, f2⟩ := hnoT (by unfold numT; rw [if_pos (.inl ht0)])
      subst f1 f2
      clear hnoT hyesT
      cbv
      refine cT (e0) ?_
      cbv
      simp
    · have e0 := e0.trans (decide_eq_false ht0)
      by_cases h15 : 15 < t.length
      · have e15 : F .cmp .gtr un 15 = true := by rw [e15]; exact decide_eq_true h15
        obtain ⟨f1, f2⟩ := hnoT (by unfold numT; rw [if_pos (.inr (.inl h15))])
        subst f1 f2
        clear hnoT hyesT
        cbv
        refine cF (e0) ?_
        cbv
        rw [hun]
        refine cT (e15) ?_
        cbv
        simp
      · have e15 : F .cmp .gtr un 15 = false := by rw [e15]; exact decide_eq_false h15
        have h15' : t.length ≤ 15 := by omega
        have hpos : 0 < t.length := List.length_pos_iff.2 ht0
        obtain ⟨c0, hc0⟩ : ∃ c, t[0]? = some c := ⟨_, List.getElem?_eq_getElem hpos⟩
        obtain ⟨b0, hb0⟩ : ∃ b : Int, F .bt u 0 = b := ⟨_, rfl⟩
        have eb0 : b0 = (c0.toNat : Int) := by rw [← hb0]; exact btF (i := 0) hF (by rw [← hu]; exact hc0)
        have e48 : F .cmp .eql b0 48 = decide (c0 = 48) := by rw [eqF hF, eb0]; congr 1; exact propext ⟨fun h => UInt8.toNat_inj.1 (by have : (48 : UInt8).toNat = 48 := rfl; omega), fun h => by rw [h]; rfl⟩
        have hx0 : (0 : Int) ≤ 0 := Int.le_refl _
        have hx1 : (0 : Int) < F .slen u := by rw [hun, eun]; exact Int.ofNat_lt.2 hpos
        by_cases h48 : c0 = 48
        · have e48 : F .cmp .eql b0 48 = true := by rw [e48]; exact decide_eq_true h48
          by_cases hl1 : 1 < t.length
          · have e1 : F .cmp .gtr un 1 = true := by rw [e1]; exact decide_eq_true hl1
            obtain ⟨f1, f2⟩ := hnoT (by unfold numT; rw [if_pos (.inr (.inr ⟨by rw [hc0, h48], .inl hl1⟩))])
            subst f1 f2
            clear hnoT hyesT
            cbv
            refine cF (e0) ?_
            cbv
            rw [hun]
            refine cF (e15) ?_
            cbv
            refine ⟨hx1, ?_⟩
            cbv
            rw [hb0]
            refine bT (e48) ?_
            cbv
            rw [hun]
            refine cT (e1) ?_
            cbv
            simp
          · have e1 : F .cmp .gtr un 1 = false := by rw [e1]; exact decide_eq_false hl1
            by_cases hng : neg = true
            · have e2 : F .cmp .lss sg 0 = true := by rw [lsF hF]; exact decide_eq_true (hneg.1 hng)
              obtain ⟨f1, f2⟩ := hnoT (by unfold numT; rw [if_pos (.inr (.inr ⟨by rw [hc0, h48], .inr hng⟩))])
              subst f1 f2
              clear hnoT hyesT
              cbv
              refine cF (e0) ?_
              cbv
              rw [hun]
              refine cF (e15) ?_
              cbv
              refine ⟨hx1, ?_⟩
              cbv
              rw [hb0]
              refine bT (e48) ?_
              cbv
              rw [hun]
              refine cF (e1) ?_
              cbv
              refine bT (e2) ?_
              cbv
              simp
            · have e2 : F .cmp .lss sg 0 = false := by rw [lsF hF]; exact decide_eq_false (fun h => hng (hneg.2 h))
              have hnb : ¬ (t = [] ∨ 15 < t.length ∨ (t[0]? = some 48 ∧ (1 < t.length ∨ neg = true))) := by
                rintro (h | h | ⟨_, h | h⟩)
                · exact ht0 h
                · exact h15 h
                · exact hl1 h
                · exact hng h
              have hno : ¬ (t.all dig = true) → v = 0 ∧ ok = false := fun h => hnoT (by unfold numT; rw [if_neg hnb, if_neg h])
              have hyes : t.all dig = true → v = sg * (valN t : Int) ∧ ok = true := fun h => hyesT (valN t) (by unfold numT; rw [if_neg hnb, if_pos h])
              clear hnoT hyesT
              cbv
              refine cF (e0) ?_
              cbv
              rw [hun]
              refine cF (e15) ?_
              cbv
              refine ⟨hx1, ?_⟩
              cbv
              rw [hb0]
              refine bT (e48) ?_
              cbv
              rw [hun]
              refine cF (e1) ?_
              cbv
              refine bF (e2) ?_
              cbv
              refine ⟨Nat × Int × Nat × Int, fun x => { slots := [(6, aI x.2.1), (5, aI x.2.2.2), (4, aI sg), (0, aS u)], obs := [], ctr := 0 }, fun x => x.2.1 = (x.1 : Int) ∧ x.1 ≤ t.length ∧ x.2.2.2 = (x.2.2.1 : Int) ∧ x.2.2.1 = valN (t.take x.1) ∧ x.2.2.1 < 10 ^ x.1 ∧ ∀ j c, j < x.1 → t[j]? = some c → dig c = true, fun x => t.length - x.1, ⟨(0, 0, 0, 0), ⟨rfl, Nat.zero_le _, rfl, rfl, (show 0 < 10 ^ 0 by decide), fun j c h => by omega⟩, (le_of [] (by simp [leSl, leOb, injK, memK, parK, noTup, lk, rn0, rnA, plain] <;> first | rfl | decide))⟩, fun x hx => ?_⟩
              obtain ⟨i, i', m, m'⟩ := x
              obtain ⟨ei, hi, em, hm, hmb, hds⟩ := hx
              simp only at ei hi em hm hmb hds
              have eun : un = (t.length : Int) := eun
              have hu : t = L u := hu
              have hm15 : m < 1000000000000000 := Nat.lt_of_lt_of_le hmb (Nat.le_trans (Nat.pow_le_pow_right (by omega) (Nat.le_trans hi h15')) (by decide))
              have tl := ltF hF i t.length i' un ei eun
              obtain ⟨i2, hi2⟩ : ∃ i2, F .ar .add .i64 i' 1 = i2 := ⟨_, rfl⟩
              have ei2 : i2 = ((i + 1 : Nat) : Int) := hi2.symm.trans (incF hF ei (by omega))
              by_cases hil : i < t.length
              · have tl : F .cmp .lss i' un = true := tl.2 hil
                obtain ⟨c, hc⟩ : ∃ c, t[i]? = some c := ⟨_, List.getElem?_eq_getElem hil⟩
                obtain ⟨b, hb⟩ : ∃ b : Int, F .bt u i' = b := ⟨_, rfl⟩
                have eb : b = (c.toNat : Int) := by rw [← hb, ei]; exact btF hF (by rw [← hu]; exact hc)
                have hlo0 : 0 ≤ i' := by rw [ei]; omega
                have hlo1 : i' < F .slen u := by rw [hun, ei, eun]; exact Int.ofNat_lt.2 hil
                have w1 : F .cmp .lss b 48 = decide (c.toNat < 48) := by rw [lsF hF, eb]; congr 1; exact propext ⟨fun h => by omega, fun h => by omega⟩
                have w2 : F .cmp .gtr b 57 = decide (57 < c.toNat) := by rw [gtF hF, eb]; congr 1; exact propext ⟨fun h => by omega, fun h => by omega⟩
                have hbad : (c.toNat < 48 ∨ 57 < c.toNat) → v = 0 ∧ ok = false := fun h => hno (by
                  intro hall
                  have := List.all_eq_true.1 hall c (List.mem_of_getElem? hc)
                  simp only [dig, decide_eq_true_eq] at this
                  omega)
                by_cases h48 : c.toNat < 48
                · have w1 : F .cmp .lss b 48 = true := by rw [w1]; exact decide_eq_true h48
                  obtain ⟨f1, f2⟩ := hbad (.inl h48)
                  subst f1 f2
                  clear hbad hno hyes
                  cbv
                  rw [hun]
                  refine bT (tl) ?_
                  cbv
                  refine ⟨hlo0, hlo1, ?_⟩
                  cbv
                  rw [hb]
                  refine cT (w1) ?_
                  cbv
                  simp
                · have w1 : F .cmp .lss b 48 = false := by rw [w1]; exact decide_eq_false h48
                  by_cases h57 : 57 < c.toNat
                  · have w2 : F .cmp .gtr b 57 = true := by rw [w2]; exact decide_eq_true h57
                    obtain ⟨f1, f2⟩ := hbad (.inr h57)
                    subst f1 f2
                    clear hbad hno hyes
                    cbv
                    rw [hun]
                    refine bT (tl) ?_
                    cbv
                    refine ⟨hlo0, hlo1, ?_⟩
                    cbv
                    rw [hb]
                    refine cF (w1) ?_
                    cbv
                    refine ⟨hlo0, hlo1, ?_⟩
                    cbv
                    rw [hb]
                    refine bT (w2) ?_
                    cbv
                    simp
                  · have w2 : F .cmp .gtr b 57 = false := by rw [w2]; exact decide_eq_false h57
                    obtain ⟨w, hw⟩ : ∃ w1, F .ar .add .i64 (F .ar .mul .i64 10 m') (F .wrp .i64 (F .ar .sub .u8 b 48)) = w1 := ⟨_, rfl⟩
                    have ew : w = ((10 * m + (c.toNat - 48) : Nat) : Int) := by
                      rw [← hw, hF, em, eb]
                      have e1 : sy .ar .mul .i64 10 (m : Int) = ((10 * m : Nat) : Int) := (wrap_in (by omega) (by omega)).trans (by omega)
                      have e2 : sy .ar .sub .u8 (c.toNat : Int) 48 = ((c.toNat - 48 : Nat) : Int) := by
                        show IntKind.u8.wrap _ = _
                        simp [IntKind.wrap, IntKind.signed, IntKind.bits, BitVec.toNat_ofInt]
                        omega
                      rw [e1, e2]
                      have e3 : sy .wrp .i64 ((c.toNat - 48 : Nat) : Int) = ((c.toNat - 48 : Nat) : Int) := wrap_in (by omega) (by omega)
                      rw [e3]
                      exact (wrap_in (by omega) (by omega)).trans (by omega)
                    have hst : 10 * m + (c.toNat - 48) < 10 ^ (i + 1) := by rw [Nat.pow_succ]; omega
                    cbv
                    rw [hun]
                    refine bT (tl) ?_
                    cbv
                    refine ⟨hlo0, hlo1, ?_⟩
                    cbv
                    rw [hb]
                    refine cF (w1) ?_
                    cbv
                    refine ⟨hlo0, hlo1, ?_⟩
                    cbv
                    rw [hb]
                    refine bF (w2) ?_
                    cbv
                    refine ⟨hlo0, hlo1, ?_⟩
                    cbv
                    rw [hb, hw, hi2]
                    exact ⟨(i + 1, i2, 10 * m + (c.toNat - 48), w), ⟨ei2, hil, ew, by simp only; rw [valN_step t i c hc, ← hm], hst, fun j a hj ha => by
                      by_cases hjn : j < i
                      · exact hds j a hjn ha
                      · have hji : j = i := by omega
                        rw [hji, hc] at ha; injection ha with ha; rw [← ha]; simp only [dig, decide_eq_true_eq]; omega⟩, (show t.length - (i + 1) < t.length - i by omega), (le_of [] (by simp [leSl, leOb, injK, memK, parK, noTup, lk, rn0, rnA, plain] <;> first | rfl | decide))⟩
              · have tl : F .cmp .lss i' un = false := by cases h : F .cmp .lss i' un with | true => exact absurd (tl.1 h) hil | false => rfl
                obtain ⟨f1, f2⟩ := hyes (List.all_eq_true.2 fun c hc => by
                  obtain ⟨j, hj, hjc⟩ := List.getElem_of_mem hc
                  exact hds j c (by omega) (by rw [List.getElem?_eq_getElem hj, hjc]))
                have hmt : m = valN t := by rw [hm, List.take_of_length_le (by omega)]
                have hmul : F .ar .mul .i64 sg m' = v := by
                  rw [f1, hF, em, ← hmt]
                  exact wrap_in (by rcases hsg with h | h <;> rw [h] <;> omega) (by rcases hsg with h | h <;> rw [h] <;> omega)
                subst f2
                clear hno hyes f1
                cbv
                rw [hun]
                refine bF (tl) ?_
                cbv
                rw [hmul]
                simp
        · have e48 : F .cmp .eql b0 48 = false := by rw [e48]; exact decide_eq_false h48
          have hnb : ¬ (t = [] ∨ 15 < t.length ∨ (t[0]? = some 48 ∧ (1 < t.length ∨ neg = true))) := by
            rintro (h | h | ⟨h, _⟩)
            · exact ht0 h
            · exact h15 h
            · rw [hc0] at h; injection h with h; exact h48 h
          have hno : ¬ (t.all dig = true) → v = 0 ∧ ok = false := fun h => hnoT (by unfold numT; rw [if_neg hnb, if_neg h])
          have hyes : t.all dig = true → v = sg * (valN t : Int) ∧ ok = true := fun h => hyesT (valN t) (by unfold numT; rw [if_neg hnb, if_pos h])
          clear hnoT hyesT
          cbv
          refine cF (e0) ?_
          cbv
          rw [hun]
          refine cF (e15) ?_
          cbv
          refine ⟨hx1, ?_⟩
          cbv
          rw [hb0]
          refine bF (e48) ?_
          cbv
          refine ⟨Nat × Int × Nat × Int, fun x => { slots := [(6, aI x.2.1), (5, aI x.2.2.2), (4, aI sg), (0, aS u)], obs := [], ctr := 0 }, fun x => x.2.1 = (x.1 : Int) ∧ x.1 ≤ t.length ∧ x.2.2.2 = (x.2.2.1 : Int) ∧ x.2.2.1 = valN (t.take x.1) ∧ x.2.2.1 < 10 ^ x.1 ∧ ∀ j c, j < x.1 → t[j]? = some c → dig c = true, fun x => t.length - x.1, ⟨(0, 0, 0, 0), ⟨rfl, Nat.zero_le _, rfl, rfl, (show 0 < 10 ^ 0 by decide), fun j c h => by omega⟩, (le_of [] (by simp [leSl, leOb, injK, memK, parK, noTup, lk, rn0, rnA, plain] <;> first | rfl | decide))⟩, fun x hx => ?_⟩
          obtain ⟨i, i', m, m'⟩ := x
          obtain ⟨ei, hi, em, hm, hmb, hds⟩ := hx
          simp only at ei hi em hm hmb hds
          have eun : un = (t.length : Int) := eun
          have hu : t = L u := hu
          have hm15 : m < 1000000000000000 := Nat.lt_of_lt_of_le hmb (Nat.le_trans (Nat.pow_le_pow_right (by omega) (Nat.le_trans hi h15')) (by decide))
          have tl := ltF hF i t.length i' un ei eun
          obtain ⟨i2, hi2⟩ : ∃ i2, F .ar .add .i64 i' 1 = i2 := ⟨_, rfl⟩
          have ei2 : i2 = ((i + 1 : Nat) : Int) := hi2.symm.trans (incF hF ei (by omega))
          by_cases hil : i < t.length
          · have tl : F .cmp .lss i' un = true := tl.2 hil
            obtain ⟨c, hc⟩ : ∃ c, t[i]? = some c := ⟨_, List.getElem?_eq_getElem hil⟩
            obtain ⟨b, hb⟩ : ∃ b : Int, F .bt u i' = b := ⟨_, rfl⟩
            have eb : b = (c.toNat : Int) := by rw [← hb, ei]; exact btF hF (by rw [← hu]; exact hc)
            have hlo0 : 0 ≤ i' := by rw [ei]; omega
            have hlo1 : i' < F .slen u := by rw [hun, ei, eun]; exact Int.ofNat_lt.2 hil
            have w1 : F .cmp .lss b 48 = decide (c.toNat < 48) := by rw [lsF hF, eb]; congr 1; exact propext ⟨fun h => by omega, fun h => by omega⟩
            have w2 : F .cmp .gtr b 57 = decide (57 < c.toNat) := by rw [gtF hF, eb]; congr 1; exact propext ⟨fun h => by omega, fun h => by omega⟩
            have hbad : (c.toNat < 48 ∨ 57 < c.toNat) → v = 0 ∧ ok = false := fun h => hno (by
              intro hall
              have := List.all_eq_true.1 hall c (List.mem_of_getElem? hc)
              simp only [dig, decide_eq_true_eq] at this
              omega)
            by_cases h48 : c.toNat < 48
            · have w1 : F .cmp .lss b 48 = true := by rw [w1]; exact decide_eq_true h48
              obtain ⟨f1, f2⟩ := hbad (.inl h48)
              subst f1 f2
              clear hbad hno hyes
              cbv
              rw [hun]
              refine bT (tl) ?_
              cbv
              refine ⟨hlo0, hlo1, ?_⟩
              cbv
              rw [hb]
              refine cT (w1) ?_
              cbv
              simp
            · have w1 : F .cmp .lss b 48 = false := by rw [w1]; exact decide_eq_false h48
              by_cases h57 : 57 < c.toNat
              · have w2 : F .cmp .gtr b 57 = true := by rw [w2]; exact decide_eq_true h57
                obtain ⟨f1, f2⟩ := hbad (.inr h57)
                subst f1 f2
                clear hbad hno hyes
                cbv
                rw [hun]
                refine bT (tl) ?_
                cbv
                refine ⟨hlo0, hlo1, ?_⟩
                cbv
                rw [hb]
                refine cF (w1) ?_
                cbv
                refine ⟨hlo0, hlo1, ?_⟩
                cbv
                rw [hb]
                refine bT (w2) ?_
                cbv
                simp
              · have w2 : F .cmp .gtr b 57 = false := by rw [w2]; exact decide_eq_false h57
                obtain ⟨w, hw⟩ : ∃ w1, F .ar .add .i64 (F .ar .mul .i64 10 m') (F .wrp .i64 (F .ar .sub .u8 b 48)) = w1 := ⟨_, rfl⟩
                have ew : w = ((10 * m + (c.toNat - 48) : Nat) : Int) := by
                  rw [← hw, hF, em, eb]
                  have e1 : sy .ar .mul .i64 10 (m : Int) = ((10 * m : Nat) : Int) := (wrap_in (by omega) (by omega)).trans (by omega)
                  have e2 : sy .ar .sub .u8 (c.toNat : Int) 48 = ((c.toNat - 48 : Nat) : Int) := by
                    show IntKind.u8.wrap _ = _
                    simp [IntKind.wrap, IntKind.signed, IntKind.bits, BitVec.toNat_ofInt]
                    omega
                  rw [e1, e2]
                  have e3 : sy .wrp .i64 ((c.toNat - 48 : Nat) : Int) = ((c.toNat - 48 : Nat) : Int) := wrap_in (by omega) (by omega)
                  rw [e3]
                  exact (wrap_in (by omega) (by omega)).trans (by omega)
                have hst : 10 * m + (c.toNat - 48) < 10 ^ (i + 1) := by rw [Nat.pow_succ]; omega
                cbv
                rw [hun]
                refine bT (tl) ?_
                cbv
                refine ⟨hlo0, hlo1, ?_⟩
                cbv
                rw [hb]
                refine cF (w1) ?_
                cbv
                refine ⟨hlo0, hlo1, ?_⟩
                cbv
                rw [hb]
                refine bF (w2) ?_
                cbv
                refine ⟨hlo0, hlo1, ?_⟩
                cbv
                rw [hb, hw, hi2]
                exact ⟨(i + 1, i2, 10 * m + (c.toNat - 48), w), ⟨ei2, hil, ew, by simp only; rw [valN_step t i c hc, ← hm], hst, fun j a hj ha => by
                  by_cases hjn : j < i
                  · exact hds j a hjn ha
                  · have hji : j = i := by omega
                    rw [hji, hc] at ha; injection ha with ha; rw [← ha]; simp only [dig, decide_eq_true_eq]; omega⟩, (show t.length - (i + 1) < t.length - i by omega), (le_of [] (by simp [leSl, leOb, injK, memK, parK, noTup, lk, rn0, rnA, plain] <;> first | rfl | decide))⟩
          · have tl : F .cmp .lss i' un = false := by cases h : F .cmp .lss i' un with | true => exact absurd (tl.1 h) hil | false => rfl
            obtain ⟨f1, f2⟩ := hyes (List.all_eq_true.2 fun c hc => by
              obtain ⟨j, hj, hjc⟩ := List.getElem_of_mem hc
              exact hds j c (by omega) (by rw [List.getElem?_eq_getElem hj, hjc]))
            have hmt : m = valN t := by rw [hm, List.take_of_length_le (by omega)]
            have hmul : F .ar .mul .i64 sg m' = v := by
              rw [f1, hF, em, ← hmt]
              exact wrap_in (by rcases hsg with h | h <;> rw [h] <;> omega) (by rcases hsg with h | h <;> rw [h] <;> omega)
            subst f2
            clear hno hyes f1
            cbv
            rw [hun]
            refine bF (tl) ?_
            cbv
            rw [hmul]
            simp
  | cons c t0 =>
    have n0 : F .scmp .neq u ⟨[].toArray⟩ = true := n0
    have hul : F .slen u = ((t0.length + 1 : Nat) : Int) := by rw [slenF hF, L_size, ← hs]; rfl
    have hx0 : (0 : Int) ≤ 0 := Int.le_refl _
    have hx1 : (0 : Int) < F .slen u := by rw [hul]; exact Int.ofNat_lt.2 (Nat.succ_pos _)
    obtain ⟨b0, hb0⟩ : ∃ b : Int, F .bt u 0 = b := ⟨_, rfl⟩
    have eb0 : b0 = (c.toNat : Int) := by rw [← hb0]; exact btF (i := 0) hF (by rw [← hs]; rfl)
    have e45 : F .cmp .eql b0 45 = decide (c = 45) := by rw [eqF hF, eb0]; congr 1; exact propext ⟨fun h => UInt8.toNat_inj.1 (by have : (45 : UInt8).toNat = 45 := rfl; omega), fun h => by rw [h]; rfl⟩
    by_cases h45 : c = 45
    · have e45 : F .cmp .eql b0 45 = true := by rw [e45]; exact decide_eq_true h45
      obtain ⟨sg, hsg0⟩ : ∃ sg : Int, sg = -1 := ⟨_, rfl⟩
      have hsg : sg = 1 ∨ sg = -1 := .inr hsg0
      obtain ⟨neg, hng0⟩ : ∃ b : Bool, b = true := ⟨_, rfl⟩
      have hneg : neg = true ↔ sg < 0 := by rw [hng0, hsg0]; simp
      obtain ⟨xs, hxs⟩ : ∃ xs, xs = u.extract 1 (t0.length + 1) := ⟨_, rfl⟩
      obtain ⟨t, ht⟩ : ∃ t : List UInt8, t = t0 := ⟨_, rfl⟩
      have hu0 : t = L xs := by rw [hxs, L_extract, ← hs, ht]; simp
      have hnoT : numT t neg = none → v = 0 ∧ ok = false := fun h => h2 (by rw [ht, hng0] at h; simp [numR, h45, h])
      have hyesT : ∀ n, numT t neg = some n → v = sg * (n : Int) ∧ ok = true := fun n h => by
        rw [ht, hng0] at h
        obtain ⟨g1, g2⟩ := h1 (-(n : Int)) (by simp [numR, h45, h])
        exact ⟨by rw [g1, hsg0]; omega, g2⟩
      have hsl : ((t0.length + 1 : Nat) : Int) ≤ F .slen u := by rw [hul]; exact Int.le_refl _
      have hsl2 : ((t0.length + 1 : Nat) : Int) = F .slen u := hul.symm
      cbv
      refine bT (n0) ?_
      cbv
      refine ⟨hx1, ?_⟩
      cbv
      rw [hb0]
      refine bT (e45) ?_
      cbv
      refine ⟨1, t0.length + 1, rfl, hsl2, Nat.succ_le_succ (Nat.zero_le _), hsl, xs, hxs, ?_⟩
      cbv
      refine ⟨{ slots := [(4, aI sg), (0, aS xs)], obs := [], ctr := 0 }, (le_of [] (by simp [leSl, leOb, injK, memK, parK, noTup, lk, rn0, rnA, plain, hsg0] <;> first | rfl | decide)), hD _ _ _ ?_⟩
      clear n0 h1 h2 hs ht hsg0 hxs hsl hsl2 hul hx1
      revert hu0
      generalize xs = u
      intro hu
      have hu : t = L u := hu
      obtain ⟨un, hun⟩ : ∃ un : Int, F .slen u = un := ⟨_, rfl⟩
      have eun : un = (t.length : Int) := by rw [← hun, slenF hF, L_size, hu]
      have e0 := empF hF u t hu
      have e15 : F .cmp .gtr un 15 = decide (15 < t.length) := by rw [gtF hF, eun]; congr 1; exact propext ⟨fun h => by omega, fun h => by omega⟩
      have e1 : F .cmp .gtr un 1 = decide (1 < t.length) := by rw [gtF hF, eun]; congr 1; exact propext ⟨fun h => by omega, fun h => by omega⟩
      unfold BA at e0
      by_cases ht0 : t = []
      · have e0 := e0.trans (decide_eq_true ht0)
        obtain ⟨f1, f2⟩ := hnoT (by unfold numT; rw [if_pos (.inl ht0)])
        subst f1 f2
        clear hnoT hyesT
        cbv
        refine cT (e0) ?_
        cbv
        simp
      · have e0 := e0.trans (decide_eq_false ht0)
        by_cases h15 : 15 < t.length
        · have e15 : F .cmp .gtr un 15 = true := by rw [e15]; exact decide_eq_true h15
          obtain ⟨f1, f2⟩ := hnoT (by unfold numT; rw [if_pos (.inr (.inl h15))])
          subst f1 f2
          clear hnoT hyesT
          cbv
          refine cF (e0) ?_
          cbv
          rw [hun]
          refine cT (e15) ?_
          cbv
          simp
        · have e15 : F .cmp .gtr un 15 = false := by rw [e15]; exact decide_eq_false h15
          have h15' : t.length ≤ 15 := by omega
          have hpos : 0 < t.length := List.length_pos_iff.2 ht0
          obtain ⟨c0, hc0⟩ : ∃ c, t[0]? = some c := ⟨_, List.getElem?_eq_getElem hpos⟩
          obtain ⟨b0, hb0⟩ : ∃ b : Int, F .bt u 0 = b := ⟨_, rfl⟩
          have eb0 : b0 = (c0.toNat : Int) := by rw [← hb0]; exact btF (i := 0) hF (by rw [← hu]; exact hc0)
          have e48 : F .cmp .eql b0 48 = decide (c0 = 48) := by rw [eqF hF, eb0]; congr 1; exact propext ⟨fun h => UInt8.toNat_inj.1 (by have : (48 : UInt8).toNat = 48 := rfl; omega), fun h => by rw [h]; rfl⟩
          have hx0 : (0 : Int) ≤ 0 := Int.le_refl _
          have hx1 : (0 : Int) < F .slen u := by rw [hun, eun]; exact Int.ofNat_lt.2 hpos
          by_cases h48 : c0 = 48
          · have e48 : F .cmp .eql b0 48 = true := by rw [e48]; exact decide_eq_true h48
            by_cases hl1 : 1 < t.length
            · have e1 : F .cmp .gtr un 1 = true := by rw [e1]; exact decide_eq_true hl1
              obtain ⟨f1, f2⟩ := hnoT (by unfold numT; rw [if_pos (.inr (.inr ⟨by rw [hc0, h48], .inl hl1⟩))])
              subst f1 f2
              clear hnoT hyesT
              cbv
              refine cF (e0) ?_
              cbv
              rw [hun]
              refine cF (e15) ?_
              cbv
              refine ⟨hx1, ?_⟩
              cbv
              rw [hb0]
              refine bT (e48) ?_
              cbv
              rw [hun]
              refine cT (e1) ?_
              cbv
              simp
            · have e1 : F .cmp .gtr un 1 = false := by rw [e1]; exact decide_eq_false hl1
              by_cases hng : neg = true
              · have e2 : F .cmp .lss sg 0 = true := by rw [lsF hF]; exact decide_eq_true (hneg.1 hng)
                obtain ⟨f1, f2⟩ := hnoT (by unfold numT; rw [if_pos (.inr (.inr ⟨by rw [hc0, h48], .inr hng⟩))])
                subst f1 f2
                clear hnoT hyesT
                cbv
                refine cF (e0) ?_
                cbv
                rw [hun]
                refine cF (e15) ?_
                cbv
                refine ⟨hx1, ?_⟩
                cbv
                rw [hb0]
                refine bT (e48) ?_
                cbv
                rw [hun]
                refine cF (e1) ?_
                cbv
                refine bT (e2) ?_
                cbv
                simp
              · have e2 : F .cmp .lss sg 0 = false := by rw [lsF hF]; exact decide_eq_false (fun h => hng (hneg.2 h))
                have hnb : ¬ (t = [] ∨ 15 < t.length ∨ (t[0]? = some 48 ∧ (1 < t.length ∨ neg = true))) := by
                  rintro (h | h | ⟨_, h | h⟩)
                  · exact ht0 h
                  · exact h15 h
                  · exact hl1 h
                  · exact hng h
                have hno : ¬ (t.all dig = true) → v = 0 ∧ ok = false := fun h => hnoT (by unfold numT; rw [if_neg hnb, if_neg h])
                have hyes : t.all dig = true → v = sg * (valN t : Int) ∧ ok = true := fun h => hyesT (valN t) (by unfold numT; rw [if_neg hnb, if_pos h])
                clear hnoT hyesT
                cbv
                refine cF (e0) ?_
                cbv
                rw [hun]
                refine cF (e15) ?_
                cbv
                refine ⟨hx1, ?_⟩
                cbv
                rw [hb0]
                refine bT (e48) ?_
                cbv
                rw [hun]
                refine cF (e1) ?_
                cbv
                refine bF (e2) ?_
                cbv
                refine ⟨Nat × Int × Nat × Int, fun x => { slots := [(6, aI x.2.1), (5, aI x.2.2.2), (4, aI sg), (0, aS u)], obs := [], ctr := 0 }, fun x => x.2.1 = (x.1 : Int) ∧ x.1 ≤ t.length ∧ x.2.2.2 = (x.2.2.1 : Int) ∧ x.2.2.1 = valN (t.take x.1) ∧ x.2.2.1 < 10 ^ x.1 ∧ ∀ j c, j < x.1 → t[j]? = some c → dig c = true, fun x => t.length - x.1, ⟨(0, 0, 0, 0), ⟨rfl, Nat.zero_le _, rfl, rfl, (show 0 < 10 ^ 0 by decide), fun j c h => by omega⟩, (le_of [] (by simp [leSl, leOb, injK, memK, parK, noTup, lk, rn0, rnA, plain] <;> first | rfl | decide))⟩, fun x hx => ?_⟩
                obtain ⟨i, i', m, m'⟩ := x
                obtain ⟨ei, hi, em, hm, hmb, hds⟩ := hx
                simp only at ei hi em hm hmb hds
                have eun : un = (t.length : Int) := eun
                have hu : t = L u := hu
                have hm15 : m < 1000000000000000 := Nat.lt_of_lt_of_le hmb (Nat.le_trans (Nat.pow_le_pow_right (by omega) (Nat.le_trans hi h15')) (by decide))
                have tl := ltF hF i t.length i' un ei eun
                obtain ⟨i2, hi2⟩ : ∃ i2, F .ar .add .i64 i' 1 = i2 := ⟨_, rfl⟩
                have ei2 : i2 = ((i + 1 : Nat) : Int) := hi2.symm.trans (incF hF ei (by omega))
                by_cases hil : i < t.length
                · have tl : F .cmp .lss i' un = true := tl.2 hil
                  obtain ⟨c, hc⟩ : ∃ c, t[i]? = some c := ⟨_, List.getElem?_eq_getElem hil⟩
                  obtain ⟨b, hb⟩ : ∃ b : Int, F .bt u i' = b := ⟨_, rfl⟩
                  have eb : b = (c.toNat : Int) := by rw [← hb, ei]; exact btF hF (by rw [← hu]; exact hc)
                  have hlo0 : 0 ≤ i' := by rw [ei]; omega
                  have hlo1 : i' < F .slen u := by rw [hun, ei, eun]; exact Int.ofNat_lt.2 hil
                  have w1 : F .cmp .lss b 48 = decide (c.toNat < 48) := by rw [lsF hF, eb]; congr 1; exact propext ⟨fun h => by omega, fun h => by omega⟩
                  have w2 : F .cmp .gtr b 57 = decide (57 < c.toNat) := by rw [gtF hF, eb]; congr 1; exact propext ⟨fun h => by omega, fun h => by omega⟩
                  have hbad : (c.toNat < 48 ∨ 57 < c.toNat) → v = 0 ∧ ok = false := fun h => hno (by
                    intro hall
                    have := List.all_eq_true.1 hall c (List.mem_of_getElem? hc)
                    simp only [dig, decide_eq_true_eq] at this
                    omega)
                  by_cases h48 : c.toNat < 48
                  · have w1 : F .cmp .lss b 48 = true := by rw [w1]; exact decide_eq_true h48
                    obtain ⟨f1, f2⟩ := hbad (.inl h48)
                    subst f1 f2
                    clear hbad hno hyes
                    cbv
                    rw [hun]
                    refine bT (tl) ?_
                    cbv
                    refine ⟨hlo0, hlo1, ?_⟩
                    cbv
                    rw [hb]
                    refine cT (w1) ?_
                    cbv
                    simp
                  · have w1 : F .cmp .lss b 48 = false := by rw [w1]; exact decide_eq_false h48
                    by_cases h57 : 57 < c.toNat
                    · have w2 : F .cmp .gtr b 57 = true := by rw [w2]; exact decide_eq_true h57
                      obtain ⟨f1, f2⟩ := hbad (.inr h57)
                      subst f1 f2
                      clear hbad hno hyes
                      cbv
                      rw [hun]
                      refine bT (tl) ?_
                      cbv
                      refine ⟨hlo0, hlo1, ?_⟩
                      cbv
                      rw [hb]
                      refine cF (w1) ?_
                      cbv
                      refine ⟨hlo0, hlo1, ?_⟩
                      cbv
                      rw [hb]
                      refine bT (w2) ?_
                      cbv
                      simp
                    · have w2 : F .cmp .gtr b 57 = false := by rw [w2]; exact decide_eq_false h57
                      obtain ⟨w, hw⟩ : ∃ w1, F .ar .add .i64 (F .ar .mul .i64 10 m') (F .wrp .i64 (F .ar .sub .u8 b 48)) = w1 := ⟨_, rfl⟩
                      have ew : w = ((10 * m + (c.toNat - 48) : Nat) : Int) := by
                        rw [← hw, hF, em, eb]
                        have e1 : sy .ar .mul .i64 10 (m : Int) = ((10 * m : Nat) : Int) := (wrap_in (by omega) (by omega)).trans (by omega)
                        have e2 : sy .ar .sub .u8 (c.toNat : Int) 48 = ((c.toNat - 48 : Nat) : Int) := by
                          show IntKind.u8.wrap _ = _
                          simp [IntKind.wrap, IntKind.signed, IntKind.bits, BitVec.toNat_ofInt]
                          omega
                        rw [e1, e2]
                        have e3 : sy .wrp .i64 ((c.toNat - 48 : Nat) : Int) = ((c.toNat - 48 : Nat) : Int) := wrap_in (by omega) (by omega)
                        rw [e3]
                        exact (wrap_in (by omega) (by omega)).trans (by omega)
                      have hst : 10 * m + (c.toNat - 48) < 10 ^ (i + 1) := by rw [Nat.pow_succ]; omega
                      cbv
                      rw [hun]
                      refine bT (tl) ?_
                      cbv
                      refine ⟨hlo0, hlo1, ?_⟩
                      cbv
                      rw [hb]
                      refine cF (w1) ?_
                      cbv
                      refine ⟨hlo0, hlo1, ?_⟩
                      cbv
                      rw [hb]
                      refine bF (w2) ?_
                      cbv
                      refine ⟨hlo0, hlo1, ?_⟩
                      cbv
                      rw [hb, hw, hi2]
                      exact ⟨(i + 1, i2, 10 * m + (c.toNat - 48), w), ⟨ei2, hil, ew, by simp only; rw [valN_step t i c hc, ← hm], hst, fun j a hj ha => by
                        by_cases hjn : j < i
                        · exact hds j a hjn ha
                        · have hji : j = i := by omega
                          rw [hji, hc] at ha; injection ha with ha; rw [← ha]; simp only [dig, decide_eq_true_eq]; omega⟩, (show t.length - (i + 1) < t.length - i by omega), (le_of [] (by simp [leSl, leOb, injK, memK, parK, noTup, lk, rn0, rnA, plain] <;> first | rfl | decide))⟩
                · have tl : F .cmp .lss i' un = false := by cases h : F .cmp .lss i' un with | true => exact absurd (tl.1 h) hil | false => rfl
                  obtain ⟨f1, f2⟩ := hyes (List.all_eq_true.2 fun c hc => by
                    obtain ⟨j, hj, hjc⟩ := List.getElem_of_mem hc
                    exact hds j c (by omega) (by rw [List.getElem?_eq_getElem hj, hjc]))
                  have hmt : m = valN t := by rw [hm, List.take_of_length_le (by omega)]
                  have hmul : F .ar .mul .i64 sg m' = v := by
                    rw [f1, hF, em, ← hmt]
                    exact wrap_in (by rcases hsg with h | h <;> rw [h] <;> omega) (by rcases hsg with h | h <;> rw [h] <;> omega)
                  subst f2
                  clear hno hyes f1
                  cbv
                  rw [hun]
                  refine bF (tl) ?_
                  cbv
                  rw [hmul]
                  simp
          · have e48 : F .cmp .eql b0 48 = false := by rw [e48]; exact decide_eq_false h48
            have hnb : ¬ (t = [] ∨ 15 < t.length ∨ (t[0]? = some 48 ∧ (1 < t.length ∨ neg = true))) := by
              rintro (h | h | ⟨h, _⟩)
              · exact ht0 h
              · exact h15 h
              · rw [hc0] at h; injection h with h; exact h48 h
            have hno : ¬ (t.all dig = true) → v = 0 ∧ ok = false := fun h => hnoT (by unfold numT; rw [if_neg hnb, if_neg h])
            have hyes : t.all dig = true → v = sg * (valN t : Int) ∧ ok = true := fun h => hyesT (valN t) (by unfold numT; rw [if_neg hnb, if_pos h])
            clear hnoT hyesT
            cbv
            refine cF (e0) ?_
            cbv
            rw [hun]
            refine cF (e15) ?_
            cbv
            refine ⟨hx1, ?_⟩
            cbv
            rw [hb0]
            refine bF (e48) ?_
            cbv
            refine ⟨Nat × Int × Nat × Int, fun x => { slots := [(6, aI x.2.1), (5, aI x.2.2.2), (4, aI sg), (0, aS u)], obs := [], ctr := 0 }, fun x => x.2.1 = (x.1 : Int) ∧ x.1 ≤ t.length ∧ x.2.2.2 = (x.2.2.1 : Int) ∧ x.2.2.1 = valN (t.take x.1) ∧ x.2.2.1 < 10 ^ x.1 ∧ ∀ j c, j < x.1 → t[j]? = some c → dig c = true, fun x => t.length - x.1, ⟨(0, 0, 0, 0), ⟨rfl, Nat.zero_le _, rfl, rfl, (show 0 < 10 ^ 0 by decide), fun j c h => by omega⟩, (le_of [] (by simp [leSl, leOb, injK, memK, parK, noTup, lk, rn0, rnA, plain] <;> first | rfl | decide))⟩, fun x hx => ?_⟩
            obtain ⟨i, i', m, m'⟩ := x
            obtain ⟨ei, hi, em, hm, hmb, hds⟩ := hx
            simp only at ei hi em hm hmb hds
            have eun : un = (t.length : Int) := eun
            have hu : t = L u := hu
            have hm15 : m < 1000000000000000 := Nat.lt_of_lt_of_le hmb (Nat.le_trans (Nat.pow_le_pow_right (by omega) (Nat.le_trans hi h15')) (by decide))
            have tl := ltF hF i t.length i' un ei eun
            obtain ⟨i2, hi2⟩ : ∃ i2, F .ar .add .i64 i' 1 = i2 := ⟨_, rfl⟩
            have ei2 : i2 = ((i + 1 : Nat) : Int) := hi2.symm.trans (incF hF ei (by omega))
            by_cases hil : i < t.length
            · have tl : F .cmp .lss i' un = true := tl.2 hil
              obtain ⟨c, hc⟩ : ∃ c, t[i]? = some c := ⟨_, List.getElem?_eq_getElem hil⟩
              obtain ⟨b, hb⟩ : ∃ b : Int, F .bt u i' = b := ⟨_, rfl⟩
              have eb : b = (c.toNat : Int) := by rw [← hb, ei]; exact btF hF (by rw [← hu]; exact hc)
              have hlo0 : 0 ≤ i' := by rw [ei]; omega
              have hlo1 : i' < F .slen u := by rw [hun, ei, eun]; exact Int.ofNat_lt.2 hil
              have w1 : F .cmp .lss b 48 = decide (c.toNat < 48) := by rw [lsF hF, eb]; congr 1; exact propext ⟨fun h => by omega, fun h => by omega⟩
              have w2 : F .cmp .gtr b 57 = decide (57 < c.toNat) := by rw [gtF hF, eb]; congr 1; exact propext ⟨fun h => by omega, fun h => by omega⟩
              have hbad : (c.toNat < 48 ∨ 57 < c.toNat) → v = 0 ∧ ok = false := fun h => hno (by
                intro hall
                have := List.all_eq_true.1 hall c (List.mem_of_getElem? hc)
                simp only [dig, decide_eq_true_eq] at this
                omega)
              by_cases h48 : c.toNat < 48
              · have w1 : F .cmp .lss b 48 = true := by rw [w1]; exact decide_eq_true h48
                obtain ⟨f1, f2⟩ := hbad (.inl h48)
                subst f1 f2
                clear hbad hno hyes
                cbv
                rw [hun]
                refine bT (tl) ?_
                cbv
                refine ⟨hlo0, hlo1, ?_⟩
                cbv
                rw [hb]
                refine cT (w1) ?_
                cbv
                simp
              · have w1 : F .cmp .lss b 48 = false := by rw [w1]; exact decide_eq_false h48
                by_cases h57 : 57 < c.toNat
                · have w2 : F .cmp .gtr b 57 = true := by rw [w2]; exact decide_eq_true h57
                  obtain ⟨f1, f2⟩ := hbad (.inr h57)
                  subst f1 f2
                  clear hbad hno hyes
                  cbv
                  rw [hun]
                  refine bT (tl) ?_
                  cbv
                  refine ⟨hlo0, hlo1, ?_⟩
                  cbv
                  rw [hb]
                  refine cF (w1) ?_
                  cbv
                  refine ⟨hlo0, hlo1, ?_⟩
                  cbv
                  rw [hb]
                  refine bT (w2) ?_
                  cbv
                  simp
                · have w2 : F .cmp .gtr b 57 = false := by rw [w2]; exact decide_eq_false h57
                  obtain ⟨w, hw⟩ : ∃ w1, F .ar .add .i64 (F .ar .mul .i64 10 m') (F .wrp .i64 (F .ar .sub .u8 b 48)) = w1 := ⟨_, rfl⟩
                  have ew : w = ((10 * m + (c.toNat - 48) : Nat) : Int) := by
                    rw [← hw, hF, em, eb]
                    have e1 : sy .ar .mul .i64 10 (m : Int) = ((10 * m : Nat) : Int) := (wrap_in (by omega) (by omega)).trans (by omega)
                    have e2 : sy .ar .sub .u8 (c.toNat : Int) 48 = ((c.toNat - 48 : Nat) : Int) := by
                      show IntKind.u8.wrap _ = _
                      simp [IntKind.wrap, IntKind.signed, IntKind.bits, BitVec.toNat_ofInt]
                      omega
                    rw [e1, e2]
                    have e3 : sy .wrp .i64 ((c.toNat - 48 : Nat) : Int) = ((c.toNat - 48 : Nat) : Int) := wrap_in (by omega) (by omega)
                    rw [e3]
                    exact (wrap_in (by omega) (by omega)).trans (by omega)
                  have hst : 10 * m + (c.toNat - 48) < 10 ^ (i + 1) := by rw [Nat.pow_succ]; omega
                  cbv
                  rw [hun]
                  refine bT (tl) ?_
                  cbv
                  refine ⟨hlo0, hlo1, ?_⟩
                  cbv
                  rw [hb]
                  refine cF (w1) ?_
                  cbv
                  refine ⟨hlo0, hlo1, ?_⟩
                  cbv
                  rw [hb]
                  refine bF (w2) ?_
                  cbv
                  refine ⟨hlo0, hlo1, ?_⟩
                  cbv
                  rw [hb, hw, hi2]
                  exact ⟨(i + 1, i2, 10 * m + (c.toNat - 48), w), ⟨ei2, hil, ew, by simp only; rw [valN_step t i c hc, ← hm], hst, fun j a hj ha => by
                    by_cases hjn : j < i
                    · exact hds j a hjn ha
                    · have hji : j = i := by omega
                      rw [hji, hc] at ha; injection ha with ha; rw [← ha]; simp only [dig, decide_eq_true_eq]; omega⟩, (show t.length - (i + 1) < t.length - i by omega), (le_of [] (by simp [leSl, leOb, injK, memK, parK, noTup, lk, rn0, rnA, plain] <;> first | rfl | decide))⟩
            · have tl : F .cmp .lss i' un = false := by cases h : F .cmp .lss i' un with | true => exact absurd (tl.1 h) hil | false => rfl
              obtain ⟨f1, f2⟩ := hyes (List.all_eq_true.2 fun c hc => by
                obtain ⟨j, hj, hjc⟩ := List.getElem_of_mem hc
                exact hds j c (by omega) (by rw [List.getElem?_eq_getElem hj, hjc]))
              have hmt : m = valN t := by rw [hm, List.take_of_length_le (by omega)]
              have hmul : F .ar .mul .i64 sg m' = v := by
                rw [f1, hF, em, ← hmt]
                exact wrap_in (by rcases hsg with h | h <;> rw [h] <;> omega) (by rcases hsg with h | h <;> rw [h] <;> omega)
              subst f2
              clear hno hyes f1
              cbv
              rw [hun]
              refine bF (tl) ?_
              cbv
              rw [hmul]
              simp
    · have e45 : F .cmp .eql b0 45 = false := by rw [e45]; exact decide_eq_false h45
      obtain ⟨sg, hsg0⟩ : ∃ sg : Int, sg = 1 := ⟨_, rfl⟩
      have hsg : sg = 1 ∨ sg = -1 := .inl hsg0
      obtain ⟨neg, hng0⟩ : ∃ b : Bool, b = false := ⟨_, rfl⟩
      have hneg : neg = true ↔ sg < 0 := by rw [hng0, hsg0]; simp
      obtain ⟨t, ht⟩ : ∃ t : List UInt8, t = c :: t0 := ⟨_, rfl⟩
      have hu : t = L u := by rw [ht]; exact hs
      have hnoT : numT t neg = none → v = 0 ∧ ok = false := fun h => h2 (by rw [ht, hng0] at h; simp [numR, h45, h])
      have hyesT : ∀ n, numT t neg = some n → v = sg * (n : Int) ∧ ok = true := fun n h => by
        rw [ht, hng0] at h
        obtain ⟨g1, g2⟩ := h1 (n : Int) (by simp [numR, h45, h])
        exact ⟨by rw [g1, hsg0]; omega, g2⟩
      cbv
      refine bT (n0) ?_
      cbv
      refine ⟨hx1, ?_⟩
      cbv
      rw [hb0]
      refine bF (e45) ?_
      cbv
      refine ⟨{ slots := [(4, aI sg), (0, aS u)], obs := [], ctr := 0 }, (le_of [] (by simp [leSl, leOb, injK, memK, parK, noTup, lk, rn0, rnA, plain, hsg0] <;> first | rfl | decide)), hD _ _ _ ?_⟩
      clear n0 h1 h2 hs ht hsg0 hul hx1
      have hu : t = L u := hu
      obtain ⟨un, hun⟩ : ∃ un : Int, F .slen u = un := ⟨_, rfl⟩
      have eun : un = (t.length : Int) := by rw [← hun, slenF hF, L_size, hu]
      have e0 := empF hF u t hu
      have e15 : F .cmp .gtr un 15 = decide (15 < t.length) := by rw [gtF hF, eun]; congr 1; exact propext ⟨fun h => by omega, fun h => by omega⟩
      have e1 : F .cmp .gtr un 1 = decide (1 < t.length) := by rw [gtF hF, eun]; congr 1; exact propext ⟨fun h => by omega, fun h => by omega⟩
      unfold BA at e0
      by_cases ht0 : t = []
      · have e0 := e0.trans (decide_eq_true ht0)
        obtain ⟨f1, f2⟩ := hnoT (by unfold numT; rw [if_pos (.inl ht0)])
        subst f1 f2
        clear hnoT hyesT
        cbv
        refine cT (e0) ?_
        cbv
        simp
      · have e0 := e0.trans (decide_eq_false ht0)
        by_cases h15 : 15 < t.length
        · have e15 : F .cmp .gtr un 15 = true := by rw [e15]; exact decide_eq_true h15
          obtain ⟨f1, f2⟩ := hnoT (by unfold numT; rw [if_pos (.inr (.inl h15))])
          subst f1 f2
          clear hnoT hyesT
          cbv
          refine cF (e0) ?_
          cbv
          rw [hun]
          refine cT (e15) ?_
          cbv
          simp
        · have e15 : F .cmp .gtr un 15 = false := by rw [e15]; exact decide_eq_false h15
          have h15' : t.length ≤ 15 := by omega
          have hpos : 0 < t.length := List.length_pos_iff.2 ht0
          obtain ⟨c0, hc0⟩ : ∃ c, t[0]? = some c := ⟨_, List.getElem?_eq_getElem hpos⟩
          obtain ⟨b0, hb0⟩ : ∃ b : Int, F .bt u 0 = b := ⟨_, rfl⟩
          have eb0 : b0 = (c0.toNat : Int) := by rw [← hb0]; exact btF (i := 0) hF (by rw [← hu]; exact hc0)
          have e48 : F .cmp .eql b0 48 = decide (c0 = 48) := by rw [eqF hF, eb0]; congr 1; exact propext ⟨fun h => UInt8.toNat_inj.1 (by have : (48 : UInt8).toNat = 48 := rfl; omega), fun h => by rw [h]; rfl⟩
          have hx0 : (0 : Int) ≤ 0 := Int.le_refl _
          have hx1 : (0 : Int) < F .slen u := by rw [hun, eun]; exact Int.ofNat_lt.2 hpos
          by_cases h48 : c0 = 48
          · have e48 : F .cmp .eql b0 48 = true := by rw [e48]; exact decide_eq_true h48
            by_cases hl1 : 1 < t.length
            · have e1 : F .cmp .gtr un 1 = true := by rw [e1]; exact decide_eq_true hl1
              obtain ⟨f1, f2⟩ := hnoT (by unfold numT; rw [if_pos (.inr (.inr ⟨by rw [hc0, h48], .inl hl1⟩))])
              subst f1 f2
              clear hnoT hyesT
              cbv
              refine cF (e0) ?_
              cbv
              rw [hun]
              refine cF (e15) ?_
              cbv
              refine ⟨hx1, ?_⟩
              cbv
              rw [hb0]
              refine bT (e48) ?_
              cbv
              rw [hun]
              refine cT (e1) ?_
              cbv
              simp
            · have e1 : F .cmp .gtr un 1 = false := by rw [e1]; exact decide_eq_false hl1
              by_cases hng : neg = true
              · have e2 : F .cmp .lss sg 0 = true := by rw [lsF hF]; exact decide_eq_true (hneg.1 hng)
                obtain ⟨f1, f2⟩ := hnoT (by unfold numT; rw [if_pos (.inr (.inr ⟨by rw [hc0, h48], .inr hng⟩))])
                subst f1 f2
                clear hnoT hyesT
                cbv
                refine cF (e0) ?_
                cbv
                rw [hun]
                refine cF (e15) ?_
                cbv
                refine ⟨hx1, ?_⟩
                cbv
                rw [hb0]
                refine bT (e48) ?_
                cbv
                rw [hun]
                refine cF (e1) ?_
                cbv
                refine bT (e2) ?_
                cbv
                simp
              · have e2 : F .cmp .lss sg 0 = false := by rw [lsF hF]; exact decide_eq_false (fun h => hng (hneg.2 h))
                have hnb : ¬ (t = [] ∨ 15 < t.length ∨ (t[0]? = some 48 ∧ (1 < t.length ∨ neg = true))) := by
                  rintro (h | h | ⟨_, h | h⟩)
                  · exact ht0 h
                  · exact h15 h
                  · exact hl1 h
                  · exact hng h
                have hno : ¬ (t.all dig = true) → v = 0 ∧ ok = false := fun h => hnoT (by unfold numT; rw [if_neg hnb, if_neg h])
                have hyes : t.all dig = true → v = sg * (valN t : Int) ∧ ok = true := fun h => hyesT (valN t) (by unfold numT; rw [if_neg hnb, if_pos h])
                clear hnoT hyesT
                cbv
                refine cF (e0) ?_
                cbv
                rw [hun]
                refine cF (e15) ?_
                cbv
                refine ⟨hx1, ?_⟩
                cbv
                rw [hb0]
                refine bT (e48) ?_
                cbv
                rw [hun]
                refine cF (e1) ?_
                cbv
                refine bF (e2) ?_
                cbv
                refine ⟨Nat × Int × Nat × Int, fun x => { slots := [(6, aI x.2.1), (5, aI x.2.2.2), (4, aI sg), (0, aS u)], obs := [], ctr := 0 }, fun x => x.2.1 = (x.1 : Int) ∧ x.1 ≤ t.length ∧ x.2.2.2 = (x.2.2.1 : Int) ∧ x.2.2.1 = valN (t.take x.1) ∧ x.2.2.1 < 10 ^ x.1 ∧ ∀ j c, j < x.1 → t[j]? = some c → dig c = true, fun x => t.length - x.1, ⟨(0, 0, 0, 0), ⟨rfl, Nat.zero_le _, rfl, rfl, (show 0 < 10 ^ 0 by decide), fun j c h => by omega⟩, (le_of [] (by simp [leSl, leOb, injK, memK, parK, noTup, lk, rn0, rnA, plain] <;> first | rfl | decide))⟩, fun x hx => ?_⟩
                obtain ⟨i, i', m, m'⟩ := x
                obtain ⟨ei, hi, em, hm, hmb, hds⟩ := hx
                simp only at ei hi em hm hmb hds
                have eun : un = (t.length : Int) := eun
                have hu : t = L u := hu
                have hm15 : m < 1000000000000000 := Nat.lt_of_lt_of_le hmb (Nat.le_trans (Nat.pow_le_pow_right (by omega) (Nat.le_trans hi h15')) (by decide))
                have tl := ltF hF i t.length i' un ei eun
                obtain ⟨i2, hi2⟩ : ∃ i2, F .ar .add .i64 i' 1 = i2 := ⟨_, rfl⟩
                have ei2 : i2 = ((i + 1 : Nat) : Int) := hi2.symm.trans (incF hF ei (by omega))
                by_cases hil : i < t.length
                · have tl : F .cmp .lss i' un = true := tl.2 hil
                  obtain ⟨c, hc⟩ : ∃ c, t[i]? = some c := ⟨_, List.getElem?_eq_getElem hil⟩
                  obtain ⟨b, hb⟩ : ∃ b : Int, F .bt u i' = b := ⟨_, rfl⟩
                  have eb : b = (c.toNat : Int) := by rw [← hb, ei]; exact btF hF (by rw [← hu]; exact hc)
                  have hlo0 : 0 ≤ i' := by rw [ei]; omega
                  have hlo1 : i' < F .slen u := by rw [hun, ei, eun]; exact Int.ofNat_lt.2 hil
                  have w1 : F .cmp .lss b 48 = decide (c.toNat < 48) := by rw [lsF hF, eb]; congr 1; exact propext ⟨fun h => by omega, fun h => by omega⟩
                  have w2 : F .cmp .gtr b 57 = decide (57 < c.toNat) := by rw [gtF hF, eb]; congr 1; exact propext ⟨fun h => by omega, fun h => by omega⟩
                  have hbad : (c.toNat < 48 ∨ 57 < c.toNat) → v = 0 ∧ ok = false := fun h => hno (by
                    intro hall
                    have := List.all_eq_true.1 hall c (List.mem_of_getElem? hc)
                    simp only [dig, decide_eq_true_eq] at this
                    omega)
                  by_cases h48 : c.toNat < 48
                  · have w1 : F .cmp .lss b 48 = true := by rw [w1]; exact decide_eq_true h48
                    obtain ⟨f1, f2⟩ := hbad (.inl h48)
                    subst f1 f2
                    clear hbad hno hyes
                    cbv
                    rw [hun]
                    refine bT (tl) ?_
                    cbv
                    refine ⟨hlo0, hlo1, ?_⟩
                    cbv
                    rw [hb]
                    refine cT (w1) ?_
                    cbv
                    simp
                  · have w1 : F .cmp .lss b 48 = false := by rw [w1]; exact decide_eq_false h48
                    by_cases h57 : 57 < c.toNat
                    · have w2 : F .cmp .gtr b 57 = true := by rw [w2]; exact decide_eq_true h57
                      obtain ⟨f1, f2⟩ := hbad (.inr h57)
                      subst f1 f2
                      clear hbad hno hyes
                      cbv
                      rw [hun]
                      refine bT (tl) ?_
                      cbv
                      refine ⟨hlo0, hlo1, ?_⟩
                      cbv
                      rw [hb]
                      refine cF (w1) ?_
                      cbv
                      refine ⟨hlo0, hlo1, ?_⟩
                      cbv
                      rw [hb]
                      refine bT (w2) ?_
                      cbv
                      simp
                    · have w2 : F .cmp .gtr b 57 = false := by rw [w2]; exact decide_eq_false h57
                      obtain ⟨w, hw⟩ : ∃ w1, F .ar .add .i64 (F .ar .mul .i64 10 m') (F .wrp .i64 (F .ar .sub .u8 b 48)) = w1 := ⟨_, rfl⟩
                      have ew : w = ((10 * m + (c.toNat - 48) : Nat) : Int) := by
                        rw [← hw, hF, em, eb]
                        have e1 : sy .ar .mul .i64 10 (m : Int) = ((10 * m : Nat) : Int) := (wrap_in (by omega) (by omega)).trans (by omega)
                        have e2 : sy .ar .sub .u8 (c.toNat : Int) 48 = ((c.toNat - 48 : Nat) : Int) := by
                          show IntKind.u8.wrap _ = _
                          simp [IntKind.wrap, IntKind.signed, IntKind.bits, BitVec.toNat_ofInt]
                          omega
                        rw [e1, e2]
                        have e3 : sy .wrp .i64 ((c.toNat - 48 : Nat) : Int) = ((c.toNat - 48 : Nat) : Int) := wrap_in (by omega) (by omega)
                        rw [e3]
                        exact (wrap_in (by omega) (by omega)).trans (by omega)
                      have hst : 10 * m + (c.toNat - 48) < 10 ^ (i + 1) := by rw [Nat.pow_succ]; omega
                      cbv
                      rw [hun]
                      refine bT (tl) ?_
                      cbv
                      refine ⟨hlo0, hlo1, ?_⟩
                      cbv
                      rw [hb]
                      refine cF (w1) ?_
                      cbv
                      refine ⟨hlo0, hlo1, ?_⟩
                      cbv
                      rw [hb]
                      refine bF (w2) ?_
                      cbv
                      refine ⟨hlo0, hlo1, ?_⟩
                      cbv
                      rw [hb, hw, hi2]
                      exact ⟨(i + 1, i2, 10 * m + (c.toNat - 48), w), ⟨ei2, hil, ew, by simp only; rw [valN_step t i c hc, ← hm], hst, fun j a hj ha => by
                        by_cases hjn : j < i
                        · exact hds j a hjn ha
                        · have hji : j = i := by omega
                          rw [hji, hc] at ha; injection ha with ha; rw [← ha]; simp only [dig, decide_eq_true_eq]; omega⟩, (show t.length - (i + 1) < t.length - i by omega), (le_of [] (by simp [leSl, leOb, injK, memK, parK, noTup, lk, rn0, rnA, plain] <;> first | rfl | decide))⟩
                · have tl : F .cmp .lss i' un = false := by cases h : F .cmp .lss i' un with | true => exact absurd (tl.1 h) hil | false => rfl
                  obtain ⟨f1, f2⟩ := hyes (List.all_eq_true.2 fun c hc => by
                    obtain ⟨j, hj, hjc⟩ := List.getElem_of_mem hc
                    exact hds j c (by omega) (by rw [List.getElem?_eq_getElem hj, hjc]))
                  have hmt : m = valN t := by rw [hm, List.take_of_length_le (by omega)]
                  have hmul : F .ar .mul .i64 sg m' = v := by
                    rw [f1, hF, em, ← hmt]
                    exact wrap_in (by rcases hsg with h | h <;> rw [h] <;> omega) (by rcases hsg with h | h <;> rw [h] <;> omega)
                  subst f2
                  clear hno hyes f1
                  cbv
                  rw [hun]
                  refine bF (tl) ?_
                  cbv
                  rw [hmul]
                  simp
          · have e48 : F .cmp .eql b0 48 = false := by rw [e48]; exact decide_eq_false h48
            have hnb : ¬ (t = [] ∨ 15 < t.length ∨ (t[0]? = some 48 ∧ (1 < t.length ∨ neg = true))) := by
              rintro (h | h | ⟨h, _⟩)
              · exact ht0 h
              · exact h15 h
              · rw [hc0] at h; injection h with h; exact h48 h
            have hno : ¬ (t.all dig = true) → v = 0 ∧ ok = false := fun h => hnoT (by unfold numT; rw [if_neg hnb, if_neg h])
            have hyes : t.all dig = true → v = sg * (valN t : Int) ∧ ok = true := fun h => hyesT (valN t) (by unfold numT; rw [if_neg hnb, if_pos h])
            clear hnoT hyesT
            cbv
            refine cF (e0) ?_
            cbv
            rw [hun]
            refine cF (e15) ?_
            cbv
            refine ⟨hx1, ?_⟩
            cbv
            rw [hb0]
            refine bF (e48) ?_
            cbv
            refine ⟨Nat × Int × Nat × Int, fun x => { slots := [(6, aI x.2.1), (5, aI x.2.2.2), (4, aI sg), (0, aS u)], obs := [], ctr := 0 }, fun x => x.2.1 = (x.1 : Int) ∧ x.1 ≤ t.length ∧ x.2.2.2 = (x.2.2.1 : Int) ∧ x.2.2.1 = valN (t.take x.1) ∧ x.2.2.1 < 10 ^ x.1 ∧ ∀ j c, j < x.1 → t[j]? = some c → dig c = true, fun x => t.length - x.1, ⟨(0, 0, 0, 0), ⟨rfl, Nat.zero_le _, rfl, rfl, (show 0 < 10 ^ 0 by decide), fun j c h => by omega⟩, (le_of [] (by simp [leSl, leOb, injK, memK, parK, noTup, lk, rn0, rnA, plain] <;> first | rfl | decide))⟩, fun x hx => ?_⟩
            obtain ⟨i, i', m, m'⟩ := x
            obtain ⟨ei, hi, em, hm, hmb, hds⟩ := hx
            simp only at ei hi em hm hmb hds
            have eun : un = (t.length : Int) := eun
            have hu : t = L u := hu
            have hm15 : m < 1000000000000000 := Nat.lt_of_lt_of_le hmb (Nat.le_trans (Nat.pow_le_pow_right (by omega) (Nat.le_trans hi h15')) (by decide))
            have tl := ltF hF i t.length i' un ei eun
            obtain ⟨i2, hi2⟩ : ∃ i2, F .ar .add .i64 i' 1 = i2 := ⟨_, rfl⟩
            have ei2 : i2 = ((i + 1 : Nat) : Int) := hi2.symm.trans (incF hF ei (by omega))
            by_cases hil : i < t.length
            · have tl : F .cmp .lss i' un = true := tl.2 hil
              obtain ⟨c, hc⟩ : ∃ c, t[i]? = some c := ⟨_, List.getElem?_eq_getElem hil⟩
              obtain ⟨b, hb⟩ : ∃ b : Int, F .bt u i' = b := ⟨_, rfl⟩
              have eb : b = (c.toNat : Int) := by rw [← hb, ei]; exact btF hF (by rw [← hu]; exact hc)
              have hlo0 : 0 ≤ i' := by rw [ei]; omega
              have hlo1 : i' < F .slen u := by rw [hun, ei, eun]; exact Int.ofNat_lt.2 hil
              have w1 : F .cmp .lss b 48 = decide (c.toNat < 48) := by rw [lsF hF, eb]; congr 1; exact propext ⟨fun h => by omega, fun h => by omega⟩
              have w2 : F .cmp .gtr b 57 = decide (57 < c.toNat) := by rw [gtF hF, eb]; congr 1; exact propext ⟨fun h => by omega, fun h => by omega⟩
              have hbad : (c.toNat < 48 ∨ 57 < c.toNat) → v = 0 ∧ ok = false := fun h => hno (by
                intro hall
                have := List.all_eq_true.1 hall c (List.mem_of_getElem? hc)
                simp only [dig, decide_eq_true_eq] at this
                omega)
              by_cases h48 : c.toNat < 48
              · have w1 : F .cmp .lss b 48 = true := by rw [w1]; exact decide_eq_true h48
                obtain ⟨f1, f2⟩ := hbad (.inl h48)
                subst f1 f2
                clear hbad hno hyes
                cbv
                rw [hun]
                refine bT (tl) ?_
                cbv
                refine ⟨hlo0, hlo1, ?_⟩
                cbv
                rw [hb]
                refine cT (w1) ?_
                cbv
                simp
              · have w1 : F .cmp .lss b 48 = false := by rw [w1]; exact decide_eq_false h48
                by_cases h57 : 57 < c.toNat
                · have w2 : F .cmp .gtr b 57 = true := by rw [w2]; exact decide_eq_true h57
                  obtain ⟨f1, f2⟩ := hbad (.inr h57)
                  subst f1 f2
                  clear hbad hno hyes
                  cbv
                  rw [hun]
                  refine bT (tl) ?_
                  cbv
                  refine ⟨hlo0, hlo1, ?_⟩
                  cbv
                  rw [hb]
                  refine cF (w1) ?_
                  cbv
                  refine ⟨hlo0, hlo1, ?_⟩
                  cbv
                  rw [hb]
                  refine bT (w2) ?_
                  cbv
                  simp
                · have w2 : F .cmp .gtr b 57 = false := by rw [w2]; exact decide_eq_false h57
                  obtain ⟨w, hw⟩ : ∃ w1, F .ar .add .i64 (F .ar .mul .i64 10 m') (F .wrp .i64 (F .ar .sub .u8 b 48)) = w1 := ⟨_, rfl⟩
                  have ew : w = ((10 * m + (c.toNat - 48) : Nat) : Int) := by
                    rw [← hw, hF, em, eb]
                    have e1 : sy .ar .mul .i64 10 (m : Int) = ((10 * m : Nat) : Int) := (wrap_in (by omega) (by omega)).trans (by omega)
                    have e2 : sy .ar .sub .u8 (c.toNat : Int) 48 = ((c.toNat - 48 : Nat) : Int) := by
                      show IntKind.u8.wrap _ = _
                      simp [IntKind.wrap, IntKind.signed, IntKind.bits, BitVec.toNat_ofInt]
                      omega
                    rw [e1, e2]
                    have e3 : sy .wrp .i64 ((c.toNat - 48 : Nat) : Int) = ((c.toNat - 48 : Nat) : Int) := wrap_in (by omega) (by omega)
                    rw [e3]
                    exact (wrap_in (by omega) (by omega)).trans (by omega)
                  have hst : 10 * m + (c.toNat - 48) < 10 ^ (i + 1) := by rw [Nat.pow_succ]; omega
                  cbv
                  rw [hun]
                  refine bT (tl) ?_
                  cbv
                  refine ⟨hlo0, hlo1, ?_⟩
                  cbv
                  rw [hb]
                  refine cF (w1) ?_
                  cbv
                  refine ⟨hlo0, hlo1, ?_⟩
                  cbv
                  rw [hb]
                  refine bF (w2) ?_
                  cbv
                  refine ⟨hlo0, hlo1, ?_⟩
                  cbv
                  rw [hb, hw, hi2]
                  exact ⟨(i + 1, i2, 10 * m + (c.toNat - 48), w), ⟨ei2, hil, ew, by simp only; rw [valN_step t i c hc, ← hm], hst, fun j a hj ha => by
                    by_cases hjn : j < i
                    · exact hds j a hjn ha
                    · have hji : j = i := by omega
                      rw [hji, hc] at ha; injection ha with ha; rw [← ha]; simp only [dig, decide_eq_true_eq]; omega⟩, (show t.length - (i + 1) < t.length - i by omega), (le_of [] (by simp [leSl, leOb, injK, memK, parK, noTup, lk, rn0, rnA, plain] <;> first | rfl | decide))⟩
            · have tl : F .cmp .lss i' un = false := by cases h : F .cmp .lss i' un with | true => exact absurd (tl.1 h) hil | false => rfl
              obtain ⟨f1, f2⟩ := hyes (List.all_eq_true.2 fun c hc => by
                obtain ⟨j, hj, hjc⟩ := List.getElem_of_mem hc
                exact hds j c (by omega) (by rw [List.getElem?_eq_getElem hj, hjc]))
              have hmt : m = valN t := by rw [hm, List.take_of_length_le (by omega)]
              have hmul : F .ar .mul .i64 sg m' = v := by
                rw [f1, hF, em, ← hmt]
                exact wrap_in (by rcases hsg with h | h <;> rw [h] <;> omega) (by rcases hsg with h | h <;> rw [h] <;> omega)
              subst f2
              clear hno hyes f1
              cbv
              rw [hun]
              refine bF (tl) ?_
              cbv
              rw [hmul]
              simp
end Go.Proofs.YtfphhpabfeepmaaDoor
