import Derived.Test.YtfphhpabfeepmaaDoorQ2
set_option linter.unusedSimpArgs false
set_option linter.unusedVariables false
namespace Go.Proofs.YtfphhpabfeepmaaDoor
open Go Go.RowKit Am

/-! ### The reference: a count -/
def rc {α : Type} (a : Nat) (z : α) (f : α → α) : R α → α × Int × Int
  | .more => (z, 0, 1)
  | .err e => (z, 0, (e : Int))
  | .ok n k => (f n, ((a + k : Nat) : Int), 0)
theorem subF {F : Sy} (hF : F = sy) {i j : Nat} {i' j' : Int} (hi : i' = (i : Int)) (hj : j' = (j : Int)) (h : i ≤ 4000000000) (h2 : j ≤ i) : F .ar .sub .i64 i' j' = ((i - j : Nat) : Int) := by rw [hF, hi, hj]; exact (wrap_in (by omega) (by omega)).trans (by omega)
theorem drop_cons {l : List UInt8} {i : Nat} {c : UInt8} (h : l[i]? = some c) : l.drop i = c :: l.drop (i + 1) := by
  have hlt := (List.getElem?_eq_some_iff.1 h).1
  rw [List.drop_eq_getElem_cons hlt]; congr 1; exact (List.getElem?_eq_some_iff.1 h).2
set_option maxHeartbeats 2000000 in
theorem rcount_ok (s : ByteArray) (l : List UInt8) (hs : l = L s) (hl : l.length ≤ 1000000) (a : Nat) (a' : Int) (ha : a' = (a : Int)) (hle : a ≤ l.length) (sign lo hi : Nat) (sg lo' hi' : Int) (hsg : sg = (sign : Int)) (hlo : lo' = (lo : Int)) (hhi : hi' = (hi : Int))
    (n2 : Int) (a2 : Int) (c2 : Int) (hmore : cnt (l.drop a) sign lo hi = .more → n2 = 0 ∧ a2 = 0 ∧ c2 = 1) (herr : ∀ e, cnt (l.drop a) sign lo hi = .err e → n2 = 0 ∧ a2 = 0 ∧ c2 = (e : Int)) (hok : ∀ n k, cnt (l.drop a) sign lo hi = .ok n k → n2 = (n : Int) ∧ a2 = ((a + k : Nat) : Int) ∧ c2 = 0) :
    CSem Tryd.prog (.fn 62) [aS s, aI a', aU sg, aI lo', aI hi'] (.pure [aI n2, aI a2, aI c2]) := by
  refine of_text gam_ok mixed { n := 99 } Tryd.func62 (by kernel_rfl) rfl rfl (by simp) (by decide) fun F C D hF hC hD => ?_
  obtain ⟨sn, hsn⟩ : ∃ sn : Int, F .slen s = sn := ⟨_, rfl⟩
  have esn : sn = (l.length : Int) := by rw [← hsn, slenF hF, L_size, hs]
  cases hb : l[a]? with
  | none =>
    have hge : a = l.length := by have := List.getElem?_eq_none_iff.1 hb; omega
    have hd : l.drop a = [] := List.drop_eq_nil_iff.2 (by omega)
    rw [hd] at hmore
    obtain ⟨f1, f2, f3⟩ := hmore rfl
    subst f1 f2 f3
    have t1 : F .cmp .geq a' sn = true := by rw [geF hF, ha, esn, hge]; simp
    clear hok herr
    cbv
    rw [hsn]
    refine bT (t1) ?_
    cbv
    simp
  | some c0 =>
    have hlt : a < l.length := (List.getElem?_eq_some_iff.1 hb).1
    have t1 : F .cmp .geq a' sn = false := by rw [geF hF, ha, esn]; simp; omega
    have hg0 : F .bt s a' = (c0.toNat : Int) := by rw [ha]; exact btF hF (by rw [← hs]; exact hb)
    rw [drop_cons hb] at hmore herr hok
    simp only [cnt] at hmore herr hok
    by_cases h1 : c0.toNat = sign
    · have t2 : F .cmp .neq (F .bt s a') sg = false := by rw [neF hF, hg0, hsg, h1]; simp
      rw [if_neg (show ¬ (c0.toNat ≠ sign) by omega)] at hmore herr hok
      obtain ⟨b0, hb0⟩ : ∃ b0 : Int, F .bt s a' = b0 := ⟨_, rfl⟩
      rw [hb0] at t2 hg0
      obtain ⟨i0, hi0⟩ : ∃ i0 : Int, F .ar .add .i64 a' 1 = i0 := ⟨_, rfl⟩
      have ei0 : i0 = ((a + 1 : Nat) : Int) := hi0.symm.trans (incF hF ha (by omega))
      obtain ⟨⟨N, K, st⟩, hD0⟩ : ∃ p, dgs (l.drop (a + 1)) 0 0 = p := ⟨_, rfl⟩
      rw [hD0] at hmore herr hok
      simp only at hmore herr hok
      have hbd := dgs_bound (l.drop (a + 1)) 0 0 (by omega) (by decide)
      rw [hD0] at hbd
      simp only at hbd
      have h00 : (0 : Int) ≤ a' := by rw [ha]; omega
      have h01 : a' < F .slen s := by rw [hsn, ha, esn]; exact Int.ofNat_lt.2 hlt
      cbv
      rw [hsn]
      refine bF (t1) ?_
      cbv
      refine ⟨h00, h01, ?_⟩
      cbv
      rw [hb0]
      refine bF (t2) ?_
      cbv
      rw [hi0]
      refine ⟨Nat × Int × Nat × Int, fun x => { slots := [(14, aI x.2.1), (13, aI x.2.2.2), (0, aS s), (1, aI a'), (3, aI lo'), (4, aI hi')], obs := [], ctr := 0 }, fun x => x.2.1 = ((a + 1 + x.1 : Nat) : Int) ∧ x.1 ≤ 6 ∧ a + 1 + x.1 ≤ l.length ∧ x.2.2.2 = (x.2.2.1 : Int) ∧ x.2.2.1 < 10 ^ x.1 ∧ (dgs (l.drop (a + 1 + x.1)) x.2.2.1 x.1).1 = N ∧ (dgs (l.drop (a + 1 + x.1)) x.2.2.1 x.1).2.1 + x.1 = K ∧ (dgs (l.drop (a + 1 + x.1)) x.2.2.1 x.1).2.2 = st,
        fun x => l.length - x.1, ⟨(0, i0, 0, 0), ⟨ei0, Nat.zero_le _, hlt, rfl, (show 0 < 10 ^ 0 by decide), by simp only [Nat.add_zero]; rw [hD0], by simp only [Nat.add_zero]; rw [hD0], by simp only [Nat.add_zero]; rw [hD0]⟩, (le_of [] (by simp [leSl, leOb, injK, memK, parK, noTup, lk, rn0, rnA, plain] <;> first | rfl | decide))⟩, fun x hx => ?_⟩
      obtain ⟨j, i', n, n'⟩ := x
      obtain ⟨ei, hj, hil, en, hn, hr1, hr2, hr3⟩ := hx
      simp only at ei hj hil en hn hr1 hr2 hr3
      have esn : sn = (l.length : Int) := esn
      have hs : l = L s := hs
      have hi0 : F .ar .add .i64 a' 1 = i0 := hi0
      have hn6 : n < 1000000 := Nat.lt_of_lt_of_le hn (Nat.le_trans (Nat.pow_le_pow_right (by omega) hj) (by decide))
      have hlo0 : 0 ≤ i' := by rw [ei]; omega
      obtain ⟨ip, hip⟩ : ∃ ip : Int, F .ar .add .i64 i' 1 = ip := ⟨_, rfl⟩
      have eip : ip = ((a + 1 + j + 1 : Nat) : Int) := hip.symm.trans (incF hF ei (by omega))
      cases hbj : l[a + 1 + j]? with
      | none =>
        have hge : a + 1 + j = l.length := by have := List.getElem?_eq_none_iff.1 hbj; omega
        have tl : F .cmp .lss i' sn = false := by rw [lsF hF, ei, esn, hge]; simp
        have tg : F .cmp .geq i' sn = true := by rw [geF hF, ei, esn, hge]; simp
        have hdj : l.drop (a + 1 + j) = [] := List.drop_eq_nil_iff.2 (by omega)
        rw [hdj] at hr3
        simp only [dgs] at hr3
        subst hr3
        rw [if_pos rfl] at hmore
        obtain ⟨f1, f2, f3⟩ := hmore rfl
        subst f1 f2 f3
        clear herr hok
        cbv
        rw [hsn]
        refine bF (tl) ?_
        cbv
        rw [hsn]
        refine bT (tg) ?_
        cbv
        simp
      | some c =>
        have hlt2 : a + 1 + j < l.length := (List.getElem?_eq_some_iff.1 hbj).1
        have tl : F .cmp .lss i' sn = true := by rw [lsF hF, ei, esn]; simp; omega
        have tg : F .cmp .geq i' sn = false := by rw [geF hF, ei, esn]; simp; omega
        have hlo1 : i' < F .slen s := by rw [hsn, ei, esn]; exact Int.ofNat_lt.2 hlt2
        obtain ⟨b, hbb⟩ : ∃ b : Int, F .bt s i' = b := ⟨_, rfl⟩
        have eb : b = (c.toNat : Int) := by rw [← hbb, ei]; exact btF hF (by rw [← hs]; exact hbj)
        rw [drop_cons hbj] at hr1 hr2 hr3
        simp only [dgs] at hr1 hr2 hr3
        have u13 : F .cmp .neq b 13 = decide (b ≠ 13) := neF hF b 13
        by_cases h13 : c.toNat = 13
        · have u1 : F .cmp .neq b 13 = false := by rw [u13, eb, h13]; rfl
          by_cases hj0 : j = 0
          · have u2 : F .cmp .eql i' i0 = true := by rw [eqF hF, ei, ei0, hj0]; simp
            rw [if_neg (by omega), if_pos (by omega)] at hr3
            simp only at hr3
            subst hr3
            rw [if_neg (by decide), if_pos rfl] at herr
            obtain ⟨f1, f2, f3⟩ := herr 3 rfl
            subst f1 f2 f3
            clear hmore hok
            cbv
            rw [hsn]
            refine bT (tl) ?_
            cbv
            refine ⟨hlo0, hlo1, ?_⟩
            cbv
            rw [hbb]
            refine bF (u1) ?_
            cbv
            rw [hsn]
            refine bF (tg) ?_
            cbv
            rw [hi0]
            refine bT (u2) ?_
            cbv
            simp
          · have u2 : F .cmp .eql i' i0 = false := by rw [eqF hF, ei, ei0]; simp; omega
            rw [if_pos ⟨h13, by omega⟩] at hr1 hr2 hr3
            simp only at hr1 hr2 hr3
            subst hr3
            rw [if_neg (by decide), if_neg (by decide)] at hmore herr hok
            have hK : K = j := by omega
            have hgt : (l.drop (a + 1))[K + 1]? = l[a + 1 + j + 1]? := by rw [List.getElem?_drop, hK]; rfl
            rw [hgt] at hmore herr hok
            cases hb2 : l[a + 1 + j + 1]? with
            | none =>
              have hge : a + 1 + j + 1 = l.length := by have := List.getElem?_eq_none_iff.1 hb2; omega
              have tg2 : F .cmp .geq ip sn = true := by rw [geF hF, eip, esn, hge]; simp
              rw [hb2] at hmore
              obtain ⟨f1, f2, f3⟩ := hmore rfl
              subst f1 f2 f3
              clear herr hok
              cbv
              rw [hsn]
              refine bT (tl) ?_
              cbv
              refine ⟨hlo0, hlo1, ?_⟩
              cbv
              rw [hbb]
              refine bF (u1) ?_
              cbv
              rw [hsn]
              refine bF (tg) ?_
              cbv
              rw [hi0]
              refine bF (u2) ?_
              cbv
              rw [hip, hsn]
              refine bT (tg2) ?_
              cbv
              simp
            | some d =>
              have hlt3 : a + 1 + j + 1 < l.length := (List.getElem?_eq_some_iff.1 hb2).1
              have tg2 : F .cmp .geq ip sn = false := by rw [geF hF, eip, esn]; simp; omega
              have hp0 : 0 ≤ ip := by rw [eip]; omega
              have hp1 : ip < F .slen s := by rw [hsn, eip, esn]; exact Int.ofNat_lt.2 hlt3
              obtain ⟨bd, hbd2⟩ : ∃ b : Int, F .bt s ip = b := ⟨_, rfl⟩
              have ebd : bd = (d.toNat : Int) := by rw [← hbd2, eip]; exact btF hF (by rw [← hs]; exact hb2)
              rw [hb2] at hmore herr hok
              simp only at hmore herr hok
              by_cases h10 : d.toNat = 10
              · have u3 : F .cmp .neq bd 10 = false := by rw [neF hF, ebd, h10]; rfl
                rw [if_neg (by omega)] at hmore herr hok
                obtain ⟨ir, hir⟩ : ∃ ir : Int, F .ar .add .i64 i' 2 = ir := ⟨_, rfl⟩
                have eir : ir = ((a + 1 + j + 2 : Nat) : Int) := hir.symm.trans (addF hF ei (j := 2) rfl (by omega))
                have v1 : F .cmp .lss n' lo' = decide (n < lo) := by rw [lsF hF, en, hlo]; simp
                have v2 : F .cmp .gtr n' hi' = decide (hi < n) := by rw [gtF hF, en, hhi]; simp
                by_cases hr : N < lo ∨ hi < N
                · rw [if_pos hr] at herr
                  obtain ⟨f1, f2, f3⟩ := herr 4 rfl
                  subst f1 f2 f3
                  clear hmore hok
                  by_cases hr4 : n < lo
                  · have v1 : F .cmp .lss n' lo' = true := by rw [v1]; simp [hr4]
                    cbv
                    rw [hsn]
                    refine bT (tl) ?_
                    cbv
                    refine ⟨hlo0, hlo1, ?_⟩
                    cbv
                    rw [hbb]
                    refine bF (u1) ?_
                    cbv
                    rw [hsn]
                    refine bF (tg) ?_
                    cbv
                    rw [hi0]
                    refine bF (u2) ?_
                    cbv
                    rw [hip, hsn]
                    refine bF (tg2) ?_
                    cbv
                    rw [hip]
                    refine ⟨hp0, hp1, ?_⟩
                    cbv
                    rw [hbd2]
                    refine bF (u3) ?_
                    cbv
                    refine cT (v1) ?_
                    cbv
                    simp
                  · have v1 : F .cmp .lss n' lo' = false := by rw [v1]; simp [hr4]
                    have v2 : F .cmp .gtr n' hi' = true := by rw [v2]; simp; omega
                    cbv
                    rw [hsn]
                    refine bT (tl) ?_
                    cbv
                    refine ⟨hlo0, hlo1, ?_⟩
                    cbv
                    rw [hbb]
                    refine bF (u1) ?_
                    cbv
                    rw [hsn]
                    refine bF (tg) ?_
                    cbv
                    rw [hi0]
                    refine bF (u2) ?_
                    cbv
                    rw [hip, hsn]
                    refine bF (tg2) ?_
                    cbv
                    rw [hip]
                    refine ⟨hp0, hp1, ?_⟩
                    cbv
                    rw [hbd2]
                    refine bF (u3) ?_
                    cbv
                    refine cF (v1) ?_
                    cbv
                    refine bT (v2) ?_
                    cbv
                    simp
                · rw [if_neg hr] at hok
                  obtain ⟨f1, f2, f3⟩ := hok N (K + 3) rfl
                  have v1 : F .cmp .lss n' lo' = false := by rw [v1]; simp; omega
                  have v2 : F .cmp .gtr n' hi' = false := by rw [v2]; simp; omega
                  have g1 : n' = n2 := by rw [en, f1, hr1]
                  have g2 : ir = a2 := by rw [eir, f2]; congr 1; omega
                  subst f3
                  clear hmore herr hok f1 f2
                  cbv
                  rw [hsn]
                  refine bT (tl) ?_
                  cbv
                  refine ⟨hlo0, hlo1, ?_⟩
                  cbv
                  rw [hbb]
                  refine bF (u1) ?_
                  cbv
                  rw [hsn]
                  refine bF (tg) ?_
                  cbv
                  rw [hi0]
                  refine bF (u2) ?_
                  cbv
                  rw [hip, hsn]
                  refine bF (tg2) ?_
                  cbv
                  rw [hip]
                  refine ⟨hp0, hp1, ?_⟩
                  cbv
                  rw [hbd2]
                  refine bF (u3) ?_
                  cbv
                  refine cF (v1) ?_
                  cbv
                  refine bF (v2) ?_
                  cbv
                  rw [hir, g1, g2]
                  simp
              · have u3 : F .cmp .neq bd 10 = true := by rw [neF hF, ebd]; simp; omega
                rw [if_pos h10] at herr
                obtain ⟨f1, f2, f3⟩ := herr 3 rfl
                subst f1 f2 f3
                clear hmore hok
                cbv
                rw [hsn]
                refine bT (tl) ?_
                cbv
                refine ⟨hlo0, hlo1, ?_⟩
                cbv
                rw [hbb]
                refine bF (u1) ?_
                cbv
                rw [hsn]
                refine bF (tg) ?_
                cbv
                rw [hi0]
                refine bF (u2) ?_
                cbv
                rw [hip, hsn]
                refine bF (tg2) ?_
                cbv
                rw [hip]
                refine ⟨hp0, hp1, ?_⟩
                cbv
                rw [hbd2]
                refine bT (u3) ?_
                cbv
                simp
        · have u1 : F .cmp .neq b 13 = true := by rw [u13, eb]; simp; omega
          rw [if_neg (by omega)] at hr1 hr2 hr3
          have v48 : F .cmp .lss b 48 = decide (c.toNat < 48) := by rw [lsF hF, eb]; congr 1; exact propext ⟨fun h => by omega, fun h => by omega⟩
          have v57 : F .cmp .gtr b 57 = decide (57 < c.toNat) := by rw [gtF hF, eb]; congr 1; exact propext ⟨fun h => by omega, fun h => by omega⟩
          have u5 : F .cmp .gtr i' i0 = decide (0 < j) := by rw [gtF hF, ei, ei0]; congr 1; exact propext ⟨fun h => by have := Int.ofNat_lt.1 h; omega, fun h => Int.ofNat_lt.2 (by omega)⟩
          have u6 : F .cmp .eql n' 0 = decide (n = 0) := by rw [eqF hF, en]; congr 1; exact propext ⟨fun h => by omega, fun h => by omega⟩
          have esb : F .ar .sub .i64 i' a' = ((j + 1 : Nat) : Int) := by rw [subF hF ei ha (by omega) (by omega)]; congr 1; omega
          have u7 : F .cmp .gtr (F .ar .sub .i64 i' a') 6 = decide (j = 6) := by rw [esb, gtF hF]; congr 1; exact propext ⟨fun h => by omega, fun h => by omega⟩
          by_cases hbad : c.toNat < 48 ∨ 57 < c.toNat ∨ j = 6 ∨ (0 < j ∧ n = 0)
          · rw [if_pos hbad] at hr3
            simp only at hr3
            subst hr3
            rw [if_neg (by decide), if_pos rfl] at herr
            obtain ⟨f1, f2, f3⟩ := herr 3 rfl
            subst f1 f2 f3
            clear hmore hok herr hr1 hr2
            by_cases c1 : c.toNat < 48
            · have v48 : F .cmp .lss b 48 = true := by rw [v48]; simp [c1]
              cbv
              rw [hsn]
              refine bT (tl) ?_
              cbv
              refine ⟨hlo0, hlo1, ?_⟩
              cbv
              rw [hbb]
              refine bT (u1) ?_
              cbv
              refine ⟨hlo0, hlo1, ?_⟩
              cbv
              rw [hbb]
              refine cT (v48) ?_
              cbv
              simp
            · have v48 : F .cmp .lss b 48 = false := by rw [v48]; simp [c1]
              by_cases c2 : 57 < c.toNat
              · have v57 : F .cmp .gtr b 57 = true := by rw [v57]; simp [c2]
                cbv
                rw [hsn]
                refine bT (tl) ?_
                cbv
                refine ⟨hlo0, hlo1, ?_⟩
                cbv
                rw [hbb]
                refine bT (u1) ?_
                cbv
                refine ⟨hlo0, hlo1, ?_⟩
                cbv
                rw [hbb]
                refine cF (v48) ?_
                cbv
                refine cT (v57) ?_
                cbv
                simp
              · have v57 : F .cmp .gtr b 57 = false := by rw [v57]; simp [c2]
                have u5 : F .cmp .gtr i' i0 = true := by rw [u5]; simp; omega
                by_cases c3 : n = 0
                · have u6 : F .cmp .eql n' 0 = true := by rw [u6]; simp [c3]
                  cbv
                  rw [hsn]
                  refine bT (tl) ?_
                  cbv
                  refine ⟨hlo0, hlo1, ?_⟩
                  cbv
                  rw [hbb]
                  refine bT (u1) ?_
                  cbv
                  refine ⟨hlo0, hlo1, ?_⟩
                  cbv
                  rw [hbb]
                  refine cF (v48) ?_
                  cbv
                  refine cF (v57) ?_
                  cbv
                  rw [hi0]
                  refine bT (u5) ?_
                  cbv
                  refine cT (u6) ?_
                  cbv
                  simp
                · have u6 : F .cmp .eql n' 0 = false := by rw [u6]; simp [c3]
                  have u7 : F .cmp .gtr (F .ar .sub .i64 i' a') 6 = true := by rw [u7]; simp; omega
                  cbv
                  rw [hsn]
                  refine bT (tl) ?_
                  cbv
                  refine ⟨hlo0, hlo1, ?_⟩
                  cbv
                  rw [hbb]
                  refine bT (u1) ?_
                  cbv
                  refine ⟨hlo0, hlo1, ?_⟩
                  cbv
                  rw [hbb]
                  refine cF (v48) ?_
                  cbv
                  refine cF (v57) ?_
                  cbv
                  rw [hi0]
                  refine bT (u5) ?_
                  cbv
                  refine cF (u6) ?_
                  cbv
                  refine bT (u7) ?_
                  cbv
                  simp
          · rw [if_neg hbad] at hr1 hr2 hr3
            simp only at hr1 hr2 hr3
            have v48 : F .cmp .lss b 48 = false := by rw [v48]; simp; omega
            have v57 : F .cmp .gtr b 57 = false := by rw [v57]; simp; omega
            have u7 : F .cmp .gtr (F .ar .sub .i64 i' a') 6 = false := by rw [u7]; simp; omega
            obtain ⟨w1, hw1⟩ : ∃ w1, F .ar .add .i64 (F .ar .mul .i64 10 n') (F .wrp .i64 (F .ar .sub .u8 b 48)) = w1 := ⟨_, rfl⟩
            have ew1 : w1 = ((10 * n + (c.toNat - 48) : Nat) : Int) := by
              rw [← hw1, hF, en, eb]
              have e1 : sy .ar .mul .i64 10 (n : Int) = ((10 * n : Nat) : Int) := (wrap_in (by omega) (by omega)).trans (by omega)
              have e2 : sy .ar .sub .u8 (c.toNat : Int) 48 = ((c.toNat - 48 : Nat) : Int) := by
                show IntKind.u8.wrap _ = _
                simp [IntKind.wrap, IntKind.signed, IntKind.bits, BitVec.toNat_ofInt]
                omega
              rw [e1, e2]
              have e3 : sy .wrp .i64 ((c.toNat - 48 : Nat) : Int) = ((c.toNat - 48 : Nat) : Int) := wrap_in (by omega) (by omega)
              rw [e3]
              exact (wrap_in (by omega) (by omega)).trans (by omega)
            have hstep : ((j + 1, ip, 10 * n + (c.toNat - 48), w1) : Nat × Int × Nat × Int).2.1 = ((a + 1 + (j + 1) : Nat) : Int) ∧ j + 1 ≤ 6 ∧ a + 1 + (j + 1) ≤ l.length ∧ w1 = ((10 * n + (c.toNat - 48) : Nat) : Int) ∧ 10 * n + (c.toNat - 48) < 10 ^ (j + 1) ∧ (dgs (l.drop (a + 1 + (j + 1))) (10 * n + (c.toNat - 48)) (j + 1)).1 = N ∧ (dgs (l.drop (a + 1 + (j + 1))) (10 * n + (c.toNat - 48)) (j + 1)).2.1 + (j + 1) = K ∧ (dgs (l.drop (a + 1 + (j + 1))) (10 * n + (c.toNat - 48)) (j + 1)).2.2 = st := by
              refine ⟨by simp only; rw [eip]; congr 1, by omega, by omega, ew1, ?_, hr1, by rw [← hr2]; simp only [← Nat.add_assoc]; omega, hr3⟩
              rw [Nat.pow_succ]; omega
            clear hr1 hr2 hr3 hmore herr hok
            by_cases c3 : j = 0
            · have u5 : F .cmp .gtr i' i0 = false := by rw [u5]; simp; omega
              cbv
              rw [hsn]
              refine bT (tl) ?_
              cbv
              refine ⟨hlo0, hlo1, ?_⟩
              cbv
              rw [hbb]
              refine bT (u1) ?_
              cbv
              refine ⟨hlo0, hlo1, ?_⟩
              cbv
              rw [hbb]
              refine cF (v48) ?_
              cbv
              refine cF (v57) ?_
              cbv
              rw [hi0]
              refine bF (u5) ?_
              cbv
              refine bF (u7) ?_
              cbv
              rw [hw1, hip]
              exact ⟨(j + 1, ip, 10 * n + (c.toNat - 48), w1), hstep, (show l.length - (j + 1) < l.length - j by omega), (le_of [] (by simp [leSl, leOb, injK, memK, parK, noTup, lk, rn0, rnA, plain] <;> first | rfl | decide))⟩
            · have u5 : F .cmp .gtr i' i0 = true := by rw [u5]; simp; omega
              have u6 : F .cmp .eql n' 0 = false := by rw [u6]; simp; omega
              cbv
              rw [hsn]
              refine bT (tl) ?_
              cbv
              refine ⟨hlo0, hlo1, ?_⟩
              cbv
              rw [hbb]
              refine bT (u1) ?_
              cbv
              refine ⟨hlo0, hlo1, ?_⟩
              cbv
              rw [hbb]
              refine cF (v48) ?_
              cbv
              refine cF (v57) ?_
              cbv
              rw [hi0]
              refine bT (u5) ?_
              cbv
              refine cF (u6) ?_
              cbv
              refine bF (u7) ?_
              cbv
              rw [hw1, hip]
              exact ⟨(j + 1, ip, 10 * n + (c.toNat - 48), w1), hstep, (show l.length - (j + 1) < l.length - j by omega), (le_of [] (by simp [leSl, leOb, injK, memK, parK, noTup, lk, rn0, rnA, plain] <;> first | rfl | decide))⟩
    · have t2 : F .cmp .neq (F .bt s a') sg = true := by rw [neF hF, hg0, hsg]; simp; omega
      rw [if_pos h1] at hmore herr hok
      obtain ⟨f1, f2, f3⟩ := herr 3 rfl
      subst f1 f2 f3
      clear hok hmore herr hg0
      have h00 : (0 : Int) ≤ a' := by rw [ha]; omega
      have h01 : a' < F .slen s := by rw [hsn, ha, esn]; exact Int.ofNat_lt.2 hlt
      cbv
      rw [hsn]
      refine bF (t1) ?_
      cbv
      refine ⟨h00, h01, ?_⟩
      cbv
      refine bT (t2) ?_
      cbv
      simp
end Go.Proofs.YtfphhpabfeepmaaDoor
