import Derived.Test.YtfphhpabfeepmaaDoorU12
set_option linter.unusedSimpArgs false
set_option linter.unusedVariables false
namespace Go.Proofs.YtfphhpabfeepmaaDoor
open Go Go.RowKit Am

/-! ### The reference: a call, taken from its arguments -/
set_option maxHeartbeats 4000000 in
theorem rparse_ok (ags : List (List UInt8)) (rows : List (List AV)) (hrows : rows = sR ags) (h20 : ags.length ≤ 1000) (hall : ∀ a ∈ ags, a.length ≤ 1000) (r : Int) (hr : r = (parseE ags).1) (y : Cl) (hy : y = (parseE ags).2) :
    CSem Tryd.prog (.fn 29) [.sl rows] (.pure [.agg y.cs, aI r]) := by
  refine of_text gam_ok mixed { n := 110, keep := [4] } Tryd.func29 (by kernel_rfl) rfl rfl (by simp) (by decide) fun F C D hF hC hD => ?_
  obtain ⟨n', hn'⟩ : ∃ n' : Int, F .len rows = n' := ⟨_, rfl⟩
  have en : n' = (ags.length : Int) := by rw [← hn', lenF hF, hrows, sR_len]
  have t0 : F .cmp .eql n' 0 = decide (ags.length = 0) := by rw [eqF hF, en]; congr 1; exact propext ⟨fun h => by omega, fun h => by omega⟩
  cases ags with
  | nil =>
    have t0 : F .cmp .eql n' 0 = true := t0
    unfold parseE at hr hy
    subst hr hy
    clear en hrows
    cbv
    rw [hn']
    refine bT (t0) ?_
    cbv
    simp
  | cons a rest =>
    have t0 : F .cmp .eql n' 0 = false := by rw [t0]; rfl
    obtain ⟨sa, has⟩ : ∃ s, s = BA a := ⟨_, rfl⟩
    have hrow : rows[0]? = some [aS sa] := by rw [hrows, has]; rfl
    obtain ⟨an, han⟩ : ∃ n' : Int, F .slen sa = n' := ⟨_, rfl⟩
    have ean : an = (a.length : Int) := by rw [← han, slenF hF, L_size, has]; rfl
    have t20 : F .cmp .gtr an 20 = decide (20 < a.length) := by rw [gtF hF, ean]; congr 1; exact propext ⟨fun h => by omega, fun h => by omega⟩
    by_cases ha20 : 20 < a.length
    · have t20 : F .cmp .gtr an 20 = true := by rw [t20]; exact decide_eq_true ha20
      have hf : formR (upL a) = none := by
        cases hf : formR (upL a) with
        | none => rfl
        | some x => have := (formR_len hf).2; rw [upL_len] at this; omega
      rw [parseE_none hf] at hr hy
      subst hr hy
      clear en hrows hf has ean
      cbv
      rw [hn']
      refine bF (t0) ?_
      cbv
      refine ⟨0, _, rfl, hrow, rfl, ?_⟩
      cbv
      rw [han]
      refine bT (t20) ?_
      cbv
      simp
    have t20 : F .cmp .gtr an 20 = false := by rw [t20]; exact decide_eq_false ha20
    obtain ⟨up, hup⟩ : ∃ s, s = BA (upL a) := ⟨_, rfl⟩
    have hcap := hC _ _ _ (upper_ok sa a (by rw [has]; rfl) (by have := hall a List.mem_cons_self; omega) up hup)
    cases hf : formR (upL a) with
    | none =>
      rw [parseE_none hf] at hr hy
      subst hr hy
      have hform := hC _ _ _ (rform_ok up (upL a) (by rw [hup]; rfl) (BA []) 0 false (fun x h => by rw [hf] at h; cases h) (fun _ => ⟨rfl, rfl, rfl⟩))
      have tn : F .bnot false = true := by rw [bnotF hF]; rfl
      unfold BA at hform
      clear en hrows hf hup has ean
      cbv
      rw [hn']
      refine bF (t0) ?_
      cbv
      refine ⟨0, _, rfl, hrow, rfl, ?_⟩
      cbv
      rw [han]
      refine bF (t20) ?_
      cbv
      refine ⟨0, _, rfl, hrow, rfl, ?_⟩
      cbv
      refine ⟨_, hcap, ?_⟩
      cbv
      refine ⟨_, hform, ?_⟩
      cbv
      refine bT (tn) ?_
      cbv
      simp
    | some x =>
      obtain ⟨fl, k⟩ := x
      rw [parseE_some hf] at hr hy
      obtain ⟨fb, hfb⟩ : ∃ s, s = BA fl := ⟨_, rfl⟩
      have hform := hC _ _ _ (rform_ok up (upL a) (by rw [hup]; rfl) fb k true (fun x h => by rw [hf] at h; injection h with h; rw [← h, hfb]; exact ⟨rfl, rfl, rfl⟩) (fun h => by rw [hf] at h; cases h))
      have tn : F .bnot true = false := by rw [bnotF hF]; rfl
      obtain ⟨fn, hfn⟩ : ∃ n' : Int, F .slen fb = n' := ⟨_, rfl⟩
      have efn : fn = (fl.length : Int) := by rw [← hfn, slenF hF, L_size, hfb]; rfl
      have hfl3 : fl.length ≤ 3 := (formR_len hf).1
      obtain ⟨q, hq⟩ : ∃ q, F .ar .add .i64 1 fn = q := ⟨_, rfl⟩
      have eq : q = ((1 + fl.length : Nat) : Int) := by rw [← hq]; exact addF (i := 1) hF rfl efn (by omega)
      have en : n' = ((rest.length + 1 : Nat) : Int) := by rw [en]; rfl
      have tq : F .cmp .neq n' q = decide (rest.length ≠ fl.length) := by rw [neF hF, en, eq]; congr 1; exact propext ⟨fun h e => h (by rw [e]; omega), fun h e => h (by omega)⟩
      by_cases hlen : rest.length = fl.length
      · have tq : F .cmp .neq n' q = false := by rw [tq]; exact decide_eq_false (fun h => h hlen)
        rw [if_pos hlen] at hr hy
        have hallr : ∀ a ∈ rest, a.length ≤ 1000 := fun x hx => hall x (List.mem_cons_of_mem _ hx)
        clear hall h20 has ean
        cbv
        rw [hn']
        refine bF (t0) ?_
        cbv
        refine ⟨0, _, rfl, hrow, rfl, ?_⟩
        cbv
        rw [han]
        refine bF (t20) ?_
        cbv
        refine ⟨0, _, rfl, hrow, rfl, ?_⟩
        cbv
        refine ⟨_, hcap, ?_⟩
        cbv
        refine ⟨_, hform, ?_⟩
        cbv
        refine bF (tn) ?_
        cbv
        rw [hn', hfn, hq]
        refine bF (tq) ?_
        cbv
        refine ⟨Nat × Int × Cl, fun x => { slots := [(8, aI x.2.1), (5, aS fb), (4, .ptr 1 0), (3, aI 0), (2, .ptr 0 0), (0, .sl rows)], obs := [(1, .box 64 x.2.2.cs false), (0, .box 64 Cl.zero.cs true)], ctr := 2 }, fun x => x.2.1 = (x.1 : Int) ∧ x.1 ≤ rest.length ∧ runE fl rest (cl0 a) = runE (fl.drop x.1) (rest.drop x.1) x.2.2, fun x => rest.length - x.1, ⟨(0, 0, ⟨up, BA [], BA [], BA [], 0, 0⟩), ⟨rfl, Nat.zero_le _, by rw [hup]; rfl⟩, (le_of [] (by simp [leSl, leOb, injK, memK, parK, noTup, lk, rn0, rnA, plain] <;> first | rfl | decide))⟩, fun x hx => ?_⟩
        obtain ⟨i, i', c⟩ := x
        obtain ⟨ei, hi, hrun⟩ := hx
        simp only at ei hi hrun
        have efn : fn = (fl.length : Int) := efn
        have hfb : fb = BA fl := hfb
        have tl := ltF hF i fl.length i' fn ei efn
        obtain ⟨i2, hi2⟩ : ∃ i2, F .ar .add .i64 i' 1 = i2 := ⟨_, rfl⟩
        have ei2 : i2 = ((i + 1 : Nat) : Int) := hi2.symm.trans (incF hF ei (by omega))
        by_cases hil : i < rest.length
        · have tl : F .cmp .lss i' fn = true := tl.2 (by omega)
          obtain ⟨s, hs⟩ : ∃ s, rest[i]? = some s := ⟨_, List.getElem?_eq_getElem hil⟩
          obtain ⟨c0, hc0⟩ : ∃ s, fl[i]? = some s := ⟨_, List.getElem?_eq_getElem (by rw [← hlen]; exact hil)⟩
          have hd1 : fl.drop i = c0 :: fl.drop (i + 1) := by
            obtain ⟨h1, h2⟩ := List.getElem?_eq_some_iff.1 hc0
            rw [List.drop_eq_getElem_cons h1, h2]
          have hd2 : rest.drop i = s :: rest.drop (i + 1) := by
            obtain ⟨h1, h2⟩ := List.getElem?_eq_some_iff.1 hs
            rw [List.drop_eq_getElem_cons h1, h2]
          rw [hd1, hd2, runE_cons] at hrun
          obtain ⟨sb, hsb⟩ : ∃ sb, sb = BA s := ⟨_, rfl⟩
          have hrw : rows[i+1]? = some [aS sb] := by rw [hrows, hsb]; exact sR_get (by simpa using hs)
          obtain ⟨b, hb⟩ : ∃ b : Int, F .bt fb i' = b := ⟨_, rfl⟩
          have eb : b = (c0.toNat : Int) := by rw [← hb, ei]; exact btF hF (by rw [hfb]; exact hc0)
          have hlo0 : 0 ≤ i' := by rw [ei]; omega
          have hlo1 : i' < F .slen fb := by rw [hfn, ei, efn, ← hlen]; exact Int.ofNat_lt.2 hil
          have hsl : (L sb).length ≤ 1000000 := by rw [hsb]; have := hallr s (List.mem_of_getElem? hs); show s.length ≤ _; omega
          rw [← hsb] at hrun
          have hn : ∀ k : Nat, (hk : k < 256) → (b = (k : Int) ↔ c0 = UInt8.ofNat k) := fun k hk => by
            rw [eb]
            constructor
            · intro h
              have h : c0.toNat = k := by omega
              rw [← h]; simp
            · intro h; rw [h]; simp [UInt8.toNat_ofNat, Nat.mod_eq_of_lt hk]
          have i110 : F .cmp .eql b 110 = decide (b = 110) := eqF hF b 110
          have i109 : F .cmp .eql b 109 = decide (b = 109) := eqF hF b 109
          have i107 : F .cmp .eql b 107 = decide (b = 107) := eqF hF b 107
          have i102 : F .cmp .eql b 102 = decide (b = 102) := eqF hF b 102
          have i118 : F .cmp .eql b 118 = decide (b = 118) := eqF hF b 118
          have j110 : b = 110 ↔ c0 = 110 := hn 110 (by decide)
          have j109 : b = 109 ↔ c0 = 109 := hn 109 (by decide)
          have j107 : b = 107 ↔ c0 = 107 := hn 107 (by decide)
          have j102 : b = 102 ↔ c0 = 102 := hn 102 (by decide)
          have j118 : b = 118 ↔ c0 = 118 := hn 118 (by decide)
          have e13 : ¬ ((13 : Int) = 0) := by decide
          have e1 : ¬ ((1 : Int) = 0) := by decide
          have e4 : ¬ ((4 : Int) = 0) := by decide
          have z0 := empF hF sb (L sb) rfl
          unfold BA at z0
          have w : F .cmp .gtr (F .slen sb) 64 = decide (64 < sb.size) := by rw [slenF hF, gtF hF]; congr 1; exact propext ⟨fun h => by omega, fun h => by omega⟩
          obtain ⟨nm, ky, fv, vl, nn, mm⟩ := c
          by_cases h110 : c0 = 110
          · have i110 : F .cmp .eql b 110 = true := by rw [i110]; exact decide_eq_true (j110.2 h110)
            unfold stepE at hrun
            rw [if_pos h110] at hrun
            cases hv : numR (L sb) with
            | none =>
              rw [hv] at hrun
              simp only at hrun
              rw [if_neg e13] at hrun
              rw [hrun] at hr hy
              subst hr hy
              have hnum := hC _ _ _ (rnum_ok sb _ rfl hsl 0 false (fun n h => by rw [hv] at h; cases h) (fun _ => ⟨rfl, rfl⟩))
              have tt : F .bnot false = true := by rw [bnotF hF]; rfl
              clear hrun
              cbv
              rw [hfn]
              refine bT (tl) ?_
              cbv
              rw [hi2]
              refine ⟨(i+1), _, ei2, hrw, rfl, ?_⟩
              cbv
              refine ⟨hlo0, hlo1, ?_⟩
              cbv
              rw [hb]
              refine cT (i110) ?_
              cbv
              refine ⟨_, hnum, ?_⟩
              cbv
              refine bT (tt) ?_
              cbv
              simp
            | some v =>
              rw [hv] at hrun
              rw [if_pos rfl] at hrun
              have hnum := hC _ _ _ (rnum_ok sb _ rfl hsl v true (fun n h => by rw [hv] at h; injection h with h; exact ⟨h, rfl⟩) (fun h => by rw [hv] at h; cases h))
              have tt : F .bnot true = false := by rw [bnotF hF]; rfl
              clear hr hy
              cbv
              rw [hfn]
              refine bT (tl) ?_
              cbv
              rw [hi2]
              refine ⟨(i+1), _, ei2, hrw, rfl, ?_⟩
              cbv
              refine ⟨hlo0, hlo1, ?_⟩
              cbv
              rw [hb]
              refine cT (i110) ?_
              cbv
              refine ⟨_, hnum, ?_⟩
              cbv
              refine bF (tt) ?_
              cbv
              refine ⟨hlo0, hlo1, ?_⟩
              cbv
              rw [hb]
              refine bT (i110) ?_
              cbv
              rw [hi2]
              exact ⟨(i + 1, i2, ⟨nm, ky, fv, vl, v, mm⟩), ⟨ei2, hil, hrun⟩, (show rest.length - (i + 1) < rest.length - i by omega), (le_of [] (by simp [leSl, leOb, injK, memK, parK, noTup, lk, rn0, rnA, plain] <;> first | rfl | decide))⟩
          have i110 : F .cmp .eql b 110 = false := by rw [i110]; exact decide_eq_false (fun h => h110 (j110.1 h))
          by_cases h109 : c0 = 109
          · have i109 : F .cmp .eql b 109 = true := by rw [i109]; exact decide_eq_true (j109.2 h109)
            unfold stepE at hrun
            rw [if_neg h110, if_pos h109] at hrun
            cases hv : numR (L sb) with
            | none =>
              rw [hv] at hrun
              simp only at hrun
              rw [if_neg e13] at hrun
              rw [hrun] at hr hy
              subst hr hy
              have hnum := hC _ _ _ (rnum_ok sb _ rfl hsl 0 false (fun n h => by rw [hv] at h; cases h) (fun _ => ⟨rfl, rfl⟩))
              have tt : F .bnot false = true := by rw [bnotF hF]; rfl
              clear hrun
              cbv
              rw [hfn]
              refine bT (tl) ?_
              cbv
              rw [hi2]
              refine ⟨(i+1), _, ei2, hrw, rfl, ?_⟩
              cbv
              refine ⟨hlo0, hlo1, ?_⟩
              cbv
              rw [hb]
              refine cF (i110) ?_
              cbv
              refine ⟨hlo0, hlo1, ?_⟩
              cbv
              rw [hb]
              refine bT (i109) ?_
              cbv
              refine ⟨_, hnum, ?_⟩
              cbv
              refine bT (tt) ?_
              cbv
              simp
            | some v =>
              rw [hv] at hrun
              rw [if_pos rfl] at hrun
              have hnum := hC _ _ _ (rnum_ok sb _ rfl hsl v true (fun n h => by rw [hv] at h; injection h with h; exact ⟨h, rfl⟩) (fun h => by rw [hv] at h; cases h))
              have tt : F .bnot true = false := by rw [bnotF hF]; rfl
              clear hr hy
              cbv
              rw [hfn]
              refine bT (tl) ?_
              cbv
              rw [hi2]
              refine ⟨(i+1), _, ei2, hrw, rfl, ?_⟩
              cbv
              refine ⟨hlo0, hlo1, ?_⟩
              cbv
              rw [hb]
              refine cF (i110) ?_
              cbv
              refine ⟨hlo0, hlo1, ?_⟩
              cbv
              rw [hb]
              refine bT (i109) ?_
              cbv
              refine ⟨_, hnum, ?_⟩
              cbv
              refine bF (tt) ?_
              cbv
              refine ⟨hlo0, hlo1, ?_⟩
              cbv
              rw [hb]
              refine bF (i110) ?_
              cbv
              rw [hi2]
              exact ⟨(i + 1, i2, ⟨nm, ky, fv, vl, nn, v⟩), ⟨ei2, hil, hrun⟩, (show rest.length - (i + 1) < rest.length - i by omega), (le_of [] (by simp [leSl, leOb, injK, memK, parK, noTup, lk, rn0, rnA, plain] <;> first | rfl | decide))⟩
          have i109 : F .cmp .eql b 109 = false := by rw [i109]; exact decide_eq_false (fun h => h109 (j109.1 h))
          by_cases h107 : c0 = 107
          · have i107 : F .cmp .eql b 107 = true := by rw [i107]; exact decide_eq_true (j107.2 h107)
            unfold stepE longE at hrun
            rw [if_neg h110, if_neg h109, if_pos h107] at hrun
            by_cases h0 : L sb = []
            · have z0 := z0.trans (decide_eq_true h0)
              rw [if_pos h0] at hrun
              simp only at hrun
              rw [if_neg e1] at hrun
              rw [hrun] at hr hy
              subst hr hy
              clear hrun
              cbv
              rw [hfn]
              refine bT (tl) ?_
              cbv
              rw [hi2]
              refine ⟨(i+1), _, ei2, hrw, rfl, ?_⟩
              cbv
              refine ⟨hlo0, hlo1, ?_⟩
              cbv
              rw [hb]
              refine cF (i110) ?_
              cbv
              refine ⟨hlo0, hlo1, ?_⟩
              cbv
              rw [hb]
              refine bF (i109) ?_
              cbv
              refine ⟨hlo0, hlo1, ?_⟩
              cbv
              rw [hb]
              refine bT (i107) ?_
              cbv
              refine bT (z0) ?_
              cbv
              simp
            · have z0 := z0.trans (decide_eq_false h0)
              rw [if_neg h0] at hrun
              by_cases h64 : 64 < sb.size
              · have w : F .cmp .gtr (F .slen sb) 64 = true := by rw [w]; exact decide_eq_true h64
                rw [if_pos h64] at hrun
                simp only at hrun
                rw [if_neg e4] at hrun
                rw [hrun] at hr hy
                subst hr hy
                clear hrun
                cbv
                rw [hfn]
                refine bT (tl) ?_
                cbv
                rw [hi2]
                refine ⟨(i+1), _, ei2, hrw, rfl, ?_⟩
                cbv
                refine ⟨hlo0, hlo1, ?_⟩
                cbv
                rw [hb]
                refine cF (i110) ?_
                cbv
                refine ⟨hlo0, hlo1, ?_⟩
                cbv
                rw [hb]
                refine bF (i109) ?_
                cbv
                refine ⟨hlo0, hlo1, ?_⟩
                cbv
                rw [hb]
                refine bT (i107) ?_
                cbv
                refine bF (z0) ?_
                cbv
                refine bT (w) ?_
                cbv
                simp
              · have w : F .cmp .gtr (F .slen sb) 64 = false := by rw [w]; exact decide_eq_false h64
                rw [if_neg h64] at hrun
                simp only at hrun
                rw [if_pos trivial] at hrun
                clear hr hy
                cbv
                rw [hfn]
                refine bT (tl) ?_
                cbv
                rw [hi2]
                refine ⟨(i+1), _, ei2, hrw, rfl, ?_⟩
                cbv
                refine ⟨hlo0, hlo1, ?_⟩
                cbv
                rw [hb]
                refine cF (i110) ?_
                cbv
                refine ⟨hlo0, hlo1, ?_⟩
                cbv
                rw [hb]
                refine bF (i109) ?_
                cbv
                refine ⟨hlo0, hlo1, ?_⟩
                cbv
                rw [hb]
                refine bT (i107) ?_
                cbv
                refine bF (z0) ?_
                cbv
                refine bF (w) ?_
                cbv
                refine ⟨hlo0, hlo1, ?_⟩
                cbv
                rw [hb]
                refine bT (i107) ?_
                cbv
                rw [hi2]
                exact ⟨(i + 1, i2, ⟨nm, sb, fv, vl, nn, mm⟩), ⟨ei2, hil, hrun⟩, (show rest.length - (i + 1) < rest.length - i by omega), (le_of [] (by simp [leSl, leOb, injK, memK, parK, noTup, lk, rn0, rnA, plain] <;> first | rfl | decide))⟩
          have i107 : F .cmp .eql b 107 = false := by rw [i107]; exact decide_eq_false (fun h => h107 (j107.1 h))
          by_cases h102 : c0 = 102
          · have i102 : F .cmp .eql b 102 = true := by rw [i102]; exact decide_eq_true (j102.2 h102)
            unfold stepE longE at hrun
            rw [if_neg h110, if_neg h109, if_neg h107, if_pos h102] at hrun
            by_cases h64 : 64 < sb.size
            · have w : F .cmp .gtr (F .slen sb) 64 = true := by rw [w]; exact decide_eq_true h64
              rw [if_pos h64] at hrun
              simp only at hrun
              rw [if_neg e4] at hrun
              rw [hrun] at hr hy
              subst hr hy
              clear hrun
              cbv
              rw [hfn]
              refine bT (tl) ?_
              cbv
              rw [hi2]
              refine ⟨(i+1), _, ei2, hrw, rfl, ?_⟩
              cbv
              refine ⟨hlo0, hlo1, ?_⟩
              cbv
              rw [hb]
              refine cF (i110) ?_
              cbv
              refine ⟨hlo0, hlo1, ?_⟩
              cbv
              rw [hb]
              refine bF (i109) ?_
              cbv
              refine ⟨hlo0, hlo1, ?_⟩
              cbv
              rw [hb]
              refine bF (i107) ?_
              cbv
              refine bT (w) ?_
              cbv
              simp
            · have w : F .cmp .gtr (F .slen sb) 64 = false := by rw [w]; exact decide_eq_false h64
              rw [if_neg h64] at hrun
              simp only at hrun
              rw [if_pos trivial] at hrun
              clear hr hy
              cbv
              rw [hfn]
              refine bT (tl) ?_
              cbv
              rw [hi2]
              refine ⟨(i+1), _, ei2, hrw, rfl, ?_⟩
              cbv
              refine ⟨hlo0, hlo1, ?_⟩
              cbv
              rw [hb]
              refine cF (i110) ?_
              cbv
              refine ⟨hlo0, hlo1, ?_⟩
              cbv
              rw [hb]
              refine bF (i109) ?_
              cbv
              refine ⟨hlo0, hlo1, ?_⟩
              cbv
              rw [hb]
              refine bF (i107) ?_
              cbv
              refine bF (w) ?_
              cbv
              refine ⟨hlo0, hlo1, ?_⟩
              cbv
              rw [hb]
              refine bF (i107) ?_
              cbv
              refine bT (i102) ?_
              cbv
              rw [hi2]
              exact ⟨(i + 1, i2, ⟨nm, ky, sb, vl, nn, mm⟩), ⟨ei2, hil, hrun⟩, (show rest.length - (i + 1) < rest.length - i by omega), (le_of [] (by simp [leSl, leOb, injK, memK, parK, noTup, lk, rn0, rnA, plain] <;> first | rfl | decide))⟩
          have i102 : F .cmp .eql b 102 = false := by rw [i102]; exact decide_eq_false (fun h => h102 (j102.1 h))
          by_cases h118 : c0 = 118
          · have i118 : F .cmp .eql b 118 = true := by rw [i118]; exact decide_eq_true (j118.2 h118)
            unfold stepE longE at hrun
            rw [if_neg h110, if_neg h109, if_neg h107, if_neg h102, if_pos h118] at hrun
            by_cases h64 : 64 < sb.size
            · have w : F .cmp .gtr (F .slen sb) 64 = true := by rw [w]; exact decide_eq_true h64
              rw [if_pos h64] at hrun
              simp only at hrun
              rw [if_neg e4] at hrun
              rw [hrun] at hr hy
              subst hr hy
              clear hrun
              cbv
              rw [hfn]
              refine bT (tl) ?_
              cbv
              rw [hi2]
              refine ⟨(i+1), _, ei2, hrw, rfl, ?_⟩
              cbv
              refine ⟨hlo0, hlo1, ?_⟩
              cbv
              rw [hb]
              refine cF (i110) ?_
              cbv
              refine ⟨hlo0, hlo1, ?_⟩
              cbv
              rw [hb]
              refine bF (i109) ?_
              cbv
              refine ⟨hlo0, hlo1, ?_⟩
              cbv
              rw [hb]
              refine bF (i107) ?_
              cbv
              refine bT (w) ?_
              cbv
              simp
            · have w : F .cmp .gtr (F .slen sb) 64 = false := by rw [w]; exact decide_eq_false h64
              rw [if_neg h64] at hrun
              simp only at hrun
              rw [if_pos trivial] at hrun
              clear hr hy
              cbv
              rw [hfn]
              refine bT (tl) ?_
              cbv
              rw [hi2]
              refine ⟨(i+1), _, ei2, hrw, rfl, ?_⟩
              cbv
              refine ⟨hlo0, hlo1, ?_⟩
              cbv
              rw [hb]
              refine cF (i110) ?_
              cbv
              refine ⟨hlo0, hlo1, ?_⟩
              cbv
              rw [hb]
              refine bF (i109) ?_
              cbv
              refine ⟨hlo0, hlo1, ?_⟩
              cbv
              rw [hb]
              refine bF (i107) ?_
              cbv
              refine bF (w) ?_
              cbv
              refine ⟨hlo0, hlo1, ?_⟩
              cbv
              rw [hb]
              refine bF (i107) ?_
              cbv
              refine bF (i102) ?_
              cbv
              refine bT (i118) ?_
              cbv
              rw [hi2]
              exact ⟨(i + 1, i2, ⟨nm, ky, fv, sb, nn, mm⟩), ⟨ei2, hil, hrun⟩, (show rest.length - (i + 1) < rest.length - i by omega), (le_of [] (by simp [leSl, leOb, injK, memK, parK, noTup, lk, rn0, rnA, plain] <;> first | rfl | decide))⟩
          have i118 : F .cmp .eql b 118 = false := by rw [i118]; exact decide_eq_false (fun h => h118 (j118.1 h))
          unfold stepE longE at hrun
          rw [if_neg h110, if_neg h109, if_neg h107, if_neg h102, if_neg h118] at hrun
          by_cases h64 : 64 < sb.size
          · have w : F .cmp .gtr (F .slen sb) 64 = true := by rw [w]; exact decide_eq_true h64
            rw [if_pos h64] at hrun
            simp only at hrun
            rw [if_neg e4] at hrun
            rw [hrun] at hr hy
            subst hr hy
            clear hrun
            cbv
            rw [hfn]
            refine bT (tl) ?_
            cbv
            rw [hi2]
            refine ⟨(i+1), _, ei2, hrw, rfl, ?_⟩
            cbv
            refine ⟨hlo0, hlo1, ?_⟩
            cbv
            rw [hb]
            refine cF (i110) ?_
            cbv
            refine ⟨hlo0, hlo1, ?_⟩
            cbv
            rw [hb]
            refine bF (i109) ?_
            cbv
            refine ⟨hlo0, hlo1, ?_⟩
            cbv
            rw [hb]
            refine bF (i107) ?_
            cbv
            refine bT (w) ?_
            cbv
            simp
          · have w : F .cmp .gtr (F .slen sb) 64 = false := by rw [w]; exact decide_eq_false h64
            rw [if_neg h64] at hrun
            simp only at hrun
            rw [if_pos trivial] at hrun
            clear hr hy
            cbv
            rw [hfn]
            refine bT (tl) ?_
            cbv
            rw [hi2]
            refine ⟨(i+1), _, ei2, hrw, rfl, ?_⟩
            cbv
            refine ⟨hlo0, hlo1, ?_⟩
            cbv
            rw [hb]
            refine cF (i110) ?_
            cbv
            refine ⟨hlo0, hlo1, ?_⟩
            cbv
            rw [hb]
            refine bF (i109) ?_
            cbv
            refine ⟨hlo0, hlo1, ?_⟩
            cbv
            rw [hb]
            refine bF (i107) ?_
            cbv
            refine bF (w) ?_
            cbv
            refine ⟨hlo0, hlo1, ?_⟩
            cbv
            rw [hb]
            refine bF (i107) ?_
            cbv
            refine bF (i102) ?_
            cbv
            refine bF (i118) ?_
            cbv
            rw [hi2]
            exact ⟨(i + 1, i2, ⟨nm, ky, fv, vl, nn, mm⟩), ⟨ei2, hil, hrun⟩, (show rest.length - (i + 1) < rest.length - i by omega), (le_of [] (by simp [leSl, leOb, injK, memK, parK, noTup, lk, rn0, rnA, plain] <;> first | rfl | decide))⟩
        · have tl : F .cmp .lss i' fn = false := by cases h : F .cmp .lss i' fn with | true => exact absurd (tl.1 h) (by omega) | false => rfl
          have h1 : fl.drop i = [] := List.drop_eq_nil_of_le (by omega)
          rw [h1] at hrun
          have h2 : runE [] (rest.drop i) c = (0, c) := by unfold runE; rfl
          rw [h2] at hrun
          rw [hrun] at hr hy
          have hy : y = c := hy
          have hr : r = 0 := hr
          rw [hy, hr]
          clear hrun hr hy
          obtain ⟨nm, ky, fv, vl, nn, mm⟩ := c
          cbv
          rw [hfn]
          refine bF (tl) ?_
          cbv
          simp
      · have tq : F .cmp .neq n' q = true := by rw [tq]; exact decide_eq_true hlen
        rw [if_neg hlen] at hr hy
        subst hr hy
        clear en hrows hf hup has efn eq ean
        cbv
        rw [hn']
        refine bF (t0) ?_
        cbv
        refine ⟨0, _, rfl, hrow, rfl, ?_⟩
        cbv
        rw [han]
        refine bF (t20) ?_
        cbv
        refine ⟨0, _, rfl, hrow, rfl, ?_⟩
        cbv
        refine ⟨_, hcap, ?_⟩
        cbv
        refine ⟨_, hform, ?_⟩
        cbv
        refine bF (tn) ?_
        cbv
        rw [hn', hfn, hq]
        refine bT (tq) ?_
        cbv
        simp
end Go.Proofs.YtfphhpabfeepmaaDoor
