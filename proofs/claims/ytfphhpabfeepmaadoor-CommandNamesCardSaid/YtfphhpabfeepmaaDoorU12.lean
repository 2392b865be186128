import Derived.Test.YtfphhpabfeepmaaDoorU11
import Derived.Test.YtfphhpabfeepmaaDoorU3
set_option linter.unusedSimpArgs false
set_option linter.unusedVariables false
namespace Go.Proofs.YtfphhpabfeepmaaDoor
open Go Go.RowKit Am

/-! ### A call, taken from its arguments -/
structure Cl where
  nm : ByteArray
  ky : ByteArray
  fl : ByteArray
  vl : ByteArray
  n : Int
  m : Int
def Cl.zero : Cl := ⟨BA [], BA [], BA [], BA [], 0, 0⟩
abbrev Cl.cs (x : Cl) : List AV := [aS x.nm, aS x.ky, aS x.fl, aS x.vl, aI x.n, aI x.m]
abbrev Cl.ob (x : Cl) : Obs := CO x.nm x.ky x.fl x.vl x.n x.m
def longE (s : ByteArray) : Int := if 64 < s.size then 4 else 0
def stepE (c : UInt8) (s : ByteArray) (x : Cl) : Int × Cl :=
  if c = 110 then (match numR (L s) with | none => (13, x) | some v => (0, { x with n := v }))
  else if c = 109 then (match numR (L s) with | none => (13, x) | some v => (0, { x with m := v }))
  else if c = 107 then (if L s = [] then (1, x) else (longE s, { x with ky := s }))
  else if c = 102 then (longE s, { x with fl := s })
  else if c = 118 then (longE s, { x with vl := s })
  else (longE s, x)
theorem takes_ok (x : Cl) (c : UInt8) (ci : Int) (hci : ci = (c.toNat : Int)) (s : ByteArray) (hl : (L s).length ≤ 1000000) (r : Int) (hr : r = (stepE c s x).1) (y : Cl) (hy : y = (stepE c s x).2) :
    CSem Tryd.prog (.wr 50 x.ob y.ob) [.ptr 0 0, aU ci, aS s] (.pure [aI r]) := by
  have hn : ∀ k : Nat, (hk : k < 256) → (ci = (k : Int) ↔ c = UInt8.ofNat k) := fun k hk => by
    rw [hci]
    constructor
    · intro h
      have h : c.toNat = k := by omega
      rw [← h]; simp
    · intro h; rw [h]; simp [UInt8.toNat_ofNat, Nat.mod_eq_of_lt hk]
  obtain ⟨nm, ky, fl, vl, n, m⟩ := x
  unfold stepE at hr hy
  by_cases h1 : c = 110
  · rw [if_pos h1] at hr hy
    have hc : ci = 110 := (hn 110 (by decide)).2 h1
    cases hv : numR (L s) with
    | none =>
      rw [hv] at hr hy; subst hr hy
      exact takes_nx nm ky fl vl n m ci hc s 0 (num_ok s _ rfl hl 0 false (fun n h => by rw [hv] at h; cases h) (fun _ => ⟨rfl, rfl⟩))
    | some v =>
      rw [hv] at hr hy; subst hr hy
      exact takes_n nm ky fl vl n m ci hc s v (num_ok s _ rfl hl v true (fun n h => by rw [hv] at h; injection h with h; exact ⟨h, rfl⟩) (fun h => by rw [hv] at h; cases h))
  rw [if_neg h1] at hr hy
  by_cases h2 : c = 109
  · rw [if_pos h2] at hr hy
    have hc : ci = 109 := (hn 109 (by decide)).2 h2
    cases hv : numR (L s) with
    | none =>
      rw [hv] at hr hy; subst hr hy
      exact takes_mx nm ky fl vl n m ci hc s 0 (num_ok s _ rfl hl 0 false (fun n h => by rw [hv] at h; cases h) (fun _ => ⟨rfl, rfl⟩))
    | some v =>
      rw [hv] at hr hy; subst hr hy
      exact takes_m nm ky fl vl n m ci hc s v (num_ok s _ rfl hl v true (fun n h => by rw [hv] at h; injection h with h; exact ⟨h, rfl⟩) (fun h => by rw [hv] at h; cases h))
  rw [if_neg h2] at hr hy
  by_cases h3 : c = 107
  · rw [if_pos h3] at hr hy
    have hc : ci = 107 := (hn 107 (by decide)).2 h3
    by_cases h0 : L s = []
    · rw [if_pos h0] at hr hy; subst hr hy
      exact takes_k0 nm ky fl vl n m ci hc s h0
    · rw [if_neg h0] at hr hy; subst hy
      exact takes_k nm ky fl vl n m ci hc s h0 r hr
  rw [if_neg h3] at hr hy
  by_cases h4 : c = 102
  · rw [if_pos h4] at hr hy; subst hy
    exact takes_f nm ky fl vl n m ci ((hn 102 (by decide)).2 h4) s r hr
  rw [if_neg h4] at hr hy
  by_cases h5 : c = 118
  · rw [if_pos h5] at hr hy; subst hy
    exact takes_v nm ky fl vl n m ci ((hn 118 (by decide)).2 h5) s r hr
  rw [if_neg h5] at hr hy
  subst hy
  exact takes_o nm ky fl vl n m ci ⟨fun h => h1 ((hn 110 (by decide)).1 h), fun h => h2 ((hn 109 (by decide)).1 h), fun h => h3 ((hn 107 (by decide)).1 h), fun h => h4 ((hn 102 (by decide)).1 h), fun h => h5 ((hn 118 (by decide)).1 h)⟩ s r hr
def runE : List UInt8 → List (List UInt8) → Cl → Int × Cl
  | c :: cs, s :: ss, x => if (stepE c (BA s) x).1 = 0 then runE cs ss (stepE c (BA s) x).2 else ((stepE c (BA s) x).1, Cl.zero)
  | _, _, x => (0, x)
theorem runE_cons (c : UInt8) (cs : List UInt8) (s : List UInt8) (ss : List (List UInt8)) (x : Cl) : runE (c :: cs) (s :: ss) x = if (stepE c (BA s) x).1 = 0 then runE cs ss (stepE c (BA s) x).2 else ((stepE c (BA s) x).1, Cl.zero) := rfl
def parseE : List (List UInt8) → Int × Cl
  | [] => (12, Cl.zero)
  | a :: rest => match formR (upL a) with
    | none => (14, Cl.zero)
    | some (f, _) => if rest.length = f.length then runE f rest { Cl.zero with nm := BA (upL a) } else (12, Cl.zero)
def cl0 (a : List UInt8) : Cl := ⟨BA (upL a), BA [], BA [], BA [], 0, 0⟩
theorem parseE_none {a : List UInt8} {rest : List (List UInt8)} (h : formR (upL a) = none) : parseE (a :: rest) = (14, Cl.zero) := by
  unfold parseE
  simp only [h]
theorem parseE_some {a : List UInt8} {rest : List (List UInt8)} {f : List UInt8} {k : Int} (h : formR (upL a) = some (f, k)) : parseE (a :: rest) = if rest.length = f.length then runE f rest (cl0 a) else (12, Cl.zero) := by
  unfold parseE
  simp only [h]
  rfl
theorem formR_len {l : List UInt8} {x : List UInt8 × Int} (h : formR l = some x) : x.1.length ≤ 3 ∧ l.length ≤ 20 := by
  unfold formR at h
  cases hf : tab.find? (fun y => decide (y.1 = l)) with
  | none => rw [hf] at h; cases h
  | some y =>
    rw [hf] at h
    injection h with h
    have hm := List.mem_of_find?_eq_some hf
    have he : y.1 = l := by simpa using List.find?_some hf
    have := (show ∀ y ∈ tab, y.2.1.length ≤ 3 ∧ y.1.length ≤ 20 by decide) y hm
    rw [← h, ← he]
    exact this
set_option maxHeartbeats 4000000 in
theorem parse_ok (ags : List (List UInt8)) (rows : List (List AV)) (hrows : rows = sR ags) (h20 : ags.length ≤ 1000) (hall : ∀ a ∈ ags, a.length ≤ 1000) (r : Int) (hr : r = (parseE ags).1) (y : Cl) (hy : y = (parseE ags).2) :
    CSem Tryd.prog (.fn 28) [.sl rows] (.pure [.agg y.cs, aI r]) := by
  refine of_text gam_ok mixed { n := 58, keep := [4], wrs := [50] } Tryd.func28 (by kernel_rfl) rfl rfl (by simp) (by decide) fun F C D hF hC hD => ?_
  obtain ⟨n', hn'⟩ : ∃ n' : Int, F .len rows = n' := ⟨_, rfl⟩
  have en : n' = (ags.length : Int) := by rw [← hn', lenF hF, hrows, sR_len]
  have t0 : F .cmp .eql n' 0 = decide (ags.length = 0) := by rw [eqF hF, en]; congr 1; exact propext ⟨fun h => by omega, fun h => by omega⟩
  cases ags with
  | nil =>
    have t0 : F .cmp .eql n' 0 = true := t0
    unfold parseE at hr hy
    subst hr hy
    clear en hrows
    cbv
    rw [hn']
    refine bT (t0) ?_
    cbv
    simp
  | cons a rest =>
    have t0 : F .cmp .eql n' 0 = false := by rw [t0]; rfl
    obtain ⟨sa, has⟩ : ∃ s, s = BA a := ⟨_, rfl⟩
    have hrow : rows[0]? = some [aS sa] := by rw [hrows, has]; rfl
    obtain ⟨up, hup⟩ : ∃ s, s = BA (upL a) := ⟨_, rfl⟩
    have hcap := hC _ _ _ (capitals_ok sa a (by rw [has]; rfl) (by have := hall a List.mem_cons_self; omega) up hup)
    cases hf : formR (upL a) with
    | none =>
      rw [parseE_none hf] at hr hy
      subst hr hy
      have hform := hC _ _ _ (form_ok up (upL a) (by rw [hup]; rfl) (BA []) 0 false (fun x h => by rw [hf] at h; cases h) (fun _ => ⟨rfl, rfl, rfl⟩))
      have tn : F .bnot false = true := by rw [bnotF hF]; rfl
      unfold BA at hform
      clear en hrows hf hup has
      cbv
      rw [hn']
      refine bF (t0) ?_
      cbv
      refine ⟨0, _, rfl, hrow, rfl, ?_⟩
      cbv
      refine ⟨_, hcap, ?_⟩
      cbv
      refine ⟨_, hform, ?_⟩
      cbv
      refine bT (tn) ?_
      cbv
      simp
    | some x =>
      obtain ⟨fl, k⟩ := x
      rw [parseE_some hf] at hr hy
      obtain ⟨fb, hfb⟩ : ∃ s, s = BA fl := ⟨_, rfl⟩
      have hform := hC _ _ _ (form_ok up (upL a) (by rw [hup]; rfl) fb k true (fun x h => by rw [hf] at h; injection h with h; rw [← h, hfb]; exact ⟨rfl, rfl, rfl⟩) (fun h => by rw [hf] at h; cases h))
      have tn : F .bnot true = false := by rw [bnotF hF]; rfl
      obtain ⟨fn, hfn⟩ : ∃ n' : Int, F .slen fb = n' := ⟨_, rfl⟩
      have efn : fn = (fl.length : Int) := by rw [← hfn, slenF hF, L_size, hfb]; rfl
      have hfl3 : fl.length ≤ 3 := (formR_len hf).1
      obtain ⟨q, hq⟩ : ∃ q, F .ar .add .i64 1 fn = q := ⟨_, rfl⟩
      have eq : q = ((1 + fl.length : Nat) : Int) := by rw [← hq]; exact addF (i := 1) hF rfl efn (by omega)
      have en : n' = ((rest.length + 1 : Nat) : Int) := by rw [en]; rfl
      have tq : F .cmp .neq n' q = decide (rest.length ≠ fl.length) := by rw [neF hF, en, eq]; congr 1; exact propext ⟨fun h e => h (by rw [e]; omega), fun h e => h (by omega)⟩
      by_cases hlen : rest.length = fl.length
      · have tq : F .cmp .neq n' q = false := by rw [tq]; exact decide_eq_false (fun h => h hlen)
        rw [if_pos hlen] at hr hy
        have hrl : rest.length ≤ 1000 := by simp only [List.length_cons] at h20; omega
        have hone : ∀ r ∈ rows, r.length = 1 := by rw [hrows]; exact sR_one _
        obtain ⟨rs, hrs⟩ : ∃ rs, rs = (rows.drop 1).take (rest.length + 1 - 1) := ⟨_, rfl⟩
        have ers : rs = sR rest := by rw [hrs, hrows]; show (sR rest).take rest.length = sR rest; exact List.take_of_length_le (by rw [sR_len]; exact Nat.le_refl _)
        have hsl1 : ((rest.length + 1 : Nat) : Int) = F .len rows := by rw [hn', en]
        have hsl2 : ((rest.length + 1 : Nat) : Int) ≤ F .len rows := by rw [hn', en]; exact Int.le_refl _
        obtain ⟨m', hm'⟩ : ∃ m' : Int, F .len rs = m' := ⟨_, rfl⟩
        have em : m' = (rest.length : Int) := by rw [← hm', lenF hF, ers, sR_len]
        have hallr : ∀ a ∈ rest, a.length ≤ 1000 := fun x hx => hall x (List.mem_cons_of_mem _ hx)
        clear hall h20 hrows has
        cbv
        rw [hn']
        refine bF (t0) ?_
        cbv
        refine ⟨0, _, rfl, hrow, rfl, ?_⟩
        cbv
        refine ⟨_, hcap, ?_⟩
        cbv
        refine ⟨_, hform, ?_⟩
        cbv
        refine bF (tn) ?_
        cbv
        rw [hn', hfn, hq]
        refine bF (tq) ?_
        cbv
        refine ⟨1, rest.length + 1, rfl, hsl1, Nat.succ_le_succ (Nat.zero_le _), hsl2, hone, rs, hrs, ?_⟩
        cbv
        rw [hm']
        refine ⟨Nat × Int × Cl, fun x => { slots := [(41, aI x.2.1), (40, aI m'), (39, .sl rs), (5, .ept [aS fb, aI k] 0), (4, .ptr 1 0), (3, aI 0), (2, .ptr 0 0)], obs := [(1, .box 61 x.2.2.cs false), (0, .box 61 Cl.zero.cs true)], ctr := 2 }, fun x => x.2.1 = (x.1 : Int) ∧ x.1 ≤ rest.length ∧ runE fl rest (cl0 a) = runE (fl.drop x.1) (rest.drop x.1) x.2.2, fun x => rest.length - x.1, ⟨(0, 0, ⟨up, BA [], BA [], BA [], 0, 0⟩), ⟨rfl, Nat.zero_le _, by rw [hup]; rfl⟩, (le_of [] (by simp [leSl, leOb, injK, memK, parK, noTup, lk, rn0, rnA, plain] <;> first | rfl | decide))⟩, fun x hx => ?_⟩
        obtain ⟨i, i', c⟩ := x
        obtain ⟨ei, hi, hrun⟩ := hx
        simp only at ei hi hrun
        have em : m' = (rest.length : Int) := em
        have hfb : fb = BA fl := hfb
        have tl := ltF hF i rest.length i' m' ei em
        obtain ⟨i2, hi2⟩ : ∃ i2, F .ar .add .i64 i' 1 = i2 := ⟨_, rfl⟩
        have ei2 : i2 = ((i + 1 : Nat) : Int) := hi2.symm.trans (incF hF ei (by omega))
        by_cases hil : i < rest.length
        · have tl : F .cmp .lss i' m' = true := tl.2 hil
          obtain ⟨s, hs⟩ : ∃ s, rest[i]? = some s := ⟨_, List.getElem?_eq_getElem hil⟩
          obtain ⟨c0, hc0⟩ : ∃ s, fl[i]? = some s := ⟨_, List.getElem?_eq_getElem (by rw [← hlen]; exact hil)⟩
          have hd1 : fl.drop i = c0 :: fl.drop (i + 1) := by
            obtain ⟨h1, h2⟩ := List.getElem?_eq_some_iff.1 hc0
            rw [List.drop_eq_getElem_cons h1, h2]
          have hd2 : rest.drop i = s :: rest.drop (i + 1) := by
            obtain ⟨h1, h2⟩ := List.getElem?_eq_some_iff.1 hs
            rw [List.drop_eq_getElem_cons h1, h2]
          rw [hd1, hd2] at hrun
          rw [runE_cons] at hrun
          obtain ⟨sb, hsb⟩ : ∃ sb, sb = BA s := ⟨_, rfl⟩
          have hrw : rs[i]? = some [aS sb] := by rw [ers, hsb]; exact sR_get hs
          obtain ⟨b, hb⟩ : ∃ b : Int, F .bt fb i' = b := ⟨_, rfl⟩
          have eb : b = (c0.toNat : Int) := by rw [← hb, ei]; exact btF hF (by rw [hfb]; exact hc0)
          have hlo0 : 0 ≤ i' := by rw [ei]; omega
          have hlo1 : i' < F .slen fb := by rw [hfn, ei, efn, ← hlen]; exact Int.ofNat_lt.2 hil
          have hsl : (L sb).length ≤ 1000000 := by rw [hsb]; have := hallr s (List.mem_of_getElem? hs); show s.length ≤ _; omega
          obtain ⟨e, he⟩ : ∃ e, e = (stepE c0 sb c).1 := ⟨_, rfl⟩
          obtain ⟨c2, hc2⟩ : ∃ e, e = (stepE c0 sb c).2 := ⟨_, rfl⟩
          have htk := hC _ _ _ (takes_ok c c0 b eb sb hsl e he c2 hc2)
          rw [← hsb, ← he, ← hc2] at hrun
          have te : F .cmp .neq e 0 = decide (e ≠ 0) := neF hF e 0
          by_cases h0 : e = 0
          · have te : F .cmp .neq e 0 = false := by rw [te]; exact decide_eq_false (fun h => h h0)
            rw [if_pos h0] at hrun
            obtain ⟨nm, ky, fv, vl, nn, mm⟩ := c
            clear hr hy
            cbv
            refine bT (tl) ?_
            cbv
            refine ⟨i, _, ei, hrw, rfl, ?_⟩
            cbv
            refine ⟨hlo0, hlo1, ?_⟩
            cbv
            rw [hb]
            refine ⟨_, _, htk, ?_⟩
            cbv
            refine bF (te) ?_
            cbv
            rw [hi2]
            exact ⟨(i + 1, i2, c2), ⟨ei2, hil, hrun⟩, (show rest.length - (i + 1) < rest.length - i by omega), (le_of [] (by simp [leSl, leOb, injK, memK, parK, noTup, lk, rn0, rnA, plain] <;> first | rfl | decide))⟩
          · have te : F .cmp .neq e 0 = true := by rw [te]; exact decide_eq_true h0
            rw [if_neg h0] at hrun
            rw [hrun] at hr hy
            subst hr hy
            obtain ⟨nm, ky, fv, vl, nn, mm⟩ := c
            cbv
            refine bT (tl) ?_
            cbv
            refine ⟨i, _, ei, hrw, rfl, ?_⟩
            cbv
            refine ⟨hlo0, hlo1, ?_⟩
            cbv
            rw [hb]
            refine ⟨_, _, htk, ?_⟩
            cbv
            refine bT (te) ?_
            cbv
            simp
        · have tl : F .cmp .lss i' m' = false := by cases h : F .cmp .lss i' m' with | true => exact absurd (tl.1 h) hil | false => rfl
          have h1 : fl.drop i = [] := List.drop_eq_nil_of_le (by omega)
          rw [h1] at hrun
          have h2 : runE [] (rest.drop i) c = (0, c) := by unfold runE; rfl
          rw [h2] at hrun
          rw [hrun] at hr hy
          have hy : y = c := hy
          have hr : r = 0 := hr
          rw [hy, hr]
          clear hrun hr hy
          obtain ⟨nm, ky, fv, vl, nn, mm⟩ := c
          cbv
          refine bF (tl) ?_
          cbv
          simp
      · have tq : F .cmp .neq n' q = true := by rw [tq]; exact decide_eq_true hlen
        rw [if_neg hlen] at hr hy
        subst hr hy
        clear en hrows hf hup has efn eq
        cbv
        rw [hn']
        refine bF (t0) ?_
        cbv
        refine ⟨0, _, rfl, hrow, rfl, ?_⟩
        cbv
        refine ⟨_, hcap, ?_⟩
        cbv
        refine ⟨_, hform, ?_⟩
        cbv
        refine bF (tn) ?_
        cbv
        rw [hn', hfn, hq]
        refine bT (tq) ?_
        cbv
        simp
end Go.Proofs.YtfphhpabfeepmaaDoor
