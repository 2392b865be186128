import Derived.Test.YtdmdahnnfancpaaJ3
set_option linter.unusedSimpArgs false
set_option linter.unusedVariables false
namespace Go.Proofs.Ytdmdahnnfancpaa
open Go Go.RowKit Am

/-! ### Slots of a row's rest outlive its writes -/
namespace Am
def relT2 : AV → Bool
  | .rel _ _ _ _ _ _ => true
  | .tup (_ :: _) => true
  | _ => false
def killR2 (x : AV) : AV := if relT2 x = true then .dead else x
def St.fresh2 (s : St) : St := { slots := mapS killR2 s.slots, obs := freshObs s.obs, ctr := s.ctr, par := s.par }
theorem le_fresh2 {s : St} : Le s s.fresh2 := by
  rintro W0 S0 n a w ⟨S, β, hr⟩
  have hob : ∀ k o, lk k s.fresh2.obs = some o → ∃ o', lk k s.obs = some o' ∧ o = o'.fresh := by
    intro k o hk
    have hk : (lk k s.obs).map Ob.fresh = some o := by rw [← lk_fresh]; exact hk
    cases ho : lk k s.obs with
    | none => rw [ho] at hk; simp at hk
    | some o' => rw [ho] at hk; injection hk with hk; exact ⟨o', rfl, hk.symm⟩
  refine ⟨S, β, hr.gr, hr.par, hr.defers, hr.size, fun t x ht => ?_, fun k o hk => ?_, fun k o g hk => ?_, fun k k' o o' hk hk' => ?_, fun k o hk => ?_, hr.parc, fun k o hp hk => ?_⟩
  · have ht : (lk t s.slots).map killR2 = some x := by rw [← lk_mapS]; exact ht
    cases hy : lk t s.slots with
    | none => rw [hy] at ht; simp at ht
    | some y =>
      rw [hy] at ht
      injection ht with ht
      obtain ⟨h1, h2⟩ := hr.slots t y hy
      refine ⟨h1, ?_⟩
      by_cases hrel : relT2 y = true
      · rw [← ht, killR2, if_pos hrel]; exact trivial
      · rw [killR2, if_neg hrel] at ht
        subst ht
        cases y <;> try exact h2
        · rename_i k v
          intro e sz rows m hk
          obtain ⟨o', ho', he⟩ := hob _ _ hk
          cases o' <;> simp [Ob.fresh] at he
          rename_i e0 sz0 rows0 v0 m0
          obtain ⟨rfl, rfl, rfl, rfl, rfl⟩ := he
          exact (show ∀ e sz rows m, lk k s.obs = some (.row e sz rows v m) → a.tmps.getD t undef = β k from h2) _ _ _ _ ho'
        · exact absurd rfl hrel
        · rename_i k v lo
          intro e sz rows m hk
          obtain ⟨o', ho', he⟩ := hob _ _ hk
          cases o' <;> simp [Ob.fresh] at he
          rename_i e0 sz0 rows0 v0 m0
          obtain ⟨rfl, rfl, rfl, rfl, rfl⟩ := he
          exact (show ∀ e sz rows m, lk k s.obs = some (.row e sz rows v m) → OslP β k lo sz rows.length (a.tmps.getD t undef) from h2) _ _ _ _ ho'
        · rename_i vs
          cases vs with
          | nil => rw [tup_nil_inv h2]; exact tup_nil
          | cons v vs => exact absurd rfl hrel
        · rename_i k
          intro ks vs hk
          obtain ⟨o', ho', he⟩ := hob _ _ hk
          cases o' <;> simp [Ob.fresh] at he
          obtain ⟨rfl, rfl⟩ := he
          exact (show ∀ ks vs, lk k s.obs = some (.mp ks vs) → a.tmps.getD t undef = β k from h2) _ _ ho'
  · obtain ⟨o', ho', rfl⟩ := hob _ _ hk
    exact orep_fresh (hr.objs _ _ ho')
  · obtain ⟨o', ho', rfl⟩ := hob _ _ hk
    exact hr.up _ _ g ho'
  · obtain ⟨o1, h1, rfl⟩ := hob _ _ hk
    obtain ⟨o2, h2, rfl⟩ := hob _ _ hk'
    exact hr.sep _ _ _ _ h1 h2
  · obtain ⟨o', ho', rfl⟩ := hob _ _ hk
    exact hr.ctr _ _ ho'
  · obtain ⟨o', ho', rfl⟩ := hob _ _ hk
    exact hr.fix _ _ hp ho'
def eqSl (s : List (Nat × AV)) : List (Nat × AV) → Prop
  | [] => True
  | (t, x) :: r => lk t s = some x ∧ eqSl s r
theorem eqSl_get {s : List (Nat × AV)} : ∀ {l : List (Nat × AV)}, eqSl s l → ∀ t x, lk t l = some x → lk t s = some x
  | [], _, t, x, h => by simp [lk] at h
  | (k, z) :: l, h, t, x, hx => by
    simp only [lk] at hx
    split at hx
    · rename_i e; injection hx with hx; subst e hx; exact h.1
    · exact eqSl_get h.2 t x hx
theorem le_sub {s : St} {sl : List (Nat × AV)} (h : eqSl s.slots sl) : Le s { slots := sl, obs := s.obs, ctr := s.ctr, par := s.par } := by
  rintro W0 S0 n a w ⟨S, β, hr⟩
  exact ⟨S, β, hr.gr, hr.par, hr.defers, hr.size, fun t x ht => hr.slots t x (eqSl_get h t x ht), hr.objs, hr.up, hr.sep, hr.ctr, hr.parc, hr.fix⟩
end Am
/-! ### slices.Compact at dots -/
/-- The first m, without what stands behind its like. -/
def ddT (d : List Dt) : Nat → List Dt
  | 0 => []
  | m + 1 => match d[m]? with
    | some x => if 0 < m ∧ d[m - 1]? = some x then ddT d m else ddT d m ++ [x]
    | none => ddT d m
def ddD (d : List Dt) : List Dt := ddT d d.length
theorem ddT_skip {d : List Dt} {m : Nat} {x : Dt} (h : d[m]? = some x) (hm : 0 < m) (hp : d[m - 1]? = some x) : ddT d (m + 1) = ddT d m := by
  rw [ddT, h]; simp only; rw [if_pos ⟨hm, hp⟩]
theorem ddT_keep {d : List Dt} {m : Nat} {x : Dt} (h : d[m]? = some x) (hp : ¬ d[m - 1]? = some x ∨ m = 0) : ddT d (m + 1) = ddT d m ++ [x] := by
  rw [ddT, h]; simp only; rw [if_neg (fun h => by rcases hp with hp | hp; exact hp h.2; omega)]
theorem ddT_le (d : List Dt) : ∀ m, (ddT d m).length ≤ m
  | 0 => Nat.le_refl _
  | m + 1 => by
    have ih := ddT_le d m
    rw [ddT]
    split
    · split
      · omega
      · rw [List.length_append, List.length_singleton]; omega
    · omega
theorem ddT_spec (d : List Dt) (hs : d.Pairwise fun x y => ltD y x = false) : ∀ m, m ≤ d.length → (ddT d m).Pairwise (fun x y => ltD x y = true) ∧ (∀ x, x ∈ ddT d m ↔ ∃ i, i < m ∧ d[i]? = some x)
  | 0, _ => ⟨List.Pairwise.nil, fun x => by simp [ddT]⟩
  | m + 1, hm => by
    obtain ⟨h1, h2⟩ := ddT_spec d hs m (by omega)
    obtain ⟨x, hx⟩ : ∃ x, d[m]? = some x := ⟨_, List.getElem?_eq_getElem (by omega)⟩
    by_cases hp : 0 < m ∧ d[m - 1]? = some x
    · rw [ddT_skip hx hp.1 hp.2]
      refine ⟨h1, fun y => ?_⟩
      rw [h2]
      constructor
      · rintro ⟨i, hi, h⟩; exact ⟨i, by omega, h⟩
      · rintro ⟨i, hi, h⟩
        by_cases e : i < m
        · exact ⟨i, e, h⟩
        · have : i = m := by omega
          rw [this, hx] at h
          exact ⟨m - 1, by omega, by rw [hp.2]; exact h⟩
    · rw [ddT_keep hx (by by_cases h0 : m = 0; exact .inr h0; exact .inl fun h => hp ⟨by omega, h⟩)]
      refine ⟨List.pairwise_append.2 ⟨h1, by simp, fun y hy z hz => ?_⟩, fun y => ?_⟩
      · rw [List.mem_singleton] at hz
        subst hz
        obtain ⟨i, hi, hyi⟩ := (h2 y).1 hy
        obtain ⟨u1, u2⟩ := List.getElem?_eq_some_iff.1 hyi
        obtain ⟨v1, v2⟩ := List.getElem?_eq_some_iff.1 hx
        obtain ⟨p, hpp⟩ : ∃ p, d[m - 1]? = some p := ⟨_, List.getElem?_eq_getElem (by omega)⟩
        obtain ⟨w1, w2⟩ := List.getElem?_eq_some_iff.1 hpp
        have hne : p ≠ z := fun e => hp ⟨by omega, by rw [hpp, e]⟩
        have e2 : ltD z p = false := by
          have := List.pairwise_iff_getElem.1 hs (m - 1) m w1 v1 (by omega)
          rw [w2, v2] at this; exact this
        have e3 : ltD p z = true := by
          cases h : ltD p z with
          | true => rfl
          | false => exact absurd (ltD_tri h e2) hne
        by_cases him : i = m - 1
        · have : y = p := by subst him; rw [hyi] at hpp; injection hpp
          rw [this]; exact e3
        · have e4 : ltD p y = false := by
            have := List.pairwise_iff_getElem.1 hs i (m - 1) u1 w1 (by omega)
            rw [u2, w2] at this; exact this
          cases h : ltD y z with
          | true => rfl
          | false =>
            cases h5 : ltD z y with
            | true => have := ltD_trans e3 h5; rw [e4] at this; cases this
            | false =>
              have := ltD_tri h h5
              subst this
              rw [e3] at e4; cases e4
      · rw [List.mem_append, h2, List.mem_singleton]
        constructor
        · rintro (⟨i, hi, h⟩ | h)
          · exact ⟨i, by omega, h⟩
          · exact ⟨m, by omega, by rw [h]; exact hx⟩
        · rintro ⟨i, hi, h⟩
          by_cases e : i < m
          · exact .inl ⟨i, e, h⟩
          · have : i = m := by omega
            rw [this, hx] at h
            injection h with h
            exact .inr h.symm
theorem ddD_spec (d : List Dt) (hs : d.Pairwise fun x y => ltD y x = false) : (ddD d).Pairwise (fun x y => ltD x y = true) ∧ ∀ x, x ∈ ddD d ↔ x ∈ d := by
  obtain ⟨h1, h2⟩ := ddT_spec d hs d.length (Nat.le_refl _)
  refine ⟨h1, fun x => ?_⟩
  unfold ddD
  rw [h2, List.mem_iff_getElem?]
  exact ⟨fun ⟨i, _, h⟩ => ⟨i, h⟩, fun ⟨i, h⟩ => ⟨i, (List.getElem?_eq_some_iff.1 h).1, h⟩⟩
/-- The row while what is kept moves to the front. -/
structure CpI (d : List Dt) (k m i : Nat) (R : List (List AV)) : Prop where
  len : R.length = d.length
  m1 : 1 ≤ m
  km : k + m ≤ d.length
  il : i = (ddT d (k + m)).length
  lt : i + 1 ≤ k + m
  kept : R.take i = dR (ddT d (k + m))
  rest : ∀ j, k + m - 1 ≤ j → R[j]? = (dR d)[j]?
theorem CpI.start {d : List Dt} {k : Nat} (hk : 1 ≤ k) (hkl : k < d.length) (hd : ddT d k = d.take k) {x : Dt} (h1 : d[k]? = some x) (h2 : d[k - 1]? = some x) : CpI d k 1 k (dR d) := by
  have hs := ddT_skip h1 (by omega) h2
  refine ⟨dR_len d, Nat.le_refl _, by omega, by rw [hs, hd, List.length_take]; omega, Nat.le_refl _, ?_, fun j _ => rfl⟩
  rw [hs, hd]
  unfold dR
  rw [List.map_take]
theorem CpI.skip {d : List Dt} {k m i : Nat} {R : List (List AV)} (h : CpI d k m i R) {x : Dt} (hx : d[k + m]? = some x) (hp : d[k + m - 1]? = some x) : CpI d k (m + 1) i R := by
  have hlt := (List.getElem?_eq_some_iff.1 hx).1
  have hs := ddT_skip hx (by have := h.m1; omega) hp
  refine ⟨h.len, by omega, by omega, ?_, by have := h.lt; omega, ?_, fun j hj => h.rest j (by omega)⟩
  · rw [show k + (m + 1) = k + m + 1 by omega, hs]; exact h.il
  · rw [show k + (m + 1) = k + m + 1 by omega, hs]; exact h.kept
theorem CpI.keep {d : List Dt} {k m i : Nat} {R : List (List AV)} (h : CpI d k m i R) {x : Dt} (hx : d[k + m]? = some x) (hp : ¬ d[k + m - 1]? = some x) : CpI d k (m + 1) (i + 1) (R.set i [aI x.R, aI x.N]) := by
  have hlt := (List.getElem?_eq_some_iff.1 hx).1
  have hs := ddT_keep hx (.inl hp)
  have hil := h.lt
  have hl := h.len
  refine ⟨by rw [List.length_set]; exact h.len, by omega, by omega, ?_, by omega, ?_, fun j hj => ?_⟩
  · rw [show k + (m + 1) = k + m + 1 by omega, hs, List.length_append, List.length_singleton, ← h.il]
  · rw [show k + (m + 1) = k + m + 1 by omega, hs, List.take_add_one, List.take_set_of_le (Nat.le_refl _), h.kept, List.getElem?_set_self (by omega)]
    simp [dR]
  · rw [List.getElem?_set_ne (by omega)]; exact h.rest j (by omega)
theorem CpI.row {d : List Dt} {k m i : Nat} {R : List (List AV)} (h : CpI d k m i R) {j : Nat} (hj : k + m - 1 ≤ j) {x : Dt} (hx : d[j]? = some x) : R[j]? = some [aI x.R, aI x.N] := by
  rw [h.rest j hj]; exact dR_get hx
abbrev cpO (k' : Int) (R : List (List AV)) : St := { slots := [(3, aI k'), (2, .v (.slice none 0 0)), (0, .own 0 0)], obs := [(0, .row 29 2 R 0 0)], ctr := 1, par := 1 }
abbrev cpI (k : Nat) (m' i' : Int) (R : List (List AV)) : St := { slots := [(5, aI m'), (4, .osl 0 0 k), (3, aI i'), (2, .v (.slice none 0 0)), (0, .own 0 0)], obs := [(0, .row 29 2 R 0 0)], ctr := 1, par := 1 }
set_option maxHeartbeats 8000000 in
theorem compactD_ok (d : List Dt) (hl : d.length ≤ 1000000) (rows : List (List AV)) (hrows : rows = dR d) (out : List (List AV)) (hout : out = dR (ddD d)) : CSem Try.prog (.wr 58 [(0, .row 29 2 rows 0 0)] []) [.own 0 0] (.own 29 2 out []) := by
  refine of_textW gam_ok mixed { n := 61, keep := [59] } Try.func58 (by kernel_rfl) rfl rfl (by simp) (by decide) rfl fun F C D hF hC hD => ?_
  obtain ⟨n', hn'⟩ : ∃ n' : Int, F .len rows = n' := ⟨_, rfl⟩
  have en : n' = (d.length : Int) := by rw [← hn', lenF hF, hrows, dR_len]
  have t2 : F .cmp .lss n' 2 = decide (n' < 2) := lsF hF _ _
  by_cases h2 : d.length < 2
  · have t2 : F .cmp .lss n' 2 = true := by rw [t2]; exact decide_eq_true (by omega)
    have ho : rows = out := by
      rw [hrows, hout]
      congr 1
      match d, h2 with
      | [], _ => rfl
      | [x], _ => rfl
      | _ :: _ :: _, h => simp at h; omega
    subst ho
    clear hout
    cbv
    rw [hn']
    refine bT (t2) ?_
    cbv
    try simp
  · have t2 : F .cmp .lss n' 2 = false := by rw [t2]; exact decide_eq_false (by omega)
    have hd1 : ddT d 1 = d.take 1 := by
      cases d with
      | nil => simp at h2
      | cons x d => rfl
    cbv
    rw [hn']
    refine bF (t2) ?_
    cbv
    refine ⟨Nat × Int, fun x => cpO x.2 rows, fun x => x.2 = (x.1 : Int) ∧ 1 ≤ x.1 ∧ x.1 ≤ d.length ∧ ddT d x.1 = d.take x.1, fun x => d.length - x.1, ⟨(1, 1), ⟨rfl, Nat.le_refl _, (show 1 ≤ d.length by omega), hd1⟩, Le.trans le_fresh (le_of [] (by simp [St.fresh, freshObs, Ob.fresh, mapS, killR, relT, leSl, leOb, injK, memK, parK, noTup, lk, rn0, rnA, plain, aI]))⟩, fun x hx => ?_⟩
    obtain ⟨k, k'⟩ := x
    obtain ⟨ek, hk1, hkl, hdk⟩ := hx
    simp only at ek hk1 hkl hdk
    have en : n' = (d.length : Int) := en
    have tlI := ltF hF k d.length k' n' ek en
    obtain ⟨k2, hk2⟩ : ∃ i2, F .ar .add .i64 k' 1 = i2 := ⟨_, rfl⟩
    have ek2 : k2 = ((k + 1 : Nat) : Int) := hk2.symm.trans (incF hF ek (by omega))
    obtain ⟨km, hkm⟩ : ∃ i2, F .ar .sub .i64 k' 1 = i2 := ⟨_, rfl⟩
    have ekm : km = ((k - 1 : Nat) : Int) := by rw [← hkm, subI hF (by unfold I64; omega)]; omega
    by_cases hkd : k < d.length
    · have tl : F .cmp .lss k' n' = true := tlI.2 hkd
      obtain ⟨x, hx⟩ : ∃ s, d[k]? = some s := ⟨_, List.getElem?_eq_getElem hkd⟩
      obtain ⟨y, hy⟩ : ∃ s, d[k - 1]? = some s := ⟨_, List.getElem?_eq_getElem (by omega)⟩
      have hrx : rows[k]? = some [aI x.R, aI x.N] := by rw [hrows]; exact dR_get hx
      have hry : rows[k - 1]? = some [aI y.R, aI y.N] := by rw [hrows]; exact dR_get hy
      have hmu : d.length - (k + 1) < d.length - k := by omega
      by_cases hxy : x = y
      · have heq := hC _ _ _ (dtEq x y true (by simp [hxy]))
        have hst : CpI d k 1 k rows := by rw [hrows]; exact CpI.start hk1 hkd hdk hx (by rw [hy, hxy])
        have hle : (k : Int) ≤ F .len rows := by rw [hn', en]; omega
        clear hd1 hdk hrows
        cbv
        rw [hn']
        refine bT (tl) ?_
        cbv
        refine ⟨hC _ _ _ (ben_ok (by kernel_rfl)), ?_⟩
        cbv
        refine ⟨k, _, ek, hrx, ?_⟩
        cbv
        refine ⟨k - 1, _, hkm.trans ekm, hry, ?_⟩
        cbv
        refine ⟨_, heq, ?_⟩
        cbv
        refine bT (rfl) ?_
        cbv
        refine ⟨k, by show some (AV.v (Value.int .i64 k')) = _; rw [ek], hle, ?_⟩
        cbv
        clear heq tl tlI hle hrx hry hx hy hxy ekm hkm hmu ek2 hk2
        refine ⟨Nat × Nat × Int × Int × List (List AV), fun x => cpI k x.2.2.1 x.2.2.2.1 x.2.2.2.2, fun x => x.2.2.1 = (x.1 : Int) ∧ x.2.2.2.1 = (x.2.1 : Int) ∧ CpI d k x.1 x.2.1 x.2.2.2.2, fun x => d.length - (k + x.1), ⟨(1, k, 1, k', rows), ⟨rfl, ek, hst⟩, Le.trans le_fresh2 (le_sub (by simp [eqSl, St.fresh2, mapS, killR2, relT2, lk]))⟩, fun x hx => ?_⟩
        obtain ⟨m, i, m', i', R⟩ := x
        obtain ⟨em, ei, hI⟩ := hx
        simp only at em ei hI
        have hm1 := hI.m1
        have hkm := hI.km
        have hil := hI.lt
        have hRl := hI.len
        obtain ⟨q', hq'⟩ : ∃ q' : Int, F .len (R.drop k) = q' := ⟨_, rfl⟩
        have eq' : q' = ((d.length - k : Nat) : Int) := by rw [← hq', lenF hF, List.length_drop, hI.len]
        have tlI := ltF hF m (d.length - k) m' q' em eq'
        obtain ⟨m2, hm2⟩ : ∃ i2, F .ar .add .i64 m' 1 = i2 := ⟨_, rfl⟩
        have em2 : m2 = ((m + 1 : Nat) : Int) := hm2.symm.trans (incF hF em (by omega))
        obtain ⟨i2, hi2⟩ : ∃ i2, F .ar .add .i64 i' 1 = i2 := ⟨_, rfl⟩
        have ei2 : i2 = ((i + 1 : Nat) : Int) := hi2.symm.trans (incF hF ei (by omega))
        obtain ⟨mm, hmm⟩ : ∃ i2, F .ar .sub .i64 m' 1 = i2 := ⟨_, rfl⟩
        have emm : mm = ((m - 1 : Nat) : Int) := by rw [← hmm, subI hF (by unfold I64; omega)]; omega
        by_cases hmd : k + m < d.length
        · have tl : F .cmp .lss m' q' = true := tlI.2 (by omega)
          obtain ⟨x, hx⟩ : ∃ s, d[k + m]? = some s := ⟨_, List.getElem?_eq_getElem hmd⟩
          obtain ⟨y, hy⟩ : ∃ s, d[k + m - 1]? = some s := ⟨_, List.getElem?_eq_getElem (by omega)⟩
          have hrx := hI.row (by omega) hx
          have hry : R[k + (m - 1)]? = some [aI y.R, aI y.N] := by rw [show k + (m - 1) = k + m - 1 by omega]; exact hI.row (Nat.le_refl _) hy
          have hmu : d.length - (k + (m + 1)) < d.length - (k + m) := by omega
          have tb1 : F .bnot true = false := by rw [bnotF hF]; rfl
          have tb2 : F .bnot false = true := by rw [bnotF hF]; rfl
          by_cases hxy : x = y
          · have heq := hC _ _ _ (dtEq x y true (by simp [hxy]))
            have hI2 := hI.skip hx (by rw [hy, hxy])
            clear hI tlI hx hy hst hout
            cbv
            rw [hq']
            refine bT (tl) ?_
            cbv
            refine ⟨hC _ _ _ (ben_ok (by kernel_rfl)), ?_⟩
            cbv
            refine ⟨m, _, em, hrx, ?_⟩
            cbv
            refine ⟨m - 1, _, hmm.trans emm, hry, ?_⟩
            cbv
            refine ⟨_, heq, ?_⟩
            cbv
            refine bF (tb1) ?_
            cbv
            rw [hm2]
            exact ⟨(m + 1, i, m2, i', R), ⟨em2, ei, hI2⟩, hmu, Le.trans le_fresh2 (le_sub (by simp [eqSl, St.fresh2, mapS, killR2, relT2, lk]))⟩
          · have heq := hC _ _ _ (dtEq x y false (by simp [hxy]))
            obtain ⟨R2, hR2⟩ : ∃ R2, R2 = F .set R i [aI x.R, aI x.N] := ⟨_, rfl⟩
            have hI2 : CpI d k (m + 1) (i + 1) R2 := by rw [hR2, hF]; exact hI.keep hx (fun h => by rw [hy] at h; injection h with h; exact hxy h.symm)
            obtain ⟨ci, hci⟩ : ∃ ci, R[i]? = some ci := ⟨_, List.getElem?_eq_getElem (by omega)⟩
            clear hI tlI hx hy hst hout
            cbv
            rw [hq']
            refine bT (tl) ?_
            cbv
            refine ⟨hC _ _ _ (ben_ok (by kernel_rfl)), ?_⟩
            cbv
            refine ⟨m, _, em, hrx, ?_⟩
            cbv
            refine ⟨m - 1, _, hmm.trans emm, hry, ?_⟩
            cbv
            refine ⟨_, heq, ?_⟩
            cbv
            refine bT (tb2) ?_
            cbv
            refine ⟨m, _, em, hrx, ?_⟩
            cbv
            refine ⟨i, ci, ei, hci, ?_⟩
            cbv
            refine ⟨.mk rfl, ?_⟩
            cbv
            rw [hm2, hi2]
            rw [← hR2]
            exact ⟨(m + 1, i + 1, m2, i2, R2), ⟨em2, ei2, hI2⟩, hmu, Le.trans le_fresh2 (le_sub (by simp [eqSl, St.fresh2, mapS, killR2, relT2, lk]))⟩
        · have tl : F .cmp .lss m' q' = false := by cases h : F .cmp .lss m' q' with | true => exact absurd (tlI.1 h) (by omega) | false => rfl
          have hkm2 : k + m = d.length := by omega
          have hkept : R.take i = out := by rw [hI.kept, hkm2, hout]; rfl
          have hiR : i ≤ R.length := by omega
          have hz : (R.take i ++ List.replicate (R.length - i) [aI 0, aI 0]).length = R.length := by simp; omega
          obtain ⟨R2, hR2⟩ : ∃ R2, R2 = R.take i ++ List.replicate (R.length - i) [aI 0, aI 0] := ⟨_, rfl⟩
          have h1 : (i : Int) ≤ F .len R := by rw [lenF hF]; omega
          have h2 : (i : Int) ≤ F .len R2 := by rw [lenF hF, hR2, hz]; omega
          have h3 : out = R2.take i := by
            rw [hR2, List.take_append_of_le_length (by simp; omega), List.take_take, Nat.min_self, hkept]
          clear hI tlI hst hout hz
          cbv
          rw [hq']
          refine bF (tl) ?_
          cbv
          refine ⟨i, by show some (AV.v (Value.int .i64 i')) = _; rw [ei], h1, ?_⟩
          cbv
          refine ⟨R2, hR2, ?_⟩
          cbv
          refine ⟨i, out, ei, h2, h3, ?_⟩
          cbv
          trace_state
          try simp
      · have heq := hC _ _ _ (dtEq x y false (by simp [hxy]))
        have hdk2 : ddT d (k + 1) = d.take (k + 1) := by rw [ddT_keep hx (.inl fun h => by rw [hy] at h; injection h with h; exact hxy h.symm), hdk, List.take_add_one, hx]; rfl
        clear hd1 hdk hrows
        cbv
        rw [hn']
        refine bT (tl) ?_
        cbv
        refine ⟨hC _ _ _ (ben_ok (by kernel_rfl)), ?_⟩
        cbv
        refine ⟨k, _, ek, hrx, ?_⟩
        cbv
        refine ⟨k - 1, _, hkm.trans ekm, hry, ?_⟩
        cbv
        refine ⟨_, heq, ?_⟩
        cbv
        refine bF (rfl) ?_
        cbv
        rw [hk2]
        exact ⟨(k + 1, k2), ⟨ek2, by omega, hkd, hdk2⟩, hmu, Le.trans le_fresh (le_of [] (by simp [St.fresh, freshObs, Ob.fresh, mapS, killR, relT, leSl, leOb, injK, memK, parK, noTup, lk, rn0, rnA, plain]))⟩
    · have tl : F .cmp .lss k' n' = false := by cases h : F .cmp .lss k' n' with | true => exact absurd (tlI.1 h) hkd | false => rfl
      have ho : rows = out := by
        have hkl2 : k = d.length := by omega
        rw [hkl2, List.take_length] at hdk
        rw [hrows, hout]
        unfold ddD
        rw [hdk]
      subst ho
      clear hout hd1 hdk
      cbv
      rw [hn']
      refine bF (tl) ?_
      cbv
      try simp
end Go.Proofs.Ytdmdahnnfancpaa
