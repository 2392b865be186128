import Derived.Test.YtdmdahnnfancpaaJ5
set_option linter.unusedSimpArgs false
set_option linter.unusedVariables false
namespace Go.Proofs.Ytdmdahnnfancpaa
open Go Go.RowKit Am

/-! ### The reference's Bag -/
theorem srep_rows {w : World} {S : Nat → Prop} {β : Nat → Value} {obs obs' : Obs} {x : AV} {y : Value} (h : ∀ j e sz rows v m, lk j obs' = some (.row e sz rows v m) → lk j obs = some (.row e sz rows v m)) (hm : ∀ j ks vs, lk j obs' = some (.mp ks vs) → lk j obs = some (.mp ks vs)) (hx : SRep w S β obs x y) : SRep w S β obs' x y := by
  have h0 : ∀ (x : AV) (y : Value), SRep0 w S β obs x y → SRep0 w S β obs' x y := fun x y hx => by
    cases x <;> try exact hx
    · exact fun e sz rows m h' => hx e sz rows m (h _ _ _ _ _ _ h')
    · exact fun e sz rows m h' => hx e sz rows m (h _ _ _ _ _ _ h')
    · exact fun e sz rows m h' => hx e sz rows m (h _ _ _ _ _ _ h')
    · exact fun ks vs h' => hx ks vs (hm _ _ _ h')
  have hh : ∀ (o : Obs) (x : AV), (∀ vs, x ≠ .tup vs) → SRep w S β o x y = SRep0 w S β o x y := fun o x hx => by cases x <;> first | rfl | exact absurd rfl (hx _)
  by_cases ht : ∃ vs, x = .tup vs
  · obtain ⟨vs, rfl⟩ := ht
    obtain ⟨ys, h1, h2, h3⟩ := hx
    exact ⟨ys, h1, h2, fun i u x hu hx => h0 _ _ (h3 i u x hu hx)⟩
  · have hn : ∀ vs, x ≠ .tup vs := fun vs e => ht ⟨vs, e⟩
    rw [hh _ _ hn] at hx ⊢
    exact h0 _ _ hx
/-- A box's cells, said otherwise. -/
theorem le_box (k ty : Nat) (cs cs' : List AV) {s : St} (hk : lk k s.obs = some (.box ty cs false)) (h : ∀ w S xs, RepL w S cs xs → RepL w S cs' xs) :
    Le s { slots := s.slots, obs := (k, .box ty cs' false) :: del k s.obs, ctr := s.ctr, par := s.par } := by
  rintro W0 S0 n a w ⟨S, β, hr⟩
  have hold : ∀ j o, lk j ((k, Ob.box ty cs' false) :: del k s.obs) = some o → (j = k ∧ o = .box ty cs' false) ∨ (j ≠ k ∧ lk j s.obs = some o) := fun j o hj => by
    simp only [lk] at hj
    split at hj
    · rename_i e; injection hj with hj; exact .inl ⟨e.symm, hj.symm⟩
    · rename_i e; rw [lk_del, if_neg (fun e2 => e e2.symm)] at hj; exact .inr ⟨fun e2 => e e2.symm, hj⟩
  have hex : ∀ j o, lk j ((k, Ob.box ty cs' false) :: del k s.obs) = some o → ∃ o2, lk j s.obs = some o2 := fun j o hj => by
    rcases hold j o hj with ⟨e, _⟩ | ⟨_, e⟩
    · subst e; exact ⟨_, hk⟩
    · exact ⟨_, e⟩
  refine ⟨S, β, hr.gr, hr.par, hr.defers, hr.size, fun t x hx => ?_, fun j o hj => ?_, fun j o g hj hg => ?_, fun j j' o o' hj hj' hne g hg hg' => ?_, fun j o hj => ?_, hr.parc, fun j o hp hj => ?_⟩
  · obtain ⟨h1, h2⟩ := hr.slots t x hx
    refine ⟨h1, srep_rows (fun j e sz rows v m hj => ?_) (fun j ks vs hj => ?_) h2⟩
    · rcases hold j _ hj with ⟨_, e⟩ | ⟨_, e⟩
      · cases e
      · exact e
    · rcases hold j _ hj with ⟨_, e⟩ | ⟨_, e⟩
      · cases e
      · exact e
  · rcases hold j o hj with ⟨e1, e2⟩ | ⟨_, e⟩
    · subst e1 e2
      obtain ⟨g, xs, h1, h2, h3, h4, h5⟩ := hr.objs j _ hk
      exact ⟨g, xs, h1, h2, h3, h4, h w S xs h5⟩
    · exact hr.objs j o e
  · obtain ⟨o2, h2⟩ := hex j o hj; exact hr.up j o2 g h2 hg
  · obtain ⟨o2, h2⟩ := hex j o hj
    obtain ⟨o3, h3⟩ := hex j' o' hj'
    exact hr.sep j j' o2 o3 h2 h3 hne g hg hg'
  · obtain ⟨o2, h2⟩ := hex j o hj; exact hr.ctr j o2 h2
  · obtain ⟨o2, h2⟩ := hex j o hj; exact hr.fix j o2 hp h2
theorem beforeD_ok (a b : Dt) (r : Bool) (hr : r = ltD a b) : CSem Try.prog (.fn 74) [.agg [aI a.R, aI a.N], .agg [aI b.R, aI b.N]] (.pure [aB r]) := by
  refine of_text gam_ok mixed { n := 24 } Try.func74 (by kernel_rfl) rfl rfl (by simp) (by decide) fun F C D hF hC hD => ?_
  have t1 : F .cmp .lss a.R b.R = decide (a.R < b.R) := lsF hF _ _
  have t2 : F .cmp .eql a.R b.R = decide (a.R = b.R) := eqF hF _ _
  have t3 : F .cmp .lss a.N b.N = decide (a.N < b.N) := lsF hF _ _
  have hi := ltD_iff a b
  rw [← hr] at hi
  clear hr
  by_cases h1 : a.R < b.R
  · have t1 : F .cmp .lss a.R b.R = true := by rw [t1]; exact decide_eq_true h1
    have hr : r = true := hi.2 (.inl h1)
    clear hi
    subst hr
    cbv
    refine cT (t1) ?_
    cbv
    try simp
  · have t1 : F .cmp .lss a.R b.R = false := by rw [t1]; exact decide_eq_false h1
    by_cases h2 : a.R = b.R
    · have t2 : F .cmp .eql a.R b.R = true := by rw [t2]; exact decide_eq_true h2
      have t3 : F .cmp .lss a.N b.N = r := by
        rw [t3]
        cases r with
        | true => rcases hi.1 rfl with h | ⟨_, h⟩
                  · exact absurd h h1
                  · exact decide_eq_true h
        | false => exact decide_eq_false fun h => by have := hi.2 (.inr ⟨h2, h⟩); cases this
      clear hi
      cbv
      refine cF (t1) ?_
      cbv
      refine bT (t2) ?_
      cbv
      have t3 : F .cmp .lss a.2 b.2 = r := t3
      rw [t3]
      try simp
    · have t2 : F .cmp .eql a.R b.R = false := by rw [t2]; exact decide_eq_false h2
      have hr : r = false := by
        cases r with
        | false => rfl
        | true => rcases hi.1 rfl with h | ⟨h, _⟩
                  · exact absurd h h1
                  · exact absurd h h2
      clear hi
      subst hr
      cbv
      refine cF (t1) ?_
      cbv
      refine bF (t2) ?_
      cbv
      try simp
def iR (l : List Dt) : List (List AV) := l.map fun p => [aI p.R, aI p.N, aI 0]
theorem iR_len (l : List Dt) : (iR l).length = l.length := by simp [iR]
theorem iR_get {l : List Dt} {i : Nat} {p : Dt} (h : l[i]? = some p) : (iR l)[i]? = some [aI p.R, aI p.N, aI 0] := by simp [iR, h]
theorem iR_snoc (o : List Dt) (p : Dt) : iR (o ++ [p]) = iR o ++ [[aI p.R, aI p.N, aI 0]] := by simp [iR]
def rmD (l : List Dt) (d : Dt) : List Dt := l.filter fun x => decide (x ≠ d)
set_option maxHeartbeats 4000000 in
theorem remove_ok (l : List Dt) (hl : l.length ≤ 1000000) (d : Dt) (rows : List (List AV)) (hrows : rows = iR l) (out : List (List AV)) (hout : out = iR (rmD l d)) : ∃ r : Bool, CSem Try.prog (.wr 73 [(0, .box 93 [.sl rows] false)] [(0, .box 93 [.sl out] false)]) [.ptr 0 0, .agg [aI d.R, aI d.N]] (.pure [aB r]) := by
  refine ⟨decide (((rmD l d).length : Int) < (l.length : Int)), ?_⟩
  refine of_textW gam_ok mixed { n := 50, keep := [35] } Try.func73 (by kernel_rfl) rfl rfl (by simp) (by decide) rfl fun F C D hF hC hD => ?_
  obtain ⟨n', hn'⟩ : ∃ n' : Int, F .len rows = n' := ⟨_, rfl⟩
  have en : n' = (l.length : Int) := by rw [← hn', lenF hF, hrows, iR_len]
  obtain ⟨r, hr⟩ : ∃ r, r = decide (((rmD l d).length : Int) < (l.length : Int)) := ⟨_, rfl⟩
  rw [← hr]
  cbv
  rw [hn']
  refine ⟨Nat × Int × List (List AV), fun x => { slots := [(13, aI x.2.1), (12, aI n'), (5, .own 2 0), (4, aB false), (3, .ept [aI d.R, aI d.N] 0), (0, .ptr 0 0)], obs := [(2, .row 96 3 x.2.2 0 0), (0, .box 93 [.sl rows] false)], ctr := 3, par := 2 }, fun x => x.2.1 = (x.1 : Int) ∧ x.1 ≤ l.length ∧ x.2.2 = iR (rmD (l.take x.1) d), fun x => l.length - x.1, ⟨(0, 0, []), ⟨rfl, Nat.zero_le _, rfl⟩, Le.trans (le_nil 5 96 3 (by rfl) (by rfl)) (le_of [] (by simp [leSl, leOb, injK, memK, parK, noTup, lk, rn0, rnA, plain] <;> first | rfl | decide))⟩, fun x hx => ?_⟩
  obtain ⟨i, i', ow⟩ := x
  obtain ⟨ei, hi, how⟩ := hx
  simp only at ei hi how
  have en : n' = (l.length : Int) := en
  have tlI := ltF hF i l.length i' n' ei en
  obtain ⟨i2, hi2⟩ : ∃ i2, F .ar .add .i64 i' 1 = i2 := ⟨_, rfl⟩
  have ei2 : i2 = ((i + 1 : Nat) : Int) := hi2.symm.trans (incF hF ei (by omega))
  by_cases hil : i < l.length
  · have tl : F .cmp .lss i' n' = true := tlI.2 hil
    obtain ⟨x, hx⟩ : ∃ s, l[i]? = some s := ⟨_, List.getElem?_eq_getElem hil⟩
    have hrow : rows[i]? = some [aI x.R, aI x.N, aI 0] := by rw [hrows]; exact iR_get hx
    have hmu : l.length - (i + 1) < l.length - i := by omega
    have hlo : (rmD (l.take i) d).length ≤ 1000000 := Nat.le_trans (List.length_filter_le _ _) (by rw [List.length_take]; omega)
    have tb1 : F .bnot true = false := by rw [bnotF hF]; rfl
    have tb2 : F .bnot false = true := by rw [bnotF hF]; rfl
    by_cases hxd : x = d
    · have heq := hC _ _ _ (dtEq x d true (by simp [hxd]))
      have how2 : ow = iR (rmD (l.take (i + 1)) d) := by rw [how]; unfold rmD; rw [List.take_add_one, hx, List.filter_append]; simp [hxd]
      clear how hlo hout hr tlI
      cbv
      refine bT (tl) ?_
      cbv
      refine ⟨hC _ _ _ (ben_ok (by kernel_rfl)), ?_⟩
      cbv
      refine ⟨i, _, ei, hrow, rfl, ?_⟩
      cbv
      refine ⟨_, heq, ?_⟩
      cbv
      refine bF (tb1) ?_
      cbv
      rw [hi2]
      exact ⟨(i + 1, i2, ow), ⟨ei2, hil, how2⟩, hmu, (le_of [] (by simp [leSl, leOb, injK, memK, parK, noTup, lk, rn0, rnA, plain] <;> first | rfl | decide))⟩
    · have heq := hC _ _ _ (dtEq x d false (by simp [hxd]))
      obtain ⟨o2, ho2⟩ : ∃ y, y = F .app ow [[aI x.R, aI x.N, aI 0]] := ⟨_, rfl⟩
      have how2 : o2 = iR (rmD (l.take (i + 1)) d) := by
        rw [ho2, how, hF]
        unfold rmD
        rw [List.take_add_one, hx, List.filter_append]
        show iR _ ++ _ = _
        rw [← iR_snoc]
        simp [hxd]
      have hrm : (F .len ow + F .len [[aI x.R, aI x.N, aI 0]]) * 24 ≤ 140737488355328 := by rw [lenF hF, lenF hF, how, iR_len]; simp only [List.length_singleton]; omega
      have hel : ∀ r ∈ [[aI x.R, aI x.N, aI 0]], r.length = 3 := fun r h => by rw [List.mem_singleton.1 h]; rfl
      clear how hlo hout hr tlI
      cbv
      refine bT (tl) ?_
      cbv
      refine ⟨hC _ _ _ (ben_ok (by kernel_rfl)), ?_⟩
      cbv
      refine ⟨i, _, ei, hrow, rfl, ?_⟩
      cbv
      refine ⟨_, heq, ?_⟩
      cbv
      refine bT (tb2) ?_
      cbv
      refine ⟨i, _, ei, hrow, rfl, ?_⟩
      cbv
      refine ⟨hel, hrm, ?_⟩
      cbv
      rw [hi2]
      exact ⟨(i + 1, i2, o2), ⟨ei2, hil, how2⟩, hmu, le_of [(2, 3)] (by simp [leSl, leOb, injK, memK, parK, noTup, lk, rn0, rnA, plain]; repeat (first | exact ho2.symm | refine And.intro ?_ ?_ | rfl | trivial))⟩
  · have tl : F .cmp .lss i' n' = false := by cases h : F .cmp .lss i' n' with | true => exact absurd (tlI.1 h) hil | false => rfl
    rw [List.take_of_length_le (by omega), ← hout] at how
    subst how
    obtain ⟨m', hm'⟩ : ∃ n' : Int, F .len ow = n' := ⟨_, rfl⟩
    have em : m' = ((rmD l d).length : Int) := by rw [← hm', lenF hF, hout, iR_len]
    have tr : F .cmp .lss m' n' = r := by rw [lsF hF, hr, em, en]
    clear hout hr tlI em
    cbv
    refine bF (tl) ?_
    cbv
    rw [hm', hn', tr]
    try simp
/-! A dot put into a list that rises. -/
def pS (k : Dt) (l : List Dt) : Bool × List Dt := l.foldl (fun a x => if (!a.1 && ltD k x) = true then (true, a.2 ++ [k] ++ [x]) else (a.1, a.2 ++ [x])) (false, [])
theorem pS_snoc (k : Dt) (l : List Dt) (x : Dt) : pS k (l ++ [x]) = if (!(pS k l).1 && ltD k x) = true then (true, (pS k l).2 ++ [k] ++ [x]) else ((pS k l).1, (pS k l).2 ++ [x]) := by
  unfold pS; rw [List.foldl_append]; rfl
def pEnd (k : Dt) (l : List Dt) : List Dt := if (pS k l).1 = true then (pS k l).2 else (pS k l).2 ++ [k]
theorem pS_len (k : Dt) : ∀ n (l : List Dt), l.length = n → (pS k l).2.length ≤ l.length + 1 ∧ ((pS k l).1 = false → (pS k l).2.length = l.length) := by
  intro n
  induction n with
  | zero => intro l h; rw [List.eq_nil_of_length_eq_zero h]; simp [pS]
  | succ n ih =>
    intro l h
    have hne : l ≠ [] := fun e => by rw [e] at h; simp at h
    obtain ⟨l', x, rfl⟩ : ∃ l' x, l = l' ++ [x] := ⟨l.dropLast, l.getLast hne, (List.dropLast_concat_getLast hne).symm⟩
    obtain ⟨h1, h2⟩ := ih l' (by simp at h; exact h)
    rw [pS_snoc]
    split
    · rename_i hc
      simp only [Bool.and_eq_true, Bool.not_eq_true'] at hc
      have := h2 hc.1
      simp; omega
    · simp only [List.length_append, List.length_singleton]
      refine ⟨by omega, fun h => by have := h2 h; omega⟩
theorem ltD_of_ne {x k : Dt} (h1 : ltD k x = false) (h2 : x ≠ k) : ltD x k = true := by
  cases h : ltD x k with
  | true => rfl
  | false => exact absurd (ltD_tri h h1) h2
theorem pS_ok (k : Dt) : ∀ n (l : List Dt), l.length = n → l.Pairwise (fun x y => ltD x y = true) → k ∉ l →
    ((pS k l).1 = false → (pS k l).2 = l ∧ ∀ x ∈ l, ltD x k = true) ∧ ((pS k l).1 = true → (pS k l).2.Pairwise (fun x y => ltD x y = true) ∧ (∀ x, x ∈ (pS k l).2 ↔ x = k ∨ x ∈ l) ∧ ∃ y ∈ l, ltD k y = true) := by
  intro n
  induction n with
  | zero => intro l h _ _; rw [List.eq_nil_of_length_eq_zero h]; simp [pS]
  | succ n ih =>
    intro l h hp hk
    have hne : l ≠ [] := fun e => by rw [e] at h; simp at h
    obtain ⟨l', x, rfl⟩ : ∃ l' x, l = l' ++ [x] := ⟨l.dropLast, l.getLast hne, (List.dropLast_concat_getLast hne).symm⟩
    obtain ⟨p1, p2, p3⟩ := List.pairwise_append.1 hp
    have hk' : k ∉ l' := fun h => hk (List.mem_append_left _ h)
    have hkx : x ≠ k := fun e => hk (by rw [e]; simp)
    obtain ⟨h1, h2⟩ := ih l' (by simp at h; exact h) p1 hk'
    rw [pS_snoc]
    cases hf : (pS k l').1 with
    | false =>
      obtain ⟨e1, e2⟩ := h1 hf
      cases hx : ltD k x with
      | true =>
        rw [if_pos (by simp)]
        refine ⟨fun h => by simp at h, fun _ => ⟨?_, fun z => ?_, x, by simp, hx⟩⟩
        · rw [e1]
          refine List.pairwise_append.2 ⟨List.pairwise_append.2 ⟨p1, by simp, fun a ha b hb => ?_⟩, by simp, fun a ha b hb => ?_⟩
          · rw [List.mem_singleton.1 hb]; exact e2 a ha
          · rw [List.mem_singleton.1 hb]
            rcases List.mem_append.1 ha with h | h
            · exact p3 a h x (by simp)
            · rw [List.mem_singleton.1 h]; exact hx
        · rw [e1]; simp only [List.mem_append, List.mem_singleton]
          constructor
          · rintro ((h | h) | h)
            · exact .inr (.inl h)
            · exact .inl h
            · exact .inr (.inr h)
          · rintro (h | h | h)
            · exact .inl (.inr h)
            · exact .inl (.inl h)
            · exact .inr h
      | false =>
        rw [if_neg (by simp)]
        refine ⟨fun _ => ⟨by rw [e1], fun z hz => ?_⟩, fun h => by simp at h⟩
        rcases List.mem_append.1 hz with h | h
        · exact e2 z h
        · rw [List.mem_singleton.1 h]; exact ltD_of_ne hx hkx
    | true =>
      obtain ⟨q1, q2, y, hy, hky⟩ := h2 hf
      rw [if_neg (by simp)]
      refine ⟨fun h => by simp at h, fun _ => ⟨?_, fun z => ?_, y, List.mem_append_left _ hy, hky⟩⟩
      · refine List.pairwise_append.2 ⟨q1, by simp, fun a ha b hb => ?_⟩
        rw [List.mem_singleton.1 hb]
        rcases (q2 a).1 ha with h | h
        · rw [h]; exact ltD_trans hky (p3 y hy x (by simp))
        · exact p3 a h x (by simp)
      · simp only [List.mem_append, List.mem_singleton, q2]
        constructor
        · rintro ((h | h) | h)
          · exact .inl h
          · exact .inr (.inl h)
          · exact .inr (.inr h)
        · rintro (h | h | h)
          · exact .inl (.inl h)
          · exact .inl (.inr h)
          · exact .inr h
def putD (l : List Dt) (d : Dt) : List Dt := pEnd d (rmD l d)
theorem putD_ok {l : List Dt} (d : Dt) (hp : l.Pairwise fun x y => ltD x y = true) : (putD l d).Pairwise (fun x y => ltD x y = true) ∧ ∀ x, x ∈ putD l d ↔ x = d ∨ x ∈ l := by
  have h1 : (rmD l d).Pairwise fun x y => ltD x y = true := hp.sublist List.filter_sublist
  have hm : ∀ x, x ∈ rmD l d ↔ x ∈ l ∧ x ≠ d := fun x => by unfold rmD; simp [List.mem_filter]
  have h2 : d ∉ rmD l d := fun h => ((hm d).1 h).2 rfl
  obtain ⟨a1, a2⟩ := pS_ok d _ _ rfl h1 h2
  have fin : ∀ x, (x = d ∨ x ∈ rmD l d) ↔ (x = d ∨ x ∈ l) := fun x => by
    rw [hm]
    constructor
    · rintro (h | h)
      · exact .inl h
      · exact .inr h.1
    · rintro (h | h)
      · exact .inl h
      · by_cases hx : x = d
        · exact .inl hx
        · exact .inr ⟨h, hx⟩
  unfold putD pEnd
  cases hf : (pS d (rmD l d)).1 with
  | true =>
    obtain ⟨q1, q2, _⟩ := a2 hf
    rw [if_pos rfl]
    exact ⟨q1, fun x => by rw [q2]; exact fin x⟩
  | false =>
    obtain ⟨e1, e2⟩ := a1 hf
    rw [if_neg (by simp), e1]
    refine ⟨List.pairwise_append.2 ⟨h1, by simp, fun a ha b hb => by rw [List.mem_singleton.1 hb]; exact e2 a ha⟩, fun x => ?_⟩
    rw [List.mem_append, List.mem_singleton, or_comm]
    exact fin x
theorem putD_len (l : List Dt) (d : Dt) : (putD l d).length ≤ l.length + 1 := by
  have h1 := pS_len d _ (rmD l d) rfl
  have h2 : (rmD l d).length ≤ l.length := List.length_filter_le _ _
  unfold putD pEnd
  cases hf : (pS d (rmD l d)).1 with
  | true => rw [if_pos rfl]; omega
  | false => rw [if_neg (by simp), List.length_append, h1.2 hf, List.length_singleton]; omega
set_option maxHeartbeats 8000000 in
theorem put_ok (l : List Dt) (hl : l.length ≤ 1000) (d : Dt) (rows : List (List AV)) (hrows : rows = iR l) (out : List (List AV)) (hout : out = iR (putD l d)) : CSem Try.prog (.wr 59 [(0, .box 93 [.sl rows] false)] [(0, .box 93 [.sl out] false)]) [.ptr 0 0, .agg [aI d.R, aI d.N], aI 0] (.pure []) := by
  refine of_textW gam_ok mixed { n := 63, keep := [39, 49, 58], wrs := [73] } Try.func59 (by kernel_rfl) rfl rfl (by simp) (by decide) rfl fun F C D hF hC hD => ?_
  obtain ⟨R1, hR1⟩ : ∃ r, r = iR (rmD l d) := ⟨_, rfl⟩
  obtain ⟨rb, hrem⟩ := remove_ok l (by omega) d rows hrows R1 hR1
  have hrem := hC _ _ _ hrem
  obtain ⟨M, hM⟩ : ∃ M, M = rmD l d := ⟨_, rfl⟩
  have hMl : M.length ≤ 1000 := by rw [hM]; exact Nat.le_trans (List.length_filter_le _ _) hl
  unfold putD at hout
  rw [← hM] at hR1 hout
  obtain ⟨n', hn'⟩ : ∃ n' : Int, F .len R1 = n' := ⟨_, rfl⟩
  have en : n' = (M.length : Int) := by rw [← hn', lenF hF, hR1, iR_len]
  have tn : F .bnot true = false := by rw [bnotF hF]; rfl
  have tn2 : F .bnot false = true := by rw [bnotF hF]; rfl
  clear hM
  cbv
  refine ⟨_, _, hrem, ?_⟩
  cbv
  rw [hn']
  refine ⟨Nat × Int × Bool × List (List AV), fun x => { slots := [(17, aI x.2.1), (16, aI n'), (7, aB x.2.2.1), (6, .own 3 0), (4, .ept [aI d.R, aI d.N] 0), (2, aI 0), (0, .ptr 0 0)], obs := [(3, .row 96 3 x.2.2.2 0 0), (0, .box 93 [.sl R1] false)], ctr := 4, par := 3 }, fun x => x.2.1 = (x.1 : Int) ∧ x.1 ≤ M.length ∧ x.2.2.1 = (pS d (M.take x.1)).1 ∧ x.2.2.2 = iR (pS d (M.take x.1)).2, fun x => M.length - x.1, ⟨(0, 0, false, []), ⟨rfl, Nat.zero_le _, rfl, rfl⟩, Le.trans (le_nil 6 96 3 (by rfl) (by rfl)) (le_of [] (by simp [leSl, leOb, injK, memK, parK, noTup, lk, rn0, rnA, plain] <;> first | rfl | decide))⟩, fun x hx => ?_⟩
  obtain ⟨i, i', f, ow⟩ := x
  obtain ⟨ei, hi, hf, how⟩ := hx
  simp only at ei hi hf how
  have en : n' = (M.length : Int) := en
  have tlI := ltF hF i M.length i' n' ei en
  obtain ⟨i2, hi2⟩ : ∃ i2, F .ar .add .i64 i' 1 = i2 := ⟨_, rfl⟩
  have ei2 : i2 = ((i + 1 : Nat) : Int) := hi2.symm.trans (incF hF ei (by omega))
  have hpl := (pS_len d _ (M.take i) rfl).1
  rw [List.length_take] at hpl
  have hol : ow.length ≤ 1001 := by rw [how, iR_len]; omega
  have hek : ∀ r ∈ [[aI d.R, aI d.N, aI 0]], r.length = 3 := fun r h => by rw [List.mem_singleton.1 h]; rfl
  have bk : (F .len ow + F .len [[aI d.R, aI d.N, aI 0]]) * 24 ≤ 140737488355328 := by rw [lenF hF, lenF hF]; simp only [List.length_singleton]; omega
  by_cases hil : i < M.length
  · have tl : F .cmp .lss i' n' = true := tlI.2 hil
    obtain ⟨x, hx⟩ : ∃ s, M[i]? = some s := ⟨_, List.getElem?_eq_getElem hil⟩
    have hrow : R1[i]? = some [aI x.R, aI x.N, aI 0] := by rw [hR1]; exact iR_get hx
    have hmu : M.length - (i + 1) < M.length - i := by omega
    have htk : M.take (i + 1) = M.take i ++ [x] := by rw [List.take_add_one, hx]; rfl
    have hw := pS_snoc d (M.take i) x
    rw [← htk, ← hf] at hw
    obtain ⟨q, hq⟩ : ∃ q, q = ltD d x := ⟨_, rfl⟩
    have hbef := hC _ _ _ (beforeD_ok d x q hq)
    rw [← hq] at hw
    have hex : ∀ r ∈ [[aI x.R, aI x.N, aI 0]], r.length = 3 := fun r h => by rw [List.mem_singleton.1 h]; rfl
    have bx : (F .len ow + F .len [[aI x.R, aI x.N, aI 0]]) * 24 ≤ 140737488355328 := by rw [lenF hF, lenF hF]; simp only [List.length_singleton]; omega
    obtain ⟨o1, ho1⟩ : ∃ o, o = F .app ow [[aI x.R, aI x.N, aI 0]] := ⟨_, rfl⟩
    obtain ⟨o2, ho2⟩ : ∃ o, o = F .app ow [[aI d.R, aI d.N, aI 0]] := ⟨_, rfl⟩
    obtain ⟨o3, ho3⟩ : ∃ o, o = F .app o2 [[aI x.R, aI x.N, aI 0]] := ⟨_, rfl⟩
    have e1 : o1 = iR ((pS d (M.take i)).2 ++ [x]) := by rw [ho1, hF, how, iR_snoc]; rfl
    have e2 : o2 = iR ((pS d (M.take i)).2 ++ [d]) := by rw [ho2, hF, how, iR_snoc]; rfl
    have e3 : o3 = iR ((pS d (M.take i)).2 ++ [d] ++ [x]) := by rw [ho3, e2, hF, iR_snoc (_ ++ [d])]; rfl
    have b3 : (F .len o2 + F .len [[aI x.R, aI x.N, aI 0]]) * 24 ≤ 140737488355328 := by rw [lenF hF, lenF hF, e2, iR_len, List.length_append, List.length_singleton]; simp only [List.length_singleton]; omega
    cases f with
    | true =>
      rw [if_neg (by simp)] at hw
      have hf2 : true = (pS d (M.take (i + 1))).1 := by rw [hw]
      have how2 : o1 = iR (pS d (M.take (i + 1))).2 := by rw [hw]; exact e1
      clear hw how hf e1 e2 e3 ho2 ho3 b3 hbef hout tlI htk hR1
      cbv
      refine bT (tl) ?_
      cbv
      refine ⟨hC _ _ _ (ben_ok (by kernel_rfl)), ?_⟩
      cbv
      refine bF (tn) ?_
      cbv
      refine ⟨i, _, ei, hrow, rfl, ?_⟩
      cbv
      refine ⟨hex, bx, ?_⟩
      cbv
      rw [hi2]
      exact ⟨(i + 1, i2, true, o1), ⟨ei2, hil, hf2, how2⟩, hmu, le_of [(3, 4)] (by simp [leSl, leOb, injK, memK, parK, noTup, lk, rn0, rnA, plain]; repeat (first | exact ho1.symm | refine And.intro ?_ ?_ | rfl | trivial))⟩
    | false =>
      cases q with
      | true =>
        rw [if_pos (by simp)] at hw
        have hf2 : true = (pS d (M.take (i + 1))).1 := by rw [hw]
        have how2 : o3 = iR (pS d (M.take (i + 1))).2 := by rw [hw]; exact e3
        clear hw how hf e1 e2 e3 ho1 bx hout tlI htk hR1
        cbv
        refine bT (tl) ?_
        cbv
        refine ⟨hC _ _ _ (ben_ok (by kernel_rfl)), ?_⟩
        cbv
        refine bT (tn2) ?_
        cbv
        refine ⟨i, _, ei, hrow, rfl, ?_⟩
        cbv
        refine ⟨_, hbef, ?_⟩
        cbv
        refine bT (rfl) ?_
        cbv
        refine ⟨hek, bk, ?_⟩
        cbv
        rw [← ho2]
        refine ⟨i, _, ei, hrow, rfl, ?_⟩
        cbv
        refine ⟨hex, b3, ?_⟩
        cbv
        rw [hi2]
        exact ⟨(i + 1, i2, true, o3), ⟨ei2, hil, hf2, how2⟩, hmu, le_of [(3, 5)] (by simp [leSl, leOb, injK, memK, parK, noTup, lk, rn0, rnA, plain]; repeat (first | exact ho3.symm | refine And.intro ?_ ?_ | rfl | trivial))⟩
      | false =>
        rw [if_neg (by simp)] at hw
        have hf2 : false = (pS d (M.take (i + 1))).1 := by rw [hw]
        have how2 : o1 = iR (pS d (M.take (i + 1))).2 := by rw [hw]; exact e1
        clear hw how hf e1 e2 e3 ho2 ho3 b3 hout tlI htk hR1
        cbv
        refine bT (tl) ?_
        cbv
        refine ⟨hC _ _ _ (ben_ok (by kernel_rfl)), ?_⟩
        cbv
        refine bT (tn2) ?_
        cbv
        refine ⟨i, _, ei, hrow, rfl, ?_⟩
        cbv
        refine ⟨_, hbef, ?_⟩
        cbv
        refine bF (rfl) ?_
        cbv
        refine ⟨i, _, ei, hrow, rfl, ?_⟩
        cbv
        refine ⟨hex, bx, ?_⟩
        cbv
        rw [hi2]
        exact ⟨(i + 1, i2, false, o1), ⟨ei2, hil, hf2, how2⟩, hmu, le_of [(3, 4)] (by simp [leSl, leOb, injK, memK, parK, noTup, lk, rn0, rnA, plain]; repeat (first | exact ho1.symm | refine And.intro ?_ ?_ | rfl | trivial))⟩
  · have tl : F .cmp .lss i' n' = false := by cases h : F .cmp .lss i' n' with | true => exact absurd (tlI.1 h) hil | false => rfl
    rw [List.take_of_length_le (by omega)] at hf how
    unfold pEnd at hout
    rw [← hf] at hout
    cases f with
    | true =>
      rw [if_pos rfl, ← how] at hout
      subst hout
      clear how hf tlI hR1
      cbv
      refine bF (tl) ?_
      cbv
      refine bF (tn) ?_
      cbv
      trace_state
      try simp
    | false =>
      rw [if_neg (by simp)] at hout
      have ho : F .app ow [[aI d.R, aI d.N, aI 0]] = out := by rw [hout, hF, how, iR_snoc]; rfl
      clear how hf tlI hR1 hout
      cbv
      refine bF (tl) ?_
      cbv
      refine bT (tn2) ?_
      cbv
      refine ⟨hek, bk, ?_⟩
      cbv
      rw [ho]
      trace_state
      try simp
end Go.Proofs.Ytdmdahnnfancpaa
