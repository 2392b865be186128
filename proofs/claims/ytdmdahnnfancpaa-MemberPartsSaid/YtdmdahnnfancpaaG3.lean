import Derived.Test.YtdmdahnnfancpaaG6
set_option linter.unusedSimpArgs false
set_option linter.unusedVariables false
namespace Go.Proofs.Ytdmdahnnfancpaa
open Go Go.RowKit Am

variable {P : Program}
theorem of_textS (hΓ : TOKs P) (hm : P.follows .mixedOrders = true) (E : En) {f : Nat} {fn : Func} {c : Code} {args : List AV} {res : Res} (hf : P.funcs[f]? = some fn) (hname : (fn.name == "runtime.NumGoroutine") = false) (hb : fn.body = some c) (hn : fn.ntmps = E.n) (ha : args.length ≤ E.n) (h4 : fn.results.toList.length ≤ 4)
    (h : ∀ (F : Sy) (C : Key → List AV → Res → Prop) (D : Code → (AE → St → Prop) → St → Prop), F = sy → (∀ k ar r, CSem P k ar r → C k ar r) → (∀ c Q s, awp F C D E c Q s → D c Q s) → (∀ c Q s, (∀ c' Q' s', D c' Q' s' → Snd P E c' Q' s') → Snd P E c Q s → D c Q s) → (∀ c' Q' s', D c' Q' s' → Snd P E c' Q' s') → awp F C D E c (fun e st => match e with | .normal => retOK fn.results.toList res st | .ret => retOK fn.results.toList res st | .exit _ => False) { slots := st0 0 args, obs := [], ctr := 0 }) : CSem P (.fn f) args res := by
  refine fsem_of (fun ar w => ?_) (acalls_of0 E hΓ hm hf hb hn ha h4 (h sy (CSem P) (Snd P E) rfl (fun _ _ _ h => h) (fun c Q s h W0 S0 R a w hr hq => awp_ok hΓ hm c Q R s a w h hr hq) (fun c Q s _ h => h) (fun _ _ _ h => h)))
  have h1 : fn.name ≠ "runtime.NumGoroutine" := by simpa using hname
  simp [callFunc, hf, h1, hb]
theorem piece {W0 : Bas} {S0 : Nat → Prop} {E : En} {c : Code} {R : Exit → Act → World → Prop} {st : St} {a : Act} {w : World} (Q : AE → St → Prop) (hr : Rel W0 S0 E.n st a w)
    (h : ∀ (F : Sy) (C : Key → List AV → Res → Prop) (D : Code → (AE → St → Prop) → St → Prop), F = sy → (∀ k ar r, CSem Try.prog k ar r → C k ar r) → awp F C D E c Q st)
    (k : ∀ e st' a' w', Q e st' → Rel W0 S0 E.n st' a' w' → R (toExit e) a' w') : c.wp Try.prog R a w :=
  awp_ok gam_ok mixed c Q R st a w (h sy (CSem Try.prog) (Snd Try.prog E) rfl (fun _ _ _ h => h)) hr k
theorem loop_by {P : Program} {c : Code} {R : Exit → Act → World → Prop} {a : Act} {w : World} (I : Nat → Act → World → Prop) (μ : Nat → Nat) (i0 : Nat) (h0 : I i0 a w)
    (hs : ∀ i a w, I i a w → c.wp P (fun e a' w' => match e with | .normal => ∃ j, I j a' w' ∧ μ j < μ i | e => R e a' w') a w) : (Code.loop c).wp P R a w := by
  have key : ∀ (n i : Nat) (a : Act) (w : World), I i a w → μ i < n → Code.rounds P c R n a w := by
    intro n
    induction n with
    | zero => intro i a w _ h; omega
    | succ n ih =>
      intro i a w hI hn
      rw [rounds_succ]
      refine wp_mono (hs i a w hI) fun e a' w' h => ?_
      cases e with
      | normal => obtain ⟨j, hj, hm⟩ := h; exact ih j a' w' hj (by omega)
      | _ => exact h
  exact wp_loop_rounds (μ i0 + 1) (key _ i0 a w h0 (by omega))
theorem rel_fresh {W : World} {S : Nat → Prop} {a : Act} {n : Nat} {sl : List (Nat × AV)} (hS : ∀ g, S g → g < W.heap.size) (hgd : gdOK W S) (hd : a.defers = []) (hz : a.tmps.size = n) (h : ∀ t x, lk t sl = some x → t < n ∧ SRep W S (fun _ => .bool true) [] x (a.tmps.getD t undef)) :
    Rel { W := W, par := 0, M := fun _ => False, b0 := fun _ => .bool true } S n { slots := sl, obs := [], ctr := 0 } a W :=
  ⟨S, fun _ => .bool true, GrK.refl hS hgd, rfl, hd, hz, h, fun k o h => by simp [lk] at h, fun k o g h => by simp [lk] at h, fun k k' o o' h => by simp [lk] at h, fun k o h => by simp [lk] at h, Nat.le_refl _, fun k o _ h => by simp [lk] at h⟩
theorem rel_after {W : World} {S : Nat → Prop} {b0 : Nat → Value} {n : Nat} {st : St} {a : Act} {w : World} (h : Rel { W := W, par := 0, M := fun _ => False, b0 := b0 } S n st a w) : ∃ S1 β1, RelS { W := W, par := 0, M := fun _ => False, b0 := b0 } S n S1 β1 st a w ∧ Gr W S w S1 := by
  obtain ⟨S1, β1, hr⟩ := h
  exact ⟨S1, β1, hr, hr.gr.gr (fun _ h => h)⟩
/-- The map, with its rows, stays as it is from now on. -/
theorem Grp.freeze {w : World} {S U : Nat → Prop} {b : Nat} {ks : List ByteArray} {vs : List AV} {es : Array MapEntry} {clock : Nat} (h : Grp w S U b ks vs es clock) (hS : ∀ g, S g → g < w.heap.size) : ∃ S' : Nat → Prop, Rep w S' (.mp ks vs) (.map (some b)) ∧ (∀ g, S g → S' g) ∧ (∀ g, S' g → S g ∨ U g) ∧ ∀ g, S' g → g < w.heap.size := by
  have hel : es.toList.length = vs.length := by rw [h.len, ← List.length_map (f := fun x : MapEntry => x.key), h.keys, List.length_map]
  have hrow : ∀ (i : Nat) (e : MapEntry), es.toList[i]? = some e → ∃ r, vs[i]? = some (.sl r) ∧ GRow w S U b r e.val := fun i e he => by
    have hi : i < vs.length := by rw [← hel]; exact (List.getElem?_eq_some_iff.1 he).1
    obtain ⟨r, h1, h2⟩ := h.rows i _ e (List.getElem?_eq_getElem hi) he
    exact ⟨r, by rw [List.getElem?_eq_getElem hi, h1], h2⟩
  refine ⟨fun g => S g ∨ g = b ∨ ∃ (i : Nat) (e : MapEntry), es.toList[i]? = some e ∧ e.val.ownBlock = some g, .mp (.inr (.inl rfl)) h.at' h.keys h.len h.nd h.bd fun i u e hu he => ?_, fun g h => .inl h, fun g hg => ?_, fun g hg => ?_⟩
  · obtain ⟨r, h1, h2⟩ := hrow i e he
    rw [h1] at hu
    injection hu with hu
    subst hu
    obtain ⟨xs, o1, o2⟩ := h2.ex
    exact .c (repc_of_own o1 (o2.mono (fun _ _ => rfl) (fun g h => .inl h)) h2.len fun g hg => .inr (.inr ⟨i, e, he, hg⟩))
  · rcases hg with hg | hg | ⟨i, e, he, hg⟩
    · exact .inl hg
    · exact .inr (hg ▸ h.base)
    · obtain ⟨r, h1, h2⟩ := hrow i e he
      exact .inr (h2.blk g hg).2.2
  · rcases hg with hg | hg | ⟨i, e, he, hg⟩
    · exact hS g hg
    · exact hg ▸ (Array.getElem?_eq_some_iff.1 h.at').1
    · obtain ⟨r, h1, h2⟩ := hrow i e he
      exact h2.lt g hg
/-- The loop's head: i events are in the map. -/
structure ByI (W0 : Bas) (S0 : Nat → Prop) (rows : List (List AV)) (l : List Ev) (n' : Int) (b : Nat) (i k : Nat) (a : Act) (w : World) : Prop where
  defers : a.defers = []
  size : a.tmps.size = 31
  le : k ≤ l.length
  t9 : a.tmps.getD 9 undef = .int .i64 (i : Int)
  t8 : a.tmps.getD 8 undef = .int .i64 n'
  t3 : a.tmps.getD 3 undef = .map (some b)
  ex : ∃ S es clock, GrK W0.M W0.W S0 w S ∧ Rep w S (.sl rows) (a.tmps.getD 7 undef) ∧ Grp w S (fun g => W0.W.heap.size ≤ g ∨ W0.M g) b (keysH (l.take k)) (mapH (l.take k)) es clock
theorem GrK.stepU {T : Nat → Prop} {w w1 w2 : World} {S S1 : Nat → Prop} (h : GrK T w S w1 S1) (h1 : w2.os = w1.os) (h2 : w2.tape = w1.tape) (h3 : w2.output = w1.output) (h4 : w1.heap.size ≤ w2.heap.size) (h5 : ∀ g, g < w1.heap.size → ¬ (w.heap.size ≤ g ∨ T g) → w2.heap[g]? = w1.heap[g]?) (h6 : SameOn S1 w1 w2) : GrK T w S w2 S1 :=
  ⟨h1.trans h.os, h2.trans h.tape, h3.trans h.output, Nat.le_trans h.size h4, fun k hk hn => (h5 k (Nat.lt_of_lt_of_le hk h.size) (fun hh => hh.elim (fun h => by omega) hn)).trans (h.block k hk hn), h.sub, h.new, fun g hg => Nat.lt_of_lt_of_le (h.lt g hg) h4, h.gd.1, h.gd.2.mono h6 (fun _ h => h)⟩
set_option maxHeartbeats 8000000 in
set_option maxRecDepth 100000 in
theorem by_ok (l : List Ev) (hl : l.length ≤ 1000000) (rows : List (List AV)) (hrows : rows = evR l) (ks : List ByteArray) (vs : List AV) (hks : ks = keysH l) (hvs : vs = mapH l) : CSem Try.prog (.fn 50) [.sl rows] (.pure [.mp ks vs]) := by
  refine of_textS gam_ok mixed { n := 31, cuts := [3] } Try.func50 (by kernel_rfl) rfl rfl (by simp) (by decide) fun F C D hF hC hD hS hDS => ?_
  obtain ⟨n', hn'⟩ : ∃ n' : Int, F .len rows = n' := ⟨_, rfl⟩
  have en : n' = (l.length : Int) := by rw [← hn', lenF hF, hrows, evR_len]
  cbv
  rw [hn']
  refine ⟨{ slots := [(9, aI 0), (8, aI n'), (7, .sl rows), (3, .mo 0)], obs := [(0, .mp [] [])], ctr := 1 }, (le_of [] (by simp [leSl, leOb, injK, memK, parK, noTup, lk, rn0, rnA, plain] <;> first | rfl | decide)), hS _ _ _ hDS ?_⟩
  clear hS hDS hD
  intro W0 S0 R a w hr hq
  have hpar0 : W0.par = 0 := by obtain ⟨S, β, hr⟩ := hr; exact hr.par.symm
  obtain ⟨b, hb⟩ : ∃ b, a.tmps.getD 3 undef = .map (some b) ∧ ByI W0 S0 rows l n' b 0 0 a w := by
    obtain ⟨S, β, hr⟩ := hr
    obtain ⟨r, es, clock, e1, _, e3, e4, e5, e6, e7, e8, _⟩ := hr.objs 0 (.mp [] []) rfl
    have h3 : a.tmps.getD 3 undef = .map (some r) := ((show ∀ (ks : List ByteArray) (vs : List AV), lk 0 [(0, Ob.mp [] [])] = some (Ob.mp ks vs) → a.tmps.getD 3 undef = β 0 from (hr.slots 3 _ rfl).2) [] [] rfl).trans e1
    have hup := hr.up 0 (.mp [] []) r rfl (by rw [e1]; rfl)
    rw [hpar0] at hup
    have hes : es.toList = [] := by
      cases h : es.toList with
      | nil => rfl
      | cons x t => rw [h] at e5; simp at e5
    refine ⟨r, h3, hr.defers, hr.size, Nat.zero_le _, srep_v (hr.slots 9 _ rfl).2, srep_v (hr.slots 8 _ rfl).2, h3, S, es, clock, hr.gr, (hr.slots 7 _ rfl).2, ?_⟩
    exact ⟨by simpa using hup, e3, e4, e5, rfl, e7, e8, fun i u e h => by simp [mapH, keysH] at h, fun i j e e' g h => by rw [hes] at h; simp at h⟩
  obtain ⟨_, hb⟩ := hb
  clear hr
  refine wp_block (loop_by (fun i a w => ByI W0 S0 rows l n' b i i a w) (fun i => l.length - i) 0 hb fun i a w hI => ?_)
  clear hb
  obtain ⟨S, es, clock, hgr, h7, hgrp⟩ := hI.ex
  obtain ⟨i', ei⟩ : ∃ i' : Int, i' = (i : Int) := ⟨_, rfl⟩
  have h9 := hI.t9
  rw [← ei] at h9
  have hr1 : Rel { W := w, par := 0, M := fun _ => False, b0 := fun _ => .bool true } S 31 { slots := [(9, aI i'), (8, aI n'), (7, .sl rows), (3, .v (.map (some b)))], obs := [], ctr := 0 } a w := by
    refine rel_fresh hgr.lt hgr.gd.2 hI.defers hI.size fun t x ht => ?_
    simp only [lk] at ht
    split at ht
    · rename_i h; injection ht with ht; subst h ht; exact ⟨by omega, by rw [h9]; exact srep_of_rep (.c (.v _ rfl))⟩
    split at ht
    · rename_i h; injection ht with ht; subst h ht; exact ⟨by omega, by rw [hI.t8]; exact srep_of_rep (.c (.v _ rfl))⟩
    split at ht
    · rename_i h; injection ht with ht; subst h ht; exact ⟨by omega, srep_of_rep h7⟩
    split at ht
    · rename_i h; injection ht with ht; subst h ht; exact ⟨by omega, by rw [hI.t3]; exact srep_of_rep (.c (.v _ rfl))⟩
    · cases ht
  by_cases hil : i < l.length
  · obtain ⟨e, he⟩ : ∃ s, l[i]? = some s := ⟨_, List.getElem?_eq_getElem hil⟩
    have hrow : rows[i]? = some e.ac := by rw [hrows]; exact evR_get he
    refine wp_seq (piece (E := { n := 31 }) (fun e s => match e with | .normal => Le s { slots := [(10, aB true), (9, aI i'), (8, aI n'), (7, .sl rows), (3, .v (.map (some b)))], obs := [], ctr := 0 } | _ => False) hr1 (fun F C D hF hC => ?_) (fun x s a1 w1 hq1 hr => ?_))
    · have tl := ltF hF i l.length i' n' ei en
      have tl : F .cmp .lss i' n' = true := tl.2 hil
      clear hgrp
      cbv
      rw [tl]
      exact (le_of [] (by simp [leSl, leOb, injK, memK, parK, noTup, lk, rn0, rnA, plain] <;> first | rfl | decide))
    cases x with
    | ret => exact hq1.elim
    | exit _ => exact hq1.elim
    | normal =>
    have hrA := (show Le s _ from hq1) _ _ _ _ _ hr
    clear hq1 hr hr1
    have h10 : a1.eval (.tmp 10) = .bool true := by obtain ⟨S1, β1, hrA, _⟩ := rel_after hrA; exact srep_v (hrA.slots 10 _ rfl).2
    refine wp_seq (wp_cond_true h10 (wp_skip (wp_seq (wp_mono (Q := fun e a w => e = .normal ∧ ByI W0 S0 rows l n' b i (i + 1) a w) ?_ ?_))))
    · refine wp_block (wp_seq (piece (E := { n := 31 }) (fun x s => match x with | .normal => Le s { slots := [(5, .ept e.ac 0), (9, aI i'), (8, aI n'), (7, .sl rows), (3, .v (.map (some b)))], obs := [], ctr := 1 } | _ => False) hrA (fun F C D hF hC => ?_) (fun x s a2 w2 hq1 hr => ?_)))
      · clear hgrp
        cbv
        refine ⟨i, _, ei, hrow, rfl, ?_⟩
        cbv
        exact (le_of [] (by simp [leSl, leOb, injK, memK, parK, noTup, lk, rn0, rnA, plain] <;> first | rfl | decide))
      cases x with
      | ret => exact hq1.elim
      | exit _ => exact hq1.elim
      | normal =>
      have hrB := (show Le s _ from hq1) _ _ _ _ _ hr
      clear hq1 hr hrA
      obtain ⟨k5, hk5⟩ : ∃ k5, k5 = decide (e.op.kind = 5) := ⟨_, rfl⟩
      refine wp_seq (piece (E := { n := 31 }) (fun x s => match x with | .normal => Le s { slots := [(16, aB k5), (5, .ept e.ac 0), (9, aI i'), (8, aI n'), (7, .sl rows), (3, .v (.map (some b)))], obs := [], ctr := 1 } | _ => False) hrB (fun F C D hF hC => ?_) (fun x s a3 w3 hq1 hr => ?_))
      · have t5 : F .cmp .eql e.op.kind 5 = k5 := by rw [hk5]; exact eqF hF _ _
        clear hgrp
        cbv
        have t5 : F .cmp .eql e.4.1 5 = k5 := t5
        rw [t5]
        exact (le_of [] (by simp [leSl, leOb, injK, memK, parK, noTup, lk, rn0, rnA, plain] <;> first | rfl | decide))
      cases x with
      | ret => exact hq1.elim
      | exit _ => exact hq1.elim
      | normal =>
      have hrC := (show Le s _ from hq1) _ _ _ _ _ hr
      clear hq1 hr hrB
      obtain ⟨S3, β3, hrC, hgr3⟩ := rel_after hrC
      have h16 : a3.eval (.tmp 16) = .bool k5 := srep_v (hrC.slots 16 _ rfl).2
      have h93 : a3.tmps.getD 9 undef = .int .i64 i' := srep_v (hrC.slots 9 _ rfl).2
      have h83 : a3.tmps.getD 8 undef = .int .i64 n' := srep_v (hrC.slots 8 _ rfl).2
      have h73 : Rep w3 S3 (.sl rows) (a3.tmps.getD 7 undef) := (hrC.slots 7 _ rfl).2
      have h53 : Rep w3 S3 (.ept e.ac 0) (a3.tmps.getD 5 undef) := (hrC.slots 5 _ rfl).2
      have h33 : a3.tmps.getD 3 undef = .map (some b) := srep_v (hrC.slots 3 _ rfl).2
      have hgrp3 := hgrp.grow hgr3 hgr.lt
      have hgrK := hgr.step hgr3
      rw [ei] at h93
      by_cases h5 : e.op.kind = 5
      · have hk5 : k5 = true := by rw [hk5]; exact decide_eq_true h5
        rw [hk5] at h16
        refine wp_cond_true h16 ?_
        have hli : (ownH (l.take i) e.op.fld).length ≤ 1000000 := Nat.le_trans (List.length_filter_le _ _) (by rw [List.length_take]; omega)
        obtain ⟨m1, m2⟩ := mapH_step he h5
        refine by_whole (by rfl) (by kernel_rfl) (fun o ho => (by injection ho with ho; rw [← ho])) hrC.size hgrp3 hrC.gr.lt (fun g hg => .inl (Nat.le_trans hgrK.size hg)) h33 e h53 (evR (ownH (l.take i) e.op.fld)) (fun h => mapH_hit _ _ h) (fun h => by rw [(ownH_nil _ _).1 h]; rfl) (by rw [evR_len]; exact hli) fun a' w' es' clock' q1 q2 q3 q4 q5 q6 q7 q8 q9 q10 => ?_
        exact ⟨rfl, by rw [q2]; exact hrC.defers, q1, hil, by rw [q3 9 (by omega)]; exact h93, by rw [q3 8 (by omega)]; exact h83, by rw [q3 3 (by omega)]; exact h33, S3, es', clock', GrK.stepU hgrK q5 q6 q7 q8 q9 q10, by rw [q3 7 (by omega)]; exact h73.mono q10 (fun _ h => h), by rw [m1, m2]; exact q4⟩
      · have hk5 : k5 = false := by rw [hk5]; exact decide_eq_false h5
        rw [hk5] at h16
        refine wp_cond_false h16 (wp_skip ?_)
        obtain ⟨m1, m2⟩ := mapH_skip he h5
        exact ⟨rfl, hrC.defers, hrC.size, hil, h93, h83, h33, S3, es, clock, hgrK, h73, by rw [m1, m2]; exact hgrp3⟩
    · rintro x a2 w2 ⟨rfl, hI2⟩
      obtain ⟨S2, es2, clock2, hgr2, h72, hgrp2⟩ := hI2.ex
      have h92 := hI2.t9
      rw [← ei] at h92
      have hr2 : Rel { W := w2, par := 0, M := fun _ => False, b0 := fun _ => .bool true } S2 31 { slots := [(9, aI i'), (8, aI n'), (7, .sl rows), (3, .v (.map (some b)))], obs := [], ctr := 0 } a2 w2 := by
        refine rel_fresh hgr2.lt hgr2.gd.2 hI2.defers hI2.size fun t x ht => ?_
        simp only [lk] at ht
        split at ht
        · rename_i h; injection ht with ht; subst h ht; exact ⟨by omega, by rw [h92]; exact srep_of_rep (.c (.v _ rfl))⟩
        split at ht
        · rename_i h; injection ht with ht; subst h ht; exact ⟨by omega, by rw [hI2.t8]; exact srep_of_rep (.c (.v _ rfl))⟩
        split at ht
        · rename_i h; injection ht with ht; subst h ht; exact ⟨by omega, srep_of_rep h72⟩
        split at ht
        · rename_i h; injection ht with ht; subst h ht; exact ⟨by omega, by rw [hI2.t3]; exact srep_of_rep (.c (.v _ rfl))⟩
        · cases ht
      obtain ⟨i2, hi2⟩ : ∃ i2 : Int, i2 = ((i + 1 : Nat) : Int) := ⟨_, rfl⟩
      refine piece (E := { n := 31 }) (fun x s => match x with | .normal => Le s { slots := [(9, aI i2), (8, aI n'), (7, .sl rows), (3, .v (.map (some b)))], obs := [], ctr := 0 } | _ => False) hr2 (fun F C D hF hC => ?_) (fun x s a4 w4 hq1 hr => ?_)
      · have tl : F .ar .add .i64 i' 1 = i2 := (incF hF ei (by omega)).trans hi2.symm
        clear hgrp hgrp2
        cbv
        rw [tl]
        exact (le_of [] (by simp [leSl, leOb, injK, memK, parK, noTup, lk, rn0, rnA, plain] <;> first | rfl | decide))
      cases x with
      | ret => exact hq1.elim
      | exit _ => exact hq1.elim
      | normal =>
      have hrD := (show Le s _ from hq1) _ _ _ _ _ hr
      obtain ⟨S4, β4, hrD, hgr4⟩ := rel_after hrD
      have h94 : a4.tmps.getD 9 undef = .int .i64 i2 := srep_v (hrD.slots 9 _ rfl).2
      rw [hi2] at h94
      refine ⟨i + 1, ⟨hrD.defers, hrD.size, hil, h94, srep_v (hrD.slots 8 _ rfl).2, srep_v (hrD.slots 3 _ rfl).2, S4, es2, clock2, hgr2.step hgr4, (hrD.slots 7 _ rfl).2, hgrp2.grow hgr4 hgr2.lt⟩, by omega⟩
  · have hil2 : i = l.length := by have := hI.le; omega
    rw [hil2, List.take_length, ← hks, ← hvs] at hgrp
    refine wp_seq (piece (E := { n := 31 }) (fun e s => match e with | .normal => Le s { slots := [(10, aB false), (3, .v (.map (some b)))], obs := [], ctr := 0 } | _ => False) hr1 (fun F C D hF hC => ?_) (fun e s a1 w1 hq1 hr => ?_))
    · have tl := ltF hF i l.length i' n' ei en
      have tl : F .cmp .lss i' n' = false := by cases h : F .cmp .lss i' n' with | true => exact absurd (tl.1 h) hil | false => rfl
      clear hgrp
      cbv
      rw [tl]
      exact (le_of [] (by simp [leSl, leOb, injK, memK, parK, noTup, lk, rn0, rnA, plain] <;> first | rfl | decide))
    · cases e with
      | ret => exact hq1.elim
      | exit _ => exact hq1.elim
      | normal =>
        have hrA := (show Le s _ from hq1) _ _ _ _ _ hr
        obtain ⟨S1, β1, hrA, hgr1⟩ := rel_after hrA
        have h10 : a1.eval (.tmp 10) = .bool false := srep_v (hrA.slots 10 _ rfl).2
        have h31 : a1.tmps.getD 3 undef = .map (some b) := srep_v (hrA.slots 3 _ rfl).2
        obtain ⟨S', f1, f2, f3, f4⟩ := (hgrp.grow hgr1 hgr.lt).freeze hrA.gr.lt
        have hgr2 := hgr.step hgr1
        refine wp_seq (wp_cond_false h10 (wp_exit ?_))
        refine hq .normal { slots := [(3, .mp ks vs)], obs := [], ctr := 0 } a1 w1 ?_ ?_
        · clear f1 f2 f3 f4 hrA hgr2 hr hr1 hgrp hgr hgr1 hI
          cbv
          try simp
        · refine ⟨S', fun _ => .bool true, ⟨hgr2.os, hgr2.tape, hgr2.output, hgr2.size, hgr2.block, fun g h => f2 g (hgr2.sub g h), fun g hg => ?_, f4, hgr2.gd.1, hgr2.gd.2.mono (fun _ _ => rfl) f2⟩, hpar0.symm, hrA.defers, hrA.size, fun t x ht => ?_, fun k o h => by simp [lk] at h, fun k o g h => by simp [lk] at h, fun k k' o o' h => by simp [lk] at h, fun k o h => by simp [lk] at h, by rw [hpar0]; exact Nat.zero_le _, fun k o _ h => by simp [lk] at h⟩
          · rcases f3 g hg with h | h
            · exact hgr2.new g h
            · exact .inr h
          · simp only [lk] at ht
            split at ht
            · rename_i h; injection ht with ht; subst h ht; exact ⟨by show (3 : Nat) < 31; omega, by rw [h31]; exact srep_of_rep f1⟩
            · cases ht
end Go.Proofs.Ytdmdahnnfancpaa
