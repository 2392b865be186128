import Derived.Test.YtljpmnifkccbdaaK1
set_option linter.unusedSimpArgs false
set_option linter.unusedVariables false
namespace Go.Proofs.Ytljpmnifkccbdaa
open Go Go.RowKit Am Go.Sort

/-! Lists with the same events. -/
theorem unlike_pw {l : List Ev} (h : unlikeP l) : l.Pairwise fun a b => a.dot ≠ b.dot := by
  rw [List.pairwise_iff_getElem]
  intro i j hi hj hij e
  exact h j i l[j] l[i] hij (List.getElem?_eq_getElem hj) (List.getElem?_eq_getElem hi) e.symm
theorem eqv_dot {a b : Ev} (h : eqv ltE a b = true) : a.dot = b.dot := by
  simp only [eqv, Bool.and_eq_true, Bool.not_eq_true'] at h
  obtain ⟨h1, h2⟩ := h
  rw [Bool.eq_false_iff] at h1 h2
  unfold ltE at h1 h2
  rw [ne_eq, later_iff] at h1 h2
  have e1 : a.dot.R = b.dot.R := by omega
  have e2 : a.dot.N = b.dot.N := by omega
  cases ha : a.dot; cases hb : b.dot
  rw [ha, hb] at e1 e2
  simp only at e1 e2
  rw [e1, e2]
theorem one_of {l : List Ev} (h : l.Pairwise fun a b => a.dot ≠ b.dot) (x : Ev) : l.filter (eqv ltE x) = [] ∨ ∃ a, l.filter (eqv ltE x) = [a] := by
  have hp : (l.filter (eqv ltE x)).Pairwise fun a b => a.dot ≠ b.dot := h.sublist List.filter_sublist
  have hd : ∀ a ∈ l.filter (eqv ltE x), a.dot = x.dot := fun a ha => (eqv_dot (List.mem_filter.1 ha).2).symm
  match hm : l.filter (eqv ltE x) with
  | [] => exact .inl rfl
  | [a] => exact .inr ⟨a, rfl⟩
  | a :: b :: r =>
    rw [hm] at hp hd
    have h1 := (List.pairwise_cons.1 hp).1 b List.mem_cons_self
    exact absurd ((hd a List.mem_cons_self).trans (hd b (List.mem_cons_of_mem _ List.mem_cons_self)).symm) h1
theorem stp_of {l m : List Ev} (hl : l.Pairwise fun a b => a.dot ≠ b.dot) (hm : m.Pairwise fun a b => a.dot ≠ b.dot) (h : ∀ x, x ∈ m ↔ x ∈ l) : StP ltE m l := by
  intro x
  have hx : ∀ y, y ∈ m.filter (eqv ltE x) ↔ y ∈ l.filter (eqv ltE x) := fun y => by rw [List.mem_filter, List.mem_filter, h]
  rcases one_of hl x with e | ⟨a, e⟩ <;> rcases one_of hm x with e' | ⟨b, e'⟩
  · rw [e, e']
  · have := (hx b).1 (by rw [e']; exact List.mem_singleton.2 rfl)
    rw [e] at this; simp at this
  · have := (hx a).2 (by rw [e]; exact List.mem_singleton.2 rfl)
    rw [e'] at this; simp at this
  · have := (hx b).1 (by rw [e']; exact List.mem_singleton.2 rfl)
    rw [e, List.mem_singleton] at this
    rw [e, e', this]
theorem liveP_ext {l m : List Ev} (h : ∀ x, x ∈ m ↔ x ∈ l) : liveP m = liveP l := by
  funext a
  unfold liveP
  congr 2
  rw [Bool.eq_iff_iff, List.any_eq_true, List.any_eq_true]
  constructor
  · rintro ⟨x, hx, h1⟩; exact ⟨x, (h x).1 hx, h1⟩
  · rintro ⟨x, hx, h1⟩; exact ⟨x, (h x).2 hx, h1⟩
theorem liveAll_ext {l m : List Ev} (hl : l.Pairwise fun a b => a.dot ≠ b.dot) (hm : m.Pairwise fun a b => a.dot ≠ b.dot) (h : ∀ x, x ∈ m ↔ x ∈ l) : liveAll m = liveAll l := by
  unfold liveAll
  rw [liveP_ext h]
  exact isort_stp swo_ltE (stp_of (hl.sublist List.filter_sublist) (hm.sublist List.filter_sublist) fun x => by rw [List.mem_filter, List.mem_filter, h])
theorem ofL_ext {l m : List Ev} (hl : l.Pairwise fun a b => a.dot ≠ b.dot) (hm : m.Pairwise fun a b => a.dot ≠ b.dot) (h : ∀ x, x ∈ m ↔ x ∈ l) (key : ByteArray) : ofL m key = ofL l key :=
  liveAll_ext (hl.sublist List.filter_sublist) (hm.sublist List.filter_sublist) fun x => by rw [List.mem_filter, List.mem_filter, h]
theorem ofT_ext {l m : List Ev} (hl : l.Pairwise fun a b => a.dot ≠ b.dot) (hm : m.Pairwise fun a b => a.dot ≠ b.dot) (h : ∀ x, x ∈ m ↔ x ∈ l) (key : ByteArray) : ofT m key = ofT l key := by
  unfold ofT; rw [ofL_ext hl hm h]
theorem ofV_ext {l m : List Ev} (hl : l.Pairwise fun a b => a.dot ≠ b.dot) (hm : m.Pairwise fun a b => a.dot ≠ b.dot) (h : ∀ x, x ∈ m ↔ x ∈ l) (key : ByteArray) : ofV m key = ofV l key := by
  unfold ofV; rw [ofL_ext hl hm h, ofT_ext hl hm h]
theorem keysL_ext {l m : List Ev} (hl : l.Pairwise fun a b => a.dot ≠ b.dot) (hm : m.Pairwise fun a b => a.dot ≠ b.dot) (h : ∀ x, x ∈ m ↔ x ∈ l) : keysL m = keysL l := by
  unfold keysL; rw [liveAll_ext hl hm h]
theorem keysL_len (l : List Ev) : (keysL l).length ≤ l.length := by
  unfold keysL srt
  have h1 := Lib.compact_length_le (((liveAll l).map keyK).mergeSort fun x y => decide (x ≤ y))
  have h2 : (((liveAll l).map keyK).mergeSort fun x y => decide (x ≤ y)).length = ((liveAll l).map keyK).length := List.length_mergeSort _
  have h3 := liveAll_len l
  rw [h2, List.length_map] at h1
  omega
/-- The list, turned by k. -/
def rot (l : List Ev) (k : Nat) : List Ev := l.drop k ++ l.take k
theorem rot_mem {l : List Ev} {k : Nat} {x : Ev} : x ∈ rot l k ↔ x ∈ l := by
  unfold rot
  rw [List.mem_append, or_comm, ← List.mem_append, List.take_append_drop]
theorem rot_pw {l : List Ev} {k : Nat} (h : l.Pairwise fun a b => a.dot ≠ b.dot) : (rot l k).Pairwise fun a b => a.dot ≠ b.dot := by
  unfold rot
  rw [← List.take_append_drop k l] at h
  rw [List.pairwise_append] at h ⊢
  refine ⟨h.2.1, h.1, fun a ha b hb e => h.2.2 b hb a ha e.symm⟩
theorem rot_len (l : List Ev) (k : Nat) : (rot l k).length = l.length := by unfold rot; simp; omega
theorem rot_get {l : List Ev} {k i : Nat} (hk : k < l.length) (hi : i < l.length) : (rot l k)[i]? = l[(i + k) % l.length]? := by
  unfold rot
  by_cases h : i + k < l.length
  · rw [List.getElem?_append_left (by simp; omega), List.getElem?_drop, Nat.mod_eq_of_lt h, Nat.add_comm]
  · rw [List.getElem?_append_right (by simp; omega), Nat.mod_eq_sub_mod (by omega), Nat.mod_eq_of_lt (by omega), List.getElem?_take, if_pos (by simp; omega)]
    congr 1
    simp
    omega
def turnL (l : List Ev) (k : Nat) : List Ev := (rot l k).reverse
theorem turn_mem {l : List Ev} {k : Nat} (x : Ev) : x ∈ turnL l k ↔ x ∈ l := by unfold turnL; rw [List.mem_reverse, rot_mem]
theorem turn_pw {l : List Ev} {k : Nat} (h : l.Pairwise fun a b => a.dot ≠ b.dot) : (turnL l k).Pairwise fun a b => a.dot ≠ b.dot := by
  unfold turnL
  rw [List.pairwise_reverse]
  exact (rot_pw h).imp fun h e => h e.symm
theorem modF2 {F : Sy} (hF : F = sy) (n : Nat) (n' c : Int) (hn : n' = (n : Int)) (hn0 : 0 < n) (hn1 : n ≤ 1000000000) (hc : 0 ≤ c) : ∃ k : Nat, k < n ∧ F .wrp .i64 (F .ar .rem .u64 c (F .wrp .u64 n')) = (k : Int) ∧ F .wrp .u64 n' ≠ 0 := by
  have e1 : F .wrp .u64 n' = (n : Int) := by
    rw [hF, hn]
    show IntKind.u64.wrap _ = _
    simp [IntKind.wrap, IntKind.signed, IntKind.bits, BitVec.toNat_ofInt]
    omega
  have h1 : 0 ≤ c % (n : Int) := Int.emod_nonneg _ (by omega)
  have h2 : c % (n : Int) < (n : Int) := Int.emod_lt_of_pos _ (by omega)
  refine ⟨(c % (n : Int)).toNat, by omega, ?_, by rw [e1]; omega⟩
  rw [e1, hF]
  have e2 : sy .ar .rem .u64 c (n : Int) = c % (n : Int) := Int.tmod_eq_emod_of_nonneg hc
  rw [e2]
  exact (wrap_in (by omega) (by omega)).trans (by omega)
theorem remF {F : Sy} (hF : F = sy) (a n : Nat) (a' n' : Int) (ha : a' = (a : Int)) (hn : n' = (n : Int)) (h0 : 0 < n) (h1 : n ≤ 1000000000) : F .ar .rem .i64 a' n' = ((a % n : Nat) : Int) := by
  rw [hF, ha, hn]
  have : sy .ar .rem .i64 (a : Int) (n : Int) = Int.tmod (a : Int) (n : Int) := rfl
  rw [this, Int.tmod_eq_emod_of_nonneg (by omega)]
  simp
end Go.Proofs.Ytljpmnifkccbdaa
set_option linter.unusedSimpArgs false
set_option linter.unusedVariables false
namespace Go.Proofs.Ytljpmnifkccbdaa
open Go Go.RowKit Am Go.Sort

theorem bigOrder_ok (l : List Ev) (hl : ¬ l.length ≤ 200) (rows : List (List AV)) (hrows : rows = evR l) (c : Int) (key : ByteArray) (r : Bool) (hr : true = r) : CSem Try.prog (.fn 13) [.sl rows, .v (.int .u64 c), aS key] (.pure [aB r]) := by
  refine of_text gam_ok mixed { n := 83 } Try.func13 (by kernel_rfl) rfl rfl (by simp) (by decide) fun F C D hF hC hD => ?_
  have haw := hC _ _ _ (awake10_ok true rfl)
  obtain ⟨fb, hfb⟩ : ∃ fb, fb = few10 l := ⟨_, rfl⟩
  have hfew := hC _ _ _ (few10_ok l rows hrows fb hfb)
  have hff : fb = false := by cases h : fb; rfl; exact absurd (few10_len (hfb.symm.trans h)) hl
  have nt : F .bnot true = false := bnotF hF true
  have nf : F .bnot fb = true := by rw [bnotF hF fb, hff]; rfl
  cbv
  refine ⟨_, haw, ?_⟩
  cbv
  refine brf (fun h1 => ?_) (fun h1 => by rw [nt] at h1; cases h1)
  cbv
  refine ⟨_, hfew, ?_⟩
  cbv
  refine brf (fun h2 => by rw [nf] at h2; cases h2) (fun h2 => ?_)
  cbv
  refine ⟨_, haw, ?_⟩
  cbv
  rw [← hr]; exact ⟨rfl, trivial⟩
abbrev sh13 (i' n' k' : Int) (key : ByteArray) (rows out : List (List AV)) : St := { slots := [(9, aI i'), (7, aI k'), (0, .sl rows), (2, aS key), (8, .own 0 0)], obs := [(0, .row 34 26 out 0 0)], ctr := 1 }
theorem liveOrder_ok (l : List Ev) (hl : l.length ≤ 200) (rows : List (List AV)) (hrows : rows = evR l) (c : Int) (hc : 0 ≤ c) (key : ByteArray) (r : Bool) (hr : true = r) : CSem Try.prog (.fn 13) [.sl rows, .v (.int .u64 c), aS key] (.pure [aB r]) := by
  refine of_text gam_ok mixed { n := 83, keep := [52] } Try.func13 (by kernel_rfl) rfl rfl (by simp) (by decide) fun F C D hF hC hD => ?_
  have haw := hC _ _ _ (awake10_ok true rfl)
  obtain ⟨fb, hfb⟩ : ∃ fb, fb = few10 l := ⟨_, rfl⟩
  have hfew := hC _ _ _ (few10_ok l rows hrows fb hfb)
  obtain ⟨ub, hub⟩ : ∃ ub : Bool, ub = true ↔ unlikeP l := ⟨@decide (unlikeP l) (Classical.propDecidable _), by simp⟩
  have hunl := hC _ _ _ (unlike_ok l (by omega) rows hrows ub hub)
  have nt : F .bnot true = false := bnotF hF true
  have nf : F .bnot fb = !fb := bnotF hF fb
  have nu : F .bnot ub = !ub := bnotF hF ub
  obtain ⟨n', hn'⟩ : ∃ n', F .len rows = n' := ⟨_, rfl⟩
  have en : n' = (l.length : Int) := by rw [← hn', lenF hF, hrows, evR_len]
  have ez : F .cmp .eql n' 0 = decide (l.length = 0) := by rw [en, hF]; simp [sy, Bool.beq_eq_decide_eq]
  cbv
  refine ⟨_, haw, ?_⟩
  cbv
  refine brf (fun h1 => ?_) (fun h1 => by rw [nt] at h1; cases h1)
  cbv
  refine ⟨_, hfew, ?_⟩
  cbv
  refine brf (fun h2 => ?_) (fun h2 => ?_)
  rotate_left
  · cbv
    refine ⟨_, haw, ?_⟩
    cbv
    rw [← hr]; exact ⟨rfl, trivial⟩
  cbv
  refine ⟨_, hunl, ?_⟩
  cbv
  refine brf (fun h3 => ?_) (fun h3 => ?_)
  rotate_left
  · cbv
    refine ⟨_, haw, ?_⟩
    cbv
    rw [← hr]; exact ⟨rfl, trivial⟩
  cbv
  rw [hn']
  refine br (fun h4 => ?_) (fun h4 => ?_)
  · cbv
    refine ⟨_, haw, ?_⟩
    cbv
    rw [← hr]; exact ⟨rfl, trivial⟩
  cbv
  have hun : unlikeP l := hub.1 (by have := nu.symm.trans h3; simpa using this)
  have hpw := unlike_pw hun
  have hpos : 0 < l.length := by have := ez.symm.trans h4; simp at this; exact List.length_pos_iff.2 this
  have en : n' = (l.length : Int) := en
  obtain ⟨k, hk, ek, hnz⟩ := modF2 hF l.length n' c en hpos (by omega) hc
  obtain ⟨k', hk'⟩ : ∃ k', F .wrp .i64 (F .ar .rem .u64 c (F .wrp .u64 n')) = k' := ⟨_, rfl⟩
  have ek : k' = (k : Int) := hk'.symm.trans ek
  rw [hn', hk']
  refine ⟨hnz, ?_⟩
  cbv
  have en : n' = (l.length : Int) := en
  obtain ⟨i0, hi0⟩ : ∃ i0, F .ar .sub .i64 n' 1 = i0 := ⟨_, rfl⟩
  have ei0 : i0 = (l.length : Int) - 1 := by rw [← hi0, hF]; exact (wrap_in (by omega) (by omega)).trans (by omega)
  obtain ⟨m, hm⟩ : ∃ m, m = turnL l k := ⟨_, rfl⟩
  have hml : m.length ≤ 200 := by rw [hm, turnL, List.length_reverse, rot_len]; exact hl
  have hmm : ∀ x, x ∈ m ↔ x ∈ l := fun x => by rw [hm]; exact turn_mem x
  have hmp : m.Pairwise fun a b => a.dot ≠ b.dot := by rw [hm]; exact turn_pw hpw
  obtain ⟨M, hM⟩ : ∃ M, M = evR m := ⟨_, rfl⟩
  obtain ⟨A, hA⟩ : ∃ A, A = evR (liveAll l) := ⟨_, rfl⟩
  have ha1 := hC _ _ _ (liveAll_ok l (by omega) rows hrows A hA)
  have ha2 := hC _ _ _ (liveAll_ok m (by omega) M hM A (by rw [liveAll_ext hpw hmp hmm]; exact hA))
  have hs1 := hC _ _ _ (same_ok (liveAll l) (liveAll l) (by have := liveAll_len l; omega) (by have := liveAll_len l; omega) A A hA hA true (by simp))
  obtain ⟨t, ht⟩ : ∃ t, t = ofT l key := ⟨_, rfl⟩
  have ht1 := hC _ _ _ (type_ok l (by omega) key rows hrows t ht)
  have ht2 := hC _ _ _ (type_ok m (by omega) key M hM t (by rw [ofT_ext hpw hmp hmm]; exact ht))
  obtain ⟨V, hV⟩ : ∃ V, V = evR (ofV l key) := ⟨_, rfl⟩
  have hv1 := hC _ _ _ (ofLive_ok l (by omega) key rows hrows V hV)
  have hv2 := hC _ _ _ (ofLive_ok m (by omega) key M hM V (by rw [ofV_ext hpw hmp hmm]; exact hV))
  have hs2 := hC _ _ _ (same_ok (ofV l key) (ofV l key) (by have := ofV_len l key; omega) (by have := ofV_len l key; omega) V V hV hV true (by simp))
  obtain ⟨Q, hQ⟩ : ∃ Q, Q = sR (keysL l) := ⟨_, rfl⟩
  have hk1 := hC _ _ _ (keys_ok l (by omega) rows hrows Q hQ)
  have hk2 := hC _ _ _ (keys_ok m (by omega) M hM Q (by rw [keysL_ext hpw hmp hmm]; exact hQ))
  have hs3 := hC _ _ _ (texts_ok (keysL l) (keysL l) (by have := keysL_len l; omega) (by have := keysL_len l; omega) Q Q hQ hQ true (by simp))
  have hrf : F .cmp .eql t t = true := by rw [hF]; simp [sy]
  rw [hi0]
  refine ⟨Nat × Int × List (List AV), fun x => sh13 x.2.1 n' k' key rows x.2.2, fun x => x.2.1 = (x.1 : Int) - 1 ∧ x.1 ≤ l.length ∧ x.2.2 = evR ((rot l k).drop x.1).reverse, fun x => x.1, ⟨(l.length, i0, []), ⟨ei0, Nat.le_refl _, by rw [List.drop_of_length_le (by rw [rot_len]; exact Nat.le_refl _)]; rfl⟩, Le.trans (le_nil 8 34 26 (by rfl) (by rfl)) (le_of [] (by simp [leSl, leOb, injK, memK, parK, noTup, lk, rn0, rnA, plain, aI]))⟩, fun x hx => ?_⟩
  obtain ⟨i, i', o⟩ := x
  obtain ⟨ei, hi, ho⟩ := hx
  simp only at ei hi ho
  have en : n' = (l.length : Int) := en
  have ek : k' = (k : Int) := ek
  have tl : F .cmp .geq i' 0 = decide (0 < i) := by rw [hF, ei]; simp [sy]; omega
  have hol : o.length ≤ l.length := by rw [ho, evR_len]; simp [rot_len]
  have room : ∀ q : List (List AV), q.length = 1 → (F .len o + F .len q) * 232 ≤ 140737488355328 := fun q hq => by rw [lenF hF, lenF hF, hq]; omega
  obtain ⟨j, hj⟩ : ∃ j, F .ar .sub .i64 i' 1 = j := ⟨_, rfl⟩
  obtain ⟨s, hs⟩ : ∃ s, F .ar .add .i64 i' k' = s := ⟨_, rfl⟩
  obtain ⟨q, hq⟩ : ∃ q, F .ar .rem .i64 s n' = q := ⟨_, rfl⟩
  cbv
  refine br (fun h => ?_) (fun h => ?_) <;> cbv
  · have hi0 : 0 < i := of_decide_eq_true (tl.symm.trans h)
    have en : n' = (l.length : Int) := en
    have ek : k' = (k : Int) := ek
    have ei : i' = (i : Int) - 1 := ei
    obtain ⟨p, rfl⟩ : ∃ p, i = p + 1 := ⟨i - 1, by omega⟩
    have ei : i' = (p : Int) := by omega
    have ej : j = (p : Int) - 1 := by rw [← hj, hF]; exact (wrap_in (by omega) (by omega)).trans (by omega)
    have es : s = ((p + k : Nat) : Int) := by rw [← hs, hF]; exact (wrap_in (by omega) (by omega)).trans (by omega)
    have eq : q = (((p + k) % l.length : Nat) : Int) := by rw [← hq]; exact remF hF (p + k) l.length s n' es en hpos (by omega)
    have hnz : n' ≠ 0 := by omega
    obtain ⟨g, hg⟩ : ∃ g, g = (p + k) % l.length := ⟨_, rfl⟩
    rw [← hg] at eq
    have hgl : g < l.length := by rw [hg]; exact Nat.mod_lt _ hpos
    obtain ⟨e, he⟩ : ∃ e, l[g]? = some e := ⟨_, List.getElem?_eq_getElem hgl⟩
    have hre : (rot l k)[p]? = some e := by rw [rot_get hk (by omega), ← hg]; exact he
    have hrow : rows[g]? = some e.ac := by rw [hrows]; exact evR_get he
    obtain ⟨o2, ho2⟩ : ∃ o2, o2 = F .app o [e.ac] := ⟨_, rfl⟩
    have hyes : o2 = evR ((rot l k).drop p).reverse := by
      have hd : (rot l k).drop p = e :: (rot l k).drop (p + 1) := by
        obtain ⟨hlt, hpe⟩ := List.getElem?_eq_some_iff.1 hre
        rw [← hpe]; exact List.drop_eq_getElem_cons hlt
      rw [ho2, hd, List.reverse_cons, ho, hF]; simp [evR, sy]
    have hrm := room [e.ac] rfl
    have hel : ∀ r ∈ [e.ac], r.length = 26 := fun r h => by rw [List.mem_singleton.1 h]; rfl
    rw [hn', hs]
    refine ⟨hnz, ?_⟩
    rw [hq]
    cbv
    refine ⟨g, e.ac, eq, hrow, rfl, ?_⟩
    cbv
    refine ⟨hel, hrm, ?_⟩
    rw [hj]
    exact ⟨(p, j, o2), ⟨ej, (show p ≤ l.length by omega), hyes⟩, Nat.lt_succ_self p, le_of [(0, 1)] (by simp [leSl, leOb, injK, memK, parK, noTup, lk, rn0, rnA, plain]; exact ⟨ho2.symm, rfl⟩)⟩
  · have hi0 : i = 0 := by have := tl.symm.trans h; simpa using this
    have hfin : M = o := by rw [ho, hi0, hM, hm, turnL, List.drop_zero]
    rw [hfin] at ht2 ha2 hv2 hk2
    refine ⟨_, ha1, ?_⟩
    cbv
    refine ⟨_, ha2, ?_⟩
    cbv
    refine ⟨_, hs1, ?_⟩
    cbv
    refine br (fun _ => ?_) (fun g => by cases g)
    cbv
    refine ⟨_, ht1, ?_⟩
    cbv
    refine ⟨_, ht2, ?_⟩
    cbv
    refine br (fun g => ?_) (fun g => by rw [hrf] at g; cases g)
    cbv
    refine ⟨_, hv1, ?_⟩
    cbv
    refine ⟨_, hv2, ?_⟩
    cbv
    refine ⟨_, hs2, ?_⟩
    cbv
    refine br (fun _ => ?_) (fun g => by cases g)
    cbv
    refine ⟨_, hk1, ?_⟩
    cbv
    refine ⟨_, hk2, ?_⟩
    cbv
    refine ⟨_, hs3, ?_⟩
    cbv
    rw [← hr]; exact ⟨rfl, trivial⟩
theorem liveOrder_all (l : List Ev) (c : Int) (hc : 0 ≤ c) (key : ByteArray) : CSem Try.prog (.fn 13) [.sl (evR l), .v (.int .u64 c), aS key] (.pure [aB true]) := by
  by_cases h : l.length ≤ 200
  · exact liveOrder_ok l h _ rfl c hc key true rfl
  · exact bigOrder_ok l h _ rfl c key true rfl
end Go.Proofs.Ytljpmnifkccbdaa
set_option linter.unusedSimpArgs false
set_option linter.unusedVariables false
namespace Go.Proofs.Ytljpmnifkccbdaa
open Go Go.RowKit Am Go.Sort

theorem ins_perm {lt : Ev → Ev → Bool} (x : Ev) : ∀ l : List Ev, (ins lt x l).Perm (x :: l) := by
  intro l
  induction l with
  | nil => exact List.Perm.refl _
  | cons y l ih =>
    simp only [ins]
    split
    · exact List.Perm.refl _
    · exact (ih.cons y).trans (List.Perm.swap x y l)
theorem isort_perm {lt : Ev → Ev → Bool} (l : List Ev) : (isort lt l).Perm l := by
  have : ∀ (l acc : List Ev), (l.foldl (fun acc x => ins lt x acc) acc).Perm (acc ++ l) := by
    intro l
    induction l with
    | nil => intro acc; simp
    | cons x l ih =>
      intro acc
      refine (ih _).trans ?_
      refine ((ins_perm x acc).append_right l).trans ?_
      exact List.perm_middle.symm
  exact this l []
theorem liveP_twice (l : List Ev) : liveP (l ++ l) = liveP l := liveP_ext fun x => by simp
theorem liveAll_twice (l : List Ev) : liveAll (l ++ l) = isort ltE (l.filter (liveP l) ++ l.filter (liveP l)) := by
  unfold liveAll; rw [liveP_twice, List.filter_append]
theorem liveAll_twice_perm (l : List Ev) : (liveAll (l ++ l)).Perm (liveAll l ++ liveAll l) := by
  rw [liveAll_twice]
  exact (isort_perm _).trans ((isort_perm _).append (isort_perm _)).symm
theorem twice_len (l : List Ev) : (liveAll (l ++ l)).length = 2 * (liveAll l).length := by
  rw [(liveAll_twice_perm l).length_eq, List.length_append]; omega
theorem keysL_twice (l : List Ev) : keysL (l ++ l) = keysL l := by
  unfold keysL
  refine srt_ext fun x => ?_
  simp only [List.mem_map]
  have : ∀ e, e ∈ liveAll (l ++ l) ↔ e ∈ liveAll l := fun e => by rw [(liveAll_twice_perm l).mem_iff]; simp
  constructor
  · rintro ⟨e, he, h⟩; exact ⟨e, (this e).1 he, h⟩
  · rintro ⟨e, he, h⟩; exact ⟨e, (this e).2 he, h⟩
theorem ofL_twice (l : List Ev) (key : ByteArray) : ofL (l ++ l) key = liveAll (l.filter (keyP key) ++ l.filter (keyP key)) := by
  unfold ofL; rw [List.filter_append]
/-- The last one of a sorted list is the last of those that are alike. -/
theorem last_srt {l : List Ev} (hs : Srt ltE l) {x : Ev} (hx : l.getLast? = some x) : (l.filter (eqv ltE x)).getLast? = some x := by
  obtain ⟨ys, rfl⟩ := List.getLast?_eq_some_iff.1 hx
  rw [List.filter_append]
  have : [x].filter (eqv ltE x) = [x] := by simp [swo_ltE.eqv_self]
  rw [this]; simp
theorem max_srt {l : List Ev} (hs : Srt ltE l) {x y : Ev} (hx : l.getLast? = some x) (hy : y ∈ l) : ltE x y = false := by
  obtain ⟨ys, rfl⟩ := List.getLast?_eq_some_iff.1 hx
  rcases List.mem_append.1 hy with h | h
  · exact (List.pairwise_append.1 hs).2.2 y h x (List.mem_singleton.2 rfl)
  · rw [List.mem_singleton.1 h]; exact swo_ltE.irr x
theorem eqv_eq {x y z : Ev} (h : eqv ltE x y = true) : eqv ltE x z = eqv ltE y z := by
  have key : ∀ a b : Ev, eqv ltE a b = true ↔ (a.time = b.time ∧ a.dot.R = b.dot.R ∧ a.dot.N = b.dot.N) := fun a b => by
    simp only [eqv, Bool.and_eq_true, Bool.not_eq_true', Bool.eq_false_iff, ltE, ne_eq, later_iff]
    omega
  rw [Bool.eq_iff_iff, key, key]
  rw [key] at h
  omega
theorem last_twice (l : List Ev) : (isort ltE (l ++ l)).getLast? = (isort ltE l).getLast? := by
  obtain ⟨s1, p1, _⟩ := isort_ok swo_ltE l
  obtain ⟨s2, p2, _⟩ := isort_ok swo_ltE (l ++ l)
  cases h1 : (isort ltE l).getLast? with
  | none =>
    have h0 : isort ltE l = [] := by simpa using h1
    have : l = [] := by
      have := (isort_perm (lt := ltE) l).length_eq
      rw [h0] at this
      exact List.eq_nil_of_length_eq_zero this.symm
    subst this
    simp [isort]
  | some x =>
    cases h2 : (isort ltE (l ++ l)).getLast? with
    | none =>
      have h0 : isort ltE (l ++ l) = [] := by simpa using h2
      have h3 := (isort_perm (lt := ltE) (l ++ l)).length_eq
      rw [h0] at h3
      have : l = [] := List.eq_nil_of_length_eq_zero (by rw [List.length_append] at h3; simp only [List.length_nil] at h3; omega)
      subst this
      simp [isort] at h1
    | some y =>
      have hxm : x ∈ isort ltE l := List.mem_of_getLast? h1
      have hym : y ∈ isort ltE (l ++ l) := List.mem_of_getLast? h2
      have hxl : x ∈ isort ltE (l ++ l) := (isort_perm (lt := ltE) (l ++ l)).mem_iff.2 (List.mem_append_left _ ((isort_perm (lt := ltE) l).mem_iff.1 hxm))
      have hyl : y ∈ isort ltE l := (isort_perm (lt := ltE) l).mem_iff.2 (by
        have := (isort_perm (lt := ltE) (l ++ l)).mem_iff.1 hym
        simpa using this)
      have e1 := max_srt s1 h1 hyl
      have e2 := max_srt s2 h2 hxl
      have he : eqv ltE x y = true := by simp [eqv, e1, e2]
      have f1 := last_srt s1 h1
      have f2 := last_srt s2 h2
      rw [p1 x] at f1
      rw [p2 y, List.filter_append] at f2
      have hf : l.filter (eqv ltE y) = l.filter (eqv ltE x) := by
        congr 1
        funext z
        exact (eqv_eq he).symm
      rw [hf] at f2
      rw [List.getLast?_append, f1] at f2
      exact f2.symm
theorem ofT_twice (l : List Ev) (key : ByteArray) : ofT (l ++ l) key = ofT l key := by
  unfold ofT
  rw [ofL_twice, liveAll_twice, last_twice]
  rfl
theorem ofV_twice_len (l : List Ev) (key : ByteArray) : (ofV (l ++ l) key).length = 2 * (ofV l key).length := by
  unfold ofV
  rw [ofT_twice, ofL_twice, ((liveAll_twice_perm (l.filter (keyP key))).filter _).length_eq, List.filter_append, List.length_append]
  unfold ofL
  omega
theorem mulF2 {F : Sy} (hF : F = sy) (n : Nat) (n' : Int) (hn : n' = (n : Int)) (h : n ≤ 1000000000) : F .ar .mul .i64 2 n' = ((2 * n : Nat) : Int) := by
  rw [hF]; exact (wrap_in (by omega) (by omega)).trans (by omega)
theorem liveTwice_ok (l : List Ev) (rows : List (List AV)) (hrows : rows = evR l) (key : ByteArray) (r : Bool) (hr : true = r) : CSem Try.prog (.fn 14) [.sl rows, aS key] (.pure [aB r]) := by
  refine of_text gam_ok mixed { n := 60, keep := [19, 21, 23] } Try.func14 (by kernel_rfl) rfl rfl (by simp) (by decide) fun F C D hF hC hD => ?_
  have haw := hC _ _ _ (awake10_ok true rfl)
  obtain ⟨fb, hfb⟩ : ∃ fb, fb = few10 l := ⟨_, rfl⟩
  have hfew := hC _ _ _ (few10_ok l rows hrows fb hfb)
  have nt : F .bnot true = false := bnotF hF true
  have nf : F .bnot fb = !fb := bnotF hF fb
  obtain ⟨n', hn'⟩ : ∃ n', F .len rows = n' := ⟨_, rfl⟩
  have en : n' = (l.length : Int) := by rw [← hn', lenF hF, hrows, evR_len]
  have eg : F .cmp .gtr n' 100 = decide (100 < l.length) := by rw [hF]; simp [sy]; omega
  cbv
  refine ⟨_, haw, ?_⟩
  cbv
  refine brf (fun h1 => ?_) (fun h1 => by rw [nt] at h1; cases h1)
  cbv
  refine ⟨_, hfew, ?_⟩
  cbv
  refine brf (fun h2 => ?_) (fun h2 => ?_)
  rotate_left
  · cbv
    refine ⟨_, haw, ?_⟩
    cbv
    rw [← hr]; exact ⟨rfl, trivial⟩
  cbv
  rw [hn']
  refine br (fun h4 => ?_) (fun h4 => ?_)
  · cbv
    refine ⟨_, haw, ?_⟩
    cbv
    rw [← hr]; exact ⟨rfl, trivial⟩
  have hle : l.length ≤ 100 := by have := eg.symm.trans h4; simpa using this
  have hel : ∀ r ∈ rows, r.length = 26 := fun r h => by rw [hrows] at h; exact (evR_ev _ r h).len
  have en : n' = (l.length : Int) := en
  obtain ⟨R2, hR2⟩ : ∃ R2, R2 = F .app (F .app [] rows) rows := ⟨_, rfl⟩
  have e2 : R2 = evR (l ++ l) := by rw [hR2, hF, hrows]; simp [evR, sy]
  have b0 : F .len [] = 0 := by rw [lenF hF]; rfl
  have b1 : F .len (F .app [] rows) = (l.length : Int) := by
    have : F .app [] rows = rows := by rw [hF]; rfl
    rw [this, lenF hF, hrows, evR_len]
  have m1 : (F .len [] + F .len rows) * 232 ≤ 140737488355328 := by rw [b0, hn']; omega
  have m2 : (F .len (F .app [] rows) + F .len rows) * 232 ≤ 140737488355328 := by rw [b1, hn']; omega
  have hll : (l ++ l).length ≤ 100000000 := by simp; omega
  obtain ⟨t, ht⟩ : ∃ t, t = ofT l key := ⟨_, rfl⟩
  have ht1 := hC _ _ _ (type_ok l (by omega) key rows hrows t ht)
  have ht2 := hC _ _ _ (type_ok (l ++ l) hll key R2 e2 t (by rw [ofT_twice]; exact ht))
  obtain ⟨Q, hQ⟩ : ∃ Q, Q = sR (keysL l) := ⟨_, rfl⟩
  have hk1 := hC _ _ _ (keys_ok l (by omega) rows hrows Q hQ)
  have hk2 := hC _ _ _ (keys_ok (l ++ l) hll R2 e2 Q (by rw [keysL_twice]; exact hQ))
  have hs3 := hC _ _ _ (texts_ok (keysL l) (keysL l) (by have := keysL_len l; omega) (by have := keysL_len l; omega) Q Q hQ hQ true (by simp))
  obtain ⟨A, hA⟩ : ∃ A, A = evR (liveAll l) := ⟨_, rfl⟩
  obtain ⟨B, hB⟩ : ∃ B, B = evR (liveAll (l ++ l)) := ⟨_, rfl⟩
  have ha1 := hC _ _ _ (liveAll_ok l (by omega) rows hrows A hA)
  have ha2 := hC _ _ _ (liveAll_ok (l ++ l) hll R2 e2 B hB)
  obtain ⟨V, hV⟩ : ∃ V, V = evR (ofV l key) := ⟨_, rfl⟩
  obtain ⟨U, hU⟩ : ∃ U, U = evR (ofV (l ++ l) key) := ⟨_, rfl⟩
  have hv1 := hC _ _ _ (ofLive_ok l (by omega) key rows hrows V hV)
  have hv2 := hC _ _ _ (ofLive_ok (l ++ l) hll key R2 e2 U hU)
  have hrf : F .cmp .eql t t = true := by rw [hF]; simp [sy]
  obtain ⟨na, hna⟩ : ∃ na, F .len A = na := ⟨_, rfl⟩
  obtain ⟨nb, hnb⟩ : ∃ nb, F .len B = nb := ⟨_, rfl⟩
  obtain ⟨nv, hnv⟩ : ∃ nv, F .len V = nv := ⟨_, rfl⟩
  obtain ⟨nu, hnu⟩ : ∃ nu, F .len U = nu := ⟨_, rfl⟩
  have la := liveAll_len l
  have lv := ofV_len l key
  have q1 : F .cmp .eql (F .ar .mul .i64 2 na) nb = true := by
    rw [mulF2 hF (liveAll l).length na (by rw [← hna, lenF hF, hA, evR_len]) (by omega), ← hnb, lenF hF, hB, evR_len, twice_len, hF]; simp [sy]
  have q2 : F .cmp .eql (F .ar .mul .i64 2 nv) nu = true := by
    rw [mulF2 hF (ofV l key).length nv (by rw [← hnv, lenF hF, hV, evR_len]) (by omega), ← hnu, lenF hF, hU, evR_len, ofV_twice_len, hF]; simp [sy]
  cbv
  refine ⟨hel, m1, hel, m2, ?_⟩
  rw [← hR2]
  refine ⟨_, ht1, ?_⟩
  cbv
  refine ⟨_, ht2, ?_⟩
  cbv
  refine br (fun g => ?_) (fun g => by rw [hrf] at g; cases g)
  cbv
  refine ⟨_, hk1, ?_⟩
  cbv
  refine ⟨_, hk2, ?_⟩
  cbv
  refine ⟨_, hs3, ?_⟩
  cbv
  refine br (fun _ => ?_) (fun g => by cases g)
  cbv
  refine ⟨_, ha1, ?_⟩
  cbv
  refine ⟨_, ha2, ?_⟩
  cbv
  rw [hna, hnb]
  refine br (fun _ => ?_) (fun g => by rw [q1] at g; cases g)
  cbv
  refine ⟨_, hv1, ?_⟩
  cbv
  refine ⟨_, hv2, ?_⟩
  cbv
  rw [hnv, hnu, q2, ← hr]
  exact ⟨rfl, trivial⟩
theorem liveTwice_all (l : List Ev) (key : ByteArray) : CSem Try.prog (.fn 14) [.sl (evR l), aS key] (.pure [aB true]) := liveTwice_ok l _ rfl key true rfl
end Go.Proofs.Ytljpmnifkccbdaa
