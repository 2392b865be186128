import Derived.Test.YtdmdahnnfancpaaH7
set_option linter.unusedSimpArgs false
set_option linter.unusedVariables false
namespace Go.Proofs.Ytdmdahnnfancpaa
open Go Go.RowKit Am

/-! ### The reference's All -/
theorem rise_ext {a b : List Str} (ha : a.Pairwise (· < ·)) (hb : b.Pairwise (· < ·)) (h : ∀ x, x ∈ a ↔ x ∈ b) : a = b := by
  have nd : ∀ {l : List Str}, l.Pairwise (· < ·) → l.Nodup := fun h => h.imp fun {x y} hlt he => by rw [he] at hlt; exact absurd hlt (List.lt_irrefl _)
  exact List.Perm.eq_of_pairwise (le := (· < ·)) (fun x y _ _ h1 h2 => absurd (List.lt_trans h1 h2) (List.lt_irrefl _)) ha hb ((List.perm_ext_iff_of_nodup (nd ha) (nd hb)).2 h)
theorem srtK_rise {ks : List ByteArray} (hn : ks.Nodup) : (srtK ks).Pairwise (· < ·) := by
  have tr : ∀ (a b c : List UInt8), decide (a ≤ b) = true → decide (b ≤ c) = true → decide (a ≤ c) = true := fun a b c h1 h2 => decide_eq_true (List.le_trans (of_decide_eq_true h1) (of_decide_eq_true h2))
  have to : ∀ (a b : List UInt8), (decide (a ≤ b) || decide (b ≤ a)) = true := fun a b => by
    rcases List.le_total a b with h | h <;> simp [h]
  have h1 : (srtK ks).Pairwise fun x y => decide (x ≤ y) = true := List.pairwise_mergeSort tr to _
  have h2 : (srtK ks).Nodup := by
    rw [(srtK_perm ks).nodup_iff]
    unfold List.Nodup at hn ⊢
    rw [List.pairwise_map]
    exact hn.imp fun h e => h (L_inj e)
  refine (List.pairwise_and_iff.2 ⟨h1, h2⟩).imp ?_
  rintro x y ⟨g1, g2⟩
  rcases Classical.em (x < y) with h | h
  · exact h
  · exact absurd (List.le_antisymm (of_decide_eq_true g1) (List.not_lt.1 h)) g2
theorem srtK_mem (ks : List ByteArray) (x : Str) : x ∈ srtK ks ↔ BA x ∈ ks := by
  rw [(srtK_perm ks).mem_iff, List.mem_map]
  constructor
  · rintro ⟨k, hk, rfl⟩; rw [BA_L]; exact hk
  · intro h; exact ⟨BA x, h, rfl⟩
def nameF (k5 : Int) (l : List Ev) : List Str := ((l.filter fun e => decide (e.op.kind = k5)).map fun e => kOf e.op.fld).foldl withS []
theorem nameF_step {k5 : Int} {l : List Ev} {i : Nat} {e : Ev} (h : l[i]? = some e) : nameF k5 (l.take (i + 1)) = if e.op.kind = k5 then withS (nameF k5 (l.take i)) (kOf e.op.fld) else nameF k5 (l.take i) := by
  unfold nameF
  rw [List.take_add_one, h, List.filter_append]
  by_cases h5 : e.op.kind = k5
  · rw [if_pos h5]
    simp [h5]
  · rw [if_neg h5]
    simp [h5]
theorem nameF_mem (k5 : Int) (l : List Ev) (x : Str) : x ∈ nameF k5 l ↔ ∃ e ∈ l, e.op.kind = k5 ∧ kOf e.op.fld = x := by
  unfold nameF
  rw [(withs_ok _ [] List.Pairwise.nil).2]
  simp [List.mem_filter, and_assoc]
theorem nameF_rise (k5 : Int) (l : List Ev) : (nameF k5 l).Pairwise (· < ·) := (withs_ok _ [] List.Pairwise.nil).1
theorem nameF_le (k5 : Int) (l : List Ev) : (nameF k5 l).length ≤ l.length := by
  have key : ∀ (m acc : List Str), (m.foldl withS acc).length ≤ acc.length + m.length := by
    intro m
    induction m with
    | nil => intro acc; simp
    | cons a m ih =>
      intro acc
      rw [List.foldl_cons]
      have h1 := ih (withS acc a)
      have h2 : (withS acc a).length ≤ acc.length + 1 := by
        unfold withS wEnd
        have h3 := wS_len a acc
        split
        · omega
        · cases hf : (wS a acc).1 with
          | true => rw [if_pos rfl]; exact h3.1
          | false => rw [if_neg (by simp), List.length_append, h3.2 hf]; simp
      simp only [List.length_cons]
      omega
  have h := key ((l.filter fun e => decide (e.op.kind = k5)).map fun e => kOf e.op.fld) []
  have h2 := List.length_filter_le (fun e => decide (e.op.kind = k5)) l
  simp only [List.length_map, List.length_nil] at h
  unfold nameF
  omega
theorem names_eq (l : List Ev) : nameF 5 l = srtK (keysH l) := by
  refine rise_ext (nameF_rise 5 l) (srtK_rise (keysH_nd l)) fun x => ?_
  rw [nameF_mem, srtK_mem, keysH_mem]
  constructor
  · rintro ⟨e, h1, h2, h3⟩; exact ⟨e, h1, h2, by rw [← h3]; exact (BA_L _).symm⟩
  · rintro ⟨e, h1, h2, h3⟩; exact ⟨e, h1, h2, by rw [h3]; rfl⟩
set_option maxHeartbeats 8000000 in
theorem rallF_ok (l : List Ev) (hl : l.length ≤ 1000) (rows : List (List AV)) (hrows : rows = evR l) (out : List (List AV)) (hout : out = pfR (allH l)) : CSem Try.prog (.fn 29) [.sl rows] (.own 77 2 out []) := by
  refine of_text gam_ok mixed { n := 55, keep := [52] } Try.func29 (by kernel_rfl) rfl rfl (by simp) (by decide) fun F C D hF hC hD => ?_
  obtain ⟨n', hn'⟩ : ∃ n' : Int, F .len rows = n' := ⟨_, rfl⟩
  have en : n' = (l.length : Int) := by rw [← hn', lenF hF, hrows, evR_len]
  cbv
  rw [hn']
  refine ⟨Nat × Int × List (List AV), fun x => { slots := [(11, aI x.2.1), (10, aI n'), (3, .sl x.2.2), (2, .v (.slice none 0 0)), (0, .sl rows)], obs := [], ctr := 0 }, fun x => x.2.1 = (x.1 : Int) ∧ x.1 ≤ l.length ∧ x.2.2 = sR (nameF 5 (l.take x.1)), fun x => l.length - x.1, ⟨(0, 0, []), ⟨rfl, Nat.zero_le _, rfl⟩, Le.trans (le_nilS 3 (by rfl)) (le_of [] (by simp [leSl, leOb, injK, memK, parK, noTup, lk, rn0, rnA, plain] <;> first | rfl | decide))⟩, fun x hx => ?_⟩
  obtain ⟨i, i', N⟩ := x
  obtain ⟨ei, hi, hN⟩ := hx
  simp only at ei hi hN
  have en : n' = (l.length : Int) := en
  have tl := ltF hF i l.length i' n' ei en
  obtain ⟨i2, hi2⟩ : ∃ i2, F .ar .add .i64 i' 1 = i2 := ⟨_, rfl⟩
  have ei2 : i2 = ((i + 1 : Nat) : Int) := hi2.symm.trans (incF hF ei (by omega))
  by_cases hil : i < l.length
  · have tl : F .cmp .lss i' n' = true := tl.2 hil
    obtain ⟨e, he⟩ : ∃ s, l[i]? = some s := ⟨_, List.getElem?_eq_getElem hil⟩
    have hrow : rows[i]? = some e.ac := by rw [hrows]; exact evR_get he
    have hmu : l.length - (i + 1) < l.length - i := by omega
    have t5 : F .cmp .eql e.op.kind 5 = decide (e.op.kind = 5) := eqF hF _ _
    have hst := nameF_step (k5 := 5) he
    by_cases h5 : e.op.kind = 5
    · have t5 : F .cmp .eql e.op.kind 5 = true := by rw [t5]; exact decide_eq_true h5
      rw [if_pos h5] at hst
      obtain ⟨N2, hN2⟩ : ∃ x, x = sR (withS (nameF 5 (l.take i)) (kOf e.op.fld)) := ⟨_, rfl⟩
      have hw := hC _ _ _ (with_ok (nameF 5 (l.take i)) (by have := nameF_le 5 (l.take i); rw [List.length_take] at this; omega) e.op.fld N hN N2 hN2)
      have hN3 : N2 = sR (nameF 5 (l.take (i + 1))) := by rw [hst]; exact hN2
      clear hst hN2 hN
      cbv
      refine bT (tl) ?_
      cbv
      refine ⟨i, _, ei, hrow, rfl, ?_⟩
      cbv
      refine bT (t5) ?_
      cbv
      refine ⟨i, _, ei, hrow, rfl, ?_⟩
      cbv
      refine ⟨_, hw, ?_⟩
      cbv
      rw [hi2]
      exact ⟨(i + 1, i2, N2), ⟨ei2, hil, hN3⟩, hmu, (le_of [] (by simp [leSl, leOb, injK, memK, parK, noTup, lk, rn0, rnA, plain] <;> first | rfl | decide))⟩
    · have t5 : F .cmp .eql e.op.kind 5 = false := by rw [t5]; exact decide_eq_false h5
      rw [if_neg h5] at hst
      have hN3 : N = sR (nameF 5 (l.take (i + 1))) := by rw [hst]; exact hN
      clear hst hN
      cbv
      refine bT (tl) ?_
      cbv
      refine ⟨i, _, ei, hrow, rfl, ?_⟩
      cbv
      refine bF (t5) ?_
      cbv
      rw [hi2]
      exact ⟨(i + 1, i2, N), ⟨ei2, hil, hN3⟩, hmu, (le_of [] (by simp [leSl, leOb, injK, memK, parK, noTup, lk, rn0, rnA, plain] <;> first | rfl | decide))⟩
  · have tl : F .cmp .lss i' n' = false := by cases h : F .cmp .lss i' n' with | true => exact absurd (tl.1 h) hil | false => rfl
    rw [List.take_of_length_le (by omega), names_eq] at hN
    have hKl : (srtK (keysH l)).length = (allH l).length := by rw [allH_len, (srtK_perm _).length_eq, List.length_map]
    have hKn : (srtK (keysH l)).length ≤ 1000 := by rw [(srtK_perm _).length_eq, List.length_map]; exact Nat.le_trans (keysH_le l) hl
    have hat : ∀ (j : Nat) (k : List UInt8), (srtK (keysH l))[j]? = some k → (allH l)[j]? = some (BA k, valH l (BA k)) ∧ N[j]? = some [aS (BA k)] := fun j k hk => by
      refine ⟨?_, by rw [hN]; exact sR_get hk⟩
      unfold allH
      rw [List.getElem?_map, hk]; rfl
    obtain ⟨m, hm⟩ : ∃ n' : Int, F .len N = n' := ⟨_, rfl⟩
    have em : m = ((srtK (keysH l)).length : Int) := by rw [← hm, lenF hF, hN, sR_len]
    obtain ⟨KS, hKS⟩ : ∃ K, K = srtK (keysH l) := ⟨_, rfl⟩
    rw [← hKS] at hKl hKn hat em
    obtain ⟨T, hT⟩ : ∃ T, T = allH l := ⟨_, rfl⟩
    rw [← hT] at hKl hat hout
    clear hN hKS hT
    cbv
    refine bF (tl) ?_
    cbv
    rw [hm]
    refine ⟨Nat × Int × List (List AV), fun x => { slots := [(32, aI x.2.1), (31, aI m), (5, .own 0 0), (3, .sl N), (2, .v (.slice none 0 0)), (0, .sl rows)], obs := [(0, .row 77 2 x.2.2 0 0)], ctr := 1 }, fun x => x.2.1 = (x.1 : Int) ∧ x.1 ≤ KS.length ∧ x.2.2 = pfR (T.take x.1), fun x => KS.length - x.1, ⟨(0, 0, []), ⟨rfl, Nat.zero_le _, rfl⟩, Le.trans (le_nil 5 77 2 (by rfl) (by rfl)) (le_of [] (by simp [leSl, leOb, injK, memK, parK, noTup, lk, rn0, rnA, plain] <;> first | rfl | decide))⟩, fun x hx => ?_⟩
    obtain ⟨j, j', ow⟩ := x
    obtain ⟨ej, hj, how⟩ := hx
    simp only at ej hj how
    have em : m = (KS.length : Int) := em
    have tl := ltF hF j KS.length j' m ej em
    obtain ⟨j2, hj2⟩ : ∃ i2, F .ar .add .i64 j' 1 = i2 := ⟨_, rfl⟩
    have ej2 : j2 = ((j + 1 : Nat) : Int) := hj2.symm.trans (incF hF ej (by omega))
    by_cases hjl : j < KS.length
    · have tl : F .cmp .lss j' m = true := tl.2 hjl
      obtain ⟨k, hk⟩ : ∃ s, KS[j]? = some s := ⟨_, List.getElem?_eq_getElem hjl⟩
      obtain ⟨hTj, hrow⟩ := hat j k hk
      obtain ⟨s, hs⟩ : ∃ s, s = BA k := ⟨_, rfl⟩
      rw [← hs] at hrow hTj
      obtain ⟨v, q, g1, g2, hv⟩ : ∃ (v : ByteArray) (q : Bool), (∀ e, getH l s = some e → v = e.op.val ∧ q = true) ∧ (getH l s = none → v = BA [] ∧ q = false) ∧ v = valH l s := by
        unfold valH
        cases h : getH l s with
        | none => exact ⟨BA [], false, (fun e h => by cases h), (fun _ => ⟨rfl, rfl⟩), rfl⟩
        | some e => exact ⟨e.op.val, true, (fun e' h => by injection h with h; rw [h]; exact ⟨rfl, rfl⟩), (fun h => by cases h), rfl⟩
      have hget := hC _ _ _ (rgetF_ok l hl rows hrows s v q g1 g2)
      rw [← hv] at hTj
      have hmu : KS.length - (j + 1) < KS.length - j := by omega
      obtain ⟨o2, ho2⟩ : ∃ x, x = F .app ow [[aS s, aS v]] := ⟨_, rfl⟩
      have how2 : o2 = pfR (T.take (j + 1)) := by rw [ho2, List.take_add_one, hTj, hF, how]; show pfR _ ++ _ = _; rw [show (some (s, v)).toList = [(s, v)] from rfl, pfR_snoc]
      have hrm : (F .len ow + F .len [[aS s, aS v]]) * 32 ≤ 140737488355328 := by rw [lenF hF, lenF hF, how, pfR_len, List.length_take]; simp only [List.length_singleton]; omega
      have hel : ∀ r ∈ [[aS s, aS v]], r.length = 2 := fun r h => by rw [List.mem_singleton.1 h]; rfl
      clear hat hs how hTj hv g1 g2
      cbv
      refine bT (tl) ?_
      cbv
      refine ⟨j, _, ej, hrow, rfl, ?_⟩
      cbv
      refine ⟨_, hget, ?_⟩
      cbv
      refine ⟨j, _, ej, hrow, rfl, ?_⟩
      cbv
      refine ⟨hel, hrm, ?_⟩
      cbv
      rw [hj2]
      exact ⟨(j + 1, j2, o2), ⟨ej2, hjl, how2⟩, hmu, le_of [(0, 1)] (by simp [leSl, leOb, injK, memK, parK, noTup, lk, rn0, rnA, plain]; repeat (first | exact ho2.symm | refine And.intro ?_ ?_ | rfl | trivial))⟩
    · have tl : F .cmp .lss j' m = false := by cases h : F .cmp .lss j' m with | true => exact absurd (tl.1 h) hjl | false => rfl
      have how : ow = out := by rw [how, hout, List.take_of_length_le (by omega)]
      subst how
      clear hat hout
      cbv
      refine bF (tl) ?_
      cbv
      try simp
end Go.Proofs.Ytdmdahnnfancpaa
