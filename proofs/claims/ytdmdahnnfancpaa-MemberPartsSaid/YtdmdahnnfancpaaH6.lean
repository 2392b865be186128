import Derived.Test.YtdmdahnnfancpaaH5
set_option linter.unusedSimpArgs false
set_option linter.unusedVariables false
namespace Go.Proofs.Ytdmdahnnfancpaa
open Go Go.RowKit Am

/-! ### Strings put into a list that rises -/
abbrev Str := List UInt8
def kOf (s : ByteArray) : Str := s.data.toList
theorem kOf_inj {a b : ByteArray} : kOf a = kOf b ↔ a = b := ⟨fun h => L_inj h, fun h => by rw [h]⟩
theorem sR_at {l : List Str} {i : Nat} {s : Str} (h : l[i]? = some s) : ∃ a : ByteArray, kOf a = s ∧ (sR l)[i]? = some [aS a] := ⟨BA s, rfl, sR_get h⟩
def wS (k : Str) (l : List Str) : Bool × List Str := l.foldl (fun a x => if (!a.1 && decide (k < x)) = true then (true, a.2 ++ [k] ++ [x]) else (a.1, a.2 ++ [x])) (false, [])
theorem wS_snoc (k : Str) (l : List Str) (x : Str) : wS k (l ++ [x]) = if (!(wS k l).1 && decide (k < x)) = true then (true, (wS k l).2 ++ [k] ++ [x]) else ((wS k l).1, (wS k l).2 ++ [x]) := by
  unfold wS; rw [List.foldl_append]; rfl
def wEnd (k : Str) (l : List Str) : List Str := if (wS k l).1 = true then (wS k l).2 else (wS k l).2 ++ [k]
def withS (l : List Str) (k : Str) : List Str := if k ∈ l then l else wEnd k l
theorem wS_len (k : Str) (l : List Str) : (wS k l).2.length ≤ l.length + 1 ∧ ((wS k l).1 = false → (wS k l).2.length = l.length) := by
  have : ∀ n (l : List Str), l.length = n → (wS k l).2.length ≤ l.length + 1 ∧ ((wS k l).1 = false → (wS k l).2.length = l.length) := by
    intro n
    induction n with
    | zero => intro l h; rw [List.eq_nil_of_length_eq_zero h]; simp [wS]
    | succ n ih =>
      intro l h
      have hne : l ≠ [] := fun e => by rw [e] at h; simp at h
      obtain ⟨l', x, rfl⟩ : ∃ l' x, l = l' ++ [x] := ⟨l.dropLast, l.getLast hne, (List.dropLast_concat_getLast hne).symm⟩
      obtain ⟨h1, h2⟩ := ih l' (by simp at h; exact h)
      rw [wS_snoc]
      split
      · rename_i hc
        simp only [Bool.and_eq_true, Bool.not_eq_true'] at hc
        have := h2 hc.1
        simp; omega
      · simp only [List.length_append, List.length_singleton]
        refine ⟨by omega, fun h => by have := h2 h; omega⟩
  exact this _ l rfl
theorem lt_of_ne {x k : Str} (h1 : ¬ k < x) (h2 : x ≠ k) : x < k := by
  rcases Classical.em (x < k) with h | h
  · exact h
  · exact absurd (List.le_antisymm (List.not_lt.1 h1) (List.not_lt.1 h)) h2
theorem wS_ok (k : Str) : ∀ n (l : List Str), l.length = n → l.Pairwise (· < ·) → k ∉ l →
    ((wS k l).1 = false → (wS k l).2 = l ∧ ∀ x ∈ l, x < k) ∧ ((wS k l).1 = true → (wS k l).2.Pairwise (· < ·) ∧ (∀ x, x ∈ (wS k l).2 ↔ x = k ∨ x ∈ l) ∧ ∃ y ∈ l, k < y) := by
  intro n
  induction n with
  | zero => intro l h _ _; rw [List.eq_nil_of_length_eq_zero h]; simp [wS]
  | succ n ih =>
    intro l h hp hk
    have hne : l ≠ [] := fun e => by rw [e] at h; simp at h
    obtain ⟨l', x, rfl⟩ : ∃ l' x, l = l' ++ [x] := ⟨l.dropLast, l.getLast hne, (List.dropLast_concat_getLast hne).symm⟩
    obtain ⟨p1, p2, p3⟩ := List.pairwise_append.1 hp
    have hk' : k ∉ l' := fun h => hk (List.mem_append_left _ h)
    have hkx : x ≠ k := fun e => hk (by rw [e]; simp)
    obtain ⟨h1, h2⟩ := ih l' (by simp at h; exact h) p1 hk'
    rw [wS_snoc]
    cases hf : (wS k l').1 with
    | false =>
      obtain ⟨e1, e2⟩ := h1 hf
      by_cases hx : k < x
      · rw [if_pos (by simp [hx])]
        refine ⟨fun h => by simp at h, fun _ => ⟨?_, fun z => ?_, x, by simp, hx⟩⟩
        · rw [e1]
          refine List.pairwise_append.2 ⟨List.pairwise_append.2 ⟨p1, by simp, fun a ha b hb => ?_⟩, by simp, fun a ha b hb => ?_⟩
          · rw [List.mem_singleton.1 hb]; exact e2 a ha
          · rw [List.mem_singleton.1 hb]
            rcases List.mem_append.1 ha with h | h
            · exact p3 a h x (by simp)
            · rw [List.mem_singleton.1 h]; exact hx
        · rw [e1]; simp only [List.mem_append, List.mem_singleton]
          constructor
          · rintro ((h | h) | h)
            · exact .inr (.inl h)
            · exact .inl h
            · exact .inr (.inr h)
          · rintro (h | h | h)
            · exact .inl (.inr h)
            · exact .inl (.inl h)
            · exact .inr h
      · rw [if_neg (by simp [hx])]
        refine ⟨fun _ => ⟨by rw [e1], fun z hz => ?_⟩, fun h => by simp at h⟩
        rcases List.mem_append.1 hz with h | h
        · exact e2 z h
        · rw [List.mem_singleton.1 h]; exact lt_of_ne hx hkx
    | true =>
      obtain ⟨q1, q2, y, hy, hky⟩ := h2 hf
      rw [if_neg (by simp)]
      refine ⟨fun h => by simp at h, fun _ => ⟨?_, fun z => ?_, y, List.mem_append_left _ hy, hky⟩⟩
      · refine List.pairwise_append.2 ⟨q1, by simp, fun a ha b hb => ?_⟩
        rw [List.mem_singleton.1 hb]
        rcases (q2 a).1 ha with h | h
        · rw [h]; exact List.lt_trans hky (p3 y hy x (by simp))
        · exact p3 a h x (by simp)
      · simp only [List.mem_append, List.mem_singleton, q2]
        constructor
        · rintro ((h | h) | h)
          · exact .inl h
          · exact .inr (.inl h)
          · exact .inr (.inr h)
        · rintro (h | h | h)
          · exact .inl (.inl h)
          · exact .inl (.inr h)
          · exact .inr h
theorem withS_ok {l : List Str} {k : Str} (hp : l.Pairwise (· < ·)) : (withS l k).Pairwise (· < ·) ∧ ∀ x, x ∈ withS l k ↔ x = k ∨ x ∈ l := by
  unfold withS
  by_cases h : k ∈ l
  · rw [if_pos h]
    exact ⟨hp, fun x => ⟨.inr, fun h1 => by rcases h1 with h1 | h1; rw [h1]; exact h; exact h1⟩⟩
  · rw [if_neg h, wEnd]
    obtain ⟨h1, h2⟩ := wS_ok k _ l rfl hp h
    cases hf : (wS k l).1 with
    | false =>
      obtain ⟨e1, e2⟩ := h1 hf
      rw [if_neg (by simp), e1]
      refine ⟨List.pairwise_append.2 ⟨hp, by simp, fun a ha b hb => by rw [List.mem_singleton.1 hb]; exact e2 a ha⟩, fun x => ?_⟩
      rw [List.mem_append, List.mem_singleton, or_comm]
    | true =>
      obtain ⟨q1, q2, _⟩ := h2 hf
      rw [if_pos rfl]
      exact ⟨q1, q2⟩
theorem withs_ok : ∀ (l acc : List Str), acc.Pairwise (· < ·) → (l.foldl withS acc).Pairwise (· < ·) ∧ ∀ x, x ∈ l.foldl withS acc ↔ x ∈ acc ∨ x ∈ l := by
  intro l
  induction l with
  | nil => intro acc h; exact ⟨h, fun x => by simp⟩
  | cons a l ih =>
    intro acc h
    obtain ⟨h1, h2⟩ := withS_ok (k := a) h
    obtain ⟨g1, g2⟩ := ih _ h1
    refine ⟨g1, fun x => ?_⟩
    rw [List.foldl_cons, g2, h2, List.mem_cons]
    constructor
    · rintro ((h | h) | h)
      · exact .inr (.inl h)
      · exact .inl h
      · exact .inr (.inr h)
    · rintro (h | h | h)
      · exact .inl (.inr h)
      · exact .inl (.inl h)
      · exact .inr h
theorem gtrS {F : Sy} (hF : F = sy) (a b : ByteArray) : F .scmp .gtr a b = decide (kOf b < kOf a) := by
  have h1 : a.toList = kOf a := ByteArray.toList_eq a
  have h2 : b.toList = kOf b := ByteArray.toList_eq b
  rw [hF]
  show (!(Op.bytesLess a.toList b.toList || a.toList == b.toList)) = _
  rw [h1, h2, bytesLess_eq, Bool.eq_iff_iff]
  simp only [Bool.not_eq_true', Bool.or_eq_false_iff, decide_eq_false_iff_not, beq_eq_false_iff_ne, decide_eq_true_eq]
  constructor
  · rintro ⟨g1, g2⟩
    exact lt_of_ne g1 (fun e => g2 e.symm)
  · intro g
    exact ⟨fun g1 => absurd (List.lt_trans g g1) (List.lt_irrefl _), fun e => by rw [e] at g; exact absurd g (List.lt_irrefl _)⟩
theorem eqlS {F : Sy} (hF : F = sy) (a b : ByteArray) : F .scmp .eql a b = decide (kOf a = kOf b) := by
  have h1 : a.toList = kOf a := ByteArray.toList_eq a
  have h2 : b.toList = kOf b := ByteArray.toList_eq b
  rw [hF]
  show (a.toList == b.toList) = _
  rw [h1, h2, Bool.beq_eq_decide_eq]
abbrev sh53 (i' n' : Int) (f : Bool) (key : ByteArray) (rows out : List (List AV)) : St := { slots := [(10, aI i'), (9, aI n'), (6, aB f), (0, .sl rows), (1, aS key), (5, .own 0 0)], obs := [(0, .row 9 1 out 0 0)], ctr := 1 }
theorem sR_app (l : List Str) (a : ByteArray) : sR l ++ [[aS a]] = sR (l ++ [kOf a]) := by simp [sR]; exact (BA_L a).symm
theorem with_ok (l : List Str) (hl : l.length ≤ 100000000) (key : ByteArray) (rows : List (List AV)) (hrows : rows = sR l) (out : List (List AV)) (hout : out = sR (withS l (kOf key))) : CSem Try.prog (.fn 53) [.sl rows, aS key] (.pure [.sl out]) := by
  refine of_text gam_ok mixed { n := 49, keep := [33, 40, 47] } Try.func53 (by kernel_rfl) rfl rfl (by simp) (by decide) fun F C D hF hC hD => ?_
  obtain ⟨n', hn'⟩ : ∃ n', F .len rows = n' := ⟨_, rfl⟩
  have en : n' = (l.length : Int) := by rw [← hn', lenF hF, hrows, sR_len]
  obtain ⟨k, hk⟩ : ∃ k, k = kOf key := ⟨_, rfl⟩
  rw [← hk] at hout
  cbv
  rw [hn']
  refine ⟨Nat × Int × Bool × List (List AV), fun x => sh53 x.2.1 n' x.2.2.1 key rows x.2.2.2, fun x => x.2.1 = (x.1 : Int) ∧ x.1 ≤ l.length ∧ x.2.2.1 = (wS k (l.take x.1)).1 ∧ x.2.2.2 = sR (wS k (l.take x.1)).2 ∧ k ∉ l.take x.1, fun x => l.length - x.1, ⟨(0, 0, false, []), ⟨rfl, Nat.zero_le _, by simp [wS], by simp [wS, sR], by simp⟩, Le.trans (le_nil 5 9 1 (by rfl) (by rfl)) (le_of [] (by simp [leSl, leOb, injK, memK, parK, noTup, lk, rn0, rnA, plain, aI]))⟩, fun x hx => ?_⟩
  obtain ⟨i, i', f, o⟩ := x
  obtain ⟨ei, hi, hf, ho, hnk⟩ := hx
  simp only at ei hi hf ho hnk
  have en : n' = (l.length : Int) := en
  have tl := ltF hF i l.length i' n' ei en
  have ep := incF hF ei (by omega)
  have hwl := (wS_len k (l.take i)).1
  have hol : o.length ≤ l.length + 1 := by rw [ho, sR_len]; simp at hwl; omega
  obtain ⟨j, hj⟩ : ∃ j, F .ar .add .i64 i' 1 = j := ⟨_, rfl⟩
  have ej : j = ((i + 1 : Nat) : Int) := hj.symm.trans ep
  have nf : F .bnot f = !f := bnotF hF f
  cbv
  refine br (fun h => ?_) (fun h => ?_) <;> cbv
  · have hil := tl.1 h
    obtain ⟨s, hs⟩ : ∃ s, l[i]? = some s := ⟨_, List.getElem?_eq_getElem hil⟩
    obtain ⟨a, ha, hrow⟩ := sR_at hs
    rw [← hrows] at hrow
    have htake : l.take (i + 1) = l.take i ++ [s] := by rw [List.take_add_one, hs]; rfl
    have hw := wS_snoc k (l.take i) s
    rw [← htake, ← hf] at hw
    have heq := eqlS hF a key
    have hgt := gtrS hF a key
    rw [ha, ← hk] at heq hgt
    obtain ⟨o1, ho1⟩ : ∃ o1, o1 = F .app o [[aS a]] := ⟨_, rfl⟩
    obtain ⟨o2, ho2⟩ : ∃ o2, o2 = F .app o [[aS key]] := ⟨_, rfl⟩
    obtain ⟨o3, ho3⟩ : ∃ o3, o3 = F .app o2 [[aS a]] := ⟨_, rfl⟩
    have e1 : o1 = sR ((wS k (l.take i)).2 ++ [s]) := by rw [ho1, hF, ho, ← ha]; exact sR_app _ _
    have e2 : o2 = sR ((wS k (l.take i)).2 ++ [k]) := by rw [ho2, hF, ho, hk]; exact sR_app _ _
    have e3 : o3 = sR ((wS k (l.take i)).2 ++ [k] ++ [s]) := by rw [ho3, e2, hF, ← ha]; exact sR_app _ _
    have hb : ∀ q : List (List AV), ∀ c, q.length = 1 → c = o ∨ c = o2 → (F .len c + F .len q) * 16 ≤ 140737488355328 := fun q c hq hc => by
      have h2 : o2.length = o.length + 1 := by rw [ho2, hF]; simp [sy]
      rw [lenF hF, lenF hF, hq]
      rcases hc with rfl | rfl <;> omega
    have b1 := hb [[aS a]] o rfl (.inl rfl)
    have b2 := hb [[aS key]] o rfl (.inl rfl)
    have b3 := hb [[aS a]] o2 rfl (.inr rfl)
    have h1a : ∀ r ∈ [[aS a]], r.length = 1 := fun r h => by rw [List.mem_singleton.1 h]; rfl
    have h1k : ∀ r ∈ [[aS key]], r.length = 1 := fun r h => by rw [List.mem_singleton.1 h]; rfl
    refine ⟨i, [aS a], ei, hrow, rfl, ?_⟩
    cbv
    refine br (fun g => ?_) (fun g => ?_) <;> cbv
    · have hsk : s = k := of_decide_eq_true (heq.symm.trans g)
      have : rows = out := by rw [hout, withS, if_pos (by rw [← hsk]; exact List.mem_of_getElem? hs), hrows]
      rw [this]; exact ⟨rfl, trivial⟩
    have hsk : s ≠ k := of_decide_eq_false (heq.symm.trans g)
    have hnk2 : k ∉ l.take (i + 1) := by
      rw [htake, List.mem_append, List.mem_singleton]
      rintro (h | h)
      · exact hnk h
      · exact hsk h.symm
    refine br (fun g2 => ?_) (fun g2 => ?_) <;> cbv
    · have hff : f = false := by have := nf.symm.trans g2; simpa using this
      refine ⟨i, [aS a], ei, hrow, rfl, ?_⟩
      cbv
      refine br (fun g3 => ?_) (fun g3 => ?_) <;> cbv
      · have hks : k < s := of_decide_eq_true (hgt.symm.trans g3)
        rw [if_pos (by rw [hff]; simp [hks])] at hw
        refine ⟨h1k, b2, ?_⟩
        rw [← ho2]
        cbv
        refine ⟨i, [aS a], ei, hrow, rfl, ?_⟩
        cbv
        refine ⟨h1a, b3, ?_⟩
        rw [← ho3, hj]
        exact ⟨(i + 1, j, true, o3), ⟨ej, hil, (by rw [hw]), (by rw [hw]; exact e3), hnk2⟩, (show l.length - (i + 1) < l.length - i by omega), le_of [(0, 2)] (by simp [leSl, leOb, injK, memK, parK, noTup, lk, rn0, rnA, plain]; rfl)⟩
      · have hks : ¬ k < s := of_decide_eq_false (hgt.symm.trans g3)
        rw [if_neg (by simp [hks])] at hw
        refine ⟨i, [aS a], ei, hrow, rfl, ?_⟩
        cbv
        refine ⟨h1a, b1, ?_⟩
        rw [← ho1, hj]
        exact ⟨(i + 1, j, f, o1), ⟨ej, hil, (by rw [hw]), (by rw [hw]; exact e1), hnk2⟩, (show l.length - (i + 1) < l.length - i by omega), le_of [(0, 1)] (by simp [leSl, leOb, injK, memK, parK, noTup, lk, rn0, rnA, plain]; rfl)⟩
    · have hff : f = true := by have := nf.symm.trans g2; simpa using this
      rw [if_neg (by rw [hff]; simp)] at hw
      refine ⟨i, [aS a], ei, hrow, rfl, ?_⟩
      cbv
      refine ⟨h1a, b1, ?_⟩
      rw [← ho1, hj]
      exact ⟨(i + 1, j, f, o1), ⟨ej, hil, (by rw [hw]), (by rw [hw]; exact e1), hnk2⟩, (show l.length - (i + 1) < l.length - i by omega), le_of [(0, 1)] (by simp [leSl, leOb, injK, memK, parK, noTup, lk, rn0, rnA, plain]; rfl)⟩
  · have hge : l.length ≤ i := by have := nfB tl h; omega
    rw [List.take_of_length_le hge] at hf ho hnk
    have hw : withS l k = wEnd k l := if_neg hnk
    rw [hw, wEnd, ← hf] at hout
    have b2 : (F .len o + F .len [[aS key]]) * 16 ≤ 140737488355328 := by rw [lenF hF, lenF hF]; simp; omega
    have h1k : ∀ r ∈ [[aS key]], r.length = 1 := fun r h => by rw [List.mem_singleton.1 h]; rfl
    refine br (fun g => ?_) (fun g => ?_) <;> cbv
    · have hff : f = false := by have := nf.symm.trans g; simpa using this
      rw [hff] at hout
      have e2 : F .app o [[aS key]] = out := by rw [hout, hF, ho, hk]; exact sR_app _ _
      refine ⟨h1k, b2, ?_⟩
      rw [e2]; exact ⟨rfl, trivial⟩
    · have hff : f = true := by have := nf.symm.trans g; simpa using this
      rw [hff] at hout
      have e2 : o = out := by rw [hout, ho]; rfl
      rw [e2]; exact ⟨rfl, trivial⟩
theorem texts_ok (l m : List Str) (hl : l.length ≤ 100000000) (hm : m.length ≤ 100000000) (rl rm : List (List AV)) (hrl : rl = sR l) (hrm : rm = sR m) (r : Bool) (hr : r = true ↔ l = m) : CSem Try.prog (.fn 33) [.sl rl, .sl rm] (.pure [aB r]) := by
  refine of_text gam_ok mixed { n := 26 } Try.func33 (by kernel_rfl) rfl rfl (by simp) (by decide) fun F C D hF hC hD => ?_
  have rfalse : l ≠ m → false = r := fun h => by cases r; rfl; exact absurd (hr.1 rfl) h
  have rtrue : l = m → true = r := fun h => (hr.2 h).symm
  obtain ⟨n', hn'⟩ : ∃ n', F .len rl = n' := ⟨_, rfl⟩
  have en : n' = (l.length : Int) := by rw [← hn', lenF hF, hrl, sR_len]
  have t0 : F .cmp .neq n' (F .len rm) = decide (l.length ≠ m.length) := by rw [en, lenF hF, hrm, sR_len, hF]; simp [sy, bne, Bool.beq_eq_decide_eq]; omega
  cbv
  rw [hn']
  refine br (fun h0 => ?_) (fun h0 => ?_) <;> cbv
  · have h0 : l.length ≠ m.length := of_decide_eq_true (t0.symm.trans h0)
    rw [← rfalse (fun h => h0 (by rw [h]))]; exact ⟨rfl, trivial⟩
  have hlm : l.length = m.length := by have := of_decide_eq_false (t0.symm.trans h0); simpa using this
  rw [hn']
  refine ⟨Nat × Int, fun x => { slots := [(13, aI x.2), (12, aI n'), (0, .sl rl), (1, .sl rm)], obs := [], ctr := 0 }, fun x => x.2 = (x.1 : Int) ∧ x.1 ≤ l.length ∧ ∀ (k : Nat), k < x.1 → l[k]? = m[k]?, fun x => l.length - x.1, ⟨(0, 0), ⟨rfl, Nat.zero_le _, fun k hk => by omega⟩, le_of [] (by simp [leSl, leOb, injK, memK, parK, noTup, lk, rn0, rnA, plain, aI])⟩, fun x hx => ?_⟩
  obtain ⟨i, i'⟩ := x
  obtain ⟨ei, hi, hz⟩ := hx
  simp only at ei hi hz
  have en : n' = (l.length : Int) := en
  have tl := ltF hF i l.length i' n' ei en
  have ep := incF hF ei (by omega)
  obtain ⟨j, hj⟩ : ∃ j, F .ar .add .i64 i' 1 = j := ⟨_, rfl⟩
  have ej : j = ((i + 1 : Nat) : Int) := hj.symm.trans ep
  cbv
  refine br (fun h => ?_) (fun h => ?_) <;> cbv
  · have hil := tl.1 h
    obtain ⟨e, he⟩ : ∃ e, l[i]? = some e := ⟨_, List.getElem?_eq_getElem hil⟩
    obtain ⟨f, hf⟩ : ∃ f, m[i]? = some f := ⟨_, List.getElem?_eq_getElem (by omega)⟩
    obtain ⟨a, ha, hrow⟩ := sR_at he
    obtain ⟨b, hb, hrow2⟩ := sR_at hf
    rw [← hrl] at hrow
    rw [← hrm] at hrow2
    have hq : F .scmp .neq a b = !decide (e = f) := by
      rw [hF]
      show (!(a.toList == b.toList)) = _
      congr 1
      rw [← ha, ← hb, Bool.eq_iff_iff, beq_iff_eq, ByteArray.toList_eq, ByteArray.toList_eq]
      simp [kOf]
    refine ⟨hC _ _ _ (ben_ok (by kernel_rfl)), ?_⟩
    cbv
    refine ⟨i, [aS a], ei, hrow, rfl, ?_⟩
    cbv
    refine ⟨i, [aS b], ei, hrow2, rfl, ?_⟩
    cbv
    refine br (fun g => ?_) (fun g => ?_) <;> cbv
    · have hq : e ≠ f := by have := hq.symm.trans g; simpa using this
      rw [← rfalse (fun h => by
        rw [h] at he
        rw [he] at hf
        injection hf with hf
        exact hq hf)]
      exact ⟨rfl, trivial⟩
    · have hq : e = f := by have := hq.symm.trans g; simpa using this
      rw [hj]
      refine ⟨(i + 1, j), ⟨ej, hil, fun k hk => ?_⟩, (show l.length - (i + 1) < l.length - i by omega), le_of [] (by simp [leSl, leOb, injK, memK, parK, noTup, lk, rn0, rnA, plain])⟩
      by_cases e1 : k < i
      · exact hz k e1
      · have : k = i := by have := (show k < i + 1 from hk); omega
        rw [this, he, hf, hq]
  · have hge : l.length ≤ i := by have := nfB tl h; omega
    rw [← rtrue (List.ext_getElem? fun k => by
      by_cases hk : k < i
      · exact hz k hk
      · rw [List.getElem?_eq_none (by omega), List.getElem?_eq_none (by omega)])]
    exact ⟨rfl, trivial⟩

end Go.Proofs.Ytdmdahnnfancpaa
