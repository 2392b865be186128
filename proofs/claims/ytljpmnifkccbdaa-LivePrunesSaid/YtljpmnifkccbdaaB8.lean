import Derived.Test.YtljpmnifkccbdaaB7
set_option linter.unusedSimpArgs false
set_option linter.unusedVariables false
namespace Go.Proofs.Ytljpmnifkccbdaa
open Go Go.RowKit Am

theorem type_ok (l : List Ev) (hl : l.length ≤ 100000000) (key : ByteArray) (rows : List (List AV)) (hrows : rows = evR l) (t : Int) (ht : t = ofT l key) : CSem Try.prog (.fn 27) [.sl rows, aS key] (.pure [aI t]) := by
  refine of_text gam_ok mixed { n := 14 } Try.func27 (by kernel_rfl) rfl rfl (by simp) (by decide) fun F C D hF hC hD => ?_
  obtain ⟨out, hout⟩ : ∃ out, out = evR (ofL l key) := ⟨_, rfl⟩
  have h1 := hC _ _ _ (of_ok l hl key rows hrows out hout t ht)
  clear hout
  cbv
  refine ⟨_, h1, ?_⟩
  cbv
  exact ⟨rfl, trivial⟩
def aw10 : Ev := { dot := ⟨0, 1⟩, time := 0, deps := fun _ => 0, op := { kind := 1, key := ⟨#[107]⟩, fld := ⟨#[]⟩, val := ⟨#[]⟩, num := 0, ref := ⟨0, 0⟩ } }
theorem aw10_live : liveP [aw10] aw10 = true := by
  simp [liveP, aw10, addsB, endsB, covers, hasB, dotB, replica, vget]
theorem aw10_all : liveAll [aw10] = [aw10] := by
  rw [liveAll, List.filter_cons_of_pos aw10_live]; rfl
theorem aw10_of : ofL [aw10] ⟨#[107]⟩ = [aw10] := by
  have : keyP ⟨#[107]⟩ aw10 = true := by unfold keyP; rw [bytes_beq]; rfl
  rw [ofL, List.filter_cons_of_pos this]; exact aw10_all
theorem awake10_ok (r : Bool) (hr : r = true) : CSem Try.prog (.fn 18) [] (.pure [aB r]) := by
  refine of_text gam_ok mixed { n := 16 } Try.func18 (by kernel_rfl) rfl rfl (by simp) (by decide) fun F C D hF hC hD => ?_
  have h1 := hC _ _ _ (type_ok [aw10] (by simp) ⟨#[107]⟩ _ rfl 1 (by rw [ofT, aw10_of]; rfl))
  have h2 := hC _ _ _ (liveAll_ok [aw10] (by simp) _ rfl _ rfl)
  rw [aw10_all] at h2
  subst hF
  cbv
  refine ⟨_, h1, ?_⟩
  cbv
  refine br (fun _ => ?_) (fun h => by cases h)
  cbv
  refine ⟨_, h2, ?_⟩
  cbv
  rw [hr]; exact ⟨rfl, trivial⟩
/-- Sizes that are looked at. -/
def big10 (e : Ev) : Bool := sy .cmp .gtr (sy .ar .add .i64 (sy .slen e.op.key) (sy .slen e.op.fld)) 1000
def few10 (l : List Ev) : Bool := decide (l.length ≤ 200) && l.all fun e => !big10 e
theorem few10_len {l : List Ev} (h : few10 l = true) : l.length ≤ 200 := by simp [few10] at h; exact h.1
theorem few10_ok (l : List Ev) (rows : List (List AV)) (hrows : rows = evR l) (r : Bool) (hr : r = few10 l) : CSem Try.prog (.fn 19) [.sl rows] (.pure [aB r]) := by
  refine of_text gam_ok mixed { n := 29 } Try.func19 (by kernel_rfl) rfl rfl (by simp) (by decide) fun F C D hF hC hD => ?_
  obtain ⟨n', hn'⟩ : ∃ n', F .len rows = n' := ⟨_, rfl⟩
  have en : n' = (l.length : Int) := by rw [← hn', lenF hF, hrows, evR_len]
  have t0 : F .cmp .gtr n' 200 = true → r = false := fun h => by rw [en, hF] at h; simp [sy] at h; rw [hr, few10]; simp; omega
  have t1 : F .cmp .gtr n' 200 = false → l.length ≤ 200 := fun h => by rw [en, hF] at h; simp [sy] at h; omega
  cbv
  rw [hn']
  refine br (fun h0 => ?_) (fun h0 => ?_) <;> cbv
  · rw [t0 h0]; exact ⟨rfl, trivial⟩
  have hlen := t1 h0
  rw [hn']
  refine ⟨Nat × Int, fun x => { slots := [(9, aI x.2), (8, aI n'), (0, .sl rows)], obs := [], ctr := 0 }, fun x => x.2 = (x.1 : Int) ∧ x.1 ≤ l.length ∧ ∀ (k : Nat) e, k < x.1 → l[k]? = some e → big10 e = false, fun x => l.length - x.1, ⟨(0, 0), ⟨rfl, Nat.zero_le _, fun k e hk => by omega⟩, le_of [] (by simp [leSl, leOb, injK, memK, parK, noTup, lk, rn0, rnA, plain, aI])⟩, fun x hx => ?_⟩
  obtain ⟨i, i'⟩ := x
  obtain ⟨ei, hi, hz⟩ := hx
  simp only at ei hi hz
  have en : n' = (l.length : Int) := en
  have tl := ltF hF i l.length i' n' ei en
  have ep := incF hF ei (by omega)
  obtain ⟨j, hj⟩ : ∃ j, F .ar .add .i64 i' 1 = j := ⟨_, rfl⟩
  have ej : j = ((i + 1 : Nat) : Int) := hj.symm.trans ep
  cbv
  refine br (fun h => ?_) (fun h => ?_) <;> cbv
  · have hil := tl.1 h
    obtain ⟨e, he⟩ : ∃ e, l[i]? = some e := ⟨_, List.getElem?_eq_getElem hil⟩
    have hrow : rows[i]? = some e.ac := by rw [hrows]; exact evR_get he
    generalize hb : big10 e = bg
    have hw : F .cmp .gtr (F .ar .add .i64 (F .slen e.op.key) (F .slen e.op.fld)) 1000 = bg := by rw [hF, ← hb]; rfl
    refine ⟨hC _ _ _ (ben_ok (by kernel_rfl)), ?_⟩
    cbv
    refine ⟨i, e.ac, ei, hrow, rfl, ?_⟩
    cbv
    refine ⟨i, e.ac, ei, hrow, rfl, ?_⟩
    cbv
    refine br (fun g => ?_) (fun g => ?_) <;> cbv
    · have hg : bg = true := hw.symm.trans g
      have : r = false := by
        rw [hr, few10, Bool.and_eq_false_iff]
        right
        rw [List.all_eq_false]
        exact ⟨e, List.mem_of_getElem? he, by rw [hb, hg]; simp⟩
      rw [this]; exact ⟨rfl, trivial⟩
    · have hg : bg = false := hw.symm.trans g
      rw [hj]
      refine ⟨(i + 1, j), ⟨ej, hil, fun k x hk hx => ?_⟩, (show l.length - (i + 1) < l.length - i by omega), le_of [] (by simp [leSl, leOb, injK, memK, parK, noTup, lk, rn0, rnA, plain])⟩
      by_cases e1 : k < i
      · exact hz k x e1 hx
      · have : k = i := by have := (show k < i + 1 from hk); omega
        rw [this, he] at hx
        injection hx with hx
        rw [← hx]
        exact hb.trans hg
  · have hge : l.length ≤ i := by have := nfB tl h; omega
    have : r = true := by
      rw [hr, few10, Bool.and_eq_true]
      refine ⟨by simpa using hlen, ?_⟩
      rw [List.all_eq_true]
      intro e he
      obtain ⟨k, hk, rfl⟩ := List.getElem_of_mem he
      rw [hz k _ (by omega) (List.getElem?_eq_getElem hk)]; rfl
    rw [this]; exact ⟨rfl, trivial⟩
/-- Two lists alike. -/
theorem same_ok (l m : List Ev) (hl : l.length ≤ 100000000) (hm : m.length ≤ 100000000) (rl rm : List (List AV)) (hrl : rl = evR l) (hrm : rm = evR m) (r : Bool) (hr : r = true ↔ l = m) : CSem Try.prog (.fn 20) [.sl rl, .sl rm] (.pure [aB r]) := by
  refine of_text gam_ok mixed { n := 26 } Try.func20 (by kernel_rfl) rfl rfl (by simp) (by decide) fun F C D hF hC hD => ?_
  have rfalse : l ≠ m → false = r := fun h => by cases r; rfl; exact absurd (hr.1 rfl) h
  have rtrue : l = m → true = r := fun h => (hr.2 h).symm
  obtain ⟨n', hn'⟩ : ∃ n', F .len rl = n' := ⟨_, rfl⟩
  have en : n' = (l.length : Int) := by rw [← hn', lenF hF, hrl, evR_len]
  have t0 : F .cmp .neq n' (F .len rm) = decide (l.length ≠ m.length) := by rw [en, lenF hF, hrm, evR_len, hF]; simp [sy, bne, Bool.beq_eq_decide_eq]; omega
  cbv
  rw [hn']
  refine br (fun h0 => ?_) (fun h0 => ?_) <;> cbv
  · have h0 : l.length ≠ m.length := of_decide_eq_true (t0.symm.trans h0)
    rw [← rfalse (fun h => h0 (by rw [h]))]; exact ⟨rfl, trivial⟩
  have hlm : l.length = m.length := by have := of_decide_eq_false (t0.symm.trans h0); simpa using this
  rw [hn']
  refine ⟨Nat × Int, fun x => { slots := [(13, aI x.2), (12, aI n'), (0, .sl rl), (1, .sl rm)], obs := [], ctr := 0 }, fun x => x.2 = (x.1 : Int) ∧ x.1 ≤ l.length ∧ ∀ (k : Nat), k < x.1 → l[k]? = m[k]?, fun x => l.length - x.1, ⟨(0, 0), ⟨rfl, Nat.zero_le _, fun k hk => by omega⟩, le_of [] (by simp [leSl, leOb, injK, memK, parK, noTup, lk, rn0, rnA, plain, aI])⟩, fun x hx => ?_⟩
  obtain ⟨i, i'⟩ := x
  obtain ⟨ei, hi, hz⟩ := hx
  simp only at ei hi hz
  have en : n' = (l.length : Int) := en
  have tl := ltF hF i l.length i' n' ei en
  have ep := incF hF ei (by omega)
  obtain ⟨j, hj⟩ : ∃ j, F .ar .add .i64 i' 1 = j := ⟨_, rfl⟩
  have ej : j = ((i + 1 : Nat) : Int) := hj.symm.trans ep
  cbv
  refine br (fun h => ?_) (fun h => ?_) <;> cbv
  · have hil := tl.1 h
    obtain ⟨e, he⟩ : ∃ e, l[i]? = some e := ⟨_, List.getElem?_eq_getElem hil⟩
    obtain ⟨f, hf⟩ : ∃ f, m[i]? = some f := ⟨_, List.getElem?_eq_getElem (by omega)⟩
    have hrow : rl[i]? = some e.ac := by rw [hrl]; exact evR_get he
    have hrow2 : rm[i]? = some f.ac := by rw [hrm]; exact evR_get hf
    obtain ⟨q, hq1, hq2⟩ := evEq_ok e f
    have heq := hC _ _ _ hq2
    have hbn : F .bnot q = !q := by rw [hF]; rfl
    refine ⟨hC _ _ _ (ben_ok (by kernel_rfl)), ?_⟩
    cbv
    refine ⟨i, e.ac, ei, hrow, rfl, ?_⟩
    cbv
    refine ⟨i, f.ac, ei, hrow2, rfl, ?_⟩
    cbv
    refine ⟨_, heq, ?_⟩
    cbv
    refine br (fun g => ?_) (fun g => ?_) <;> cbv
    · have hq : q = false := by have := hbn.symm.trans g; simpa using this
      rw [← rfalse (fun h => by
        rw [h] at he
        rw [he] at hf
        injection hf with hf
        rw [hq1.2 hf] at hq
        simp at hq)]
      exact ⟨rfl, trivial⟩
    · have hq : q = true := by have := hbn.symm.trans g; simpa using this
      rw [hj]
      refine ⟨(i + 1, j), ⟨ej, hil, fun k hk => ?_⟩, (show l.length - (i + 1) < l.length - i by omega), le_of [] (by simp [leSl, leOb, injK, memK, parK, noTup, lk, rn0, rnA, plain])⟩
      by_cases e1 : k < i
      · exact hz k e1
      · have : k = i := by have := (show k < i + 1 from hk); omega
        rw [this, he, hf, hq1.1 hq]
  · have hge : l.length ≤ i := by have := nfB tl h; omega
    rw [← rtrue (List.ext_getElem? fun k => by
      by_cases hk : k < i
      · exact hz k hk
      · rw [List.getElem?_eq_none (by omega), List.getElem?_eq_none (by omega)])]
    exact ⟨rfl, trivial⟩
def unlikeP (l : List Ev) : Prop := ∀ (i k : Nat) (a b : Ev), k < i → l[i]? = some a → l[k]? = some b → a.dot ≠ b.dot
set_option maxHeartbeats 2000000 in
theorem unlike_ok (l : List Ev) (hl : l.length ≤ 100000000) (rows : List (List AV)) (hrows : rows = evR l) (r : Bool) (hr : r = true ↔ unlikeP l) : CSem Try.prog (.fn 25) [.sl rows] (.pure [aB r]) := by
  refine of_text gam_ok mixed { n := 27 } Try.func25 (by kernel_rfl) rfl rfl (by simp) (by decide) fun F C D hF hC hD => ?_
  have rfalse : ¬ unlikeP l → false = r := fun h => by cases r; rfl; exact absurd (hr.1 rfl) h
  have rtrue : unlikeP l → true = r := fun h => (hr.2 h).symm
  obtain ⟨n', hn'⟩ : ∃ n', F .len rows = n' := ⟨_, rfl⟩
  have en : n' = (l.length : Int) := by rw [← hn', lenF hF, hrows, evR_len]
  cbv
  rw [hn']
  refine ⟨Nat × Int, fun x => { slots := [(7, aI x.2), (6, aI n'), (0, .sl rows)], obs := [], ctr := 0 }, fun x => x.2 = (x.1 : Int) ∧ x.1 ≤ l.length ∧ ∀ (i k : Nat) (a b : Ev), i < x.1 → k < i → l[i]? = some a → l[k]? = some b → a.dot ≠ b.dot, fun x => l.length - x.1, ⟨(0, 0), ⟨rfl, Nat.zero_le _, fun i k a b hk => by omega⟩, le_of [] (by simp [leSl, leOb, injK, memK, parK, noTup, lk, rn0, rnA, plain, aI])⟩, fun x hx => ?_⟩
  obtain ⟨i, i'⟩ := x
  obtain ⟨ei, hi, hz⟩ := hx
  simp only at ei hi hz
  have en : n' = (l.length : Int) := en
  have tl := ltF hF i l.length i' n' ei en
  have ep := incF hF ei (by omega)
  obtain ⟨j, hj⟩ : ∃ j, F .ar .add .i64 i' 1 = j := ⟨_, rfl⟩
  have ej : j = ((i + 1 : Nat) : Int) := hj.symm.trans ep
  cbv
  refine br (fun h => ?_) (fun h => ?_) <;> cbv
  · have hil := tl.1 h
    obtain ⟨e, he⟩ : ∃ e, l[i]? = some e := ⟨_, List.getElem?_eq_getElem hil⟩
    have hrow : rows[i]? = some e.ac := by rw [hrows]; exact evR_get he
    refine ⟨Nat × Int, fun x => { slots := [(4, aI x.2), (3, aI i'), (7, aI i'), (6, aI n'), (0, .sl rows)], obs := [], ctr := 0 }, fun x => x.2 = (x.1 : Int) ∧ x.1 ≤ i ∧ ∀ (k : Nat) (b : Ev), k < x.1 → l[k]? = some b → e.dot ≠ b.dot, fun x => i - x.1, ⟨(0, 0), ⟨rfl, Nat.zero_le _, fun k b hk => by omega⟩, le_of [] (by simp [leSl, leOb, injK, memK, parK, noTup, lk, rn0, rnA, plain, aI])⟩, fun x hx => ?_⟩
    obtain ⟨k, k'⟩ := x
    obtain ⟨ek, hk, hy⟩ := hx
    simp only at ek hk hy
    have ei : i' = (i : Int) := ei
    have tl2 := ltF hF k i k' i' ek ei
    have ep2 := incF hF ek (by omega)
    obtain ⟨k2, hk2⟩ : ∃ k2, F .ar .add .i64 k' 1 = k2 := ⟨_, rfl⟩
    have ek2 : k2 = ((k + 1 : Nat) : Int) := hk2.symm.trans ep2
    cbv
    refine br (fun g => ?_) (fun g => ?_) <;> cbv
    · have hki := tl2.1 g
      obtain ⟨f, hf⟩ : ∃ f, l[k]? = some f := ⟨_, List.getElem?_eq_getElem (by omega)⟩
      have hrow2 : rows[k]? = some f.ac := by rw [hrows]; exact evR_get hf
      obtain ⟨q, hq1, hq2⟩ := dtEq_ok e.dot f.dot
      have heq := hC _ _ _ hq2
      refine ⟨hC _ _ _ (ben_ok (by kernel_rfl)), ?_⟩
      cbv
      refine ⟨i, e.ac, ei, hrow, rfl, ?_⟩
      cbv
      refine ⟨k, f.ac, ek, hrow2, rfl, ?_⟩
      cbv
      refine ⟨_, heq, ?_⟩
      cbv
      refine br (fun q1 => ?_) (fun q1 => ?_) <;> cbv
      · rw [← rfalse (fun h => h i k e f hki he hf (hq1.1 q1))]; exact ⟨rfl, trivial⟩
      · rw [hk2]
        refine ⟨(k + 1, k2), ⟨ek2, hki, fun c b hc hb => ?_⟩, (show i - (k + 1) < i - k by omega), le_of [] (by simp [leSl, leOb, injK, memK, parK, noTup, lk, rn0, rnA, plain])⟩
        by_cases e1 : c < k
        · exact hy c b e1 hb
        · have : c = k := by have := (show c < k + 1 from hc); omega
          rw [this, hf] at hb
          injection hb with hb
          rw [← hb]
          intro h
          rw [hq1.2 h] at q1
          simp at q1
    · have hki : i ≤ k := by have := nfB tl2 g; omega
      rw [hj]
      refine ⟨(i + 1, j), ⟨ej, hil, fun c d a b hc hd ha hb => ?_⟩, (show l.length - (i + 1) < l.length - i by omega), le_of [] (by simp [leSl, leOb, injK, memK, parK, noTup, lk, rn0, rnA, plain])⟩
      by_cases e1 : c < i
      · exact hz c d a b e1 hd ha hb
      · have : c = i := by have := (show c < i + 1 from hc); omega
        subst this
        rw [he] at ha
        injection ha with ha
        rw [← ha]
        exact hy d b (by omega) hb
  · have hge : l.length ≤ i := by have := nfB tl h; omega
    rw [← rtrue (fun c d a b hd ha hb => hz c d a b (by have := (List.getElem?_eq_some_iff.1 ha).1; omega) hd ha hb)]; exact ⟨rfl, trivial⟩
end Go.Proofs.Ytljpmnifkccbdaa
