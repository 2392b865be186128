import Derived.Test.YtljpmnifkccbdaaB9
import Derived.Test.YtljpmnifkccbdaaX9
set_option linter.unusedSimpArgs false
set_option linter.unusedVariables false
namespace Go.Proofs.Ytljpmnifkccbdaa
open Go Go.RowKit Am

/-- Of two live ones that are alike none has seen the other. -/
theorem abreast (l : List Ev) (a b : Ev) (ha : a ∈ liveAll l) (hb : b ∈ liveAll l) (hk : a.op.kind = b.op.kind) (hy : a.op.key = b.op.key) (hf : a.op.fld = b.op.fld) (h2 : a.op.kind ≠ 2) (h9 : a.op.kind ≠ 9) : covers a b = false := by
  rw [liveAll_mem] at ha hb
  obtain ⟨ha1, ha2⟩ := ha
  obtain ⟨hb1, hb2⟩ := hb
  unfold liveP at ha2 hb2
  simp only [Bool.and_eq_true, Bool.not_eq_true', List.any_eq_false] at ha2 hb2
  have hno := hb2.2 a ha1
  cases hc : covers a b with
  | false => rfl
  | true =>
    exfalso
    apply hno
    have hadd := ha2.1
    unfold endsB
    rw [hc, hy, hf, ← hk]
    have e1 : (b.op.key == b.op.key) = true := (bytes_beq _ _).2 rfl
    have e2 : (b.op.fld == b.op.fld) = true := (bytes_beq _ _).2 rfl
    rw [e1, e2]
    simp only [Bool.and_true, Bool.true_and]
    generalize a.op.kind = k at *
    generalize (decide (a.op.ref.R = b.dot.R) && decide (a.op.ref.N = b.dot.N)) = q
    unfold addsB at hadd
    simp only [Bool.or_eq_true, beq_iff_eq] at hadd
    have : k = 1 ∨ k = 3 ∨ k = 5 ∨ k = 7 := by omega
    rcases this with e | e | e | e <;> subst e <;> simp [endsK, wantK]
theorem bT {c : Bool} {p q : Prop} (h : c = true) (k : p) : (c = true → p) ∧ (c = false → q) := ⟨fun _ => k, fun e => by rw [h] at e; cases e⟩
theorem bF {c : Bool} {p q : Prop} (h : c = false) (k : q) : (c = true → p) ∧ (c = false → q) := ⟨fun e => (by rw [h] at e; cases e), fun _ => k⟩
theorem cT {c : Bool} {p q : Prop} (h : c = true) (k : q) : (c = false → p) ∧ (c = true → q) := ⟨fun e => (by rw [h] at e; cases e), fun _ => k⟩
theorem cF {c : Bool} {p q : Prop} (h : c = false) (k : p) : (c = false → p) ∧ (c = true → q) := ⟨fun _ => k, fun e => by rw [h] at e; cases e⟩
set_option maxHeartbeats 4000000 in
set_option maxRecDepth 20000 in
theorem liveAbreast_ok (l : List Ev) (hl : l.length ≤ 200) (rows : List (List AV)) (hrows : rows = evR l) (r : Bool) (hr : true = r) : CSem Try.prog (.fn 7) [.sl rows] (.pure [aB r]) := by
  refine of_textX gam_ok mixed { n := 82, keep := [6, 7], cuts := [10] } Try.func7 (by kernel_rfl) rfl rfl (by simp) (by decide) fun F C D hF hC hD hX => ?_
  have haw := hC _ _ _ (awake10_ok true rfl)
  obtain ⟨fb, hfb⟩ : ∃ fb, fb = few10 l := ⟨_, rfl⟩
  have hfew := hC _ _ _ (few10_ok l rows hrows fb hfb)
  have nt : F .bnot true = false := bnotF hF true
  have nf : F .bnot fb = !fb := bnotF hF fb
  obtain ⟨A, hA⟩ : ∃ A, A = evR (liveAll l) := ⟨_, rfl⟩
  have hall := hC _ _ _ (liveAll_ok l (by omega) rows hrows A hA)
  have hLa := liveAll_len l
  obtain ⟨n', hn'⟩ : ∃ n', F .len A = n' := ⟨_, rfl⟩
  have en : n' = ((liveAll l).length : Int) := by rw [← hn', lenF hF, hA, evR_len]
  cbv
  refine ⟨_, haw, ?_⟩
  cbv
  refine brf (fun h1 => ?_) (fun h1 => by rw [nt] at h1; cases h1)
  cbv
  refine ⟨_, hfew, ?_⟩
  cbv
  refine br (fun h2 => ?_) (fun h2 => ?_) <;> cbv
  · refine ⟨_, haw, ?_⟩
    cbv
    rw [← hr]; exact ⟨rfl, trivial⟩
  refine ⟨_, hall, ?_⟩
  cbv
  rw [hn']
  refine ⟨Nat × Int, fun x => { slots := [(21, aI x.2), (20, aI n'), (3, .sl A)], obs := [], ctr := 0 }, fun x => x.2 = (x.1 : Int) ∧ x.1 ≤ (liveAll l).length, fun x => (liveAll l).length - x.1, ⟨(0, 0), ⟨rfl, Nat.zero_le _⟩, le_of [] (by simp [leSl, leOb, injK, memK, parK, noTup, lk, rn0, rnA, plain, aI])⟩, fun x hx => ?_⟩
  obtain ⟨i, i'⟩ := x
  obtain ⟨ei, hi⟩ := hx
  simp only at ei hi
  have en : n' = ((liveAll l).length : Int) := en
  have tl := ltF hF i (liveAll l).length i' n' ei en
  have ep := incF hF ei (by omega)
  obtain ⟨j, hj⟩ : ∃ j, F .ar .add .i64 i' 1 = j := ⟨_, rfl⟩
  have ej : j = ((i + 1 : Nat) : Int) := hj.symm.trans ep
  cbv
  refine br (fun h => ?_) (fun h => ?_) <;> cbv
  · have hil := tl.1 h
    obtain ⟨e, he⟩ : ∃ e, (liveAll l)[i]? = some e := ⟨_, List.getElem?_eq_getElem hil⟩
    have hrow : A[i]? = some e.ac := by rw [hA]; exact evR_get he
    rw [hn']
    refine ⟨Nat × Int, fun x => { slots := [(26, aI x.2), (25, aI n'), (4, aI i'), (21, aI i'), (20, aI n'), (3, .sl A)], obs := [], ctr := 0 }, fun x => x.2 = (x.1 : Int) ∧ x.1 ≤ (liveAll l).length, fun x => (liveAll l).length - x.1, ⟨(0, 0), ⟨rfl, Nat.zero_le _⟩, le_of [] (by simp [leSl, leOb, injK, memK, parK, noTup, lk, rn0, rnA, plain, aI])⟩, fun x hx => ?_⟩
    obtain ⟨k, k'⟩ := x
    obtain ⟨ek, hk⟩ := hx
    simp only at ek hk
    have en : n' = ((liveAll l).length : Int) := en
    have tl2 := ltF hF k (liveAll l).length k' n' ek en
    have ep2 := incF hF ek (by omega)
    obtain ⟨k2, hk2⟩ : ∃ k2, F .ar .add .i64 k' 1 = k2 := ⟨_, rfl⟩
    have ek2 : k2 = ((k + 1 : Nat) : Int) := hk2.symm.trans ep2
    cbv
    refine br (fun g => ?_) (fun g => ?_) <;> cbv
    · have hkl := tl2.1 g
      obtain ⟨f, hf⟩ : ∃ f, (liveAll l)[k]? = some f := ⟨_, List.getElem?_eq_getElem hkl⟩
      have hrowf : A[k]? = some f.ac := by rw [hA]; exact evR_get hf
      obtain ⟨c1, hc1⟩ : ∃ c1, F .cmp .eql e.op.kind f.op.kind = c1 := ⟨_, rfl⟩
      obtain ⟨c2, hc2⟩ : ∃ c2, F .scmp .eql e.op.key f.op.key = c2 := ⟨_, rfl⟩
      obtain ⟨c3, hc3⟩ : ∃ c3, F .scmp .eql e.op.fld f.op.fld = c3 := ⟨_, rfl⟩
      obtain ⟨c4, hc4⟩ : ∃ c4, F .cmp .neq e.op.kind 2 = c4 := ⟨_, rfl⟩
      obtain ⟨c5, hc5⟩ : ∃ c5, F .cmp .neq e.op.kind 9 = c5 := ⟨_, rfl⟩
      obtain ⟨co, hco⟩ : ∃ co, co = covers e f := ⟨_, rfl⟩
      have hcov := hC _ _ _ (coversRef_ok e f co hco)
      have d1 : c1 = true → e.op.kind = f.op.kind := fun h => by rw [← hc1, hF] at h; simpa [sy] using h
      have d2 : c2 = true → e.op.key = f.op.key := fun h => by rw [← hc2, hF] at h; exact (bytes_beq _ _).1 (by rw [beq_toListBytes]; exact h)
      have d3 : c3 = true → e.op.fld = f.op.fld := fun h => by rw [← hc3, hF] at h; exact (bytes_beq _ _).1 (by rw [beq_toListBytes]; exact h)
      have d4 : c4 = true → e.op.kind ≠ 2 := fun h => by rw [← hc4, hF] at h; simpa [sy] using h
      have d5 : c5 = true → e.op.kind ≠ 9 := fun h => by rw [← hc5, hF] at h; simpa [sy] using h
      have dco : c1 = true → c2 = true → c3 = true → c4 = true → c5 = true → co = false := fun h1 h2 h3 h4 h5 => by rw [hco]; exact abreast l e f (List.mem_of_getElem? he) (List.mem_of_getElem? hf) (d1 h1) (d2 h2) (d3 h3) (d4 h4) (d5 h5)
      clear hco d1 d2 d3 d4 d5
      have fin : ∀ s : St, Le s { slots := [(26, aI k2), (25, aI n'), (4, aI i'), (21, aI i'), (20, aI n'), (3, .sl A)], obs := [], ctr := 0 } → ∃ y : Nat × Int, (y.2 = (y.1 : Int) ∧ y.1 ≤ (liveAll l).length) ∧ (liveAll l).length - y.1 < (liveAll l).length - k ∧ Le s { slots := [(26, aI y.2), (25, aI n'), (4, aI i'), (21, aI i'), (20, aI n'), (3, .sl A)], obs := [], ctr := 0 } := fun s hs => ⟨(k + 1, k2), ⟨ek2, hkl⟩, (show (liveAll l).length - (k + 1) < (liveAll l).length - k by omega), hs⟩
      refine ⟨{ slots := [(5, aI k'), (26, aI k'), (25, aI n'), (4, aI i'), (21, aI i'), (20, aI n'), (3, .sl A)], obs := [], ctr := 0 }, le_of [] (by simp [leSl, leOb, injK, memK, parK, noTup, lk, rn0, rnA, plain, aI]), hX _ _ _ _ _ (by kernel_rfl) (by rfl) ?_⟩
      cbv
      refine ⟨i, e.ac, ei, hrow, rfl, ?_⟩
      cbv
      refine ⟨k, f.ac, ek, hrowf, rfl, ?_⟩
      cbv
      refine hD _ _ _ ?_
      cbv
      cases c1 <;> cases c2 <;> cases c3 <;> cases c4 <;> cases c5
      all_goals (try (have hcf := dco rfl rfl rfl rfl rfl))
      all_goals (repeat ((first | refine bT (by assumption) ?_ | refine bF (by assumption) ?_ | refine cT (by assumption) ?_ | refine cF (by assumption) ?_ | refine ⟨_, hcov, ?_⟩) <;> cbv))
      all_goals (rw [hk2]; exact fin _ (le_of [] (by simp [leSl, leOb, injK, memK, parK, noTup, lk, rn0, rnA, plain])))
    · rw [hj]
      exact ⟨(i + 1, j), ⟨ej, hil⟩, (show (liveAll l).length - (i + 1) < (liveAll l).length - i by omega), le_of [] (by simp [leSl, leOb, injK, memK, parK, noTup, lk, rn0, rnA, plain])⟩
  · rw [← hr]; exact ⟨rfl, trivial⟩
theorem bigAbreast_ok (l : List Ev) (hl : ¬ l.length ≤ 200) (rows : List (List AV)) (hrows : rows = evR l) (r : Bool) (hr : true = r) : CSem Try.prog (.fn 7) [.sl rows] (.pure [aB r]) := by
  refine of_text gam_ok mixed { n := 82 } Try.func7 (by kernel_rfl) rfl rfl (by simp) (by decide) fun F C D hF hC hD => ?_
  have haw := hC _ _ _ (awake10_ok true rfl)
  obtain ⟨fb, hfb⟩ : ∃ fb, fb = few10 l := ⟨_, rfl⟩
  have hfew := hC _ _ _ (few10_ok l rows hrows fb hfb)
  have hff : fb = false := by cases h : fb; rfl; exact absurd (few10_len (hfb.symm.trans h)) hl
  have nt : F .bnot true = false := bnotF hF true
  have nf : F .bnot fb = !fb := bnotF hF fb
  cbv
  refine ⟨_, haw, ?_⟩
  cbv
  refine brf (fun h1 => ?_) (fun h1 => by rw [nt] at h1; cases h1)
  cbv
  refine ⟨_, hfew, ?_⟩
  cbv
  refine br (fun h2 => ?_) (fun h2 => by have := nf.symm.trans h2; rw [hff] at this; cases this)
  cbv
  refine ⟨_, haw, ?_⟩
  cbv
  rw [← hr]; exact ⟨rfl, trivial⟩
theorem liveAbreast_all (l : List Ev) : CSem Try.prog (.fn 7) [.sl (evR l)] (.pure [aB true]) := by
  by_cases h : l.length ≤ 200
  · exact liveAbreast_ok l h _ rfl true rfl
  · exact bigAbreast_ok l h _ rfl true rfl
end Go.Proofs.Ytljpmnifkccbdaa
