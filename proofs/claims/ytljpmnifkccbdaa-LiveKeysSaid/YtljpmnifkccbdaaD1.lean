import Derived.Test.YtljpmnifkccbdaaB9
set_option linter.unusedSimpArgs false
set_option linter.unusedVariables false
namespace Go.Proofs.Ytljpmnifkccbdaa
open Go Go.RowKit Am

/-- IndexFunc, handed a row that its caller goes on writing to. -/
theorem indexFuncW_ok (g : Nat) (caps : List AV) (p : Ev → Bool) (hp : ∀ e, CSem Try.prog (.fn g) (.agg e.ac :: caps) (.pure [aB (p e)])) (l : List Ev) (hl : l.length ≤ 100000000) (rows : List (List AV)) (hrows : rows = evR l) (r : Int) (hr : r = idxP p l) :
    CSem Try.prog (.wr 68 [(0, .row 34 26 rows 0 0)] [(0, .row 34 26 rows 0 0)]) [.own 0 0, .clo g caps] (.pure [aI r]) := by
  refine of_textW gam_ok mixed { n := 19 } Try.func68 (by kernel_rfl) rfl rfl (by simp) (by decide) rfl fun F C D hF hC hD => ?_
  obtain ⟨n', hn'⟩ : ∃ n', F .len rows = n' := ⟨_, rfl⟩
  have en : n' = (l.length : Int) := by rw [← hn', lenF hF, hrows, evR_len]
  cbv
  rw [hn']
  refine ⟨Nat × Int, fun x => { slots := [(8, aI x.2), (7, aI n'), (0, .own 0 0), (1, .clo g caps)], obs := [(0, .row 34 26 rows 0 0)], ctr := 2, par := 2 }, fun x => x.2 = (x.1 : Int) ∧ x.1 ≤ l.length ∧ ∀ k e, k < x.1 → l[k]? = some e → p e = false, fun x => l.length - x.1, ⟨(0, 0), ⟨rfl, Nat.zero_le _, fun k e hk => by omega⟩, le_of [] (by simp [leSl, leOb, injK, memK, parK, noTup, lk, rn0, rnA, plain, aI])⟩, fun x hx => ?_⟩
  obtain ⟨i, i'⟩ := x
  obtain ⟨ei, hi, hz⟩ := hx
  simp only at ei hi hz
  have en : n' = (l.length : Int) := en
  have tl := ltF hF i l.length i' n' ei en
  have ep := incF hF ei (by omega)
  cbv
  refine br (fun h => ?_) (fun h => ?_) <;> cbv
  · have hil := tl.1 h
    obtain ⟨e, he⟩ : ∃ e, l[i]? = some e := ⟨_, List.getElem?_eq_getElem hil⟩
    have hrow : rows[i]? = some e.ac := by rw [hrows]; exact evR_get he
    refine ⟨i, e.ac, ei, hrow, ?_⟩
    cbv
    refine ⟨_, hC _ _ _ (hp e), ?_⟩
    generalize hpe : p e = c
    cbv
    refine br (fun g => ?_) (fun g => ?_) <;> cbv
    · have : i' = r := by rw [hr, ei]; exact (idxP_at (fun k x hk hx => hz k x hk hx) he (hpe.trans g)).symm
      rw [this]; exact ⟨rfl, trivial⟩
    · obtain ⟨j, hj⟩ : ∃ j, F .ar .add .i64 i' 1 = j := ⟨_, rfl⟩
      rw [hj]
      refine ⟨(i + 1, j), ⟨hj.symm.trans ep, hil, fun k x hk hx => ?_⟩, (show l.length - (i + 1) < l.length - i by omega), Le.trans le_fresh (le_of [] (by simp [St.fresh, freshObs, Ob.fresh, mapS, killR, relT, leSl, leOb, injK, memK, parK, noTup, lk, rn0, rnA, plain]))⟩
      by_cases e1 : k < i
      · exact hz k x e1 hx
      · have : k = i := by have := (show k < i + 1 from hk); omega
        rw [this, he] at hx
        injection hx with hx
        rw [← hx]; exact hpe.trans g
  · have hge : l.length ≤ i := by have := nfB tl h; omega
    have : (-1 : Int) = r := by rw [hr]; exact (idxP_none (fun k x hx => hz k x (by have := (List.getElem?_eq_some_iff.1 hx).1; omega) hx)).symm
    rw [← this]; exact ⟨rfl, trivial⟩

/-- The rows while the kept ones move to the front. -/
structure DelI (p : Ev → Bool) (l : List Ev) (i j : Nat) (R : List (List AV)) : Prop where
  len : R.length = l.length
  ij : i < j
  jl : j ≤ l.length
  kept : R.take i = evR ((l.take j).filter fun e => !p e)
  rest : R.drop j = evR (l.drop j)
  ev : ∀ r ∈ R, r.length = 26
theorem DelI.start {p : Ev → Bool} {l : List Ev} {i : Nat} (h : idxP p l = (i : Int)) : DelI p l i (i + 1) (evR l) := by
  unfold idxP at h
  cases hf : l.findIdx? p with
  | none => rw [hf] at h; simp only at h; omega
  | some k =>
    rw [hf] at h
    have : k = i := by simp only at h; omega
    subst this
    rw [List.findIdx?_eq_some_iff_getElem] at hf
    obtain ⟨h1, h2, h3⟩ := hf
    refine ⟨evR_len l, by omega, by omega, ?_, by simp [evR], fun r hr => (evR_ev l r hr).len⟩
    rw [List.take_succ_eq_append_getElem h1, List.filter_append]
    have h4 : (l.take k).filter (fun e => !p e) = l.take k := List.filter_eq_self.2 fun e he => by
      obtain ⟨j, hj, rfl⟩ := List.getElem_of_mem he
      have hj2 : j < k := by simp at hj; omega
      rw [List.getElem_take]
      simpa using h3 j hj2
    rw [h4]
    simp [evR, h2]
theorem DelI.row {p : Ev → Bool} {l : List Ev} {i j : Nat} {R : List (List AV)} (h : DelI p l i j R) {e : Ev} (he : l[j]? = some e) : R[j]? = some e.ac := by
  have h1 : (R.drop j)[0]? = (evR (l.drop j))[0]? := by rw [h.rest]
  rw [List.getElem?_drop] at h1
  simp only [evR, List.getElem?_map, List.getElem?_drop, Nat.add_zero] at h1
  rw [h1, he]; rfl
theorem DelI.drop {p : Ev → Bool} {l : List Ev} {i j : Nat} {R : List (List AV)} (h : DelI p l i j R) {e : Ev} (he : l[j]? = some e) (hp : p e = true) : DelI p l i (j + 1) R := by
  have hj := (List.getElem?_eq_some_iff.1 he).1
  refine ⟨h.len, by have := h.ij; omega, hj, ?_, ?_, h.ev⟩
  · rw [List.take_add_one, he, List.filter_append, h.kept]; simp [evR, hp]
  · have := congrArg (List.drop 1) h.rest
    simpa [evR, List.drop_drop] using this
theorem DelI.keep {p : Ev → Bool} {l : List Ev} {i j : Nat} {R : List (List AV)} (h : DelI p l i j R) {e : Ev} (he : l[j]? = some e) (hp : p e = false) : DelI p l (i + 1) (j + 1) (R.set i e.ac) := by
  have hj := (List.getElem?_eq_some_iff.1 he).1
  have hij := h.ij
  have hl := h.len
  refine ⟨by simp [h.len], by omega, hj, ?_, ?_, fun r hr => ?_⟩
  · rw [List.take_add_one, List.take_add_one, he, List.filter_append]
    rw [List.take_set_of_le (Nat.le_refl _), h.kept]
    rw [List.getElem?_set_self (by omega)]
    simp [evR, hp]
  · have := congrArg (List.drop 1) h.rest
    rw [List.drop_set_of_lt (by omega)]
    simpa [evR, List.drop_drop] using this
  · rcases List.mem_or_eq_of_mem_set hr with h1 | h1
    · exact h.ev r h1
    · rw [h1]; rfl
abbrev sh52 (i' j' : Int) (caps : List AV) (R : List (List AV)) : St := { slots := [(5, aI i'), (6, aI j'), (0, .own 0 0), (1, .clo 53 caps)], obs := [(0, .row 34 26 R 0 0)], ctr := 2, par := 2 }
def zEv : List AV := [aI 0, aI 0, aI 0, aI 0, aI 0, aI 0, aI 0, aI 0, aI 0, aI 0, aI 0, aI 0, aI 0, aI 0, aI 0, aI 0, aI 0, aI 0, aI 0, aI 0, aS .empty, aS .empty, aS .empty, aI 0, aI 0, aI 0]
theorem deleteFunc_ok (caps : List AV) (p : Ev → Bool) (hp : ∀ e, CSem Try.prog (.fn 53) (.agg e.ac :: caps) (.pure [aB (p e)])) (l : List Ev) (hl : l.length ≤ 100000000) (rows : List (List AV)) (hrows : rows = evR l) (out : List (List AV)) (hout : out = evR (l.filter fun e => !p e)) :
    CSem Try.prog (.wr 52 [(0, .row 34 26 rows 0 0)] []) [.own 0 0, .clo 53 caps] (.own 34 26 out []) := by
  refine of_textW gam_ok mixed { n := 42, keep := [41], wrs := [68] } Try.func52 (by kernel_rfl) rfl rfl (by simp) (by decide) rfl fun F C D hF hC hD => ?_
  obtain ⟨i0, hi0⟩ : ∃ i0, i0 = idxP p l := ⟨_, rfl⟩
  have h0 := hC _ _ _ (indexFuncW_ok 53 caps p hp l hl rows hrows i0 hi0)
  have c1 : F .cmp .eql i0 (-1) = true → rows = out := fun h => by
    rw [hF] at h
    have h : i0 = -1 := by simpa [sy] using h
    rw [hrows, hout]
    congr 1
    refine (List.filter_eq_self.2 fun e he => ?_).symm
    rw [hi0] at h
    unfold idxP at h
    cases hf : l.findIdx? p with
    | none => rw [List.findIdx?_eq_none_iff] at hf; simpa using hf e he
    | some k => rw [hf] at h; simp at h
  have c2 : F .cmp .eql i0 (-1) = false → ∃ k : Nat, i0 = (k : Int) ∧ DelI p l k (k + 1) (evR l) ∧ F .ar .add .i64 i0 1 = ((k + 1 : Nat) : Int) := fun h => by
    rw [hF] at h
    have h : i0 ≠ -1 := by simpa [sy] using h
    cases hf : l.findIdx? p with
    | none => rw [hi0] at h; unfold idxP at h; rw [hf] at h; simp at h
    | some k =>
      have e : idxP p l = (k : Int) := by unfold idxP; rw [hf]
      have hk : k < l.length := by
        rw [List.findIdx?_eq_some_iff_getElem] at hf
        exact hf.1
      exact ⟨k, hi0.trans e, DelI.start e, incF hF (hi0.trans e) (by omega)⟩
  clear hi0
  obtain ⟨j0, hj0⟩ : ∃ j0, F .ar .add .i64 i0 1 = j0 := ⟨_, rfl⟩
  cbv
  refine ⟨_, _, h0, ?_⟩
  cbv
  refine br (fun h => ?_) (fun h => ?_) <;> cbv
  · exact ⟨c1 h, trivial⟩
  · obtain ⟨k, ek, hk, ek1⟩ := c2 h
    rw [hj0] at ek1 ⊢
    refine ⟨Nat × Nat × Int × Int × List (List AV), fun x => sh52 x.2.2.1 x.2.2.2.1 caps x.2.2.2.2, fun x => x.2.2.1 = (x.1 : Int) ∧ x.2.2.2.1 = (x.2.1 : Int) ∧ DelI p l x.1 x.2.1 x.2.2.2.2, fun x => l.length - x.2.1, ⟨(k, k + 1, i0, j0, rows), ⟨ek, ek1, by rw [hrows]; exact hk⟩, Le.trans le_fresh (le_of [] (by simp [St.fresh, freshObs, Ob.fresh, mapS, killR, relT, leSl, leOb, injK, memK, parK, noTup, lk, rn0, rnA, plain, aI]))⟩, fun x hx => ?_⟩
    obtain ⟨i, j, i', j', R⟩ := x
    obtain ⟨ei, ej, hd⟩ := hx
    simp only at ei ej hd
    have hln : F .len R = (l.length : Int) := by rw [lenF hF, hd.len]
    obtain ⟨n', hn'⟩ : ∃ n', F .len R = n' := ⟨_, rfl⟩
    have en : n' = (l.length : Int) := hn'.symm.trans hln
    have tl := ltF hF j l.length j' n' ej en
    have hjl := hd.jl
    have hij := hd.ij
    have eip := incF hF ei (by omega)
    have ejp := incF hF ej (by omega)
    obtain ⟨i2, hi2⟩ : ∃ i2, F .ar .add .i64 i' 1 = i2 := ⟨_, rfl⟩
    obtain ⟨j2, hj2⟩ : ∃ j2, F .ar .add .i64 j' 1 = j2 := ⟨_, rfl⟩
    rw [hi2] at eip
    rw [hj2] at ejp
    have hb : ∀ c, F .bnot c = !c := fun c => by rw [hF]; rfl
    cbv
    rw [hn']
    refine br (fun h => ?_) (fun h => ?_) <;> cbv
    · have hil := tl.1 h
      obtain ⟨e, he⟩ : ∃ e, l[j]? = some e := ⟨_, List.getElem?_eq_getElem hil⟩
      have hrow := hd.row he
      obtain ⟨ci, hci⟩ : ∃ ci, R[i]? = some ci := ⟨_, List.getElem?_eq_getElem (by rw [hd.len]; omega)⟩
      have hpa := hp e
      generalize hpe : p e = c at hpa
      have hbc := hb c
      have eR2 : F .set R i e.ac = R.set i e.ac := by rw [hF]; rfl
      have hdy : F .bnot c = true → DelI p l (i + 1) (j + 1) (F .set R i e.ac) := fun g => by rw [eR2]; exact hd.keep he (hpe.trans (by rw [hbc] at g; simpa using g))
      have hdn : F .bnot c = false → DelI p l i (j + 1) R := fun g => hd.drop he (hpe.trans (by rw [hbc] at g; simpa using g))
      refine ⟨j, e.ac, ej, hrow, ?_⟩
      cbv
      refine ⟨_, hC _ _ _ hpa, ?_⟩
      cbv
      refine br (fun g => ?_) (fun g => ?_) <;> cbv
      · refine ⟨i, ci, ei, hci, ?_⟩
        cbv
        refine ⟨.mk rfl, ?_⟩
        cbv
        rw [hi2, hj2]
        exact ⟨(i + 1, j + 1, i2, j2, F .set R i e.ac), ⟨eip, ejp, hdy g⟩, (show l.length - (j + 1) < l.length - j by omega), Le.trans le_fresh (le_of [] (by simp [St.fresh, freshObs, Ob.fresh, mapS, killR, relT, leSl, leOb, injK, memK, parK, noTup, lk, rn0, rnA, plain]; rfl))⟩
      · rw [hj2]
        refine ⟨(i, j + 1, i', j2, R), ⟨ei, ejp, hdn g⟩, (show l.length - (j + 1) < l.length - j by omega), Le.trans le_fresh (le_of [] (by simp [St.fresh, freshObs, Ob.fresh, mapS, killR, relT, leSl, leOb, injK, memK, parK, noTup, lk, rn0, rnA, plain]))⟩
    · have hge : l.length ≤ j := by have := nfB tl h; omega
      have hfin : R.take i = out := by rw [hd.kept, hout, List.take_of_length_le hge]
      have hiR : i ≤ R.length := by rw [hd.len]; omega
      have hz : (R.take i ++ List.replicate (R.length - i) zEv).length = R.length := by simp; omega
      obtain ⟨R2, hR2⟩ : ∃ R2, R2 = R.take i ++ List.replicate (R.length - i) zEv := ⟨_, rfl⟩
      have h1 : (i : Int) ≤ F .len R := by rw [lenF hF]; omega
      have h2 : (i : Int) ≤ F .len R2 := by rw [lenF hF, hR2, hz]; omega
      have h3 : out = R2.take i := by
        rw [hR2, List.take_append_of_le_length (by simp; omega), List.take_take, Nat.min_self, hfin]
      refine ⟨i, ?_, h1, ?_⟩
      · rw [← ei]; rfl
      cbv
      refine ⟨R2, hR2, ?_⟩
      cbv
      refine ⟨i, out, ei, h2, h3, ?_⟩
      cbv

theorem of1_ok (t : Int) (e : Ev) (r : Bool) (hr : r = !(typI e.op.kind == t)) : CSem Try.prog (.fn 53) [.agg e.ac, .ept [aI t] 0] (.pure [aB r]) := by
  refine of_text gam_ok mixed { n := 10 } Try.func53 (by kernel_rfl) rfl rfl (by simp) (by decide) fun F C D hF hC hD => ?_
  obtain ⟨k, hk⟩ : ∃ k, k = typI e.op.kind := ⟨_, rfl⟩
  have h1 := hC _ _ _ (typ_ok e.op.kind k hk)
  rw [← hk] at hr
  have h2 : F .cmp .neq k t = r := by rw [hF, hr]; rfl
  cbv
  refine ⟨hC _ _ _ (ben_ok (by kernel_rfl)), ?_⟩
  refine ⟨_, h1, ?_⟩
  cbv
  rw [h2]
  exact ⟨rfl, trivial⟩
def ofV (l : List Ev) (key : ByteArray) : List Ev := (ofL l key).filter fun e => typI e.op.kind == ofT l key
theorem ofLive_ok (l : List Ev) (hl : l.length ≤ 100000000) (key : ByteArray) (rows : List (List AV)) (hrows : rows = evR l) (out : List (List AV)) (hout : out = evR (ofV l key)) : CSem Try.prog (.fn 28) [.sl rows, aS key] (.own 34 26 out []) := by
  refine of_text gam_ok mixed { n := 16, keep := [10, 15], wrs := [52] } Try.func28 (by kernel_rfl) rfl rfl (by simp) (by decide) fun F C D hF hC hD => ?_
  obtain ⟨t, ht⟩ : ∃ t, t = ofT l key := ⟨_, rfl⟩
  obtain ⟨R, hR⟩ : ∃ R, R = evR (ofL l key) := ⟨_, rfl⟩
  have h1 := hC _ _ _ (of_ok l hl key rows hrows R hR t ht)
  have hle : (ofL l key).length ≤ 100000000 := by
    have := liveAll_len (l.filter (keyP key))
    have h3 := List.length_filter_le (keyP key) l
    unfold ofL; omega
  have h2 := hC _ _ _ (deleteFunc_ok [.ept [aI t] 0] (fun e => !(typI e.op.kind == t)) (fun e => of1_ok t e _ rfl) (ofL l key) hle R hR out (by rw [hout, ofV, ht]; congr 2; funext e; simp))
  cbv
  refine ⟨34, 26, R, [aI t], h1, ?_⟩
  cbv
  refine ⟨[], 34, 26, out, [], h2, ?_⟩
  cbv

theorem ofL_part (l : List Ev) (key : ByteArray) : ofL (l.filter (keyP key)) key = ofL l key := by
  unfold ofL; rw [List.filter_filter]; simp
theorem ofT_part (l : List Ev) (key : ByteArray) : ofT (l.filter (keyP key)) key = ofT l key := by
  unfold ofT; rw [ofL_part]
theorem ofV_part (l : List Ev) (key : ByteArray) : ofV (l.filter (keyP key)) key = ofV l key := by
  unfold ofV; rw [ofL_part, ofT_part]
theorem ofV_len (l : List Ev) (key : ByteArray) : (ofV l key).length ≤ l.length := by
  have h1 := liveAll_len (l.filter (keyP key))
  have h2 := List.length_filter_le (keyP key) l
  have h3 := List.length_filter_le (fun e => typI e.op.kind == ofT l key) (ofL l key)
  unfold ofV; unfold ofL at h3 ⊢; omega
theorem bigApart_ok (l : List Ev) (hl : ¬ l.length ≤ 200) (rows : List (List AV)) (hrows : rows = evR l) (key : ByteArray) (r : Bool) (hr : true = r) : CSem Try.prog (.fn 8) [.sl rows, aS key] (.pure [aB r]) := by
  refine of_text gam_ok mixed { n := 52 } Try.func8 (by kernel_rfl) rfl rfl (by simp) (by decide) fun F C D hF hC hD => ?_
  have haw := hC _ _ _ (awake10_ok true rfl)
  obtain ⟨fb, hfb⟩ : ∃ fb, fb = few10 l := ⟨_, rfl⟩
  have hfew := hC _ _ _ (few10_ok l rows hrows fb hfb)
  have hff : fb = false := by cases h : fb; rfl; exact absurd (few10_len (hfb.symm.trans h)) hl
  have nt : F .bnot true = false := bnotF hF true
  have nf : F .bnot fb = !fb := bnotF hF fb
  cbv
  refine ⟨_, haw, ?_⟩
  cbv
  refine brf (fun h1 => ?_) (fun h1 => by rw [nt] at h1; cases h1)
  cbv
  refine ⟨_, hfew, ?_⟩
  cbv
  refine br (fun h2 => ?_) (fun h2 => by have := nf.symm.trans h2; rw [hff] at this; cases this)
  cbv
  refine ⟨_, haw, ?_⟩
  cbv
  rw [← hr]; exact ⟨rfl, trivial⟩
abbrev sh8 (i' n' : Int) (key : ByteArray) (rows out : List (List AV)) : St := { slots := [(17, aI i'), (16, aI n'), (0, .sl rows), (1, aS key), (5, .own 0 0)], obs := [(0, .row 34 26 out 0 0)], ctr := 1 }
theorem liveApart_ok (l : List Ev) (hl : l.length ≤ 200) (rows : List (List AV)) (hrows : rows = evR l) (key : ByteArray) (r : Bool) (hr : true = r) : CSem Try.prog (.fn 8) [.sl rows, aS key] (.pure [aB r]) := by
  refine of_text gam_ok mixed { n := 52, keep := [34] } Try.func8 (by kernel_rfl) rfl rfl (by simp) (by decide) fun F C D hF hC hD => ?_
  have haw := hC _ _ _ (awake10_ok true rfl)
  obtain ⟨fb, hfb⟩ : ∃ fb, fb = few10 l := ⟨_, rfl⟩
  have hfew := hC _ _ _ (few10_ok l rows hrows fb hfb)
  have nt : F .bnot true = false := bnotF hF true
  have nf : F .bnot fb = !fb := bnotF hF fb
  obtain ⟨n', hn'⟩ : ∃ n', F .len rows = n' := ⟨_, rfl⟩
  have en : n' = (l.length : Int) := by rw [← hn', lenF hF, hrows, evR_len]
  obtain ⟨m, hm⟩ : ∃ m, m = l.filter (keyP key) := ⟨_, rfl⟩
  have hml : m.length ≤ 200 := by rw [hm]; exact Nat.le_trans (List.length_filter_le _ _) hl
  obtain ⟨M, hM⟩ : ∃ M, M = evR m := ⟨_, rfl⟩
  obtain ⟨t, ht⟩ : ∃ t, t = ofT l key := ⟨_, rfl⟩
  have ht1 := hC _ _ _ (type_ok l (by omega) key rows hrows t ht)
  have ht2 := hC _ _ _ (type_ok m (by omega) key M hM t (by rw [hm, ofT_part]; exact ht))
  obtain ⟨A, hA⟩ : ∃ A, A = evR (ofV l key) := ⟨_, rfl⟩
  have ho1 := hC _ _ _ (ofLive_ok l (by omega) key rows hrows A hA)
  have ho2 := hC _ _ _ (ofLive_ok m (by omega) key M hM A (by rw [hm, ofV_part]; exact hA))
  have hsame := hC _ _ _ (same_ok (ofV l key) (ofV l key) (by have := ofV_len l key; omega) (by have := ofV_len l key; omega) A A hA hA true (by simp))
  have hrf : F .cmp .eql t t = true := by rw [hF]; simp [sy]
  cbv
  refine ⟨_, haw, ?_⟩
  cbv
  refine brf (fun h1 => ?_) (fun h1 => by rw [nt] at h1; cases h1)
  cbv
  refine ⟨_, hfew, ?_⟩
  cbv
  refine br (fun h2 => ?_) (fun h2 => ?_) <;> cbv
  · refine ⟨_, haw, ?_⟩
    cbv
    rw [← hr]; exact ⟨rfl, trivial⟩
  rw [hn']
  refine ⟨Nat × Int × List (List AV), fun x => sh8 x.2.1 n' key rows x.2.2, fun x => x.2.1 = (x.1 : Int) ∧ x.1 ≤ l.length ∧ x.2.2 = evR ((l.take x.1).filter (keyP key)), fun x => l.length - x.1, ⟨(0, 0, []), ⟨rfl, Nat.zero_le _, by simp [evR]⟩, Le.trans (le_nil 5 34 26 (by rfl) (by rfl)) (le_of [] (by simp [leSl, leOb, injK, memK, parK, noTup, lk, rn0, rnA, plain, aI]))⟩, fun x hx => ?_⟩
  obtain ⟨i, i', o⟩ := x
  obtain ⟨ei, hi, ho⟩ := hx
  simp only at ei hi ho
  have en : n' = (l.length : Int) := en
  have tl := ltF hF i l.length i' n' ei en
  have ep := incF hF ei (by omega)
  have hol : o.length ≤ l.length := by
    rw [ho, evR_len]
    exact Nat.le_trans (List.length_filter_le _ _) (by simp; omega)
  have room : ∀ q : List (List AV), q.length = 1 → (F .len o + F .len q) * 232 ≤ 140737488355328 := fun q hq => by rw [lenF hF, lenF hF, hq]; omega
  obtain ⟨j, hj⟩ : ∃ j, F .ar .add .i64 i' 1 = j := ⟨_, rfl⟩
  have ej : j = ((i + 1 : Nat) : Int) := hj.symm.trans ep
  cbv
  refine br (fun h => ?_) (fun h => ?_) <;> cbv
  · have hil := tl.1 h
    obtain ⟨e, he⟩ : ∃ e, l[i]? = some e := ⟨_, List.getElem?_eq_getElem hil⟩
    have hrow : rows[i]? = some e.ac := by rw [hrows]; exact evR_get he
    have htake : l.take (i + 1) = l.take i ++ [e] := by rw [List.take_add_one, he]; rfl
    have hno : keyP key e = false → o = evR ((l.take (i + 1)).filter (keyP key)) := fun h => by rw [htake, List.filter_append, ho]; simp [evR, h]
    obtain ⟨o2, ho2⟩ : ∃ o2, o2 = F .app o [e.ac] := ⟨_, rfl⟩
    have hyes : keyP key e = true → o2 = evR ((l.take (i + 1)).filter (keyP key)) := fun h => by rw [ho2, htake, List.filter_append, ho, hF]; simp [evR, h, sy]
    have hrm := room [e.ac] rfl
    have hel : ∀ r ∈ [e.ac], r.length = 26 := fun r h => by rw [List.mem_singleton.1 h]; rfl
    have hk : F .scmp .eql e.op.key key = keyP key e := by rw [hF, keyP, beq_toListBytes]; rfl
    refine ⟨i, e.ac, ei, hrow, rfl, ?_⟩
    cbv
    refine br (fun g => ?_) (fun g => ?_) <;> cbv
    · refine ⟨i, e.ac, ei, hrow, rfl, ?_⟩
      cbv
      refine ⟨hel, hrm, ?_⟩
      rw [hj]
      exact ⟨(i + 1, j, o2), ⟨ej, hil, hyes (hk.symm.trans g)⟩, (show l.length - (i + 1) < l.length - i by omega), le_of [(0, 1)] (by simp [leSl, leOb, injK, memK, parK, noTup, lk, rn0, rnA, plain]; exact ⟨ho2.symm, rfl⟩)⟩
    · rw [hj]
      exact ⟨(i + 1, j, o), ⟨ej, hil, hno (hk.symm.trans g)⟩, (show l.length - (i + 1) < l.length - i by omega), le_of [] (by simp [leSl, leOb, injK, memK, parK, noTup, lk, rn0, rnA, plain])⟩
  · have hge : l.length ≤ i := by have := nfB tl h; omega
    have hfin : M = o := by rw [ho, List.take_of_length_le hge, hM, hm]
    rw [hfin] at ht2 ho2
    refine ⟨_, ht1, ?_⟩
    cbv
    refine ⟨_, ht2, ?_⟩
    cbv
    refine br (fun g => ?_) (fun g => by rw [hrf] at g; cases g)
    cbv
    refine ⟨_, ho1, ?_⟩
    cbv
    refine ⟨_, ho2, ?_⟩
    cbv
    refine ⟨_, hsame, ?_⟩
    cbv
    rw [← hr]; exact ⟨rfl, trivial⟩
theorem liveApart_all (l : List Ev) (key : ByteArray) : CSem Try.prog (.fn 8) [.sl (evR l), aS key] (.pure [aB true]) := by
  by_cases h : l.length ≤ 200
  · exact liveApart_ok l h _ rfl key true rfl
  · exact bigApart_ok l h _ rfl key true rfl
end Go.Proofs.Ytljpmnifkccbdaa
