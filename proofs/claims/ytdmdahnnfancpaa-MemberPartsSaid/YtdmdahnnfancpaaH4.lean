import Derived.Test.YtdmdahnnfancpaaH3
set_option linter.unusedSimpArgs false
set_option linter.unusedVariables false
namespace Go.Proofs.Ytdmdahnnfancpaa
open Go Go.RowKit Am Go.Maps Go.Sort Go.Shelf

theorem list1 {P : Program} {ops : Array Oper} {W W' : World} {Q : Exit → Act → World → Prop} {rest : List Oper} {a : Act} {o : Oper} (v : Value) (hg : o.guard = none) (h : (execOp a.eval o).run P W = .ok (.value v) W') (k : wpList P ops Q rest (a.put o.dst v) W') : wpList P ops Q (o :: rest) a W := by
  refine wpList_plain hg fun K' hK' => ?_
  unfold Oper.wp
  rw [h]
  exact hK' _ _ k
theorem evT (a : Act) (t : Nat) : a.eval (.tmp t) = a.tmps.getD t undef := rfl
theorem put_ne {a : Act} {d t : Nat} {v : Value} (hd : d < a.tmps.size) (h : t ≠ d) : (a.put (some d) v).tmps.getD t undef = a.tmps.getD t undef := by rw [getD_put a d t v hd, if_neg h]
theorem put_eq {a : Act} {d : Nat} {v : Value} (hd : d < a.tmps.size) : (a.put (some d) v).tmps.getD d undef = v := by rw [getD_put a d d v hd, if_pos rfl]
/-- A map's keys, sorted. -/
def srtK (ks : List ByteArray) : List (List UInt8) := (ks.map L).mergeSort fun x y => decide (x ≤ y)
theorem srtK_perm (ks : List ByteArray) : (srtK ks).Perm (ks.map L) := List.mergeSort_perm _ _
theorem sort_ext {l m : List (List UInt8)} (h : l.Perm m) : l.mergeSort (fun x y => decide (x ≤ y)) = m.mergeSort (fun x y => decide (x ≤ y)) := by
  have tr : ∀ (a b c : List UInt8), decide (a ≤ b) = true → decide (b ≤ c) = true → decide (a ≤ c) = true := fun a b c h1 h2 => decide_eq_true (List.le_trans (of_decide_eq_true h1) (of_decide_eq_true h2))
  have to : ∀ (a b : List UInt8), (decide (a ≤ b) || decide (b ≤ a)) = true := fun a b => by
    rcases List.le_total a b with h | h <;> simp [h]
  refine List.Perm.eq_of_pairwise (le := fun x y => decide (x ≤ y) = true) (fun x y _ _ h1 h2 => List.le_antisymm (of_decide_eq_true h1) (of_decide_eq_true h2)) (List.pairwise_mergeSort tr to _) (List.pairwise_mergeSort tr to _) ?_
  exact (List.mergeSort_perm _ _).trans (h.trans (List.mergeSort_perm _ _).symm)
theorem repl_str {w : World} {S : Nat → Prop} : ∀ (l : List (List UInt8)), RepL w S (sR l).flatten (l.map encStr)
  | [] => RepL.nil _ _
  | s :: l => by
    show RepL w S (aS (BA s) :: (sR l).flatten) (encStr s :: l.map encStr)
    exact RepL.cons (.v _ rfl) (repl_str l)
set_option maxHeartbeats 1000000 in
/-- 'slices.Sorted(maps.Keys(m))' in a region that is taken in order. -/
theorem list_keys {W0 : Bas} {S0 : Nat → Prop} {n : Nat} {st : St} {a : Act} {w : World} {ops : Array Oper} {rest : List Oper} {Q : Exit → Act → World → Prop} {o0 o1 o2 : Oper} {tm d0 d1 d2 f g ty : Nat} {t1 t2 : Array TypeId} {ks : List ByteArray} {vs : List AV}
    (hr : Rel W0 S0 n st a w) (hob : st.obs = []) (hm : lk tm st.slots = some (.mp ks vs)) (g0 : o0.guard = none) (p0 : o0.op = .move (.tmp tm)) (e0 : o0.dst = some d0) (g1 : o1.guard = none) (p1 : o1.op = .call { callee := .value (.func f), args := #[.tmp d0], argTypes := t1 }) (e1 : o1.dst = some d1)
    (g2 : o2.guard = none) (p2 : o2.op = .call { callee := .value (.func 51), args := #[.tmp d1], argTypes := t2 }) (e2 : o2.dst = some d2) (n0 : d0 < n) (n1 : d1 < n) (n2 : d2 < n) (f0 : lk d0 st.slots = none) (f1 : lk d1 st.slots = none)
    (hnd : ks.Nodup) (hl : ks.length ≤ 1000000) (hz : ∀ k ∈ ks, k.size ≤ maxLen)
    (hf : ∀ cs w, (callFunc f cs).run Try.prog w = .ok (.enter f cs) w) (hf51 : ∀ cs w, (callFunc 51 cs).run Try.prog w = .ok (.enter 51 cs) w)
    (hK : ∀ (mb : Option Nat) (W : World), Calls Try.prog f #[.map mb] W fun e w' => e = .returned (.func (.func g) #[] #[.pointer (some ⟨W.heap.size, 0, none⟩)]) ∧ w' = W.alloc (.cells #[.map mb] ty))
    (hS : ∀ (b nn : Nat) (D0 : DataW Unit) (w : World), w.ownsMap Try.prog 9 anyR b nn D0 → Maps.size D0 ≤ maxLen → Maps.size D0 * 16 ≤ 140737488355328 → Calls Try.prog 51 #[.func (.func g) #[] #[.pointer (some ⟨w.heap.size, 0, none⟩)]] (w.alloc (.cells #[.map (some b)] ty)) (SortedIn (strKeys D0) (w.alloc (.cells #[.map (some b)] ty))))
    (k : ∀ a' w', Rel W0 S0 n { slots := (d2, .sl (sR (srtK ks))) :: st.slots, obs := [], ctr := st.ctr, par := st.par } a' w' → wpList Try.prog ops Q rest a' w') : wpList Try.prog ops Q (o0 :: o1 :: o2 :: rest) a w := by
  obtain ⟨S, β, hr⟩ := hr
  obtain ⟨r, es, clock, hy, hSr, hh, hk, hn, hbd⟩ : ∃ r es clock, a.tmps.getD tm undef = .map (some r) ∧ S r ∧ w.heap[r]? = some (.map es clock) ∧ es.toList.map (·.key) = ks.map Value.string ∧ (es.toList.map (·.born)).Nodup ∧ ∀ x ∈ es.toList, x.born < clock := by
    have h : Rep w S (.mp ks vs) (a.tmps.getD tm undef) := (hr.slots tm _ hm).2
    generalize a.tmps.getD tm undef = y at h
    cases h with
    | c h => cases h
    | mp hs hh hk hl hn hbd hr => exact ⟨_, _, _, rfl, hs, hh, hk, hn, hbd⟩
  have hsz : a.tmps.size = n := hr.size
  refine list1 (W' := w) (.map (some r)) g0 (by simp [execOp, p0, evT, hy]) ?_
  rw [e0]
  obtain ⟨a1, ha1⟩ : ∃ x, x = a.put (some d0) (.map (some r)) := ⟨_, rfl⟩
  rw [← ha1]
  have z1 : a1.tmps.size = n := by rw [ha1, put_size]; exact hsz
  have v1 : a1.eval (.tmp d0) = .map (some r) := by rw [ha1, evT, put_eq (by omega)]
  refine wpList_plain g1 fun K' hK' => ?_
  refine wp_enter (run_call (caps := []) p1 rfl hf) ?_
  simp only [List.map_cons, List.map_nil, List.append_nil, v1]
  refine (hK (some r) w).mono ?_
  rintro e w1 ⟨rfl, hw1⟩
  refine ⟨_, rfl, hK' _ _ ?_⟩
  rw [e1]
  obtain ⟨a2, ha2⟩ : ∃ x, x = a1.put (some d1) (.func (.func g) #[] #[.pointer (some ⟨w.heap.size, 0, none⟩)]) := ⟨_, rfl⟩
  rw [← ha2]
  have z2 : a2.tmps.size = n := by rw [ha2, put_size]; exact z1
  have v2 : a2.eval (.tmp d1) = .func (.func g) #[] #[.pointer (some ⟨w.heap.size, 0, none⟩)] := by rw [ha2, evT, put_eq (by omega)]
  obtain ⟨D, hown, hperm, hDs⟩ := map_owned hh hk hn hbd hnd hl hz
  refine wpList_plain g2 fun K2 hK2 => ?_
  refine wp_enter (run_call (caps := []) p2 rfl hf51) ?_
  simp only [List.map_cons, List.map_nil, List.append_nil, v2]
  rw [hw1]
  refine (hS r es.size D w hown (by unfold maxLen; omega) (by omega)).mono ?_
  rintro e w2 ⟨v, ss, rfl, hss, hrow, hbel⟩
  refine ⟨_, rfl, hK2 _ _ (k _ _ ?_)⟩
  rw [e2]
  have hsorted : ss.mergeSort (fun x y => decide (x ≤ y)) = srtK ks := sort_ext (hss.trans hperm)
  rw [hsorted] at hrow
  have hslen : ss.length = (sR (srtK ks)).length := by rw [sR_len, (srtK_perm ks).length_eq, hss.length_eq, hperm.length_eq]
  rw [hslen] at hrow
  have hO := OwnR.of hrow
  have halloc : (w.alloc (.cells #[.map (some r)] ty)).heap.size = w.heap.size + 1 := by simp
  have hold : ∀ j, j < w.heap.size → w2.heap[j]? = w.heap[j]? := fun j hj => (hbel.block j (by rw [halloc]; omega)).trans (((Below.refl w.heap.size w).alloc (Nat.le_refl _) _).block j hj)
  have hsize : w.heap.size ≤ w2.heap.size := by have := hbel.size; rw [halloc] at this; omega
  have hgr : Gr w S w2 (fun j => S j ∨ v.ownBlock = some j) := by
    refine ⟨⟨hbel.os, hbel.tape, hbel.output, hsize, hold⟩, fun j h => .inl h, fun j h => ?_, fun j h => ?_⟩
    · rcases h with h | h
      · exact .inl h
      · have := (hO.lt j h).1; rw [halloc] at this; exact .inr (by omega)
    · rcases h with h | h
      · exact Nat.lt_of_lt_of_le (hr.gr.lt j h) hsize
      · exact (hO.lt j h).2
  have hrep : RepC w2 (fun j => S j ∨ v.ownBlock = some j) (.sl (sR (srtK ks))) v := repc_of_own hO (repl_str _) (sR_one _) fun j h => .inr h
  refine ⟨fun j => S j ∨ v.ownBlock = some j, β, hr.gr.step hgr, hr.par, by rw [put_defers, ha2, put_defers, ha1, put_defers]; exact hr.defers, by rw [put_size]; exact z2, fun t x ht => ?_, fun j o h => by simp [lk] at h, fun j o g h => by simp [lk] at h, fun j j' o o' h => by simp [lk] at h, fun j o h => by simp [lk] at h, hr.parc, fun j o _ h => by simp [lk] at h⟩
  simp only [lk] at ht
  by_cases htd : d2 = t
  · rw [if_pos htd] at ht
    injection ht with ht
    subst ht
    refine ⟨by omega, ?_⟩
    rw [← htd, put_eq (by omega)]
    exact srep_of_rep (.c hrep)
  · rw [if_neg htd] at ht
    obtain ⟨h1, h2⟩ := hr.slots t x ht
    refine ⟨h1, ?_⟩
    have n1 : t ≠ d0 := fun e => by rw [e, f0] at ht; cases ht
    have n2 : t ≠ d1 := fun e => by rw [e, f1] at ht; cases ht
    rw [put_ne (by omega) (fun e => htd e.symm), ha2, put_ne (by omega) n2, ha1, put_ne (by omega) n1]
    rw [hob] at h2
    exact srep_mono (hgr.same hr.gr.lt) hgr.sub h2
end Go.Proofs.Ytdmdahnnfancpaa
