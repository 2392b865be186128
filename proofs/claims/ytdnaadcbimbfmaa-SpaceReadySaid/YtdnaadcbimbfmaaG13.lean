import Derived.Test.YtdnaadcbimbfmaaG12
set_option linter.unusedSimpArgs false
set_option linter.unusedVariables false
namespace Go.Proofs.Ytdnaadcbimbfmaa
open Go Go.RowKit Am

theorem BG.same {B b1 b2 : Nat} {S : Nat → Prop} {o : Nat → Option Nat} {v1 v2 : Value} {l1 : List Ev} {l2 : List ElT} {w w' : World} (h : BG B S o b1 b2 v1 v2 l1 l2 w) (hw : ∀ g t, o g = some t → t ≠ 3 → w'.heap[g]? = w.heap[g]?) (hz : w.heap.size ≤ w'.heap.size) : BG B S o b1 b2 v1 v2 l1 l2 w' :=
  ⟨fun g t hg => ⟨(h.dom g t hg).1, Nat.lt_of_lt_of_le (h.dom g t hg).2.1 hz, (h.dom g t hg).2.2⟩, h.o1, h.o2, h.w1, h.w2, (hw _ _ h.o1 (by decide)).trans h.c1, (hw _ _ h.o2 (by decide)).trans h.c2, ownsRow.keep h.r1 fun g hg => hw g _ (h.w1 g hg) (by decide), ownsRow.keep h.r2 fun g hg => hw g _ (h.w2 g hg) (by decide), h.n1, h.n2⟩
/-- The iterator, and the map that it goes through. -/
structure IT (σ : Sp) (S : Nat → Prop) (o : Nat → Option Nat) (r m : Nat) (es : Array MapEntry) (clock : Nat) (seen : Array Nat) (w : World) : Prop where
  or' : o r = some 3
  it : w.heap[r]? = some (.mapIter (some m) clock seen clock)
  sm : S m
  mp : w.heap[m]? = some (.map es clock)
  len : es.toList.length = σ.es.length
  nd : (es.toList.map (·.born)).Nodup
  lt : ∀ x ∈ es.toList, x.born < clock
  rep : ∀ (i : Nat) (en : Ent) (e : MapEntry), σ.es[i]? = some en → es.toList[i]? = some e → Rep w S (.ept [.sl (en.lv.map itE), .sl (en.dd.map itT)] 0) e.val
theorem IT.mono {σ : Sp} {S S' : Nat → Prop} {o o' : Nat → Option Nat} {r m clock : Nat} {es : Array MapEntry} {seen : Array Nat} {w w' : World} (h : IT σ S o r m es clock seen w) (ho : o' r = some 3) (hr : w'.heap[r]? = w.heap[r]?) (hw : SameOn S w w') (hS : ∀ g, S g → S' g) : IT σ S' o' r m es clock seen w' :=
  ⟨ho, hr.trans h.it, hS _ h.sm, (hw _ h.sm).trans h.mp, h.len, h.nd, h.lt, fun i en e h1 h2 => (h.rep i en e h1 h2).mono hw hS⟩
theorem rep_lv {w : World} {S : Nat → Prop} {a b : AV} {y : Value} (h : Rep w S (.ept [a, b] 0) y) : ∃ ad, y = .pointer (some ad) ∧ Rep w S (.ept [a] 0) (.pointer (some (ad.add 0))) ∧ Rep w S (.ept [b] 0) (.pointer (some (ad.add 1))) := by
  obtain ⟨ad, rfl, h1, h2⟩ := Rep.ept_inv h
  have f1 : CellsAt w S ad [a] := ⟨h1, fun i u hu => by
    match i with
    | 0 => exact h2 0 u hu
    | i + 1 => simp at hu⟩
  have f2 : CellsAt w S (ad.add 1) [b] := ⟨by rw [add_blk]; exact h1, fun i u hu => by
    match i with
    | 0 => rw [add00]; exact h2 1 u hu
    | i + 1 => simp at hu⟩
  have g1 := Rep.ept (off := 0) f1
  have g2 := Rep.ept (off := 0) f2
  refine ⟨ad, by rw [add00], by rw [add00] at g1 ⊢; exact g1, by rw [add00] at g2; exact g2⟩
theorem mem_step {α : Type} {σ : Sp} {es : Array MapEntry} {seen : Array Nat} {e : MapEntry} {i : Nat} {en : Ent} {f : Ent → List α} {l l' : List α} (hnd : (es.toList.map (·.born)).Nodup) (hie : es.toList[i]? = some e) (hen : σ.es[i]? = some en)
    (h : ∀ x, x ∈ l ↔ ∃ (i : Nat) (en : Ent), σ.es[i]? = some en ∧ (∃ e : MapEntry, es.toList[i]? = some e ∧ seen.contains e.born = true) ∧ x ∈ f en) (h' : ∀ x, x ∈ l' ↔ x ∈ l ∨ ∃ j, j < (f en).length ∧ (f en)[j]? = some x) :
    ∀ x, x ∈ l' ↔ ∃ (i : Nat) (en : Ent), σ.es[i]? = some en ∧ (∃ e' : MapEntry, es.toList[i]? = some e' ∧ (seen.push e.born).contains e'.born = true) ∧ x ∈ f en := fun x => by
  rw [h', h]
  constructor
  · rintro (⟨i', en', f1, ⟨e', f2, f3⟩, f4⟩ | ⟨j, hj, h1⟩)
    · exact ⟨i', en', f1, ⟨e', f2, by rw [contains_push, f3]; rfl⟩, f4⟩
    · exact ⟨i, en, hen, ⟨e, hie, by rw [contains_push]; simp⟩, List.mem_of_getElem? h1⟩
  · rintro ⟨i', en', f1, ⟨e', f2, f3⟩, f4⟩
    rw [contains_push, Bool.or_eq_true] at f3
    rcases f3 with f3 | f3
    · exact .inl ⟨i', en', f1, ⟨e', f2, f3⟩, f4⟩
    · have hee : e' = e := born_inj hnd (List.mem_of_getElem? f2) (List.mem_of_getElem? hie) (by simpa using f3)
      subst hee
      have hii : i' = i := by
        have h1 := (List.getElem?_eq_some_iff.1 f2)
        have h2 := (List.getElem?_eq_some_iff.1 hie)
        have hb : (es.toList.map (·.born))[i']? = (es.toList.map (·.born))[i]? := by rw [List.getElem?_map, List.getElem?_map, f2, hie]
        exact (List.getElem?_inj (by rw [List.length_map]; exact h1.1) hnd).1 hb
      subst hii
      rw [hen] at f1; injection f1 with f1; subst f1
      obtain ⟨j, hj⟩ := List.getElem?_of_mem f4
      exact .inr ⟨j, (List.getElem?_eq_some_iff.1 hj).1, hj⟩
structure SpU (σ : Sp) (A : List Ev) (D : List ElT) : Prop where
  rA : Rise dE A
  rD : Rise dT D
  mA : ∀ x, x ∈ A ↔ ∃ en ∈ σ.es, x ∈ en.lv
  mD : ∀ x, x ∈ D ↔ ∃ en ∈ σ.es, x ∈ en.dd
  lA : A.length ≤ 100000
  lD : D.length ≤ 100000
  ok : ∀ en ∈ σ.es, Rise dE en.lv ∧ Rise dT en.dd
  uE : ∀ (i j : Nat) (a b : Ent) (x y : Ev), σ.es[i]? = some a → σ.es[j]? = some b → x ∈ a.lv → y ∈ b.lv → x.dot = y.dot → i = j
  uT : ∀ (i j : Nat) (a b : Ent) (x y : ElT), σ.es[i]? = some a → σ.es[j]? = some b → x ∈ a.dd → y ∈ b.dd → dT x = dT y → i = j
set_option maxHeartbeats 8000000 in
set_option maxRecDepth 100000 in
theorem all_ok (σ : Sp) (A : List Ev) (D : List ElT) (hU : SpU σ A D) (hlen : σ.es.length = σ.ks.length) : CSem Try.prog (.fn 19) [.ept (spA (mapA σ) σ.vv σ.tm) 0] (.pure [.ept [.sl (A.map itE)] 0, .ept [.sl (D.map itT)] 0]) := by
  obtain ⟨mA, hmA⟩ : ∃ mA, mA = mapA σ := ⟨_, rfl⟩
  rw [← hmA]
  refine acall_hand 57 Try.func19 (by kernel_rfl) rfl rfl (by simp) fun w S a h => ?_
  refine wp_seq (h.pc (E := { n := 57 }) [(0, .ept (spA mA σ.vv σ.tm) 0)] rfl (fun F C D hF hC => ?_) fun S1 a1 w1 h1 => ?_)
  · cbv
    exact ⟨100, (le_of [] (by simp [leSl, leOb, injK, memK, parK, noTup, lk, rn0, rnA, plain] <;> first | rfl | decide | (repeat (first | rfl | trivial | refine And.intro ?_ ?_))))⟩
  clear h
  -- two bags
  refine wp_seq (wp_region_list ?_)
  refine callW [] rfl rfl (enterT Try.func43 (by kernel_rfl) rfl) (by simp) ?_
  refine (bNewE_W w1).mono ?_
  rintro r w2 ⟨rfl, hw2⟩
  refine ⟨_, rfl, ?_⟩
  refine callW [] rfl rfl (enterT Try.func44 (by kernel_rfl) rfl) (by simp) ?_
  refine (bNewT_W w2).mono ?_
  rintro r w3 ⟨rfl, hw3⟩
  refine ⟨_, rfl, ?_⟩
  obtain ⟨b1, hb1⟩ : ∃ b, b = w1.heap.size := ⟨_, rfl⟩
  obtain ⟨b2, hb2⟩ : ∃ b, b = w2.heap.size := ⟨_, rfl⟩
  rw [← hb1, ← hb2]
  have hB2 : Below w1.heap.size w1 w2 := by rw [hw2]; exact (Below.refl _ _).alloc (Nat.le_refl _) _
  have hB3 : Below w2.heap.size w2 w3 := by rw [hw3]; exact (Below.refl _ _).alloc (Nat.le_refl _) _
  have hbb : b2 = b1 + 1 := by rw [hb2, hb1, hw2]; simp
  have hz3 : w3.heap.size = b1 + 2 := by rw [hw3]; simp; omega
  have hc1 : w3.heap[b1]? = some (.cells #[.slice none 0 0] 77 (0, 0)) := (hB3.block b1 (by omega)).trans (by rw [hw2, hb1]; exact heap_alloc_new w1 _)
  have hc2 : w3.heap[b2]? = some (.cells #[.slice none 0 0] 79 (0, 0)) := by rw [hw3, hb2]; exact heap_alloc_new w2 _
  have hw0 := h1.gr.below.size
  have hBG : BG w.heap.size S1 (fun g => if g = b1 then some 1 else if g = b2 then some 2 else none) b1 b2 (.slice none 0 0) (.slice none 0 0) [] [] w3 := by
    refine ⟨fun g t hg => ?_, if_pos rfl, (if_neg (by omega)).trans (if_pos rfl), fun g hg => by simp [Value.ownBlock] at hg, fun g hg => by simp [Value.ownBlock] at hg, hc1, hc2, ⟨rfl, .inl ⟨rfl, rfl⟩⟩, ⟨rfl, .inl ⟨rfl, rfl⟩⟩, by simp [Value.ownBlock], by simp [Value.ownBlock]⟩
    have hg : (if g = b1 then some 1 else if g = b2 then some 2 else none) = some t := hg
    split at hg
    · exact ⟨by omega, by omega, fun hs => by have := h1.hi.lt g hs; omega⟩
    · split at hg
      · exact ⟨by omega, by omega, fun hs => by have := h1.hi.lt g hs; omega⟩
      · cases hg
  have h3 := (((h1.out (gr_below h1.hi.lt (hB2.trans (hB3.mono hB2.size)))).put (d := 12) (by decide) (.v (.pointer (some ⟨b1, 0, none⟩))) (srep_of_rep (.c (.v _ rfl)))).put (d := 13) (by decide) (.v (.pointer (some ⟨b2, 0, none⟩))) (srep_of_rep (.c (.v _ rfl))))
  refine h3.pclg (E := { n := 57 }) [(5, .v (.pointer (some ⟨b2, 0, none⟩))), (4, .v (.pointer (some ⟨b1, 0, none⟩))), (0, .ept (spA mA σ.vv σ.tm) 0)] rfl (fun F C hF hC => ?_) fun S4 a4 w4 h4 g4 => ?_
  · cbv
    exact ⟨100, (le_of [] (by simp [leSl, leOb, injK, memK, parK, noTup, lk, rn0, rnA, plain] <;> first | rfl | decide | (repeat (first | rfl | trivial | refine And.intro ?_ ?_))))⟩
  have hg3 : Gr w1 S1 w3 S1 := gr_below h1.hi.lt (hB2.trans (hB3.mono hB2.size))
  have hB4 := hBG.grow (S := S1) (S' := S4) (w' := w4) g4
  clear h3 hBG hc1 hc2 hw2 hw3 hB2 hB3
  clear g4 hg3 h1
  have hun : Try.prog.underlying 50 = some (.map 9 74) := by kernel_rfl
  have hrl0 : σ.ks = [] → A = [] ∧ D = [] := fun h0 => by
    have he : σ.es = [] := by rw [h0] at hlen; exact List.length_eq_zero_iff.1 hlen
    constructor
    · apply List.eq_nil_iff_forall_not_mem.2
      intro x hx
      obtain ⟨en, hen, _⟩ := (hU.mA x).1 hx
      rw [he] at hen; cases hen
    · apply List.eq_nil_iff_forall_not_mem.2
      intro x hx
      obtain ⟨en, hen, _⟩ := (hU.mD x).1 hx
      rw [he] at hen; cases hen
  -- the loop's end
  refine wp_seq (wp_mono (Q := fun ex a' w' => ex = .normal ∧ ∃ S' o' v1 v2, PS 57 w S [(5, .v (.pointer (some ⟨b2, 0, none⟩))), (4, .v (.pointer (some ⟨b1, 0, none⟩)))] S' a' w' ∧ BG w.heap.size S' o' b1 b2 v1 v2 A D w') ?_ fun ex a6 w6 hh => ?_)
  rotate_left
  · obtain ⟨rfl, S6, o6, v1, v2, h6, hB6⟩ := hh
    -- the bags stay as they are
    have r1 : RepC w6 (fun g => S6 g ∨ o6 g ≠ none) (.sl (A.map itE)) v1 := repc_of_own (B := 0) (e := 65) (sz := 28) (zs := (A.map itvE).flatten) (by rw [List.length_map]; exact OwnR.of hB6.r1) (repl_rows itvE_ac itvE_one _) (fun r hr => by obtain ⟨a, _, rfl⟩ := List.mem_map.1 hr; rfl) (fun g hg => .inr (by rw [hB6.w1 g hg]; simp))
    have r2 : RepC w6 (fun g => S6 g ∨ o6 g ≠ none) (.sl (D.map itT)) v2 := repc_of_own (B := 0) (e := 72) (sz := 30) (zs := (D.map itvT).flatten) (by rw [List.length_map]; exact OwnR.of hB6.r2) (repl_rows itvT_ac itvT_one _) (fun r hr => by obtain ⟨a, _, rfl⟩ := List.mem_map.1 hr; rfl) (fun g hg => .inr (by rw [hB6.w2 g hg]; simp))
    have q1 : Rep w6 (fun g => S6 g ∨ o6 g ≠ none) (.ept [.sl (A.map itE)] 0) (.pointer (some ⟨b1, 0, none⟩)) := Rep.ept (off := 0) (a := ⟨b1, 0, none⟩) ⟨.inr (by rw [hB6.o1]; simp), fun i u hu => by
      match i with
      | 0 => injection hu with hu; subst hu; exact ⟨v1, by rw [add00, cell_of_row _ _ 0 _ _ _ hB6.c1]; rfl, r1⟩
      | i + 1 => simp at hu⟩
    have q2 : Rep w6 (fun g => S6 g ∨ o6 g ≠ none) (.ept [.sl (D.map itT)] 0) (.pointer (some ⟨b2, 0, none⟩)) := Rep.ept (off := 0) (a := ⟨b2, 0, none⟩) ⟨.inr (by rw [hB6.o2]; simp), fun i u hu => by
      match i with
      | 0 => injection hu with hu; subst hu; exact ⟨v2, by rw [add00, cell_of_row _ _ 0 _ _ _ hB6.c2]; rfl, r2⟩
      | i + 1 => simp at hu⟩
    have hgr : Gr w S w6 (fun g => S6 g ∨ o6 g ≠ none) := ⟨h6.gr.below, fun g hg => .inl (h6.gr.sub g hg), fun g hg => hg.elim (h6.gr.new g) fun hn => by
      cases ho : o6 g with
      | none => exact absurd ho hn
      | some t => exact .inr (hB6.dom g t ho).1, fun g hg => hg.elim (h6.gr.lt g) fun hn => by
      cases ho : o6 g with
      | none => exact absurd ho hn
      | some t => exact (hB6.dom g t ho).2.1⟩
    have h7 : PS 57 w S [] (fun g => S6 g ∨ o6 g ≠ none) a6 w6 := ⟨⟨h6.hi.size, h6.hi.defers, hgr.lt, gd_all _ _, fun t x ht => by simp [lk] at ht⟩, hgr⟩
    have h8 := (h7.add (d := 4) (by decide) _ (by rw [h6.val (t := 4) rfl]; exact srep_of_rep q1)).add (d := 5) (by decide) _ (by rw [h6.val (t := 5) rfl]; exact srep_of_rep q2)
    obtain ⟨x1, hx1⟩ : ∃ r, r = A.map itE := ⟨_, rfl⟩
    obtain ⟨x2, hx2⟩ : ∃ r, r = D.map itT := ⟨_, rfl⟩
    rw [← hx1, ← hx2] at h8 ⊢
    show Code.wp Try.prog (Code.seq _ _) _ _ _
    refine wp_seq (h8.pc (E := { n := 57 }) [(2, .ept [.sl x1] 0), (3, .ept [.sl x2] 0)] rfl (fun F C D hF hC => ?_) fun S9 a9 w9 h9 => ?_)
    · cbv
      exact ⟨100, (le_of [] (by simp [leSl, leOb, injK, memK, parK, noTup, lk, rn0, rnA, plain] <;> first | rfl | decide | (repeat (first | rfl | trivial | refine And.intro ?_ ?_))))⟩
    refine wp_ret ?_
    obtain ⟨p1, p2⟩ := h9.hi.slots 2 _ rfl
    obtain ⟨p3, p4⟩ := h9.hi.slots 3 _ rfl
    exact bodyPost_ret (results_tmp2 rfl _ _ _) h9.hi.defers ⟨_, S9, rfl, h9.gr, [_, _], rfl, Reps.cons p2 (Reps.cons p4 (Reps.nil _ _))⟩
  by_cases h0 : σ.ks = []
  · obtain ⟨rfl, rfl⟩ := hrl0 h0
    have hm : mA = .v (.map none) := by rw [hmA]; unfold mapA; rw [h0]
    subst hm
    refine wp_seq (wp_region_list ?_)
    refine h4.preg (E := { n := 57 }) 4 [(17, .v (.map none)), (5, .v (.pointer (some ⟨b2, 0, none⟩))), (4, .v (.pointer (some ⟨b1, 0, none⟩)))] rfl (fun F C hF hC => ?_) fun S5 a5 w5 h5 g5 => ?_
    · cbv
      exact ⟨100, (le_of [] (by simp [leSl, leOb, injK, memK, parK, noTup, lk, rn0, rnA, plain] <;> first | rfl | decide | (repeat (first | rfl | trivial | refine And.intro ?_ ?_))))⟩
    have hB5 := hB4.grow g5
    have t17 : a5.eval (.tmp 17) = .map none := h5.val rfl
    have hrg := run_range_nilMap (P := Try.prog) w5 50 _ _ hun
    refine list1 (W' := w5.alloc (.mapIter none 0 #[] 0)) (.pointer (some ⟨w5.heap.size, 0, none⟩)) rfl (by simp [execOp, t17, hrg]) ?_
    obtain ⟨r, hr⟩ : ∃ r, r = w5.heap.size := ⟨_, rfl⟩
    obtain ⟨W, hW⟩ : ∃ W, W = w5.alloc (.mapIter none 0 #[] 0) := ⟨_, rfl⟩
    have hnx : ∀ ty, (Instr.next (.pointer (some ⟨r, 0, none⟩)) false ty).run Try.prog W = .ok (.tuple #[.bool false]) W := fun ty => by rw [hr, hW]; exact run_next_nilMap w5 ty 0 0 #[]
    have hBW : Below w5.heap.size w5 W := by rw [hW]; exact (Below.refl _ _).alloc (Nat.le_refl _) _
    have hB6 := hB5.grow (gr_below h5.hi.lt hBW)
    have h6 := (h5.out (gr_below h5.hi.lt hBW)).put (d := 18) (by decide) (.v (.pointer (some ⟨r, 0, none⟩))) (srep_of_rep (.c (.v _ rfl)))
    rw [← hr, ← hW]
    show Code.wp Try.prog (Code.block 0 _) _ (a5.put (some 18) _) W
    obtain ⟨a6, ha6⟩ : ∃ a6, a6 = a5.put (some 18) (.pointer (some ⟨r, 0, none⟩)) := ⟨_, rfl⟩
    rw [← ha6] at h6 ⊢
    refine wp_block (loop_by (fun _ a' w' => a' = a6 ∧ w' = W) (fun _ => 0) 0 ⟨rfl, rfl⟩ fun i a7 w7 hI => ?_)
    obtain ⟨rfl, rfl⟩ := hI
    have t18 : a7.eval (.tmp 18) = .pointer (some ⟨r, 0, none⟩) := h6.val rfl
    refine wp_seq (wp_region_list ?_)
    refine list1 (W' := w7) (.tuple #[.bool false]) rfl (by simp [execOp, t18, hnx]) ?_
    have h7 := h6.put (d := 19) (by decide) .dead trivial (v := .tuple #[.bool false])
    have e19 : (a7.put (some 19) (.tuple #[.bool false])).eval (.tmp 19) = .tuple #[.bool false] := put_eq (by rw [h6.hi.size]; decide)
    refine list1 (.bool false) rfl (q_ext rfl e19 rfl) ?_
    have h8 := h7.put (d := 20) (by decide) (aB false) (v := .bool false) (srep_of_rep (.c (.v _ rfl)))
    refine wp_seq (wp_cond_false (h8.val (t := 20) rfl) (wp_exit ?_))
    exact ⟨rfl, _, _, _, _, ((h8.dr rfl).dr rfl).dr rfl |>.dr rfl, hB6⟩
  · -- a map
    obtain ⟨ks, hks⟩ : ∃ ks, ks = σ.ks := ⟨_, rfl⟩
    obtain ⟨vs, hvs⟩ : ∃ vs, vs = σ.es.map fun en => AV.ept [.sl (en.lv.map itE), .sl (en.dd.map itT)] 0 := ⟨_, rfl⟩
    have hm : mA = .mp ks vs := by
      rw [hmA, hks, hvs]; unfold mapA
      split
      · rename_i hk; exact absurd hk h0
      · rfl
    subst hm
    refine wp_seq (wp_region_list ?_)
    refine h4.preg (E := { n := 57 }) 4 [(17, .mp ks vs), (5, .v (.pointer (some ⟨b2, 0, none⟩))), (4, .v (.pointer (some ⟨b1, 0, none⟩)))] rfl (fun F C hF hC => ?_) fun S5 a5 w5 h5 g5 => ?_
    · clear hvs hks hmA
      cbv
      exact ⟨100, (le_of [] (by simp [leSl, leOb, injK, memK, parK, noTup, lk, rn0, rnA, plain] <;> first | rfl | decide | (repeat (first | rfl | trivial | refine And.intro ?_ ?_))))⟩
    have hB5 := hB4.grow g5
    obtain ⟨es, clock, m, t17, hSm, hmp, hkeys, hvl, hnd, hlt, hrep⟩ := Rep.mp_inv (h5.hi.slots 17 _ rfl).2
    have t17 : a5.eval (.tmp 17) = .map (some m) := t17
    have hel : es.toList.length = σ.es.length := by
      have := congrArg List.length hkeys
      simp only [List.length_map] at this
      rw [hlen, this, hks]
    have hrg := run_range_map (P := Try.prog) w5 50 _ _ m es clock hun hmp
    obtain ⟨r, hr⟩ : ∃ r, r = w5.heap.size := ⟨_, rfl⟩
    obtain ⟨W, hW⟩ : ∃ W, W = w5.alloc (.mapIter (some m) clock #[] clock) := ⟨_, rfl⟩
    rw [← hr, ← hW] at hrg
    refine list1 (W' := W) (.pointer (some ⟨r, 0, none⟩)) rfl (by simp [execOp, t17, hrg]) ?_
    have hBW : Below w5.heap.size w5 W := by rw [hW]; exact (Below.refl _ _).alloc (Nat.le_refl _) _
    have hzW : W.heap.size = r + 1 := by rw [hW, hr]; simp
    have hB6a := hB5.grow (gr_below h5.hi.lt hBW)
    have hB6 : BG w.heap.size S5 (fun g => if g = r then some 3 else if g = b1 then some 1 else if g = b2 then some 2 else none) b1 b2 (.slice none 0 0) (.slice none 0 0) [] [] W := by
      have d1 := (hB5.dom _ _ hB5.o1).2.1
      have d2 := (hB5.dom _ _ hB5.o2).2.1
      have := h5.gr.below.size
      exact ⟨fun g t hg => by
        have hg : (if g = r then some 3 else (fun g => if g = b1 then some 1 else if g = b2 then some 2 else none) g) = some t := hg
        split at hg
        · exact ⟨by omega, by omega, fun hs => by have := h5.hi.lt g hs; omega⟩
        · exact hB6a.dom g t hg, (if_neg (by omega)).trans hB6a.o1, (if_neg (by omega)).trans hB6a.o2, fun g hg => by simp [Value.ownBlock] at hg, fun g hg => by simp [Value.ownBlock] at hg, hB6a.c1, hB6a.c2, hB6a.r1, hB6a.r2, hB6a.n1, hB6a.n2⟩
    have hI6 : IT σ S5 (fun g => if g = r then some 3 else if g = b1 then some 1 else if g = b2 then some 2 else none) r m es clock #[] W := by
      refine ⟨if_pos rfl, by rw [hW, hr]; exact heap_alloc_new w5 _, hSm, (hBW.block m (h5.hi.lt m hSm)).trans hmp, hel, hnd, hlt, fun i en e hi he => ?_⟩
      exact (hrep i _ e (by rw [hvs, List.getElem?_map, hi]; rfl) he).mono (fun g hg => hBW.block g (h5.hi.lt g hg)) (fun _ h => h)
    have h6 := ((((h5.out (gr_below h5.hi.lt hBW)).put (d := 18) (by decide) (.v (.pointer (some ⟨r, 0, none⟩))) (srep_of_rep (.c (.v _ rfl))))).sub (sl' := [(18, .v (.pointer (some ⟨r, 0, none⟩))), (5, .v (.pointer (some ⟨b2, 0, none⟩))), (4, .v (.pointer (some ⟨b1, 0, none⟩)))]) (fun t x ht => by
      simp only [lk] at ht ⊢
      by_cases e1 : 18 = t
      · rw [if_pos e1] at ht ⊢; exact ht
      · rw [if_neg e1] at ht ⊢
        by_cases e2 : 17 = t
        · subst e2; simp at ht
        · rw [if_neg e2]; exact ht))
    show Code.wp Try.prog (Code.block 0 _) _ (a5.put (some 18) _) W
    obtain ⟨a6, ha6⟩ : ∃ a6, a6 = a5.put (some 18) (.pointer (some ⟨r, 0, none⟩)) := ⟨_, rfl⟩
    have h6 : PS 57 w S [(18, .v (.pointer (some ⟨r, 0, none⟩))), (5, .v (.pointer (some ⟨b2, 0, none⟩))), (4, .v (.pointer (some ⟨b1, 0, none⟩)))] S5 a6 W := by rw [ha6]; exact h6
    rw [← ha6]
    clear h5 h4 hB4 hB5 hB6a g5 ha6 hrg hrep hW
    refine wp_block (loop_by (fun k a' w' => ∃ S' o' v1 v2 l1 l2 seen, PS 57 w S [(18, .v (.pointer (some ⟨r, 0, none⟩))), (5, .v (.pointer (some ⟨b2, 0, none⟩))), (4, .v (.pointer (some ⟨b1, 0, none⟩)))] S' a' w' ∧ BG w.heap.size S' o' b1 b2 v1 v2 l1 l2 w' ∧ IT σ S' o' r m es clock seen w' ∧ Rise dE l1 ∧ Rise dT l2 ∧ (∀ x, x ∈ l1 ↔ ∃ (i : Nat) (en : Ent), σ.es[i]? = some en ∧ (∃ e : MapEntry, es.toList[i]? = some e ∧ seen.contains e.born = true) ∧ x ∈ en.lv) ∧ (∀ x, x ∈ l2 ↔ ∃ (i : Nat) (en : Ent), σ.es[i]? = some en ∧ (∃ e : MapEntry, es.toList[i]? = some e ∧ seen.contains e.born = true) ∧ x ∈ en.dd) ∧ k = (leftOf es seen).size) (fun k => k) _ ⟨S5, _, _, _, [], [], #[], h6, hB6, hI6, List.Pairwise.nil, List.Pairwise.nil, fun x => ⟨fun h => (by cases h), fun ⟨i, en, _, ⟨e, _, hs⟩, _⟩ => by simp at hs⟩, fun x => ⟨fun h => (by cases h), fun ⟨i, en, _, ⟨e, _, hs⟩, _⟩ => by simp at hs⟩, rfl⟩ fun k aa ww hI => ?_)
    clear h6 hB6 hI6
    obtain ⟨S7, o7, v1, v2, l1, l2, seen, h7, hB7, hI7, hrE, hrT, hmE, hmT, hk⟩ := hI
    have t18 : aa.eval (.tmp 18) = .pointer (some ⟨r, 0, none⟩) := h7.val rfl
    refine wp_seq (wp_region_list ?_)
    rcases run_next_at (P := Try.prog) ww 0 r m clock clock seen es clock hI7.it hI7.mp hI7.lt (Nat.le_refl _) with ⟨hz0, hnx⟩ | ⟨e, hel0, w1', hw1', hnx⟩
    · refine list1 (W' := ww) (.tuple #[.bool false]) rfl (by simp [execOp, t18, hnx]) ?_
      have h8 := h7.put (d := 19) (by decide) .dead trivial (v := .tuple #[.bool false])
      have e19 : (aa.put (some 19) (.tuple #[.bool false])).eval (.tmp 19) = .tuple #[.bool false] := put_eq (by rw [h7.hi.size]; decide)
      refine list1 (.bool false) rfl (q_ext rfl e19 rfl) ?_
      have h9 := h8.put (d := 20) (by decide) (aB false) (v := .bool false) (srep_of_rep (.c (.v _ rfl)))
      refine wp_seq (wp_cond_false (h9.val (t := 20) rfl) (wp_exit ?_))
      have hall := all_seen es seen hz0
      have hsn : ∀ i en, σ.es[i]? = some en → ∃ e : MapEntry, es.toList[i]? = some e ∧ seen.contains e.born = true := fun i en hi => by
        have hil : i < es.toList.length := by rw [hI7.len]; exact (List.getElem?_eq_some_iff.1 hi).1
        exact ⟨_, List.getElem?_eq_getElem hil, hall _ (List.getElem_mem hil)⟩
      have eA : l1 = A := rise_ext hrE hU.rA fun x => by
        rw [hmE, hU.mA]
        constructor
        · rintro ⟨i, en, f1, _, f3⟩; exact ⟨en, List.mem_of_getElem? f1, f3⟩
        · rintro ⟨en, f1, f3⟩; obtain ⟨i, hi⟩ := List.getElem?_of_mem f1; exact ⟨i, en, hi, hsn i en hi, f3⟩
      have eD : l2 = D := rise_ext hrT hU.rD fun x => by
        rw [hmT, hU.mD]
        constructor
        · rintro ⟨i, en, f1, _, f3⟩; exact ⟨en, List.mem_of_getElem? f1, f3⟩
        · rintro ⟨en, f1, f3⟩; obtain ⟨i, hi⟩ := List.getElem?_of_mem f1; exact ⟨i, en, hi, hsn i en hi, f3⟩
      subst eA; subst eD
      exact ⟨rfl, _, _, _, _, ((h9.dr rfl).dr rfl).dr rfl, hB7⟩
    -- an entry
    obtain ⟨W2, hW2⟩ : ∃ W2, W2 = ChangeMaps.setBlock w1' r (.mapIter (some m) clock (seen.push e.born) clock) := ⟨_, rfl⟩
    rw [← hW2] at hnx
    have hrs : r < ww.heap.size := (hB7.dom r 3 hI7.or').2.1
    have hh1 : w1'.heap = ww.heap := by rcases hw1' with rfl | rfl <;> rfl
    have hsz2 : W2.heap.size = ww.heap.size := by rw [hW2]; show (w1'.heap.setIfInBounds r _).size = _; rw [Array.size_setIfInBounds, hh1]
    have hold2 : ∀ g, g ≠ r → W2.heap[g]? = ww.heap[g]? := fun g hg => by rw [hW2]; show (w1'.heap.setIfInBounds r _)[g]? = _; rw [Array.getElem?_setIfInBounds_ne (fun e => hg e.symm), hh1]
    have hnew2 : W2.heap[r]? = some (.mapIter (some m) clock (seen.push e.born) clock) := by rw [hW2]; show (w1'.heap.setIfInBounds r _)[r]? = _; rw [Array.getElem?_setIfInBounds_self_of_lt (by rw [hh1]; exact hrs)]
    have hos2 : W2.os = ww.os ∧ W2.tape = ww.tape ∧ W2.output = ww.output := by rw [hW2]; rcases hw1' with rfl | rfl <;> exact ⟨rfl, rfl, rfl⟩
    have h8 := h7.outK (o := o7) hB7.dom hos2.1 hos2.2.1 hos2.2.2 (Nat.le_of_eq hsz2.symm) 3 (fun g hg hn => hold2 g fun e => hn (by rw [e]; exact hI7.or'))
    have hB8 := hB7.same (w' := W2) (fun g t hg ht => hold2 g fun e => ht (by rw [e, hI7.or'] at hg; injection hg with hg; exact hg.symm)) (Nat.le_of_eq hsz2.symm)
    have hSr : ∀ g, S7 g → g ≠ r := fun g hg e => (hB7.dom r 3 hI7.or').2.2 (e ▸ hg)
    obtain ⟨hein, hens⟩ := mem_left hel0
    obtain ⟨i, hie⟩ := List.getElem?_of_mem hein
    obtain ⟨en, hen⟩ : ∃ en, σ.es[i]? = some en := ⟨_, List.getElem?_eq_getElem (by rw [← hI7.len]; exact (List.getElem?_eq_some_iff.1 hie).1)⟩
    have hI8 : IT σ S7 o7 r m es clock (seen.push e.born) W2 := ⟨hI7.or', hnew2, hI7.sm, (hold2 m (hSr m hI7.sm)).trans hI7.mp, hI7.len, hI7.nd, hI7.lt, fun i en e h1 h2 => (hI7.rep i en e h1 h2).mono (fun g hg => hold2 g (hSr g hg)) (fun _ h => h)⟩
    have hnsn : ¬ ∃ e', es.toList[i]? = some e' ∧ seen.contains e'.born = true := fun ⟨e', h1, h2⟩ => by rw [hie] at h1; injection h1 with h1; subst h1; rw [hens] at h2; cases h2
    have hokE := (hU.ok en (List.mem_of_getElem? hen)).1
    have hokT := (hU.ok en (List.mem_of_getElem? hen)).2
    have hlE : en.lv.length ≤ 100000 := by
      have nd : en.lv.Nodup := (List.pairwise_map.1 (rise_nodup hokE)).imp fun h e => h (by rw [e])
      exact Nat.le_trans (nd.length_le_of_subset fun y hy => (hU.mA y).2 ⟨en, List.mem_of_getElem? hen, hy⟩) hU.lA
    have hlT : en.dd.length ≤ 100000 := by
      have nd : en.dd.Nodup := (List.pairwise_map.1 (rise_nodup hokT)).imp fun h e => h (by rw [e])
      exact Nat.le_trans (nd.length_le_of_subset fun y hy => (hU.mD y).2 ⟨en, List.mem_of_getElem? hen, hy⟩) hU.lD
    refine list1 (W' := W2) (.tuple #[.bool true, e.key, e.val]) rfl (by simp [execOp, t18, hnx]) ?_
    have h9 := h8.put (d := 19) (by decide) .dead trivial (v := .tuple #[.bool true, e.key, e.val])
    have e19 : (aa.put (some 19) (.tuple #[.bool true, e.key, e.val])).eval (.tmp 19) = .tuple #[.bool true, e.key, e.val] := put_eq (by rw [h7.hi.size]; decide)
    refine list1 (.bool true) rfl (q_ext rfl e19 rfl) ?_
    have h10 := h9.put (d := 20) (by decide) (aB true) (v := .bool true) (srep_of_rep (.c (.v _ rfl)))
    refine wp_seq (wp_cond_true (h10.val (t := 20) rfl) (wp_skip ?_))
    show Code.wp Try.prog (Code.block 1 _) _ _ _
    refine wp_block (wp_seq (wp_region_list ?_))
    obtain ⟨a10, ha10⟩ : ∃ a10, a10 = (aa.put (some 19) (.tuple #[.bool true, e.key, e.val])).put (some 20) (.bool true) := ⟨_, rfl⟩
    have h11 : PS 57 w S [(18, .v (.pointer (some ⟨r, 0, none⟩))), (5, .v (.pointer (some ⟨b2, 0, none⟩))), (4, .v (.pointer (some ⟨b1, 0, none⟩)))] S7 a10 W2 := by rw [ha10]; exact (h10.dr rfl).dr rfl
    show wpList Try.prog _ _ _ ((aa.put (some 19) (.tuple #[.bool true, e.key, e.val])).put (some 20) (.bool true)) W2
    rw [← ha10]
    have t18' : a10.eval (.tmp 18) = .pointer (some ⟨r, 0, none⟩) := h11.val rfl
    have hent := run_entry_at (P := Try.prog) W2 r m clock seen es clock e hI8.it hI8.mp hein hI8.nd
    refine list1 (W' := W2) (.tuple #[e.key, e.val]) rfl (by simp [execOp, t18', hent]) ?_
    have h12 := h11.put (d := 21) (by decide) .dead trivial (v := .tuple #[e.key, e.val])
    have e21 : (a10.put (some 21) (.tuple #[e.key, e.val])).eval (.tmp 21) = .tuple #[e.key, e.val] := put_eq (by rw [h11.hi.size]; decide)
    refine list1 e.val rfl (q_ext rfl e21 rfl) ?_
    have h13 := h12.put (d := 22) (by decide) .dead trivial (v := e.val)
    have e22 : ((a10.put (some 21) (.tuple #[e.key, e.val])).put (some 22) e.val).eval (.tmp 22) = e.val := put_eq (by rw [put_size, h11.hi.size]; decide)
    refine list1 e.val rfl (q_asg rfl e22) ?_
    have h14 := (((((h13.dr rfl).dr rfl).put (d := 7) (by decide) (.ept [.sl (en.lv.map itE), .sl (en.dd.map itT)] 0) (srep_of_rep (hI8.rep i en e hen hie)))).sub (sl' := [(18, .v (.pointer (some ⟨r, 0, none⟩))), (7, .ept [.sl (en.lv.map itE), .sl (en.dd.map itT)] 0), (5, .v (.pointer (some ⟨b2, 0, none⟩))), (4, .v (.pointer (some ⟨b1, 0, none⟩)))]) (fun t x ht => by
      simp only [lk] at ht ⊢
      by_cases e1 : 7 = t
      · subst e1; simpa using ht
      · rw [if_neg e1] at ht ⊢; exact ht))
    have hkk := hk
    show Code.wp Try.prog (Code.seq _ _) _ _ _
    clear h7 h8 h9 h10 h11 h12 h13 hB7 hI7 hnx hent

    -- the items of 0
    refine wp_seq (wp_seq (wp_region_list ?_))
    refine h14.preg (E := { n := 57 }) 3 [(25, .ept [.sl (en.lv.map itE), .sl (en.dd.map itT)] 0), (18, .v (.pointer (some ⟨r, 0, none⟩))), (7, .ept [.sl (en.lv.map itE), .sl (en.dd.map itT)] 0), (5, .v (.pointer (some ⟨b2, 0, none⟩))), (4, .v (.pointer (some ⟨b1, 0, none⟩)))] rfl (fun F C hF hC => ?_) fun SE1 aE1 wE1 hE1 gE1 => ?_
    · obtain ⟨q1, hq1⟩ : ∃ q, q = en.lv.map itE := ⟨_, rfl⟩
      obtain ⟨q2, hq2⟩ : ∃ q, q = en.dd.map itT := ⟨_, rfl⟩
      rw [← hq1, ← hq2]
      clear hq1 hq2
      cbv
      exact ⟨100, (le_of [] (by simp [leSl, leOb, injK, memK, parK, noTup, lk, rn0, rnA, plain] <;> first | rfl | decide | (repeat (first | rfl | trivial | refine And.intro ?_ ?_))))⟩
    have hBE1 := hB8.grow gE1
    have hIE1 := hI8.mono hI8.or' (gE1.below.block r (hB8.dom r 3 hI8.or').2.1) (gE1.same h14.hi.lt) gE1.sub
    obtain ⟨yE, hyE⟩ : ∃ y, aE1.eval (.tmp 25) = y := ⟨_, rfl⟩
    have repE : Rep wE1 SE1 (.ept [.sl (en.lv.map itE)] 0) yE := by
      have q := (hE1.hi.slots 25 _ rfl).2
      rw [← evT, hyE] at q
      obtain ⟨ad, e1, q1, q2⟩ := Rep.ept_inv q
      rw [e1]
      have f1 : CellsAt wE1 SE1 ad [.sl (en.lv.map itE)] := ⟨q1, fun i u hu => by match i with | 0 => exact q2 0 u hu | i + 1 => simp at hu⟩
      have := Rep.ept (off := 0) f1
      rw [add00] at this ⊢; exact this
    refine callW [yE] rfl rfl (enterT Try.func21 (by kernel_rfl) rfl) (by simp [hyE]) ?_
    refine (((itemsE_ok (en.lv.map itE) (by rw [List.length_map]; omega) (fun q hq => by obtain ⟨a, _, rfl⟩ := List.mem_map.1 hq; rfl)).2 wE1 SE1 _ hE1.hi.lt (gd_all _ _) (Reps.cons repE (Reps.nil _ _))).mono fun _ _ h => own_frz h).mono ?_
    rintro q wE2 ⟨zE, SE2, rfl, gE2, hzE⟩
    refine ⟨_, rfl, ?_⟩
    obtain ⟨rowsE, hrowsE⟩ : ∃ rows, rows = en.lv.map itE := ⟨_, rfl⟩
    rw [← hrowsE] at hzE
    have hE2 := hE1.res (d := 26) (by decide) gE2 hzE
    have hBE2 := hBE1.grow gE2
    have hIE2 := hIE1.mono hIE1.or' (gE2.below.block r (hBE1.dom r 3 hIE1.or').2.1) (gE2.same hE1.hi.lt) gE2.sub
    obtain ⟨nE, hnE⟩ : ∃ n' : Int, n' = (en.lv.length : Int) := ⟨_, rfl⟩
    refine hE2.pclg (E := { n := 57 }) [(28, aI 0), (27, aI nE), (26, .sl rowsE), (18, .v (.pointer (some ⟨r, 0, none⟩))), (7, .ept [.sl (en.lv.map itE), .sl (en.dd.map itT)] 0), (5, .v (.pointer (some ⟨b2, 0, none⟩))), (4, .v (.pointer (some ⟨b1, 0, none⟩)))] rfl (fun F C hF hC => ?_) fun SE3 aE3 wE3 hE3 gE3 => ?_
    · have tl : F .len rowsE = nE := by rw [lenF hF, hrowsE, List.length_map, hnE]
      obtain ⟨q1, hq1⟩ : ∃ q, q = en.lv.map itE := ⟨_, rfl⟩
      obtain ⟨q2, hq2⟩ : ∃ q, q = en.dd.map itT := ⟨_, rfl⟩
      rw [← hq1, ← hq2]
      clear hq1 hq2 hrowsE
      cbv
      rw [tl]
      exact ⟨100, (le_of [] (by simp [leSl, leOb, injK, memK, parK, noTup, lk, rn0, rnA, plain] <;> first | rfl | decide | (repeat (first | rfl | trivial | refine And.intro ?_ ?_))))⟩
    have hBE3 := hBE2.grow gE3
    have hIE3 := hIE2.mono hIE2.or' (gE3.below.block r (hBE2.dom r 3 hIE2.or').2.1) (gE3.same hE2.hi.lt) gE3.sub
    clear hE1 hE2 hBE1 hBE2 hIE1 hIE2 gE1 gE2 gE3 repE hzE hyE h14 hB8 hI8
    show Code.wp Try.prog (Code.block _ _) _ _ _
    refine wp_block (loop_by (fun k a' w' => k ≤ en.lv.length ∧ ∃ S' o' u1 u2 l' k', k' = (k : Int) ∧ PS 57 w S [(28, aI k'), (27, aI nE), (26, .sl rowsE), (18, .v (.pointer (some ⟨r, 0, none⟩))), (7, .ept [.sl (en.lv.map itE), .sl (en.dd.map itT)] 0), (5, .v (.pointer (some ⟨b2, 0, none⟩))), (4, .v (.pointer (some ⟨b1, 0, none⟩)))] S' a' w' ∧ BG w.heap.size S' o' b1 b2 u1 u2 l' l2 w' ∧ IT σ S' o' r m es clock (seen.push e.born) w' ∧ Rise dE l' ∧ (∀ x, x ∈ l' ↔ x ∈ l1 ∨ ∃ j, j < k ∧ en.lv[j]? = some x)) (fun k => en.lv.length - k) 0 ⟨Nat.zero_le _, SE3, _, _, _, l1, 0, rfl, hE3, hBE3, hIE3, hrE, fun x => ⟨.inl, fun h => h.elim id fun ⟨j, hj, _⟩ => absurd hj (Nat.not_lt_zero _)⟩⟩ fun k aa ww hI => ?_)
    clear hE3 hBE3 hIE3
    obtain ⟨hk, S3, o3, u1, u2, l3, k', ek, hs, hB3, hI3, hrl3, hm3⟩ := hI
    by_cases hkl : k < en.lv.length
    · obtain ⟨x, hx⟩ : ∃ x, en.lv[k]? = some x := ⟨_, List.getElem?_eq_getElem hkl⟩
      have hrow : rowsE[k]? = some (itE x) := by rw [hrowsE, List.getElem?_map, hx]; rfl
      have hxin : x ∈ en.lv := List.mem_of_getElem? hx
      obtain ⟨k2, ek2⟩ : ∃ k2 : Int, k2 = ((k + 1 : Nat) : Int) := ⟨_, rfl⟩
      obtain ⟨q1, hq1⟩ : ∃ q, q = en.lv.map itE := ⟨_, rfl⟩
      obtain ⟨q2, hq2⟩ : ∃ q, q = en.dd.map itT := ⟨_, rfl⟩
      rw [← hq1, ← hq2] at hs
      have hne : ∀ y ∈ l3, dE y ≠ dE x := fun y hy hd => by
        rcases (hm3 y).1 hy with h1 | ⟨j, hj, h1⟩
        · obtain ⟨i', en', f1, f2, f3⟩ := (hmE y).1 h1
          have := hU.uE i' i en' en y x f1 hen f3 hxin hd
          subst this
          exact hnsn f2
        · have := rise_inj hokE h1 hx hd
          omega
      have hl3 : l3.length ≤ 100000 := by
        have nd : l3.Nodup := (List.pairwise_map.1 (rise_nodup hrl3)).imp fun h e => h (by rw [e])
        refine Nat.le_trans (nd.length_le_of_subset fun y hy => ?_) hU.lA
        rcases (hm3 y).1 hy with h1 | ⟨j, hj, h1⟩
        · obtain ⟨i', en', f1, f2, f3⟩ := (hmE y).1 h1
          exact (hU.mA y).2 ⟨en', List.mem_of_getElem? f1, f3⟩
        · exact (hU.mA y).2 ⟨en, List.mem_of_getElem? hen, List.mem_of_getElem? h1⟩
      refine wp_seq (hs.pcg (E := { n := 57 }) [(29, aB true), (28, aI k'), (27, aI nE), (26, .sl rowsE), (18, .v (.pointer (some ⟨r, 0, none⟩))), (7, .ept [.sl (q1), .sl (q2)] 0), (5, .v (.pointer (some ⟨b2, 0, none⟩))), (4, .v (.pointer (some ⟨b1, 0, none⟩)))] rfl (fun F C D hF hC => ?_) fun S4 a4 w4 h4 g4 => ?_)
      · have tl : F .cmp .lss k' nE = true := (ltF hF k en.lv.length k' nE ek hnE).2 hkl
        clear hq1 hq2 hrowsE hx hrow
        cbv
        rw [tl]
        exact ⟨100, (le_of [] (by simp [leSl, leOb, injK, memK, parK, noTup, lk, rn0, rnA, plain] <;> first | rfl | decide | (repeat (first | rfl | trivial | refine And.intro ?_ ?_))))⟩
      have hB4 := hB3.grow g4
      have hI4 := hI3.mono hI3.or' (g4.below.block r (hB3.dom r 3 hI3.or').2.1) (g4.same hs.hi.lt) g4.sub
      refine wp_seq (wp_cond_true (h4.val (t := 29) rfl) (wp_skip ?_))
      show Code.wp Try.prog (Code.seq _ _) _ _ _
      refine wp_seq (wp_block (wp_seq (h4.pcg (E := { n := 57 }) [(9, .ept (itE x) 0), (28, aI k'), (27, aI nE), (26, .sl rowsE), (18, .v (.pointer (some ⟨r, 0, none⟩))), (7, .ept [.sl (q1), .sl (q2)] 0), (5, .v (.pointer (some ⟨b2, 0, none⟩))), (4, .v (.pointer (some ⟨b1, 0, none⟩)))] rfl (fun F C D hF hC => ?_) fun S5 a5 w5 h5 g5 => ?_)))
      · clear hq1 hq2 hrowsE hx
        cbv
        refine ⟨k, _, ek, hrow, rfl, ?_⟩
        cbv
        exact ⟨100, (le_of [] (by simp [leSl, leOb, injK, memK, parK, noTup, lk, rn0, rnA, plain] <;> first | rfl | decide | (repeat (first | rfl | trivial | refine And.intro ?_ ?_))))⟩
      have hB5 := hB4.grow g5
      have hI5 := hI4.mono hI4.or' (g5.below.block r (hB4.dom r 3 hI4.or').2.1) (g5.same h4.hi.lt) g5.sub
      refine wp_region_list ?_
      refine h5.preg (E := { n := 57 }) 5 [(32, .v (.pointer (some ⟨b1, 0, none⟩))), (34, .agg [aI (dE x).R, aI (dE x).N]), (36, .agg ((itE x).drop 2)), (28, aI k'), (27, aI nE), (26, .sl rowsE), (18, .v (.pointer (some ⟨r, 0, none⟩))), (7, .ept [.sl (q1), .sl (q2)] 0), (5, .v (.pointer (some ⟨b2, 0, none⟩))), (4, .v (.pointer (some ⟨b1, 0, none⟩)))] rfl (fun F C hF hC => ?_) fun S6 a6 w6 h6 g6 => ?_
      · clear hq1 hq2 hrowsE hx hrow
        cbv
        exact ⟨100, (le_of [] (by simp [leSl, leOb, injK, memK, parK, noTup, lk, rn0, rnA, plain] <;> first | rfl | decide | (repeat (first | rfl | trivial | refine And.intro ?_ ?_))))⟩
      have hB6 := hB5.grow g6
      have hI6 := hI5.mono hI5.or' (g6.below.block r (hB5.dom r 3 hI5.or').2.1) (g6.same h5.hi.lt) g6.sub
      clear h4 h5 hB4 hB5 hI4 hI5 hs hB3 hI3
      obtain ⟨bg, bf⟩ := hB6.bag1
      have e1 : a6.eval (.tmp 34) = .agg (dE x).vs := rep_agg_v (xs := (dE x).vs.toList) (h6.hi.slots 34 _ rfl).2
      have e2 : a6.eval (.tmp 36) = .agg (xvE x) := rep_agg_v (xs := (xvE x).toList) (h6.hi.slots 36 _ rfl).2
      refine callW [.pointer (some ⟨b1, 0, none⟩), .agg (dE x).vs, .agg (xvE x)] rfl rfl (enterT Try.func32 (by kernel_rfl) rfl) (by simp [h6.val (t := 32) rfl, e1, e2]) ?_
      refine (putE w6 b1 0 _ l3 x bg bf hrl3 hne (by omega)).mono ?_
      rintro q w7 ⟨rfl, v7, hb7, hk7⟩
      refine ⟨_, rfl, ?_⟩
      obtain ⟨o7, hB7, ho7, hold7⟩ := hB6.put1 h6.gr.below.size h6.hi.lt hb7 hk7
      have h7 := h6.outK (o := o3) hB6.dom hk7.os hk7.tape hk7.output hk7.size 1 hold7
      have hI7 := hI6.mono (ho7 _ _ hI6.or') (hold7 r (hB6.dom r 3 hI6.or').2.1 (by rw [hI6.or']; decide)) (fun g hg => hold7 g (h6.hi.lt g hg) fun e => (hB6.dom g _ e).2.2 hg) (fun _ h => h)
      show Code.wp Try.prog (Code.region _ _ _) _ _ _
      have h7 := h7.put (d := 37) (by decide) .dead trivial (v := .tuple #[])
      refine h7.pcg (E := { n := 57 }) [(28, aI k2), (27, aI nE), (26, .sl rowsE), (18, .v (.pointer (some ⟨r, 0, none⟩))), (7, .ept [.sl (q1), .sl (q2)] 0), (5, .v (.pointer (some ⟨b2, 0, none⟩))), (4, .v (.pointer (some ⟨b1, 0, none⟩)))] rfl (fun F C D hF hC => ?_) fun S8 a8 w8 h8 g8 => ?_
      · have tl := (incF hF ek (by omega)).trans ek2.symm
        clear hq1 hq2 hrowsE hx hrow
        cbv
        rw [tl]
        exact ⟨100, (le_of [] (by simp [leSl, leOb, injK, memK, parK, noTup, lk, rn0, rnA, plain] <;> first | rfl | decide | (repeat (first | rfl | trivial | refine And.intro ?_ ?_))))⟩
      have hB8 := hB7.grow g8
      have hI8 := hI7.mono hI7.or' (g8.below.block r (hB7.dom r 3 hI7.or').2.1) (g8.same h7.hi.lt) g8.sub
      rw [hq1, hq2] at h8
      refine ⟨k + 1, ⟨hkl, S8, o7, _, _, insD dE l3 x, k2, ek2, h8, hB8, hI8, insD_rise hrl3 hne, fun y => ?_⟩, by omega⟩
      rw [insD_mem, hm3]
      constructor
      · rintro (rfl | h1 | ⟨j, hj, h1⟩)
        · exact .inr ⟨k, by omega, hx⟩
        · exact .inl h1
        · exact .inr ⟨j, by omega, h1⟩
      · rintro (h1 | ⟨j, hj, h1⟩)
        · exact .inr (.inl h1)
        · by_cases hjk : j = k
          · rw [hjk, hx] at h1; injection h1 with h1; exact .inl h1.symm
          · exact .inr (.inr ⟨j, by omega, h1⟩)
    have hke : k = en.lv.length := by omega
    refine wp_seq (hs.pcg (E := { n := 57 }) [(29, aB false), (28, aI k'), (27, aI nE), (26, .sl rowsE), (18, .v (.pointer (some ⟨r, 0, none⟩))), (7, .ept [.sl (en.lv.map itE), .sl (en.dd.map itT)] 0), (5, .v (.pointer (some ⟨b2, 0, none⟩))), (4, .v (.pointer (some ⟨b1, 0, none⟩)))] rfl (fun F C D hF hC => ?_) fun SE4 aE4 wE4 h4 g4 => ?_)
    · have tl : F .cmp .lss k' nE = false := by rw [Bool.eq_false_iff]; exact fun hh => hkl ((ltF hF k en.lv.length k' nE ek hnE).1 hh)
      obtain ⟨q1, hq1⟩ : ∃ q, q = en.lv.map itE := ⟨_, rfl⟩
      obtain ⟨q2, hq2⟩ : ∃ q, q = en.dd.map itT := ⟨_, rfl⟩
      rw [← hq1, ← hq2]
      clear hq1 hq2 hrowsE
      cbv
      rw [tl]
      exact ⟨100, (le_of [] (by simp [leSl, leOb, injK, memK, parK, noTup, lk, rn0, rnA, plain] <;> first | rfl | decide | (repeat (first | rfl | trivial | refine And.intro ?_ ?_))))⟩
    have hBE4 := hB3.grow g4
    have hIE4 := hI3.mono hI3.or' (g4.below.block r (hB3.dom r 3 hI3.or').2.1) (g4.same hs.hi.lt) g4.sub
    refine wp_seq (wp_cond_false (h4.val (t := 29) rfl) (wp_exit ?_))
    have hE4 := (((h4.dr rfl).dr rfl).dr rfl).dr rfl
    clear hs h4 g4 hB3 hI3
    obtain ⟨lE, hlE⟩ : ∃ l, l = l3 := ⟨_, rfl⟩
    rw [← hlE] at hBE4 hrl3 hm3
    have hrEn := hrl3
    have hmEn := hm3
    clear hrl3 hm3 hlE
    subst hke

    -- the items of 1
    refine wp_seq (wp_region_list ?_)
    refine hE4.preg (E := { n := 57 }) 3 [(41, .ept [.sl (en.lv.map itE), .sl (en.dd.map itT)] 1), (18, .v (.pointer (some ⟨r, 0, none⟩))), (7, .ept [.sl (en.lv.map itE), .sl (en.dd.map itT)] 0), (5, .v (.pointer (some ⟨b2, 0, none⟩))), (4, .v (.pointer (some ⟨b1, 0, none⟩)))] rfl (fun F C hF hC => ?_) fun ST1 aT1 wT1 hT1 gT1 => ?_
    · obtain ⟨q1, hq1⟩ : ∃ q, q = en.lv.map itE := ⟨_, rfl⟩
      obtain ⟨q2, hq2⟩ : ∃ q, q = en.dd.map itT := ⟨_, rfl⟩
      rw [← hq1, ← hq2]
      clear hq1 hq2
      cbv
      exact ⟨100, (le_of [] (by simp [leSl, leOb, injK, memK, parK, noTup, lk, rn0, rnA, plain] <;> first | rfl | decide | (repeat (first | rfl | trivial | refine And.intro ?_ ?_))))⟩
    have hBT1 := hBE4.grow gT1
    have hIT1 := hIE4.mono hIE4.or' (gT1.below.block r (hBE4.dom r 3 hIE4.or').2.1) (gT1.same hE4.hi.lt) gT1.sub
    obtain ⟨yT, hyT⟩ : ∃ y, aT1.eval (.tmp 41) = y := ⟨_, rfl⟩
    have repT : Rep wT1 ST1 (.ept [.sl (en.dd.map itT)] 0) yT := by
      have q := (hT1.hi.slots 41 _ rfl).2
      rw [← evT, hyT] at q
      obtain ⟨ad, e1, q1, q2⟩ := Rep.ept_inv q
      rw [e1]
      have f1 : CellsAt wT1 ST1 (ad.add 1) [.sl (en.dd.map itT)] := ⟨by rw [add_blk]; exact q1, fun i u hu => by match i with | 0 => (rw [add00]; exact q2 1 u hu) | i + 1 => simp at hu⟩
      have := Rep.ept (off := 0) f1
      rw [add00] at this; exact this
    refine callW [yT] rfl rfl (enterT Try.func24 (by kernel_rfl) rfl) (by simp [hyT]) ?_
    refine (((itemsT_ok (en.dd.map itT) (by rw [List.length_map]; omega) (fun q hq => by obtain ⟨a, _, rfl⟩ := List.mem_map.1 hq; rfl)).2 wT1 ST1 _ hT1.hi.lt (gd_all _ _) (Reps.cons repT (Reps.nil _ _))).mono fun _ _ h => own_frz h).mono ?_
    rintro q wT2 ⟨zT, ST2, rfl, gT2, hzT⟩
    refine ⟨_, rfl, ?_⟩
    obtain ⟨rowsT, hrowsT⟩ : ∃ rows, rows = en.dd.map itT := ⟨_, rfl⟩
    rw [← hrowsT] at hzT
    have hT2 := hT1.res (d := 42) (by decide) gT2 hzT
    have hBT2 := hBT1.grow gT2
    have hIT2 := hIT1.mono hIT1.or' (gT2.below.block r (hBT1.dom r 3 hIT1.or').2.1) (gT2.same hT1.hi.lt) gT2.sub
    obtain ⟨nT, hnT⟩ : ∃ n' : Int, n' = (en.dd.length : Int) := ⟨_, rfl⟩
    refine hT2.pclg (E := { n := 57 }) [(44, aI 0), (43, aI nT), (42, .sl rowsT), (18, .v (.pointer (some ⟨r, 0, none⟩))), (7, .ept [.sl (en.lv.map itE), .sl (en.dd.map itT)] 0), (5, .v (.pointer (some ⟨b2, 0, none⟩))), (4, .v (.pointer (some ⟨b1, 0, none⟩)))] rfl (fun F C hF hC => ?_) fun ST3 aT3 wT3 hT3 gT3 => ?_
    · have tl : F .len rowsT = nT := by rw [lenF hF, hrowsT, List.length_map, hnT]
      obtain ⟨q1, hq1⟩ : ∃ q, q = en.lv.map itE := ⟨_, rfl⟩
      obtain ⟨q2, hq2⟩ : ∃ q, q = en.dd.map itT := ⟨_, rfl⟩
      rw [← hq1, ← hq2]
      clear hq1 hq2 hrowsT
      cbv
      rw [tl]
      exact ⟨100, (le_of [] (by simp [leSl, leOb, injK, memK, parK, noTup, lk, rn0, rnA, plain] <;> first | rfl | decide | (repeat (first | rfl | trivial | refine And.intro ?_ ?_))))⟩
    have hBT3 := hBT2.grow gT3
    have hIT3 := hIT2.mono hIT2.or' (gT3.below.block r (hBT2.dom r 3 hIT2.or').2.1) (gT3.same hT2.hi.lt) gT3.sub
    clear hT1 hT2 hBT1 hBT2 hIT1 hIT2 gT1 gT2 gT3 repT hzT hyT hE4 hBE4 hIE4
    show Code.wp Try.prog (Code.block _ _) _ _ _
    refine wp_block (loop_by (fun k a' w' => k ≤ en.dd.length ∧ ∃ S' o' u1 u2 l' k', k' = (k : Int) ∧ PS 57 w S [(44, aI k'), (43, aI nT), (42, .sl rowsT), (18, .v (.pointer (some ⟨r, 0, none⟩))), (7, .ept [.sl (en.lv.map itE), .sl (en.dd.map itT)] 0), (5, .v (.pointer (some ⟨b2, 0, none⟩))), (4, .v (.pointer (some ⟨b1, 0, none⟩)))] S' a' w' ∧ BG w.heap.size S' o' b1 b2 u1 u2 lE l' w' ∧ IT σ S' o' r m es clock (seen.push e.born) w' ∧ Rise dT l' ∧ (∀ x, x ∈ l' ↔ x ∈ l2 ∨ ∃ j, j < k ∧ en.dd[j]? = some x)) (fun k => en.dd.length - k) 0 ⟨Nat.zero_le _, ST3, _, _, _, l2, 0, rfl, hT3, hBT3, hIT3, hrT, fun x => ⟨.inl, fun h => h.elim id fun ⟨j, hj, _⟩ => absurd hj (Nat.not_lt_zero _)⟩⟩ fun k aa ww hI => ?_)
    clear hT3 hBT3 hIT3
    obtain ⟨hk, S3, o3, u1, u2, l3, k', ek, hs, hB3, hI3, hrl3, hm3⟩ := hI
    by_cases hkl : k < en.dd.length
    · obtain ⟨x, hx⟩ : ∃ x, en.dd[k]? = some x := ⟨_, List.getElem?_eq_getElem hkl⟩
      have hrow : rowsT[k]? = some (itT x) := by rw [hrowsT, List.getElem?_map, hx]; rfl
      have hxin : x ∈ en.dd := List.mem_of_getElem? hx
      obtain ⟨k2, ek2⟩ : ∃ k2 : Int, k2 = ((k + 1 : Nat) : Int) := ⟨_, rfl⟩
      obtain ⟨q1, hq1⟩ : ∃ q, q = en.lv.map itE := ⟨_, rfl⟩
      obtain ⟨q2, hq2⟩ : ∃ q, q = en.dd.map itT := ⟨_, rfl⟩
      rw [← hq1, ← hq2] at hs
      have hne : ∀ y ∈ l3, dT y ≠ dT x := fun y hy hd => by
        rcases (hm3 y).1 hy with h1 | ⟨j, hj, h1⟩
        · obtain ⟨i', en', f1, f2, f3⟩ := (hmT y).1 h1
          have := hU.uT i' i en' en y x f1 hen f3 hxin hd
          subst this
          exact hnsn f2
        · have := rise_inj hokT h1 hx hd
          omega
      have hl3 : l3.length ≤ 100000 := by
        have nd : l3.Nodup := (List.pairwise_map.1 (rise_nodup hrl3)).imp fun h e => h (by rw [e])
        refine Nat.le_trans (nd.length_le_of_subset fun y hy => ?_) hU.lD
        rcases (hm3 y).1 hy with h1 | ⟨j, hj, h1⟩
        · obtain ⟨i', en', f1, f2, f3⟩ := (hmT y).1 h1
          exact (hU.mD y).2 ⟨en', List.mem_of_getElem? f1, f3⟩
        · exact (hU.mD y).2 ⟨en, List.mem_of_getElem? hen, List.mem_of_getElem? h1⟩
      refine wp_seq (hs.pcg (E := { n := 57 }) [(45, aB true), (44, aI k'), (43, aI nT), (42, .sl rowsT), (18, .v (.pointer (some ⟨r, 0, none⟩))), (7, .ept [.sl (q1), .sl (q2)] 0), (5, .v (.pointer (some ⟨b2, 0, none⟩))), (4, .v (.pointer (some ⟨b1, 0, none⟩)))] rfl (fun F C D hF hC => ?_) fun S4 a4 w4 h4 g4 => ?_)
      · have tl : F .cmp .lss k' nT = true := (ltF hF k en.dd.length k' nT ek hnT).2 hkl
        clear hq1 hq2 hrowsT hx hrow
        cbv
        rw [tl]
        exact ⟨100, (le_of [] (by simp [leSl, leOb, injK, memK, parK, noTup, lk, rn0, rnA, plain] <;> first | rfl | decide | (repeat (first | rfl | trivial | refine And.intro ?_ ?_))))⟩
      have hB4 := hB3.grow g4
      have hI4 := hI3.mono hI3.or' (g4.below.block r (hB3.dom r 3 hI3.or').2.1) (g4.same hs.hi.lt) g4.sub
      refine wp_seq (wp_cond_true (h4.val (t := 45) rfl) (wp_skip ?_))
      show Code.wp Try.prog (Code.seq _ _) _ _ _
      refine wp_seq (wp_block (wp_seq (h4.pcg (E := { n := 57 }) [(11, .ept (itT x) 0), (44, aI k'), (43, aI nT), (42, .sl rowsT), (18, .v (.pointer (some ⟨r, 0, none⟩))), (7, .ept [.sl (q1), .sl (q2)] 0), (5, .v (.pointer (some ⟨b2, 0, none⟩))), (4, .v (.pointer (some ⟨b1, 0, none⟩)))] rfl (fun F C D hF hC => ?_) fun S5 a5 w5 h5 g5 => ?_)))
      · clear hq1 hq2 hrowsT hx
        cbv
        refine ⟨k, _, ek, hrow, rfl, ?_⟩
        cbv
        exact ⟨100, (le_of [] (by simp [leSl, leOb, injK, memK, parK, noTup, lk, rn0, rnA, plain] <;> first | rfl | decide | (repeat (first | rfl | trivial | refine And.intro ?_ ?_))))⟩
      have hB5 := hB4.grow g5
      have hI5 := hI4.mono hI4.or' (g5.below.block r (hB4.dom r 3 hI4.or').2.1) (g5.same h4.hi.lt) g5.sub
      refine wp_region_list ?_
      refine h5.preg (E := { n := 57 }) 5 [(48, .v (.pointer (some ⟨b2, 0, none⟩))), (50, .agg [aI (dT x).R, aI (dT x).N]), (52, .agg ((itT x).drop 2)), (44, aI k'), (43, aI nT), (42, .sl rowsT), (18, .v (.pointer (some ⟨r, 0, none⟩))), (7, .ept [.sl (q1), .sl (q2)] 0), (5, .v (.pointer (some ⟨b2, 0, none⟩))), (4, .v (.pointer (some ⟨b1, 0, none⟩)))] rfl (fun F C hF hC => ?_) fun S6 a6 w6 h6 g6 => ?_
      · clear hq1 hq2 hrowsT hx hrow
        cbv
        exact ⟨100, (le_of [] (by simp [leSl, leOb, injK, memK, parK, noTup, lk, rn0, rnA, plain] <;> first | rfl | decide | (repeat (first | rfl | trivial | refine And.intro ?_ ?_))))⟩
      have hB6 := hB5.grow g6
      have hI6 := hI5.mono hI5.or' (g6.below.block r (hB5.dom r 3 hI5.or').2.1) (g6.same h5.hi.lt) g6.sub
      clear h4 h5 hB4 hB5 hI4 hI5 hs hB3 hI3
      obtain ⟨bg, bf⟩ := hB6.bag2
      have e1 : a6.eval (.tmp 50) = .agg (dT x).vs := rep_agg_v (xs := (dT x).vs.toList) (h6.hi.slots 50 _ rfl).2
      have e2 : a6.eval (.tmp 52) = .agg (xvT x) := rep_agg_v (xs := (xvT x).toList) (h6.hi.slots 52 _ rfl).2
      refine callW [.pointer (some ⟨b2, 0, none⟩), .agg (dT x).vs, .agg (xvT x)] rfl rfl (enterT Try.func30 (by kernel_rfl) rfl) (by simp [h6.val (t := 48) rfl, e1, e2]) ?_
      refine (putT w6 b2 0 _ l3 x bg bf hrl3 hne (by omega)).mono ?_
      rintro q w7 ⟨rfl, v7, hb7, hk7⟩
      refine ⟨_, rfl, ?_⟩
      obtain ⟨o7, hB7, ho7, hold7⟩ := hB6.put2 h6.gr.below.size h6.hi.lt hb7 hk7
      have h7 := h6.outK (o := o3) hB6.dom hk7.os hk7.tape hk7.output hk7.size 2 hold7
      have hI7 := hI6.mono (ho7 _ _ hI6.or') (hold7 r (hB6.dom r 3 hI6.or').2.1 (by rw [hI6.or']; decide)) (fun g hg => hold7 g (h6.hi.lt g hg) fun e => (hB6.dom g _ e).2.2 hg) (fun _ h => h)
      show Code.wp Try.prog (Code.region _ _ _) _ _ _
      have h7 := h7.put (d := 53) (by decide) .dead trivial (v := .tuple #[])
      refine h7.pcg (E := { n := 57 }) [(44, aI k2), (43, aI nT), (42, .sl rowsT), (18, .v (.pointer (some ⟨r, 0, none⟩))), (7, .ept [.sl (q1), .sl (q2)] 0), (5, .v (.pointer (some ⟨b2, 0, none⟩))), (4, .v (.pointer (some ⟨b1, 0, none⟩)))] rfl (fun F C D hF hC => ?_) fun S8 a8 w8 h8 g8 => ?_
      · have tl := (incF hF ek (by omega)).trans ek2.symm
        clear hq1 hq2 hrowsT hx hrow
        cbv
        rw [tl]
        exact ⟨100, (le_of [] (by simp [leSl, leOb, injK, memK, parK, noTup, lk, rn0, rnA, plain] <;> first | rfl | decide | (repeat (first | rfl | trivial | refine And.intro ?_ ?_))))⟩
      have hB8 := hB7.grow g8
      have hI8 := hI7.mono hI7.or' (g8.below.block r (hB7.dom r 3 hI7.or').2.1) (g8.same h7.hi.lt) g8.sub
      rw [hq1, hq2] at h8
      refine ⟨k + 1, ⟨hkl, S8, o7, _, _, insD dT l3 x, k2, ek2, h8, hB8, hI8, insD_rise hrl3 hne, fun y => ?_⟩, by omega⟩
      rw [insD_mem, hm3]
      constructor
      · rintro (rfl | h1 | ⟨j, hj, h1⟩)
        · exact .inr ⟨k, by omega, hx⟩
        · exact .inl h1
        · exact .inr ⟨j, by omega, h1⟩
      · rintro (h1 | ⟨j, hj, h1⟩)
        · exact .inr (.inl h1)
        · by_cases hjk : j = k
          · rw [hjk, hx] at h1; injection h1 with h1; exact .inl h1.symm
          · exact .inr (.inr ⟨j, by omega, h1⟩)
    have hke : k = en.dd.length := by omega
    refine wp_seq (hs.pcg (E := { n := 57 }) [(45, aB false), (44, aI k'), (43, aI nT), (42, .sl rowsT), (18, .v (.pointer (some ⟨r, 0, none⟩))), (7, .ept [.sl (en.lv.map itE), .sl (en.dd.map itT)] 0), (5, .v (.pointer (some ⟨b2, 0, none⟩))), (4, .v (.pointer (some ⟨b1, 0, none⟩)))] rfl (fun F C D hF hC => ?_) fun ST4 aT4 wT4 h4 g4 => ?_)
    · have tl : F .cmp .lss k' nT = false := by rw [Bool.eq_false_iff]; exact fun hh => hkl ((ltF hF k en.dd.length k' nT ek hnT).1 hh)
      obtain ⟨q1, hq1⟩ : ∃ q, q = en.lv.map itE := ⟨_, rfl⟩
      obtain ⟨q2, hq2⟩ : ∃ q, q = en.dd.map itT := ⟨_, rfl⟩
      rw [← hq1, ← hq2]
      clear hq1 hq2 hrowsT
      cbv
      rw [tl]
      exact ⟨100, (le_of [] (by simp [leSl, leOb, injK, memK, parK, noTup, lk, rn0, rnA, plain] <;> first | rfl | decide | (repeat (first | rfl | trivial | refine And.intro ?_ ?_))))⟩
    have hBT4 := hB3.grow g4
    have hIT4 := hI3.mono hI3.or' (g4.below.block r (hB3.dom r 3 hI3.or').2.1) (g4.same hs.hi.lt) g4.sub
    refine wp_seq (wp_cond_false (h4.val (t := 45) rfl) (wp_exit ?_))
    have hT4 := (((h4.dr rfl).dr rfl).dr rfl).dr rfl
    clear hs h4 g4 hB3 hI3
    obtain ⟨lT, hlT⟩ : ∃ l, l = l3 := ⟨_, rfl⟩
    rw [← hlT] at hBT4 hrl3 hm3
    have hrTn := hrl3
    have hmTn := hm3
    clear hrl3 hm3 hlT
    subst hke

    refine ⟨(leftOf es (seen.push e.born)).size, ⟨ST4, o3, _, _, lE, lT, seen.push e.born, hT4.sub (fun t x ht => ?_), hBT4, hIT4, hrEn, hrTn, mem_step hIT4.nd hie hen hmE hmEn, mem_step hIT4.nd hie hen hmT hmTn, rfl⟩, by rw [hkk]; exact left_shrinks es seen e hel0⟩
    simp only [lk] at ht ⊢
    by_cases e1 : 18 = t
    · rw [if_pos e1] at ht ⊢; exact ht
    · rw [if_neg e1] at ht ⊢
      by_cases e2 : 7 = t
      · subst e2; simp at ht
      · rw [if_neg e2]; exact ht
end Go.Proofs.Ytdnaadcbimbfmaa
set_option linter.unusedSimpArgs false
set_option linter.unusedVariables false
namespace Go.Proofs.Ytdnaadcbimbfmaa
open Go Go.RowKit Am

theorem q_sliceB {a : Act} {w : World} {o : Oper} {t : Nat} {ad : Addr} (h : o.op = .slice 29 (.tmp t) none (some (.const (.int .i64 16))) (some (.const (.int .i64 16)))) (e : a.eval (.tmp t) = .pointer (some ad)) : (execOp a.eval o).run Try.prog w = .ok (.value (.slice (some ad) 16 16)) w := by
  have h1 : Try.prog.underlying 29 = some (.array (Try.prog.arrayLen 29) (Try.prog.elem 29)) := by kernel_rfl
  have h2 : Try.prog.arrayLen 29 = 16 := by kernel_rfl
  have h3 : (sizeOf (Try.prog.elem 29)).run Try.prog w = .ok 1 w := by kernel_rfl
  have := run_sliceAt_array_hm (P := Try.prog) w 29 ad h1 .i64 .i64 16 16 (by omega) (by omega) (by rw [h2]; omega)
  rw [h3] at this
  simp [slicedAt] at this
  have ec : a.eval (.const (.int .i64 16)) = .int .i64 16 := rfl
  simp [execOp, h, e, ec, this, add00]
set_option maxRecDepth 100000 in
/-- A row of another's, full, and something behind it: a new row. -/
theorem run_append_full (w : World) (t ty e : TypeId) (i : TypeInfo) (z : Value) (size bytes : Nat) (ht : Try.prog.underlying t = some (.slice e)) (hi : Try.prog.info? e = some i) (hz : i.zero = some z)
    (hsize : i.size = size) (hby : i.bytes = bytes) (hzs : z.cells.size = size) (b : Addr) (n : Nat) (olds : List Value) (hlo : olds.length = n * size) (holds : ∀ j u, olds[j]? = some u → w.cell? (b.add j) = some u)
    (a : Addr) (m c : Nat) (hm : 0 < m) (news : List Value) (hl : news.length = m * size) (hnews : ∀ j u, news[j]? = some u → w.cell? (a.add j) = some u) (h63 : n + m ≤ maxLen) (hbytes : (n + m) * bytes ≤ 140737488355328) :
    ∃ v' w', (Builtin.append_ #[t, t] ty #[.slice (some b) n n, .slice (some a) m c]).run Try.prog w = .ok v' w' ∧ OwnR w' w.heap.size e size v' (n + m) (olds ++ news) ∧ Below w.heap.size w w' := by
  subst hsize
  subst hby
  have hsmall : n + m ≤ 9223372036854775807 := by simp only [maxLen] at h63; omega
  have hr := run_append_grow (P := Try.prog) w t ty e i z ht hi hz b n n olds hlo holds a m c news hl hnews (by omega) (by omega) (growslice_fits (by omega) hbytes)
  have hlen : (olds ++ news).length = (n + m) * i.size := by rw [List.length_append, hlo, hl, Nat.add_mul]
  have hge := grownCap_ge w (n + m) n e
  have hcm : grownCap w (n + m) n e ≤ maxLen := grownCap_le_maxLen w (n + m) n e h63
  refine ⟨_, _, hr, ⟨hlen, .inr ⟨w.heap.size, _, _, (0, 0), rfl, Nat.le_refl _, heap_alloc_new w.drew _, .inl rfl, hge, hcm, ?_, ?_⟩⟩, (Below.refl _ _).drew.alloc (Nat.le_refl _) _⟩
  · simp only [Array.size_append, List.size_toArray, size_zeroCells, hzs, hlo, hl, ← Nat.add_mul]
    congr 1
    omega
  · simp only [Array.toList_append, List.append_assoc]
    rw [← List.append_assoc, ← hlen]
    exact List.take_left
def spI (v : VV) (t : Int) : List Int := [v 0, v 1, v 2, v 3, v 4, v 5, v 6, v 7, v 8, v 9, v 10, v 11, v 12, v 13, v 14, v 15, t]
def spW (v : VV) (t : Int) : List Value := (spI v t).map vI
def spShape : List (Option Nat × Op) := [(some 16, .move (.tmp 0)), (some 17, .nilCheck (.tmp 16)), (some 18, .fieldAddr 52 (.tmp 17) 1), (some 19, .slice 29 (.tmp 18) none (some (.const (.int .i64 16))) (some (.const (.int .i64 16)))), (some 20, .move (.tmp 0)), (some 21, .nilCheck (.tmp 20)), (some 22, .fieldAddr 52 (.tmp 21) 2), (some 23, .load 3 (.tmp 22)), (some 24, .buildSlice 54 1 #[(0, .tmp 23)]), (some 25, .call { callee := .builtin .append, args := #[.tmp 19, .tmp 24], argTypes := #[54, 54] }), (some 26, .call { callee := .builtin .len, args := #[.tmp 25], argTypes := #[54] }), (some 27, .move (.const (.int .i64 0)))]
def spNeed : Nat → List Nat
  | 1 => [0] | 2 => [1] | 3 => [2] | 5 => [4] | 6 => [5] | 7 => [6] | 8 => [7] | 9 => [3, 8] | 10 => [9] | _ => []
def spVal (ae : Addr) (t : Int) (q : Nat) : Option Value :=
  match q with
  | 0 => some (.pointer (some ae)) | 1 => some (.pointer (some ae)) | 2 => some (.pointer (some (ae.add 1))) | 3 => some (.slice (some (ae.add 1)) 16 16) | 4 => some (.pointer (some ae)) | 5 => some (.pointer (some ae))
  | 6 => some (.pointer (some (ae.add 17))) | 7 => some (vI t) | 10 => some (vI 17) | 11 => some (vI 0) | _ => none
def spT (v : VV) (t : Int) (W : World) (k : Nat) (f : Nat → Value) (w : World) : Prop :=
  match k with
  | 0 => w = W
  | 1 => w = W.alloc (.cells #[vI t] 3) ∧ f 24 = .slice (some ⟨W.heap.size, 0, none⟩) 1 1
  | _ => Below W.heap.size W w ∧ OwnR w W.heap.size 3 1 (f 25) 17 (spW v t)
theorem spT_below {v : VV} {t : Int} {W w : World} {k : Nat} {f : Nat → Value} (h : spT v t W k f w) : Below W.heap.size W w := by
  match k, h with
  | 0, h => rw [show w = W from h]; exact Below.refl _ _
  | 1, h => rw [h.1]; exact (Below.refl _ _).alloc (Nat.le_refl _) _
  | _ + 2, h => exact h.1
theorem spBuild (x : Int) (w : World) : (Instr.buildSlice 54 1 #[(0, vI x)]).run Try.prog w = .ok (.slice (some ⟨w.heap.size, 0, none⟩) 1 1) (w.alloc (.cells #[vI x] 3)) := by kernel_rfl
set_option maxHeartbeats 4000000 in
set_option maxRecDepth 100000 in
theorem sp_region {id : Nat} {ops : List Oper} {Q : Exit → Act → World → Prop} {a0 : Act} {w : World} (ae : Addr) (v : VV) (t : Int) (hops : ops.map (fun o => (o.dst, o.op)) = spShape) (hdep : depsC spNeed ops = true) (hz : a0.tmps.size = 91)
    (h0 : a0.eval (.tmp 0) = .pointer (some ae)) (hlt : ae.block < w.heap.size) (cv : ∀ j u, (vvs v).toList[j]? = some u → w.cell? (ae.add (1 + j)) = some u) (ct : w.cell? (ae.add 17) = some (vI t))
    (hQ : ∀ a' w', a'.tmps.size = 91 → a'.defers = a0.defers → Below w.heap.size w w' → OwnR w' w.heap.size 3 1 (a'.eval (.tmp 25)) 17 (spW v t) → a'.eval (.tmp 26) = vI 17 → a'.eval (.tmp 27) = vI 0 → (∀ t, (∀ (j : Nat) (op : Op), spShape[j]? ≠ some (some t, op)) → a'.eval (.tmp t) = a0.eval (.tmp t)) → Q .normal a' w') : (Code.region id ops.toArray true).wp Try.prog Q a0 w := by
  have kc : ∀ {w' : World} (k : Nat) (u : Value), Below w.heap.size w w' → w.cell? (ae.add k) = some u → w'.cell? (ae.add k) = some u := fun k u hb h => (World.cell?_of_block (hb.block _ (by rw [add_blk]; exact hlt))).trans h
  refine region_chain mixed 91 hz spShape hops spNeed hdep (by decide) (spVal ae t) [8, 9] (spT v t w.drew) (fun k f f' w1 hT hk => ?_) (by decide) (fun q hq => ?_) (fun m hm => ?_) (by decide) (fun p m m' h1 h2 => ?_) ?_ ?_ ?_ (fun a' w' hs hd hT hv hoth => ?_)
  · match k, hT with
    | 0, hT => exact hT
    | 1, hT => exact ⟨hT.1, by rw [hk 8 (by simp) 24 _ rfl]; exact hT.2⟩
    | _ + 2, hT => exact ⟨hT.1, by rw [hk 9 (by simp) 25 _ rfl]; exact hT.2⟩
  · have hq : q < 12 := hq
    obtain rfl | rfl | rfl | rfl | rfl | rfl | rfl | rfl | rfl | rfl | rfl | rfl : q = 0 ∨ q = 1 ∨ q = 2 ∨ q = 3 ∨ q = 4 ∨ q = 5 ∨ q = 6 ∨ q = 7 ∨ q = 8 ∨ q = 9 ∨ q = 10 ∨ q = 11 := by omega
    all_goals first | exact .inl rfl | exact .inr (by simp)
  · simp only [List.mem_cons, List.not_mem_nil, or_false] at hm
    rcases hm with rfl | rfl <;> rfl
  · match p with
    | 0 => injection h1 with h1; injection h2 with h2; subst h1; subst h2; simp [spNeed]
    | 1 => simp at h2
    | _ + 2 => simp at h1
  · exact rfl
  · intro q dd op uu hsh hv k a w' hT hlim hn hpp hk o ho
    have hq : q < 12 := (List.getElem?_eq_some_iff.1 hsh).1
    have e0 := (hk 0 (notD (by rfl))).trans h0
    have hb : Below w.heap.size w w' := (Below.refl _ _).drew.trans (spT_below hT)
    obtain rfl | rfl | rfl | rfl | rfl | rfl | rfl | rfl | rfl | rfl | rfl | rfl : q = 0 ∨ q = 1 ∨ q = 2 ∨ q = 3 ∨ q = 4 ∨ q = 5 ∨ q = 6 ∨ q = 7 ∨ q = 8 ∨ q = 9 ∨ q = 10 ∨ q = 11 := by omega
    all_goals first | (cases hv; done) | (injection hsh with hsh; obtain ⟨rfl, rfl⟩ := Prod.mk.inj hsh; injection hv with hv; subst hv)
    · exact q_move ho e0
    · exact q_nil ho (hn 0 (by decide) _ 16 _ rfl rfl)
    · exact q_fld (ti := ti52) (off := 1) (sz := 16) rfl rfl ho (hn 1 (by decide) _ 17 _ rfl rfl)
    · exact q_sliceB ho (hn 2 (by decide) _ 18 _ rfl rfl)
    · exact q_move ho e0
    · exact q_nil ho (hn 4 (by decide) _ 20 _ rfl rfl)
    · exact q_fld (ti := ti52) (off := 17) (sz := 1) rfl rfl ho (hn 5 (by decide) _ 21 _ rfl rfl)
    · exact q_load1 (ti := ti3) rfl rfl ho (hn 6 (by decide) _ 22 _ rfl rfl) (kc 17 _ hb ct)
    · have h9 := hpp 9 (by decide) 1 rfl
      match k, hT with
      | 0, _ => omega
      | 1, _ => omega
      | _ + 2, hT =>
        rcases hT.2.2 with ⟨_, h0⟩ | ⟨g, cap, cur, fr, hv24, _⟩
        · cases h0
        · have e24 : a.eval (.tmp 25) = .slice (some ⟨g, 0, none⟩) 17 cap := hv24
          have hu := (gam_ok 54 _ rfl).kind.1
          simp [execOp, ho, resolve, invoke, builtin, e24, Builtin.len_, run_underlying hu]
          rfl
    · simp [execOp, ho]; rfl
  · intro k m dd op hkm hsh a w' hza hT hn hk o hd ho
    match k with
    | 0 =>
      injection hkm with hkm; subst hkm; injection hsh with hsh; obtain ⟨rfl, rfl⟩ := Prod.mk.inj hsh
      have hT : w' = w.drew := hT
      subst hT
      have e23 := hn 7 (by decide) _ 23 _ rfl rfl
      have hb := spBuild t w.drew
      refine exec_val (w' := w.drew.alloc (.cells #[vI t] 3)) (v := .slice (some ⟨w.drew.heap.size, 0, none⟩) 1 1) (by simp [execOp, ho, e23, hb]) ⟨_, by rw [hd], rfl, ?_⟩
      rw [hd]
      exact put_eq (by rw [hza]; decide)
    | 1 =>
      injection hkm with hkm; subst hkm; injection hsh with hsh; obtain ⟨rfl, rfl⟩ := Prod.mk.inj hsh
      obtain ⟨hw', h24⟩ := hT
      have e24 : a.eval (.tmp 24) = _ := h24
      have e19 := hn 3 (by decide) _ 19 _ rfl rfl
      have hb : Below w.heap.size w w' := by rw [hw']; exact (Below.refl w.heap.size w).drew.alloc (Nat.le_refl _) _
      obtain ⟨i0, hi0, hz0, hs0, hb0⟩ := infoInt
      have hu := (gam_ok 54 _ rfl).kind.1
      have hnew : w'.heap[w.heap.size]? = some (.cells #[vI t] 3 (0, 0)) := by rw [hw']; exact heap_alloc_new w.drew _
      obtain ⟨v', w2, k1, k2, k3⟩ := run_append_full w' 54 o.type 3 i0 (.int .i64 0) 1 8 hu hi0 hz0 hs0 hb0 rfl (ae.add 1) 16 ((vvs v).toList) rfl (fun j u hj => by
        rw [Addr.add_add]
        exact kc (1 + j) u hb (cv j u hj)) ⟨w.heap.size, 0, none⟩ 1 1 (by decide) [vI t] rfl (fun j u hj => by
        match j with
        | 0 => rw [add00, cell_of_row _ _ 0 _ _ _ hnew]; exact hj
        | j + 1 => simp at hj) (by unfold maxLen; omega) (by omega)
      refine exec_val (w' := w2) (v := v') (by simp [execOp, ho, resolve, invoke, builtin, e19, e24]; rw [show (Builtin.append_ #[54, 54] o.type #[.slice (some (ae.add 1)) 16 16, .slice (some ⟨w.heap.size, 0, none⟩) 1 1]).run Try.prog w' = .ok v' w2 from k1]; rfl) ⟨_, by rw [hd], ?_, ?_⟩
      · have h1 : Below w.drew.heap.size w.drew w' := by rw [hw']; exact (Below.refl _ _).alloc (Nat.le_refl _) _
        exact h1.trans (k3.mono h1.size)
      · rw [hd, tf, put_eq (by rw [hza]; decide)]
        refine ownsRow_up k2 (fun g hg => ?_)
        have := (k2.lt g hg).1
        have := hb.size
        show w.heap.size ≤ g
        omega
    | _ + 2 => simp at hkm
  · exact hQ a' w' hs hd ((Below.refl _ _).drew.trans hT.1) hT.2 (hv 10 _ 26 _ rfl rfl) (hv 11 _ 27 _ rfl rfl) fun t ht => hoth t fun j op => ht j op
end Go.Proofs.Ytdnaadcbimbfmaa
set_option linter.unusedSimpArgs false
set_option linter.unusedVariables false
namespace Go.Proofs.Ytdnaadcbimbfmaa
open Go Go.RowKit Am

def tmbL (x : ElT) : List UInt8 := (vlqL (uN x.2.R) ++ vlqL (uN x.2.N)) ++ evtL x.1
def evsL (A : List Ev) : List UInt8 := (A.map evtL).flatten
def tmsL (D : List ElT) : List UInt8 := (D.map tmbL).flatten
/-- A space's text. -/
def spL (v : VV) (t : Int) (A : List Ev) (D : List ElT) : List UInt8 := (((numL (spI v t) ++ vlqL A.length) ++ evsL A) ++ vlqL D.length) ++ tmsL D
theorem evsL_len (A : List Ev) (h : ∀ e ∈ A, EvOK e) : (evsL A).length ≤ 1320 * A.length := by
  induction A with
  | nil => simp [evsL]
  | cons x xs ih =>
    have h1 := evtL_len x (h x (List.mem_cons_self ..))
    have h2 := ih fun e he => h e (List.mem_cons_of_mem _ he)
    simp only [evsL, List.map_cons, List.flatten_cons, List.length_append, List.length_cons] at h2 ⊢
    omega
theorem tmsL_len (D : List ElT) (h : ∀ e ∈ D, EvOK e.1) : (tmsL D).length ≤ 1340 * D.length := by
  induction D with
  | nil => simp [tmsL]
  | cons x xs ih =>
    have h1 := evtL_len x.1 (h x (List.mem_cons_self ..))
    have h2 := ih fun e he => h e (List.mem_cons_of_mem _ he)
    have h3 := vlq_len _ (uN_lt x.2.R)
    have h4 := vlq_len _ (uN_lt x.2.N)
    simp only [tmsL, tmbL, List.map_cons, List.flatten_cons, List.length_append, List.length_cons] at h2 ⊢
    omega
theorem evsL_snoc (A : List Ev) (x : Ev) : evsL (A ++ [x]) = evsL A ++ evtL x := by simp [evsL]
theorem tmsL_snoc (A : List ElT) (x : ElT) : tmsL (A ++ [x]) = tmsL A ++ tmbL x := by simp [tmsL]
set_option maxHeartbeats 8000000 in
set_option maxRecDepth 100000 in
theorem encode_ok (σ : Sp) (A : List Ev) (D : List ElT) (hU : SpU σ A D) (hlen : σ.es.length = σ.ks.length) (hA : A.length ≤ 1000) (hD : D.length ≤ 1000) (oA : ∀ e ∈ A, EvOK e) (oD : ∀ e ∈ D, EvOK e.1) (s : ByteArray) (hs : s = BA (spL σ.vv σ.tm A D)) : CSem Try.prog (.fn 9) [.ept (spA (mapA σ) σ.vv σ.tm) 0] (.pure [aS s]) := by
  have hall := all_ok σ A D hU hlen
  obtain ⟨v, hv⟩ : ∃ v, v = σ.vv := ⟨_, rfl⟩
  obtain ⟨tm, htm⟩ : ∃ t, t = σ.tm := ⟨_, rfl⟩
  obtain ⟨mA, hmA⟩ : ∃ mA, mA = mapA σ := ⟨_, rfl⟩
  rw [← hv, ← htm, ← hmA] at hall ⊢
  rw [← hv, ← htm] at hs
  have hpl : plain mA = mA := by rw [hmA]; unfold mapA; split <;> rfl
  refine acall_hand 91 Try.func9 (by kernel_rfl) rfl rfl (by simp) fun w S a h => ?_
  obtain ⟨spa, hspa⟩ : ∃ x, x = spA mA v tm := ⟨_, rfl⟩
  rw [← hspa] at h hall
  refine wp_seq (h.pc (E := { n := 91 }) [(0, .ept spa 0)] rfl (fun F C D hF hC => ?_) fun S1 a1 w1 h1 => ?_)
  · cbv
    exact ⟨100, (le_of [] (by simp [leSl, leOb, injK, memK, parK, noTup, lk, rn0, rnA, plain] <;> first | rfl | decide | (repeat (first | rfl | trivial | refine And.intro ?_ ?_))))⟩
  clear h
  refine wp_seq (wp_seq (h1.pc (E := { n := 91 }) [(13, aB false), (0, .ept spa 0)] rfl (fun F C D hF hC => ?_) fun S2 a2 w2 h2 => ?_))
  · have nilp := hC _ _ _ (show CSem Try.prog (.nilp 25) [] (.pure []) from (show Try.prog.underlying 25 = _ from by kernel_rfl))
    cbv
    refine ⟨nilp, ?_⟩
    cbv
    exact ⟨100, (le_of [] (by simp [leSl, leOb, injK, memK, parK, noTup, lk, rn0, rnA, plain] <;> first | rfl | decide | (repeat (first | rfl | trivial | refine And.intro ?_ ?_))))⟩
  clear h1
  refine wp_cond_false (h2.val (t := 13) rfl) (wp_skip ?_)
  show Code.wp Try.prog (Code.seq _ _) _ _ _
  refine wp_seq (h2.pc (E := { n := 91 }) [(3, .sl []), (0, .ept spa 0)] rfl (fun F C D hF hC => ?_) fun S3 a3 w3 h3 => ?_)
  · cbv
    exact ⟨100, Le.trans (le_nilS 3 rfl) (le_of [] (by simp [leSl, leOb, injK, memK, parK, noTup, lk, rn0, rnA, plain] <;> first | rfl | decide | (repeat (first | rfl | trivial | refine And.intro ?_ ?_))))⟩
  clear h2
  show Code.wp Try.prog (Code.seq _ _) _ _ _
  obtain ⟨ae, hae, hcel⟩ : ∃ ae, a3.eval (.tmp 0) = .pointer (some ae) ∧ ∀ (i : Nat) (u : AV), spa[i]? = some u → ∃ y, w3.cell? (ae.add i) = some y ∧ RepC w3 S3 u y := by
    obtain ⟨ad, q1, q2⟩ := Rep.ept_inv (h3.hi.slots 0 _ rfl).2
    exact ⟨ad, by rw [evT, q1, add00], q2.2⟩
  have hcv : ∀ (i : Nat) (u : Value), spa[i]? = some (.v u) → w3.cell? (ae.add i) = some u := fun i u hi => by
    obtain ⟨y, q1, q2⟩ := hcel i _ hi
    rw [q1, rep_v (.c q2)]
  have hct : w3.cell? (ae.add 17) = some (vI tm) := hcv 17 _ (by rw [hspa]; rfl)
  have hcvv : ∀ j u, (vvs v).toList[j]? = some u → w3.cell? (ae.add (1 + j)) = some u := fun j u hj => by
    refine hcv (1 + j) u ?_
    have hj16 : j < 16 := (List.getElem?_eq_some_iff.1 hj).1
    rw [hspa, Nat.add_comm]
    have : (spA mA v tm)[j + 1]? = (((vvs v).toList.map AV.v) ++ [aI tm])[j]? := rfl
    rw [this, List.getElem?_append_left (by rw [List.length_map]; exact hj16), List.getElem?_map, hj]
    rfl
  have hlt : ae.block < w3.heap.size := by have := block_lt_of_cell hct; rwa [add_blk] at this
  refine wp_seq (wp_seq (sp_region ae v tm rfl (by kernel_rfl) h3.hi.size hae hlt hcvv hct fun a4 w4 hz4 hd4 hb4 hown4 h26 h27 ho4 => ?_))
  have h4 := h3.reg hz4 hd4 spShape rfl ho4
  obtain ⟨g4, rep4⟩ := gr_row (rows := intR (spI v tm)) (zs := spW v tm) (S := S3) h3.hi.lt hb4 hown4 (repl_map_v (spW v tm) (List.all_eq_true.1 (show (spW v tm).all (fun v => v.oneCell') = true from rfl))) (fun r hr => by obtain ⟨x, _, rfl⟩ := List.mem_map.1 hr; rfl)
  have h5 := (((h4.out g4).add (d := 25) (by decide) _ (srep_of_rep rep4)).addV (d := 26) (by decide) rfl h26).addV (d := 27) (by decide) rfl h27
  clear h4 h3 rep4 hcel hcv hct hcvv
  have hev : ∀ i, i < 17 → ∃ x, (spI v tm)[i]? = some x := fun i hi => ⟨_, List.getElem?_eq_getElem (show i < (spI v tm).length from hi)⟩
  obtain ⟨ns, hns⟩ : ∃ ns, ns = spI v tm := ⟨_, rfl⟩
  have hnl : ns.length = 17 := by rw [hns]; rfl
  rw [← hns] at h5 hev
  obtain ⟨rows, hrows⟩ : ∃ rows, rows = intR ns := ⟨_, rfl⟩
  rw [← hrows] at h5
  obtain ⟨b1, hb1⟩ : ∃ b1, b1 = byR (numL ns) := ⟨_, rfl⟩
  show Code.wp Try.prog (Code.block 0 _) _ a4 w4
  refine h5.pc (E := { n := 91 }) [(3, .sl b1), (0, .ept spa 0)] rfl (fun F C D hF hC => ?_) fun S6 a6 w6 h6 => ?_
  · cbv
    refine ⟨Nat × Int × List (List AV), fun y => { slots := [(27, aI y.2.1), (26, aI 17), (25, .sl rows), (3, .sl y.2.2), (0, .ept spa 0)], obs := [], ctr := 0 }, fun y => y.2.1 = (y.1 : Int) ∧ y.1 ≤ 17 ∧ y.2.2 = byR (numL (ns.take y.1)), fun y => 17 - y.1, ⟨(0, 0, []), ⟨rfl, Nat.zero_le _, rfl⟩, (le_of [] (by simp [leSl, leOb, injK, memK, parK, noTup, lk, rn0, rnA, plain] <;> first | rfl | decide | (repeat (first | rfl | trivial | refine And.intro ?_ ?_))))⟩, fun y hy => ?_⟩
    obtain ⟨i, i', bs⟩ := y
    obtain ⟨ei, hi, hbs⟩ := hy
    simp only at ei hi hbs
    have tl := ltF hF i 17 i' 17 ei rfl
    by_cases hi17 : i < 17
    · have tl : F .cmp .lss i' 17 = true := tl.2 hi17
      obtain ⟨x, hx⟩ := hev i hi17
      have hrow : rows[i]? = some [aI x] := by rw [hrows, intR, List.getElem?_map, hx]; rfl
      obtain ⟨u, hu⟩ : ∃ u : Int, u = ((uN x : Nat) : Int) := ⟨_, rfl⟩
      have hw : F .wrp .u64 x = u := (wrpN hF x).trans hu.symm
      have kp := hC _ _ _ (put_ok (numL (ns.take i)) (by have := numL_len (ns.take i); rw [List.length_take] at this; omega) (uN x) (uN_lt x))
      obtain ⟨b2, hb2⟩ : ∃ b2, b2 = byR (numL (ns.take i) ++ vlqL (uN x)) := ⟨_, rfl⟩
      rw [← hbs, ← hu, ← hb2] at kp
      have hb3 : b2 = byR (numL (ns.take (i + 1))) := by rw [hb2, List.take_add_one, hx]; simp only [Option.toList_some]; rw [numL_snoc]
      obtain ⟨i2, hi2⟩ : ∃ i2, F .ar .add .i64 i' 1 = i2 := ⟨_, rfl⟩
      have ei2 : i2 = ((i + 1 : Nat) : Int) := hi2.symm.trans (incF hF ei (by omega))
      have hmu : 17 - (i + 1) < 17 - i := by omega
      clear hu hb2 hbs hev
      cbv
      refine bT (tl) ?_
      cbv
      refine ⟨i, _, ei, hrow, rfl, ?_⟩
      cbv
      rw [hw]
      refine ⟨_, kp, ?_⟩
      cbv
      rw [hi2]
      exact ⟨(i + 1, i2, b2), ⟨ei2, hi17, hb3⟩, hmu, (le_of [] (by simp [leSl, leOb, injK, memK, parK, noTup, lk, rn0, rnA, plain] <;> first | rfl | decide | (repeat (first | rfl | trivial | refine And.intro ?_ ?_))))⟩
    · have tl : F .cmp .lss i' 17 = false := by rw [Bool.eq_false_iff]; exact fun h => hi17 (tl.1 h)
      have hi9 : i = 17 := by omega
      have hbe : bs = b1 := by rw [hbs, hb1, hi9, ← hnl, List.take_length]
      clear hbs hev
      subst hbe
      cbv
      refine bF (tl) ?_
      cbv
      exact ⟨100, (le_of [] (by simp [leSl, leOb, injK, memK, parK, noTup, lk, rn0, rnA, plain] <;> first | rfl | decide | (repeat (first | rfl | trivial | refine And.intro ?_ ?_))))⟩
  clear h5
  -- all that is there
  obtain ⟨rA, hrA⟩ : ∃ r, r = A.map itE := ⟨_, rfl⟩
  obtain ⟨rD, hrD⟩ : ∃ r, r = D.map itT := ⟨_, rfl⟩
  have rlA : rA.length = A.length := by rw [hrA, List.length_map]
  have rlD : rD.length = D.length := by rw [hrD, List.length_map]
  have ronA : ∀ r ∈ rA, r.length = 28 := by rw [hrA]; exact fun r hr => by obtain ⟨a, _, rfl⟩ := List.mem_map.1 hr; rfl
  have ronD : ∀ r ∈ rD, r.length = 30 := by rw [hrD]; exact fun r hr => by obtain ⟨a, _, rfl⟩ := List.mem_map.1 hr; rfl
  rw [← hrA, ← hrD] at hall
  show Code.wp Try.prog (Code.seq _ _) _ _ _
  refine wp_seq (h6.pc (E := { n := 91 }) [(7, .ept [.sl rD] 0), (6, .ept [.sl rA] 0), (3, .sl b1)] rfl (fun F C D hF hC => ?_) fun S7 a7 w7 h7 => ?_)
  · have ka := hC _ _ _ hall
    clear hall
    cbv
    refine ⟨_, ka, ?_⟩
    cbv
    exact ⟨100, (le_of [] (by simp [leSl, leOb, injK, memK, parK, noTup, lk, rn0, rnA, plain] <;> first | rfl | decide | (repeat (first | rfl | trivial | refine And.intro ?_ ?_))))⟩
  clear h6
  have nl1 : (numL ns).length ≤ 170 := by have := numL_len ns; rw [hnl] at this; omega
  have hvA := vlq_len A.length (by omega)
  have hvD := vlq_len D.length (by omega)
  have hLA := evsL_len A oA
  have hLD := tmsL_len D oD
  obtain ⟨l2, hl2⟩ : ∃ l, l = numL ns ++ vlqL A.length := ⟨_, rfl⟩
  have nl2 : l2.length ≤ 180 := by rw [hl2, List.length_append]; omega
  obtain ⟨b2, hb2⟩ : ∃ b, b = byR l2 := ⟨_, rfl⟩
  show Code.wp Try.prog (Code.seq _ _) _ _ _
  refine wp_seq (h7.pc (E := { n := 91 }) [(7, .ept [.sl rD] 0), (6, .ept [.sl rA] 0), (3, .sl b2)] rfl (fun F C D hF hC => ?_) fun S8 a8 w8 h8 => ?_)
  · obtain ⟨n', hn'⟩ : ∃ n' : Int, n' = (A.length : Int) := ⟨_, rfl⟩
    have kl := hC _ _ _ (lenE_ok rA n' (by rw [hn', rlA]))
    have kp := hC _ _ _ (put_ok (numL ns) (by omega) A.length (by omega))
    rw [← hb1, ← hl2, ← hb2, ← hn'] at kp
    have hw : F .wrp .u64 n' = n' := by rw [hF, hn']; exact IntWalk.u64_in _ (by omega)
    clear hall hn'
    cbv
    refine ⟨_, kl, ?_⟩
    cbv
    rw [hw]
    refine ⟨_, kp, ?_⟩
    cbv
    exact ⟨100, (le_of [] (by simp [leSl, leOb, injK, memK, parK, noTup, lk, rn0, rnA, plain] <;> first | rfl | decide | (repeat (first | rfl | trivial | refine And.intro ?_ ?_))))⟩
  clear h7
  obtain ⟨nA, hnA⟩ : ∃ n' : Int, n' = (A.length : Int) := ⟨_, rfl⟩
  show Code.wp Try.prog (Code.seq _ _) _ _ _
  refine wp_seq (wp_seq (h8.pc (E := { n := 91 }) [(49, aI 0), (48, aI nA), (47, .sl rA), (7, .ept [.sl rD] 0), (3, .sl b2)] rfl (fun F C D hF hC => ?_) fun S9 a9 w9 h9 => ?_))
  · have ki := hC _ _ _ (itemsE_ok rA (by omega) ronA)
    have tl : F .len rA = nA := by rw [lenF hF, rlA, hnA]
    clear hall
    cbv
    refine ⟨_, ki, ?_⟩
    cbv
    rw [tl]
    exact ⟨100, (le_of [] (by simp [leSl, leOb, injK, memK, parK, noTup, lk, rn0, rnA, plain] <;> first | rfl | decide | (repeat (first | rfl | trivial | refine And.intro ?_ ?_))))⟩
  clear h8
  obtain ⟨l3, hl3⟩ : ∃ l, l = l2 ++ evsL A := ⟨_, rfl⟩
  have nl3 : l3.length ≤ 1400000 := by rw [hl3, List.length_append]; omega
  obtain ⟨b3, hb3⟩ : ∃ b, b = byR l3 := ⟨_, rfl⟩
  show Code.wp Try.prog (Code.block 2 _) _ _ _
  refine h9.pc (E := { n := 91 }) [(7, .ept [.sl rD] 0), (3, .sl b3)] rfl (fun F C D hF hC => ?_) fun S10 a10 w10 h10 => ?_
  · clear hall
    cbv
    refine ⟨Nat × Int × List (List AV), fun y => { slots := [(49, aI y.2.1), (48, aI nA), (47, .sl rA), (7, .ept [.sl rD] 0), (3, .sl y.2.2)], obs := [], ctr := 0 }, fun y => y.2.1 = (y.1 : Int) ∧ y.1 ≤ A.length ∧ y.2.2 = byR (l2 ++ evsL (A.take y.1)), fun y => A.length - y.1, ⟨(0, 0, b2), ⟨rfl, Nat.zero_le _, by rw [hb2]; simp [evsL]⟩, (le_of [] (by simp [leSl, leOb, injK, memK, parK, noTup, lk, rn0, rnA, plain] <;> first | rfl | decide | (repeat (first | rfl | trivial | refine And.intro ?_ ?_))))⟩, fun y hy => ?_⟩
    obtain ⟨i, i', bs⟩ := y
    obtain ⟨ei, hi, hbs⟩ := hy
    simp only at ei hi hbs
    have tl := ltF hF i A.length i' nA ei hnA
    by_cases hil : i < A.length
    · have tl : F .cmp .lss i' nA = true := tl.2 hil
      obtain ⟨x, hx⟩ : ∃ x, A[i]? = some x := ⟨_, List.getElem?_eq_getElem hil⟩
      have hrow : rA[i]? = some (itE x) := by rw [hrA, List.getElem?_map, hx]; rfl
      have hlt1 : (evsL (A.take i)).length ≤ 1320 * 1000 := by
        have := evsL_len (A.take i) (fun e he => oA e (List.mem_of_mem_take he))
        rw [List.length_take] at this; omega
      have kp := hC _ _ _ (putEvent_ok (l2 ++ evsL (A.take i)) (by rw [List.length_append]; omega) x (oA x (List.mem_of_getElem? hx)))
      obtain ⟨c2, hc2⟩ : ∃ c2, c2 = byR ((l2 ++ evsL (A.take i)) ++ evtL x) := ⟨_, rfl⟩
      rw [← hbs, ← hc2] at kp
      have hc3 : c2 = byR (l2 ++ evsL (A.take (i + 1))) := by rw [hc2, List.take_add_one, hx]; simp only [Option.toList_some]; rw [evsL_snoc, List.append_assoc]
      obtain ⟨i2, hi2⟩ : ∃ i2, F .ar .add .i64 i' 1 = i2 := ⟨_, rfl⟩
      have ei2 : i2 = ((i + 1 : Nat) : Int) := hi2.symm.trans (incF hF ei (by omega))
      have hmu : A.length - (i + 1) < A.length - i := by omega
      clear hc2 hbs hx hlt1
      cbv
      refine bT (tl) ?_
      cbv
      refine ⟨i, _, ei, hrow, rfl, ?_⟩
      cbv
      refine ⟨_, kp, ?_⟩
      cbv
      rw [hi2]
      exact ⟨(i + 1, i2, c2), ⟨ei2, hil, hc3⟩, hmu, (le_of [] (by simp [leSl, leOb, injK, memK, parK, noTup, lk, rn0, rnA, plain] <;> first | rfl | decide | (repeat (first | rfl | trivial | refine And.intro ?_ ?_))))⟩
    · have tl : F .cmp .lss i' nA = false := by rw [Bool.eq_false_iff]; exact fun h => hil (tl.1 h)
      have hie : i = A.length := by omega
      have hbe : bs = b3 := by rw [hbs, hb3, hl3, hie, List.take_length]
      clear hbs
      subst hbe
      cbv
      refine bF (tl) ?_
      cbv
      exact ⟨100, (le_of [] (by simp [leSl, leOb, injK, memK, parK, noTup, lk, rn0, rnA, plain] <;> first | rfl | decide | (repeat (first | rfl | trivial | refine And.intro ?_ ?_))))⟩
  clear h9
  obtain ⟨l4, hl4⟩ : ∃ l, l = l3 ++ vlqL D.length := ⟨_, rfl⟩
  have nl4 : l4.length ≤ 1500000 := by rw [hl4, List.length_append]; omega
  obtain ⟨b4, hb4⟩ : ∃ b, b = byR l4 := ⟨_, rfl⟩
  show Code.wp Try.prog (Code.seq _ _) _ _ _
  refine wp_seq (h10.pc (E := { n := 91 }) [(7, .ept [.sl rD] 0), (3, .sl b4)] rfl (fun F C D' hF hC => ?_) fun S11 a11 w11 h11 => ?_)
  · obtain ⟨n', hn'⟩ : ∃ n' : Int, n' = (D.length : Int) := ⟨_, rfl⟩
    have kl := hC _ _ _ (lenT_ok rD n' (by rw [hn', rlD]))
    have kp := hC _ _ _ (put_ok l3 (by omega) D.length (by omega))
    rw [← hb3, ← hl4, ← hb4, ← hn'] at kp
    have hw : F .wrp .u64 n' = n' := by rw [hF, hn']; exact IntWalk.u64_in _ (by omega)
    clear hall hn'
    cbv
    refine ⟨_, kl, ?_⟩
    cbv
    rw [hw]
    refine ⟨_, kp, ?_⟩
    cbv
    exact ⟨100, (le_of [] (by simp [leSl, leOb, injK, memK, parK, noTup, lk, rn0, rnA, plain] <;> first | rfl | decide | (repeat (first | rfl | trivial | refine And.intro ?_ ?_))))⟩
  clear h10
  obtain ⟨nD, hnD⟩ : ∃ n' : Int, n' = (D.length : Int) := ⟨_, rfl⟩
  show Code.wp Try.prog (Code.seq _ _) _ _ _
  refine wp_seq (wp_seq (h11.pc (E := { n := 91 }) [(3, .sl b4), (66, aI 0), (65, aI nD), (64, .sl rD)] rfl (fun F C D' hF hC => ?_) fun S12 a12 w12 h12 => ?_))
  · have ki := hC _ _ _ (itemsT_ok rD (by omega) ronD)
    have tl : F .len rD = nD := by rw [lenF hF, rlD, hnD]
    clear hall
    cbv
    refine ⟨_, ki, ?_⟩
    cbv
    rw [tl]
    exact ⟨100, (le_of [] (by simp [leSl, leOb, injK, memK, parK, noTup, lk, rn0, rnA, plain] <;> first | rfl | decide | (repeat (first | rfl | trivial | refine And.intro ?_ ?_))))⟩
  clear h11
  clear hall
  show Code.wp Try.prog (Code.block 4 _) _ _ _
  obtain ⟨out, hout⟩ : ∃ l, l = l4 ++ tmsL D := ⟨_, rfl⟩
  obtain ⟨bo, hbo⟩ : ∃ b, b = byR out := ⟨_, rfl⟩
  refine wp_mono (Q := fun ex a' w' => ex = .normal ∧ ∃ S', PS 91 w S [(3, .sl bo)] S' a' w') ?_ fun ex a20 w20 hh => ?_
  · refine wp_block (loop_by (fun k a' w' => k ≤ D.length ∧ ∃ S' k' bs, k' = (k : Int) ∧ bs = byR (l4 ++ tmsL (D.take k)) ∧ PS 91 w S [(3, .sl bs), (66, aI k'), (65, aI nD), (64, .sl rD)] S' a' w') (fun k => D.length - k) 0 ⟨Nat.zero_le _, S12, 0, b4, rfl, by rw [hb4]; simp [tmsL], h12⟩ fun k aa ww hI => ?_)
    clear h12
    obtain ⟨hk, S13, k', bs, ek, hbs, h13⟩ := hI
    by_cases hkl : k < D.length
    · obtain ⟨x, hx⟩ : ∃ x, D[k]? = some x := ⟨_, List.getElem?_eq_getElem hkl⟩
      have hrow : rD[k]? = some (itT x) := by rw [hrD, List.getElem?_map, hx]; rfl
      have hox := oD x (List.mem_of_getElem? hx)
      have hlt1 : (tmsL (D.take k)).length ≤ 1340 * 1000 := by
        have := tmsL_len (D.take k) (fun e he => oD e (List.mem_of_mem_take he))
        rw [List.length_take] at this; omega
      obtain ⟨k2, ek2⟩ : ∃ k2 : Int, k2 = ((k + 1 : Nat) : Int) := ⟨_, rfl⟩
      refine wp_seq (h13.pc (E := { n := 91 }) [(67, aB true), (3, .sl bs), (66, aI k'), (65, aI nD), (64, .sl rD)] rfl (fun F C D' hF hC => ?_) fun S14 a14 w14 h14 => ?_)
      · have tl : F .cmp .lss k' nD = true := (ltF hF k D.length k' nD ek hnD).2 hkl
        clear hbs hrow hx hlt1
        cbv
        rw [tl]
        exact ⟨100, (le_of [] (by simp [leSl, leOb, injK, memK, parK, noTup, lk, rn0, rnA, plain] <;> first | rfl | decide | (repeat (first | rfl | trivial | refine And.intro ?_ ?_))))⟩
      clear h13
      refine wp_seq (wp_cond_true (h14.val (t := 67) rfl) (wp_skip ?_))
      show Code.wp Try.prog (Code.seq _ _) _ _ _
      refine wp_seq (wp_block (wp_seq (h14.pc (E := { n := 91 }) [(3, .sl bs), (11, .ept (itT x) 0), (66, aI k'), (65, aI nD), (64, .sl rD)] rfl (fun F C D' hF hC => ?_) fun S15 a15 w15 h15 => ?_)))
      · clear hbs hx hlt1
        cbv
        refine ⟨k, _, ek, hrow, rfl, ?_⟩
        cbv
        exact ⟨100, (le_of [] (by simp [leSl, leOb, injK, memK, parK, noTup, lk, rn0, rnA, plain] <;> first | rfl | decide | (repeat (first | rfl | trivial | refine And.intro ?_ ?_))))⟩
      clear h14
      obtain ⟨ad, had, hcell⟩ := h15.cells (t := 11) (itvT x) rfl
      obtain ⟨l5, hl5⟩ : ∃ l, l = l4 ++ tmsL (D.take k) := ⟨_, rfl⟩
      have nl5 : l5.length ≤ 3000000 := by rw [hl5, List.length_append]; omega
      rw [← hl5] at hbs
      rw [hbs] at h15
      show Code.wp Try.prog (Code.seq _ _) _ _ _
      refine wp_seq (to_region 91 rfl ad x.2.R x.2.N l5 (by omega) S15 h15.hi.lt rfl (by kernel_rfl) h15.hi.size had (h15.hi.slots 3 _ rfl).2 (hcell 28 _ rfl) (hcell 29 _ rfl) fun a16 w16 S16 hz16 hd16 hg16 hr16 ho16 => ?_)
      have h16 := (((((h15.dr rfl).reg hz16 hd16 toShape rfl ho16).out hg16)).add (d := 3) (by decide) _ (srep_of_rep hr16))
      clear h15 hr16
      obtain ⟨l6, hl6⟩ : ∃ l, l = (l5 ++ vlqL (uN x.2.R)) ++ vlqL (uN x.2.N) := ⟨_, rfl⟩
      have nl6 : l6.length ≤ 3000100 := by
        have h3 := vlq_len _ (uN_lt x.2.R)
        have h4 := vlq_len _ (uN_lt x.2.N)
        rw [hl6, List.length_append, List.length_append]; omega
      obtain ⟨b6, hb6⟩ : ∃ b, b = byR l6 := ⟨_, rfl⟩
      rw [← hl6, ← hb6] at h16
      obtain ⟨b7, hb7⟩ : ∃ b, b = byR (l6 ++ evtL x.1) := ⟨_, rfl⟩
      show Code.wp Try.prog (Code.region _ _ _) _ _ _
      refine h16.pc (E := { n := 91 }) [(3, .sl b7), (66, aI k'), (65, aI nD), (64, .sl rD)] rfl (fun F C D' hF hC => ?_) fun S17 a17 w17 h17 => ?_
      · have kp := hC _ _ _ (putEvent_ok l6 (by omega) x.1 hox)
        rw [← hb6, ← hb7] at kp
        clear hbs hx hlt1 hb6 hb7 hrow
        cbv
        refine ⟨_, kp, ?_⟩
        cbv
        exact ⟨100, (le_of [] (by simp [leSl, leOb, injK, memK, parK, noTup, lk, rn0, rnA, plain] <;> first | rfl | decide | (repeat (first | rfl | trivial | refine And.intro ?_ ?_))))⟩
      clear h16
      show Code.wp Try.prog (Code.region _ _ _) _ _ _
      refine h17.pc (E := { n := 91 }) [(3, .sl b7), (66, aI k2), (65, aI nD), (64, .sl rD)] rfl (fun F C D' hF hC => ?_) fun S18 a18 w18 h18 => ?_
      · have tl := (incF hF ek (by omega)).trans ek2.symm
        clear hbs hx hlt1 hb6 hb7 hrow
        cbv
        rw [tl]
        exact ⟨100, (le_of [] (by simp [leSl, leOb, injK, memK, parK, noTup, lk, rn0, rnA, plain] <;> first | rfl | decide | (repeat (first | rfl | trivial | refine And.intro ?_ ?_))))⟩
      refine ⟨k + 1, ⟨hkl, S18, k2, b7, ek2, ?_, h18⟩, by omega⟩
      rw [hb7, hl6, hl5, List.take_add_one, hx]
      simp only [Option.toList_some]
      rw [tmsL_snoc, tmbL]
      simp only [List.append_assoc]
    · have hke : k = D.length := by omega
      refine wp_seq (h13.pc (E := { n := 91 }) [(67, aB false), (3, .sl bs)] rfl (fun F C D' hF hC => ?_) fun S14 a14 w14 h14 => ?_)
      · have tl : F .cmp .lss k' nD = false := by rw [Bool.eq_false_iff]; exact fun h => hkl ((ltF hF k D.length k' nD ek hnD).1 h)
        clear hbs
        cbv
        rw [tl]
        exact ⟨100, (le_of [] (by simp [leSl, leOb, injK, memK, parK, noTup, lk, rn0, rnA, plain] <;> first | rfl | decide | (repeat (first | rfl | trivial | refine And.intro ?_ ?_))))⟩
      refine wp_seq (wp_cond_false (h14.val (t := 67) rfl) (wp_exit ?_))
      refine ⟨rfl, S14, ?_⟩
      have : bs = bo := by rw [hbs, hbo, hout, hke, List.take_length]
      rw [← this]
      exact h14.dr rfl
  obtain ⟨rfl, S20, h20⟩ := hh
  clear h12
  have hso : s = BA out := by rw [hs, hout, hl4, hl3, hl2, hns]; rfl
  show Code.wp Try.prog (Code.seq _ _) _ _ _
  refine wp_seq (h20.pc (E := { n := 91 }) [(2, aS s)] rfl (fun F C D' hF hC => ?_) fun S21 a21 w21 h21 => ?_)
  · have kb := hC _ _ _ (bs_ok out bo hbo s hso)
    clear hso hbo hs
    cbv
    refine ⟨_, kb, ?_⟩
    cbv
    exact ⟨100, (le_of [] (by simp [leSl, leOb, injK, memK, parK, noTup, lk, rn0, rnA, plain] <;> first | rfl | decide | (repeat (first | rfl | trivial | refine And.intro ?_ ?_))))⟩
  refine wp_ret ?_
  exact h21.ret1 rfl rfl rfl
end Go.Proofs.Ytdnaadcbimbfmaa
set_option linter.unusedSimpArgs false
set_option linter.unusedVariables false
namespace Go.Proofs.Ytdnaadcbimbfmaa
open Go Go.RowKit Am

/-! ### What holds of a space that has seen events -/
theorem ex_rise {α : Type} (d : α → Dt) (l : List α) (hu : ∀ x ∈ l, ∀ y ∈ l, d x = d y → x = y) : ∃ A, Rise d A ∧ ∀ x, x ∈ A ↔ x ∈ l := by
  induction l with
  | nil => exact ⟨[], List.Pairwise.nil, fun x => Iff.rfl⟩
  | cons a l ih =>
    obtain ⟨A, hA, hm⟩ := ih (fun x hx y hy => hu x (.tail _ hx) y (.tail _ hy))
    by_cases h : ∃ y ∈ A, d y = d a
    · obtain ⟨y, hy, hd⟩ := h
      have := hu y (.tail _ ((hm y).1 hy)) a (.head _) hd
      subst this
      exact ⟨A, hA, fun x => by rw [hm, List.mem_cons]; exact ⟨.inr, fun h => h.elim (fun e => e ▸ (hm _).1 hy) id⟩⟩
    · refine ⟨insD d A a, insD_rise hA fun y hy e => h ⟨y, hy, e⟩, fun x => ?_⟩
      rw [insD_mem, hm, List.mem_cons]
theorem riseE_nodup {α : Type} {d : α → Dt} {l : List α} (h : Rise d l) : l.Nodup := List.Pairwise.imp (fun {a b} hab e => by subst e; exact dlt_irr _ hab) h
theorem nodup_len {α : Type} : ∀ (l m : List α), l.Nodup → (∀ x ∈ l, x ∈ m) → l.length ≤ m.length
  | [], _, _, _ => Nat.zero_le _
  | x :: l, m, hn, hs => by
    rw [List.nodup_cons] at hn
    obtain ⟨s, t, rfl⟩ := List.append_of_mem (hs x (.head _))
    have := nodup_len l (s ++ t) hn.2 fun y hy => by
      have := hs y (.tail _ hy)
      simp only [List.mem_append, List.mem_cons] at this ⊢
      rcases this with h | rfl | h
      · exact .inl h
      · exact absurd hy hn.1
      · exact .inr h
    simp only [List.length_append, List.length_cons] at this ⊢
    omega
def seenV (v : VV) (d : Dt) : Prop := 0 ≤ d.R ∧ d.R < 16 ∧ d.N ≤ vget v d.R
structure SpG (σ : Sp) (got : List Ev) : Prop where
  vr : vrightP σ.vv
  len : σ.es.length = σ.ks.length
  nd : σ.ks.Nodup
  ok : ∀ en ∈ σ.es, EntOK en
  lg : ∀ (i : Nat) (k : ByteArray) (en : Ent) (x : Ev), σ.ks[i]? = some k → σ.es[i]? = some en → x ∈ en.lv → x ∈ got ∧ x.op.key = k
  dg : ∀ (i : Nat) (k : ByteArray) (en : Ent) (x : ElT), σ.ks[i]? = some k → σ.es[i]? = some en → x ∈ en.dd → x.1 ∈ got ∧ x.1.op.key = k
  gv : ∀ x ∈ got, seenV σ.vv x.dot
  gu : ∀ x ∈ got, ∀ y ∈ got, x.dot = y.dot → x = y
  go : ∀ x ∈ got, EvOK x
def sp0 : Sp := ⟨[], [], fun _ => 0, 0⟩
theorem spg0 : SpG sp0 [] := ⟨fun i => ⟨Int.le_refl 0, (show (0 : Int) ≤ 1048576 by decide)⟩, rfl, List.nodup_nil, fun en h => by simp [sp0] at h, fun i k en x h => by simp [sp0] at h, fun i k en x h => by simp [sp0] at h, fun x h => by simp at h, fun x h => by simp at h, fun x h => by simp at h⟩
theorem SpG.ix {σ : Sp} {got : List Ev} (h : SpG σ got) {en : Ent} (hen : en ∈ σ.es) : ∃ (i : Nat) (k : ByteArray), σ.ks[i]? = some k ∧ σ.es[i]? = some en := by
  obtain ⟨i, hi⟩ := List.getElem?_of_mem hen
  have := (List.getElem?_eq_some_iff.1 hi).1
  exact ⟨i, _, List.getElem?_eq_getElem (by rw [← h.len]; exact this), hi⟩
theorem SpG.ij {σ : Sp} {got : List Ev} (h : SpG σ got) {i j : Nat} {k : ByteArray} (hi : σ.ks[i]? = some k) (hj : σ.ks[j]? = some k) : i = j :=
  (List.getElem?_inj (List.getElem?_eq_some_iff.1 hi).1 h.nd).1 (hi.trans hj.symm)
/-- All that lives, and all that is dead, of unlike dots. -/
theorem SpG.all {σ : Sp} {got : List Ev} (h : SpG σ got) (hg : got.length ≤ 1000) : ∃ A D, SpU σ A D ∧ A.length ≤ 1000 ∧ D.length ≤ 1000 ∧ (∀ e ∈ A, EvOK e) ∧ ∀ e ∈ D, EvOK e.1 := by
  have uA : ∀ (i j : Nat) (a b : Ent) (x y : Ev), σ.es[i]? = some a → σ.es[j]? = some b → x ∈ a.lv → y ∈ b.lv → x.dot = y.dot → x = y ∧ i = j := fun i j a b x y hi hj hx hy hd => by
    have hil := (List.getElem?_eq_some_iff.1 hi).1
    have hjl := (List.getElem?_eq_some_iff.1 hj).1
    have ki := List.getElem?_eq_getElem (l := σ.ks) (i := i) (by rw [← h.len]; exact hil)
    have kj := List.getElem?_eq_getElem (l := σ.ks) (i := j) (by rw [← h.len]; exact hjl)
    obtain ⟨g1, e1⟩ := h.lg i _ a x ki hi hx
    obtain ⟨g2, e2⟩ := h.lg j _ b y kj hj hy
    have := h.gu x g1 y g2 hd
    subst this
    rw [← e1] at ki
    rw [← e2] at kj
    exact ⟨rfl, h.ij ki kj⟩
  have uD : ∀ (i j : Nat) (a b : Ent) (x y : ElT), σ.es[i]? = some a → σ.es[j]? = some b → x ∈ a.dd → y ∈ b.dd → dT x = dT y → x = y ∧ i = j := fun i j a b x y hi hj hx hy hd => by
    have hil := (List.getElem?_eq_some_iff.1 hi).1
    have hjl := (List.getElem?_eq_some_iff.1 hj).1
    have ki := List.getElem?_eq_getElem (l := σ.ks) (i := i) (by rw [← h.len]; exact hil)
    have kj := List.getElem?_eq_getElem (l := σ.ks) (i := j) (by rw [← h.len]; exact hjl)
    obtain ⟨g1, e1⟩ := h.dg i _ a x ki hi hx
    obtain ⟨g2, e2⟩ := h.dg j _ b y kj hj hy
    have := h.gu x.1 g1 y.1 g2 hd
    rw [← e1] at ki
    rw [← e2, ← this] at kj
    have hij := h.ij ki kj
    subst hij
    rw [hi] at hj; injection hj with hj; subst hj
    obtain ⟨m, hm⟩ := List.getElem?_of_mem hx
    obtain ⟨n, hn⟩ := List.getElem?_of_mem hy
    have := rise_inj (h.ok a (List.mem_of_getElem? hi)).dr hm hn hd
    subst this
    rw [hm] at hn; injection hn with hn
    exact ⟨hn, rfl⟩
  obtain ⟨A, rA, mA⟩ := ex_rise dE (σ.es.flatMap (·.lv)) fun x hx y hy hd => by
    rw [List.mem_flatMap] at hx hy
    obtain ⟨a, ha, hx⟩ := hx
    obtain ⟨b, hb, hy⟩ := hy
    obtain ⟨i, hi⟩ := List.getElem?_of_mem ha
    obtain ⟨j, hj⟩ := List.getElem?_of_mem hb
    exact (uA i j a b x y hi hj hx hy hd).1
  obtain ⟨D, rD, mD⟩ := ex_rise dT (σ.es.flatMap (·.dd)) fun x hx y hy hd => by
    rw [List.mem_flatMap] at hx hy
    obtain ⟨a, ha, hx⟩ := hx
    obtain ⟨b, hb, hy⟩ := hy
    obtain ⟨i, hi⟩ := List.getElem?_of_mem ha
    obtain ⟨j, hj⟩ := List.getElem?_of_mem hb
    exact (uD i j a b x y hi hj hx hy hd).1
  have gA : ∀ x ∈ A, x ∈ got := fun x hx => by
    have := (mA x).1 hx
    rw [List.mem_flatMap] at this
    obtain ⟨en, h1, h2⟩ := this
    obtain ⟨i, k, q1, q2⟩ := h.ix h1
    exact (h.lg i k en x q1 q2 h2).1
  have gD : ∀ x ∈ D, x.1 ∈ got := fun x hx => by
    have := (mD x).1 hx
    rw [List.mem_flatMap] at this
    obtain ⟨en, h1, h2⟩ := this
    obtain ⟨i, k, q1, q2⟩ := h.ix h1
    exact (h.dg i k en x q1 q2 h2).1
  have lA : A.length ≤ 1000 := Nat.le_trans (nodup_len A got (riseE_nodup rA) gA) hg
  have lD : D.length ≤ 1000 := by
    have hr : Rise (fun x : Ev => x.dot) (D.map (·.1)) := List.pairwise_map.2 rD
    have := nodup_len (D.map (·.1)) got (riseE_nodup hr) fun x hx => by
      obtain ⟨y, hy, rfl⟩ := List.mem_map.1 hx
      exact gD y hy
    rw [List.length_map] at this
    omega
  exact ⟨A, D, ⟨rA, rD, fun x => by rw [mA, List.mem_flatMap], fun x => by rw [mD, List.mem_flatMap], by omega, by omega, fun en hen => ⟨(h.ok en hen).lr, (h.ok en hen).dr⟩, fun i j a b x y h1 h2 h3 h4 h5 => (uA i j a b x y h1 h2 h3 h4 h5).2, fun i j a b x y h1 h2 h3 h4 h5 => (uD i j a b x y h1 h2 h3 h4 h5).2⟩, lA, lD, fun e he => h.go e (gA e he), fun e he => h.go e.1 (gD e he)⟩
theorem SpG.atk {σ : Sp} {got : List Ev} (h : SpG σ got) (key : ByteArray) : SpG (σ.at key) got := by
  by_cases hin : key ∈ σ.ks
  · rw [Sp.at_hit hin]; exact h
  · rw [Sp.at_miss hin]
    have hix : ∀ (i : Nat) (k : ByteArray) (en : Ent), (σ.ks ++ [key])[i]? = some k → (σ.es ++ [(⟨[], []⟩ : Ent)])[i]? = some en → (σ.ks[i]? = some k ∧ σ.es[i]? = some en) ∨ en = ⟨[], []⟩ := fun i k en h1 h2 => by
      rcases Nat.lt_or_ge i σ.ks.length with hi | hi
      · rw [List.getElem?_append_left hi] at h1
        rw [List.getElem?_append_left (by rw [h.len]; exact hi)] at h2
        exact .inl ⟨h1, h2⟩
      · rw [List.getElem?_append_right (by rw [h.len]; exact hi)] at h2
        have := List.mem_of_getElem? h2
        exact .inr (by simpa using this)
    refine ⟨h.vr, by simp [h.len], ?_, fun en hen => ?_, fun i k en x h1 h2 h3 => ?_, fun i k en x h1 h2 h3 => ?_, h.gv, h.gu, h.go⟩
    · show (σ.ks ++ [key]).Nodup
      rw [List.nodup_append]
      exact ⟨h.nd, by simp, fun a ha b hb e => hin (by simp at hb; rw [← hb, ← e]; exact ha)⟩
    · have hen : en ∈ σ.es ++ [(⟨[], []⟩ : Ent)] := hen
      rcases List.mem_append.1 hen with hen | hen
      · exact h.ok en hen
      · have : en = ⟨[], []⟩ := by simpa using hen
        subst this
        exact ⟨List.Pairwise.nil, List.Pairwise.nil, fun x hx => by simp at hx⟩
    · rcases hix i k en h1 h2 with ⟨q1, q2⟩ | rfl
      · exact h.lg i k en x q1 q2 h3
      · simp at h3
    · rcases hix i k en h1 h2 with ⟨q1, q2⟩ | rfl
      · exact h.dg i k en x q1 q2 h3
      · simp at h3
theorem Sp.at_vv (σ : Sp) (key : ByteArray) : (σ.at key).vv = σ.vv := by unfold Sp.at; split <;> rfl
theorem Sp.at_tm (σ : Sp) (key : ByteArray) : (σ.at key).tm = σ.tm := by unfold Sp.at; split <;> rfl
theorem vget_vset (v : VV) (m : Int) (h0 : 0 ≤ m) (h1 : m < 16) (x : Int) (r : Int) (hr0 : 0 ≤ r) : vget (vset v m.toNat x) r = if r = m then x else vget v r := by
  unfold vget vset
  by_cases hr : r.toNat < 16
  · rw [dif_pos hr]
    by_cases e : r = m
    · subst e; rw [if_pos rfl, if_pos rfl]
    · rw [if_neg e, if_neg (show ¬ r.toNat = m.toNat by omega), dif_pos hr]
  · rw [dif_neg hr, if_neg (show ¬ r = m by omega), dif_neg hr]
theorem foldA_dsub (e : Ev) (en : Ent) : ∀ k, k ≤ en.lv.length → ∀ y ∈ (foldA e en k).2, y ∈ en.dd ∨ y.1 ∈ en.lv
  | 0, _, y, hy => .inl hy
  | k + 1, hk, y, hy => by
    obtain ⟨x, hx⟩ : ∃ x, en.lv[k]? = some x := ⟨_, List.getElem?_eq_getElem (by omega)⟩
    rw [foldA_succ e en k x hx] at hy
    unfold stepA at hy
    have ih := foldA_dsub e en k (by omega)
    split at hy
    · have hy : y ∈ (if x.op.kind = 9 then insD dT (foldA e en k).2 (x, e.dot) else (foldA e en k).2) := hy
      split at hy
      · rcases (insD_mem _ _ _ _).1 hy with rfl | hy
        · exact .inr (List.mem_of_getElem? hx)
        · exact ih y hy
      · exact ih y hy
    · exact ih y hy
/-- What Apply leaves is such a space. -/
theorem SpG.app {σ : Sp} {got : List Ev} (h : SpG σ got) {e : Ev} (hr : ReadyP σ.vv e) (he : EvOK e) {i : Nat} (hk : (σ.at e.op.key).ks[i]? = some e.op.key) : SpG ((σ.at e.op.key).app i e) (e :: got) := by
  have h1 := h.atk e.op.key
  have hvv := Sp.at_vv σ e.op.key
  obtain ⟨τ, hτ⟩ : ∃ τ, τ = σ.at e.op.key := ⟨_, rfl⟩
  rw [← hτ] at h1 hk hvv ⊢
  rw [← hvv] at hr
  clear hτ h
  have hil := (List.getElem?_eq_some_iff.1 hk).1
  obtain ⟨en, hen⟩ : ∃ en, τ.es[i]? = some en := ⟨_, List.getElem?_eq_getElem (by rw [h1.len]; exact hil)⟩
  have hnew : ∀ x ∈ got, x.dot ≠ e.dot := fun x hx hd => by
    have := (h1.gv x hx).2.2
    have hn := hr.nx
    rw [hd, hn] at this
    omega
  have hok := h1.ok en (List.mem_of_getElem? hen)
  have FI := foldI e en hok en.lv.length (Nat.le_refl _)
  have hds := foldA_dsub e en en.lv.length (Nat.le_refl _)
  have hgl : ∀ x ∈ en.lv, x ∈ got ∧ x.op.key = e.op.key := fun x hx => h1.lg i _ en x hk hen hx
  have hgd : ∀ x ∈ en.dd, x.1 ∈ got ∧ x.1.op.key = e.op.key := fun x hx => h1.dg i _ en x hk hen hx
  have ml : ∀ x ∈ (applyE e en).lv, x = e ∨ x ∈ (foldA e en en.lv.length).1 := fun x hx => by
    unfold applyE at hx
    split at hx
    · exact (insD_mem _ _ _ _).1 hx
    · exact .inr hx
  have md : ∀ y ∈ (applyE e en).dd, y ∈ (foldA e en en.lv.length).2 := fun y hy => hy
  have gd : ∀ y ∈ (applyE e en).dd, y.1 ∈ got ∧ y.1.op.key = e.op.key := fun y hy => by
    rcases hds y (md y hy) with q | q
    · exact hgd y q
    · exact hgl _ q
  have hok' : EntOK (applyE e en) := by
    refine ⟨?_, FI.dr, fun x hx y hy => ?_⟩
    · unfold applyE
      split
      · exact insD_rise FI.lr fun a ha => hnew a (hgl a (FI.lsub a ha)).1
      · exact FI.lr
    · rcases ml x hx with rfl | hx
      · exact fun hd => hnew y.1 (gd y hy).1 hd.symm
      · intro hd
        rcases FI.dsub y (md y hy) with q | ⟨j, x', q1, q2, q3, q4⟩
        · exact hok.ap x (FI.lsub x hx) y q hd
        · obtain ⟨j', hj'⟩ := List.getElem?_of_mem (FI.lsub x hx)
          have := lv_inj hok hj' q2 (hd.trans q4)
          subst this
          rw [hj'] at q2
          injection q2 with q2
          subst q2
          exact q3 hx
  have hes : (τ.app i e).es = τ.es.set i (applyE e en) := by unfold Sp.app; rw [hen]; rfl
  have hset : ∀ (j : Nat) (b : Ent), (τ.app i e).es[j]? = some b → (j = i ∧ b = applyE e en) ∨ (j ≠ i ∧ τ.es[j]? = some b) := fun j b hj => by
    rw [hes] at hj
    by_cases hji : i = j
    · subst hji
      rw [List.getElem?_set_self (by rw [h1.len]; exact hil)] at hj
      injection hj with hj
      exact .inl ⟨rfl, hj.symm⟩
    · rw [List.getElem?_set_ne hji] at hj
      exact .inr ⟨fun e => hji e.symm, hj⟩
  have r0 := he.rt.r0
  have r1 := he.rt.r1
  have hvg := vget_vset τ.vv e.dot.R r0 r1 e.dot.N
  refine ⟨fun k => ?_, by rw [hes, List.length_set]; exact h1.len, h1.nd, fun b hb => ?_, fun j k b x q1 q2 q3 => ?_, fun j k b x q1 q2 q3 => ?_, fun x hx => ?_, fun x hx y hy hd => ?_, fun x hx => ?_⟩
  · show inS (vset τ.vv e.dot.R.toNat e.dot.N k)
    unfold vset
    split
    · exact ⟨by have := he.rt.n0; omega, he.rt.n1⟩
    · exact h1.vr k
  · obtain ⟨j, hj⟩ := List.getElem?_of_mem hb
    rcases hset j b hj with ⟨_, rfl⟩ | ⟨_, q⟩
    · exact hok'
    · exact h1.ok b (List.mem_of_getElem? q)
  · have q1' : τ.ks[j]? = some k := q1
    rcases hset j b q2 with ⟨rfl, rfl⟩ | ⟨_, q⟩
    · rw [hk] at q1'; injection q1' with q1'; subst q1'
      rcases ml x q3 with rfl | hx
      · exact ⟨.head _, rfl⟩
      · have := hgl x (FI.lsub x hx)
        exact ⟨.tail _ this.1, this.2⟩
    · have := h1.lg j k b x q1' q q3
      exact ⟨.tail _ this.1, this.2⟩
  · have q1' : τ.ks[j]? = some k := q1
    rcases hset j b q2 with ⟨rfl, rfl⟩ | ⟨_, q⟩
    · rw [hk] at q1'; injection q1' with q1'; subst q1'
      have := gd x q3
      exact ⟨.tail _ this.1, this.2⟩
    · have := h1.dg j k b x q1' q q3
      exact ⟨.tail _ this.1, this.2⟩
  · show seenV (vset τ.vv e.dot.R.toNat e.dot.N) x.dot
    rcases List.mem_cons.1 hx with rfl | hx
    · exact ⟨r0, r1, by rw [hvg _ r0, if_pos rfl]; exact Int.le_refl _⟩
    · obtain ⟨a1, a2, a3⟩ := h1.gv x hx
      refine ⟨a1, a2, ?_⟩
      rw [hvg _ a1]
      split
      · rename_i hR
        rw [hR] at a3
        have := hr.nx
        omega
      · exact a3
  · rcases List.mem_cons.1 hx with rfl | hx'
    · rcases List.mem_cons.1 hy with rfl | hy'
      · rfl
      · exact absurd hd.symm (hnew y hy')
    · rcases List.mem_cons.1 hy with rfl | hy'
      · exact absurd hd (hnew x hx')
      · exact h1.gu x hx' y hy' hd
  · rcases List.mem_cons.1 hx with rfl | hx
    · exact he
    · exact h1.go x hx
theorem app_vv (σ : Sp) (i : Nat) (e : Ev) (key : ByteArray) : ((σ.at key).app i e).vv = vset σ.vv e.dot.R.toNat e.dot.N := by
  show vset (σ.at key).vv _ _ = _
  rw [Sp.at_vv]
/-- Ready once, and never again. -/
theorem ready_once {v : VV} {e : Ev} (h : ReadyP v e) : ¬ ReadyP (vset v e.dot.R.toNat e.dot.N) e := fun h' => by
  have := h'.nx
  rw [vget_vset v e.dot.R h.rt.r0 h.rt.r1 _ _ h.rt.r0, if_pos rfl] at this
  omega
theorem ready_new {v : VV} {e : Ev} (h : ReadyP v e) : vset v e.dot.R.toNat e.dot.N ≠ v := fun h' => by
  have h1 := vget_vset v e.dot.R h.rt.r0 h.rt.r1 e.dot.N _ h.rt.r0
  rw [h', if_pos rfl] at h1
  have := h.nx
  omega
/-- What apply_ok asks of a space's entries. -/
theorem SpG.ents {σ : Sp} {got : List Ev} (h : SpG σ got) (hg : got.length ≤ 1000) {e : Ev} (hr : ReadyP σ.vv e) (i : Nat) (en : Ent) (hen : (σ.at e.op.key).es[i]? = some en) : EntOK en ∧ (∀ x ∈ en.lv, x.dot ≠ e.dot) ∧ en.lv.length ≤ 400000 ∧ en.dd.length ≤ 400000 := by
  have h1 := h.atk e.op.key
  have hm := List.mem_of_getElem? hen
  have hil := (List.getElem?_eq_some_iff.1 hen).1
  have hki := List.getElem?_eq_getElem (l := (σ.at e.op.key).ks) (i := i) (by rw [← h1.len]; exact hil)
  have hok := h1.ok en hm
  have gl : ∀ x ∈ en.lv, x ∈ got := fun x hx => (h1.lg i _ en x hki hen hx).1
  have gd : ∀ x ∈ en.dd, x.1 ∈ got := fun x hx => (h1.dg i _ en x hki hen hx).1
  refine ⟨hok, fun x hx hd => ?_, ?_, ?_⟩
  · have := (h.gv x (gl x hx)).2.2
    have hn := hr.nx
    rw [hd, hn] at this
    omega
  · have := nodup_len en.lv got (riseE_nodup hok.lr) gl
    omega
  · have hr : Rise (fun x : Ev => x.dot) (en.dd.map (·.1)) := List.pairwise_map.2 hok.dr
    have := nodup_len (en.dd.map (·.1)) got (riseE_nodup hr) fun x hx => by
      obtain ⟨y, hy, rfl⟩ := List.mem_map.1 hx
      exact gd y hy
    rw [List.length_map] at this
    omega
theorem canB_num {o : Opn} (h : canB o = true) : -1099511627776 ≤ o.num ∧ o.num ≤ 1099511627776 := by
  unfold canB at h
  simp only [Bool.and_eq_true, decide_eq_true_eq] at h
  omega
theorem canB_sz {o : Opn} (h : canB o = true) : o.key.size + o.fld.size + o.val.size ≤ 1000 := by
  unfold canB at h
  simp only [Bool.and_eq_true, decide_eq_true_eq] at h
  omega
theorem evok_of {e : Ev} (h : RightP e) (hz : e.op.key.size + e.op.fld.size + e.op.val.size ≤ 1000) : EvOK e := by
  obtain ⟨h1, h2⟩ := canB_num h.can
  exact ⟨h, hz, by omega, by omega⟩
end Go.Proofs.Ytdnaadcbimbfmaa
