import Derived.Test.YtdmdahnnfancpaaG1
set_option linter.unusedSimpArgs false
set_option linter.unusedVariables false
namespace Go.Proofs.Ytdmdahnnfancpaa
open Go Go.RowKit Am

theorem mputV_map {f f' : ByteArray → AV} {s : ByteArray} {v : AV} (hv : f' s = v) (hf : ∀ k, k ≠ s → f' k = f k) : ∀ {ks : List ByteArray}, ks.Nodup → mputV ks (ks.map f) s v = (mputK ks s).map f'
  | [], _ => by simp [mputV, mputK, hv]
  | k :: ks, hn => by
    rw [List.nodup_cons] at hn
    unfold mputK
    simp only [List.map_cons, mputV]
    by_cases h : k = s
    · subst h
      rw [if_pos rfl, if_pos rfl, List.map_cons, hv]
      congr 1
      exact List.map_congr_left fun x hx => (hf x (fun e => hn.1 (e ▸ hx))).symm
    · rw [if_neg h, if_neg h, List.map_cons, hf k h, mputV_map hv hf hn.2]
theorem mapH_step {l : List Ev} {i : Nat} {e : Ev} (h : l[i]? = some e) (h5 : e.op.kind = 5) : keysH (l.take (i + 1)) = mputK (keysH (l.take i)) e.op.fld ∧ mapH (l.take (i + 1)) = mputV (keysH (l.take i)) (mapH (l.take i)) e.op.fld (.sl (evR (ownH (l.take i) e.op.fld) ++ [e.ac])) := by
  have hk : keysH (l.take (i + 1)) = mputK (keysH (l.take i)) e.op.fld := by rw [keysH_step h]; unfold keyF; rw [if_pos h5]
  refine ⟨hk, ?_⟩
  unfold mapH
  rw [hk]
  refine (mputV_map ?_ ?_ (keysH_nd _)).symm
  · show AV.sl (evR (ownH (l.take (i + 1)) e.op.fld)) = _
    rw [ownH_step h, if_pos ⟨h5, rfl⟩]
    unfold evR
    rw [List.map_append]; rfl
  · intro k hk
    show AV.sl (evR (ownH (l.take (i + 1)) k)) = _
    rw [ownH_step h, if_neg (fun h => hk h.2.symm)]
theorem mapH_skip {l : List Ev} {i : Nat} {e : Ev} (h : l[i]? = some e) (h5 : ¬ e.op.kind = 5) : keysH (l.take (i + 1)) = keysH (l.take i) ∧ mapH (l.take (i + 1)) = mapH (l.take i) := by
  have hk : keysH (l.take (i + 1)) = keysH (l.take i) := by rw [keysH_step h]; unfold keyF; rw [if_neg h5]
  refine ⟨hk, ?_⟩
  unfold mapH
  rw [hk]
  exact List.map_congr_left fun k _ => by rw [ownH_step h, if_neg (fun h => h5 h.1)]
theorem fnd_hit {s : ByteArray} : ∀ (ks : List ByteArray) (es : List MapEntry) (i j : Nat) (y : Value), es.map (·.key) = ks.map Value.string → fnd ks es s i = some (j, y) →
    ∃ n, j = i + n ∧ (∃ e, es[n]? = some e ∧ e.key = .string s ∧ e.val = y) ∧ ks[n]? = some s ∧ ∀ (vs : List AV) (v : AV), vs.length = ks.length → mputK ks s = ks ∧ mputV ks vs s v = vs.set n v
  | [], _, _, _, _, _, h => by simp [fnd] at h
  | _ :: _, [], _, _, _, h, _ => by cases h
  | k :: ks, e :: es, i, j, y, hk, hf => by
    simp only [List.map_cons, List.cons.injEq] at hk
    unfold fnd at hf
    by_cases hks : k = s
    · rw [if_pos hks] at hf
      injection hf with hf
      injection hf with hf1 hf2
      subst hks
      refine ⟨0, by omega, ⟨e, rfl, hk.1, hf2⟩, rfl, fun vs v hl => ?_⟩
      cases vs with
      | nil => simp at hl
      | cons u vs =>
        unfold mputK mputV
        rw [if_pos rfl, if_pos rfl]
        exact ⟨rfl, rfl⟩
    · rw [if_neg hks] at hf
      obtain ⟨n, h1, ⟨e', h2, h3, h4⟩, h5, h6⟩ := fnd_hit ks es (i + 1) j y hk.2 hf
      refine ⟨n + 1, by omega, ⟨e', by simpa using h2, h3, h4⟩, by simpa using h5, fun vs v hl => ?_⟩
      cases vs with
      | nil => simp at hl
      | cons u vs =>
        obtain ⟨g1, g2⟩ := h6 vs v (by simpa using hl)
        unfold mputK mputV
        rw [if_neg hks, if_neg hks, g1, g2]
        exact ⟨rfl, rfl⟩
theorem fnd_miss {s : ByteArray} : ∀ (ks : List ByteArray) (es : List MapEntry) (i : Nat), es.map (·.key) = ks.map Value.string → (fnd ks es s i = none ↔ s ∉ ks)
  | [], _, _, _ => by simp [fnd]
  | _ :: _, [], _, h => by cases h
  | k :: ks, e :: es, i, hk => by
    simp only [List.map_cons, List.cons.injEq] at hk
    unfold fnd
    by_cases hks : k = s
    · rw [if_pos hks]; subst hks; simp
    · rw [if_neg hks, fnd_miss ks es (i + 1) hk.2, List.mem_cons]
      exact ⟨fun h h' => h'.elim (fun e => hks e.symm) h, fun h h' => h (.inr h')⟩
/-- A row put back into the map. -/
theorem Grp.put {w w2 : World} {S : Nat → Prop} {U : Nat → Prop} {b : Nat} {ks : List ByteArray} {vs : List AV} {es : Array MapEntry} {clock : Nat} (h : Grp w S U b ks vs es clock) (hS : ∀ g, S g → g < w.heap.size) {t k e' : Nat} (hun : Try.prog.underlying t = some (.map k e')) (hks : Try.prog.underlying k = some .string)
    (s : ByteArray) (v0 v : Value) (rows : List (List AV)) (hv0 : v0 = match fnd ks es.toList s 0 with | some (_, y) => y | none => .slice none 0 0) (hrow : GRow w2 S U b rows v) (hw : ∀ g, g < w.heap.size → v0.ownBlock ≠ some g → w2.heap[g]? = w.heap[g]?)
    (hnew : v.ownBlock = v0.ownBlock ∨ ∀ g, v.ownBlock = some g → w.heap.size ≤ g) :
    ∃ es' clock', (Instr.mapUpdate t (.map (some b)) (.string s) v).run Try.prog w2 = .ok () { w2 with heap := w2.heap.setIfInBounds b (.map es' clock') } ∧
      Grp { w2 with heap := w2.heap.setIfInBounds b (.map es' clock') } S U b (mputK ks s) (mputV ks vs s (.sl rows)) es' clock' := by
  have hlt : b < w.heap.size := (Array.getElem?_eq_some_iff.1 h.at').1
  have hv0b : ∀ g, v0.ownBlock = some g → ¬ S g ∧ g ≠ b ∧ U g := fun g hg => by
    rw [hv0] at hg
    cases hfd : fnd ks es.toList s 0 with
    | none => rw [hfd] at hg; simp [Value.ownBlock] at hg
    | some jy =>
      obtain ⟨j, y⟩ := jy
      rw [hfd] at hg
      obtain ⟨n, _, ⟨e0, q1, q2, q3⟩, _, _⟩ := fnd_hit ks es.toList 0 j y h.keys hfd
      have hn : n < vs.length := by
        rw [h.len]
        have := (List.getElem?_eq_some_iff.1 q1).1
        have h1 := congrArg List.length h.keys
        simp only [List.length_map] at h1
        omega
      obtain ⟨r, _, hr⟩ := h.rows n _ e0 (List.getElem?_eq_getElem hn) q1
      exact hr.blk g (by rw [q3]; exact hg)
  have hbat : w2.heap[b]? = some (.map es clock) := (hw b hlt (fun e => (hv0b b e).2.1 rfl)).trans h.at'
  have hb2 : b < w2.heap.size := (Array.getElem?_eq_some_iff.1 hbat).1
  have hg := getObj_map (P := Try.prog) hbat
  have hf := findKey_str (P := Try.prog) hks s ks es.toList h.keys w2
  have hset : ∀ (es' : Array MapEntry) (c : Nat) (g : Nat), g ≠ b → ({ w2 with heap := w2.heap.setIfInBounds b (.map es' c) } : World).heap[g]? = w2.heap[g]? := fun es' c g hg => by
    show (w2.heap.setIfInBounds b (.map es' c))[g]? = _
    rw [Array.getElem?_setIfInBounds_ne (fun e => hg e.symm)]
  have hself : ∀ (es' : Array MapEntry) (c : Nat), ({ w2 with heap := w2.heap.setIfInBounds b (.map es' c) } : World).heap[b]? = some (.map es' c) := fun es' c => by
    show (w2.heap.setIfInBounds b (.map es' c))[b]? = _
    rw [Array.getElem?_setIfInBounds_self_of_lt hb2]
  have keepNew : ∀ (es' : Array MapEntry) (c : Nat), GRow { w2 with heap := w2.heap.setIfInBounds b (.map es' c) } S U b rows v := fun es' c =>
    hrow.keep (fun g hg => hset es' c g (fun e => h.out (e ▸ hg))) (fun _ h => h) (fun g hg => ⟨hset es' c g (hrow.blk g hg).2.1, (hrow.blk g hg).1⟩)
  have keepOld : ∀ (es' : Array MapEntry) (c : Nat) (r : List (List AV)) (y : Value), GRow w S U b r y → (∀ g, y.ownBlock = some g → v0.ownBlock ≠ some g) → GRow { w2 with heap := w2.heap.setIfInBounds b (.map es' c) } S U b r y := fun es' c r y hr hne => by
    have hsame : SameOn S w { w2 with heap := w2.heap.setIfInBounds b (.map es' c) } := fun g hg => (hset es' c g (fun e => h.out (e ▸ hg))).trans (hw g (hS g hg) (fun e => (hv0b g e).1 hg))
    exact hr.keep hsame (fun _ h => h) fun g hg => ⟨(hset es' c g (hr.blk g hg).2.1).trans (hw g (hr.lt g hg) (hne g hg)), (hr.blk g hg).1⟩
  have hel : es.toList.length = vs.length := by rw [h.len, ← List.length_map (f := fun x : MapEntry => x.key), h.keys, List.length_map]
  cases hfd : fnd ks es.toList s 0 with
  | none =>
    rw [hfd] at hv0
    simp only at hv0
    have hnb : ∀ g, v0.ownBlock ≠ some g := fun g e => by rw [hv0] at e; simp [Value.ownBlock] at e
    obtain ⟨q1, q2⟩ := ent_miss (s := s) (v := .sl rows) ks vs es.toList 0 h.keys h.len hfd
    refine ⟨es.push { key := .string s, val := v, born := clock }, clock + 1, ?_, h.base, h.out, hself _ _, ?_, ?_, births_push h.nd h.bd _ rfl, born_push h.bd _ rfl, ?_, ?_⟩
    · have hso := setObj_map (P := Try.prog) (Obj.map (es.push { key := .string s, val := v, born := clock }) (clock + 1)) hbat
      simp [Instr.mapUpdate, run_underlying hun, hg, checkKey_str _ 9999 hks, hf, hfd, hso]
    · rw [q1]; simp [h.keys]
    · rw [q1, q2]; simp [h.len]
    · intro i u e hu he
      rw [q2] at hu
      rw [Array.toList_push] at he
      by_cases hi : i < vs.length
      · rw [List.getElem?_append_left hi] at hu
        rw [List.getElem?_append_left (by omega)] at he
        obtain ⟨r, hr1, hr2⟩ := h.rows i u e hu he
        exact ⟨r, hr1, keepOld _ _ r _ hr2 fun g _ => hnb g⟩
      · rw [List.getElem?_append_right (by omega)] at hu
        rw [List.getElem?_append_right (by omega), hel] at he
        have hi0 : i - vs.length = 0 := by
          by_cases h0 : i - vs.length = 0
          · exact h0
          · rw [List.getElem?_eq_none (by simp; omega)] at hu; cases hu
        rw [hi0] at hu he
        simp at hu he
        subst hu he
        exact ⟨rows, rfl, keepNew _ _⟩
    · intro i j e1 e2 g h1 h2 hij hg1 hg2
      rw [Array.toList_push] at h1 h2
      have hnewb : ∀ g, v.ownBlock = some g → w.heap.size ≤ g := fun g hg => by
        rcases hnew with hn | hn
        · rw [hn] at hg; exact absurd hg (hnb g)
        · exact hn g hg
      have old : ∀ (i : Nat) (e1 : MapEntry), i < es.toList.length → (es.toList ++ [({ key := .string s, val := v, born := clock } : MapEntry)])[i]? = some e1 → es.toList[i]? = some e1 := fun i e1 hi h => by rwa [List.getElem?_append_left hi] at h
      have new : ∀ (i : Nat) (e1 : MapEntry), ¬ i < es.toList.length → (es.toList ++ [({ key := .string s, val := v, born := clock } : MapEntry)])[i]? = some e1 → i = es.toList.length ∧ e1.val = v := fun i e1 hi h => by
        rw [List.getElem?_append_right (by omega)] at h
        by_cases h0 : i - es.toList.length = 0
        · rw [h0] at h; simp at h; subst h; exact ⟨by omega, rfl⟩
        · rw [List.getElem?_eq_none (by simp only [List.length_cons, List.length_nil]; omega)] at h; cases h
      have lt : ∀ (i : Nat) (e1 : MapEntry) (g : Nat), es.toList[i]? = some e1 → e1.val.ownBlock = some g → g < w.heap.size := fun i e1 g hi hg => by
        have hl : i < vs.length := by rw [← hel]; exact (List.getElem?_eq_some_iff.1 hi).1
        obtain ⟨r, _, hr⟩ := h.rows i _ e1 (List.getElem?_eq_getElem hl) hi
        exact hr.lt g hg
      by_cases hi : i < es.toList.length <;> by_cases hj : j < es.toList.length
      · exact h.sep i j e1 e2 g (old i e1 hi h1) (old j e2 hj h2) hij hg1 hg2
      · have a1 := lt i e1 g (old i e1 hi h1) hg1
        have a2 := hnewb g (by rw [← (new j e2 hj h2).2]; exact hg2)
        omega
      · have a1 := lt j e2 g (old j e2 hj h2) hg2
        have a2 := hnewb g (by rw [← (new i e1 hi h1).2]; exact hg1)
        omega
      · have a1 := (new i e1 hi h1).1
        have a2 := (new j e2 hj h2).1
        omega
  | some jy =>
    obtain ⟨j, y0⟩ := jy
    rw [hfd] at hv0
    simp only at hv0
    subst hv0
    obtain ⟨n, q1, ⟨e0, q2, q3, q4⟩, q5, q6⟩ := fnd_hit ks es.toList 0 j v0 h.keys hfd
    obtain ⟨m1, m2⟩ := q6 vs (.sl rows) h.len
    have hj : j = n := by omega
    subst hj
    have hej : es[j]? = some e0 := by simpa using q2
    have hst := stays_str (P := Try.prog) s w2
    have hget : ∀ (i : Nat) (e : MapEntry), (es.modify j fun e => { e with key := .string s, val := v }).toList[i]? = some e → ∃ e1, es.toList[i]? = some e1 ∧ (i = j → e.val = v) ∧ (i ≠ j → e = e1) := fun i e hi => by
      rw [Array.toList_modify, List.getElem?_modify] at hi
      cases h1 : es.toList[i]? with
      | none => rw [h1] at hi; cases hi
      | some e1 =>
        rw [h1] at hi
        replace hi : some (if j = i then ({ e1 with key := .string s, val := v } : MapEntry) else e1) = some e := hi
        refine ⟨e1, rfl, fun hij => ?_, fun hij => ?_⟩
        · rw [if_pos hij.symm] at hi; exact (congrArg MapEntry.val (Option.some.inj hi)).symm
        · rw [if_neg (fun e => hij e.symm)] at hi; exact (Option.some.inj hi).symm
    have hnewb : ∀ g, v.ownBlock = some g → v0.ownBlock = some g ∨ w.heap.size ≤ g := fun g hg => by
      rcases hnew with hn | hn
      · rw [hn] at hg; exact .inl hg
      · exact .inr (hn g hg)
    have lt : ∀ (i : Nat) (e1 : MapEntry) (g : Nat), es.toList[i]? = some e1 → e1.val.ownBlock = some g → g < w.heap.size := fun i e1 g hi hg => by
      have hl : i < vs.length := by rw [← hel]; exact (List.getElem?_eq_some_iff.1 hi).1
      obtain ⟨r, _, hr⟩ := h.rows i _ e1 (List.getElem?_eq_getElem hl) hi
      exact hr.lt g hg
    refine ⟨es.modify j fun e => { e with key := .string s, val := v }, clock, ?_, h.base, h.out, hself _ _, ?_, ?_, by rw [births_modify es j (fun e : MapEntry => { e with key := .string s, val := v }) (fun _ => rfl)]; exact h.nd, fun x hx => born_modify h.bd j (fun e : MapEntry => { e with key := .string s, val := v }) (fun _ => rfl) x hx, ?_, ?_⟩
    · have hso := setObj_map (P := Try.prog) (Obj.map (es.modify j fun e => { e with key := .string s, val := v }) clock) hbat
      simp [Instr.mapUpdate, run_underlying hun, hg, checkKey_str _ 9999 hks, hf, hfd, hej, q3, hst, hso]
    · rw [m1, ← h.keys]
      apply List.ext_getElem?
      intro i
      rw [Array.toList_modify, List.getElem?_map, List.getElem?_map, List.getElem?_modify]
      by_cases hij : j = i
      · subst hij; rw [q2]; simp [q3]
      · cases es.toList[i]? with
        | none => rfl
        | some e1 => simp [hij]
    · rw [m1, m2, List.length_set]; exact h.len
    · intro i u e hu he
      rw [m2] at hu
      obtain ⟨e1, g1, g2, g3⟩ := hget i e he
      by_cases hij : i = j
      · subst hij
        have hjl : i < vs.length := by rw [← hel]; exact (List.getElem?_eq_some_iff.1 q2).1
        rw [List.getElem?_set_self hjl] at hu
        injection hu with hu
        subst hu
        exact ⟨rows, rfl, by rw [g2 rfl]; exact keepNew _ _⟩
      · rw [List.getElem?_set_ne (fun e => hij e.symm)] at hu
        rw [g3 hij]
        obtain ⟨r, hr1, hr2⟩ := h.rows i u e1 hu g1
        refine ⟨r, hr1, keepOld _ _ r _ hr2 fun g hg hg2 => ?_⟩
        exact h.sep i j e1 e0 g g1 q2 hij hg (by rw [q4]; exact hg2)
    · intro i i' e1 e2 g h1 h2 hij hg1 hg2
      obtain ⟨a1, b1, b2, b3⟩ := hget i e1 h1
      obtain ⟨a2, c1, c2, c3⟩ := hget i' e2 h2
      by_cases hi : i = j
      · have hi' : i' ≠ j := fun e => hij (hi.trans e.symm)
        rw [c3 hi'] at hg2
        rw [b2 hi] at hg1
        rcases hnewb g hg1 with h3 | h3
        · exact h.sep i' j a2 e0 g c1 q2 hi' hg2 (by rw [q4]; exact h3)
        · have := lt i' a2 g c1 hg2; omega
      · rw [b3 hi] at hg1
        by_cases hi' : i' = j
        · rw [c2 hi'] at hg2
          rcases hnewb g hg2 with h3 | h3
          · exact h.sep i j a1 e0 g b1 q2 hi hg1 (by rw [q4]; exact h3)
          · have := lt i a1 g b1 hg1; omega
        · rw [c3 hi'] at hg2
          exact h.sep i i' a1 a2 g b1 c1 hij hg1 hg2
end Go.Proofs.Ytdmdahnnfancpaa
