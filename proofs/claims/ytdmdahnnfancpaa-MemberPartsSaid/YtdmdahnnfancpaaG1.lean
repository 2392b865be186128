import Derived.Test.YtdmdahnnfancpaaM2
import Derived.WalkKit
import Derived.StillTailTactics
set_option linter.unusedSimpArgs false
set_option linter.unusedVariables false
namespace Go.Proofs.Ytdmdahnnfancpaa
open Go Go.RowKit Am

/-! ### A map of lists: plain -/
theorem mputK_in : ∀ (ks : List ByteArray) (s : ByteArray), s ∈ ks → mputK ks s = ks
  | [], s, h => by simp at h
  | k :: ks, s, h => by
    unfold mputK
    split
    · rfl
    · rename_i hne
      rw [mputK_in ks s (by rcases List.mem_cons.1 h with h | h; exact absurd h.symm hne; exact h)]
theorem mputK_out : ∀ (ks : List ByteArray) (s : ByteArray), s ∉ ks → mputK ks s = ks ++ [s]
  | [], s, _ => rfl
  | k :: ks, s, h => by
    unfold mputK
    split
    · rename_i he; exact absurd (he ▸ List.mem_cons_self) h
    · rw [mputK_out ks s (fun hm => h (List.mem_cons_of_mem _ hm))]; rfl
theorem mputK_memG (x : ByteArray) (ks : List ByteArray) (s : ByteArray) : x ∈ mputK ks s ↔ x ∈ ks ∨ x = s := by
  by_cases h : s ∈ ks
  · rw [mputK_in ks s h]
    exact ⟨.inl, fun h' => h'.elim id fun e => e ▸ h⟩
  · rw [mputK_out ks s h]; simp
theorem mputK_ndG {ks : List ByteArray} (hn : ks.Nodup) (s : ByteArray) : (mputK ks s).Nodup := by
  by_cases h : s ∈ ks
  · rw [mputK_in ks s h]; exact hn
  · rw [mputK_out ks s h, List.nodup_append]
    exact ⟨hn, by simp, fun a ha b hb e => by rw [List.mem_singleton.1 hb] at e; exact h (e ▸ ha)⟩
theorem mget_mapF (f : ByteArray → AV) : ∀ (ks : List ByteArray) (s : ByteArray), (s ∈ ks → mget ks (ks.map f) s = some (f s)) ∧ (s ∉ ks → mget ks (ks.map f) s = none)
  | [], s => by simp [mget]
  | k :: ks, s => by
    obtain ⟨h1, h2⟩ := mget_mapF f ks s
    simp only [List.map_cons, mget]
    by_cases h : k = s
    · subst h; simp
    · rw [if_neg h]
      refine ⟨fun hm => h1 (by rcases List.mem_cons.1 hm with e | e; exact absurd e.symm h; exact e), fun hm => h2 fun e => hm (List.mem_cons_of_mem _ e)⟩
/-- The fields that are set, in their first order. -/
def keyF (ks : List ByteArray) (e : Ev) : List ByteArray := if e.op.kind = 5 then mputK ks e.op.fld else ks
def keysH (l : List Ev) : List ByteArray := l.foldl keyF []
def ownH (l : List Ev) (s : ByteArray) : List Ev := l.filter fun e => decide (e.op.kind = 5) && decide (e.op.fld = s)
def mapH (l : List Ev) : List AV := (keysH l).map fun s => .sl (evR (ownH l s))
theorem keysH_step {l : List Ev} {i : Nat} {e : Ev} (h : l[i]? = some e) : keysH (l.take (i + 1)) = keyF (keysH (l.take i)) e := by
  unfold keysH
  rw [List.take_add_one, h, List.foldl_append]; rfl
theorem keysH_mem (l : List Ev) (s : ByteArray) : s ∈ keysH l ↔ ∃ e ∈ l, e.op.kind = 5 ∧ e.op.fld = s := by
  have key : ∀ (l : List Ev) (ks : List ByteArray), s ∈ l.foldl keyF ks ↔ s ∈ ks ∨ ∃ e ∈ l, e.op.kind = 5 ∧ e.op.fld = s := by
    intro l
    induction l with
    | nil => intro ks; simp
    | cons e l ih =>
      intro ks
      rw [List.foldl_cons, ih]
      unfold keyF
      by_cases h : e.op.kind = 5
      · rw [if_pos h, mputK_memG]
        constructor
        · rintro ((h1 | h1) | ⟨e', h1, h2⟩)
          · exact .inl h1
          · exact .inr ⟨e, List.mem_cons_self, h, h1.symm⟩
          · exact .inr ⟨e', List.mem_cons_of_mem _ h1, h2⟩
        · rintro (h1 | ⟨e', h1, h2⟩)
          · exact .inl (.inl h1)
          · rcases List.mem_cons.1 h1 with h3 | h3
            · subst h3; exact .inl (.inr h2.2.symm)
            · exact .inr ⟨e', h3, h2⟩
      · rw [if_neg h]
        constructor
        · rintro (h1 | ⟨e', h1, h2⟩)
          · exact .inl h1
          · exact .inr ⟨e', List.mem_cons_of_mem _ h1, h2⟩
        · rintro (h1 | ⟨e', h1, h2⟩)
          · exact .inl h1
          · rcases List.mem_cons.1 h1 with h3 | h3
            · subst h3; exact absurd h2.1 h
            · exact .inr ⟨e', h3, h2⟩
  have := key l []
  simpa [keysH] using this
theorem keysH_nd (l : List Ev) : (keysH l).Nodup := by
  have key : ∀ (l : List Ev) (ks : List ByteArray), ks.Nodup → (l.foldl keyF ks).Nodup := by
    intro l
    induction l with
    | nil => intro ks h; exact h
    | cons e l ih =>
      intro ks h
      rw [List.foldl_cons]
      refine ih _ ?_
      unfold keyF
      split
      · exact mputK_ndG h _
      · exact h
  exact key l [] List.nodup_nil
theorem keysH_le (l : List Ev) : (keysH l).length ≤ l.length := by
  have hk : ∀ (ks : List ByteArray) (s : ByteArray), (mputK ks s).length ≤ ks.length + 1 := fun ks s => by
    by_cases h : s ∈ ks
    · rw [mputK_in ks s h]; omega
    · rw [mputK_out ks s h]; simp
  have key : ∀ (l : List Ev) (ks : List ByteArray), (l.foldl keyF ks).length ≤ ks.length + l.length := by
    intro l
    induction l with
    | nil => intro ks; simp
    | cons e l ih =>
      intro ks
      rw [List.foldl_cons]
      have h1 := ih (keyF ks e)
      have h2 : (keyF ks e).length ≤ ks.length + 1 := by
        unfold keyF
        split
        · exact hk _ _
        · omega
      simp only [List.length_cons]
      omega
  have := key l []
  simpa [keysH] using this
theorem ownH_nil (l : List Ev) (s : ByteArray) : s ∉ keysH l ↔ ownH l s = [] := by
  rw [keysH_mem]
  unfold ownH
  rw [List.filter_eq_nil_iff]
  constructor
  · intro h e he hc
    simp only [Bool.and_eq_true, decide_eq_true_eq] at hc
    exact h ⟨e, he, hc⟩
  · rintro h ⟨e, he, h1, h2⟩
    exact h e he (by simp [h1, h2])
theorem ownH_step {l : List Ev} {i : Nat} {e : Ev} (h : l[i]? = some e) (s : ByteArray) : ownH (l.take (i + 1)) s = if e.op.kind = 5 ∧ e.op.fld = s then ownH (l.take i) s ++ [e] else ownH (l.take i) s := by
  unfold ownH
  rw [List.take_add_one, h, List.filter_append]
  by_cases h1 : e.op.kind = 5 ∧ e.op.fld = s
  · rw [if_pos h1]; simp [h1.1, h1.2]
  · rw [if_neg h1]
    have : (decide (e.op.kind = 5) && decide (e.op.fld = s)) = false := by
      simp only [Bool.and_eq_false_iff, decide_eq_false_iff_not]
      by_cases h2 : e.op.kind = 5
      · exact .inr fun h3 => h1 ⟨h2, h3⟩
      · exact .inl h2
    simp [this]
theorem mapH_len (l : List Ev) : (mapH l).length = (keysH l).length := by unfold mapH; simp
theorem mapH_hit (l : List Ev) (s : ByteArray) (h : s ∈ keysH l) : mget (keysH l) (mapH l) s = some (.sl (evR (ownH l s))) := (mget_mapF _ _ _).1 h
theorem mapH_miss (l : List Ev) (s : ByteArray) (h : s ∉ keysH l) : mget (keysH l) (mapH l) s = none := (mget_mapF (fun s => .sl (evR (ownH l s))) _ _).2 h

/-! ### A map of rows of the call's own, in the real world -/
structure GRow (w : World) (S : Nat → Prop) (U : Nat → Prop) (b : Nat) (rows : List (List AV)) (v : Value) : Prop where
  ex : ∃ xs, OwnR w 0 35 26 v rows.length xs ∧ RepL w S rows.flatten xs
  len : ∀ r ∈ rows, r.length = 26
  blk : ∀ g, v.ownBlock = some g → ¬ S g ∧ g ≠ b ∧ U g
structure Grp (w : World) (S : Nat → Prop) (U : Nat → Prop) (b : Nat) (ks : List ByteArray) (vs : List AV) (es : Array MapEntry) (clock : Nat) : Prop where
  base : U b
  out : ¬ S b
  at' : w.heap[b]? = some (.map es clock)
  keys : es.toList.map (·.key) = ks.map Value.string
  len : vs.length = ks.length
  nd : (es.toList.map (·.born)).Nodup
  bd : ∀ x ∈ es.toList, x.born < clock
  rows : ∀ (i : Nat) (u : AV) (e : MapEntry), vs[i]? = some u → es.toList[i]? = some e → ∃ r, u = .sl r ∧ GRow w S U b r e.val
  sep : ∀ (i j : Nat) (e e' : MapEntry) (g : Nat), es.toList[i]? = some e → es.toList[j]? = some e' → i ≠ j → e.val.ownBlock = some g → e'.val.ownBlock = some g → False
theorem OwnR.keep {w w' : World} {e sz n : Nat} {v : Value} {xs : List Value} (h : OwnR w 0 e sz v n xs) (hb : ∀ g, v.ownBlock = some g → w'.heap[g]? = w.heap[g]?) : OwnR w' 0 e sz v n xs := by
  refine ⟨h.1, ?_⟩
  rcases h.2 with h | ⟨g, cap, cur, fr, h1, h2, h3, r⟩
  · exact .inl h
  · exact .inr ⟨g, cap, cur, fr, h1, h2, by rw [hb g (by rw [h1]; rfl)]; exact h3, r⟩
theorem GRow.keep {w w' : World} {S S' : Nat → Prop} {U : Nat → Prop} {b : Nat} {rows : List (List AV)} {v : Value} (h : GRow w S U b rows v) (hw : SameOn S w w') (hS : ∀ g, S g → S' g) (hb : ∀ g, v.ownBlock = some g → w'.heap[g]? = w.heap[g]? ∧ ¬ S' g) : GRow w' S' U b rows v := by
  obtain ⟨xs, h1, h2⟩ := h.ex
  exact ⟨⟨xs, OwnR.keep h1 fun g hg => (hb g hg).1, h2.mono hw hS⟩, h.len, fun g hg => ⟨(hb g hg).2, (h.blk g hg).2⟩⟩
theorem GRow.lt {w : World} {S : Nat → Prop} {U : Nat → Prop} {b : Nat} {rows : List (List AV)} {v : Value} (h : GRow w S U b rows v) : ∀ g, v.ownBlock = some g → g < w.heap.size := fun g hg => by
  obtain ⟨xs, h1, h2⟩ := h.ex
  exact (h1.lt g hg).2
/-- The world has grown; what was there is as it was. -/
theorem Grp.grow {w w' : World} {S S' : Nat → Prop} {U : Nat → Prop} {b : Nat} {ks : List ByteArray} {vs : List AV} {es : Array MapEntry} {clock : Nat} (h : Grp w S U b ks vs es clock) (hg : Gr w S w' S') (hS : ∀ g, S g → g < w.heap.size) : Grp w' S' U b ks vs es clock := by
  have hlt : b < w.heap.size := (Array.getElem?_eq_some_iff.1 h.at').1
  have hno : ∀ g, g < w.heap.size → ¬ S g → ¬ S' g := fun g h1 h2 h3 => by
    rcases hg.new g h3 with h4 | h4
    · exact h2 h4
    · omega
  refine ⟨h.base, hno b hlt h.out, (hg.below.block b hlt).trans h.at', h.keys, h.len, h.nd, h.bd, fun i u e hu he => ?_, h.sep⟩
  obtain ⟨r, hr, hrow⟩ := h.rows i u e hu he
  refine ⟨r, hr, hrow.keep (hg.same hS) hg.sub fun g hg' => ?_⟩
  have := hrow.lt g hg'
  exact ⟨hg.below.block g this, hno g this (hrow.blk g hg').1⟩
end Go.Proofs.Ytdmdahnnfancpaa
