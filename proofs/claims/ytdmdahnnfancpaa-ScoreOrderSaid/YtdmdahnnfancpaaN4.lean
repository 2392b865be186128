import Derived.Test.YtdmdahnnfancpaaN3
import Derived.Shelf.SlSortCmp.NoneTotal
set_option linter.unusedSimpArgs false
set_option linter.unusedVariables false
namespace Go.Proofs.Ytdmdahnnfancpaa
open Go Go.RowKit Am Go.Shelf Go.Lib Go.Sort

/-- The row's cells in the block that its slice owns. -/
theorem heap_sortedP {w : World} {g n : Nat} {os : Array Obj} {cur : Array Value} {e : TypeId} {fr : Nat × Nat} (d : Array Pr) (hb : w.heap[g]? = some (.cells cur e fr)) :
    (sortWorldK encP 2 w g 0 n d os).heap[g]? = some (.cells (putCells id 0 (flatK encP 2 d) cur) e fr) := by
  have hg : g < w.heap.size := (Array.getElem?_eq_some_iff.1 hb).1
  unfold sortWorldK putRowK
  rw [heap_grow_old _ _ (by simpa using hg)]
  simp [putRow, mapBlock, Sort.ahead, Array.getElem?_modify, hb, onCells]
theorem grownBy_sortedP {w : World} {g n : Nat} {os : Array Obj} (d : Array Pr) : w.grownBy (sortWorldK encP 2 w g 0 n d os) (some g) := by
  unfold sortWorldK putRowK
  refine ⟨rfl, rfl, rfl, by simp, fun k hk hne => ?_⟩
  rw [heap_grow_old _ _ (by simpa using hk)]
  have : g ≠ k := fun e => hne (by rw [e])
  simp [putRow, mapBlock, Sort.ahead, Array.getElem?_modify, this]
theorem take_putCellsP (cur : Array Value) (l : List Pr) (h : l.length * 2 ≤ cur.size) : (putCells id 0 (flatK encP 2 l.toArray) cur).toList.take (l.length * 2) = flP l := by
  rw [← flatK_eq]
  have hs : (flatK encP 2 l.toArray).size = l.length * 2 := by simp
  apply List.ext_getElem?
  intro j
  by_cases hj : j < l.length * 2
  · rw [List.getElem?_take_of_lt hj, Array.getElem?_toList, Array.getElem?_toList]
    have hj2 : j < (flatK encP 2 l.toArray).size := by rw [hs]; exact hj
    rw [Array.getElem?_eq_getElem hj2]
    simp only [putCells, Array.getElem?_mapIdx, show j < cur.size by omega, Array.getElem?_eq_getElem, Option.map_some]
    rw [if_pos ⟨Nat.zero_le _, by omega⟩]
    simp only [Nat.sub_zero, id]
    rw [getElem!_pos (flatK encP 2 l.toArray) j hj2]
  · rw [List.getElem?_take_eq_none (by omega), List.getElem?_eq_none (by simp; omega)]
theorem holdsP {w : World} {g : Nat} {cur : Array Value} {l : List Pr} {e : TypeId} (hb : w.heap[g]? = some (.cells cur e (0, 0))) (ht : cur.toList.take (l.length * 2) = flP l) : HoldsK encP 2 w g 0 l.toArray := by
  unfold HoldsK
  intro j hj
  have hs : (flatK encP 2 l.toArray).size = l.length * 2 := by simp
  have hj' : j < l.length * 2 := by omega
  refine ⟨?_, by simp [World.frozen?, hb]⟩
  rw [Nat.zero_add, cell_of_row w g j cur e (0, 0) hb]
  have h1 : (cur.toList.take (l.length * 2))[j]? = (flP l)[j]? := by rw [ht]
  rw [List.getElem?_take_of_lt hj', Array.getElem?_toList, ← flatK_eq, Array.getElem?_toList, Array.getElem?_eq_getElem hj] at h1
  rw [h1, id, getElem!_pos (flatK encP 2 l.toArray) j hj]
theorem sortP (l : List Pr) (hl : l.length ≤ 1000000000) (rows : List (List AV)) (hrows : rows = pR l) (out : List (List AV)) (hout : out = pR (srtP l)) :
    CSem Try.prog (.wr 40 [(0, .row 41 2 rows 0 0)] [(0, .row 41 2 out 0 0)]) [.own 0 0, .clo 41 []] (.pure []) := by
  subst hrows hout
  have hml : (srtP l).length = l.length := List.length_mergeSort l
  refine ⟨fun vs w => enters_of (f := 40) (fn := Try.f40) Try.func40 (by kernel_rfl) rfl vs w, fun w S β xs hS hgd ho hsep hx => ?_⟩
  have ho0 := ho
  obtain ⟨rfl, hown, hSb⟩ := rowP_in ho hx
  by_cases hv : β 0 = .slice none 0 0
  · have hn : l = [] := by
      rw [hv] at hown
      rcases hown.2 with ⟨_, h⟩ | ⟨g, cap, cur, fr, h, _⟩
      · exact List.eq_nil_of_length_eq_zero h
      · cases h
    subst hn
    rw [hv]
    refine (AnyF.slices_SortFunc_none Try.laysSortP none 0 _ w).mono fun e w' h => ?_
    obtain ⟨rfl, rfl⟩ := h
    refine ⟨_, S, rfl, .refl hS hgd, fun k o h => ?_, [], rfl, Reps.nil _ _⟩
    exact ho0 k o (by simpa [srtP] using h)
  · rcases hown.2 with ⟨h0, _⟩ | ⟨g, cap, cur, fr, hβ, hbase, hb, hfr, h1, h2, h3, h4⟩
    · exact absurd h0 hv
    have hfr : fr = (0, 0) := by
      rcases hfr with h | ⟨h, _⟩
      · exact h
      · exact absurd h (by decide)
    subst hfr
    have hT : obsBlk [(0, .row 41 2 (pR l) 0 0)] β g := ⟨0, _, rfl, by rw [hβ]; rfl⟩
    have hg : g < w.heap.size := (Array.getElem?_eq_some_iff.1 hb).1
    have eg : ∀ args w, (callFunc 41 args).run Try.prog w = .ok (.enter 41 args) w := enters_of Try.func41 (by kernel_rfl) rfl
    have hH : HoldsK encP 2 w g 0 l.toArray := holdsP hb h4
    have hcon := AnyQ.slices_SortFunc_total Try.laysSortP 2 Try.isAgg41 Try.sizeOf41 encP (fun _ => rfl) (fun x v hv => by simp [encP] at hv; rcases hv with rfl | rfl <;> rfl) cfP swoP 41 #[] g 0 cap l.toArray w eg (fun _ _ _ _ x y => eq_cmpP x y _) hH hg (by simp; omega) (fun x y a b => by rw [ltOf_cfP] at a b; exact ltP_tri a b)
    have hfun : (fun x y : Pr => !(ltOf cfP) y x) = fun x y => !ltP y x := by funext x y; rw [ltOf_cfP]
    rw [hfun] at hcon
    rw [hβ]
    change Calls Try.prog 40 _ _ _ at hcon
    have hcon : Calls Try.prog 40 #[Value.slice (some ⟨g, 0, none⟩) l.length cap, Value.func (Fn.func 41) #[] #[]] w fun e w' => e = Ending.returned (Value.tuple #[]) ∧ ∃ n os, w' = sortWorldK encP 2 w g 0 n (srtP l).toArray os := by simpa [srtP] using hcon
    refine Calls.mono hcon fun e w' h => ?_
    obtain ⟨rfl, q, os, rfl⟩ := h
    have hgb := grownBy_sortedP (w := w) (g := g) (n := q) (os := os) (srtP l).toArray
    refine ⟨_, S, rfl, ⟨rfl, rfl, rfl, hgb.size, fun k hk hn => ?_, fun _ h => h, fun _ h => .inl h, fun x h => Nat.lt_of_lt_of_le (hS x h) hgb.size, hgd, hgd.mono (fun k hk => ?_) (fun _ h => h)⟩, fun k o h => ?_, [], rfl, Reps.nil _ _⟩
    · exact hgb.block k hk (fun e => hn (by injection e with e; rw [e]; exact hT))
    · refine hgb.block k (hS k hk) (fun e => ?_)
      injection e with e
      exact hSb g (by rw [hβ]; rfl) (e ▸ hk)
    · simp only [lk] at h
      split at h
      · rename_i e
        subst e
        injection h with h
        subst h
        refine ⟨_, ?_, pR_repl _ _ _, pR_two _, fun g' hg' => hSb g' hg'⟩
        rw [pR_len]
        refine ⟨by rw [flP_len], .inr ⟨g, cap, _, (0, 0), by rw [hβ, hml], hbase, heap_sortedP _ hb, .inl rfl, by rw [hml]; exact h1, h2, by simp [putCells, h3], ?_⟩⟩
        exact take_putCellsP cur (srtP l) (by rw [hml, h3]; exact Nat.mul_le_mul_right 2 h1)
      · simp at h
end Go.Proofs.Ytdmdahnnfancpaa
