import Derived.Test.YtdmdahnnfancpaaG3
import Derived.Test.YtdmdahnnfancpaaSh2
import Derived.Shelf.SlIter.Sorted
import Derived.Shelf.SortM.Plain
import Derived.Shelf.SortM.SortNone
set_option linter.unusedSimpArgs false
set_option linter.unusedVariables false
namespace Go.Proofs.Ytdmdahnnfancpaa
open Go Go.RowKit Am Go.Maps Go.Sort Go.Shelf

/-! ### slices.Sorted(maps.Keys(m)) -/
theorem sorts51 (m : Nat) : AnyZ.SortsIn Try.prog Try.sorted51_ren Fence.wide m :=
  ⟨fun blk off cap ss W hH hblk hsz => callsIn_wide.2 (AnyM.slices_Sort_string Try.sort69 blk off cap ss W hH hblk hsz),
   fun p cap W => callsIn_wide.2 (AnyM.slices_Sort_string_none Try.sort69 p cap W)⟩
theorem keys_calls52 (mb : Option Nat) (W : World) : Calls Try.prog 52 #[.map mb] W fun e w' => e = .returned (.func (.func 70) #[] #[.pointer (some ⟨W.heap.size, 0, none⟩)]) ∧ w' = W.alloc (.cells #[.map mb] 75) :=
  callsIn_wide.1 (AnyZ.keys_in Try.keys52 Fence.wide 5 trivial rfl mb W)
theorem keys_calls54 (mb : Option Nat) (W : World) : Calls Try.prog 54 #[.map mb] W fun e w' => e = .returned (.func (.func 71) #[] #[.pointer (some ⟨W.heap.size, 0, none⟩)]) ∧ w' = W.alloc (.cells #[.map mb] 83) :=
  callsIn_wide.1 (AnyZ.keys_in Try.keys54 Fence.wide 5 trivial rfl mb W)
/-- What slices.Sorted leaves. -/
def SortedIn (ls : List (List UInt8)) (W : World) (e : Ending) (w' : World) : Prop :=
  ∃ (v : Value) (ss : List (List UInt8)), e = .returned v ∧ ss.Perm ls ∧ w'.ownsRow W.heap.size 9 1 v ss.length ((ss.mergeSort (fun x y => decide (x ≤ y))).map encStr) ∧ Below W.heap.size W w'
set_option maxHeartbeats 1000000 in
theorem sorted_calls52 {H : Type} (b nn : Nat) (D0 : DataW H) (R : Value → Option (DataW H × List MemPlace)) (w : World) (hown : w.ownsMap Try.prog 9 R b nn D0) (hmax : Maps.size D0 ≤ maxLen) (hbytes : Maps.size D0 * 16 ≤ 140737488355328) :
    Calls Try.prog 51 #[.func (.func 70) #[] #[.pointer (some ⟨w.heap.size, 0, none⟩)]] (w.alloc (.cells #[.map (some b)] 75)) (SortedIn (strKeys D0) (w.alloc (.cells #[.map (some b)] 75))) := by
  have hbl := hown.lt
  have hseq : SeqGives Fence.wide 2 Try.prog 70 #[.pointer (some ⟨w.heap.size, 0, none⟩)] encStr (fun ss => ss.Perm (strKeys D0)) (Maps.size D0) (w.alloc (.cells #[.map (some b)] 75)) :=
    AnyZ.keys_gives (ρ := Try.keys52_ren) { Try.keys52 with } Fence.wide _ trivial rfl (by omega) w.heap.size b nn D0 _ (by simp) (by simp) (by
      obtain ⟨es, clock, hb, Ft, hs, hD⟩ := hown
      exact ⟨es, clock, (Below.heap_alloc _ _ b hbl).trans hb, Ft, hs, hD⟩)
  refine (callsIn_wide.1 (AnyZ.sorted_in Try.sorted51 Fence.wide 5 trivial trivial trivial trivial rfl (by omega) (sorts51 _) (enters_of Try.func69 (by kernel_rfl) rfl) 70 #[.pointer (some ⟨w.heap.size, 0, none⟩)] trivial (enters_of Try.func70 (by kernel_rfl) rfl) _ _ hmax hbytes _ hseq)).mono ?_
  rintro e w' ⟨v, ss, h1, h2, h3, _, h4⟩
  exact ⟨v, ss, h1, h2, h3, h4⟩
set_option maxHeartbeats 1000000 in
theorem sorted_calls54 {H : Type} (b nn : Nat) (D0 : DataW H) (R : Value → Option (DataW H × List MemPlace)) (w : World) (hown : w.ownsMap Try.prog 9 R b nn D0) (hmax : Maps.size D0 ≤ maxLen) (hbytes : Maps.size D0 * 16 ≤ 140737488355328) :
    Calls Try.prog 51 #[.func (.func 71) #[] #[.pointer (some ⟨w.heap.size, 0, none⟩)]] (w.alloc (.cells #[.map (some b)] 83)) (SortedIn (strKeys D0) (w.alloc (.cells #[.map (some b)] 83))) := by
  have hbl := hown.lt
  have hseq : SeqGives Fence.wide 2 Try.prog 71 #[.pointer (some ⟨w.heap.size, 0, none⟩)] encStr (fun ss => ss.Perm (strKeys D0)) (Maps.size D0) (w.alloc (.cells #[.map (some b)] 83)) :=
    AnyZ.keys_gives (ρ := Try.keys54_ren) { Try.keys54 with } Fence.wide _ trivial rfl (by omega) w.heap.size b nn D0 _ (by simp) (by simp) (by
      obtain ⟨es, clock, hb, Ft, hs, hD⟩ := hown
      exact ⟨es, clock, (Below.heap_alloc _ _ b hbl).trans hb, Ft, hs, hD⟩)
  refine (callsIn_wide.1 (AnyZ.sorted_in Try.sorted51 Fence.wide 5 trivial trivial trivial trivial rfl (by omega) (sorts51 _) (enters_of Try.func69 (by kernel_rfl) rfl) 71 #[.pointer (some ⟨w.heap.size, 0, none⟩)] trivial (enters_of Try.func71 (by kernel_rfl) rfl) _ _ hmax hbytes _ hseq)).mono ?_
  rintro e w' ⟨v, ss, h1, h2, h3, _, h4⟩
  exact ⟨v, ss, h1, h2, h3, h4⟩
/-- Whatever a value is, it reads as nothing. -/
def anyR : Value → Option (DataW Unit × List MemPlace) := fun _ => some (.agg [], [])
theorem map_owned {w : World} {b : Nat} {es : Array MapEntry} {clock : Nat} {ks : List ByteArray} (hb : w.heap[b]? = some (.map es clock)) (hk : es.toList.map (·.key) = ks.map Value.string) (hn : (es.toList.map (·.born)).Nodup) (hbd : ∀ x ∈ es.toList, x.born < clock) (hnd : ks.Nodup) (hl : ks.length ≤ 1000000) (hz : ∀ k ∈ ks, k.size ≤ maxLen) :
    ∃ D : DataW Unit, w.ownsMap Try.prog 9 anyR b es.size D ∧ (strKeys D).Perm (ks.map L) ∧ Maps.size D = ks.length := by
  have hel : es.toList.length = ks.length := by rw [← List.length_map (f := fun x : MapEntry => x.key), hk, List.length_map]
  have h9 : Try.prog.underlying 9 = some .string := (gam_ok 9 _ rfl).kind
  have hrd : ∀ (i : Nat) (x : MapEntry) (k : ByteArray), es.toList[i]? = some x → ks[i]? = some k → WideElems.rd Try.prog 9 anyR x = some (.string (L k), .agg []) := fun i x k hx hk' => by
    have h1 : x.key = .string k := by
      have := congrArg (fun l => l[i]?) hk
      simp only [List.getElem?_map, hx, hk', Option.map_some] at this
      exact Option.some.inj this
    unfold WideElems.rd
    rw [h1, WideMaps.keyOf_string_mk h9 (hz k (List.mem_of_getElem? hk'))]
    rfl
  have hmap : es.toList.map (WideElems.rg Try.prog 9 anyR) = ks.map fun k => (Lit.string (L k), (DataW.agg [] : DataW Unit)) := by
    apply List.ext_getElem?
    intro i
    rw [List.getElem?_map, List.getElem?_map]
    cases hx : es.toList[i]? with
    | none =>
      have : ks[i]? = none := List.getElem?_eq_none (by have := List.getElem?_eq_none_iff.1 hx; omega)
      rw [this]; rfl
    | some x =>
      have hi : i < ks.length := by rw [← hel]; exact (List.getElem?_eq_some_iff.1 hx).1
      rw [List.getElem?_eq_getElem hi]
      have := hrd i x ks[i] hx (List.getElem?_eq_getElem hi)
      show some (WideElems.rg Try.prog 9 anyR x) = some _
      unfold WideElems.rg
      rw [this]; rfl
  have hF : WideElems.Fit Try.prog 9 anyR es clock := by
    refine ⟨?_, ⟨hbd, hn, ?_⟩, fun x hx => ?_⟩
    · have : es.size = es.toList.length := by simp
      unfold maxLen; omega
    · rw [hk]
      unfold List.Nodup at hnd ⊢
      rw [List.pairwise_map]
      exact hnd.imp fun h e => h (by injection e)
    · obtain ⟨i, hi, rfl⟩ := List.getElem_of_mem hx
      exact ⟨_, hrd i _ ks[i] (List.getElem?_eq_getElem hi) (List.getElem?_eq_getElem (by omega))⟩
  refine ⟨_, ⟨es, clock, hb, hF, Nat.le_refl _, rfl⟩, ?_, ?_⟩
  · rw [hmap]
    show (List.map _ _).Perm _
    refine ((WideShapes.sorted_perm _).map _).trans ?_
    rw [List.map_map]
    exact List.Perm.of_eq (List.map_congr_left fun k _ => rfl)
  · rw [hmap]
    show List.length (List.foldr _ _ _) = _
    rw [(WideShapes.sorted_perm _).length_eq, List.length_map]
end Go.Proofs.Ytdmdahnnfancpaa
