import Derived.Test.YthepmpfkkhckpaaGreatDoorK3
import Derived.Laws.Cover3
set_option linter.unusedSimpArgs false
set_option linter.unusedVariables false
namespace Go.Proofs.YthepmpfkkhckpaaGreatDoor
open Go Go.RowKit Am

def lineB (s : ByteArray) : ByteArray := BA ((L s).map swapB)
def u8V (c : UInt8) : Value := .int .u8 (c.toNat : Int)
/-- The buffer's cells when k bytes have been looked at. -/
def bufL (s : ByteArray) (k : Nat) : List Value := ((L s).take k).map (fun c => u8V (swapB c)) ++ ((L s).drop k).map u8V
theorem bufL_len (s : ByteArray) (k : Nat) : (bufL s k).length = s.size := by
  rw [L_size]; simp [bufL]; omega
theorem bufL_0 (s : ByteArray) : bufL s 0 = (L s).map u8V := by simp [bufL]
theorem bufL_n (s : ByteArray) : bufL s s.size = (L s).map fun c => u8V (swapB c) := by
  unfold bufL
  rw [L_size, List.take_length, List.drop_length, List.map_nil, List.append_nil]
theorem drop_at {α : Type} {l : List α} {k : Nat} {c : α} (h : l[k]? = some c) : l.drop k = c :: l.drop (k + 1) := by
  obtain ⟨h1, h2⟩ := List.getElem?_eq_some_iff.1 h
  rw [← h2]; exact (List.getElem_cons_drop h1).symm
theorem take_at {α : Type} {l : List α} {k : Nat} {c : α} (h : l[k]? = some c) : l.take (k + 1) = l.take k ++ [c] := by
  obtain ⟨h1, h2⟩ := List.getElem?_eq_some_iff.1 h
  rw [List.take_add_one, h]; rfl
theorem bufL_split {s : ByteArray} {k : Nat} {c : UInt8} (h : (L s)[k]? = some c) : bufL s k = ((L s).take k).map (fun c => u8V (swapB c)) ++ u8V c :: ((L s).drop (k + 1)).map u8V := by
  unfold bufL; rw [drop_at h]; rfl
theorem bufL_next {s : ByteArray} {k : Nat} {c : UInt8} (h : (L s)[k]? = some c) : bufL s (k + 1) = ((L s).take k).map (fun c => u8V (swapB c)) ++ u8V (swapB c) :: ((L s).drop (k + 1)).map u8V := by
  unfold bufL; rw [take_at h]; simp
theorem bufL_same {s : ByteArray} {k : Nat} {c : UInt8} (h : (L s)[k]? = some c) (hc : swapB c = c) : bufL s (k + 1) = bufL s k := by
  rw [bufL_next h, bufL_split h, hc]
theorem bufL_at {s : ByteArray} {k : Nat} {c : UInt8} (h : (L s)[k]? = some c) : (bufL s k)[k]? = some (u8V c) := by
  have hk : k < (L s).length := (List.getElem?_eq_some_iff.1 h).1
  have e : (((L s).take k).map (fun c => u8V (swapB c))).length = k := by rw [List.length_map, List.length_take]; omega
  rw [bufL_split h, List.getElem?_append_right (by rw [e]; exact Nat.le_refl _), e, Nat.sub_self]; rfl
theorem bufL_set {s : ByteArray} {k : Nat} {c : UInt8} (h : (L s)[k]? = some c) : (bufL s k).set k (u8V (swapB c)) = bufL s (k + 1) := by
  have hk : k < (L s).length := (List.getElem?_eq_some_iff.1 h).1
  have e : (((L s).take k).map (fun c => u8V (swapB c))).length = k := by rw [List.length_map, List.length_take]; omega
  rw [bufL_split h, bufL_next h, List.set_append, e, if_neg (by omega), Nat.sub_self]; rfl
def bufC (s : ByteArray) (k : Nat) (tl : List Value) : Array Value := (bufL s k ++ tl).toArray
theorem bufC_set {s : ByteArray} {k : Nat} {c : UInt8} (h : (L s)[k]? = some c) (tl : List Value) : (bufC s k tl).setIfInBounds k (u8V (swapB c)) = bufC s (k + 1) tl := by
  have hk : k < (bufL s k).length := by rw [bufL_len, L_size]; exact (List.getElem?_eq_some_iff.1 h).1
  unfold bufC
  rw [List.setIfInBounds_toArray, List.set_append, if_pos hk, bufL_set h]
theorem bufC_at {s : ByteArray} {k : Nat} {c : UInt8} (h : (L s)[k]? = some c) (tl : List Value) : (bufC s k tl)[k]? = some (u8V c) := by
  have hk : k < (bufL s k).length := by rw [bufL_len, L_size]; exact (List.getElem?_eq_some_iff.1 h).1
  unfold bufC
  rw [List.getElem?_toArray, List.getElem?_append_left hk, bufL_at h]
theorem setC_heap {w : World} {g : Nat} {A : Array Value} {t : TypeId} {fz : Nat × Nat} (h : w.heap[g]? = some (.cells A t fz)) (k : Nat) (v : Value) : (w.setCell ⟨g, k, none⟩ v).heap[g]? = some (.cells (A.setIfInBounds k v) t fz) := by
  rw [setCell_eq_setRow w g k A t fz v h]
  exact setRow_heap w g A _ t _ h
theorem eqlNil (a : Option Addr) (l c : Nat) (w : World) : (binOp .eql 37 (.slice a l c) (.slice none 0 0)).run Tryz.prog w = .ok (.bool a.isNone) w := by
  simp only [binOp]
  simp [run_equal_slice_nil (P := Tryz.prog) w 37 5 a l c (by kernel_rfl)]
theorem conv_back (s : ByteArray) (w : World) (g cap : Nat) (tl : List Value) (fz : Nat × Nat) (h : w.heap[g]? = some (.cells (bufC s s.size tl) 5 fz)) : (convert 37 9 (.slice (some ⟨g, 0, none⟩) s.size cap)).run Tryz.prog w = .ok (.string (lineB s)) w := by
  rw [run_convert_bytes_string (P := Tryz.prog) w 37 9 5 (some ⟨g, 0, none⟩) s.size cap (by kernel_rfl) (by kernel_rfl) (by kernel_rfl)]
  have e1 : (((L s).map swapB).map fun b : UInt8 => (b.toNat : Int)).map (Value.int .u8) = bufL s s.size := by rw [bufL_n]; simp [u8V]
  have hl := run_loadCells_ok (P := Tryz.prog) (w := w) (b := ⟨g, 0, none⟩) (xs := bufL s s.size) (fun j x hj => by
    rw [add_mk, cell_of_row _ _ j _ 5 fz h]
    have hjl : j < (bufL s s.size).length := (List.getElem?_eq_some_iff.1 hj).1
    unfold bufC
    rw [List.getElem?_toArray, List.getElem?_append_left hjl, hj])
  rw [bufL_len, ← e1] at hl
  rw [run_bytesToString (P := Tryz.prog) w ⟨g, 0, none⟩ s.size cap _ hl, push_all]
  rfl
theorem swap_ne {c : UInt8} (h : ¬ swapB c = c) : (((swapB c).toNat : Int) != (c.toNat : Int)) = true := by
  rw [bne_iff_ne]
  exact fun e => h (UInt8.toNat_inj.1 (by omega))
theorem not_frz {w : World} {g k : Nat} {A : Array Value} {t : TypeId} {fz : Nat × Nat} (h : w.heap[g]? = some (.cells A t fz)) (hk : k < fz.1) : w.frozen? ⟨g, k, none⟩ = false := by
  unfold World.frozen?
  simp only [h]
  obtain ⟨lo, hi⟩ := fz
  simp at hk ⊢
  omega
theorem bytes_buf (s : ByteArray) (w : World) : ∃ tl, (Lib.bytesWorld w 5 s).heap[w.heap.size]? = some (.cells (bufC s 0 tl) 5 ((bufC s 0 tl).size, (bufC s 0 tl).size + 1)) := by
  refine ⟨List.replicate (grownCap w s.size 0 5 - s.size) (.int .u8 0), ?_⟩
  have e : Lib.bytesCells w 5 s = bufC s 0 (List.replicate (grownCap w s.size 0 5 - s.size) (.int .u8 0)) := by
    unfold Lib.bytesCells bufC
    rw [bufL_0]
    apply Array.toList_inj.1
    simp [u8V]
  rw [← e]
  exact Lib.bytesWorld_at_new w 5 s
theorem bufL_keep {s : ByteArray} {k : Nat} (h : ((L s).take k).map swapB = (L s).take k) {tl : List Value} : bufC s k tl = bufC s 0 tl := by
  have : bufL s k = bufL s 0 := by
    rw [bufL_0]
    unfold bufL
    have e : ((L s).take k).map (fun c => u8V (swapB c)) = (((L s).take k).map swapB).map u8V := by rw [List.map_map]; rfl
    rw [e, h, ← List.map_append, List.take_append_drop]
  unfold bufC
  rw [this]
theorem bytes_below (s : ByteArray) (w : World) : Below w.heap.size w (Lib.bytesWorld w 5 s) := ⟨rfl, rfl, rfl, by rw [Lib.bytesWorld_size]; omega, fun k hk => Lib.bytesWorld_at_old w 5 s k hk⟩
set_option maxRecDepth 100000 in
set_option maxHeartbeats 3200000 in
theorem byteRepl_ok (g : Nat) (s : ByteArray) (w : World) (hs : s.size ≤ 100000) (hg : g < w.heap.size) (hT : ∀ c : UInt8, w.cell? ⟨g, c.toNat, none⟩ = some (.int .u8 ((swapB c).toNat : Int))) :
    Calls Tryz.prog 98 #[.pointer (some ⟨g, 0, none⟩), .string s] w fun e w' => e = .returned (.string (lineB s)) ∧ Below w.heap.size w w' := by
  have hnl := eqlNil
  go_enter Tryz.func98, Tryz.ntmps98
  go_wp2
  go_loopw [5, 6] (fun v i wr => ∃ k : Nat, k ≤ s.size ∧ i = .int .i64 (k : Int) ∧ ((v = .slice none 0 0 ∧ wr = w ∧ Hid (((L s).take k).map swapB = (L s).take k)) ∨ (∃ (cap : Nat) (tl : List Value) (fz : Nat × Nat), v = .slice (some ⟨w.heap.size, 0, none⟩) s.size cap ∧ Hid (s.size ≤ fz.1) ∧ Hid (Below w.heap.size w wr) ∧ Hid (wr.heap[w.heap.size]? = some (.cells (bufC s k tl) 5 fz))))) (fun _ i _ => s.size - (intOf i).toNat)
  case atStart => exact ⟨0, by omega, rfl, .inl ⟨rfl, rfl, rfl⟩⟩
  case round =>
    obtain ⟨k, hk, rfl, hv⟩ := hrel
    by_cases hk2 : k < s.size
    · obtain ⟨c, hc⟩ : ∃ c : UInt8, s[k] = c := ⟨_, rfl⟩
      have hLc : (L s)[k]? = some c := by
        rw [List.getElem?_eq_getElem (by rw [← L_size]; exact hk2)]
        exact congrArg some hc
      have HL : Hid ((L s)[k]? = some c) := hLc
      clear hLc
      have hc2 : c.toNat < 256 := c.toNat_lt
      rcases hv with ⟨rfl, rfl, hid⟩ | ⟨cap, tl, fz, rfl, hfz, hb, hat⟩
      · have hcw : wr.cell? ⟨g, c.toNat, none⟩ = some (.int .u8 ((swapB c).toNat : Int)) := hT c
        by_cases hsw : swapB c = c
        · have hq : ((L s).take (k + 1)).map swapB = (L s).take (k + 1) := by
            rw [take_at HL, List.map_append, hid]; simp [hsw]
          have HQ : Hid (((L s).take (k + 1)).map swapB = (L s).take (k + 1)) := hq
          clear hq
          go_wp2
          exact ⟨⟨k + 1, by omega, by simp, .inl ⟨by first | trivial | rfl, by first | trivial | rfl, HQ⟩⟩, by simp [intOf]; omega⟩
        · have hbne := swap_ne hsw
          have hcv := Lib.run_convert_string_bytes (P := Tryz.prog) wr 9 37 5 s (u := .string) (by kernel_rfl) (by kernel_rfl) (by kernel_rfl)
          obtain ⟨tl, hat⟩ := bytes_buf s wr
          rw [← bufL_keep hid] at hat
          have hbl := bytes_below s wr
          have hcw1 := (Lib.bytesWorld_old wr 5 s ⟨g, c.toNat, none⟩ hg).trans hcw
          obtain ⟨W1, hW1⟩ : ∃ W1, Lib.bytesWorld wr 5 s = W1 := ⟨_, rfl⟩
          rw [hW1] at hcv hat hbl hcw1
          clear hW1
          have hck : W1.cell? ⟨wr.heap.size, k, none⟩ = some (u8V c) := by rw [cell_of_row _ _ k _ 5 _ hat]; exact bufC_at HL tl
          have hzk : W1.frozen? ⟨wr.heap.size, k, none⟩ = false := not_frz hat (by simp [bufC, bufL_len]; omega)
          have hat2 : Hid ((W1.setCell ⟨wr.heap.size, k, none⟩ (.int .u8 ((swapB c).toNat : Int))).heap[wr.heap.size]? = some (.cells (bufC s (k + 1) tl) 5 ((bufC s k tl).size, (bufC s k tl).size + 1))) := by
            have := setC_heap hat k (u8V (swapB c))
            rw [bufC_set HL] at this
            exact this
          have hbl2 : Hid (Below wr.heap.size wr (W1.setCell ⟨wr.heap.size, k, none⟩ (.int .u8 ((swapB c).toNat : Int)))) := hbl.setCell (Nat.le_refl _) _
          have hfz : Hid (s.size ≤ (bufC s k tl).size) := by simp [Hid, bufC, bufL_len]
          clear hat hbl
          go_wp2
          exact ⟨⟨k + 1, by omega, by simp, .inr ⟨_, tl, _, rfl, hfz, hbl2, hat2⟩⟩, by simp [intOf]; omega⟩
      · have hcw : wr.cell? ⟨g, c.toNat, none⟩ = some (.int .u8 ((swapB c).toNat : Int)) := (Below.cell hb (p := ⟨g, c.toNat, none⟩) hg).trans (hT c)
        by_cases hsw : swapB c = c
        · have hat2 : Hid (wr.heap[w.heap.size]? = some (.cells (bufC s (k + 1) tl) 5 fz)) := by unfold bufC; rw [bufL_same HL hsw]; exact hat
          go_wp2
          exact ⟨⟨k + 1, by omega, by simp, .inr ⟨cap, tl, fz, rfl, hfz, hb, hat2⟩⟩, by simp [intOf]; omega⟩
        · have hbne := swap_ne hsw
          have hck : wr.cell? ⟨w.heap.size, k, none⟩ = some (u8V c) := by rw [cell_of_row _ _ k _ 5 _ hat]; exact bufC_at HL tl
          have hzk : wr.frozen? ⟨w.heap.size, k, none⟩ = false := not_frz hat (by have : s.size ≤ fz.1 := hfz; omega)
          have hat2 : Hid ((wr.setCell ⟨w.heap.size, k, none⟩ (.int .u8 ((swapB c).toNat : Int))).heap[w.heap.size]? = some (.cells (bufC s (k + 1) tl) 5 fz)) := by
            have := setC_heap hat k (u8V (swapB c))
            rw [bufC_set HL] at this
            exact this
          have hbl2 : Hid (Below w.heap.size w (wr.setCell ⟨w.heap.size, k, none⟩ (.int .u8 ((swapB c).toNat : Int)))) := Below.setCell hb (Nat.le_refl _) _
          go_wp2
          exact ⟨⟨k + 1, by omega, by simp, .inr ⟨cap, tl, fz, rfl, hfz, hbl2, hat2⟩⟩, by simp [intOf]; omega⟩
    · obtain rfl : k = s.size := by omega
      rcases hv with ⟨rfl, rfl, hid⟩ | ⟨cap, tl, fz, rfl, hfz, hb, hat⟩
      · have hsl : Hid (s = lineB s) := by
          show s = lineB s
          have h1 : ((L s).take s.size).map swapB = (L s).take s.size := hid
          rw [L_size, List.take_length] at h1
          unfold lineB
          rw [h1, BA_L]
        go_wp2
        go_ret
        exact ⟨congrArg (fun x => Ending.returned (Value.string x)) (show s = lineB s from hsl), Below.refl _ _⟩
      · have hcb := conv_back s wr w.heap.size cap tl fz hat
        go_wp2
        go_ret
        exact ⟨rfl, hb⟩
end Go.Proofs.YthepmpfkkhckpaaGreatDoor
