import Derived.Test.YtfphhpabfeepmaaDoorQ1
import Derived.Test.YtfphhpabfeepmaaDoorP10
set_option linter.unusedSimpArgs false
set_option linter.unusedVariables false
namespace Go.Proofs.YtfphhpabfeepmaaDoor
open Go Go.RowKit Am

/-! ### A command's bytes, read back -/
def cmdB (ags : List (List UInt8)) : List UInt8 := 42 :: dec ags.length ++ [13, 10] ++ (ags.map bulkL).flatten
theorem dec_small (n : Nat) (h : n < 100) : dec (n : Int) = if n < 10 then [UInt8.ofNat (48 + n)] else [UInt8.ofNat (48 + n / 10), UInt8.ofNat (48 + n % 10)] := by
  unfold dec Lib.itoa
  rw [if_neg (by omega), Int.toNat_natCast]
  split
  · rename_i h1; exact Lib.decDigits_one h1
  · rename_i h1; exact Lib.decDigits_two h1 h
theorem u8n (n : Nat) (h : n < 256) : (UInt8.ofNat n).toNat = n := by simp; omega
theorem dgs_dec (n : Nat) (h : n < 100) (x : List UInt8) : dgs (dec (n : Int) ++ 13 :: x) 0 0 = (n, (dec (n : Int)).length, 0) := by
  rw [dec_small n h]
  have e13 : (13 : UInt8).toNat = 13 := rfl
  split
  · rename_i h1
    simp only [List.cons_append, List.nil_append, dgs, u8n (48 + n) (by omega), e13]
    rw [if_neg (by omega), if_neg (by omega)]
    simp
  · rename_i h1
    simp only [List.cons_append, List.nil_append, dgs, u8n (48 + n / 10) (by omega), u8n (48 + n % 10) (by omega), e13]
    rw [if_neg (by omega), if_neg (by omega), if_neg (by omega), if_neg (by omega)]
    simp
    omega
theorem cnt_dec (sg : UInt8) (n lo hi : Nat) (h : n < 100) (h1 : lo ≤ n) (h2 : n ≤ hi) (x : List UInt8) : cnt (sg :: (dec (n : Int) ++ [13, 10] ++ x)) sg.toNat lo hi = .ok n ((dec (n : Int)).length + 3) := by
  simp only [cnt]
  rw [if_neg (by simp), List.append_assoc, show ([13, 10] ++ x : List UInt8) = 13 :: (10 :: x) from rfl, dgs_dec n h]
  simp only
  rw [if_neg (by omega), if_neg (by omega), List.getElem?_append_right (by omega), show (dec (n : Int)).length + 1 - (dec (n : Int)).length = 1 by omega]
  simp only [List.getElem?_cons_succ, List.getElem?_cons_zero]
  rw [if_neg (by decide), if_neg (by omega)]
theorem txt_app (t x : List UInt8) : txt (t ++ [13, 10] ++ x) t.length = .ok t (t.length + 2) := by
  unfold txt
  rw [if_neg (by simp only [List.length_append]; omega), List.append_assoc, List.getElem?_append_right (Nat.le_refl _), Nat.sub_self]
  simp only [List.cons_append, List.nil_append, List.getElem?_cons_zero]
  rw [if_neg (by decide), List.getElem?_append_right (by omega), show t.length + 1 - t.length = 1 by omega]
  simp only [List.getElem?_cons_succ, List.getElem?_cons_zero]
  rw [if_neg (by decide)]
  simp
theorem args_bulk : ∀ (ags : List (List UInt8)) (x : List UInt8), (∀ a ∈ ags, a.length ≤ 64) → argsR ags.length ((ags.map bulkL).flatten ++ x) = .ok ags (ags.map bulkL).flatten.length := by
  intro ags
  induction ags with
  | nil => intro x _; rfl
  | cons a ags ih =>
    intro x h
    have ha := h a List.mem_cons_self
    have hr := ih x (fun b hb => h b (List.mem_cons_of_mem _ hb))
    obtain ⟨R, hR⟩ : ∃ R, R = (ags.map bulkL).flatten := ⟨_, rfl⟩
    simp only [List.map_cons, List.flatten_cons, List.length_cons, argsR]
    rw [← hR] at hr ⊢
    have e1 : bulkL a ++ R ++ x = (36 : UInt8) :: (dec (a.length : Int) ++ [13, 10] ++ (a ++ [13, 10] ++ (R ++ x))) := by simp [bulkL]
    rw [e1, show (36 : Nat) = (36 : UInt8).toNat from rfl, cnt_dec 36 a.length 0 64 (by omega) (by omega) ha]
    simp only
    have e2 : ((36 : UInt8) :: (dec (a.length : Int) ++ [13, 10] ++ (a ++ [13, 10] ++ (R ++ x)))).drop ((dec (a.length : Int)).length + 3) = a ++ [13, 10] ++ (R ++ x) := by
      rw [show (dec (a.length : Int)).length + 3 = ((dec (a.length : Int) ++ [13, 10]).length) + 1 by simp, List.drop_succ_cons, List.drop_left]
    rw [e2, txt_app]
    simp only
    rw [← List.drop_drop, e2, show a.length + 2 = (a ++ [13, 10]).length by simp, List.drop_left, hr]
    simp only [List.length_append]
    congr 1
    have : (bulkL a).length = (dec (a.length : Int)).length + 3 + (a.length + 2) := by simp [bulkL]; omega
    simp only [List.length_append, List.length_cons, List.length_nil] at this ⊢
    omega
theorem one_cmd (ags : List (List UInt8)) (x : List UInt8) (h1 : 1 ≤ ags.length) (h8 : ags.length ≤ 8) (h : ∀ a ∈ ags, a.length ≤ 64) : one (cmdB ags ++ x) = .ok ags (cmdB ags).length := by
  unfold one
  have e1 : cmdB ags ++ x = (42 : UInt8) :: (dec (ags.length : Int) ++ [13, 10] ++ ((ags.map bulkL).flatten ++ x)) := by simp [cmdB]
  rw [e1, show (42 : Nat) = (42 : UInt8).toNat from rfl, cnt_dec 42 ags.length 1 8 (by omega) h1 h8]
  simp only
  have e2 : ((42 : UInt8) :: (dec (ags.length : Int) ++ [13, 10] ++ ((ags.map bulkL).flatten ++ x))).drop ((dec (ags.length : Int)).length + 3) = (ags.map bulkL).flatten ++ x := by
    rw [show (dec (ags.length : Int)).length + 3 = ((dec (ags.length : Int) ++ [13, 10]).length) + 1 by simp, List.drop_succ_cons, List.drop_left]
  rw [e2, args_bulk ags x h]
  simp only
  congr 1
  simp [cmdB]
  omega
/-- Short of the end there is no command yet. -/
theorem one_short (ags : List (List UInt8)) (h1 : 1 ≤ ags.length) (h8 : ags.length ≤ 8) (h : ∀ a ∈ ags, a.length ≤ 64) (k : Nat) (hk : k < (cmdB ags).length) : one ((cmdB ags).take k) = .more := by
  have hs := one_stay ((cmdB ags).drop k) ((cmdB ags).take k)
  rw [List.take_append_drop] at hs
  have ho := one_cmd ags [] h1 h8 h
  rw [List.append_nil] at ho
  rcases hs with hs | hs
  · exact hs
  · exfalso
    rw [ho] at hs
    have := one_le hs.symm
    rw [List.length_take] at this
    omega
theorem P_cmds : ∀ (cs : List (List (List UInt8))), (∀ c ∈ cs, 1 ≤ c.length ∧ c.length ≤ 8 ∧ ∀ a ∈ c, a.length ≤ 64) → P (cs.map cmdB).flatten = (cs, [], 0) := by
  intro cs
  induction cs with
  | nil => intro _; rfl
  | cons c cs ih =>
    intro h
    obtain ⟨h1, h2, h3⟩ := h c List.mem_cons_self
    have hr := ih (fun b hb => h b (List.mem_cons_of_mem _ hb))
    simp only [List.map_cons, List.flatten_cons]
    rw [P_step (one_cmd c _ h1 h2 h3), List.drop_left, hr]
end Go.Proofs.YtfphhpabfeepmaaDoor
