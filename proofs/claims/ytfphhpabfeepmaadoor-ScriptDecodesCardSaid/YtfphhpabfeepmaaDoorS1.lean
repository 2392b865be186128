import Derived.Test.YtfphhpabfeepmaaDoorP10
import Derived.Lib.SplitLaws
set_option linter.unusedSimpArgs false
set_option linter.unusedVariables false
namespace Go.Proofs.YtfphhpabfeepmaaDoor
open Go Go.RowKit Am

/-! ### One byte replaced by another -/
def swp (a b c : UInt8) : UInt8 := if c = a then b else c
theorem replK (a b : UInt8) : ∀ s : List UInt8, Lib.replaceK [a] [b] (s.count a) s = s.map (swp a b) := by
  intro s
  induction s with
  | nil => rfl
  | cons c l ih =>
    by_cases h : c = a
    · subst h
      have hix : Lib.index (c :: l) [c] = ((0 : Nat) : Int) := by rw [Lib.index]; simp [List.isPrefixOf]
      rw [List.count_cons_self, Lib.replaceK_hit [c] [b] _ _ 0 hix]
      simp only [List.length_singleton, Nat.zero_add, List.drop_succ_cons, List.drop_zero, List.take_zero, List.nil_append, List.map_cons]
      rw [ih]
      simp [swp]
    · have hp : ([a] : List UInt8).isPrefixOf (c :: l) = false := by simp [List.isPrefixOf]; exact fun e => h e.symm
      have hix : Lib.index (c :: l) [a] = if Lib.index l [a] == -1 then -1 else Lib.index l [a] + 1 := by rw [Lib.index, hp]; simp
      rw [List.count_cons_of_ne (by simpa using h)]
      have hs : swp a b c = c := by unfold swp; rw [if_neg h]
      rw [List.map_cons, hs]
      cases hk : l.count a with
      | zero =>
        rw [hk] at ih
        rw [← ih]; rfl
      | succ k =>
        rw [hk] at ih
        have hc : 0 < Lib.count l [a] := by rw [Lib.count_one, hk]; omega
        obtain ⟨i, hi⟩ := Lib.index_of_count hc
        have hi2 : Lib.index (c :: l) [a] = ((i + 1 : Nat) : Int) := by
          rw [hix, hi, if_neg (by simp)]; omega
        rw [Lib.replaceK_hit [a] [b] k _ (i + 1) hi2]
        rw [Lib.replaceK_hit [a] [b] k _ i hi] at ih
        rw [← ih]
        simp
theorem replAll (a b : UInt8) (h : a ≠ b) (s : List UInt8) : Lib.replaceAll s [a] [b] = s.map (swp a b) := by
  unfold Lib.replaceAll Lib.replace Lib.replaceNum
  rw [if_neg (by simpa using h), if_pos (by left; decide), Lib.count_one, replK]
def lnL (l : List UInt8) : List UInt8 := l.map fun c => if c = 13 then 32 else if c = 10 then 32 else c
theorem ln_two (l : List UInt8) : (l.map (swp 13 32)).map (swp 10 32) = lnL l := by
  rw [List.map_map]
  unfold lnL
  congr 1
  funext c
  simp only [Function.comp, swp]
  split
  · rfl
  · rfl
theorem ln_len (l : List UInt8) : (lnL l).length = l.length := by simp [lnL]
theorem ln_no (l : List UInt8) : ∀ c ∈ lnL l, c ≠ 13 ∧ c ≠ 10 := by
  intro c hc
  obtain ⟨b, _, rfl⟩ := List.mem_map.1 hc
  split
  · decide
  · split
    · decide
    · rename_i h1 h2; exact ⟨h1, h2⟩
theorem line_ok (l : List UInt8) (hl : l.length ≤ 1000000) (s : ByteArray) (hs : s = BA l) (r : ByteArray) (hr : r = BA (lnL l)) : CSem Tryd.prog (.fn 33) [aS s] (.pure [aS r]) := by
  refine of_text gam_ok mixed { n := 6 } Tryd.func33 (by kernel_rfl) rfl rfl (by simp) (by decide) fun F C D hF hC hD => ?_
  obtain ⟨r1, hr1⟩ : ∃ r1, r1 = BA (l.map (swp 13 32)) := ⟨_, rfl⟩
  have h1 := hC _ _ _ (replaceAll_ok s 13 32 (by rw [hs, BA_size]; exact hl) r1 (by rw [hr1, lineB, hs, L_BA, replAll 13 32 (by decide)]))
  have h2 := hC _ _ _ (replaceAll_ok r1 10 32 (by rw [hr1, BA_size, List.length_map]; exact hl) r (by rw [hr, lineB, hr1, L_BA, replAll 10 32 (by decide), ln_two]))
  clear hr1 hr hs
  cbv
  refine ⟨_, h1, ?_⟩
  cbv
  refine ⟨_, h2, ?_⟩
  cbv
  simp
theorem encode_line (k : Int) (hk : k = 1 ∨ k = 2) (l : List UInt8) (hl : l.length ≤ 1000000) (s : ByteArray) (hs : s = BA l) (n : Int) (R : AV) (sg : UInt8) (hsg : sg = if k = 1 then 43 else 45) (r : List (List AV)) (hr : r = byR (sg :: lnL l ++ [13, 10])) :
    CSem Tryd.prog (.fn 15) (repl k s n R) (.pure [.sl r]) := by
  refine of_text gam_ok mixed { n := 44 } Tryd.func15 (by kernel_rfl) rfl rfl (by simp [repl]) (by decide) fun F C D hF hC hD => ?_
  obtain ⟨d, hd⟩ : ∃ d, d = BA (lnL l) := ⟨_, rfl⟩
  have hln := hC _ _ _ (line_ok l hl s hs d hd)
  obtain ⟨x1, hx1⟩ : ∃ x1, F .cat (BA [sg]) d = x1 := ⟨_, rfl⟩
  obtain ⟨x2, hx2⟩ : ∃ x2, F .cat x1 (BA [13, 10]) = x2 := ⟨_, rfl⟩
  have e2 : x2 = BA (sg :: lnL l ++ [13, 10]) := by rw [← hx2, ← hx1, catF hF, catF hF, hd]; rfl
  have nd : d.size ≤ 1000000 := by rw [hd, BA_size, ln_len]; exact hl
  have n1 := catN hF hx1
  rw [sz1] at n1
  have n2 := catN hF hx2
  rw [sz2] at n2
  have c1 := catS hF (a := BA [sg]) (b := d) (by rw [sz1]; omega)
  have c2 := catS hF (a := x1) (b := BA [13, 10]) (by rw [sz2]; omega)
  have hcv := hC _ _ _ (sb_ok x2 (by omega) r (by rw [e2]; exact hr))
  rcases hk with hk | hk
  · have i1 : F .cmp .eql k 1 = true := by rw [eqF hF, hk]; rfl
    rw [if_pos hk] at hsg
    subst hsg
    unfold BA at hx1 hx2 c1 c2
    clear hr hd e2 hk n1 n2 hs
    cbv
    refine bT (i1) ?_
    cbv
    refine ⟨_, hln, ?_⟩
    cbv
    rw [hx1, hx2]
    refine ⟨c1, c2, _, hcv, ?_⟩
    cbv
  · have i1 : F .cmp .eql k 1 = false := by rw [eqF hF, hk]; rfl
    have i2 : F .cmp .eql k 2 = true := by rw [eqF hF, hk]; rfl
    rw [if_neg (by rw [hk]; decide)] at hsg
    subst hsg
    unfold BA at hx1 hx2 c1 c2
    clear hr hd e2 hk n1 n2 hs
    cbv
    refine bF (i1) ?_
    cbv
    refine bT (i2) ?_
    cbv
    refine ⟨_, hln, ?_⟩
    cbv
    rw [hx1, hx2]
    refine ⟨c1, c2, _, hcv, ?_⟩
    cbv
end Go.Proofs.YtfphhpabfeepmaaDoor
