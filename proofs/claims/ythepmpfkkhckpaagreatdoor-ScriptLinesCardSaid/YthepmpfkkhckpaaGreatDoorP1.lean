import Derived.Test.YthepmpfkkhckpaaGreatDoorTy
import Derived.Test.YthepmpfkkhckpaaGreatDoorSh
import Derived.Lib.ConvBytes
import Derived.Laws.BytesString
import Derived.IntWalk
import Derived.Lib.ItoaLen
import Derived.Lib.AppendIntMem
import Derived.Lib.SplitLaws
import Derived.ProofKit
set_option linter.unusedSimpArgs false
set_option linter.unusedVariables false
namespace Go.Proofs.YthepmpfkkhckpaaGreatDoor
open Go Go.RowKit Am

abbrev aI (n : Int) : AV := .v (.int .i64 n)
abbrev aS (s : ByteArray) : AV := .v (.string s)
abbrev aB (b : Bool) : AV := .v (.bool b)
abbrev aU (n : Int) : AV := .v (.int .u8 n)
theorem wrap_in {n : Int} (h0 : -9223372036854775808 ≤ n) (h1 : n ≤ 9223372036854775807) : IntKind.i64.wrap n = n := IntWalk.i64_in n ⟨h0, h1⟩
theorem br {c : Bool} {p q : Prop} (h1 : c = true → p) (h2 : c = false → q) : (c = true → p) ∧ (c = false → q) := ⟨h1, h2⟩
theorem brf {c : Bool} {p q : Prop} (h1 : c = false → p) (h2 : c = true → q) : (c = false → p) ∧ (c = true → q) := ⟨h1, h2⟩
theorem bT {c : Bool} {p q : Prop} (h : c = true) (k : p) : (c = true → p) ∧ (c = false → q) := ⟨fun _ => k, fun e => by rw [h] at e; cases e⟩
theorem bF {c : Bool} {p q : Prop} (h : c = false) (k : q) : (c = true → p) ∧ (c = false → q) := ⟨fun e => (by rw [h] at e; cases e), fun _ => k⟩
theorem cT {c : Bool} {p q : Prop} (h : c = true) (k : q) : (c = false → p) ∧ (c = true → q) := ⟨fun e => (by rw [h] at e; cases e), fun _ => k⟩
theorem cF {c : Bool} {p q : Prop} (h : c = false) (k : p) : (c = false → p) ∧ (c = true → q) := ⟨fun _ => k, fun e => by rw [h] at e; cases e⟩
theorem nfB {c : Bool} {p : Prop} (h : c = true ↔ p) (h2 : c = false) : ¬ p := fun hp => by have := h.2 hp; rw [h2] at this; simp at this
theorem lenF {F : Sy} (hF : F = sy) (rows : List (List AV)) : F .len rows = (rows.length : Int) := by rw [hF]; rfl
theorem slenF {F : Sy} (hF : F = sy) (s : ByteArray) : F .slen s = (s.size : Int) := by rw [hF]; rfl
theorem incF {F : Sy} (hF : F = sy) {i : Nat} {i' : Int} (hi : i' = (i : Int)) (h : i ≤ 4000000000) : F .ar .add .i64 i' 1 = ((i + 1 : Nat) : Int) := by rw [hF, hi]; exact (wrap_in (by omega) (by omega)).trans (by omega)
theorem addF {F : Sy} (hF : F = sy) {i j : Nat} {i' j' : Int} (hi : i' = (i : Int)) (hj : j' = (j : Int)) (h : i + j ≤ 4000000000) : F .ar .add .i64 i' j' = ((i + j : Nat) : Int) := by rw [hF, hi, hj]; exact (wrap_in (by omega) (by omega)).trans (by omega)
theorem ltF {F : Sy} (hF : F = sy) (i j : Nat) (i' j' : Int) (hi : i' = (i : Int)) (hj : j' = (j : Int)) : F .cmp .lss i' j' = true ↔ i < j := by rw [hF, hi, hj]; simp [sy]
theorem bnotF {F : Sy} (hF : F = sy) (b : Bool) : F .bnot b = !b := by rw [hF]; rfl
theorem eqF {F : Sy} (hF : F = sy) (i j : Int) : F .cmp .eql i j = decide (i = j) := by rw [hF]; simp [sy, Bool.beq_eq_decide_eq]
theorem neF {F : Sy} (hF : F = sy) (i j : Int) : F .cmp .neq i j = decide (i ≠ j) := by rw [hF]; simp [sy, bne, Bool.beq_eq_decide_eq]
theorem lsF {F : Sy} (hF : F = sy) (i j : Int) : F .cmp .lss i j = decide (i < j) := by rw [hF]; rfl
theorem gtF {F : Sy} (hF : F = sy) (i j : Int) : F .cmp .gtr i j = decide (i > j) := by rw [hF]; rfl
theorem geF {F : Sy} (hF : F = sy) (i j : Int) : F .cmp .geq i j = decide (i ≥ j) := by rw [hF]; rfl
theorem leF {F : Sy} (hF : F = sy) (i j : Int) : F .cmp .leq i j = decide (i ≤ j) := by rw [hF]; rfl

/-! ### Bytes -/
abbrev L (s : ByteArray) : List UInt8 := s.data.toList
def BA (l : List UInt8) : ByteArray := ⟨l.toArray⟩
theorem L_BA (l : List UInt8) : L (BA l) = l := rfl
theorem BA_L (s : ByteArray) : BA (L s) = s := by cases s; rfl
theorem L_inj {a b : ByteArray} (h : L a = L b) : a = b := by rw [← BA_L a, ← BA_L b, h]
theorem L_size (s : ByteArray) : s.size = (L s).length := by cases s; rfl
theorem L_cat (a b : ByteArray) : L (a ++ b) = L a ++ L b := by simp [L]
theorem L_extract (s : ByteArray) (l h : Nat) : L (s.extract l h) = ((L s).drop l).take (h - l) := by
  simp [L, List.extract_eq_take_drop]
def byR (l : List UInt8) : List (List AV) := l.map fun b => [aU b.toNat]
theorem byR_len (l : List UInt8) : (byR l).length = l.length := by simp [byR]
theorem byR_get {l : List UInt8} {i : Nat} {b : UInt8} (h : l[i]? = some b) : (byR l)[i]? = some [aU b.toNat] := by simp [byR, h]
theorem byR_one (l : List UInt8) : ∀ r ∈ byR l, r.length = 1 := fun r h => by
  obtain ⟨b, _, rfl⟩ := List.mem_map.1 h; rfl
theorem sbF {F : Sy} (hF : F = sy) (s : ByteArray) : F .sb s = byR (L s) := by rw [hF]; rfl
def sR (l : List (List UInt8)) : List (List AV) := l.map fun s => [aS (BA s)]
theorem sR_len (l : List (List UInt8)) : (sR l).length = l.length := by simp [sR]
theorem sR_get {l : List (List UInt8)} {i : Nat} {b : List UInt8} (h : l[i]? = some b) : (sR l)[i]? = some [aS (BA b)] := by simp [sR, h]
theorem sR_one (l : List (List UInt8)) : ∀ r ∈ sR l, r.length = 1 := fun r h => by
  obtain ⟨b, _, rfl⟩ := List.mem_map.1 h; rfl
def cR (l : List (List (List UInt8))) : List (List AV) := l.map fun s => [.sl (sR s)]
theorem cR_len (l : List (List (List UInt8))) : (cR l).length = l.length := by simp [cR]
theorem cR_get {l : List (List (List UInt8))} {i : Nat} {b : List (List UInt8)} (h : l[i]? = some b) : (cR l)[i]? = some [.sl (sR b)] := by simp [cR, h]
theorem cR_one (l : List (List (List UInt8))) : ∀ r ∈ cR l, r.length = 1 := fun r h => by
  obtain ⟨b, _, rfl⟩ := List.mem_map.1 h; rfl
theorem btF {F : Sy} (hF : F = sy) {s : ByteArray} {i : Nat} {b : UInt8} (h : (L s)[i]? = some b) : F .bt s (i : Int) = (b.toNat : Int) := by
  rw [hF]
  obtain ⟨h1, h2⟩ := List.getElem?_eq_some_iff.1 h
  have hlt : i < s.size := by rw [L_size]; exact h1
  simp only [sy, Int.toNat_natCast, hlt, dite_true]
  congr 2
theorem seqF {F : Sy} (hF : F = sy) (a b : ByteArray) : F .scmp .eql a b = decide (a = b) := by
  rw [hF]
  show (a.toList == b.toList) = _
  rw [Bool.beq_eq_decide_eq]
  congr 1
  rw [ByteArray.toList_eq, ByteArray.toList_eq]
  exact propext ⟨fun h => L_inj h, fun h => by rw [h]⟩
theorem sneF {F : Sy} (hF : F = sy) (a b : ByteArray) : F .scmp .neq a b = decide (a ≠ b) := by
  have h := seqF hF a b
  have : F .scmp .neq a b = !(F .scmp .eql a b) := by rw [hF]; rfl
  rw [this, h]; simp
theorem catF {F : Sy} (hF : F = sy) (a b : ByteArray) : F .cat a b = BA (L a ++ L b) := by
  rw [hF]
  show a ++ b = _
  rw [← BA_L (a ++ b), L_cat]

/-! ### What the library does -/
theorem reps_one {w : World} {S : Nat → Prop} {x : AV} {xs : List Value} (h : Reps w S [x] xs) : ∃ y, xs = [y] ∧ Rep w S x y := by
  obtain ⟨y, ys, rfl, h1, h2⟩ := h.uncons
  rw [h2.unnil]
  exact ⟨y, rfl, h1⟩
theorem rep_v {w : World} {S : Nat → Prop} {x y : Value} (h : Rep w S (.v x) y) : y = x := by
  cases h with
  | c h => cases h; rfl
theorem tab_ok {w : World} {S : Nat → Prop} (h : gdOK w S) : Lib.TabIs Tryz.prog w "internal/strconv.uint64pow10" .u64 Lib.pow10Tab := by
  obtain ⟨_, xs, ty, fr, h2, h3⟩ := h.cells 0 _ rfl
  have hg : Tryz.prog.globalNamed "internal/strconv.uint64pow10" = some 0 := by kernel_rfl
  unfold Lib.TabIs World.var?
  rw [hg]
  simp only [Option.bind_some, h2]
  congr 1
  have key : ∀ (l : List Int) (ys : List Value), RepL w S (l.map fun z => AV.v (.int .u64 z)) ys → ys = l.map fun z => Value.int .u64 z := by
    intro l
    induction l with
    | nil => intro ys h; rw [RepL.unnil h]; rfl
    | cons z l ih =>
      intro ys h
      obtain ⟨y, ys', rfl, h4, h5⟩ := RepL.uncons h
      rw [ih _ h5]
      cases h4
      rfl
  have := key Lib.pow10Tab xs.toList h3
  rw [← this]
theorem gr_below {w w' : World} {S : Nat → Prop} (hS : ∀ g, S g → g < w.heap.size) (h : Below w.heap.size w w') : Gr w S w' S := ⟨h, fun _ h => h, fun _ h => .inl h, fun g hg => Nat.lt_of_lt_of_le (hS g hg) h.size⟩
theorem enterT {f : Nat} {fn : Func} {c : Code} (hf : Tryz.prog.funcs[f]? = some fn) (hname : (fn.name == "runtime.NumGoroutine") = false) (hb : fn.body = some c) : ∀ cs w, (callFunc f cs).run Tryz.prog w = .ok (.enter f cs) w := fun cs w => by
  have h1 : fn.name ≠ "runtime.NumGoroutine" := by simpa using hname
  simp [callFunc, hf, h1, hb]
def itoaB (n : Int) : ByteArray := BA (Lib.itoa n)
theorem itoa_ok (n : Int) (h0 : -9223372036854775808 ≤ n) (h1 : n ≤ 9223372036854775807) (r : ByteArray) (hr : r = itoaB n) : CSem Tryz.prog (.fn 10) [aI n] (.pure [aS r]) := by
  subst hr
  refine fsem_of (enterT Tryz.func10 (by kernel_rfl) rfl) ?_
  intro w S xs hS hgd hx
  obtain ⟨y, rfl, hy⟩ := reps_one hx
  rw [rep_v hy]
  refine (Tryz.strconv_Itoa n h0 h1 w (tab_ok hgd)).mono ?_
  rintro e w' ⟨rfl, k, os, rfl⟩
  exact ⟨_, S, rfl, gr_below hS (Lib.below_grow _ w (Nat.le_refl _) k os), [_], rfl, Reps.cons (.c (.v _ rfl)) (Reps.nil _ _)⟩
/-! ### Conversions -/
theorem bytes_rep (s : ByteArray) (w : World) (S : Nat → Prop) : RepL w S (byR (L s)).flatten (Lib.strCells s) := (sb_str s w S).1
theorem conv_own {src dst e : Nat} {u : TypeDesc} (hs : Tryz.prog.underlying src = some u) (hd : Tryz.prog.underlying dst = some (.slice e)) (he : Tryz.prog.underlying e = some (.int .u8)) (hb : byteT e = true) (s : ByteArray) (hl : s.size ≤ 9223372036854775807) (rows : List (List AV)) (hr : rows = byR (L s)) : CSem Tryz.prog (.conv src dst) [aS s] (.own e 1 rows []) := by
  subst hr
  refine ⟨_, rfl, fun w S x hS hx => ?_⟩
  rw [rep_v hx]
  have hrun := Lib.run_convert_string_bytes w src dst e s hs hd he
  have hbl : Below w.heap.size w (Lib.bytesWorld w e s) := ⟨rfl, rfl, rfl, by rw [Lib.bytesWorld_size]; omega, fun k hk => Lib.bytesWorld_at_old w e s k hk⟩
  have hge := grownCap_ge w s.size 0 e
  have hcm : grownCap w s.size 0 e ≤ maxLen := grownCap_le_maxLen w s.size 0 e (by unfold maxLen; omega)
  have hcs : (Lib.bytesCells w e s).size = grownCap w s.size 0 e := by
    have h0 : s.data.size = s.size := rfl
    simp only [Lib.bytesCells, Array.size_append, Array.size_map, Array.size_replicate, h0]; omega
  refine ⟨_, _, S, hrun, gr_below hS hbl, _, [], Lib.strCells s, rfl, ⟨by rw [Lib.strCells_length, byR_len, L_size]; omega, .inr ⟨w.heap.size, _, _, _, by rw [byR_len, L_size], Nat.le_refl _, Lib.bytesWorld_at_new w e s, .inr ⟨hb, Nat.le_refl _⟩, by rw [byR_len, ← L_size]; exact hge, hcm, by omega, ?_⟩⟩, bytes_rep s _ _, byR_one _, fun g hg hS' => ?_, Reps.nil _ _, by rw [byR_len, ← L_size]; omega⟩
  · rw [byR_len, ← L_size, Nat.mul_one]
    simp only [Lib.bytesCells, Array.toList_append, Array.toList_map]
    have e1 : (s.data.toList.map fun b => Value.int .u8 (b.toNat : Int)).length = s.size := by rw [List.length_map]; exact (L_size s).symm
    rw [List.take_append_of_le_length (by rw [e1]; exact Nat.le_refl _), List.take_of_length_le (by rw [e1]; exact Nat.le_refl _)]
    rfl
  · simp [Value.ownBlock] at hg
    subst hg
    exact absurd (hS _ hS') (Nat.lt_irrefl _)
theorem conv_frz {src dst : Nat} {A : AV} {e sz : Nat} {rows : List (List AV)} (h : CSem Tryz.prog (.conv src dst) [A] (.own e sz rows [])) : CSem Tryz.prog (.conv src dst) [A] (.pure [.sl rows]) := by
  obtain ⟨A', e1, h⟩ := h
  refine ⟨A', e1, fun w S x hS hx => ?_⟩
  obtain ⟨y, w', S', hrun, hg, z, ys, zs, hy, hown, hr, hl, hSz, hrest, hm⟩ := h w S x hS hx
  have hblk : ∀ g, z.ownBlock = some g → w.heap.size ≤ g ∧ g < w'.heap.size := fun g hg => hown.lt g hg
  rw [hrest.unnil] at hy
  have hm2 : SameOn S' w' w' := fun _ _ => rfl
  refine ⟨y, w', fun g => S' g ∨ z.ownBlock = some g, hrun, ⟨hg.below, fun g h => .inl (hg.sub g h), fun g h => ?_, fun g h => ?_⟩, [z], hy, Reps.cons (.c (repc_of_own hown (hr.mono hm2 (fun _ h => Or.inl h)) hl (fun g h => Or.inr h))) (Reps.nil _ _)⟩
  · rcases h with h | h
    · exact hg.new g h
    · exact .inr (hblk g h).1
  · rcases h with h | h
    · exact hg.lt g h
    · exact (hblk g h).2
theorem sb_own (s : ByteArray) (hl : s.size ≤ 9223372036854775807) (rows : List (List AV)) (hr : rows = byR (L s)) : CSem Tryz.prog (.conv 9 37) [aS s] (.own 5 1 rows []) := conv_own (u := .string) (by kernel_rfl) (by kernel_rfl) (by kernel_rfl) rfl s hl rows hr
theorem sb_ok (s : ByteArray) (hl : s.size ≤ 9223372036854775807) (rows : List (List AV)) (hr : rows = byR (L s)) : CSem Tryz.prog (.conv 9 37) [aS s] (.pure [.sl rows]) := conv_frz (sb_own s hl rows hr)
theorem push_all (l : List UInt8) : ∀ s : ByteArray, ((l.map fun b : UInt8 => (b.toNat : Int)).foldl (fun r n => r.push (UInt8.ofNat n.toNat)) s) = BA (L s ++ l) := by
  induction l with
  | nil => intro s; simp [BA_L]
  | cons b l ih =>
    intro s
    simp only [List.map_cons, List.foldl_cons]
    rw [ih]
    congr 1
    have : L (s.push (UInt8.ofNat ((b.toNat : Int).toNat))) = L s ++ [b] := by simp [L, ByteArray.push]
    rw [this]; simp
/-- Bytes as a string. -/
theorem bs_ok (l : List UInt8) (rows : List (List AV)) (hr : rows = byR l) (r : ByteArray) (hrr : r = BA l) : CSem Tryz.prog (.conv 37 9) [.sl rows] (.pure [aS r]) := by
  subst hr hrr
  refine ⟨_, rfl, fun w S x hS hx => ⟨.string (BA l), w, S, ?_, Gr.refl hS, [_], rfl, Reps.cons (.c (.v _ rfl)) (Reps.nil _ _)⟩⟩
  have hx : RepC w S (.sl (byR l)) x := by cases hx with | c h => exact h
  generalize hR : byR l = rows at hx
  cases hx with
  | nil a c hn =>
    have : l = [] := by cases l <;> simp [byR] at hR; rfl
    subst this
    rw [run_convert_bytes_string (P := Tryz.prog) w 37 9 5 a 0 c (by kernel_rfl) (by kernel_rfl) (by kernel_rfl)]
    cases a with
    | none => rfl
    | some a =>
      have := run_bytesToString (P := Tryz.prog) w a 0 c [] (by simp [loadCells, loadCellsFrom])
      rw [this]; rfl
  | sl rows a c sz f ha hlen hc hm h h' =>
    rw [run_convert_bytes_string (P := Tryz.prog) w 37 9 5 (some a) rows.length c (by kernel_rfl) (by kernel_rfl) (by kernel_rfl)]
    have hlen2 : rows.length = (l.map fun b : UInt8 => Value.int .u8 (b.toNat : Int)).length := by rw [← hR]; simp [byR]
    have hl := run_loadCells_ok (P := Tryz.prog) (w := w) (b := a) (xs := l.map fun b : UInt8 => Value.int .u8 (b.toNat : Int)) (fun j x hj => ?_)
    · rw [← hlen2] at hl
      have e1 : (l.map fun b : UInt8 => Value.int .u8 (b.toNat : Int)) = (l.map fun b : UInt8 => (b.toNat : Int)).map (Value.int .u8) := by simp
      rw [e1] at hl
      rw [run_bytesToString (P := Tryz.prog) w a rows.length c _ hl, push_all]
      rfl
    · rw [List.getElem?_map] at hj
      cases hb : l[j]? with
      | none => rw [hb] at hj; simp at hj
      | some b =>
        rw [hb] at hj
        injection hj with hj
        subst hj
        have hrow : rows[j]? = some [aU b.toNat] := by rw [← hR]; exact byR_get hb
        have hsz : sz = 1 := (hlen _ (List.mem_of_getElem? hrow)).symm
        subst hsz
        have h1 := h j _ hrow 0 _ rfl
        have h2 := h' j _ hrow 0 _ rfl
        rw [Nat.mul_one, Nat.add_zero] at h1
        rw [h1]
        generalize f j 0 = y at h2
        cases h2
        rfl
def dec (n : Int) : List UInt8 := Lib.itoa n
theorem dec_len (n : Int) (h0 : -9223372036854775808 ≤ n) (h1 : n ≤ 9223372036854775807) : (dec n).length ≤ 21 := Lib.itoa_length_le n h0 h1
theorem BA_size (l : List UInt8) : (BA l).size = l.length := by rw [L_size, L_BA]
theorem catS {F : Sy} (hF : F = sy) {a b : ByteArray} (h : a.size + b.size ≤ 1000000000) : F .slen a + F .slen b ≤ 9223372036854775807 := by rw [slenF hF, slenF hF]; omega
theorem catN {F : Sy} (hF : F = sy) {a b x : ByteArray} (h : F .cat a b = x) : x.size = a.size + b.size := by rw [← h, catF hF, BA_size, List.length_append, L_size, L_size]
theorem sz1 (b : UInt8) : (BA [b]).size = 1 := rfl
theorem sz2 : (BA [13, 10]).size = 2 := rfl
theorem itoaB_dec (n : Int) : itoaB n = BA (dec n) := rfl
theorem dec_nat (n : Nat) : dec (n : Int) = Lib.decDigits n := by
  unfold dec Lib.itoa; rw [if_neg (by omega), Int.toNat_natCast]
theorem dec_neg (n : Nat) (h : 0 < n) : dec (-(n : Int)) = 45 :: Lib.decDigits n := by
  unfold dec Lib.itoa
  rw [if_pos (by omega)]
  simp
theorem dig_step (n : Nat) (h : ¬ n < 10) : Lib.decDigits n = Lib.decDigits (n / 10) ++ [UInt8.ofNat (48 + n % 10)] := by
  rw [Lib.decDigits, dif_neg h]
theorem u8n' (n : Nat) (h : n < 256) : (UInt8.ofNat n).toNat = n := by simp; omega
theorem wrp8 {F : Sy} (hF : F = sy) {x : Int} {n : Nat} (h : x = (n : Int)) (h2 : n < 256) : F .wrp .u8 x = (n : Int) := by
  rw [hF, h]
  show IntKind.u8.wrap _ = _
  simp [IntKind.wrap, IntKind.signed, IntKind.bits, BitVec.toNat_ofInt]
  omega
theorem digs_nn : ∀ (m n : Nat), n ≤ m → n ≤ 9223372036854775807 → ∀ (n' : Int), n' = (n : Int) → ∀ r, r = itoaB n' → CSem Tryz.prog (.fn 14) [aI n'] (.pure [aS r]) := by
  intro m
  induction m with
  | zero =>
    intro n hm h1 n' hn' r hr
    have hn0 : n = 0 := by omega
    subst hn0
    refine of_text gam_ok mixed { n := 38 } Tryz.func14 (by kernel_rfl) rfl rfl (by simp) (by decide) fun F C D hF hC hD => ?_
    have t0 : F .cmp .lss n' 0 = false := by rw [lsF hF]; exact decide_eq_false (by omega)
    have t1 : F .cmp .lss n' 10 = true := by rw [lsF hF]; exact decide_eq_true (by omega)
    obtain ⟨x, hx⟩ : ∃ x : Int, F .wrp .u8 (F .ar .add .i64 48 n') = x := ⟨_, rfl⟩
    have ex : x = ((UInt8.ofNat 48).toNat : Int) := hx.symm.trans (wrp8 hF (n := 48) ((addF hF (i := 48) (j := 0) rfl hn' (by omega)).trans rfl) (by omega))
    have hbs := hC _ _ _ (bs_ok [UInt8.ofNat 48] [[aU x]] (by rw [ex]; rfl) r (by rw [hr, itoaB_dec, hn', dec_nat, Lib.decDigits_one (by omega)]))
    cbv
    refine bF (t0) ?_
    cbv
    refine bT (t1) ?_
    cbv
    rw [hx]
    refine ⟨_, hbs, ?_⟩
    cbv
    simp
  | succ m ih =>
    intro n hm h1 n' hn' r hr
    refine of_text gam_ok mixed { n := 38 } Tryz.func14 (by kernel_rfl) rfl rfl (by simp) (by decide) fun F C D hF hC hD => ?_
    have t0 : F .cmp .lss n' 0 = false := by rw [lsF hF]; exact decide_eq_false (by omega)
    have t1 := lsF hF n' 10
    by_cases h9 : n < 10
    · have t1 : F .cmp .lss n' 10 = true := by rw [t1]; exact decide_eq_true (by omega)
      obtain ⟨x, hx⟩ : ∃ x : Int, F .wrp .u8 (F .ar .add .i64 48 n') = x := ⟨_, rfl⟩
      have ex : x = ((UInt8.ofNat (48 + n)).toNat : Int) := hx.symm.trans ((wrp8 hF (n := 48 + n) (addF hF (i := 48) (j := n) rfl hn' (by omega)) (by omega)).trans (by rw [u8n' _ (by omega)]))
      have hbs := hC _ _ _ (bs_ok [UInt8.ofNat (48 + n)] [[aU x]] (by rw [ex]; rfl) r (by rw [hr, itoaB_dec, hn', dec_nat, Lib.decDigits_one h9]))
      cbv
      refine bF (t0) ?_
      cbv
      refine bT (t1) ?_
      cbv
      rw [hx]
      refine ⟨_, hbs, ?_⟩
      cbv
      simp
    · have t1 : F .cmp .lss n' 10 = false := by rw [t1]; exact decide_eq_false (by omega)
      obtain ⟨q, hq⟩ : ∃ q : Int, F .ar .quo .i64 n' 10 = q := ⟨_, rfl⟩
      have eq : q = ((n / 10 : Nat) : Int) := by
        have e1 : F .ar .quo .i64 n' 10 = IntKind.i64.wrap (n'.tdiv 10) := by rw [hF]; rfl
        rw [← hq, e1, hn', Int.tdiv_eq_ediv_of_nonneg (by omega)]
        exact (wrap_in (by omega) (by omega)).trans (by omega)
      obtain ⟨rm, hrm⟩ : ∃ q : Int, F .ar .rem .i64 n' 10 = q := ⟨_, rfl⟩
      have erm : rm = ((n % 10 : Nat) : Int) := by
        have e1 : F .ar .rem .i64 n' 10 = n'.tmod 10 := by rw [hF]; rfl
        rw [← hrm, e1, hn', Int.tmod_eq_emod_of_nonneg (by omega)]
        omega
      obtain ⟨x, hx⟩ : ∃ x : Int, F .wrp .u8 (F .ar .add .i64 48 rm) = x := ⟨_, rfl⟩
      have ex : x = ((UInt8.ofNat (48 + n % 10)).toNat : Int) := hx.symm.trans ((wrp8 hF (n := 48 + n % 10) (addF hF (i := 48) (j := n % 10) rfl erm (by omega)) (by omega)).trans (by rw [u8n' _ (by omega)]))
      obtain ⟨s1, hs1⟩ : ∃ s, s = BA [UInt8.ofNat (48 + n % 10)] := ⟨_, rfl⟩
      have hbs := hC _ _ _ (bs_ok [UInt8.ofNat (48 + n % 10)] [[aU x]] (by rw [ex]; rfl) s1 hs1)
      obtain ⟨s0, hs0⟩ : ∃ s, s = itoaB q := ⟨_, rfl⟩
      have hrec := hC _ _ _ (ih (n / 10) (by omega) (by omega) q eq s0 hs0)
      have hcat : F .cat s0 s1 = r := by rw [catF hF, hr, itoaB_dec, hn', dec_nat, dig_step n h9, hs0, itoaB_dec, eq, dec_nat, hs1, L_BA, L_BA]
      have hn0 : s0.size ≤ 21 := by rw [hs0, itoaB, BA_size]; exact dec_len q (by omega) (by omega)
      have hcs := catS hF (a := s0) (b := s1) (by rw [hs1, sz1]; omega)
      clear hs0 hs1 hr
      cbv
      refine bF (t0) ?_
      cbv
      refine bF (t1) ?_
      cbv
      refine ⟨hC _ _ _ (ben_ok (by kernel_rfl)), ?_⟩
      cbv
      rw [hq]
      refine ⟨_, hrec, ?_⟩
      cbv
      rw [hrm, hx]
      refine ⟨_, hbs, ?_⟩
      cbv
      rw [hcat]
      refine ⟨hcs, ?_⟩
      cbv
theorem digs_neg : ∀ (m n : Nat), n ≤ m → 0 < n → n ≤ 9223372036854775808 → ∀ (n' : Int), n' = -(n : Int) → ∀ r, r = itoaB n' → CSem Tryz.prog (.fn 14) [aI n'] (.pure [aS r]) := by
  intro m
  induction m with
  | zero => intro n hm h0; omega
  | succ m ih =>
    intro n hm h0 h1 n' hn' r hr
    refine of_text gam_ok mixed { n := 38 } Tryz.func14 (by kernel_rfl) rfl rfl (by simp) (by decide) fun F C D hF hC hD => ?_
    have t0 : F .cmp .lss n' 0 = true := by rw [lsF hF]; exact decide_eq_true (by omega)
    have t1 := gtF hF n' (-10)
    by_cases h9 : n < 10
    · have t1 : F .cmp .gtr n' (-10) = true := by rw [t1]; exact decide_eq_true (by omega)
      obtain ⟨q, hq⟩ : ∃ q : Int, F .ar .sub .i64 0 n' = q := ⟨_, rfl⟩
      have eq : q = (n : Int) := by
        rw [← hq, hF, hn']
        exact (wrap_in (by omega) (by omega)).trans (by omega)
      obtain ⟨s0, hs0⟩ : ∃ s, s = itoaB q := ⟨_, rfl⟩
      have hrec := hC _ _ _ (digs_nn n n (Nat.le_refl _) (by omega) q eq s0 hs0)
      have hcat : F .cat (BA [45]) s0 = r := by rw [catF hF, hr, itoaB_dec, hn', dec_neg n h0, hs0, itoaB_dec, eq, dec_nat, L_BA, L_BA]; rfl
      have hn0 : s0.size ≤ 21 := by rw [hs0, itoaB, BA_size]; exact dec_len q (by omega) (by omega)
      have hcs := catS hF (a := BA [45]) (b := s0) (by rw [sz1]; omega)
      unfold BA at hcat hcs
      clear hs0 hr
      cbv
      refine bT (t0) ?_
      cbv
      refine bT (t1) ?_
      cbv
      rw [hq]
      refine ⟨_, hrec, ?_⟩
      cbv
      rw [hcat]
      refine ⟨hcs, ?_⟩
      cbv
    · have t1 : F .cmp .gtr n' (-10) = false := by rw [t1]; exact decide_eq_false (by omega)
      obtain ⟨q, hq⟩ : ∃ q : Int, F .ar .quo .i64 n' 10 = q := ⟨_, rfl⟩
      have eq : q = -((n / 10 : Nat) : Int) := by
        have e1 : F .ar .quo .i64 n' 10 = IntKind.i64.wrap (n'.tdiv 10) := by rw [hF]; rfl
        rw [← hq, e1, hn', Int.neg_tdiv, Int.tdiv_eq_ediv_of_nonneg (by omega)]
        exact (wrap_in (by omega) (by omega)).trans (by omega)
      obtain ⟨rm, hrm⟩ : ∃ q : Int, F .ar .rem .i64 n' 10 = q := ⟨_, rfl⟩
      have erm : rm = -((n % 10 : Nat) : Int) := by
        have e1 : F .ar .rem .i64 n' 10 = n'.tmod 10 := by rw [hF]; rfl
        rw [← hrm, e1, hn', Int.neg_tmod, Int.tmod_eq_emod_of_nonneg (by omega)]
        omega
      obtain ⟨sb, hsb⟩ : ∃ q : Int, F .ar .sub .i64 48 rm = q := ⟨_, rfl⟩
      have esb : sb = ((48 + n % 10 : Nat) : Int) := by
        rw [← hsb, hF, erm]
        exact (wrap_in (by omega) (by omega)).trans (by omega)
      obtain ⟨x, hx⟩ : ∃ x : Int, F .wrp .u8 sb = x := ⟨_, rfl⟩
      have ex : x = ((UInt8.ofNat (48 + n % 10)).toNat : Int) := by rw [← hx, wrp8 hF (n := 48 + n % 10) esb (by omega), u8n' _ (by omega)]
      obtain ⟨s1, hs1⟩ : ∃ s, s = BA [UInt8.ofNat (48 + n % 10)] := ⟨_, rfl⟩
      have hbs := hC _ _ _ (bs_ok [UInt8.ofNat (48 + n % 10)] [[aU x]] (by rw [ex]; rfl) s1 hs1)
      obtain ⟨s0, hs0⟩ : ∃ s, s = itoaB q := ⟨_, rfl⟩
      have hrec := hC _ _ _ (ih (n / 10) (by omega) (by omega) (by omega) q eq s0 hs0)
      have hcat : F .cat s0 s1 = r := by rw [catF hF, hr, itoaB_dec, hn', dec_neg n h0, dig_step n h9, hs0, itoaB_dec, eq, dec_neg (n / 10) (by omega), hs1, L_BA, L_BA]; rfl
      have hn0 : s0.size ≤ 21 := by rw [hs0, itoaB, BA_size]; exact dec_len q (by omega) (by omega)
      have hcs := catS hF (a := s0) (b := s1) (by rw [hs1, sz1]; omega)
      clear hs0 hs1 hr
      cbv
      refine bT (t0) ?_
      cbv
      refine bF (t1) ?_
      cbv
      refine ⟨hC _ _ _ (ben_ok (by kernel_rfl)), ?_⟩
      cbv
      rw [hq]
      refine ⟨_, hrec, ?_⟩
      cbv
      rw [hrm, hsb, hx]
      refine ⟨_, hbs, ?_⟩
      cbv
      rw [hcat]
      refine ⟨hcs, ?_⟩
      cbv
theorem digs_ok (n : Int) (h0 : -9223372036854775808 ≤ n) (h1 : n ≤ 9223372036854775807) (r : ByteArray) (hr : r = itoaB n) : CSem Tryz.prog (.fn 14) [aI n] (.pure [aS r]) := by
  by_cases h : n < 0
  · exact digs_neg n.natAbs n.natAbs (Nat.le_refl _) (by omega) (by omega) n (by omega) r hr
  · exact digs_nn n.natAbs n.natAbs (Nat.le_refl _) (by omega) n (by omega) r hr
end Go.Proofs.YthepmpfkkhckpaaGreatDoor
