import Derived.Lib.SlicesCompact
import Derived.Sort.Defs
import Derived.Test.YtljpmnifkccbdaaSh
import Derived.Test.YtljpmnifkccbdaaTy
import Derived.Lib.OwnBridge
import Derived.Shelf.Abstract
import Derived.Shelf.Slices.CompactS
import Derived.Shelf.Sort.Plain
import Derived.Shelf.Slices.In.SortNone
import Derived.Sort.OwnSorted
import Derived.Test.YtljpmnifkccbdaaD1
set_option linter.unusedSimpArgs false
set_option linter.unusedVariables false
namespace Go.Proofs.Ytljpmnifkccbdaa
open Go

/-! Lists of strings, sorted, each once. -/
abbrev Str := List UInt8
theorem eq_of_lt : ∀ {l m : List Str}, l.Pairwise (· < ·) → m.Pairwise (· < ·) → (∀ x, x ∈ l ↔ x ∈ m) → l = m := by
  intro l
  induction l with
  | nil =>
    intro m _ _ h
    cases m with
    | nil => rfl
    | cons b m => exact absurd ((h b).2 List.mem_cons_self) (by simp)
  | cons a l ih =>
    intro m hl hm h
    cases m with
    | nil => exact absurd ((h a).1 List.mem_cons_self) (by simp)
    | cons b m =>
      rw [List.pairwise_cons] at hl hm
      have hab : a = b := by
        have h1 := (h a).1 List.mem_cons_self
        have h2 := (h b).2 List.mem_cons_self
        rcases List.mem_cons.1 h1 with e | h1
        · exact e
        · rcases List.mem_cons.1 h2 with e | h2
          · exact e.symm
          · exact absurd (List.lt_trans (hl.1 b h2) (hm.1 a h1)) (List.lt_irrefl _)
      subst hab
      congr 1
      refine ih hl.2 hm.2 fun x => ?_
      have hx := h x
      simp only [List.mem_cons] at hx
      constructor
      · intro hxl
        rcases hx.1 (.inr hxl) with e | e
        · subst e; exact absurd (hl.1 _ hxl) (List.lt_irrefl _)
        · exact e
      · intro hxm
        rcases hx.2 (.inr hxm) with e | e
        · subst e; exact absurd (hm.1 _ hxm) (List.lt_irrefl _)
        · exact e
theorem compactUpTo_spec (d : Array Str) (hs : ∀ i j, i ≤ j → j < d.size → d[i]! ≤ d[j]!) : ∀ m, m ≤ d.size → (Lib.compactUpTo d m).Pairwise (· < ·) ∧ ∀ x, x ∈ Lib.compactUpTo d m ↔ ∃ i, i < m ∧ d[i]! = x := by
  intro m
  induction m with
  | zero => intro _; simp [Lib.compactUpTo]
  | succ m ih =>
    intro hm
    obtain ⟨h1, h2⟩ := ih (by omega)
    rw [Lib.compactUpTo_succ]
    by_cases hk : m = 0 ∨ d[m]! ≠ d[m - 1]!
    · have hkk : Lib.keeps d m = true := by simp [Lib.keeps, hk]
      rw [hkk]
      simp only [if_true]
      refine ⟨List.pairwise_append.2 ⟨h1, by simp, fun x hx y hy => ?_⟩, fun x => ?_⟩
      · rw [List.mem_singleton] at hy
        subst hy
        obtain ⟨i, hi, rfl⟩ := (h2 x).1 hx
        have hne : d[m]! ≠ d[m - 1]! := by
          rcases hk with h | h
          · omega
          · exact h
        have e1 := hs i (m - 1) (by omega) (by omega)
        have e2 := hs (m - 1) m (by omega) (by omega)
        rcases Classical.em (d[m - 1]! < d[m]!) with h | h
        · exact List.lt_of_le_of_lt e1 h
        · exact absurd (List.le_antisymm (List.not_lt.1 h) e2) hne
      · rw [List.mem_append, h2, List.mem_singleton]
        constructor
        · rintro (⟨i, hi, rfl⟩ | rfl)
          · exact ⟨i, by omega, rfl⟩
          · exact ⟨m, by omega, rfl⟩
        · rintro ⟨i, hi, rfl⟩
          by_cases e : i < m
          · exact .inl ⟨i, e, rfl⟩
          · exact .inr (by rw [show i = m by omega])
    · have hkk : Lib.keeps d m = false := by simp [Lib.keeps, hk]
      rw [hkk]
      simp only [Bool.false_eq_true, if_false, List.append_nil]
      refine ⟨h1, fun x => ?_⟩
      rw [h2]
      constructor
      · rintro ⟨i, hi, rfl⟩; exact ⟨i, by omega, rfl⟩
      · rintro ⟨i, hi, rfl⟩
        by_cases e : i < m
        · exact ⟨i, e, rfl⟩
        · refine ⟨m - 1, by omega, ?_⟩
          rw [show i = m by omega]
          exact (Classical.not_not.1 fun h => hk (.inr h)).symm
def srt (l : List Str) : List Str := Lib.compact (l.mergeSort fun x y => decide (x ≤ y))
theorem ms_sorted (l : List Str) : (l.mergeSort fun x y => decide (x ≤ y)).Pairwise (· ≤ ·) := by
  have := List.pairwise_mergeSort (le := fun (x y : Str) => decide (x ≤ y)) (fun a b c h1 h2 => by simp only [decide_eq_true_eq] at *; exact List.le_trans h1 h2) (fun a b => by simp only [Bool.or_eq_true, decide_eq_true_eq]; exact List.le_total a b) l
  exact this.imp fun h => by simpa using h
theorem srt_spec (l : List Str) : (srt l).Pairwise (· < ·) ∧ ∀ x, x ∈ srt l ↔ x ∈ l := by
  obtain ⟨s, hs⟩ : ∃ s, s = l.mergeSort fun x y => decide (x ≤ y) := ⟨_, rfl⟩
  have hp := ms_sorted l
  rw [← hs] at hp
  have hm : ∀ x, x ∈ s ↔ x ∈ l := fun x => by rw [hs]; exact List.mem_mergeSort
  have hget : ∀ i (h : i < s.length), s.toArray[i]! = s[i] := fun i h => by simp [h]
  have h := compactUpTo_spec s.toArray (fun i j hij hj => by
    have hj : j < s.length := by simpa using hj
    rw [hget i (by omega), hget j hj]
    by_cases e : i = j
    · subst e; exact List.le_refl _
    · exact List.pairwise_iff_getElem.1 hp i j (by omega) hj (by omega)) s.length (by simp)
  refine ⟨by rw [srt, ← hs]; exact h.1, fun x => ?_⟩
  have h2 := h.2 x
  rw [srt, ← hs, ← hm x]
  refine h2.trans ?_
  constructor
  · rintro ⟨i, hi, rfl⟩; rw [hget i hi]; exact List.getElem_mem hi
  · intro hx
    obtain ⟨i, hi, rfl⟩ := List.getElem_of_mem hx
    exact ⟨i, hi, hget i hi⟩
theorem srt_ext {l m : List Str} (h : ∀ x, x ∈ l ↔ x ∈ m) : srt l = srt m :=
  eq_of_lt (srt_spec l).1 (srt_spec m).1 fun x => by rw [(srt_spec l).2, (srt_spec m).2]; exact h x
theorem srt_of {l m : List Str} (hm : m.Pairwise (· < ·)) (h : ∀ x, x ∈ m ↔ x ∈ l) : srt l = m :=
  eq_of_lt (srt_spec l).1 hm fun x => by rw [(srt_spec l).2]; exact (h x).symm
end Go.Proofs.Ytljpmnifkccbdaa
set_option linter.unusedSimpArgs false
set_option linter.unusedVariables false
namespace Go.Proofs.Ytljpmnifkccbdaa
open Go Go.RowKit Am Go.Sort

/-- A list of strings as rows of one cell. -/
def sR (l : List Str) : List (List AV) := l.map fun s => [.v (encStr s)]
theorem sR_len (l : List Str) : (sR l).length = l.length := by simp [sR]
theorem sR_flat (l : List Str) : (sR l).flatten = l.map fun s => .v (encStr s) := by
  induction l with
  | nil => rfl
  | cons a l ih => simp [sR] at ih ⊢; exact ih
theorem sR_get {l : List Str} {i : Nat} {s : Str} (h : l[i]? = some s) : (sR l)[i]? = some [.v (encStr s)] := by simp [sR, h]
theorem repl_sR {w : World} {S : Nat → Prop} {l : List Str} {zs : List Value} (h : RepL w S (sR l).flatten zs) : zs = l.map encStr := by
  rw [sR_flat] at h
  refine List.ext_getElem? fun i => ?_
  rcases Nat.lt_or_ge i l.length with hi | hi
  · obtain ⟨x, hx, hr⟩ := h.get (i := i) (u := .v (encStr l[i])) (by simp [hi])
    rw [hx]
    cases hr with
    | v _ _ => simp [hi]
  · have := h.1
    rw [List.getElem?_eq_none (by rw [← this]; simpa using hi), List.getElem?_eq_none (by simpa using hi)]
theorem sR_repl (w : World) (S : Nat → Prop) (l : List Str) : RepL w S (sR l).flatten (l.map encStr) := by
  rw [sR_flat]
  refine ⟨by simp, fun i u x hu hx => ?_⟩
  simp only [List.getElem?_map, Option.map_eq_some_iff] at hu hx
  obtain ⟨a, ha, rfl⟩ := hu
  obtain ⟨b, hb, rfl⟩ := hx
  rw [ha] at hb
  injection hb with hb
  subst hb
  exact .v _ rfl
theorem sR_one (l : List Str) : ∀ r ∈ sR l, r.length = 1 := fun r h => by
  obtain ⟨a, _, rfl⟩ := List.mem_map.1 h
  rfl
/-- The one row that is handed over, as the kit speaks of it. -/
theorem row_in {w : World} {S : Nat → Prop} {β : Nat → Value} {ss : List Str} {xs : List Value} {e : Nat} (ho : ∀ k o, lk k [(0, Ob.row e 1 (sR ss) 0 0)] = some o → ORep w S 0 (β k) o) (hx : [AV.own 0 0].length = xs.length ∧ ∀ (i : Nat) (u : AV) (x : Value), [AV.own 0 0][i]? = some u → xs[i]? = some x → SRep0 w S β [(0, Ob.row e 1 (sR ss) 0 0)] u x) :
    xs = [β 0] ∧ w.ownsRow 0 e 1 (β 0) ss.length (ss.map encStr) ∧ ∀ g, (β 0).ownBlock = some g → ¬ S g := by
  obtain ⟨zs, h1, h2, h3, h4⟩ := ho 0 _ rfl
  rw [repl_sR h2, sR_len] at h1
  refine ⟨?_, h1, h4⟩
  obtain ⟨hl, hg⟩ := hx
  match xs, hl with
  | [x], _ =>
    have := hg 0 _ x rfl rfl
    rw [(show ∀ e' sz rows m, lk 0 [(0, Ob.row e 1 (sR ss) 0 0)] = some (.row e' sz rows 0 m) → x = β 0 from this) _ _ _ _ rfl]
theorem compactB (ss : List Str) (hl : ss.length ≤ 1000000000) (rows : List (List AV)) (hrows : rows = sR ss) (out : List (List AV)) (hout : out = sR (Lib.compact ss)) :
    CSem Try.prog (.wr 66 [(0, .row 9 1 rows 0 0)] []) [.own 0 0] (.own 9 1 out []) := by
  subst hrows hout
  refine ⟨fun vs w => enters_of (f := 66) (fn := Try.f66) Try.func66 (by kernel_rfl) rfl vs w, fun w S β xs hS ho hsep hx => ?_⟩
  obtain ⟨rfl, hown, hSb⟩ := row_in ho hx
  by_cases hv : β 0 = .slice none 0 0
  · rw [hv] at hown ⊢
    have hn : ss = [] := by
      rcases hown.2 with ⟨_, h⟩ | ⟨g, cap, cur, h, _⟩
      · exact List.eq_nil_of_length_eq_zero h
      · cases h
    subst hn
    refine (Any.slices_Compact_string_empty Try.laysCompact none 0 w).mono fun e w' h => ?_
    obtain ⟨rfl, rfl⟩ := h
    refine ⟨_, S, rfl, .refl hS, fun k o h => by simp [lk] at h, _, [], [], rfl, World.ownsRow_nil _ _ _ _, RepL.nil _ _, fun r h => by simp [sR, Lib.compact, Lib.compactUpTo] at h, fun g h => by simp [Value.ownBlock] at h, Reps.nil _ _⟩
  · obtain ⟨g, cap, hβ, -, hlt, hnc, hcm, -, hH⟩ := Lib.holds_of_ownsRow hown hv
    have hown2 := hown
    rw [hβ] at hown2 ⊢
    refine (Any.slices_Compact_string Try.laysCompact g 0 cap ss w hH (by omega) hnc).mono fun e w' h => ?_
    obtain ⟨rfl, q, rfl⟩ := h
    have hcl := Lib.compact_length_le ss
    have hr := Lib.ownsRow_putRow (q := q) (k := (Lib.compact ss).length) (ys := Lib.compact ss ++ List.replicate (ss.length - (Lib.compact ss).length) []) hown2 (by simp; omega) hcl
    rw [List.take_left] at hr
    have hT : obsBlk [(0, .row 9 1 (sR ss) 0 0)] β g := ⟨0, _, rfl, by rw [hβ]; rfl⟩
    refine ⟨_, S, rfl, ⟨rfl, rfl, rfl, by simp [putRow, mapBlock, Sort.ahead], fun k hk hn => ?_, fun _ h => h, fun _ h => .inl h, fun x h => by simp [putRow, mapBlock, Sort.ahead]; exact hS x h⟩, fun k o h => by simp [lk] at h, _, [], _, rfl, by rw [sR_len]; exact hr, sR_repl _ _ _, sR_one _, fun g' hg' => ?_, Reps.nil _ _⟩
    · have : g ≠ k := fun e => hn (by rw [← e]; exact hT)
      simp [putRow, mapBlock, Sort.ahead, Array.getElem?_modify, this]
    · have e : g' = g := by
        simp only [Value.ownBlock, Option.some.injEq] at hg'
        exact hg'.symm
      subst e
      exact ⟨hSb _ (by rw [hβ]; rfl), .inl hT, fun ⟨k, o, h, _⟩ => by simp [lk] at h⟩
theorem sortB (ss : List Str) (hl : ss.length ≤ 1000000000) (rows : List (List AV)) (hrows : rows = sR ss) (out : List (List AV)) (hout : out = sR (ss.mergeSort fun x y => decide (x ≤ y))) :
    CSem Try.prog (.wr 65 [(0, .row 9 1 rows 0 0)] [(0, .row 9 1 out 0 0)]) [.own 0 0] (.pure []) := by
  subst hrows hout
  have hml : (ss.mergeSort fun x y => decide (x ≤ y)).length = ss.length := List.length_mergeSort ss
  refine ⟨fun vs w => enters_of (f := 65) (fn := Try.f65) Try.func65 (by kernel_rfl) rfl vs w, fun w S β xs hS ho hsep hx => ?_⟩
  have ho0 := ho
  obtain ⟨rfl, hown, hSb⟩ := row_in ho hx
  by_cases hv : β 0 = .slice none 0 0
  · have hn : ss = [] := by
      rw [hv] at hown
      rcases hown.2 with ⟨_, h⟩ | ⟨g, cap, cur, h, _⟩
      · exact List.eq_nil_of_length_eq_zero h
      · cases h
    subst hn
    rw [hv]
    refine (Any.slices_Sort_string_none Try.laysSort none 0 w).mono fun e w' h => ?_
    obtain ⟨rfl, rfl⟩ := h
    refine ⟨_, S, rfl, .refl hS, fun k o h => ?_, [], rfl, Reps.nil _ _⟩
    exact ho0 k o (by simpa using h)
  · obtain ⟨g, cap, hβ, -, hlt, hnc, hcm, -, hH⟩ := Lib.holds_of_ownsRow hown hv
    have hT : obsBlk [(0, .row 9 1 (sR ss) 0 0)] β g := ⟨0, _, rfl, by rw [hβ]; rfl⟩
    have hg : g < w.heap.size := hlt
    rcases hown.2 with ⟨h0, _⟩ | ⟨g', cap', cur, hv', hbase, hb, h1, h2, h3, h4⟩
    · exact absurd h0 hv
    rw [hβ] at hv'
    cases hv'
    rw [hβ]
    refine (Any.slices_Sort_string Try.laysSort g 0 cap ss w hH hg (by omega)).mono fun e w' h => ?_
    obtain ⟨rfl, q, os, rfl⟩ := h
    have hr := ownsRow_sorted (n := q) (os := os) (ts := ss.mergeSort fun x y => decide (x ≤ y)) hml hbase hb h1 h2 h3
    have hgb : w.grownBy (grow (putRow encStr (Sort.ahead w q) g 0 (ss.mergeSort fun x y => decide (x ≤ y)).toArray) os) (some g) := grownBy_sorted _
    refine ⟨_, S, rfl, ⟨rfl, rfl, rfl, by simp [putRow, mapBlock, Sort.ahead, grow], fun k hk hn => ?_, fun _ h => h, fun _ h => .inl h, fun x h => by have := hS x h; simp [putRow, mapBlock, Sort.ahead, grow]; omega⟩, fun k o h => ?_, [], rfl, Reps.nil _ _⟩
    · exact hgb.block k hk (fun e => hn (by injection e with e; rw [e]; exact hT))
    · simp only [lk] at h
      split at h
      · rename_i e
        subst e
        injection h with h
        subst h
        refine ⟨_, by rw [hβ, sR_len, hml]; exact hr, sR_repl _ _ _, sR_one _, fun g' hg' => ?_⟩
        exact hSb g' hg'
      · simp at h
end Go.Proofs.Ytljpmnifkccbdaa
set_option linter.unusedSimpArgs false
set_option linter.unusedVariables false
namespace Go.Proofs.Ytljpmnifkccbdaa
open Go Go.RowKit Am Go.Sort

def kOf (s : ByteArray) : Str := s.data.toList
theorem enc_kOf (s : ByteArray) : encStr (kOf s) = .string s := by simp [kOf]
def keyK (e : Ev) : Str := kOf e.op.key
def keysL (l : List Ev) : List Str := srt ((liveAll l).map keyK)
theorem sR_snoc (l : List Str) (e : Ev) : sR (l ++ [keyK e]) = sR l ++ [[aS e.op.key]] := by
  simp [sR, keyK, kOf]
abbrev sh38 (i' n' : Int) (A out : List (List AV)) : St := { slots := [(9, aI i'), (8, aI n'), (7, .sl A), (3, .own 0 0)], obs := [(0, .row 9 1 out 0 0)], ctr := 1 }
theorem keys_ok (l : List Ev) (hl : l.length ≤ 100000000) (rows : List (List AV)) (hrows : rows = evR l) (out : List (List AV)) (hout : out = sR (keysL l)) : CSem Try.prog (.fn 38) [.sl rows] (.own 9 1 out []) := by
  refine of_text gam_ok mixed { n := 24, keep := [18, 23], wrs := [65, 66] } Try.func38 (by kernel_rfl) rfl rfl (by simp) (by decide) fun F C D hF hC hD => ?_
  obtain ⟨A, hA⟩ : ∃ A, A = evR (liveAll l) := ⟨_, rfl⟩
  have hall := hC _ _ _ (liveAll_ok l hl rows hrows A hA)
  have hLa := liveAll_len l
  obtain ⟨n', hn'⟩ : ∃ n', F .len A = n' := ⟨_, rfl⟩
  have en : n' = ((liveAll l).length : Int) := by rw [← hn', lenF hF, hA, evR_len]
  cbv
  refine ⟨_, hall, ?_⟩
  cbv
  rw [hn']
  refine ⟨Nat × Int × List (List AV), fun x => sh38 x.2.1 n' A x.2.2, fun x => x.2.1 = (x.1 : Int) ∧ x.1 ≤ (liveAll l).length ∧ x.2.2 = sR (((liveAll l).take x.1).map keyK), fun x => (liveAll l).length - x.1, ⟨(0, 0, []), ⟨rfl, Nat.zero_le _, by simp [sR]⟩, Le.trans (le_nil 3 9 1 (by rfl) (by rfl)) (le_of [] (by simp [leSl, leOb, injK, memK, parK, noTup, lk, rn0, rnA, plain, aI]))⟩, fun x hx => ?_⟩
  obtain ⟨i, i', o⟩ := x
  obtain ⟨ei, hi, ho⟩ := hx
  simp only at ei hi ho
  have en : n' = ((liveAll l).length : Int) := en
  have tl := ltF hF i (liveAll l).length i' n' ei en
  have ep := incF hF ei (by omega)
  have hol : o.length ≤ (liveAll l).length := by rw [ho, sR_len]; simp; omega
  have room : ∀ q : List (List AV), q.length = 1 → (F .len o + F .len q) * 16 ≤ 140737488355328 := fun q hq => by rw [lenF hF, lenF hF, hq]; omega
  obtain ⟨j, hj⟩ : ∃ j, F .ar .add .i64 i' 1 = j := ⟨_, rfl⟩
  have ej : j = ((i + 1 : Nat) : Int) := hj.symm.trans ep
  cbv
  refine br (fun h => ?_) (fun h => ?_) <;> cbv
  · have hil := tl.1 h
    obtain ⟨e, he⟩ : ∃ e, (liveAll l)[i]? = some e := ⟨_, List.getElem?_eq_getElem hil⟩
    have hrow : A[i]? = some e.ac := by rw [hA]; exact evR_get he
    have htake : (liveAll l).take (i + 1) = (liveAll l).take i ++ [e] := by rw [List.take_add_one, he]; rfl
    obtain ⟨o2, ho2⟩ : ∃ o2, o2 = F .app o [[aS e.op.key]] := ⟨_, rfl⟩
    have hyes : o2 = sR (((liveAll l).take (i + 1)).map keyK) := by rw [ho2, htake, List.map_append, List.map_singleton, sR_snoc, ho, hF]; rfl
    have hrm := room [[aS e.op.key]] rfl
    have hel : ∀ r ∈ [[aS e.op.key]], r.length = 1 := fun r h => by rw [List.mem_singleton.1 h]; rfl
    refine ⟨i, e.ac, ei, hrow, rfl, ?_⟩
    cbv
    refine ⟨hel, hrm, ?_⟩
    rw [hj]
    exact ⟨(i + 1, j, o2), ⟨ej, hil, hyes⟩, (show (liveAll l).length - (i + 1) < (liveAll l).length - i by omega), le_of [(0, 2)] (by simp [leSl, leOb, injK, memK, parK, noTup, lk, rn0, rnA, plain]; exact ⟨ho2.symm, rfl⟩)⟩
  · have hge : (liveAll l).length ≤ i := by have := nfB tl h; omega
    have hfin : o = sR ((liveAll l).map keyK) := by rw [ho, List.take_of_length_le hge]
    obtain ⟨q, hq⟩ : ∃ q, q = sR (((liveAll l).map keyK).mergeSort fun x y => decide (x ≤ y)) := ⟨_, rfl⟩
    refine ⟨_, _, hC _ _ _ (sortB _ (by simp; omega) o hfin q hq), ?_⟩
    cbv
    refine ⟨[], 9, 1, out, [], hC _ _ _ (compactB _ (by simp; omega) q hq out hout), ?_⟩
    cbv
theorem sR_at {l : List Str} {i : Nat} {s : Str} (h : l[i]? = some s) : ∃ a : ByteArray, kOf a = s ∧ (sR l)[i]? = some [aS a] := ⟨⟨s.toArray⟩, by simp [kOf], by simp [sR, h]⟩
theorem kOf_inj {a b : ByteArray} : kOf a = kOf b ↔ a = b := by
  constructor
  · intro h
    cases a; cases b
    simp only [kOf] at h
    congr 1
    exact Array.toList_inj.1 h
  · intro h; rw [h]
theorem texts_ok (l m : List Str) (hl : l.length ≤ 100000000) (hm : m.length ≤ 100000000) (rl rm : List (List AV)) (hrl : rl = sR l) (hrm : rm = sR m) (r : Bool) (hr : r = true ↔ l = m) : CSem Try.prog (.fn 37) [.sl rl, .sl rm] (.pure [aB r]) := by
  refine of_text gam_ok mixed { n := 26 } Try.func37 (by kernel_rfl) rfl rfl (by simp) (by decide) fun F C D hF hC hD => ?_
  have rfalse : l ≠ m → false = r := fun h => by cases r; rfl; exact absurd (hr.1 rfl) h
  have rtrue : l = m → true = r := fun h => (hr.2 h).symm
  obtain ⟨n', hn'⟩ : ∃ n', F .len rl = n' := ⟨_, rfl⟩
  have en : n' = (l.length : Int) := by rw [← hn', lenF hF, hrl, sR_len]
  have t0 : F .cmp .neq n' (F .len rm) = decide (l.length ≠ m.length) := by rw [en, lenF hF, hrm, sR_len, hF]; simp [sy, bne, Bool.beq_eq_decide_eq]; omega
  cbv
  rw [hn']
  refine br (fun h0 => ?_) (fun h0 => ?_) <;> cbv
  · have h0 : l.length ≠ m.length := of_decide_eq_true (t0.symm.trans h0)
    rw [← rfalse (fun h => h0 (by rw [h]))]; exact ⟨rfl, trivial⟩
  have hlm : l.length = m.length := by have := of_decide_eq_false (t0.symm.trans h0); simpa using this
  rw [hn']
  refine ⟨Nat × Int, fun x => { slots := [(13, aI x.2), (12, aI n'), (0, .sl rl), (1, .sl rm)], obs := [], ctr := 0 }, fun x => x.2 = (x.1 : Int) ∧ x.1 ≤ l.length ∧ ∀ (k : Nat), k < x.1 → l[k]? = m[k]?, fun x => l.length - x.1, ⟨(0, 0), ⟨rfl, Nat.zero_le _, fun k hk => by omega⟩, le_of [] (by simp [leSl, leOb, injK, memK, parK, noTup, lk, rn0, rnA, plain, aI])⟩, fun x hx => ?_⟩
  obtain ⟨i, i'⟩ := x
  obtain ⟨ei, hi, hz⟩ := hx
  simp only at ei hi hz
  have en : n' = (l.length : Int) := en
  have tl := ltF hF i l.length i' n' ei en
  have ep := incF hF ei (by omega)
  obtain ⟨j, hj⟩ : ∃ j, F .ar .add .i64 i' 1 = j := ⟨_, rfl⟩
  have ej : j = ((i + 1 : Nat) : Int) := hj.symm.trans ep
  cbv
  refine br (fun h => ?_) (fun h => ?_) <;> cbv
  · have hil := tl.1 h
    obtain ⟨e, he⟩ : ∃ e, l[i]? = some e := ⟨_, List.getElem?_eq_getElem hil⟩
    obtain ⟨f, hf⟩ : ∃ f, m[i]? = some f := ⟨_, List.getElem?_eq_getElem (by omega)⟩
    obtain ⟨a, ha, hrow⟩ := sR_at he
    obtain ⟨b, hb, hrow2⟩ := sR_at hf
    rw [← hrl] at hrow
    rw [← hrm] at hrow2
    have hq : F .scmp .neq a b = !decide (e = f) := by
      rw [hF]
      show (!(a.toList == b.toList)) = _
      congr 1
      rw [← ha, ← hb, Bool.eq_iff_iff, beq_iff_eq, ByteArray.toList_eq, ByteArray.toList_eq]
      simp [kOf]
    refine ⟨hC _ _ _ (ben_ok (by kernel_rfl)), ?_⟩
    cbv
    refine ⟨i, [aS a], ei, hrow, rfl, ?_⟩
    cbv
    refine ⟨i, [aS b], ei, hrow2, rfl, ?_⟩
    cbv
    refine br (fun g => ?_) (fun g => ?_) <;> cbv
    · have hq : e ≠ f := by have := hq.symm.trans g; simpa using this
      rw [← rfalse (fun h => by
        rw [h] at he
        rw [he] at hf
        injection hf with hf
        exact hq hf)]
      exact ⟨rfl, trivial⟩
    · have hq : e = f := by have := hq.symm.trans g; simpa using this
      rw [hj]
      refine ⟨(i + 1, j), ⟨ej, hil, fun k hk => ?_⟩, (show l.length - (i + 1) < l.length - i by omega), le_of [] (by simp [leSl, leOb, injK, memK, parK, noTup, lk, rn0, rnA, plain])⟩
      by_cases e1 : k < i
      · exact hz k e1
      · have : k = i := by have := (show k < i + 1 from hk); omega
        rw [this, he, hf, hq]
  · have hge : l.length ≤ i := by have := nfB tl h; omega
    rw [← rtrue (List.ext_getElem? fun k => by
      by_cases hk : k < i
      · exact hz k hk
      · rw [List.getElem?_eq_none (by omega), List.getElem?_eq_none (by omega)])]
    exact ⟨rfl, trivial⟩
end Go.Proofs.Ytljpmnifkccbdaa
