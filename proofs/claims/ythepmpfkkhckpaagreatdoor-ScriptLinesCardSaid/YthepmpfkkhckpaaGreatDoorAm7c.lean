import Derived.Test.YthepmpfkkhckpaaGreatDoorAm7b
set_option linter.unusedVariables false
set_option linter.unusedSimpArgs false
namespace Go.Proofs.YthepmpfkkhckpaaGreatDoor.Am
open Go Go.RowKit
variable {P : Program}

theorem tup_nil0 {w : World} {S : Nat → Prop} {β : Nat → Value} {obs : Obs} : SRep w S β obs (.tup []) undef := ⟨[], rfl, rfl, fun i u x h => by simp at h⟩
theorem splice_take {α : Type} (A ys : List α) (a N : Nat) (h : a + ys.length ≤ N) (h2 : N ≤ A.length) : (A.take a ++ ys ++ A.drop (a + ys.length)).take N = (A.take N).take a ++ ys ++ (A.take N).drop (a + ys.length) := by
  have e0 : (A.take a ++ ys).length = a + ys.length := by simp; omega
  rw [List.take_append, List.take_of_length_le (by omega), e0, List.take_take, Nat.min_eq_left (by omega), List.drop_take]
theorem setCells_mk : ∀ (off : Nat) (ds cs : List AV), off + ds.length ≤ cs.length → setCells off ds cs = some (cs.take off ++ ds ++ cs.drop (off + ds.length)) := by
  intro off
  induction off with
  | zero =>
    intro ds
    induction ds with
    | nil => intro cs h; simp [setCells]
    | cons x xs ih =>
      intro cs h
      cases cs with
      | nil => simp at h
      | cons c cs =>
        have := ih cs (by simp at h; omega)
        simp only [setCells, this]
        simp
  | succ o ih =>
    intro ds cs h
    cases cs with
    | nil => simp at h
    | cons c cs =>
      have := ih ds cs (by simp at h; omega)
      simp only [setCells, this]
      simp [show o + 1 + ds.length = o + ds.length + 1 by omega]
theorem setCells_len {off : Nat} {ds cs es : List AV} (h : setCells off ds cs = some es) : es.length = cs.length := by
  obtain ⟨h1, h2⟩ := setCells_ok _ _ _ _ h
  rw [h1]
  simp
  omega
theorem flatten_set {sz : Nat} {r r' ds : List AV} {off : Nat} (hs : setCells off ds r = some r') : ∀ (rows : List (List AV)) (i : Nat), (∀ q ∈ rows, q.length = sz) → rows[i]? = some r → setCells (i * sz + off) ds rows.flatten = some (rows.set i r').flatten := by
  obtain ⟨h1, h2⟩ := setCells_ok _ _ _ _ hs
  intro rows
  induction rows with
  | nil => intro i _ h; simp at h
  | cons q rows ih =>
    intro i hl hi
    have hq : q.length = sz := hl q List.mem_cons_self
    cases i with
    | zero =>
      simp at hi
      subst hi
      rw [setCells_mk _ _ _ (by simp; omega)]
      simp only [Nat.zero_mul, Nat.zero_add, List.flatten_cons, List.set_cons_zero, h1]
      rw [List.take_append_of_le_length (by omega), List.drop_append_of_le_length (by omega)]
      simp
    | succ i =>
      have := ih i (fun q hq => hl q (List.mem_cons_of_mem _ hq)) (by simpa using hi)
      obtain ⟨h3, h4⟩ := setCells_ok _ _ _ _ this
      rw [setCells_mk _ _ _ (by rw [List.flatten_cons, List.length_append, Nat.succ_mul]; omega)]
      simp only [List.flatten_cons, List.set_cons_succ, h3]
      rw [show (i + 1) * sz + off = q.length + (i * sz + off) by rw [Nat.succ_mul, hq]; omega]
      rw [List.take_length_add_append, Nat.add_assoc, List.drop_length_add_append]
      simp

/-- A store into a block whose cells are known. -/
theorem store_run {a : Act} {w : World} {o : Oper} {t : Nat} {x v : Operand} {ti : TI} {g off ty : Nat} {cur : Array Value} {ys : List Value} (hop : o.op = .store t x v) (ht : TOK P t ti) (hx : a.eval x = .pointer (some ⟨g, off, none⟩)) (hy : (a.eval v).cells = ys.toArray) (hl : ys.length = ti.size)
    {fr : Nat × Nat} (hh : w.heap[g]? = some (.cells cur ty fr)) (hfr : frB ty fr cur.size) (hle : off + ys.length ≤ cur.size) (hone : ∀ y ∈ ys, y.oneCell' = true) :
    ∃ w', (execOp a.eval o).run P w = .ok .skip w' ∧ w'.heap[g]? = some (.cells (cur.toList.take off ++ ys ++ cur.toList.drop (off + ys.length)).toArray ty fr) ∧ (∀ j, j ≠ g → w'.heap[j]? = w.heap[j]?) ∧ w'.heap.size = w.heap.size ∧ w'.os = w.os ∧ w'.tape = w.tape ∧ w'.output = w.output := by
  have hrun := run_storeCells_B P g off ty fr ys 0 cur w hh hfr (by omega) hone
  simp only [Nat.add_zero] at hrun
  refine ⟨w.setRow g (cur.toList.take off ++ ys ++ cur.toList.drop (off + ys.length)).toArray, ?_, setRow_heap w g _ _ ty _ hh, fun j hj => setRow_other w g j _ hj, by simp, rfl, rfl, rfl⟩
  have hsize : ¬ ((a.eval v).cells.size ≠ ti.size) := by rw [hy]; simp [hl]
  simp only [execOp, hop, hx]
  simp [Instr.storeAt, Instr.sureAddr, storeVar, ht.size, hsize, hy, hl, hrun]

/-- What a write into one object's block leaves. -/
theorem write_one {w w' : World} {S : Nat → Prop} {β : Nat → Value} {obs : Obs} {k g : Nat} {old new : Ob} (hk : lk k obs = some old) (hbk : blkOf (β k) = some g) (hS : ∀ g, S g → g < w.heap.size) (ho : ∀ k o, lk k obs = some o → ORep w S 0 (β k) o)
    (hsep : ∀ k k' o o', lk k obs = some o → lk k' obs = some o' → k ≠ k' → ∀ g, blkOf (β k) = some g → blkOf (β k') = some g → False)
    (hother : ∀ j, j ≠ g → w'.heap[j]? = w.heap[j]?) (hsz : w'.heap.size = w.heap.size) (hnew : ORep w' S 0 (β k) new)
    (hrel : match old, new with
      | .row e sz rows ver m, .row e' sz' rows' ver' m' => e' = e ∧ sz' = sz ∧ rows'.length = rows.length ∧ ver' = ver ∧ m < m'
      | .box _ _ _, .box _ _ _ => True
      | .mp _ _, .mp _ _ => True
      | .it _ _ _, .it _ _ _ => True
      | _, _ => False) :
    SameOn S w w' ∧ (∀ j o, lk j ((k, new) :: del k obs) = some o → ORep w' S 0 (β j) o) ∧ (∀ x y, SRep0 w S β obs x y → SRep0 w' S β ((k, new) :: del k obs) x y) := by
  have hSg : ¬ S g := (orep_blk (ho k old hk) hbk).2.2
  have hsame : SameOn S w w' := fun j hj => hother j (fun e => hSg (e ▸ hj))
  refine ⟨hsame, fun j o hj => ?_, fun x y hxy => ?_⟩
  · simp only [lk] at hj
    split at hj
    · rename_i e
      injection hj with hj
      subst hj e
      exact hnew
    · rename_i e
      rw [lk_del, if_neg (fun h => e h.symm)] at hj
      refine orep_mono hsame (fun _ h => h) (fun j' hj' => ⟨hother j' (fun e' => ?_), (orep_blk (ho j o hj) hj').2.2⟩) (ho j o hj)
      subst e'
      exact hsep k j _ o hk hj e j' hbk hj'
  · have get : ∀ j e sz rows v m, lk j ((k, new) :: del k obs) = some (.row e sz rows v m) → (lk j obs = some (.row e sz rows v m)) ∨ ∃ rows0 m0, lk j obs = some (.row e sz rows0 v m0) ∧ rows.length = rows0.length ∧ m0 < m := by
      intro j e sz rows v m hj
      simp only [lk] at hj
      split at hj
      · rename_i ee
        injection hj with hj
        subst hj ee
        cases old with
        | box ty cs fz => exact hrel.elim
        | mp ks vs => exact hrel.elim
        | it ks vs cur => exact hrel.elim
        | row e0 sz0 rows0 v0 m0 =>
          obtain ⟨h1, h2, h3, h4, h5⟩ := hrel
          subst h1 h2 h4
          exact .inr ⟨rows0, m0, hk, h3, h5⟩
      · rename_i ee
        rw [lk_del, if_neg (fun h => ee h.symm)] at hj
        exact .inl hj
    cases x <;> try exact Rep.mono hsame (fun _ h => h) hxy
    · exact hxy
    · rename_i j v
      intro e sz rows m hj
      rcases get _ _ _ _ _ _ hj with h | ⟨rows0, m0, h, _⟩
      · exact (show ∀ e sz rows m, lk j obs = some (.row e sz rows v m) → y = β j from hxy) _ _ _ _ h
      · exact (show ∀ e sz rows m, lk j obs = some (.row e sz rows v m) → y = β j from hxy) _ _ _ _ h
    · rename_i j v m i cs off
      intro e sz rows m' hj
      rcases get _ _ _ _ _ _ hj with h | ⟨rows0, m0, h, hl, hm⟩
      · exact (show RelP β obs j v m i cs off y from hxy) _ _ _ _ h
      · obtain ⟨h1, h2, h3, h4⟩ := (show RelP β obs j v m i cs off y from hxy) _ _ _ _ h
        exact ⟨by omega, by omega, h3, fun e => by omega⟩
    · rename_i j v lo
      intro e sz rows m' hj
      rcases get _ _ _ _ _ _ hj with h | ⟨rows0, m0, h, hl, hm⟩
      · exact (show ∀ e sz rows m, lk j obs = some (.row e sz rows v m) → OslP β j lo sz rows.length y from hxy) _ _ _ _ h
      · rw [hl]; exact (show ∀ e sz rows m, lk j obs = some (.row e sz rows v m) → OslP β j lo sz rows.length y from hxy) _ _ _ _ h
    · rename_i j
      intro ks vs hj
      simp only [lk] at hj
      split at hj
      · rename_i ee
        injection hj with hj
        subst hj ee
        cases old with
        | mp ks0 vs0 => exact (show ∀ ks vs, lk k obs = some (.mp ks vs) → y = β k from hxy) _ _ hk
        | box ty cs fz => exact hrel.elim
        | it ks vs cur => exact hrel.elim
        | row e sz rows ver m => exact hrel.elim
      · rename_i ee
        rw [lk_del, if_neg (fun h => ee h.symm)] at hj
        exact (show ∀ ks vs, lk j obs = some (.mp ks vs) → y = β j from hxy) _ _ hj
    · exact trivial
theorem wgood_ptr {ev : Operand → Option AV} {obs : Obs} {t k off ty : Nat} {x v : Operand} {ti : TI} {u : AV} {cs ds cs' : List AV} {fz : Bool} (ht : TOK P t ti) (hx : ev x = some (.ptr k off)) (hu : ev v = some u) (hk : lk k obs = some (.box ty cs fz)) (hc : cellsOf u = some ds) (hl : ds.length = ti.size) (hs : setCells off ds cs = some cs') :
    WGood P ev obs (.store t x v) ((k, .box ty cs' fz) :: del k obs) (.tup []) := by
  intro a w S β hS hgd hev ho hsep o hop K Q hK
  obtain ⟨g, h1, h2⟩ := (show ∃ g, β k = .pointer (some ⟨g, 0, none⟩) ∧ a.eval x = .pointer (some ((⟨g, 0, none⟩ : Addr).add off)) from hev x (by simp [Op.operands]) _ hx)
  obtain ⟨g', xs, he, hB, hSg, hh, hr⟩ := ho _ _ hk
  rw [h1] at he
  injection he with he
  injection he with he
  injection he with he
  subst he
  obtain ⟨ys, hy, hry⟩ := cells_of hc (hev v (by simp [Op.operands]) _ hu)
  have hyl : ys.length = ti.size := by rw [← hry.1, hl]
  have hle := (setCells_ok _ _ _ _ hs).2
  have hset := repl_set hs hr hry
  rw [add_mk] at h2
  have hcl := hr.1
  obtain ⟨w', hexec, hheap, hother, hsz, e1, e2, e3⟩ := store_run (P := P) hop ht (by simpa using h2) hy hyl hh (.inl rfl) (by simp; omega) hry.one
  simp only [] at hheap
  have hsame0 : SameOn S w w' := fun j hj => hother j (fun e => hSg (e ▸ hj))
  obtain ⟨hsame, hobj, hsr⟩ := write_one (new := .box ty cs' fz) hk (by rw [h1]; rfl) hS ho hsep hother hsz ⟨g, _, h1, Nat.zero_le _, hSg, hheap, hset.mono hsame0 (fun _ h => h)⟩ trivial
  unfold Oper.wp
  rw [hexec]
  exact hK undef w' S ⟨e1, e2, e3, by omega, fun j _ hT => hother j (fun e => hT ⟨k, _, hk, by rw [h1, e]; rfl⟩), fun _ h => h, fun _ h => .inl h, fun j hj => by rw [hsz]; exact hS j hj, hgd, hgd.mono hsame (fun _ h => h)⟩ hobj hsr tup_nil0
theorem wgood_rel {ev : Operand → Option AV} {obs : Obs} {t k e sz ver mver m i off : Nat} {rows : List (List AV)} {x v : Operand} {ti : TI} {u : AV} {cs0 ds : List AV} {r r' : List AV} (ht : TOK P t ti) (hx : ev x = some (.rel k ver mver i cs0 off)) (hu : ev v = some u) (hk : lk k obs = some (.row e sz rows ver m)) (hc : cellsOf u = some ds) (hl : ds.length = ti.size)
    (hr : rows[i]? = some r) (hs : setCells off ds r = some r') :
    WGood P ev obs (.store t x v) ((k, .row e sz (rows.set i r') ver (m + 1)) :: del k obs) (.tup []) := by
  intro a w S β hS hgd hev ho hsep o hop K Q hK
  obtain ⟨hmv, hi, ⟨g, n, c, h1, h2⟩, _⟩ := (show RelP β obs k ver mver i cs0 off (a.eval x) from hev x (by simp [Op.operands]) _ hx) _ _ _ _ hk
  obtain ⟨xs, hown, hrep, hlen, hSv⟩ := ho _ _ hk
  obtain ⟨ys, hy, hry⟩ := cells_of hc (hev v (by simp [Op.operands]) _ hu)
  have hyl : ys.length = ti.size := by rw [← hry.1, hl]
  have hfs := flatten_set hs rows i hlen hr
  have hle := (setCells_ok _ _ _ _ hfs).2
  have hset := repl_set hfs hrep hry
  rw [add_mk] at h2
  have hxl : xs.length = rows.flatten.length := hrep.1.symm
  rcases hown.2 with ⟨hv, _⟩ | ⟨g', cap, cur, fr, hv, _, hh, hfr, hn, hm, hcs, htake⟩
  · rw [h1] at hv; simp at hv
  · rw [h1] at hv
    injection hv with h3 h4 h5
    injection h3 with h3
    injection h3 with h3
    subst h3 h4 h5
    have hfl : rows.flatten.length = rows.length * sz := flatten_len rows hlen
    have hcap : rows.length * sz ≤ c * sz := Nat.mul_le_mul_right _ hn
    obtain ⟨w', hexec, hheap, hother, hsz, e1, e2, e3⟩ := store_run (P := P) hop ht (by simpa using h2) hy hyl hh hfr (by rw [← hry.1]; omega) hry.one
    have hSg : ¬ S g := hSv g (by rw [h1]; rfl)
    have hsame0 : SameOn S w w' := fun j hj => hother j (fun e => hSg (e ▸ hj))
    have hdl : ds.length = ys.length := hry.1
    have hown' : OwnR w' 0 e sz (β k) (rows.set i r').length (xs.take (i * sz + off) ++ ys ++ xs.drop (i * sz + off + ys.length)) := by
      refine ⟨?_, .inr ⟨g, c, _, fr, by rw [h1, List.length_set], Nat.zero_le _, hheap, ?_, by simpa using hn, hm, ?_, ?_⟩⟩
      · simp
        omega
      · rw [show (cur.toList.take (i * sz + off) ++ ys ++ cur.toList.drop (i * sz + off + ys.length)).toArray.size = cur.size by simp; omega]; exact hfr
      · simp
        omega
      · simp only [List.length_set]
        have hx : xs = cur.toList.take (rows.length * sz) := htake.symm
        have hcl : (cur.toList).length = c * sz := by simpa using hcs
        have := splice_take cur.toList ys (i * sz + off) (rows.length * sz) (by omega) (by omega)
        rw [hx]
        simpa using this
    obtain ⟨hsame, hobj, hsr⟩ := write_one (new := .row e sz (rows.set i r') ver (m + 1)) hk (by rw [h1]; rfl) hS ho hsep hother hsz ⟨_, hown', hset.mono hsame0 (fun _ h => h), fun q hq => by
        rcases List.mem_or_eq_of_mem_set hq with h | h
        · exact hlen q h
        · subst h; rw [setCells_len hs]; exact hlen r (List.mem_of_getElem? hr), hSv⟩ ⟨rfl, rfl, by simp, rfl, by omega⟩
    unfold Oper.wp
    rw [hexec]
    exact hK undef w' S ⟨e1, e2, e3, by omega, fun j _ hT => hother j (fun e => hT ⟨k, _, hk, by rw [h1, e]; rfl⟩), fun _ h => h, fun _ h => .inl h, fun j hj => by rw [hsz]; exact hS j hj, hgd, hgd.mono hsame (fun _ h => h)⟩ hobj hsr tup_nil0
/-- A write that turns nothing. -/
theorem write_none {w : World} {S : Nat → Prop} {β : Nat → Value} {obs : Obs} {k e sz ver m : Nat} {rows : List (List AV)} (hk : lk k obs = some (.row e sz rows ver m)) (ho : ∀ k o, lk k obs = some o → ORep w S 0 (β k) o) :
    (∀ j o, lk j ((k, Ob.row e sz rows ver (m + 1)) :: del k obs) = some o → ORep w S 0 (β j) o) ∧ (∀ x y, SRep0 w S β obs x y → SRep0 w S β ((k, Ob.row e sz rows ver (m + 1)) :: del k obs) x y) := by
  have get : ∀ j o, lk j ((k, Ob.row e sz rows ver (m + 1)) :: del k obs) = some o → (lk j obs = some o) ∨ (j = k ∧ o = .row e sz rows ver (m + 1)) := by
    intro j o hj
    simp only [lk] at hj
    split at hj
    · rename_i ee
      injection hj with hj
      exact .inr ⟨ee.symm, hj.symm⟩
    · rename_i ee
      rw [lk_del, if_neg (fun h => ee h.symm)] at hj
      exact .inl hj
  refine ⟨fun j o hj => ?_, fun x y hxy => ?_⟩
  · rcases get j o hj with h | ⟨rfl, rfl⟩
    · exact ho j o h
    · exact (show ORep w S 0 (β j) (.row e sz rows ver (m + 1)) from ho j (.row e sz rows ver m) hk)
  · cases x <;> try exact hxy
    · rename_i j v
      intro e2 sz2 rows2 m2 hj
      rcases get _ _ hj with h | ⟨rfl, h⟩
      · exact (show ∀ e sz rows m, lk j obs = some (.row e sz rows v m) → y = β j from hxy) _ _ _ _ h
      · injection h with h1 h2 h3 h4 h5
        subst h1 h2 h3 h4 h5
        exact (show ∀ e sz rows m, lk j obs = some (.row e sz rows v m) → y = β j from hxy) _ _ _ _ hk
    · rename_i j v m1 i cs off
      intro e2 sz2 rows2 m2 hj
      rcases get _ _ hj with h | ⟨rfl, h⟩
      · exact (show RelP β obs j v m1 i cs off y from hxy) _ _ _ _ h
      · injection h with h1 h2 h3 h4 h5
        subst h1 h2 h3 h4 h5
        obtain ⟨h1, h2, h3, h4⟩ := (show RelP β obs j v m1 i cs off y from hxy) _ _ _ _ hk
        exact ⟨by omega, h2, h3, fun e => by omega⟩
    · rename_i j v lo
      intro e2 sz2 rows2 m2 hj
      rcases get _ _ hj with h | ⟨rfl, h⟩
      · exact (show ∀ e sz rows m, lk j obs = some (.row e sz rows v m) → OslP β j lo sz rows.length y from hxy) _ _ _ _ h
      · injection h with h1 h2 h3 h4 h5
        subst h1 h2 h3 h4 h5
        exact (show ∀ e sz rows m, lk j obs = some (.row e sz rows v m) → OslP β j lo sz rows.length y from hxy) _ _ _ _ hk
    · rename_i j
      intro ks vs hj
      rcases get _ _ hj with h | ⟨rfl, h⟩
      · exact (show ∀ ks vs, lk j obs = some (.mp ks vs) → y = β j from hxy) _ _ h
      · cases h
theorem flat_rep {α : Type} (l : List α) : ∀ (n i : Nat), ((List.replicate n l).flatten)[i]? = if i < n * l.length then l[i % l.length]? else none := by
  intro n
  induction n with
  | zero => intro i; simp
  | succ n ih =>
    intro i
    rw [List.replicate_succ, List.flatten_cons, Nat.succ_mul]
    by_cases h : i < l.length
    · rw [List.getElem?_append_left h, if_pos (by omega), Nat.mod_eq_of_lt h]
    · rw [List.getElem?_append_right (by omega), ih]
      by_cases h2 : i < n * l.length + l.length
      · rw [if_pos (by omega), if_pos h2, ← Nat.mod_eq_sub_mod (by omega)]
      · rw [if_neg (by omega), if_neg h2]
theorem zeroCells_list (zc : Array Value) (n : Nat) : (Builtin.zeroCells zc n).toList = (List.replicate n zc.toList).flatten := by
  refine List.ext_getElem? fun i => ?_
  rw [flat_rep]
  unfold Builtin.zeroCells
  simp only [Array.toList_map, Array.toList_range, List.getElem?_map, Array.length_toList]
  by_cases h : i < n * zc.size
  · have h0 : 0 < zc.size := by
      rcases Nat.eq_zero_or_pos zc.size with e | e
      · rw [e] at h; simp at h
      · exact e
    rw [if_pos h, List.getElem?_range h]
    have hm := Nat.mod_lt i h0
    simp [hm]
  · rw [if_neg h, List.getElem?_eq_none (by simp; omega)]; rfl
theorem repl_rep {w : World} {S : Nat → Prop} {cs : List AV} {xs : List Value} (h : RepL w S cs xs) : ∀ n, RepL w S (List.replicate n cs).flatten (List.replicate n xs).flatten := by
  intro n
  induction n with
  | zero => exact RepL.nil _ _
  | succ n ih => simp only [List.replicate_succ, List.flatten_cons]; exact h.append ih
theorem wgood_clear {ev : Operand → Option AV} {obs : Obs} {t k e e' sz ver m lo bytes : Nat} {rows : List (List AV)} {x : Operand} {ti te : TI} (ht : TOK P t ti) (hkd : ti.kind = .sli e sz bytes) (hte : TOK P e te) (hx : ev x = some (.osl k ver lo)) (hk : lk k obs = some (.row e' sz rows ver m)) :
    WGood P ev obs (.call { callee := .builtin .clear, args := #[x], argTypes := #[t] }) ((k, .row e' sz (rows.take lo ++ List.replicate (rows.length - lo) te.zero) ver (m + 1)) :: del k obs) (.tup []) := by
  intro a w S β hS hgd hev ho hsep o hop K Q hK
  obtain ⟨hlo, ad, c', hy, hnz⟩ := (show ∀ e sz rows m, lk k obs = some (.row e sz rows ver m) → OslP β k lo sz rows.length (a.eval x) from hev x (by simp [Op.operands, Call.operands]) _ hx) _ _ _ _ hk
  obtain ⟨xs, hown, hrep, hlen, hSv⟩ := ho _ _ hk
  have hkd' := ht.kind
  rw [hkd] at hkd'
  obtain ⟨hu, ⟨hpos, hposb⟩, inf, z0, hinf, hz0, hsz0, hby, hzs⟩ := hkd'
  obtain ⟨z, hz, hzl, hzr⟩ := hte.zero w
  have hzsz : te.size = sz := by
    have h1 := hte.size w
    rw [run_sizeOf_info (P := P) hinf hsz0 w] at h1
    injection h1 with h1
    exact h1.symm
  by_cases hn : rows.length - lo = 0
  · have hrows : rows.take lo ++ List.replicate (rows.length - lo) te.zero = rows := by rw [hn, List.take_of_length_le (by omega)]; simp
    rw [hrows] at hK
    obtain ⟨hobj, hsr⟩ := write_none hk ho
    rw [hn] at hy
    have hexec : (execOp a.eval o).run P w = .ok (.value (.tuple #[])) w := by
      cases ad with
      | none => simp [execOp, hop, resolve, invoke, builtin, Builtin.clear_, hy, run_underlying hu]
      | some ad => simp [execOp, hop, resolve, invoke, builtin, Builtin.clear_, hy, run_underlying hu]
    refine wp_val hexec ?_
    exact hK _ w S ⟨rfl, rfl, rfl, Nat.le_refl _, fun _ _ _ => rfl, fun _ h => h, fun _ h => .inl h, hS, hgd, hgd⟩ hobj hsr tup_nil0
  · obtain ⟨g, n', c, hβ, had⟩ := hnz (by omega)
    subst had
    rcases hown.2 with ⟨hv, _⟩ | ⟨g', cap, cur, fr, hv, _, hh, hfr, hnc, hm, hcs, htake⟩
    · rw [hβ] at hv; simp at hv
    · rw [hβ] at hv
      injection hv with h3 h4 h5
      injection h3 with h3
      injection h3 with h3
      subst h3 h4 h5
      have hSg : ¬ S g := hSv g (by rw [hβ]; rfl)
      have hfl : rows.flatten.length = rows.length * sz := flatten_len rows hlen
      have hxl : xs.length = rows.length * sz := by rw [← hrep.1, hfl]
      obtain ⟨ys, hys⟩ : ∃ ys, ys = (List.replicate (rows.length - lo) z.cells.toList).flatten := ⟨_, rfl⟩
      have hzl2 : z.cells.toList.length = sz := by simp [hzl, hzsz]
      have hyl : ys.length = (rows.length - lo) * sz := by rw [hys]; simp [List.length_flatten, hzl2]
      have hcap : rows.length * sz ≤ c * sz := Nat.mul_le_mul_right _ hnc
      have hsub : lo * sz + (rows.length - lo) * sz = rows.length * sz := by rw [← Nat.add_mul]; congr 1; omega
      have hzc : (Builtin.zeroCells z.cells (rows.length - lo)).toList = ys := by rw [zeroCells_list, hys]
      have hone : ∀ y ∈ ys, y.oneCell' = true := ((repl_rep (hzr w S) (rows.length - lo)).one) |> fun h => by rw [hys]; exact h
      have hrun := run_storeCells_B P g (lo * sz) _ fr ys 0 cur w hh hfr (by omega) hone
      simp only [Nat.add_zero] at hrun
      have hexec : (execOp a.eval o).run P w = .ok (.value (.tuple #[])) (w.setRow g (cur.toList.take (lo * sz) ++ ys ++ cur.toList.drop (lo * sz + ys.length)).toArray) := by
        have hnn : ∃ q, rows.length - lo = q + 1 := ⟨rows.length - lo - 1, by omega⟩
        obtain ⟨q, hq⟩ := hnn
        rw [hq] at hy hzc
        rw [add_mk] at hy
        simp only [execOp, hop, resolve, invoke, builtin, Builtin.clear_]
        simp [hy, run_underlying hu, hz, hzc, hrun]
      have hheap := setRow_heap w g cur (cur.toList.take (lo * sz) ++ ys ++ cur.toList.drop (lo * sz + ys.length)).toArray _ _ hh
      have hother : ∀ j, j ≠ g → (w.setRow g (cur.toList.take (lo * sz) ++ ys ++ cur.toList.drop (lo * sz + ys.length)).toArray).heap[j]? = w.heap[j]? := fun j hj => setRow_other w g j _ hj
      have hsize : (w.setRow g (cur.toList.take (lo * sz) ++ ys ++ cur.toList.drop (lo * sz + ys.length)).toArray).heap.size = w.heap.size := by simp
      generalize hw' : w.setRow g (cur.toList.take (lo * sz) ++ ys ++ cur.toList.drop (lo * sz + ys.length)).toArray = w' at *
      have hsame0 : SameOn S w w' := fun j hj => hother j (fun e => hSg (e ▸ hj))
      have hlen2 : (rows.take lo ++ List.replicate (rows.length - lo) te.zero).length = rows.length := by simp; omega
      have hzz : te.zero.length = sz := by rw [(hzr w S).1, hzl2]
      have hrep' : RepL w S (rows.take lo ++ List.replicate (rows.length - lo) te.zero).flatten (xs.take (lo * sz) ++ ys) := by
        rw [List.flatten_append]
        refine RepL.append ?_ (by rw [hys]; exact repl_rep (hzr w S) _)
        have : (rows.take lo).flatten = rows.flatten.take (lo * sz) := by
          have h1 : rows.flatten = (rows.take lo).flatten ++ (rows.drop lo).flatten := by rw [← List.flatten_append, List.take_append_drop]
          have h2 : (rows.take lo).flatten.length = lo * sz := by
            rw [flatten_len (sz := sz) _ (fun r hr => hlen r (List.mem_of_mem_take hr)), List.length_take, Nat.min_eq_left hlo]
          conv => rhs; rw [h1, List.take_append_of_le_length (by omega), List.take_of_length_le (by omega)]
        rw [this]
        exact hrep.take _
      have hcl : (cur.toList).length = c * sz := by simpa using hcs
      have hown' : OwnR w' 0 e' sz (β k) (rows.take lo ++ List.replicate (rows.length - lo) te.zero).length (xs.take (lo * sz) ++ ys) := by
        rw [hlen2]
        refine ⟨by rw [List.length_append, List.length_take, hyl, hxl]; omega, .inr ⟨g, c, _, fr, hβ, Nat.zero_le _, hheap, ?_, hnc, hm, ?_, ?_⟩⟩
        · rw [show (cur.toList.take (lo * sz) ++ ys ++ cur.toList.drop (lo * sz + ys.length)).toArray.size = cur.size by simp; omega]; exact hfr
        · simp
          omega
        · have hx : xs = cur.toList.take (rows.length * sz) := htake.symm
          have := splice_take cur.toList ys (lo * sz) (rows.length * sz) (by omega) (by omega)
          simp only [List.toList_toArray] at this ⊢
          rw [this, hx, List.take_take, Nat.min_eq_left (by omega), List.drop_of_length_le (l := List.take _ _) (by simp; omega)]
          simp
      obtain ⟨hsame, hobj, hsr⟩ := write_one (new := .row e' sz (rows.take lo ++ List.replicate (rows.length - lo) te.zero) ver (m + 1)) hk (by rw [hβ]; rfl) hS ho hsep hother hsize ⟨_, hown', hrep'.mono hsame0 (fun _ h => h), fun q hq => by
          rcases List.mem_append.1 hq with h | h
          · exact hlen q (List.mem_of_mem_take h)
          · rw [(List.mem_replicate.1 h).2]; exact hzz, hSv⟩ ⟨rfl, rfl, hlen2, rfl, by omega⟩
      refine wp_val hexec ?_
      have e1 : w'.os = w.os := by rw [← hw']; rfl
      have e2 : w'.tape = w.tape := by rw [← hw']; rfl
      have e3 : w'.output = w.output := by rw [← hw']; rfl
      exact hK _ w' S ⟨e1, e2, e3, by omega, fun j _ hT => hother j (fun e => hT ⟨k, _, hk, by rw [hβ, e]; rfl⟩), fun _ h => h, fun _ h => .inl h, fun j hj => by rw [hsize]; exact hS j hj, hgd, hgd.mono hsame (fun _ h => h)⟩ hobj hsr tup_nil0
/-! ### A map's entry written -/
theorem ent_miss {s : ByteArray} {v : AV} : ∀ (ks : List ByteArray) (vs : List AV) (es : List MapEntry) (i : Nat), es.map (·.key) = ks.map Value.string → vs.length = ks.length → fnd ks es s i = none → mputK ks s = ks ++ [s] ∧ mputV ks vs s v = vs ++ [v]
  | [], [], _, _, _, _, _ => ⟨rfl, rfl⟩
  | [], _ :: _, _, _, _, h, _ => by simp at h
  | _ :: _, [], _, _, _, h, _ => by simp at h
  | _ :: _, _ :: _, [], _, h, _, _ => by cases h
  | k :: ks, u :: vs, e :: es, i, hk, hl, hf => by
    simp only [List.map_cons, List.cons.injEq] at hk
    unfold fnd at hf
    split at hf
    · cases hf
    · rename_i hne
      obtain ⟨h1, h2⟩ := ent_miss (s := s) (v := v) ks vs es (i + 1) hk.2 (by simpa using hl) hf
      unfold mputK mputV
      rw [if_neg hne, if_neg hne, h1, h2]
      exact ⟨rfl, rfl⟩
theorem ent_hit {w : World} {S : Nat → Prop} {s : ByteArray} {v : AV} {y : Value} (hv : Rep w S v y) : ∀ (ks : List ByteArray) (vs : List AV) (es : List MapEntry) (i j : Nat) (y0 : Value), es.map (·.key) = ks.map Value.string → vs.length = ks.length → (∀ (j : Nat) (u : AV) (e : MapEntry), vs[j]? = some u → es[j]? = some e → Rep w S u e.val) → fnd ks es s i = some (j, y0) →
    ∃ n, j = i + n ∧ (∃ e, es[n]? = some e ∧ e.key = .string s) ∧ (es.modify n fun e => { e with key := .string s, val := y }).map (·.key) = (mputK ks s).map Value.string ∧ (mputV ks vs s v).length = (mputK ks s).length ∧
      ∀ (j : Nat) (u : AV) (e : MapEntry), (mputV ks vs s v)[j]? = some u → (es.modify n fun e => { e with key := .string s, val := y })[j]? = some e → Rep w S u e.val
  | [], _, _, _, _, _, _, _, _, h => by simp [fnd] at h
  | _ :: _, [], _, _, _, _, _, h, _, _ => by simp at h
  | _ :: _, _ :: _, [], _, _, _, h, _, _, _ => by cases h
  | k :: ks, u :: vs, e :: es, i, j, y0, hk, hl, hr, hf => by
    simp only [List.map_cons, List.cons.injEq] at hk
    unfold fnd at hf
    by_cases hks : k = s
    · rw [if_pos hks] at hf
      injection hf with hf
      injection hf with hf1 hf2
      subst hks
      refine ⟨0, by omega, ⟨e, rfl, hk.1⟩, ?_, ?_, ?_⟩
      · unfold mputK; rw [if_pos rfl]; simp [hk.2]
      · unfold mputK mputV; rw [if_pos rfl, if_pos rfl]; simpa using hl
      · intro j u' e' hu he
        unfold mputV at hu
        rw [if_pos rfl] at hu
        cases j with
        | zero => simp at hu he; subst hu he; exact hv
        | succ j => exact hr (j + 1) u' e' (by simpa using hu) (by simpa using he)
    · rw [if_neg hks] at hf
      obtain ⟨n, h1, h2, h3, h4, h5⟩ := ent_hit hv ks vs es (i + 1) j y0 hk.2 (by simpa using hl) (fun j u e' hu he => hr (j + 1) u e' (by simpa using hu) (by simpa using he)) hf
      refine ⟨n + 1, by omega, ?_, ?_, ?_, ?_⟩
      · obtain ⟨e', he, hke⟩ := h2; exact ⟨e', by simpa using he, hke⟩
      · unfold mputK; rw [if_neg hks]; simp only [List.modify_succ_cons, List.map_cons]; rw [h3, hk.1]
      · unfold mputK mputV; rw [if_neg hks, if_neg hks]; simp [h4]
      · intro j u' e' hu he
        unfold mputV at hu
        rw [if_neg hks] at hu
        cases j with
        | zero => simp at hu he; subst hu he; exact hr 0 _ _ rfl rfl
        | succ j => exact h5 j u' e' (by simpa using hu) (by simpa using he)
theorem stays_str (s : ByteArray) (w : World) : (Instr.keyThatStays (.string s) (.string s)).run P w = .ok (.string s) w := by
  unfold Instr.keyThatStays
  have : Instr.sameBits 10000 (.string s) (.string s) = true := by
    show Instr.sameBits (9999 + 1) (.string s) (.string s) = true
    unfold Instr.sameBits
    rw [bytes_beqA]; exact decide_eq_true rfl
  simp [this]
theorem setObj_map {w : World} {r : Nat} {es : Array MapEntry} {clock : Nat} (o : Obj) (hb : w.heap[r]? = some (.map es clock)) : (setObj r o).run P w = .ok () { w with heap := w.heap.setIfInBounds r o } := by simp [setObj, Sem.run, hb]
theorem births_push {es : Array MapEntry} {clock : Nat} (hn : (es.toList.map (·.born)).Nodup) (hb : ∀ x ∈ es.toList, x.born < clock) (e : MapEntry) (he : e.born = clock) : ((es.push e).toList.map (·.born)).Nodup := by
  rw [Array.toList_push, List.map_append, List.nodup_append]
  refine ⟨hn, by simp, fun a ha b hb' hab => ?_⟩
  obtain ⟨x, hx, rfl⟩ := List.mem_map.1 ha
  simp at hb'
  have := hb x hx
  omega
theorem born_push {es : Array MapEntry} {clock : Nat} (hb : ∀ x ∈ es.toList, x.born < clock) (e : MapEntry) (he : e.born = clock) : ∀ x ∈ (es.push e).toList, x.born < clock + 1 := fun x hx => by
  rw [Array.toList_push, List.mem_append] at hx
  rcases hx with hx | hx
  · have := hb x hx; omega
  · simp at hx; subst hx; omega
theorem births_modify (es : Array MapEntry) (j : Nat) (f : MapEntry → MapEntry) (hf : ∀ e, (f e).born = e.born) : (es.modify j f).toList.map (·.born) = es.toList.map (·.born) := by
  rw [Array.toList_modify]
  apply List.ext_getElem?
  intro i
  rw [List.getElem?_map, List.getElem?_map, List.getElem?_modify]
  cases es.toList[i]? with
  | none => rfl
  | some e => simp only [Option.map_some]; split <;> simp [hf]
theorem born_modify {es : Array MapEntry} {clock : Nat} (hb : ∀ x ∈ es.toList, x.born < clock) (j : Nat) (f : MapEntry → MapEntry) (hf : ∀ e, (f e).born = e.born) : ∀ x ∈ (es.modify j f).toList, x.born < clock := fun x hx => by
  have h1 : x.born ∈ (es.modify j f).toList.map (·.born) := List.mem_map_of_mem hx
  rw [births_modify es j f hf] at h1
  obtain ⟨y, hy, he⟩ := List.mem_map.1 h1
  have := hb y hy
  omega
theorem wgood_map {ev : Operand → Option AV} {obs : Obs} {t k e ko : Nat} {m x v : Operand} {ti : TI} {s : ByteArray} {u : AV} {ks ks' : List ByteArray} {vs vs' : List AV} (ht : TOK P t ti) (hkd : ti.kind = .mp k e) (hm : ev m = some (.mo ko)) (hx : ev x = some (.v (.string s))) (hu : ev v = some u) (hok : okArg u = true) (hk : lk ko obs = some (.mp ks vs)) (hmp : MP ks vs s (plain u) ks' vs') :
    WGood P ev obs (.mapUpdate t m x v) ((ko, .mp ks' vs') :: del ko obs) (.tup []) := by
  intro a w S β hS hgd hev ho hsep o hop K Q hK
  obtain ⟨r, es, clock, hb, hB, hSr, hh, h1, h2, hnd, hbd, h3⟩ := ho _ _ hk
  have hy : a.eval m = .map (some r) := ((show ∀ ks vs, lk ko obs = some (.mp ks vs) → a.eval m = β ko from hev m (by simp [Op.operands]) _ hm) _ _ hk).trans hb
  have hxs : a.eval x = .string s := srep_v (hev x (by simp [Op.operands]) _ hx)
  have hv : Rep w S (plain u) (a.eval v) := rep_plain (by have := hev v (by simp [Op.operands]) _ hu; cases u <;> first | exact this | simp [okArg] at hok)
  have hkk := ht.kind
  rw [hkd] at hkk
  obtain ⟨hun, hks⟩ := hkk
  obtain ⟨e1, e2⟩ := hmp
  have hf := findKey_str hks s ks es.toList h1 w
  have hg := getObj_map (P := P) hh
  obtain ⟨es', clock', hrun, g1, g2, hnd', hbd', g3⟩ : ∃ es' clock', (execOp a.eval o).run P w = .ok .skip { w with heap := w.heap.setIfInBounds r (.map es' clock') } ∧ es'.toList.map (·.key) = ks'.map Value.string ∧ vs'.length = ks'.length ∧ (es'.toList.map (·.born)).Nodup ∧ (∀ x ∈ es'.toList, x.born < clock') ∧ ∀ (i : Nat) (u : AV) (e : MapEntry), vs'[i]? = some u → es'.toList[i]? = some e → Rep w S u e.val := by
    cases hfd : fnd ks es.toList s 0 with
    | none =>
      obtain ⟨q1, q2⟩ := ent_miss (s := s) (v := plain u) ks vs es.toList 0 h1 h2 hfd
      refine ⟨es.push { key := .string s, val := a.eval v, born := clock }, clock + 1, ?_, ?_, ?_, births_push hnd hbd _ rfl, born_push hbd _ rfl, ?_⟩
      · have hso := setObj_map (P := P) (Obj.map (es.push { key := .string s, val := a.eval v, born := clock }) (clock + 1)) hh
        simp [execOp, hop, Instr.mapUpdate, run_underlying hun, hy, hxs, hg, checkKey_str _ 9999 hks, hf, hfd, hso]
      · rw [e1, q1]; simp [h1]
      · rw [e1, e2, q1, q2]; simp [h2]
      · intro i u' e' hu' he'
        rw [e2, q2] at hu'
        rw [Array.toList_push] at he'
        have hel : es.toList.length = vs.length := by rw [h2, ← List.length_map (f := fun x : MapEntry => x.key), h1, List.length_map]
        by_cases hi : i < vs.length
        · rw [List.getElem?_append_left hi] at hu'
          rw [List.getElem?_append_left (by omega)] at he'
          exact h3 i u' e' hu' he'
        · rw [List.getElem?_append_right (by omega)] at hu'
          rw [List.getElem?_append_right (by omega), hel] at he'
          have hi0 : i - vs.length = 0 := by
            by_cases h0 : i - vs.length = 0
            · exact h0
            · rw [List.getElem?_eq_none (by simp; omega)] at hu'; cases hu'
          rw [hi0] at hu' he'
          simp at hu' he'
          subst hu' he'
          exact hv
    | some jy =>
      obtain ⟨j, y0⟩ := jy
      obtain ⟨n, q1, ⟨e0, q2, q3⟩, q4, q5, q6⟩ := ent_hit hv ks vs es.toList 0 j y0 h1 h2 h3 hfd
      have hj : j = n := by omega
      subst hj
      have hej : es[j]? = some e0 := by simpa using q2
      refine ⟨es.modify j fun e => { e with key := .string s, val := a.eval v }, clock, ?_, ?_, ?_, by rw [births_modify es j (fun e : MapEntry => { e with key := .string s, val := a.eval v }) (fun _ => rfl)]; exact hnd, fun x hx => born_modify hbd j (fun e : MapEntry => { e with key := .string s, val := a.eval v }) (fun _ => rfl) x hx, ?_⟩
      · have hso := setObj_map (P := P) (Obj.map (es.modify j fun e => { e with key := .string s, val := a.eval v }) clock) hh
        have hst := stays_str (P := P) s w
        simp [execOp, hop, Instr.mapUpdate, run_underlying hun, hy, hxs, hg, checkKey_str _ 9999 hks, hf, hfd, hej, q3, hst, hso]
      · rw [e1, Array.toList_modify]; exact q4
      · rw [e1, e2]; exact q5
      · intro i u' e' hu' he'
        rw [Array.toList_modify] at he'
        rw [e2] at hu'
        exact q6 i u' e' hu' he'
  have hlt : r < w.heap.size := (Array.getElem?_eq_some_iff.1 hh).1
  obtain ⟨w', hw'⟩ : ∃ w', w' = ({ w with heap := w.heap.setIfInBounds r (.map es' clock') } : World) := ⟨_, rfl⟩
  rw [← hw'] at hrun
  have hheap : w'.heap[r]? = some (.map es' clock') := by rw [hw']; simp [hlt]
  have hother : ∀ j, j ≠ r → w'.heap[j]? = w.heap[j]? := fun j hj => by rw [hw']; simp [Array.getElem?_setIfInBounds_ne (Ne.symm hj)]
  have hsz : w'.heap.size = w.heap.size := by rw [hw']; simp
  have hsame0 : SameOn S w w' := fun j hj => hother j (fun e => hSr (e ▸ hj))
  obtain ⟨hsame, hobj, hsr⟩ := write_one (new := .mp ks' vs') hk (by rw [hb]; rfl) hS ho hsep hother hsz ⟨r, es', clock', hb, Nat.zero_le _, hSr, hheap, g1, g2, hnd', hbd', fun i u e hu he => (g3 i u e hu he).mono hsame0 (fun _ h => h)⟩ trivial
  unfold Oper.wp
  rw [hrun]
  exact hK undef w' S ⟨by rw [hw'], by rw [hw'], by rw [hw'], by omega, fun j _ hT => hother j (fun e => hT ⟨ko, _, hk, by rw [hb, e]; rfl⟩), fun _ h => h, fun _ h => .inl h, fun j hj => by rw [hsz]; exact hS j hj, hgd, hgd.mono hsame (fun _ h => h)⟩ hobj hsr tup_nil0
end Go.Proofs.YthepmpfkkhckpaaGreatDoor.Am
