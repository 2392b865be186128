import Derived.Test.YtdmdahnnfancpaaP1
set_option linter.unusedSimpArgs false
set_option linter.unusedVariables false
namespace Go.Proofs.Ytdmdahnnfancpaa
open Go Go.RowKit Am

/-! Dots, vectors, operations and events as plain values. -/
structure Dt where
  R : Int
  N : Int
  deriving DecidableEq
abbrev VV := Fin 16 → Int
structure Opn where
  kind : Int
  key : ByteArray
  fld : ByteArray
  val : ByteArray
  num : Int
  ref : Dt
structure Ev where
  dot : Dt
  time : Int
  deps : VV
  op : Opn
def Dt.ac (d : Dt) : List AV := [aI d.R, aI d.N]
def vac (v : VV) : List AV := [aI (v 0), aI (v 1), aI (v 2), aI (v 3), aI (v 4), aI (v 5), aI (v 6), aI (v 7), aI (v 8), aI (v 9), aI (v 10), aI (v 11), aI (v 12), aI (v 13), aI (v 14), aI (v 15)]
def Opn.ac (o : Opn) : List AV := [aI o.kind, aS o.key, aS o.fld, aS o.val, aI o.num, aI o.ref.R, aI o.ref.N]
def Ev.ac (e : Ev) : List AV := [aI e.dot.R, aI e.dot.N, aI e.time, aI (e.deps 0), aI (e.deps 1), aI (e.deps 2), aI (e.deps 3), aI (e.deps 4), aI (e.deps 5), aI (e.deps 6), aI (e.deps 7), aI (e.deps 8), aI (e.deps 9), aI (e.deps 10), aI (e.deps 11), aI (e.deps 12), aI (e.deps 13), aI (e.deps 14), aI (e.deps 15),
  aI e.op.kind, aS e.op.key, aS e.op.fld, aS e.op.val, aI e.op.num, aI e.op.ref.R, aI e.op.ref.N]


theorem isNaN_ok (x : Int) (r : Bool) (hr : r = false) : CSem Try.prog (.fn 65) [aI x] (.pure [aB r]) := by
  refine of_text gam_ok mixed { n := 6 } Try.func65 (by kernel_rfl) rfl rfl (by simp) (by decide) fun F C D hF hC hD => ?_
  cbv
  subst hF; simp [sy, hr]
def compareI (x y : Int) : Int := if x < y then -1 else if y < x then 1 else 0
theorem compare_ok (x y : Int) (r : Int) (hr : r = compareI x y) : CSem Try.prog (.fn 43) [aI x, aI y] (.pure [aI r]) := by
  refine of_text gam_ok mixed { n := 20 } Try.func43 (by kernel_rfl) rfl rfl (by simp) (by decide) fun F C D hF hC hD => ?_
  have c1 : F .cmp .lss x y = true → r = -1 := fun h => by rw [hF] at h; simp [sy] at h; simp [hr, compareI, h]
  have c2 : F .cmp .lss x y = false → F .cmp .gtr x y = true → r = 1 := fun h g => by rw [hF] at h g; simp [sy] at h g; rw [hr, compareI, if_neg (by omega), if_pos g]
  have c3 : F .cmp .lss x y = false → F .cmp .gtr x y = false → r = 0 := fun h g => by rw [hF] at h g; simp [sy] at h g; rw [hr, compareI, if_neg (by omega), if_neg (by omega)]
  cbv
  refine ⟨_, hC _ _ _ (isNaN_ok x _ rfl), ?_⟩
  cbv
  refine ⟨_, hC _ _ _ (isNaN_ok y _ rfl), ?_⟩
  cbv
  refine ⟨fun h => ?_, fun h => ?_⟩
  · cases h
  cbv
  refine ⟨fun h => ?_, fun h => ?_⟩
  · cases h
  cbv
  refine ⟨fun h => ?_, fun h => ?_⟩ <;> cbv
  · rw [c1 h]; exact ⟨rfl, trivial⟩
  refine ⟨fun g => ?_, fun g => ?_⟩ <;> cbv
  · rw [c2 h g]; exact ⟨rfl, trivial⟩
  · rw [c3 h g]; exact ⟨rfl, trivial⟩
def orF : List Int → Int
  | [] => 0
  | x :: r => if x = 0 then orF r else x
theorem orF_zero : ∀ (l : List Int), (∀ x ∈ l, x = 0) → orF l = 0 := by
  intro l
  induction l with
  | nil => intro _; rfl
  | cons x l ih => intro h; simp [orF, h x List.mem_cons_self, ih (fun y hy => h y (List.mem_cons_of_mem _ hy))]
theorem orF_at : ∀ (l : List Int) (i : Nat) (v : Int), (∀ k, k < i → l[k]? = some 0) → l[i]? = some v → v ≠ 0 → orF l = v := by
  intro l
  induction l with
  | nil => intro i v _ h; simp at h
  | cons x l ih =>
    intro i v h1 h2 h3
    cases i with
    | zero => simp at h2; subst h2; simp [orF, h3]
    | succ i =>
      have := h1 0 (by omega)
      simp at this
      simp only [orF, this, if_true]
      exact ih i v (fun k hk => by have := h1 (k + 1) (by omega); simpa using this) (by simpa using h2) h3
theorem or_ok (vals : List Int) (rows : List (List AV)) (hrows : rows = vals.map fun v => [aI v]) (hl : vals.length ≤ 1000000) (r : Int) (hr : r = orF vals) : CSem Try.prog (.fn 42) [.sl rows] (.pure [aI r]) := by
  refine of_text gam_ok mixed { n := 18 } Try.func42 (by kernel_rfl) rfl rfl (by simp) (by decide) fun F C D hF hC hD => ?_
  have hlen : F .len rows = (vals.length : Int) := by rw [hF, hrows]; simp [sy]
  obtain ⟨n', hn'⟩ : ∃ n', F .len rows = n' := ⟨_, rfl⟩
  rw [hn'] at hlen
  cbv
  rw [hn']
  refine ⟨Nat × Int, fun x => { slots := [(8, aI x.2), (7, aI n'), (6, .sl rows), (3, aI 0), (2, aI 0)], obs := [], ctr := 0 }, fun x => x.2 = (x.1 : Int) ∧ x.1 ≤ vals.length ∧ ∀ k, k < x.1 → vals[k]? = some 0, fun x => vals.length - x.1, ⟨(0, 0), ⟨rfl, Nat.zero_le _, fun k hk => by omega⟩, le_of [] (by simp [leSl, leOb, injK, memK, parK, noTup, lk, rn0, rnA, plain, aI])⟩, fun x hx => ?_⟩
  obtain ⟨i, i'⟩ := x
  obtain ⟨ei, hi, hz⟩ := hx
  simp only at ei hi hz
  have hlen : n' = (vals.length : Int) := hlen
  have hlt : F .cmp .lss i' n' = true → i < vals.length := fun h => by rw [hF] at h; simp [sy] at h; omega
  have hge : F .cmp .lss i' n' = false → r = 0 := fun h => by
    rw [hF] at h; simp [sy] at h
    have : i = vals.length := by omega
    rw [hr]
    exact orF_zero _ (fun x hx => by
      obtain ⟨k, hk, rfl⟩ := List.getElem_of_mem hx
      have := hz k (by omega)
      rw [List.getElem?_eq_getElem hk] at this
      simpa using this)
  have ep : i < vals.length → F .ar .add .i64 i' 1 = ((i + 1 : Nat) : Int) := fun h => by rw [hF]; exact (wrap_in (by omega) (by omega)).trans (by omega)
  cbv
  refine ⟨fun h => ?_, fun h => ?_⟩ <;> cbv
  · have hil := hlt h
    obtain ⟨v, hv⟩ : ∃ v, vals[i]? = some v := ⟨_, List.getElem?_eq_getElem hil⟩
    refine ⟨i, [aI v], ei, by rw [hrows]; simp [hv], rfl, ?_⟩
    have c1 : F .cmp .neq v 0 = true → r = v := fun g => by
      rw [hF] at g; simp [sy] at g
      rw [hr]; exact orF_at _ i v hz hv g
    have c2 : F .cmp .neq v 0 = false → v = 0 := fun g => by rw [hF] at g; simpa [sy] using g
    cbv
    refine ⟨fun g => ?_, fun g => ?_⟩ <;> cbv
    · rw [c1 g]; exact ⟨rfl, trivial⟩
    · obtain ⟨j, hj⟩ : ∃ j, F .ar .add .i64 i' 1 = j := ⟨_, rfl⟩
      rw [hj]
      refine ⟨(i + 1, j), ⟨hj.symm.trans (ep hil), hil, fun k hk => ?_⟩, (by simp; omega), le_of [] (by simp [leSl, leOb, injK, memK, parK, noTup, lk, rn0, rnA, plain])⟩
      by_cases e : k < i
      · exact hz k e
      · have : k = i := by omega
        rw [this, hv, c2 g]
  · rw [hge h]; exact ⟨rfl, trivial⟩
def laterB (b a : Ev) : Bool := decide (0 < orF [compareI b.time a.time, compareI b.dot.R a.dot.R, compareI b.dot.N a.dot.N])
theorem later_ok (b a : Ev) (r : Bool) (hr : r = laterB b a) : CSem Try.prog (.fn 62) [.agg b.ac, .agg a.ac] (.pure [aB r]) := by
  refine of_text gam_ok mixed { n := 27 } Try.func62 (by kernel_rfl) rfl rfl (by simp) (by decide) fun F C D hF hC hD => ?_
  cbv
  refine ⟨hC _ _ _ (ben_ok (by kernel_rfl)), ?_⟩
  cbv
  refine ⟨_, hC _ _ _ (compare_ok _ _ _ rfl), ?_⟩
  generalize h1 : compareI b.time a.time = c1
  cbv
  refine ⟨_, hC _ _ _ (compare_ok _ _ _ rfl), ?_⟩
  generalize h2 : compareI b.dot.R a.dot.R = c2
  cbv
  refine ⟨_, hC _ _ _ (compare_ok _ _ _ rfl), ?_⟩
  generalize h3 : compareI b.dot.N a.dot.N = c3
  cbv
  refine ⟨_, hC _ _ _ (or_ok [c1, c2, c3] _ rfl (by simp) _ rfl), ?_⟩
  generalize h4 : orF [c1, c2, c3] = c4
  cbv
  subst hF
  simp [sy, hr, laterB, h1, h2, h3, h4]
theorem later_iff (b a : Ev) : laterB b a = true ↔ (a.time < b.time ∨ (a.time = b.time ∧ (a.dot.R < b.dot.R ∨ (a.dot.R = b.dot.R ∧ a.dot.N < b.dot.N)))) := by
  have c : ∀ x y : Int, (compareI x y = 0 ↔ x = y) ∧ (0 < compareI x y ↔ y < x) := fun x y => by
    unfold compareI
    split
    · constructor <;> constructor <;> intro <;> omega
    · split
      · constructor <;> constructor <;> intro <;> omega
      · constructor <;> constructor <;> intro <;> omega
  obtain ⟨t1, t2⟩ := c b.time a.time
  obtain ⟨r1, r2⟩ := c b.dot.R a.dot.R
  obtain ⟨n1, n2⟩ := c b.dot.N a.dot.N
  unfold laterB
  rw [decide_eq_true_eq]
  simp only [orF]
  by_cases h1 : compareI b.time a.time = 0
  · rw [if_pos h1]
    by_cases h2 : compareI b.dot.R a.dot.R = 0
    · rw [if_pos h2]
      by_cases h3 : compareI b.dot.N a.dot.N = 0
      · rw [if_pos h3]; omega
      · rw [if_neg h3]; omega
    · rw [if_neg h2]; omega
  · rw [if_neg h1]; omega
end Go.Proofs.Ytdmdahnnfancpaa
