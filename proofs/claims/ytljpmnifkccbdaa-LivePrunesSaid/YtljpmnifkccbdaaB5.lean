import Derived.Test.YtljpmnifkccbdaaB4
import Derived.Test.YtljpmnifkccbdaaS7
set_option linter.unusedSimpArgs false
set_option linter.unusedVariables false
namespace Go.Proofs.Ytljpmnifkccbdaa
open Go Go.RowKit Am

/-! Lists of events as rows. -/
def evR (l : List Ev) : List (List AV) := l.map Ev.ac
theorem evR_len (l : List Ev) : (evR l).length = l.length := by simp [evR]
theorem evR_get {l : List Ev} {i : Nat} {e : Ev} (h : l[i]? = some e) : (evR l)[i]? = some e.ac := by simp [evR, h]
theorem lenF {F : Sy} (hF : F = sy) (rows : List (List AV)) : F .len rows = (rows.length : Int) := by rw [hF]; rfl
theorem ac_len (e : Ev) : e.ac.length = 26 := rfl
theorem incF {F : Sy} (hF : F = sy) {i : Nat} {i' : Int} (hi : i' = (i : Int)) (h : i ≤ 4000000000) : F .ar .add .i64 i' 1 = ((i + 1 : Nat) : Int) := by rw [hF, hi]; exact (wrap_in (by omega) (by omega)).trans (by omega)
theorem all1_ok (b a : Ev) (r : Bool) (hr : r = endsB b a) : CSem Try.prog (.fn 44) [.agg b.ac, .ept a.ac 0] (.pure [aB r]) := by
  refine of_text gam_ok mixed { n := 7 } Try.func44 (by kernel_rfl) rfl rfl (by simp) (by decide) fun F C D hF hC hD => ?_
  have h1 := hC _ _ _ (ends_ok b a r hr)
  cbv
  refine ⟨_, h1, ?_⟩
  cbv
  exact ⟨rfl, trivial⟩
/-- The first place; -1. -/
def idxP (p : Ev → Bool) (l : List Ev) : Int := match l.findIdx? p with | some i => i | none => -1
theorem idxP_at {p : Ev → Bool} {l : List Ev} {i : Nat} {e : Ev} (h : ∀ (k : Nat) (x : Ev), k < i → l[k]? = some x → p x = false) (hi : l[i]? = some e) (he : p e = true) : idxP p l = i := by
  have : l.findIdx? p = some i := by
    rw [List.findIdx?_eq_some_iff_getElem]
    obtain ⟨h1, h2⟩ := List.getElem?_eq_some_iff.1 hi
    exact ⟨h1, by rw [h2]; exact he, fun j hj => by simpa using h j _ hj (List.getElem?_eq_getElem (by omega))⟩
  rw [idxP, this]
theorem idxP_none {p : Ev → Bool} {l : List Ev} (h : ∀ (k : Nat) (x : Ev), l[k]? = some x → p x = false) : idxP p l = -1 := by
  have : l.findIdx? p = none := by
    rw [List.findIdx?_eq_none_iff]
    intro x hx
    obtain ⟨k, hk, rfl⟩ := List.getElem_of_mem hx
    exact h k _ (List.getElem?_eq_getElem hk)
  rw [idxP, this]
theorem indexFunc_ok (g : Nat) (caps : List AV) (p : Ev → Bool) (hp : ∀ e, CSem Try.prog (.fn g) (.agg e.ac :: caps) (.pure [aB (p e)])) (l : List Ev) (hl : l.length ≤ 100000000) (rows : List (List AV)) (hrows : rows = evR l) (r : Int) (hr : r = idxP p l) :
    CSem Try.prog (.fn 68) [.sl rows, .clo g caps] (.pure [aI r]) := by
  refine of_text gam_ok mixed { n := 19 } Try.func68 (by kernel_rfl) rfl rfl (by simp) (by decide) fun F C D hF hC hD => ?_
  obtain ⟨n', hn'⟩ : ∃ n', F .len rows = n' := ⟨_, rfl⟩
  have en : n' = (l.length : Int) := by rw [← hn', lenF hF, hrows, evR_len]
  cbv
  rw [hn']
  refine ⟨Nat × Int, fun x => { slots := [(8, aI x.2), (7, aI n'), (0, .sl rows), (1, .clo g caps)], obs := [], ctr := 0 }, fun x => x.2 = (x.1 : Int) ∧ x.1 ≤ l.length ∧ ∀ k e, k < x.1 → l[k]? = some e → p e = false, fun x => l.length - x.1, ⟨(0, 0), ⟨rfl, Nat.zero_le _, fun k e hk => by omega⟩, le_of [] (by simp [leSl, leOb, injK, memK, parK, noTup, lk, rn0, rnA, plain, aI])⟩, fun x hx => ?_⟩
  obtain ⟨i, i'⟩ := x
  obtain ⟨ei, hi, hz⟩ := hx
  simp only at ei hi hz
  have en : n' = (l.length : Int) := en
  have tl := ltF hF i l.length i' n' ei en
  have ep := incF hF ei (by omega)
  cbv
  refine br (fun h => ?_) (fun h => ?_) <;> cbv
  · have hil := tl.1 h
    obtain ⟨e, he⟩ : ∃ e, l[i]? = some e := ⟨_, List.getElem?_eq_getElem hil⟩
    have hrow : rows[i]? = some e.ac := by rw [hrows]; exact evR_get he
    refine ⟨i, e.ac, ei, hrow, rfl, ?_⟩
    cbv
    refine ⟨_, hC _ _ _ (hp e), ?_⟩
    generalize hpe : p e = c
    cbv
    refine br (fun g => ?_) (fun g => ?_) <;> cbv
    · have : i' = r := by rw [hr, ei]; exact (idxP_at (fun k x hk hx => hz k x hk hx) he (hpe.trans g)).symm
      rw [this]; exact ⟨rfl, trivial⟩
    · obtain ⟨j, hj⟩ : ∃ j, F .ar .add .i64 i' 1 = j := ⟨_, rfl⟩
      rw [hj]
      refine ⟨(i + 1, j), ⟨hj.symm.trans ep, hil, fun k x hk hx => ?_⟩, (show l.length - (i + 1) < l.length - i by omega), le_of [] (by simp [leSl, leOb, injK, memK, parK, noTup, lk, rn0, rnA, plain])⟩
      by_cases e1 : k < i
      · exact hz k x e1 hx
      · have : k = i := by have := (show k < i + 1 from hk); omega
        rw [this, he] at hx
        injection hx with hx
        rw [← hx]; exact hpe.trans g
  · have hge : l.length ≤ i := by have := nfB tl h; omega
    have : (-1 : Int) = r := by rw [hr]; exact (idxP_none (fun k x hx => hz k x (by have := (List.getElem?_eq_some_iff.1 hx).1; omega) hx)).symm
    rw [← this]; exact ⟨rfl, trivial⟩
theorem idxP_any (p : Ev → Bool) (l : List Ev) : decide (0 ≤ idxP p l) = l.any p := by
  unfold idxP
  cases h : l.findIdx? p with
  | none =>
    rw [List.findIdx?_eq_none_iff] at h
    have : l.any p = false := by rw [List.any_eq_false]; intro x hx; simp [h x hx]
    rw [this]; rfl
  | some i =>
    rw [List.findIdx?_eq_some_iff_getElem] at h
    obtain ⟨h1, h2, _⟩ := h
    have : l.any p = true := List.any_eq_true.2 ⟨_, List.getElem_mem h1, h2⟩
    rw [this]; simp
theorem containsFunc_ok (g : Nat) (caps : List AV) (p : Ev → Bool) (hp : ∀ e, CSem Try.prog (.fn g) (.agg e.ac :: caps) (.pure [aB (p e)])) (l : List Ev) (hl : l.length ≤ 100000000) (rows : List (List AV)) (hrows : rows = evR l) (r : Bool) (hr : r = l.any p) :
    CSem Try.prog (.fn 43) [.sl rows, .clo g caps] (.pure [aB r]) := by
  refine of_text gam_ok mixed { n := 9 } Try.func43 (by kernel_rfl) rfl rfl (by simp) (by decide) fun F C D hF hC hD => ?_
  have hi := idxP_any p l
  rw [← hr] at hi
  obtain ⟨j, hj⟩ : ∃ j, j = idxP p l := ⟨_, rfl⟩
  rw [← hj] at hi
  have h1 := hC _ _ _ (indexFunc_ok g caps p hp l hl rows hrows j hj)
  clear hj
  cbv
  refine ⟨_, h1, ?_⟩
  cbv
  subst hF; simp [sy, ← hi]
end Go.Proofs.Ytljpmnifkccbdaa
