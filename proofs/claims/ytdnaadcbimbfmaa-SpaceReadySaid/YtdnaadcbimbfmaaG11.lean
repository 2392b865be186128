import Derived.Laws.MakeOwn
import Derived.Test.YtdnaadcbimbfmaaG6
import Derived.Test.YtdnaadcbimbfmaaG7
import Derived.Test.YtdnaadcbimbfmaaG9
import Derived.Test.YtdnaadcbimbfmaaG10
set_option linter.unusedSimpArgs false
set_option linter.unusedVariables false
namespace Go.Proofs.Ytdnaadcbimbfmaa
open Go Go.RowKit Am

/-! Lists of events as rows. -/
def evR (l : List Ev) : List (List AV) := l.map Ev.ac
theorem evR_len (l : List Ev) : (evR l).length = l.length := by simp [evR]
theorem evR_get {l : List Ev} {i : Nat} {e : Ev} (h : l[i]? = some e) : (evR l)[i]? = some e.ac := by simp [evR, h]
theorem ac_len (e : Ev) : e.ac.length = 26 := rfl
theorem all1_ok (b a : Ev) (r : Bool) (hr : r = endsB b a) : CSem Try.prog (.fn 103) [.agg b.ac, .ept a.ac 0] (.pure [aB r]) := by
  refine of_text gam_ok mixed { n := 7 } Try.func103 (by kernel_rfl) rfl rfl (by simp) (by decide) fun F C D hF hC hD => ?_
  have h1 := hC _ _ _ (ends_ok b a r hr)
  cbv
  refine ⟨_, h1, ?_⟩
  cbv
  exact ⟨rfl, trivial⟩
/-- The first place; -1. -/
def idxP (p : Ev → Bool) (l : List Ev) : Int := match l.findIdx? p with | some i => i | none => -1
theorem idxP_at {p : Ev → Bool} {l : List Ev} {i : Nat} {e : Ev} (h : ∀ (k : Nat) (x : Ev), k < i → l[k]? = some x → p x = false) (hi : l[i]? = some e) (he : p e = true) : idxP p l = i := by
  have : l.findIdx? p = some i := by
    rw [List.findIdx?_eq_some_iff_getElem]
    obtain ⟨h1, h2⟩ := List.getElem?_eq_some_iff.1 hi
    exact ⟨h1, by rw [h2]; exact he, fun j hj => by simpa using h j _ hj (List.getElem?_eq_getElem (by omega))⟩
  rw [idxP, this]
theorem idxP_none {p : Ev → Bool} {l : List Ev} (h : ∀ (k : Nat) (x : Ev), l[k]? = some x → p x = false) : idxP p l = -1 := by
  have : l.findIdx? p = none := by
    rw [List.findIdx?_eq_none_iff]
    intro x hx
    obtain ⟨k, hk, rfl⟩ := List.getElem_of_mem hx
    exact h k _ (List.getElem?_eq_getElem hk)
  rw [idxP, this]
theorem indexFunc_ok (g : Nat) (caps : List AV) (p : Ev → Bool) (hp : ∀ e, CSem Try.prog (.fn g) (.agg e.ac :: caps) (.pure [aB (p e)])) (l : List Ev) (hl : l.length ≤ 100000000) (rows : List (List AV)) (hrows : rows = evR l) (r : Int) (hr : r = idxP p l) :
    CSem Try.prog (.fn 101) [.sl rows, .clo g caps] (.pure [aI r]) := by
  refine of_text gam_ok mixed { n := 19 } Try.func101 (by kernel_rfl) rfl rfl (by simp) (by decide) fun F C D hF hC hD => ?_
  obtain ⟨n', hn'⟩ : ∃ n', F .len rows = n' := ⟨_, rfl⟩
  have en : n' = (l.length : Int) := by rw [← hn', lenF hF, hrows, evR_len]
  cbv
  rw [hn']
  refine ⟨Nat × Int, fun x => { slots := [(8, aI x.2), (7, aI n'), (0, .sl rows), (1, .clo g caps)], obs := [], ctr := 0 }, fun x => x.2 = (x.1 : Int) ∧ x.1 ≤ l.length ∧ ∀ k e, k < x.1 → l[k]? = some e → p e = false, fun x => l.length - x.1, ⟨(0, 0), ⟨rfl, Nat.zero_le _, fun k e hk => by omega⟩, le_of [] (by simp [leSl, leOb, injK, memK, parK, noTup, lk, rn0, rnA, plain, aI])⟩, fun x hx => ?_⟩
  obtain ⟨i, i'⟩ := x
  obtain ⟨ei, hi, hz⟩ := hx
  simp only at ei hi hz
  have en : n' = (l.length : Int) := en
  have tl := ltF hF i l.length i' n' ei en
  have ep := incF hF ei (by omega)
  cbv
  refine br (fun h => ?_) (fun h => ?_) <;> cbv
  · have hil := tl.1 h
    obtain ⟨e, he⟩ : ∃ e, l[i]? = some e := ⟨_, List.getElem?_eq_getElem hil⟩
    have hrow : rows[i]? = some e.ac := by rw [hrows]; exact evR_get he
    refine ⟨i, e.ac, ei, hrow, rfl, ?_⟩
    cbv
    refine ⟨_, hC _ _ _ (hp e), ?_⟩
    generalize hpe : p e = c
    cbv
    refine br (fun g => ?_) (fun g => ?_) <;> cbv
    · have : i' = r := by rw [hr, ei]; exact (idxP_at (fun k x hk hx => hz k x hk hx) he (hpe.trans g)).symm
      rw [this]; exact ⟨rfl, trivial⟩
    · obtain ⟨j, hj⟩ : ∃ j, F .ar .add .i64 i' 1 = j := ⟨_, rfl⟩
      rw [hj]
      refine ⟨(i + 1, j), ⟨hj.symm.trans ep, hil, fun k x hk hx => ?_⟩, (show l.length - (i + 1) < l.length - i by omega), le_of [] (by simp [leSl, leOb, injK, memK, parK, noTup, lk, rn0, rnA, plain])⟩
      by_cases e1 : k < i
      · exact hz k x e1 hx
      · have : k = i := by have := (show k < i + 1 from hk); omega
        rw [this, he] at hx
        injection hx with hx
        rw [← hx]; exact hpe.trans g
  · have hge : l.length ≤ i := by have := nfB tl h; omega
    have : (-1 : Int) = r := by rw [hr]; exact (idxP_none (fun k x hx => hz k x (by have := (List.getElem?_eq_some_iff.1 hx).1; omega) hx)).symm
    rw [← this]; exact ⟨rfl, trivial⟩
theorem idxP_any (p : Ev → Bool) (l : List Ev) : decide (0 ≤ idxP p l) = l.any p := by
  unfold idxP
  cases h : l.findIdx? p with
  | none =>
    rw [List.findIdx?_eq_none_iff] at h
    have : l.any p = false := by rw [List.any_eq_false]; intro x hx; simp [h x hx]
    rw [this]; rfl
  | some i =>
    rw [List.findIdx?_eq_some_iff_getElem] at h
    obtain ⟨h1, h2, _⟩ := h
    have : l.any p = true := List.any_eq_true.2 ⟨_, List.getElem_mem h1, h2⟩
    rw [this]; simp
theorem containsFunc_ok (g : Nat) (caps : List AV) (p : Ev → Bool) (hp : ∀ e, CSem Try.prog (.fn g) (.agg e.ac :: caps) (.pure [aB (p e)])) (l : List Ev) (hl : l.length ≤ 100000000) (rows : List (List AV)) (hrows : rows = evR l) (r : Bool) (hr : r = l.any p) :
    CSem Try.prog (.fn 102) [.sl rows, .clo g caps] (.pure [aB r]) := by
  refine of_text gam_ok mixed { n := 9 } Try.func102 (by kernel_rfl) rfl rfl (by simp) (by decide) fun F C D hF hC hD => ?_
  have hi := idxP_any p l
  rw [← hr] at hi
  obtain ⟨j, hj⟩ : ∃ j, j = idxP p l := ⟨_, rfl⟩
  rw [← hj] at hi
  have h1 := hC _ _ _ (indexFunc_ok g caps p hp l hl rows hrows j hj)
  clear hj
  cbv
  refine ⟨_, h1, ?_⟩
  cbv
  subst hF; simp [sy, ← hi]
end Go.Proofs.Ytdnaadcbimbfmaa
set_option linter.unusedSimpArgs false
set_option linter.unusedVariables false
namespace Go.Proofs.Ytdnaadcbimbfmaa
open Go Go.RowKit Am Go.ChangeShapes Go.WideShapes Go.ChangeAt
open Go.ChangeMaps (open_string shut_string)
open Go.Deep (open_slice)

def evR' (l : List Ev) : List (List AV) := l.map fun e => e.vs.toList.map AV.v
section
variable {H : Type} {enc : TypeId × Value → H} {w : World} {base : Nat} {spare : Nat → Bool} {held : Bool}
theorem cs_one {l : List Value} {i : Nat} {v : Value} (h : (l.drop i).take 1 = [v]) : l[i]? = some v := by
  have := congrArg (·[0]?) h
  simpa [List.getElem?_take] using this
theorem fld {n t : Nat} {fs : Array Field} {cs : List Value} {x : DataW H × List MemPlace} (ht : Try.prog.underlying t = some (.struct fs)) (h : DataW.trod enc Try.prog w base spare held n t cs = some x) {i : Nat} {f : Field} (hf : fs[i]? = some f) :
    ∃ m y, DataW.trod enc Try.prog w base spare held m f.type ((cs.drop f.offset).take (Try.prog.cellsOf f.type)) = some y := by
  obtain ⟨xs, m, _, _, _, hxl, hg⟩ := DataW.trod_struct ht h
  have hi : i < xs.length := by rw [hxl]; exact (Array.getElem?_eq_some_iff.1 hf).1
  exact ⟨m, xs[i], by rw [hg i f hf]; exact List.getElem?_eq_getElem hi⟩
theorem fI {n t : Nat} {fs : Array Field} {cs : List Value} {x : DataW H × List MemPlace} (ht : Try.prog.underlying t = some (.struct fs)) (h : DataW.trod enc Try.prog w base spare held n t cs = some x) (i off : Nat) {f : Field} (hf : fs[i]? = some f) (h3 : f.type = 3) (ho : f.offset = off) :
    ∃ a : Int, cs[off]? = some (vI a) := by
  obtain ⟨m, y, hy⟩ := fld ht h hf
  rw [h3, ho] at hy
  obtain ⟨a, ha, _⟩ := DataW.trod_int Try.underlying3 hy
  rw [show Try.prog.cellsOf 3 = 1 by kernel_rfl] at ha
  exact ⟨a, cs_one ha⟩
theorem fS {n t : Nat} {fs : Array Field} {cs : List Value} {x : DataW H × List MemPlace} (ht : Try.prog.underlying t = some (.struct fs)) (h : DataW.trod enc Try.prog w base spare held n t cs = some x) (i off : Nat) {f : Field} (hf : fs[i]? = some f) (h3 : f.type = 9) (ho : f.offset = off) :
    ∃ a : ByteArray, cs[off]? = some (.string a) := by
  obtain ⟨m, y, hy⟩ := fld ht h hf
  rw [h3, ho] at hy
  obtain ⟨a, ha, _⟩ := DataW.trod_string Try.underlying9 hy
  rw [show Try.prog.cellsOf 9 = 1 by kernel_rfl] at ha
  exact ⟨a, cs_one ha⟩
theorem dt_of {n : Nat} {cs : List Value} {x : DataW H × List MemPlace} (h : DataW.trod enc Try.prog w base spare held n 33 cs = some x) : ∃ d : Dt, cs = d.vs.toList := by
  have hl : cs.length = 2 := (DataW.trod_struct Try.underlying33 h).choose_spec.choose_spec.2.2.1.trans (by kernel_rfl)
  obtain ⟨a, ha⟩ := fI Try.underlying33 h 0 0 rfl rfl rfl
  obtain ⟨b, hb⟩ := fI Try.underlying33 h 1 1 rfl rfl rfl
  refine ⟨⟨a, b⟩, List.ext_getElem? fun i => ?_⟩
  match i with
  | 0 => exact ha
  | 1 => exact hb
  | n + 2 => rw [List.getElem?_eq_none (by omega), List.getElem?_eq_none (by simp [Dt.vs])]
theorem vv_of {n : Nat} {cs : List Value} {x : DataW H × List MemPlace} (h : DataW.trod enc Try.prog w base spare held n 29 cs = some x) : ∃ v : VV, cs = (vvs v).toList := by
  obtain ⟨xs, m, _, _, hl, hxl, hg⟩ := DataW.trod_array Try.underlying29 h
  have hl : cs.length = 16 := hl.trans (by kernel_rfl)
  have c3 : Try.prog.cellsOf 3 = 1 := by kernel_rfl
  have hi : ∀ i : Fin 16, ∃ a : Int, cs[i.1]? = some (vI a) := fun i => by
    have h1 := hg i.1 i.2
    rw [List.getElem?_eq_getElem (by rw [hxl]; exact i.2)] at h1
    obtain ⟨a, ha, _⟩ := DataW.trod_int Try.underlying3 h1
    rw [c3, Nat.mul_one] at ha
    exact ⟨a, cs_one ha⟩
  obtain ⟨v, hv⟩ : ∃ v : VV, ∀ i : Fin 16, cs[i.1]? = some (vI (v i)) := ⟨fun i => (hi i).choose, fun i => (hi i).choose_spec⟩
  refine ⟨v, List.ext_getElem? fun i => ?_⟩
  by_cases e : i < 16
  · rw [hv ⟨i, e⟩]
    have := vvs_get v i e
    rw [Nat.mul_one] at this
    rw [Array.getElem?_toList]
    exact this.symm
  · rw [List.getElem?_eq_none (by omega), List.getElem?_eq_none (by simp [vvs]; omega)]
theorem sub_get {cs ds : List Value} {off n : Nat} (h : (cs.drop off).take n = ds) (i : Nat) (hi : i < n) : cs[off + i]? = ds[i]? := by
  rw [← h, List.getElem?_take, if_pos hi, List.getElem?_drop]
theorem op_of {n : Nat} {cs : List Value} {x : DataW H × List MemPlace} (h : DataW.trod enc Try.prog w base spare held n 35 cs = some x) : ∃ o : Opn, cs = o.vs.toList := by
  have hl : cs.length = 7 := (DataW.trod_struct Try.underlying35 h).choose_spec.choose_spec.2.2.1.trans (by kernel_rfl)
  obtain ⟨a0, h0⟩ := fI Try.underlying35 h 0 0 rfl rfl rfl
  obtain ⟨a1, h1⟩ := fS Try.underlying35 h 1 1 rfl rfl rfl
  obtain ⟨a2, h2⟩ := fS Try.underlying35 h 2 2 rfl rfl rfl
  obtain ⟨a3, h3⟩ := fS Try.underlying35 h 3 3 rfl rfl rfl
  obtain ⟨a4, h4⟩ := fI Try.underlying35 h 4 4 rfl rfl rfl
  obtain ⟨m, y, hy⟩ := fld (i := 5) Try.underlying35 h rfl
  obtain ⟨d, hd⟩ := dt_of hy
  have c28 : Try.prog.cellsOf 33 = 2 := by kernel_rfl
  have g0 := sub_get (n := 2) (c28 ▸ hd) 0 (by omega)
  have g1 := sub_get (n := 2) (c28 ▸ hd) 1 (by omega)
  refine ⟨⟨a0, a1, a2, a3, a4, d⟩, List.ext_getElem? fun i => ?_⟩
  match i with
  | 0 => exact h0
  | 1 => exact h1
  | 2 => exact h2
  | 3 => exact h3
  | 4 => exact h4
  | 5 => exact g0
  | 6 => exact g1
  | n + 7 => rw [List.getElem?_eq_none (by omega), List.getElem?_eq_none (by simp [Opn.vs])]
theorem ev_of {n : Nat} {cs : List Value} {x : DataW H × List MemPlace} (h : DataW.trod enc Try.prog w base spare held n 37 cs = some x) : ∃ e : Ev, cs = e.vs.toList := by
  have hl : cs.length = 26 := (DataW.trod_struct Try.underlying37 h).choose_spec.choose_spec.2.2.1.trans (by kernel_rfl)
  obtain ⟨m0, y0, hy0⟩ := fld (i := 0) Try.underlying37 h rfl
  obtain ⟨d, hd⟩ := dt_of hy0
  obtain ⟨a1, h1⟩ := fI Try.underlying37 h 1 2 rfl rfl rfl
  obtain ⟨m2, y2, hy2⟩ := fld (i := 2) Try.underlying37 h rfl
  obtain ⟨v, hv⟩ := vv_of hy2
  obtain ⟨m3, y3, hy3⟩ := fld (i := 3) Try.underlying37 h rfl
  obtain ⟨o, ho⟩ := op_of hy3
  have c28 : Try.prog.cellsOf 33 = 2 := by kernel_rfl
  have c30 : Try.prog.cellsOf 29 = 16 := by kernel_rfl
  have c32 : Try.prog.cellsOf 35 = 7 := by kernel_rfl
  have gd := sub_get (n := 2) (c28 ▸ hd)
  have gv := sub_get (n := 16) (c30 ▸ hv)
  have go := sub_get (n := 7) (c32 ▸ ho)
  refine ⟨⟨d, a1, v, o⟩, List.ext_getElem? fun i => ?_⟩
  match i with
  | 0 => exact gd 0 (by omega)
  | 1 => exact gd 1 (by omega)
  | 2 => exact h1
  | 3 => exact gv 0 (by omega)
  | 4 => exact gv 1 (by omega)
  | 5 => exact gv 2 (by omega)
  | 6 => exact gv 3 (by omega)
  | 7 => exact gv 4 (by omega)
  | 8 => exact gv 5 (by omega)
  | 9 => exact gv 6 (by omega)
  | 10 => exact gv 7 (by omega)
  | 11 => exact gv 8 (by omega)
  | 12 => exact gv 9 (by omega)
  | 13 => exact gv 10 (by omega)
  | 14 => exact gv 11 (by omega)
  | 15 => exact gv 12 (by omega)
  | 16 => exact gv 13 (by omega)
  | 17 => exact gv 14 (by omega)
  | 18 => exact gv 15 (by omega)
  | 19 => exact go 0 (by omega)
  | 20 => exact go 1 (by omega)
  | 21 => exact go 2 (by omega)
  | 22 => exact go 3 (by omega)
  | 23 => exact go 4 (by omega)
  | 24 => exact go 5 (by omega)
  | 25 => exact go 6 (by omega)
  | n + 26 => rw [List.getElem?_eq_none (by omega), List.getElem?_eq_none (by simp [Ev.vs])]
theorem repl_map (S : Nat → Prop) (xs : List Value) (h : ∀ x ∈ xs, x.oneCell' = true) : RepL w S (xs.map AV.v) xs :=
  ⟨by simp, fun i u x hu hx => by
    simp only [List.getElem?_map, hx, Option.map_some] at hu
    injection hu with hu
    subst hu
    exact .v _ (h x (List.mem_of_getElem? hx))⟩
theorem ev_one (e : Ev) : ∀ x ∈ e.vs.toList, x.oneCell' = true := by
  intro x hx
  simp [Ev.vs] at hx
  rcases hx with h | h | h | h | h | h | h | h | h | h | h | h | h | h | h | h | h | h | h | h | h | h | h | h | h | h <;> (subst h; rfl)
set_option maxRecDepth 100000 in
/-- A list of events that came in. -/
theorem evs_of {v : Value} {d : DataW H} {ps : List MemPlace} {b0 : Nat} (hval : Value.okWide Try.prog w .any b0 22 v) (h : DataW.Trod enc Try.prog w 0 (fun _ => true) true 22 v d ps) : ∃ l : List Ev, Rep w (AllB w) (.sl (evR' l)) v := by
  obtain ⟨a0, len0, cap0, rfl⟩ := okWide_slice Try.underlying22 hval
  have hlt : ∀ x ∈ ps, x.block < w.heap.size := by obtain ⟨m, hm⟩ := h; exact DataW.trod_lt m _ _ _ hm
  obtain ⟨fuel, hf⟩ := h
  rcases open_slice Try.underlying22 hf with ⟨hcs, _⟩ | ⟨a, len, cap, m, k, D, Pl, hcs, hb, hlc, hcm, hm, hx, hel⟩
  · simp [Value.cells] at hcs
    obtain ⟨rfl, rfl, rfl⟩ := hcs
    exact ⟨[], .c (.nil _ _ (fun _ => rfl))⟩
  · simp [Value.cells] at hcs
    obtain ⟨rfl, rfl, rfl⟩ := hcs
    have hm : m = cap0 := by simpa using hm
    have c34 : Try.prog.cellsOf 37 = 26 := by kernel_rfl
    rw [c34] at hx hel
    have he : ∀ i : Fin len0, ∃ e : Ev, ∀ j u, e.vs.toList[j]? = some u → w.cell? (a.add (i.1 * 26 + j)) = some u := fun i => by
      obtain ⟨cs, hc, ht⟩ := hel i.1 (by have := i.2; omega)
      obtain ⟨e, rfl⟩ := ev_of ht
      refine ⟨e, fun j u hu => ?_⟩
      obtain ⟨_, _, hat⟩ := World.cells?_some hc
      have hj : j < 26 := by have := (List.getElem?_eq_some_iff.1 hu).1; simpa [Ev.vs] using this
      rw [← Am.add_add, hat j hj]; exact hu
    obtain ⟨f, hf⟩ : ∃ f : Fin len0 → Ev, ∀ i j u, (f i).vs.toList[j]? = some u → w.cell? (a.add (i.1 * 26 + j)) = some u := ⟨fun i => (he i).choose, fun i => (he i).choose_spec⟩
    by_cases h0 : len0 = 0
    · subst h0
      exact ⟨[], .c (.nil _ _ (fun h => by cases h))⟩
    have hblk : a.block < w.heap.size := by
      have h1 := hf ⟨0, by omega⟩ 0 _ (show _ = some (vI _) from rfl)
      by_cases hlt : a.block < w.heap.size
      · exact hlt
      · have h2 : (a.add ((⟨0, by omega⟩ : Fin len0).1 * 26 + 0)).block = a.block := Am.add_block _ _
        have h3 : w.heap[a.block]? = none := Array.getElem?_eq_none (by omega)
        unfold World.cell? at h1
        rw [h2, h3] at h1
        cases h1
    have hget : ∀ i r, (evR' (List.ofFn f))[i]? = some r → ∃ h : i < len0, r = (f ⟨i, h⟩).vs.toList.map AV.v := fun i r hr => by
      simp only [evR', List.getElem?_map] at hr
      by_cases hi : i < len0
      · refine ⟨hi, ?_⟩
        rw [List.getElem?_ofFn, dif_pos hi] at hr
        simpa using hr.symm
      · rw [List.getElem?_ofFn, dif_neg hi] at hr
        simp at hr
    have hl : (evR' (List.ofFn f)).length = len0 := by simp [evR']
    refine ⟨List.ofFn f, .c ?_⟩
    have := RepC.sl (w := w) (S := AllB w) (evR' (List.ofFn f)) a cap0 26 (fun i j => if h : i < len0 then (f ⟨i, h⟩).vs.toList.getD j undef else undef) hblk (fun r hr => by
      obtain ⟨i, hi, rfl⟩ := List.getElem_of_mem hr
      obtain ⟨_, h2⟩ := hget i _ (List.getElem?_eq_getElem hi)
      rw [h2]; simp [Ev.vs]) (by rw [hl]; exact hlc) (by rw [hl]; exact Nat.le_trans hlc hcm) (fun i r hr j u hu => ?_) (fun i r hr j u hu => ?_)
    · rw [hl] at this; exact this
    · obtain ⟨hi, rfl⟩ := hget i r hr
      simp only [List.getElem?_map, Option.map_eq_some_iff] at hu
      obtain ⟨x, hx1, rfl⟩ := hu
      simp only [hi, dif_pos]
      rw [List.getD_eq_getElem?_getD, hx1]
      exact hf ⟨i, hi⟩ j x hx1
    · obtain ⟨hi, rfl⟩ := hget i r hr
      simp only [List.getElem?_map, Option.map_eq_some_iff] at hu
      obtain ⟨x, hx1, rfl⟩ := hu
      simp only [hi, dif_pos]
      rw [List.getD_eq_getElem?_getD, hx1]
      exact .v _ (ev_one _ x (List.mem_of_getElem? hx1))
end
theorem evR_eq (l : List Ev) : evR' l = evR l := rfl
end Go.Proofs.Ytdnaadcbimbfmaa
set_option linter.unusedSimpArgs false
set_option linter.unusedVariables false
namespace Go.Proofs.Ytdnaadcbimbfmaa
open Go Go.RowKit Am

def ltE (x y : Ev) : Bool := laterB y x
theorem swo_ltE : SWO ltE where
  asym x y h := by
    unfold ltE at h ⊢
    rw [later_iff] at h
    rw [Bool.eq_false_iff]
    intro h2
    rw [later_iff] at h2
    omega
  ntr x y z h := by
    unfold ltE at h ⊢
    rw [later_iff] at h ⊢
    rw [later_iff]
    omega
theorem ltR_ac (x y : Ev) : ltR x.ac y.ac = ltE x y := by unfold ltR ltE; rw [getEv_ac, getEv_ac]
theorem ins_ac (x : Ev) : ∀ (l : List Ev), ins ltR x.ac (evR l) = evR (ins ltE x l) := by
  intro l
  induction l with
  | nil => rfl
  | cons y l ih =>
    show ins ltR x.ac (y.ac :: evR l) = _
    simp only [ins, ltR_ac]
    split
    · rfl
    · rw [ih]; rfl
theorem isort_ac (l : List Ev) : isort ltR (evR l) = evR (isort ltE l) := by
  have : ∀ (l acc : List Ev), (evR l).foldl (fun acc x => ins ltR x acc) (evR acc) = evR (l.foldl (fun acc x => ins ltE x acc) acc) := by
    intro l
    induction l with
    | nil => intro acc; rfl
    | cons x l ih =>
      intro acc
      show (evR l).foldl _ (ins ltR x.ac (evR acc)) = _
      rw [ins_ac, ih]; rfl
  exact this l []
theorem evR_ev (l : List Ev) : ∀ r ∈ evR l, isEv r := fun r h => by
  obtain ⟨e, _, rfl⟩ := List.mem_map.1 h
  exact ⟨e, rfl⟩
def liveP (l : List Ev) (a : Ev) : Bool := addsB a.op.kind && !(l.any fun b => endsB b a)
def liveAll (l : List Ev) : List Ev := isort ltE (l.filter (liveP l))
abbrev oneR (e : Ev) : List (List AV) := [e.ac]
abbrev sh21 (i' n' : Int) (rows out : List (List AV)) : St := { slots := [(8, aI i'), (7, aI n'), (6, .sl rows), (0, .sl rows), (3, .own 0 0)], obs := [(0, .row 37 26 out 0 0)], ctr := 1 }
theorem liveAll_ok (l : List Ev) (hl : l.length ≤ 100000000) (rows : List (List AV)) (hrows : rows = evR l) (out : List (List AV)) (hout : out = evR (liveAll l)) : CSem Try.prog (.fn 93) [.sl rows] (.own 37 26 out []) := by
  refine of_text gam_ok mixed { n := 30, keep := [25], wrs := [104] } Try.func93 (by kernel_rfl) rfl rfl (by simp) (by decide) fun F C D hF hC hD => ?_
  obtain ⟨n', hn'⟩ : ∃ n', F .len rows = n' := ⟨_, rfl⟩
  have en : n' = (l.length : Int) := by rw [← hn', lenF hF, hrows, evR_len]
  cbv
  rw [hn']
  refine ⟨Nat × Int × List (List AV), fun x => sh21 x.2.1 n' rows x.2.2, fun x => x.2.1 = (x.1 : Int) ∧ x.1 ≤ l.length ∧ x.2.2 = evR ((l.take x.1).filter (liveP l)), fun x => l.length - x.1, ⟨(0, 0, []), ⟨rfl, Nat.zero_le _, by simp [evR]⟩, Le.trans (le_nil 3 37 26 (by rfl) (by rfl)) (le_of [] (by simp [leSl, leOb, injK, memK, parK, noTup, lk, rn0, rnA, plain, aI]))⟩, fun x hx => ?_⟩
  obtain ⟨i, i', o⟩ := x
  obtain ⟨ei, hi, ho⟩ := hx
  simp only at ei hi ho
  have en : n' = (l.length : Int) := en
  have tl := ltF hF i l.length i' n' ei en
  have ep := incF hF ei (by omega)
  have hol : o.length ≤ l.length := by
    rw [ho, evR_len]
    exact Nat.le_trans (List.length_filter_le _ _) (by simp; omega)
  have hlen : ∀ r ∈ o, r.length = 26 := fun r h => by rw [ho] at h; exact (evR_ev _ r h).len
  have room : ∀ q : List (List AV), q.length = 1 → (F .len o + F .len q) * 232 ≤ 140737488355328 := fun q hq => by rw [lenF hF, lenF hF, hq]; omega
  obtain ⟨j, hj⟩ : ∃ j, F .ar .add .i64 i' 1 = j := ⟨_, rfl⟩
  have ej : j = ((i + 1 : Nat) : Int) := hj.symm.trans ep
  cbv
  refine br (fun h => ?_) (fun h => ?_) <;> cbv
  · have hil := tl.1 h
    obtain ⟨e, he⟩ : ∃ e, l[i]? = some e := ⟨_, List.getElem?_eq_getElem hil⟩
    have hrow : rows[i]? = some e.ac := by rw [hrows]; exact evR_get he
    have htake : l.take (i + 1) = l.take i ++ [e] := by rw [List.take_add_one, he]; rfl
    have hno : liveP l e = false → o = evR ((l.take (i + 1)).filter (liveP l)) := fun h => by rw [htake, List.filter_append, ho]; simp [evR, h]
    obtain ⟨o2, ho2⟩ : ∃ o2, o2 = F .app o [e.ac] := ⟨_, rfl⟩
    have hyes : liveP l e = true → o2 = evR ((l.take (i + 1)).filter (liveP l)) := fun h => by rw [ho2, htake, List.filter_append, ho, hF]; simp [evR, h, sy]
    have hrm := room [e.ac] rfl
    have hel : ∀ r ∈ [e.ac], r.length = 26 := fun r h => by rw [List.mem_singleton.1 h]; rfl
    generalize ha : addsB e.op.kind = ad
    have hadd := hC _ _ _ (adds_ok _ _ ha.symm)
    generalize hy : (l.any fun b => endsB b e) = an
    have hany := hC _ _ _ (containsFunc_ok 103 [.ept e.ac 0] (fun b => endsB b e) (fun b => all1_ok b e _ rfl) l hl rows hrows an hy.symm)
    have hb : F .bnot an = !an := by rw [hF]; rfl
    have hlp : liveP l e = (ad && !an) := by unfold liveP; rw [ha, hy]
    refine ⟨i, e.ac, ei, hrow, rfl, ?_⟩
    cbv
    refine ⟨_, hadd, ?_⟩
    cbv
    refine br (fun g => ?_) (fun g => ?_) <;> cbv
    · refine ⟨_, hany, ?_⟩
      cbv
      refine br (fun f => ?_) (fun f => ?_) <;> cbv
      · refine ⟨hel, hrm, ?_⟩
        rw [hj]
        exact ⟨(i + 1, j, o2), ⟨ej, hil, hyes (by rw [hlp, g, ← hb, f]; rfl)⟩, (show l.length - (i + 1) < l.length - i by omega), le_of [(0, 2)] (by simp [leSl, leOb, injK, memK, parK, noTup, lk, rn0, rnA, plain]; exact ⟨ho2.symm, rfl⟩)⟩
      · rw [hj]
        exact ⟨(i + 1, j, o), ⟨ej, hil, hno (by rw [hlp, g, ← hb, f]; rfl)⟩, (show l.length - (i + 1) < l.length - i by omega), le_of [] (by simp [leSl, leOb, injK, memK, parK, noTup, lk, rn0, rnA, plain])⟩
    · rw [hj]
      exact ⟨(i + 1, j, o), ⟨ej, hil, hno (by rw [hlp, g]; rfl)⟩, (show l.length - (i + 1) < l.length - i by omega), le_of [] (by simp [leSl, leOb, injK, memK, parK, noTup, lk, rn0, rnA, plain])⟩
  · have hge : l.length ≤ i := by have := nfB tl h; omega
    have hfin : o = evR (l.filter (liveP l)) := by rw [ho, List.take_of_length_le hge]
    refine ⟨_, _, hC _ _ _ (sortStable_ok o (by omega) (by rw [hfin]; exact evR_ev _) out (by rw [hout, hfin, isort_ac]; rfl)), ?_⟩
    cbv
end Go.Proofs.Ytdnaadcbimbfmaa
set_option linter.unusedSimpArgs false
set_option linter.unusedVariables false
namespace Go.Proofs.Ytdnaadcbimbfmaa
open Go Go.RowKit Am

def typI (k : Int) : Int := if k = 1 then 1 else if k = 2 then 2 else if k = 3 then 3 else if k = 5 then 4 else if k = 7 then 5 else if k = 9 then 6 else 0
theorem typ_ok (k : Int) (r : Int) (hr : r = typI k) : CSem Try.prog (.fn 92) [aI k] (.pure [aI r]) := by
  refine of_text gam_ok mixed { n := 16 } Try.func92 (by kernel_rfl) rfl rfl (by simp) (by decide) fun F C D hF hC hD => ?_
  cbv
  refine ⟨fun h1 => ?_, fun h1 => ?_⟩ <;> cbv
  · subst hF; grind [sy, typI]
  refine ⟨fun h2 => ?_, fun h2 => ?_⟩ <;> cbv
  · subst hF; grind [sy, typI]
  refine ⟨fun h3 => ?_, fun h3 => ?_⟩ <;> cbv
  · subst hF; grind [sy, typI]
  refine ⟨fun h4 => ?_, fun h4 => ?_⟩ <;> cbv
  · subst hF; grind [sy, typI]
  refine ⟨fun h5 => ?_, fun h5 => ?_⟩ <;> cbv
  · subst hF; grind [sy, typI]
  refine ⟨fun h6 => ?_, fun h6 => ?_⟩ <;> cbv
  · subst hF; grind [sy, typI]
  · subst hF; grind [sy, typI]

def keyP (key : ByteArray) (e : Ev) : Bool := e.op.key == key
def ofL (l : List Ev) (key : ByteArray) : List Ev := liveAll (l.filter (keyP key))
def ofT (l : List Ev) (key : ByteArray) : Int := match (ofL l key).getLast? with | some e => typI e.op.kind | none => 0
theorem liveAll_len (l : List Ev) : (liveAll l).length ≤ l.length := by
  unfold liveAll
  rw [(isort_ok swo_ltE _).2.2]
  exact List.length_filter_le _ _
abbrev sh51 (i' n' : Int) (key : ByteArray) (rows out : List (List AV)) : St := { slots := [(11, aI i'), (10, aI n'), (9, .sl rows), (1, aS key), (6, .own 0 0)], obs := [(0, .row 37 26 out 0 0)], ctr := 1 }
theorem of_ok (l : List Ev) (hl : l.length ≤ 100000000) (key : ByteArray) (rows : List (List AV)) (hrows : rows = evR l) (out : List (List AV)) (hout : out = evR (ofL l key)) (t : Int) (ht : t = ofT l key) : CSem Try.prog (.fn 67) [.sl rows, aS key] (.own 37 26 out [aI t]) := by
  refine of_text gam_ok mixed { n := 40, keep := [23, 26] } Try.func67 (by kernel_rfl) rfl rfl (by simp) (by decide) fun F C D hF hC hD => ?_
  obtain ⟨n', hn'⟩ : ∃ n', F .len rows = n' := ⟨_, rfl⟩
  have en : n' = (l.length : Int) := by rw [← hn', lenF hF, hrows, evR_len]
  cbv
  rw [hn']
  refine ⟨Nat × Int × List (List AV), fun x => sh51 x.2.1 n' key rows x.2.2, fun x => x.2.1 = (x.1 : Int) ∧ x.1 ≤ l.length ∧ x.2.2 = evR ((l.take x.1).filter (keyP key)), fun x => l.length - x.1, ⟨(0, 0, []), ⟨rfl, Nat.zero_le _, by simp [evR]⟩, Le.trans (le_nil 6 37 26 (by rfl) (by rfl)) (le_of [] (by simp [leSl, leOb, injK, memK, parK, noTup, lk, rn0, rnA, plain, aI]))⟩, fun x hx => ?_⟩
  obtain ⟨i, i', o⟩ := x
  obtain ⟨ei, hi, ho⟩ := hx
  simp only at ei hi ho
  have en : n' = (l.length : Int) := en
  have tl := ltF hF i l.length i' n' ei en
  have ep := incF hF ei (by omega)
  have hol : o.length ≤ l.length := by
    rw [ho, evR_len]
    exact Nat.le_trans (List.length_filter_le _ _) (by simp; omega)
  have room : ∀ q : List (List AV), q.length = 1 → (F .len o + F .len q) * 232 ≤ 140737488355328 := fun q hq => by rw [lenF hF, lenF hF, hq]; omega
  obtain ⟨j, hj⟩ : ∃ j, F .ar .add .i64 i' 1 = j := ⟨_, rfl⟩
  have ej : j = ((i + 1 : Nat) : Int) := hj.symm.trans ep
  cbv
  refine br (fun h => ?_) (fun h => ?_) <;> cbv
  · have hil := tl.1 h
    obtain ⟨e, he⟩ : ∃ e, l[i]? = some e := ⟨_, List.getElem?_eq_getElem hil⟩
    have hrow : rows[i]? = some e.ac := by rw [hrows]; exact evR_get he
    have htake : l.take (i + 1) = l.take i ++ [e] := by rw [List.take_add_one, he]; rfl
    have hno : keyP key e = false → o = evR ((l.take (i + 1)).filter (keyP key)) := fun h => by rw [htake, List.filter_append, ho]; simp [evR, h]
    obtain ⟨o2, ho2⟩ : ∃ o2, o2 = F .app o [e.ac] := ⟨_, rfl⟩
    have hyes : keyP key e = true → o2 = evR ((l.take (i + 1)).filter (keyP key)) := fun h => by rw [ho2, htake, List.filter_append, ho, hF]; simp [evR, h, sy]
    have hrm := room [e.ac] rfl
    have hel : ∀ r ∈ [e.ac], r.length = 26 := fun r h => by rw [List.mem_singleton.1 h]; rfl
    have hk : F .scmp .eql e.op.key key = keyP key e := by rw [hF, keyP, beq_toListBytes]; rfl
    refine ⟨i, e.ac, ei, hrow, rfl, ?_⟩
    cbv
    refine br (fun g => ?_) (fun g => ?_) <;> cbv
    · refine ⟨hel, hrm, ?_⟩
      rw [hj]
      exact ⟨(i + 1, j, o2), ⟨ej, hil, hyes (hk.symm.trans g)⟩, (show l.length - (i + 1) < l.length - i by omega), le_of [(0, 2)] (by simp [leSl, leOb, injK, memK, parK, noTup, lk, rn0, rnA, plain]; exact ⟨ho2.symm, rfl⟩)⟩
    · rw [hj]
      exact ⟨(i + 1, j, o), ⟨ej, hil, hno (hk.symm.trans g)⟩, (show l.length - (i + 1) < l.length - i by omega), le_of [] (by simp [leSl, leOb, injK, memK, parK, noTup, lk, rn0, rnA, plain])⟩
  · have hge : l.length ≤ i := by have := nfB tl h; omega
    have hfin : o = evR (l.filter (keyP key)) := by rw [ho, List.take_of_length_le hge]
    have hfl : (l.filter (keyP key)).length ≤ 100000000 := Nat.le_trans (List.length_filter_le _ _) hl
    refine ⟨37, 26, out, [], hC _ _ _ (liveAll_ok _ hfl o hfin out hout), ?_⟩
    have hln : F .len out = (out.length : Int) := lenF hF out
    have hlast : out.length = (ofL l key).length := by rw [hout, evR_len]
    have h0 : F .cmp .eql (F .len out) 0 = true → out = [] ∧ t = 0 := fun g => by
      rw [hln, hF] at g
      simp [sy] at g
      refine ⟨g, ?_⟩
      have : ofL l key = [] := List.eq_nil_of_length_eq_zero (by rw [← hlast, g]; rfl)
      rw [ht, ofT, this]; rfl
    have h1 : F .cmp .eql (F .len out) 0 = false → ∃ (m : Nat) (e : Ev), (ofL l key)[m]? = some e ∧ F .ar .sub .i64 (F .len out) 1 = (m : Int) ∧ out[m]? = some e.ac ∧ t = typI e.op.kind := fun g => by
      rw [hln, hF] at g
      simp [sy] at g
      have hpos : 0 < out.length := List.length_pos_iff.2 g
      have hll := liveAll_len (l.filter (keyP key))
      have hb : out.length ≤ 100000000 := by rw [hlast]; exact Nat.le_trans hll hfl
      obtain ⟨e, he⟩ : ∃ e, (ofL l key)[out.length - 1]? = some e := ⟨_, List.getElem?_eq_getElem (by omega)⟩
      refine ⟨out.length - 1, e, he, by rw [hln, hF]; exact (wrap_in (by omega) (by omega)).trans (by omega), by rw [show out = evR (ofL l key) from hout] at *; exact evR_get he, ?_⟩
      rw [ht, ofT, List.getLast?_eq_getElem?, ← hlast, he]
    cbv
    refine br (fun g => ?_) (fun g => ?_) <;> cbv
    · obtain ⟨g1, g2⟩ := h0 g
      rw [g1, g2]
      exact ⟨rfl, rfl, trivial⟩
    · obtain ⟨m, e, q1, q2, q3, q4⟩ := h1 g
      refine ⟨m, e.ac, q2, q3, ?_⟩
      cbv
      refine ⟨_, hC _ _ _ (typ_ok _ t q4), ?_⟩
      cbv
      exact ⟨rfl, trivial⟩
theorem type_ok (l : List Ev) (hl : l.length ≤ 100000000) (key : ByteArray) (rows : List (List AV)) (hrows : rows = evR l) (t : Int) (ht : t = ofT l key) : CSem Try.prog (.fn 39) [.sl rows, aS key] (.pure [aI t]) := by
  refine of_text gam_ok mixed { n := 14 } Try.func39 (by kernel_rfl) rfl rfl (by simp) (by decide) fun F C D hF hC hD => ?_
  obtain ⟨out, hout⟩ : ∃ out, out = evR (ofL l key) := ⟨_, rfl⟩
  have h1 := hC _ _ _ (of_ok l hl key rows hrows out hout t ht)
  clear hout
  cbv
  refine ⟨_, h1, ?_⟩
  cbv
  exact ⟨rfl, trivial⟩
def aw10 : Ev := { dot := ⟨0, 1⟩, time := 0, deps := fun _ => 0, op := { kind := 1, key := ⟨#[107]⟩, fld := ⟨#[]⟩, val := ⟨#[]⟩, num := 0, ref := ⟨0, 0⟩ } }
theorem aw10_live : liveP [aw10] aw10 = true := by
  simp [liveP, aw10, addsB, endsB, covers, hasB, dotB, replica, vget]
theorem aw10_all : liveAll [aw10] = [aw10] := by
  rw [liveAll, List.filter_cons_of_pos aw10_live]; rfl
theorem aw10_of : ofL [aw10] ⟨#[107]⟩ = [aw10] := by
  have : keyP ⟨#[107]⟩ aw10 = true := by unfold keyP; rw [bytes_beq]; rfl
  rw [ofL, List.filter_cons_of_pos this]; exact aw10_all
end Go.Proofs.Ytdnaadcbimbfmaa
set_option linter.unusedSimpArgs false
set_option linter.unusedVariables false
namespace Go.Proofs.Ytdnaadcbimbfmaa
open Go Go.RowKit Am

/-- IndexFunc, handed a row that its caller goes on writing to. -/
theorem indexFuncW_ok (g : Nat) (caps : List AV) (p : Ev → Bool) (hp : ∀ e, CSem Try.prog (.fn g) (.agg e.ac :: caps) (.pure [aB (p e)])) (l : List Ev) (hl : l.length ≤ 100000000) (rows : List (List AV)) (hrows : rows = evR l) (r : Int) (hr : r = idxP p l) :
    CSem Try.prog (.wr 101 [(0, .row 37 26 rows 0 0)] [(0, .row 37 26 rows 0 0)]) [.own 0 0, .clo g caps] (.pure [aI r]) := by
  refine of_textW gam_ok mixed { n := 19 } Try.func101 (by kernel_rfl) rfl rfl (by simp) (by decide) rfl fun F C D hF hC hD => ?_
  obtain ⟨n', hn'⟩ : ∃ n', F .len rows = n' := ⟨_, rfl⟩
  have en : n' = (l.length : Int) := by rw [← hn', lenF hF, hrows, evR_len]
  cbv
  rw [hn']
  refine ⟨Nat × Int, fun x => { slots := [(8, aI x.2), (7, aI n'), (0, .own 0 0), (1, .clo g caps)], obs := [(0, .row 37 26 rows 0 0)], ctr := 2, par := 2 }, fun x => x.2 = (x.1 : Int) ∧ x.1 ≤ l.length ∧ ∀ k e, k < x.1 → l[k]? = some e → p e = false, fun x => l.length - x.1, ⟨(0, 0), ⟨rfl, Nat.zero_le _, fun k e hk => by omega⟩, le_of [] (by simp [leSl, leOb, injK, memK, parK, noTup, lk, rn0, rnA, plain, aI])⟩, fun x hx => ?_⟩
  obtain ⟨i, i'⟩ := x
  obtain ⟨ei, hi, hz⟩ := hx
  simp only at ei hi hz
  have en : n' = (l.length : Int) := en
  have tl := ltF hF i l.length i' n' ei en
  have ep := incF hF ei (by omega)
  cbv
  refine br (fun h => ?_) (fun h => ?_) <;> cbv
  · have hil := tl.1 h
    obtain ⟨e, he⟩ : ∃ e, l[i]? = some e := ⟨_, List.getElem?_eq_getElem hil⟩
    have hrow : rows[i]? = some e.ac := by rw [hrows]; exact evR_get he
    refine ⟨i, e.ac, ei, hrow, ?_⟩
    cbv
    refine ⟨_, hC _ _ _ (hp e), ?_⟩
    generalize hpe : p e = c
    cbv
    refine br (fun g => ?_) (fun g => ?_) <;> cbv
    · have : i' = r := by rw [hr, ei]; exact (idxP_at (fun k x hk hx => hz k x hk hx) he (hpe.trans g)).symm
      rw [this]; exact ⟨rfl, trivial⟩
    · obtain ⟨j, hj⟩ : ∃ j, F .ar .add .i64 i' 1 = j := ⟨_, rfl⟩
      rw [hj]
      refine ⟨(i + 1, j), ⟨hj.symm.trans ep, hil, fun k x hk hx => ?_⟩, (show l.length - (i + 1) < l.length - i by omega), Le.trans le_fresh (le_of [] (by simp [St.fresh, freshObs, Ob.fresh, mapS, killR, relT, leSl, leOb, injK, memK, parK, noTup, lk, rn0, rnA, plain]))⟩
      by_cases e1 : k < i
      · exact hz k x e1 hx
      · have : k = i := by have := (show k < i + 1 from hk); omega
        rw [this, he] at hx
        injection hx with hx
        rw [← hx]; exact hpe.trans g
  · have hge : l.length ≤ i := by have := nfB tl h; omega
    have : (-1 : Int) = r := by rw [hr]; exact (idxP_none (fun k x hx => hz k x (by have := (List.getElem?_eq_some_iff.1 hx).1; omega) hx)).symm
    rw [← this]; exact ⟨rfl, trivial⟩

/-- The rows while the kept ones move to the front. -/
structure DelI (p : Ev → Bool) (l : List Ev) (i j : Nat) (R : List (List AV)) : Prop where
  len : R.length = l.length
  ij : i < j
  jl : j ≤ l.length
  kept : R.take i = evR ((l.take j).filter fun e => !p e)
  rest : R.drop j = evR (l.drop j)
  ev : ∀ r ∈ R, r.length = 26
theorem DelI.start {p : Ev → Bool} {l : List Ev} {i : Nat} (h : idxP p l = (i : Int)) : DelI p l i (i + 1) (evR l) := by
  unfold idxP at h
  cases hf : l.findIdx? p with
  | none => rw [hf] at h; simp only at h; omega
  | some k =>
    rw [hf] at h
    have : k = i := by simp only at h; omega
    subst this
    rw [List.findIdx?_eq_some_iff_getElem] at hf
    obtain ⟨h1, h2, h3⟩ := hf
    refine ⟨evR_len l, by omega, by omega, ?_, by simp [evR], fun r hr => (evR_ev l r hr).len⟩
    rw [List.take_succ_eq_append_getElem h1, List.filter_append]
    have h4 : (l.take k).filter (fun e => !p e) = l.take k := List.filter_eq_self.2 fun e he => by
      obtain ⟨j, hj, rfl⟩ := List.getElem_of_mem he
      have hj2 : j < k := by simp at hj; omega
      rw [List.getElem_take]
      simpa using h3 j hj2
    rw [h4]
    simp [evR, h2]
theorem DelI.row {p : Ev → Bool} {l : List Ev} {i j : Nat} {R : List (List AV)} (h : DelI p l i j R) {e : Ev} (he : l[j]? = some e) : R[j]? = some e.ac := by
  have h1 : (R.drop j)[0]? = (evR (l.drop j))[0]? := by rw [h.rest]
  rw [List.getElem?_drop] at h1
  simp only [evR, List.getElem?_map, List.getElem?_drop, Nat.add_zero] at h1
  rw [h1, he]; rfl
theorem DelI.drop {p : Ev → Bool} {l : List Ev} {i j : Nat} {R : List (List AV)} (h : DelI p l i j R) {e : Ev} (he : l[j]? = some e) (hp : p e = true) : DelI p l i (j + 1) R := by
  have hj := (List.getElem?_eq_some_iff.1 he).1
  refine ⟨h.len, by have := h.ij; omega, hj, ?_, ?_, h.ev⟩
  · rw [List.take_add_one, he, List.filter_append, h.kept]; simp [evR, hp]
  · have := congrArg (List.drop 1) h.rest
    simpa [evR, List.drop_drop] using this
theorem DelI.keep {p : Ev → Bool} {l : List Ev} {i j : Nat} {R : List (List AV)} (h : DelI p l i j R) {e : Ev} (he : l[j]? = some e) (hp : p e = false) : DelI p l (i + 1) (j + 1) (R.set i e.ac) := by
  have hj := (List.getElem?_eq_some_iff.1 he).1
  have hij := h.ij
  have hl := h.len
  refine ⟨by simp [h.len], by omega, hj, ?_, ?_, fun r hr => ?_⟩
  · rw [List.take_add_one, List.take_add_one, he, List.filter_append]
    rw [List.take_set_of_le (Nat.le_refl _), h.kept]
    rw [List.getElem?_set_self (by omega)]
    simp [evR, hp]
  · have := congrArg (List.drop 1) h.rest
    rw [List.drop_set_of_lt (by omega)]
    simpa [evR, List.drop_drop] using this
  · rcases List.mem_or_eq_of_mem_set hr with h1 | h1
    · exact h.ev r h1
    · rw [h1]; rfl
abbrev sh52 (i' j' : Int) (caps : List AV) (R : List (List AV)) : St := { slots := [(5, aI i'), (6, aI j'), (0, .own 0 0), (1, .clo 91 caps)], obs := [(0, .row 37 26 R 0 0)], ctr := 2, par := 2 }
def zEv : List AV := [aI 0, aI 0, aI 0, aI 0, aI 0, aI 0, aI 0, aI 0, aI 0, aI 0, aI 0, aI 0, aI 0, aI 0, aI 0, aI 0, aI 0, aI 0, aI 0, aI 0, aS .empty, aS .empty, aS .empty, aI 0, aI 0, aI 0]
theorem deleteFunc_ok (caps : List AV) (p : Ev → Bool) (hp : ∀ e, CSem Try.prog (.fn 91) (.agg e.ac :: caps) (.pure [aB (p e)])) (l : List Ev) (hl : l.length ≤ 100000000) (rows : List (List AV)) (hrows : rows = evR l) (out : List (List AV)) (hout : out = evR (l.filter fun e => !p e)) :
    CSem Try.prog (.wr 90 [(0, .row 37 26 rows 0 0)] []) [.own 0 0, .clo 91 caps] (.own 37 26 out []) := by
  refine of_textW gam_ok mixed { n := 42, keep := [41], wrs := [101] } Try.func90 (by kernel_rfl) rfl rfl (by simp) (by decide) rfl fun F C D hF hC hD => ?_
  obtain ⟨i0, hi0⟩ : ∃ i0, i0 = idxP p l := ⟨_, rfl⟩
  have h0 := hC _ _ _ (indexFuncW_ok 91 caps p hp l hl rows hrows i0 hi0)
  have c1 : F .cmp .eql i0 (-1) = true → rows = out := fun h => by
    rw [hF] at h
    have h : i0 = -1 := by simpa [sy] using h
    rw [hrows, hout]
    congr 1
    refine (List.filter_eq_self.2 fun e he => ?_).symm
    rw [hi0] at h
    unfold idxP at h
    cases hf : l.findIdx? p with
    | none => rw [List.findIdx?_eq_none_iff] at hf; simpa using hf e he
    | some k => rw [hf] at h; simp at h
  have c2 : F .cmp .eql i0 (-1) = false → ∃ k : Nat, i0 = (k : Int) ∧ DelI p l k (k + 1) (evR l) ∧ F .ar .add .i64 i0 1 = ((k + 1 : Nat) : Int) := fun h => by
    rw [hF] at h
    have h : i0 ≠ -1 := by simpa [sy] using h
    cases hf : l.findIdx? p with
    | none => rw [hi0] at h; unfold idxP at h; rw [hf] at h; simp at h
    | some k =>
      have e : idxP p l = (k : Int) := by unfold idxP; rw [hf]
      have hk : k < l.length := by
        rw [List.findIdx?_eq_some_iff_getElem] at hf
        exact hf.1
      exact ⟨k, hi0.trans e, DelI.start e, incF hF (hi0.trans e) (by omega)⟩
  clear hi0
  obtain ⟨j0, hj0⟩ : ∃ j0, F .ar .add .i64 i0 1 = j0 := ⟨_, rfl⟩
  cbv
  refine ⟨_, _, h0, ?_⟩
  cbv
  refine br (fun h => ?_) (fun h => ?_) <;> cbv
  · exact ⟨c1 h, trivial⟩
  · obtain ⟨k, ek, hk, ek1⟩ := c2 h
    rw [hj0] at ek1 ⊢
    refine ⟨Nat × Nat × Int × Int × List (List AV), fun x => sh52 x.2.2.1 x.2.2.2.1 caps x.2.2.2.2, fun x => x.2.2.1 = (x.1 : Int) ∧ x.2.2.2.1 = (x.2.1 : Int) ∧ DelI p l x.1 x.2.1 x.2.2.2.2, fun x => l.length - x.2.1, ⟨(k, k + 1, i0, j0, rows), ⟨ek, ek1, by rw [hrows]; exact hk⟩, Le.trans le_fresh (le_of [] (by simp [St.fresh, freshObs, Ob.fresh, mapS, killR, relT, leSl, leOb, injK, memK, parK, noTup, lk, rn0, rnA, plain, aI]))⟩, fun x hx => ?_⟩
    obtain ⟨i, j, i', j', R⟩ := x
    obtain ⟨ei, ej, hd⟩ := hx
    simp only at ei ej hd
    have hln : F .len R = (l.length : Int) := by rw [lenF hF, hd.len]
    obtain ⟨n', hn'⟩ : ∃ n', F .len R = n' := ⟨_, rfl⟩
    have en : n' = (l.length : Int) := hn'.symm.trans hln
    have tl := ltF hF j l.length j' n' ej en
    have hjl := hd.jl
    have hij := hd.ij
    have eip := incF hF ei (by omega)
    have ejp := incF hF ej (by omega)
    obtain ⟨i2, hi2⟩ : ∃ i2, F .ar .add .i64 i' 1 = i2 := ⟨_, rfl⟩
    obtain ⟨j2, hj2⟩ : ∃ j2, F .ar .add .i64 j' 1 = j2 := ⟨_, rfl⟩
    rw [hi2] at eip
    rw [hj2] at ejp
    have hb : ∀ c, F .bnot c = !c := fun c => by rw [hF]; rfl
    cbv
    rw [hn']
    refine br (fun h => ?_) (fun h => ?_) <;> cbv
    · have hil := tl.1 h
      obtain ⟨e, he⟩ : ∃ e, l[j]? = some e := ⟨_, List.getElem?_eq_getElem hil⟩
      have hrow := hd.row he
      obtain ⟨ci, hci⟩ : ∃ ci, R[i]? = some ci := ⟨_, List.getElem?_eq_getElem (by rw [hd.len]; omega)⟩
      have hpa := hp e
      generalize hpe : p e = c at hpa
      have hbc := hb c
      have eR2 : F .set R i e.ac = R.set i e.ac := by rw [hF]; rfl
      have hdy : F .bnot c = true → DelI p l (i + 1) (j + 1) (F .set R i e.ac) := fun g => by rw [eR2]; exact hd.keep he (hpe.trans (by rw [hbc] at g; simpa using g))
      have hdn : F .bnot c = false → DelI p l i (j + 1) R := fun g => hd.drop he (hpe.trans (by rw [hbc] at g; simpa using g))
      refine ⟨j, e.ac, ej, hrow, ?_⟩
      cbv
      refine ⟨_, hC _ _ _ hpa, ?_⟩
      cbv
      refine br (fun g => ?_) (fun g => ?_) <;> cbv
      · refine ⟨i, ci, ei, hci, ?_⟩
        cbv
        refine ⟨.mk rfl, ?_⟩
        cbv
        rw [hi2, hj2]
        exact ⟨(i + 1, j + 1, i2, j2, F .set R i e.ac), ⟨eip, ejp, hdy g⟩, (show l.length - (j + 1) < l.length - j by omega), Le.trans le_fresh (le_of [] (by simp [St.fresh, freshObs, Ob.fresh, mapS, killR, relT, leSl, leOb, injK, memK, parK, noTup, lk, rn0, rnA, plain]; rfl))⟩
      · rw [hj2]
        refine ⟨(i, j + 1, i', j2, R), ⟨ei, ejp, hdn g⟩, (show l.length - (j + 1) < l.length - j by omega), Le.trans le_fresh (le_of [] (by simp [St.fresh, freshObs, Ob.fresh, mapS, killR, relT, leSl, leOb, injK, memK, parK, noTup, lk, rn0, rnA, plain]))⟩
    · have hge : l.length ≤ j := by have := nfB tl h; omega
      have hfin : R.take i = out := by rw [hd.kept, hout, List.take_of_length_le hge]
      have hiR : i ≤ R.length := by rw [hd.len]; omega
      have hz : (R.take i ++ List.replicate (R.length - i) zEv).length = R.length := by simp; omega
      obtain ⟨R2, hR2⟩ : ∃ R2, R2 = R.take i ++ List.replicate (R.length - i) zEv := ⟨_, rfl⟩
      have h1 : (i : Int) ≤ F .len R := by rw [lenF hF]; omega
      have h2 : (i : Int) ≤ F .len R2 := by rw [lenF hF, hR2, hz]; omega
      have h3 : out = R2.take i := by
        rw [hR2, List.take_append_of_le_length (by simp; omega), List.take_take, Nat.min_self, hfin]
      refine ⟨i, ?_, h1, ?_⟩
      · rw [← ei]; rfl
      cbv
      refine ⟨R2, hR2, ?_⟩
      cbv
      refine ⟨i, out, ei, h2, h3, ?_⟩
      cbv

theorem of1_ok (t : Int) (e : Ev) (r : Bool) (hr : r = !(typI e.op.kind == t)) : CSem Try.prog (.fn 91) [.agg e.ac, .ept [aI t] 0] (.pure [aB r]) := by
  refine of_text gam_ok mixed { n := 10 } Try.func91 (by kernel_rfl) rfl rfl (by simp) (by decide) fun F C D hF hC hD => ?_
  obtain ⟨k, hk⟩ : ∃ k, k = typI e.op.kind := ⟨_, rfl⟩
  have h1 := hC _ _ _ (typ_ok e.op.kind k hk)
  rw [← hk] at hr
  have h2 : F .cmp .neq k t = r := by rw [hF, hr]; rfl
  cbv
  refine ⟨hC _ _ _ (ben_ok (by kernel_rfl)), ?_⟩
  refine ⟨_, h1, ?_⟩
  cbv
  rw [h2]
  exact ⟨rfl, trivial⟩
def ofV (l : List Ev) (key : ByteArray) : List Ev := (ofL l key).filter fun e => typI e.op.kind == ofT l key
theorem ofLive_ok (l : List Ev) (hl : l.length ≤ 100000000) (key : ByteArray) (rows : List (List AV)) (hrows : rows = evR l) (out : List (List AV)) (hout : out = evR (ofV l key)) : CSem Try.prog (.fn 66) [.sl rows, aS key] (.own 37 26 out []) := by
  refine of_text gam_ok mixed { n := 16, keep := [10, 15], wrs := [90] } Try.func66 (by kernel_rfl) rfl rfl (by simp) (by decide) fun F C D hF hC hD => ?_
  obtain ⟨t, ht⟩ : ∃ t, t = ofT l key := ⟨_, rfl⟩
  obtain ⟨R, hR⟩ : ∃ R, R = evR (ofL l key) := ⟨_, rfl⟩
  have h1 := hC _ _ _ (of_ok l hl key rows hrows R hR t ht)
  have hle : (ofL l key).length ≤ 100000000 := by
    have := liveAll_len (l.filter (keyP key))
    have h3 := List.length_filter_le (keyP key) l
    unfold ofL; omega
  have h2 := hC _ _ _ (deleteFunc_ok [.ept [aI t] 0] (fun e => !(typI e.op.kind == t)) (fun e => of1_ok t e _ rfl) (ofL l key) hle R hR out (by rw [hout, ofV, ht]; congr 2; funext e; simp))
  cbv
  refine ⟨37, 26, R, [aI t], h1, ?_⟩
  cbv
  refine ⟨[], 37, 26, out, [], h2, ?_⟩
  cbv

theorem ofL_part (l : List Ev) (key : ByteArray) : ofL (l.filter (keyP key)) key = ofL l key := by
  unfold ofL; rw [List.filter_filter]; simp
theorem ofT_part (l : List Ev) (key : ByteArray) : ofT (l.filter (keyP key)) key = ofT l key := by
  unfold ofT; rw [ofL_part]
theorem ofV_part (l : List Ev) (key : ByteArray) : ofV (l.filter (keyP key)) key = ofV l key := by
  unfold ofV; rw [ofL_part, ofT_part]
theorem ofV_len (l : List Ev) (key : ByteArray) : (ofV l key).length ≤ l.length := by
  have h1 := liveAll_len (l.filter (keyP key))
  have h2 := List.length_filter_le (keyP key) l
  have h3 := List.length_filter_le (fun e => typI e.op.kind == ofT l key) (ofL l key)
  unfold ofV; unfold ofL at h3 ⊢; omega
end Go.Proofs.Ytdnaadcbimbfmaa
set_option linter.unusedSimpArgs false
set_option linter.unusedVariables false
namespace Go.Proofs.Ytdnaadcbimbfmaa
open Go Go.RowKit Am

abbrev aV (n : Int) : AV := .v (.int .u64 n)
/-- How many bits a number has. -/
def bl (n : Nat) : Nat := if n = 0 then 0 else n.log2 + 1
theorem bl_shift (n k : Nat) (h : 2 ^ k ≤ n) : bl (n / 2 ^ k) + k = bl n := by
  have hk : 0 < 2 ^ k := Nat.two_pow_pos k
  have h1 : n / 2 ^ k ≠ 0 := by
    have := Nat.div_pos h hk
    omega
  have hn : n ≠ 0 := by omega
  unfold bl
  rw [if_neg h1, if_neg hn]
  have h2 : (n / 2 ^ k).log2 + k = n.log2 := by
    apply Nat.le_antisymm
    · rw [Nat.le_log2 hn, Nat.pow_add]
      have := Nat.log2_self_le h1
      exact Nat.le_trans (Nat.mul_le_mul_right _ this) (Nat.div_mul_le_self n (2 ^ k))
    · have h3 : n.log2 < (n / 2 ^ k).log2 + 1 + k := by
        rw [Nat.log2_lt hn, Nat.pow_add]
        have := Nat.lt_log2_self (n := n / 2 ^ k)
        have h4 := Nat.lt_mul_of_div_lt this hk
        exact h4
      omega
  omega
theorem geU {F : Sy} (hF : F = sy) (n m : Nat) : F .cmp .geq (n : Int) (m : Int) = decide (m ≤ n) := by rw [hF]; simp [sy]
theorem shrU {F : Sy} (hF : F = sy) (n k : Nat) (h : k ≤ 64) : F .ar .shr .u64 (n : Int) (k : Int) = ((n / 2 ^ k : Nat) : Int) := by
  rw [hF]
  show Int.fdiv (n : Int) (2 ^ (min (k : Int).toNat IntKind.u64.bits)) = _
  have : min (k : Int).toNat IntKind.u64.bits = k := by rw [Int.toNat_natCast]; exact Nat.min_eq_left h
  rw [this]
  rw [Int.fdiv_eq_ediv_of_nonneg _ (Int.le_of_lt (Int.pow_pos (by decide)))]
  simp
/-- The table of the lengths of bytes. -/
def lenT : List UInt8 := [0, 1, 2, 2, 3, 3, 3, 3, 4, 4, 4, 4, 4, 4, 4, 4, 5, 5, 5, 5, 5, 5, 5, 5, 5, 5, 5, 5, 5, 5, 5, 5, 6, 6, 6, 6, 6, 6, 6, 6, 6, 6, 6, 6, 6, 6, 6, 6, 6, 6, 6, 6, 6, 6, 6, 6, 6, 6, 6, 6, 6, 6, 6, 6, 7, 7, 7, 7, 7, 7, 7, 7, 7, 7, 7, 7, 7, 7, 7, 7, 7, 7, 7, 7, 7, 7, 7, 7, 7, 7, 7, 7, 7, 7, 7, 7, 7, 7, 7, 7, 7, 7, 7, 7, 7, 7, 7, 7, 7, 7, 7, 7, 7, 7, 7, 7, 7, 7, 7, 7, 7, 7, 7, 7, 7, 7, 7, 7, 8, 8, 8, 8, 8, 8, 8, 8, 8, 8, 8, 8, 8, 8, 8, 8, 8, 8, 8, 8, 8, 8, 8, 8, 8, 8, 8, 8, 8, 8, 8, 8, 8, 8, 8, 8, 8, 8, 8, 8, 8, 8, 8, 8, 8, 8, 8, 8, 8, 8, 8, 8, 8, 8, 8, 8, 8, 8, 8, 8, 8, 8, 8, 8, 8, 8, 8, 8, 8, 8, 8, 8, 8, 8, 8, 8, 8, 8, 8, 8, 8, 8, 8, 8, 8, 8, 8, 8, 8, 8, 8, 8, 8, 8, 8, 8, 8, 8, 8, 8, 8, 8, 8, 8, 8, 8, 8, 8, 8, 8, 8, 8, 8, 8, 8, 8, 8, 8, 8, 8, 8, 8, 8, 8, 8, 8, 8, 8]
set_option maxRecDepth 100000 in
theorem lenT_get : ∀ x, x < 256 → lenT[x]? = some (UInt8.ofNat (bl x)) := by decide
theorem bl_lt (x k : Nat) (h : x < 2 ^ k) : bl x ≤ k := by
  unfold bl
  split
  · omega
  · rename_i hn
    have := (Nat.log2_lt hn).2 h
    omega
theorem wrp8 {F : Sy} (hF : F = sy) (x : Nat) (h : x < 256) : F .wrp .u8 (x : Int) = (x : Int) := by
  rw [hF]
  show IntKind.u8.wrap (x : Int) = _
  exact IntWalk.u8_in _ (by omega)
set_option maxRecDepth 100000 in
theorem tabF {F : Sy} (hF : F = sy) {B x : Nat} (hx : x < 256) {y : Int} (hy : y = (x : Int)) {o : Int} {O : Nat} (ho : o = (O : Int)) (hO : O ≤ 56) (hb : bl x + O = B) :
    0 ≤ y ∧ y < F .slen (BA lenT) ∧ AV.v (Value.int .i64 (F .ar .add .i64 o (F .wrp .i64 (F .bt (BA lenT) y)))) = AV.v (Value.int .i64 (B : Nat)) ∧ True := by
  have hs : F .slen (BA lenT) = 256 := by rw [hF]; rfl
  have h8 := bl_lt x 8 hx
  have hbt : F .bt (BA lenT) y = ((bl x : Nat) : Int) := by
    rw [hy, btF hF (s := BA lenT) (by rw [L_BA]; exact lenT_get x hx)]
    congr 1
    simp
    omega
  refine ⟨by omega, by rw [hs]; omega, ?_, trivial⟩
  have h1 : F .wrp .i64 (F .bt (BA lenT) y) = ((bl x : Nat) : Int) := by
    rw [hbt, hF]
    exact wrap_in (by omega) (by omega)
  rw [h1, ho]
  have h2 : F .ar .add .i64 (O : Int) ((bl x : Nat) : Int) = ((B : Nat) : Int) := by
    rw [hF]
    show IntKind.i64.wrap ((O : Int) + (bl x : Nat)) = _
    rw [wrap_in (by omega) (by omega)]
    omega
  rw [h2]
set_option maxRecDepth 100000 in
set_option maxHeartbeats 8000000 in
theorem len64_ok (n : Nat) (hn : n < 2 ^ 64) : CSem Try.prog (.fn 42) [aV n] (.pure [aI (bl n)]) := by
  refine of_text gam_ok mixed { n := 25 } Try.func42 (by kernel_rfl) rfl rfl (by simp) (by decide) fun F C D hF hC hD => ?_
  obtain ⟨n', e_n⟩ : ∃ n' : Int, n' = (n : Int) := ⟨_, rfl⟩
  obtain ⟨B, hB⟩ : ∃ B, B = bl n := ⟨_, rfl⟩
  rw [← e_n, ← hB]
  cbv
  have ge0 : F .cmp .geq n' 4294967296 = decide (2 ^ 32 ≤ n) := by rw [e_n]; exact geU hF n (2 ^ 32)
  by_cases h0 : 2 ^ 32 ≤ n
  · have t0 := ge0.trans (decide_eq_true h0)
    obtain ⟨x1, hx0⟩ : ∃ y, y = n / 2 ^ 32 := ⟨_, rfl⟩
    have e_x1 : (F .ar .shr .u64 n' 32) = (x1 : Int) := by rw [e_n, hx0]; exact shrU hF n 32 (by decide)
    have b0 := bl_shift n 32 h0
    rw [← hx0] at b0
    have l0 : x1 < 2 ^ 32 := by rw [hx0]; exact Nat.div_lt_of_lt_mul (by omega)
    refine bT (t0) ?_
    cbv
    have ge1 : F .cmp .geq (F .ar .shr .u64 n' 32) 65536 = decide (2 ^ 16 ≤ x1) := by rw [e_x1]; exact geU hF x1 (2 ^ 16)
    by_cases h1 : 2 ^ 16 ≤ x1
    · have t1 := ge1.trans (decide_eq_true h1)
      obtain ⟨x2, hx1⟩ : ∃ y, y = x1 / 2 ^ 16 := ⟨_, rfl⟩
      have e_x2 : (F .ar .shr .u64 (F .ar .shr .u64 n' 32) 16) = (x2 : Int) := by rw [e_x1, hx1]; exact shrU hF x1 16 (by decide)
      have b1 := bl_shift x1 16 h1
      rw [← hx1] at b1
      have l1 : x2 < 2 ^ 16 := by rw [hx1]; exact Nat.div_lt_of_lt_mul (by omega)
      refine bT (t1) ?_
      cbv
      have ge2 : F .cmp .geq (F .ar .shr .u64 (F .ar .shr .u64 n' 32) 16) 256 = decide (2 ^ 8 ≤ x2) := by rw [e_x2]; exact geU hF x2 (2 ^ 8)
      by_cases h2 : 2 ^ 8 ≤ x2
      · have t2 := ge2.trans (decide_eq_true h2)
        obtain ⟨x3, hx2⟩ : ∃ y, y = x2 / 2 ^ 8 := ⟨_, rfl⟩
        have e_x3 : (F .ar .shr .u64 (F .ar .shr .u64 (F .ar .shr .u64 n' 32) 16) 8) = (x3 : Int) := by rw [e_x2, hx2]; exact shrU hF x2 8 (by decide)
        have b2 := bl_shift x2 8 h2
        rw [← hx2] at b2
        have l2 : x3 < 2 ^ 8 := by rw [hx2]; exact Nat.div_lt_of_lt_mul (by omega)
        refine bT (t2) ?_
        cbv
        exact tabF hF (x := x3) (y := F .wrp .u8 (F .ar .shr .u64 (F .ar .shr .u64 (F .ar .shr .u64 n' 32) 16) 8)) (B := B) (by omega) (by rw [e_x3]; exact wrp8 hF x3 (by omega)) (o := (F .ar .add .i64 (F .ar .add .i64 32 16) 8)) (O := 56) (by rw [hF]; rfl) (by omega) (by omega)
      · have t2 := ge2.trans (decide_eq_false h2)
        refine bF (t2) ?_
        cbv
        exact tabF hF (x := x2) (y := F .wrp .u8 (F .ar .shr .u64 (F .ar .shr .u64 n' 32) 16)) (B := B) (by omega) (by rw [e_x2]; exact wrp8 hF x2 (by omega)) (o := (F .ar .add .i64 32 16)) (O := 48) (by rw [hF]; rfl) (by omega) (by omega)
    · have t1 := ge1.trans (decide_eq_false h1)
      refine bF (t1) ?_
      cbv
      have ge2 : F .cmp .geq (F .ar .shr .u64 n' 32) 256 = decide (2 ^ 8 ≤ x1) := by rw [e_x1]; exact geU hF x1 (2 ^ 8)
      by_cases h2 : 2 ^ 8 ≤ x1
      · have t2 := ge2.trans (decide_eq_true h2)
        obtain ⟨x3, hx2⟩ : ∃ y, y = x1 / 2 ^ 8 := ⟨_, rfl⟩
        have e_x3 : (F .ar .shr .u64 (F .ar .shr .u64 n' 32) 8) = (x3 : Int) := by rw [e_x1, hx2]; exact shrU hF x1 8 (by decide)
        have b2 := bl_shift x1 8 h2
        rw [← hx2] at b2
        have l2 : x3 < 2 ^ 8 := by rw [hx2]; exact Nat.div_lt_of_lt_mul (by omega)
        refine bT (t2) ?_
        cbv
        exact tabF hF (x := x3) (y := F .wrp .u8 (F .ar .shr .u64 (F .ar .shr .u64 n' 32) 8)) (B := B) (by omega) (by rw [e_x3]; exact wrp8 hF x3 (by omega)) (o := (F .ar .add .i64 32 8)) (O := 40) (by rw [hF]; rfl) (by omega) (by omega)
      · have t2 := ge2.trans (decide_eq_false h2)
        refine bF (t2) ?_
        cbv
        exact tabF hF (x := x1) (y := F .wrp .u8 (F .ar .shr .u64 n' 32)) (B := B) (by omega) (by rw [e_x1]; exact wrp8 hF x1 (by omega)) (o := 32) (O := 32) (by rfl) (by omega) (by omega)
  · have t0 := ge0.trans (decide_eq_false h0)
    refine bF (t0) ?_
    cbv
    have ge1 : F .cmp .geq n' 65536 = decide (2 ^ 16 ≤ n) := by rw [e_n]; exact geU hF n (2 ^ 16)
    by_cases h1 : 2 ^ 16 ≤ n
    · have t1 := ge1.trans (decide_eq_true h1)
      obtain ⟨x2, hx1⟩ : ∃ y, y = n / 2 ^ 16 := ⟨_, rfl⟩
      have e_x2 : (F .ar .shr .u64 n' 16) = (x2 : Int) := by rw [e_n, hx1]; exact shrU hF n 16 (by decide)
      have b1 := bl_shift n 16 h1
      rw [← hx1] at b1
      have l1 : x2 < 2 ^ 16 := by rw [hx1]; exact Nat.div_lt_of_lt_mul (by omega)
      refine bT (t1) ?_
      cbv
      have ge2 : F .cmp .geq (F .ar .shr .u64 n' 16) 256 = decide (2 ^ 8 ≤ x2) := by rw [e_x2]; exact geU hF x2 (2 ^ 8)
      by_cases h2 : 2 ^ 8 ≤ x2
      · have t2 := ge2.trans (decide_eq_true h2)
        obtain ⟨x3, hx2⟩ : ∃ y, y = x2 / 2 ^ 8 := ⟨_, rfl⟩
        have e_x3 : (F .ar .shr .u64 (F .ar .shr .u64 n' 16) 8) = (x3 : Int) := by rw [e_x2, hx2]; exact shrU hF x2 8 (by decide)
        have b2 := bl_shift x2 8 h2
        rw [← hx2] at b2
        have l2 : x3 < 2 ^ 8 := by rw [hx2]; exact Nat.div_lt_of_lt_mul (by omega)
        refine bT (t2) ?_
        cbv
        exact tabF hF (x := x3) (y := F .wrp .u8 (F .ar .shr .u64 (F .ar .shr .u64 n' 16) 8)) (B := B) (by omega) (by rw [e_x3]; exact wrp8 hF x3 (by omega)) (o := (F .ar .add .i64 (F .ar .add .i64 0 16) 8)) (O := 24) (by rw [hF]; rfl) (by omega) (by omega)
      · have t2 := ge2.trans (decide_eq_false h2)
        refine bF (t2) ?_
        cbv
        exact tabF hF (x := x2) (y := F .wrp .u8 (F .ar .shr .u64 n' 16)) (B := B) (by omega) (by rw [e_x2]; exact wrp8 hF x2 (by omega)) (o := (F .ar .add .i64 0 16)) (O := 16) (by rw [hF]; rfl) (by omega) (by omega)
    · have t1 := ge1.trans (decide_eq_false h1)
      refine bF (t1) ?_
      cbv
      have ge2 : F .cmp .geq n' 256 = decide (2 ^ 8 ≤ n) := by rw [e_n]; exact geU hF n (2 ^ 8)
      by_cases h2 : 2 ^ 8 ≤ n
      · have t2 := ge2.trans (decide_eq_true h2)
        obtain ⟨x3, hx2⟩ : ∃ y, y = n / 2 ^ 8 := ⟨_, rfl⟩
        have e_x3 : (F .ar .shr .u64 n' 8) = (x3 : Int) := by rw [e_n, hx2]; exact shrU hF n 8 (by decide)
        have b2 := bl_shift n 8 h2
        rw [← hx2] at b2
        have l2 : x3 < 2 ^ 8 := by rw [hx2]; exact Nat.div_lt_of_lt_mul (by omega)
        refine bT (t2) ?_
        cbv
        exact tabF hF (x := x3) (y := F .wrp .u8 (F .ar .shr .u64 n' 8)) (B := B) (by omega) (by rw [e_x3]; exact wrp8 hF x3 (by omega)) (o := (F .ar .add .i64 0 8)) (O := 8) (by rw [hF]; rfl) (by omega) (by omega)
      · have t2 := ge2.trans (decide_eq_false h2)
        refine bF (t2) ?_
        cbv
        exact tabF hF (x := n) (y := F .wrp .u8 n') (B := B) (by omega) (by rw [e_n]; exact wrp8 hF n (by omega)) (o := 0) (O := 0) (by rfl) (by omega) (by omega)
end Go.Proofs.Ytdnaadcbimbfmaa
set_option linter.unusedSimpArgs false
set_option linter.unusedVariables false
namespace Go.Proofs.Ytdnaadcbimbfmaa
open Go Go.RowKit Am

variable {a : Act} {w : World} {o : Oper}
theorem q_loadA {t ty : Nat} {ad : Addr} {cs : List Value} {ti : TI} (hg : gam ty = some ti) (hi : ti.agg = true) (hz : ti.size = cs.length) (h : o.op = .load ty (.tmp t)) (e : a.eval (.tmp t) = .pointer (some ad)) (hc : ∀ j v, cs[j]? = some v → w.cell? (ad.add j) = some v) : (execOp a.eval o).run Try.prog w = .ok (.value (.agg cs.toArray)) w := by
  have h9 := (gam_ok ty _ hg).agg
  have hs := (gam_ok ty _ hg).size
  rw [hi] at h9
  rw [hz] at hs
  have hl := run_loadCells_list (P := Try.prog) w ad cs hc
  simp [execOp, h, e, Instr.loadAt, Instr.sureAddr, loadVar, h9, hs, hl]
theorem q_storeN {t x ty g off : Nat} {tt : TypeId} {cur : Array Value} {cs : List Value} {ti : TI} (hg : gam ty = some ti) (hz : ti.size = cs.length) (h : o.op = .store ty (.tmp t) (.tmp x)) (e : a.eval (.tmp t) = .pointer (some ⟨g, off, none⟩)) (ev : a.eval (.tmp x) = .agg cs.toArray) (hc : w.heap[g]? = some (.cells cur tt (0, 0))) (hf : off + cs.length ≤ cur.size) (h1 : ∀ v ∈ cs, v.oneCell' = true) :
    (execOp a.eval o).run Try.prog w = .ok .skip (w.setRow g (cur.toList.take off ++ cs ++ cur.toList.drop (off + cs.length)).toArray) := by
  have hs := (gam_ok ty _ hg).size
  rw [hz] at hs
  have hst := run_storeCells_at Try.prog g off tt cs 0 cur w hc (by simpa using hf) h1
  simp only [Nat.add_zero] at hst
  simp [execOp, h, e, ev, Instr.storeAt, Instr.sureAddr, storeVar, hs, Value.cells]
  simp at hst
  rw [hst]
  rfl
theorem q_max {x y ty : Nat} {k : IntKind} {m n : Int} {ats : Array TypeId} (h : o.op = .call { callee := .builtin .max, args := #[.tmp x, .tmp y], argTypes := ats }) (ex : a.eval (.tmp x) = .int k m) (ey : a.eval (.tmp y) = .int k n) : (execOp a.eval o).run Try.prog w = .ok (.value (.int k (max m n))) w := by
  have : (if n > m then n else m) = max m n := by omega
  simp [execOp, h, resolve, invoke, builtin, ex, ey, Builtin.max_, Builtin.max2, ← this]
theorem q_ext {x i : Nat} {vs : Array Value} {v : Value} (h : o.op = .extract (.tmp x) i) (ex : a.eval (.tmp x) = .tuple vs) (hv : vs[i]? = some v) : (execOp a.eval o).run Try.prog w = .ok (.value v) w := by
  simp [execOp, h, ex, Instr.extract, hv]
theorem q_asg {x : Nat} {v : Value} (h : o.op = .assign (.tmp x)) (ex : a.eval (.tmp x) = v) : (execOp a.eval o).run Try.prog w = .ok (.value v) w := by
  simp [execOp, h, ex]

def remShape : List (Option Nat × Op) := [(some 40, .move (.tmp 5)), (some 41, .nilCheck (.tmp 40)), (some 42, .fieldAddr 81 (.tmp 41) 0), (some 43, .fieldAddr 65 (.tmp 7) 0), (some 44, .load 33 (.tmp 43)), (some 45, .call { callee := .value (.func 29), args := #[.tmp 42, .tmp 44], argTypes := #[77, 33] })]
def remNeed : Nat → List Nat
  | 1 => [0] | 2 => [1] | 4 => [3] | 5 => [2, 4] | _ => []
def remVal (A : Nat) (ad : Addr) (x : Dt) (q : Nat) : Option Value :=
  match q with
  | 0 => some (.pointer (some (⟨A, 0, none⟩))) | 1 => some (.pointer (some (⟨A, 0, none⟩))) | 2 => some (.pointer (some (((⟨A, 0, none⟩ : Addr).add 0)))) | 3 => some (.pointer (some (ad.add 0))) | 4 => some (.agg x.vs) | _ => none
def remT (A : Nat) (ad : Addr) (x : Dt) (W : World) (J : Value → World → Prop) (k : Nat) (f : Nat → Value) (w : World) : Prop :=
  match k with
  | 0 => w = W
  | _ => J (f 45) w
set_option maxHeartbeats 4000000 in
set_option maxRecDepth 100000 in
theorem rem_region {id : Nat} {ops : List Oper} {Q : Exit → Act → World → Prop} {a0 : Act} {w : World} (A : Nat) (ad : Addr) (x : Dt) (hops : ops.map (fun o => (o.dst, o.op)) = remShape) (hdep : depsC remNeed ops = true) (hz : a0.tmps.size = 97)
    (h5 : a0.eval (.tmp 5) = .pointer (some (⟨A, 0, none⟩))) (h7 : a0.eval (.tmp 7) = .pointer (some (ad)))
    (c7 : ∀ j v, x.vs.toList[j]? = some v → w.cell? ((ad.add 0).add j) = some v)
    (J : Value → World → Prop) (hc : Calls Try.prog 29 #[.pointer (some ((⟨A, 0, none⟩ : Addr).add 0)), .agg x.vs] w.drew fun r w2 => ∃ v, r = .returned v ∧ J v w2) (hQ : ∀ a' v w2, a'.tmps.size = 97 → a'.defers = a0.defers → J v w2 → (∀ t, (∀ (j : Nat) (op : Op), remShape[j]? ≠ some (some t, op)) → a'.eval (.tmp t) = a0.eval (.tmp t)) → Q .normal a' w2) : (Code.region id ops.toArray true).wp Try.prog Q a0 w := by
  refine region_chain mixed 97 hz remShape hops remNeed hdep (by decide) (remVal A ad x) [5] (remT A ad x w.drew J) (fun k f f' w1 hT hk => ?_) (by decide) (fun q hq => ?_) (fun m hm => ?_) (by decide) (fun p m m' h1 h2 => ?_) ?_ ?_ ?_ (fun a' w' hs hd hT hv hoth => ?_)
  · match k, hT with
    | 0, hT => exact hT
    | _ + 1, hT => show J (f' 45) w1; rw [hk 5 (by simp) 45 _ rfl]; exact hT
  · have hq : q < 6 := hq
    obtain rfl | rfl | rfl | rfl | rfl | rfl : q = 0 ∨ q = 1 ∨ q = 2 ∨ q = 3 ∨ q = 4 ∨ q = 5 := by omega
    all_goals first | exact .inl rfl | exact .inr (by simp)
  · simp only [List.mem_cons, List.not_mem_nil, or_false] at hm
    rcases hm with rfl <;> rfl
  · match p with
    | 0 => simp at h2
    | _ + 1 => simp at h1
  · exact rfl
  · intro q d op u hsh hv k a w' hT hlim hn hp hk o ho
    have hq : q < 6 := (List.getElem?_eq_some_iff.1 hsh).1
    have e5 := (hk 5 (notD (by rfl))).trans h5
    have e7 := (hk 7 (notD (by rfl))).trans h7
    obtain rfl | rfl | rfl | rfl | rfl | rfl : q = 0 ∨ q = 1 ∨ q = 2 ∨ q = 3 ∨ q = 4 ∨ q = 5 := by omega
    all_goals first | (cases hv; done) | (injection hsh with hsh; obtain ⟨rfl, rfl⟩ := Prod.mk.inj hsh; injection hv with hv; subst hv)
    · exact q_move ho e5
    · exact q_nil ho (hn 0 (by decide) _ 40 _ rfl rfl)
    · exact q_fld (ti := ti81) (off := 0) (sz := 1) rfl rfl ho (hn 1 (by decide) _ 41 _ rfl rfl)
    · exact q_fld (ti := ti65) (off := 0) (sz := 2) rfl rfl ho e7
    · have hk0 := hlim 0 5 rfl (by decide)
      obtain rfl : k = 0 := by omega
      have hT : w' = w.drew := hT
      subst hT
      exact q_loadA (w := w.drew) (cs := x.vs.toList) (ti := ti33) rfl rfl rfl ho (hn 3 (by decide) _ 43 _ rfl rfl) c7
  · intro k m d op hkm hsh a w' hza hT hn hk o hd ho
    have e5 := (hk 5 (notD (by rfl))).trans h5
    have e7 := (hk 7 (notD (by rfl))).trans h7
    match k with
    | 0 =>
      injection hkm with hkm; subst hkm; injection hsh with hsh; obtain ⟨rfl, rfl⟩ := Prod.mk.inj hsh
      have hT : w' = w.drew := hT
      subst hT
      have hen := run_call (P := Try.prog) (a := a) (w := w.drew) (g := 29) (caps := []) ho rfl (enterT Try.func29 (by kernel_rfl) rfl)
      simp only [List.map_cons, List.map_nil, List.append_nil, (hn 2 (by decide) _ 42 _ rfl rfl), (hn 4 (by decide) _ 44 _ rfl rfl)] at hen
      refine wp_enter hen (hc.mono ?_)
      rintro r w2 ⟨v, rfl, hj⟩
      refine ⟨_, rfl, v, by rw [hd], ?_⟩
      show J _ w2
      rw [hd, tf, put_eq (by rw [hza]; decide)]
      exact hj
    | _ + 1 => simp at hkm
  · exact hQ a' _ w' hs hd hT fun t ht => hoth t fun j op => ht j op
theorem buildTm (x : Ev) (y : Dt) (w : World) : (Instr.build 68 #[(0, .agg x.vs), (1, .agg y.vs)]).run Try.prog w = .ok (.agg (xvT (x, y))) w := by kernel_rfl
def pudShape : List (Option Nat × Op) := [(some 51, .move (.tmp 5)), (some 52, .nilCheck (.tmp 51)), (some 53, .fieldAddr 81 (.tmp 52) 1), (some 54, .fieldAddr 65 (.tmp 7) 0), (some 55, .load 33 (.tmp 54)), (some 56, .fieldAddr 65 (.tmp 7) 1), (some 57, .load 37 (.tmp 56)), (some 58, .fieldAddr 37 (.tmp 3) 0), (some 59, .load 33 (.tmp 58)), (some 60, .build 68 #[(0, .tmp 57), (1, .tmp 59)]), (some 61, .call { callee := .value (.func 30), args := #[.tmp 53, .tmp 55, .tmp 60], argTypes := #[79, 33, 68] })]
def pudNeed : Nat → List Nat
  | 1 => [0] | 2 => [1] | 4 => [3] | 6 => [5] | 8 => [7] | 9 => [6, 8] | 10 => [2, 4, 9] | _ => []
def pudVal (A : Nat) (ad ae : Addr) (x : Ev) (y : Dt) (q : Nat) : Option Value :=
  match q with
  | 0 => some (.pointer (some (⟨A, 0, none⟩))) | 1 => some (.pointer (some (⟨A, 0, none⟩))) | 2 => some (.pointer (some (((⟨A, 0, none⟩ : Addr).add 1)))) | 3 => some (.pointer (some (ad.add 0))) | 4 => some (.agg x.dot.vs) | 5 => some (.pointer (some (ad.add 2))) | 6 => some (.agg x.vs) | 7 => some (.pointer (some (ae.add 0))) | 8 => some (.agg y.vs) | 9 => some (.agg (xvT (x, y))) | _ => none
def pudT (A : Nat) (ad ae : Addr) (x : Ev) (y : Dt) (W : World) (J : Value → World → Prop) (k : Nat) (f : Nat → Value) (w : World) : Prop :=
  match k with
  | 0 => w = W
  | _ => J (f 61) w
set_option maxHeartbeats 4000000 in
set_option maxRecDepth 100000 in
theorem pud_region {id : Nat} {ops : List Oper} {Q : Exit → Act → World → Prop} {a0 : Act} {w : World} (A : Nat) (ad ae : Addr) (x : Ev) (y : Dt) (hops : ops.map (fun o => (o.dst, o.op)) = pudShape) (hdep : depsC pudNeed ops = true) (hz : a0.tmps.size = 97)
    (h5 : a0.eval (.tmp 5) = .pointer (some (⟨A, 0, none⟩))) (h7 : a0.eval (.tmp 7) = .pointer (some (ad))) (h3 : a0.eval (.tmp 3) = .pointer (some (ae)))
    (c7 : ∀ j v, x.dot.vs.toList[j]? = some v → w.cell? ((ad.add 0).add j) = some v) (c8 : ∀ j v, x.vs.toList[j]? = some v → w.cell? ((ad.add 2).add j) = some v) (c9 : ∀ j v, y.vs.toList[j]? = some v → w.cell? ((ae.add 0).add j) = some v)
    (J : Value → World → Prop) (hc : Calls Try.prog 30 #[.pointer (some ((⟨A, 0, none⟩ : Addr).add 1)), .agg x.dot.vs, .agg (xvT (x, y))] w.drew fun r w2 => ∃ v, r = .returned v ∧ J v w2) (hQ : ∀ a' v w2, a'.tmps.size = 97 → a'.defers = a0.defers → J v w2 → (∀ t, (∀ (j : Nat) (op : Op), pudShape[j]? ≠ some (some t, op)) → a'.eval (.tmp t) = a0.eval (.tmp t)) → Q .normal a' w2) : (Code.region id ops.toArray true).wp Try.prog Q a0 w := by
  refine region_chain mixed 97 hz pudShape hops pudNeed hdep (by decide) (pudVal A ad ae x y) [10] (pudT A ad ae x y w.drew J) (fun k f f' w1 hT hk => ?_) (by decide) (fun q hq => ?_) (fun m hm => ?_) (by decide) (fun p m m' h1 h2 => ?_) ?_ ?_ ?_ (fun a' w' hs hd hT hv hoth => ?_)
  · match k, hT with
    | 0, hT => exact hT
    | _ + 1, hT => show J (f' 61) w1; rw [hk 10 (by simp) 61 _ rfl]; exact hT
  · have hq : q < 11 := hq
    obtain rfl | rfl | rfl | rfl | rfl | rfl | rfl | rfl | rfl | rfl | rfl : q = 0 ∨ q = 1 ∨ q = 2 ∨ q = 3 ∨ q = 4 ∨ q = 5 ∨ q = 6 ∨ q = 7 ∨ q = 8 ∨ q = 9 ∨ q = 10 := by omega
    all_goals first | exact .inl rfl | exact .inr (by simp)
  · simp only [List.mem_cons, List.not_mem_nil, or_false] at hm
    rcases hm with rfl <;> rfl
  · match p with
    | 0 => simp at h2
    | _ + 1 => simp at h1
  · exact rfl
  · intro q d op u hsh hv k a w' hT hlim hn hp hk o ho
    have hq : q < 11 := (List.getElem?_eq_some_iff.1 hsh).1
    have e5 := (hk 5 (notD (by rfl))).trans h5
    have e7 := (hk 7 (notD (by rfl))).trans h7
    have e3 := (hk 3 (notD (by rfl))).trans h3
    obtain rfl | rfl | rfl | rfl | rfl | rfl | rfl | rfl | rfl | rfl | rfl : q = 0 ∨ q = 1 ∨ q = 2 ∨ q = 3 ∨ q = 4 ∨ q = 5 ∨ q = 6 ∨ q = 7 ∨ q = 8 ∨ q = 9 ∨ q = 10 := by omega
    all_goals first | (cases hv; done) | (injection hsh with hsh; obtain ⟨rfl, rfl⟩ := Prod.mk.inj hsh; injection hv with hv; subst hv)
    · exact q_move ho e5
    · exact q_nil ho (hn 0 (by decide) _ 51 _ rfl rfl)
    · exact q_fld (ti := ti81) (off := 1) (sz := 1) rfl rfl ho (hn 1 (by decide) _ 52 _ rfl rfl)
    · exact q_fld (ti := ti65) (off := 0) (sz := 2) rfl rfl ho e7
    · have hk0 := hlim 0 10 rfl (by decide)
      obtain rfl : k = 0 := by omega
      have hT : w' = w.drew := hT
      subst hT
      exact q_loadA (w := w.drew) (cs := x.dot.vs.toList) (ti := ti33) rfl rfl rfl ho (hn 3 (by decide) _ 54 _ rfl rfl) c7
    · exact q_fld (ti := ti65) (off := 2) (sz := 26) rfl rfl ho e7
    · have hk0 := hlim 0 10 rfl (by decide)
      obtain rfl : k = 0 := by omega
      have hT : w' = w.drew := hT
      subst hT
      exact q_loadA (w := w.drew) (cs := x.vs.toList) (ti := ti37) rfl rfl rfl ho (hn 5 (by decide) _ 56 _ rfl rfl) c8
    · exact q_fld (ti := ti37) (off := 0) (sz := 2) rfl rfl ho e3
    · have hk0 := hlim 0 10 rfl (by decide)
      obtain rfl : k = 0 := by omega
      have hT : w' = w.drew := hT
      subst hT
      exact q_loadA (w := w.drew) (cs := y.vs.toList) (ti := ti33) rfl rfl rfl ho (hn 7 (by decide) _ 58 _ rfl rfl) c9
    · have e57 := (hn 6 (by decide) _ 57 _ rfl rfl)
      have e59 := (hn 8 (by decide) _ 59 _ rfl rfl)
      have hb := buildTm x y w'
      simp [execOp, ho, e57, e59, hb]
  · intro k m d op hkm hsh a w' hza hT hn hk o hd ho
    have e5 := (hk 5 (notD (by rfl))).trans h5
    have e7 := (hk 7 (notD (by rfl))).trans h7
    have e3 := (hk 3 (notD (by rfl))).trans h3
    match k with
    | 0 =>
      injection hkm with hkm; subst hkm; injection hsh with hsh; obtain ⟨rfl, rfl⟩ := Prod.mk.inj hsh
      have hT : w' = w.drew := hT
      subst hT
      have hen := run_call (P := Try.prog) (a := a) (w := w.drew) (g := 30) (caps := []) ho rfl (enterT Try.func30 (by kernel_rfl) rfl)
      simp only [List.map_cons, List.map_nil, List.append_nil, (hn 2 (by decide) _ 53 _ rfl rfl), (hn 4 (by decide) _ 55 _ rfl rfl), (hn 9 (by decide) _ 60 _ rfl rfl)] at hen
      refine wp_enter hen (hc.mono ?_)
      rintro r w2 ⟨v, rfl, hj⟩
      refine ⟨_, rfl, v, by rw [hd], ?_⟩
      show J _ w2
      rw [hd, tf, put_eq (by rw [hza]; decide)]
      exact hj
    | _ + 1 => simp at hkm
  · exact hQ a' _ w' hs hd hT fun t ht => hoth t fun j op => ht j op
def pulShape : List (Option Nat × Op) := [(some 67, .move (.tmp 5)), (some 68, .nilCheck (.tmp 67)), (some 69, .fieldAddr 81 (.tmp 68) 0), (some 70, .fieldAddr 37 (.tmp 3) 0), (some 71, .load 33 (.tmp 70)), (some 72, .load 37 (.tmp 3)), (some 73, .call { callee := .value (.func 32), args := #[.tmp 69, .tmp 71, .tmp 72], argTypes := #[77, 33, 37] })]
def pulNeed : Nat → List Nat
  | 1 => [0] | 2 => [1] | 4 => [3] | 6 => [2, 4, 5] | _ => []
def pulVal (A : Nat) (ae : Addr) (x : Ev) (q : Nat) : Option Value :=
  match q with
  | 0 => some (.pointer (some (⟨A, 0, none⟩))) | 1 => some (.pointer (some (⟨A, 0, none⟩))) | 2 => some (.pointer (some (((⟨A, 0, none⟩ : Addr).add 0)))) | 3 => some (.pointer (some (ae.add 0))) | 4 => some (.agg x.dot.vs) | 5 => some (.agg x.vs) | _ => none
def pulT (A : Nat) (ae : Addr) (x : Ev) (W : World) (J : Value → World → Prop) (k : Nat) (f : Nat → Value) (w : World) : Prop :=
  match k with
  | 0 => w = W
  | _ => J (f 73) w
set_option maxHeartbeats 4000000 in
set_option maxRecDepth 100000 in
theorem pul_region {id : Nat} {ops : List Oper} {Q : Exit → Act → World → Prop} {a0 : Act} {w : World} (A : Nat) (ae : Addr) (x : Ev) (hops : ops.map (fun o => (o.dst, o.op)) = pulShape) (hdep : depsC pulNeed ops = true) (hz : a0.tmps.size = 97)
    (h5 : a0.eval (.tmp 5) = .pointer (some (⟨A, 0, none⟩))) (h3 : a0.eval (.tmp 3) = .pointer (some (ae)))
    (c7 : ∀ j v, x.dot.vs.toList[j]? = some v → w.cell? ((ae.add 0).add j) = some v) (c8 : ∀ j v, x.vs.toList[j]? = some v → w.cell? (ae.add j) = some v)
    (J : Value → World → Prop) (hc : Calls Try.prog 32 #[.pointer (some ((⟨A, 0, none⟩ : Addr).add 0)), .agg x.dot.vs, .agg x.vs] w.drew fun r w2 => ∃ v, r = .returned v ∧ J v w2) (hQ : ∀ a' v w2, a'.tmps.size = 97 → a'.defers = a0.defers → J v w2 → (∀ t, (∀ (j : Nat) (op : Op), pulShape[j]? ≠ some (some t, op)) → a'.eval (.tmp t) = a0.eval (.tmp t)) → Q .normal a' w2) : (Code.region id ops.toArray true).wp Try.prog Q a0 w := by
  refine region_chain mixed 97 hz pulShape hops pulNeed hdep (by decide) (pulVal A ae x) [6] (pulT A ae x w.drew J) (fun k f f' w1 hT hk => ?_) (by decide) (fun q hq => ?_) (fun m hm => ?_) (by decide) (fun p m m' h1 h2 => ?_) ?_ ?_ ?_ (fun a' w' hs hd hT hv hoth => ?_)
  · match k, hT with
    | 0, hT => exact hT
    | _ + 1, hT => show J (f' 73) w1; rw [hk 6 (by simp) 73 _ rfl]; exact hT
  · have hq : q < 7 := hq
    obtain rfl | rfl | rfl | rfl | rfl | rfl | rfl : q = 0 ∨ q = 1 ∨ q = 2 ∨ q = 3 ∨ q = 4 ∨ q = 5 ∨ q = 6 := by omega
    all_goals first | exact .inl rfl | exact .inr (by simp)
  · simp only [List.mem_cons, List.not_mem_nil, or_false] at hm
    rcases hm with rfl <;> rfl
  · match p with
    | 0 => simp at h2
    | _ + 1 => simp at h1
  · exact rfl
  · intro q d op u hsh hv k a w' hT hlim hn hp hk o ho
    have hq : q < 7 := (List.getElem?_eq_some_iff.1 hsh).1
    have e5 := (hk 5 (notD (by rfl))).trans h5
    have e3 := (hk 3 (notD (by rfl))).trans h3
    obtain rfl | rfl | rfl | rfl | rfl | rfl | rfl : q = 0 ∨ q = 1 ∨ q = 2 ∨ q = 3 ∨ q = 4 ∨ q = 5 ∨ q = 6 := by omega
    all_goals first | (cases hv; done) | (injection hsh with hsh; obtain ⟨rfl, rfl⟩ := Prod.mk.inj hsh; injection hv with hv; subst hv)
    · exact q_move ho e5
    · exact q_nil ho (hn 0 (by decide) _ 67 _ rfl rfl)
    · exact q_fld (ti := ti81) (off := 0) (sz := 1) rfl rfl ho (hn 1 (by decide) _ 68 _ rfl rfl)
    · exact q_fld (ti := ti37) (off := 0) (sz := 2) rfl rfl ho e3
    · have hk0 := hlim 0 6 rfl (by decide)
      obtain rfl : k = 0 := by omega
      have hT : w' = w.drew := hT
      subst hT
      exact q_loadA (w := w.drew) (cs := x.dot.vs.toList) (ti := ti33) rfl rfl rfl ho (hn 3 (by decide) _ 70 _ rfl rfl) c7
    · have hk0 := hlim 0 6 rfl (by decide)
      obtain rfl : k = 0 := by omega
      have hT : w' = w.drew := hT
      subst hT
      exact q_loadA (w := w.drew) (cs := x.vs.toList) (ti := ti37) rfl rfl rfl ho e3 c8
  · intro k m d op hkm hsh a w' hza hT hn hk o hd ho
    have e5 := (hk 5 (notD (by rfl))).trans h5
    have e3 := (hk 3 (notD (by rfl))).trans h3
    match k with
    | 0 =>
      injection hkm with hkm; subst hkm; injection hsh with hsh; obtain ⟨rfl, rfl⟩ := Prod.mk.inj hsh
      have hT : w' = w.drew := hT
      subst hT
      have hen := run_call (P := Try.prog) (a := a) (w := w.drew) (g := 32) (caps := []) ho rfl (enterT Try.func32 (by kernel_rfl) rfl)
      simp only [List.map_cons, List.map_nil, List.append_nil, (hn 2 (by decide) _ 69 _ rfl rfl), (hn 4 (by decide) _ 71 _ rfl rfl), (hn 5 (by decide) _ 72 _ rfl rfl)] at hen
      refine wp_enter hen (hc.mono ?_)
      rintro r w2 ⟨v, rfl, hj⟩
      refine ⟨_, rfl, v, by rw [hd], ?_⟩
      show J _ w2
      rw [hd, tf, put_eq (by rw [hza]; decide)]
      exact hj
    | _ + 1 => simp at hkm
  · exact hQ a' _ w' hs hd hT fun t ht => hoth t fun j op => ht j op
end Go.Proofs.Ytdnaadcbimbfmaa
set_option linter.unusedSimpArgs false
set_option linter.unusedVariables false
namespace Go.Proofs.Ytdnaadcbimbfmaa
open Go Go.RowKit Am

theorem add00 (a : Addr) : a.add 0 = a := by cases a with | mk b o p => cases p <;> rfl
theorem lk_all {sl sl' : List (Nat × AV)} {K : List Nat} (hk : (sl'.map (·.1)).all (fun t => K.contains t) = true) {t : Nat} {x : AV} (h : lk t sl' = some x) : t ∈ K := by
  have := lk_mem h
  have := List.all_eq_true.1 hk t (List.mem_map.2 ⟨_, this, rfl⟩)
  simpa using this
section
variable {n p : Nat} {w0 w w' : World} {L0 L L' : Lay} {sl sl' : List (Nat × AV)} {S S' : Nat → Prop} {σ σ' : Sp} {mv mv' : Value} {a a' : Act}
/-- Behind an open region: what it hasn't written is as it was. -/
theorem AS.reg (h : AS n w0 L0 p sl S L σ mv a w) (hz : a'.tmps.size = n) (hd : a'.defers = a.defers) (sh : List (Option Nat × Op)) (hsl : (sl.all fun s => sh.all fun q => q.1 != some s.1) = true) (ho : ∀ t, (∀ (j : Nat) (op : Op), sh[j]? ≠ some (some t, op)) → a'.eval (.tmp t) = a.eval (.tmp t)) : AS n w0 L0 p sl S L σ mv a' w :=
  ⟨⟨hz, hd.trans h.hi.defers, h.hi.lt, h.hi.gd, fun t x ht => by
    obtain ⟨q1, q2⟩ := h.hi.slots t x ht
    refine ⟨q1, ?_⟩
    have := ho t fun j op hj => by
      have h1 := List.all_eq_true.1 (List.all_eq_true.1 hsl (t, x) (lk_mem ht)) _ (List.mem_of_getElem? hj)
      simp at h1
    rw [evT, evT] at this
    rw [this]
    exact q2⟩, h.sp, h.ap, h.kp, h.ex⟩
/-- One slot less. -/
theorem AS.dr {k : Nat} {v : AV} (h : AS n w0 L0 p ((k, v) :: sl) S L σ mv a w) (hk : (sl.all fun q => q.1 != k) = true) : AS n w0 L0 p sl S L σ mv a w :=
  h.sub fun t x ht => by
    have h1 := List.all_eq_true.1 hk (t, x) (lk_mem ht)
    have h1 : ¬ k = t := fun e => by simp [e] at h1
    simp only [lk]
    rw [if_neg h1]
    exact ht
/-- The cells behind a slot. -/
theorem AS.cells (h : AS n w0 L0 p sl S L σ mv a w) {t : Nat} (vs : List Value) (ht : lk t sl = some (.ept (vs.map .v) 0)) : ∃ ad, a.eval (.tmp t) = .pointer (some ad) ∧ ∀ j v, vs[j]? = some v → w.cell? (ad.add j) = some v := by
  obtain ⟨ad, h1, h2⟩ := Rep.ept_inv (h.hi.slots t _ ht).2
  refine ⟨ad, by rw [evT, h1, add00], fun j v hj => ?_⟩
  obtain ⟨y, h3, h4⟩ := h2.2 j (.v v) (by rw [List.getElem?_map, hj]; rfl)
  rw [h3, rep_v (.c h4)]
theorem Sp.set_set (σ : Sp) (i : Nat) (a b : Ent) : (σ.set i a).set i b = σ.set i b := by unfold Sp.set; simp
theorem SpAt.atE {A i : Nat} {l : List Ev} {d : List ElT} (h : SpAt w L p (σ.set i ⟨l, d⟩) mv) (hil : i < σ.es.length) (hpt : L.pt i = A) : ∃ v u, EntAt w L.o i ⟨l, d⟩ A v u := by
  rw [← hpt]
  exact h.ent (i := i) (en := ⟨l, d⟩) (by unfold Sp.set; simp [hil])
/-- What lives, one taken out. -/
theorem remW {A i : Nat} {l : List Ev} {d : List ElT} {x : Ev} (h : SpAt w L p (σ.set i ⟨l, d⟩) mv) (hil : i < σ.es.length) (hpt : L.pt i = A) (hr : Rise dE l) (hin : x ∈ l) (hl : l.length ≤ 1000000) :
    Calls Try.prog 29 #[.pointer (some ((⟨A, 0, none⟩ : Addr).add 0)), .agg x.dot.vs] w.drew fun r w2 => ∃ v, r = .returned v ∧ ∃ L', L'.pt i = A ∧ SpAt w2 L' p (σ.set i ⟨delD dE l x.dot, d⟩) mv ∧ Ext L L' w.heap.size ∧ Kp L.dom w w2 := by
  have hd := h.below ((Below.refl w.heap.size w).drew)
  obtain ⟨v, u, he⟩ := hd.atE hil hpt
  obtain ⟨hb, hf⟩ := he.bagLv
  refine (removeE w.drew A 0 v l x.dot hb hf hr ⟨x, hin, rfl⟩ hl).mono ?_
  rintro r w2 ⟨rfl, v', hb', hk'⟩
  subst hpt
  obtain ⟨L', q1, _, q3, q4, q5⟩ := hd.putLv he hb' hk'
  rw [Sp.set_set] at q1
  exact ⟨_, rfl, L', by rw [q4], q1, q3, ⟨q5.os, q5.tape, q5.output, q5.size, q5.block⟩⟩
theorem pulW {A i : Nat} {l : List Ev} {d : List ElT} {x : Ev} (h : SpAt w L p (σ.set i ⟨l, d⟩) mv) (hil : i < σ.es.length) (hpt : L.pt i = A) (hr : Rise dE l) (hin : ∀ y ∈ l, y.dot ≠ x.dot) (hl : l.length ≤ 1000000) :
    Calls Try.prog 32 #[.pointer (some ((⟨A, 0, none⟩ : Addr).add 0)), .agg x.dot.vs, .agg x.vs] w.drew fun r w2 => ∃ v, r = .returned v ∧ ∃ L', L'.pt i = A ∧ SpAt w2 L' p (σ.set i ⟨insD dE l x, d⟩) mv ∧ Ext L L' w.heap.size ∧ Kp L.dom w w2 := by
  have hd := h.below ((Below.refl w.heap.size w).drew)
  obtain ⟨v, u, he⟩ := hd.atE hil hpt
  obtain ⟨hb, hf⟩ := he.bagLv
  refine (putE w.drew A 0 v l x hb hf hr hin hl).mono ?_
  rintro r w2 ⟨rfl, v', hb', hk'⟩
  subst hpt
  obtain ⟨L', q1, _, q3, q4, q5⟩ := hd.putLv he hb' hk'
  rw [Sp.set_set] at q1
  exact ⟨_, rfl, L', by rw [q4], q1, q3, ⟨q5.os, q5.tape, q5.output, q5.size, q5.block⟩⟩
theorem pudW {A i : Nat} {l : List Ev} {d : List ElT} {x : Ev} {y : Dt} (h : SpAt w L p (σ.set i ⟨l, d⟩) mv) (hil : i < σ.es.length) (hpt : L.pt i = A) (hr : Rise dT d) (hin : ∀ z ∈ d, dT z ≠ x.dot) (hl : d.length ≤ 1000000) :
    Calls Try.prog 30 #[.pointer (some ((⟨A, 0, none⟩ : Addr).add 1)), .agg x.dot.vs, .agg (xvT (x, y))] w.drew fun r w2 => ∃ v, r = .returned v ∧ ∃ L', L'.pt i = A ∧ SpAt w2 L' p (σ.set i ⟨l, insD dT d (x, y)⟩) mv ∧ Ext L L' w.heap.size ∧ Kp L.dom w w2 := by
  have hd := h.below ((Below.refl w.heap.size w).drew)
  obtain ⟨v, u, he⟩ := hd.atE hil hpt
  obtain ⟨hb, hf⟩ := he.bagDd
  refine (putT w.drew A 1 u d (x, y) hb hf hr hin hl).mono ?_
  rintro r w2 ⟨rfl, v', hb', hk'⟩
  subst hpt
  obtain ⟨L', q1, _, q3, q4, q5⟩ := hd.putDd he hb' hk'
  rw [Sp.set_set] at q1
  exact ⟨_, rfl, L', by rw [q4], q1, q3, ⟨q5.os, q5.tape, q5.output, q5.size, q5.block⟩⟩
end
theorem ev_c0 {w : World} {ad : Addr} {e : Ev} (h : ∀ j v, e.vs.toList[j]? = some v → w.cell? (ad.add j) = some v) : ∀ j v, e.dot.vs.toList[j]? = some v → w.cell? ((ad.add 0).add j) = some v := fun j v hj => by
  rw [add00]
  match j with
  | 0 => exact h 0 v hj
  | 1 => exact h 1 v hj
  | j + 2 => simp [Dt.vs] at hj
theorem it_c0 {w : World} {ad : Addr} {e : Ev} (h : ∀ j v, (itvE e)[j]? = some v → w.cell? (ad.add j) = some v) : ∀ j v, e.dot.vs.toList[j]? = some v → w.cell? ((ad.add 0).add j) = some v := fun j v hj => by
  rw [add00]
  match j with
  | 0 => exact h 0 v hj
  | 1 => exact h 1 v hj
  | j + 2 => simp [Dt.vs] at hj
theorem it_c2 {w : World} {ad : Addr} {e : Ev} (h : ∀ j v, (itvE e)[j]? = some v → w.cell? (ad.add j) = some v) : ∀ j v, e.vs.toList[j]? = some v → w.cell? ((ad.add 2).add j) = some v := fun j v hj => by
  rw [Addr.add_add]
  exact h (2 + j) v (by rw [Nat.add_comm]; exact hj)
end Go.Proofs.Ytdnaadcbimbfmaa
set_option linter.unusedSimpArgs false
set_option linter.unusedVariables false
namespace Go.Proofs.Ytdnaadcbimbfmaa
open Go Go.RowKit Am

/-! ### Walks by hand of functions that change nothing -/
structure PS (n : Nat) (w0 : World) (S0 : Nat → Prop) (sl : List (Nat × AV)) (S : Nat → Prop) (a : Act) (w : World) : Prop where
  hi : HI n sl S a w
  gr : Gr w0 S0 w S
section
variable {n : Nat} {w0 w w' : World} {sl sl' : List (Nat × AV)} {S0 S S' : Nat → Prop} {a a' : Act}
theorem PS.pc {E : En} {c : Code} {R : Exit → Act → World → Prop} (sl' : List (Nat × AV)) (h : PS E.n w0 S0 sl S a w) (hsl : (sl'.all fun q => fzA q.2) = true)
    (hw : ∀ (F : Sy) (C : Key → List AV → Res → Prop) (D : Code → (AE → St → Prop) → St → Prop), F = sy → (∀ k ar r, CSem Try.prog k ar r → C k ar r) → awp F C D E c (fun e s => match e with | .normal => ∃ ct, Le s { slots := sl', obs := [], ctr := ct } | _ => False) { slots := sl, obs := [], ctr := 0 })
    (k : ∀ S' a' w', PS E.n w0 S0 sl' S' a' w' → R .normal a' w') : c.wp Try.prog R a w :=
  Ytdnaadcbimbfmaa.pc sl' h.hi (fun q hq => List.all_eq_true.1 hsl q hq) hw fun S' a' w' h1 h2 => k S' a' w' ⟨h1, h.gr.trans h2⟩
theorem PS.pcl {E : En} {ops : Array Oper} {rest : List Oper} {R : Exit → Act → World → Prop} (sl' : List (Nat × AV)) (h : PS E.n w0 S0 sl S a w) (hsl : (sl'.all fun q => fzA q.2) = true)
    (hw : ∀ (F : Sy) (C : Key → List AV → Res → Prop), F = sy → (∀ k ar r, CSem Try.prog k ar r → C k ar r) → aops F C E ops.toList rest (fun s => ∃ ct, Le s { slots := sl', obs := [], ctr := ct }) { slots := sl, obs := [], ctr := 0 })
    (k : ∀ S' a' w', PS E.n w0 S0 sl' S' a' w' → R .normal a' w') : wpList Try.prog ops R rest a w :=
  Ytdnaadcbimbfmaa.pcl sl' h.hi (fun q hq => List.all_eq_true.1 hsl q hq) hw fun S' a' w' h1 h2 => k S' a' w' ⟨h1, h.gr.trans h2⟩
theorem PS.pre {E : En} {ops : Array Oper} {l : List Oper} {R : Exit → Act → World → Prop} (m : Nat) (sl' : List (Nat × AV)) (h : PS E.n w0 S0 sl S a w) (hsl : (sl'.all fun q => fzA q.2) = true)
    (hw : ∀ (F : Sy) (C : Key → List AV → Res → Prop), F = sy → (∀ k ar r, CSem Try.prog k ar r → C k ar r) → aops F C E ops.toList (l.take m) (fun s => ∃ ct, Le s { slots := sl', obs := [], ctr := ct }) { slots := sl, obs := [], ctr := 0 })
    (k : ∀ S' a' w', PS E.n w0 S0 sl' S' a' w' → wpList Try.prog ops R (l.drop m) a' w') : wpList Try.prog ops R l a w :=
  wpList_pre m (h.pcl sl' hsl hw fun S' a' w' h' => k S' a' w' h')
theorem PS.put (h : PS n w0 S0 sl S a w) {d : Nat} (hd : d < n) (x : AV) {v : Value} (hv : SRep w S (fun _ => .bool true) [] x v) : PS n w0 S0 ((d, x) :: sl) S (a.put (some d) v) w := ⟨h.hi.put hd x hv, h.gr⟩
theorem PS.sub (h : PS n w0 S0 sl S a w) (hs : ∀ t x, lk t sl' = some x → lk t sl = some x) : PS n w0 S0 sl' S a w := ⟨h.hi.sub hs, h.gr⟩
theorem PS.val (h : PS n w0 S0 sl S a w) {t : Nat} {v : Value} (ht : lk t sl = some (.v v)) : a.eval (.tmp t) = v := srep_v (h.hi.slots t _ ht).2
theorem PS.out (h : PS n w0 S0 sl S a w) (hg : Gr w S w' S') : PS n w0 S0 sl S' a w' := ⟨h.hi.grow hg, h.gr.trans hg⟩
/-- What a call that changes nothing hands back. -/
theorem PS.res (h : PS n w0 S0 sl S a w) {d : Nat} (hd : d < n) {x : AV} {y : Value} (hg : Gr w S w' S') (hr : Rep w' S' x y) : PS n w0 S0 ((d, x) :: sl) S' (a.put (some d) y) w' := (h.out hg).put hd x (srep_of_rep hr)
theorem PS.reg (h : PS n w0 S0 sl S a w) (hz : a'.tmps.size = n) (hd : a'.defers = a.defers) (sh : List (Option Nat × Op)) (hsl : (sl.all fun s => sh.all fun q => q.1 != some s.1) = true) (ho : ∀ t, (∀ (j : Nat) (op : Op), sh[j]? ≠ some (some t, op)) → a'.eval (.tmp t) = a.eval (.tmp t)) : PS n w0 S0 sl S a' w :=
  ⟨⟨hz, hd.trans h.hi.defers, h.hi.lt, h.hi.gd, fun t x ht => by
    obtain ⟨q1, q2⟩ := h.hi.slots t x ht
    refine ⟨q1, ?_⟩
    have := ho t fun j op hj => by
      have h1 := List.all_eq_true.1 (List.all_eq_true.1 hsl (t, x) (lk_mem ht)) _ (List.mem_of_getElem? hj)
      simp at h1
    rw [evT, evT] at this
    rw [this]
    exact q2⟩, h.gr⟩
theorem PS.dr {k : Nat} {v : AV} (h : PS n w0 S0 ((k, v) :: sl) S a w) (hk : (sl.all fun q => q.1 != k) = true) : PS n w0 S0 sl S a w :=
  h.sub fun t x ht => by
    have h1 := List.all_eq_true.1 hk (t, x) (lk_mem ht)
    have h1 : ¬ k = t := fun e => by simp [e] at h1
    simp only [lk]
    rw [if_neg h1]
    exact ht
/-- What is known of a slot. -/
theorem PS.add (h : PS n w0 S0 sl S a w) {d : Nat} (hd : d < n) (x : AV) (hv : SRep w S (fun _ => .bool true) [] x (a.eval (.tmp d))) : PS n w0 S0 ((d, x) :: sl) S a w := by
  refine ⟨⟨h.hi.size, h.hi.defers, h.hi.lt, h.hi.gd, fun t y ht => ?_⟩, h.gr⟩
  simp only [lk] at ht
  by_cases htd : d = t
  · rw [if_pos htd] at ht
    injection ht with ht
    subst ht; subst htd
    exact ⟨hd, hv⟩
  · rw [if_neg htd] at ht
    exact h.hi.slots t y ht
theorem PS.addV (h : PS n w0 S0 sl S a w) {d : Nat} (hd : d < n) {v : Value} (h1 : v.oneCell' = true) (hv : a.eval (.tmp d) = v) : PS n w0 S0 ((d, .v v) :: sl) S a w := h.add hd _ (by rw [hv]; exact srep_of_rep (.c (.v _ h1)))
theorem PS.cells (h : PS n w0 S0 sl S a w) {t : Nat} (vs : List Value) (ht : lk t sl = some (.ept (vs.map .v) 0)) : ∃ ad, a.eval (.tmp t) = .pointer (some ad) ∧ ∀ j v, vs[j]? = some v → w.cell? (ad.add j) = some v := by
  obtain ⟨ad, h1, h2⟩ := Rep.ept_inv (h.hi.slots t _ ht).2
  refine ⟨ad, by rw [evT, h1, add00], fun j v hj => ?_⟩
  obtain ⟨y, h3, h4⟩ := h2.2 j (.v v) (by rw [List.getElem?_map, hj]; rfl)
  rw [h3, rep_v (.c h4)]
end
/-- A new row is from now on as it is. -/
theorem gr_row {w w' : World} {S : Nat → Prop} {z : Value} {e sz : Nat} {rows : List (List AV)} {zs : List Value} (hS : ∀ g, S g → g < w.heap.size) (hb : Below w.heap.size w w') (ho : OwnR w' w.heap.size e sz z rows.length zs) (hr : RepL w' S rows.flatten zs) (hl : ∀ r ∈ rows, r.length = sz) :
    Gr w S w' (fun g => S g ∨ z.ownBlock = some g) ∧ Rep w' (fun g => S g ∨ z.ownBlock = some g) (.sl rows) z := by
  refine ⟨⟨hb, fun g hg => .inl hg, fun g hg => hg.elim .inl fun e => .inr (ho.lt g e).1, fun g hg => hg.elim (fun h => Nat.lt_of_lt_of_le (hS g h) hb.size) fun e => (ho.lt g e).2⟩, .c (repc_of_own ho (hr.mono (fun _ _ => rfl) fun g hg => .inl hg) hl fun g hg => .inr hg)⟩
theorem acall_hand {f : Nat} {fn : Func} {c : Code} {args : List AV} {res : Res} (n : Nat) (hf : Try.prog.funcs[f]? = some fn) (hname : (fn.name == "runtime.NumGoroutine") = false) (hb : fn.body = some c) (hn : fn.ntmps = n) (ha : args.length ≤ n)
    (h : ∀ (w : World) (S : Nat → Prop) (a : Act), PS n w S (st0 0 args) S a w → c.wp Try.prog (bodyPost Try.prog fn fun e w' => ∃ y S', e = .returned y ∧ Gr w S w' S' ∧ ResR w w' S S' res y) a w) : CSem Try.prog (.fn f) args res := by
  refine ⟨enterT hf hname hb, fun w S xs hS hgd hreps => ?_⟩
  refine calls_of_wp hf hb ?_
  rw [hn]
  refine h w S _ ⟨⟨?_, rfl, hS, hgd, fun t x ht => ?_⟩, gr_below hS (Below.refl _ _)⟩
  · have := hreps.1
    simp
    omega
  · obtain ⟨h1, h2⟩ := st0_get args 0 t x ht
    simp only [Nat.sub_zero] at h2
    have hlt : t < args.length := (List.getElem?_eq_some_iff.1 h2).1
    have hx : t < xs.length := by rw [← hreps.1]; exact hlt
    refine ⟨by omega, ?_⟩
    have hv : (xs.toArray ++ Array.replicate (n - xs.toArray.size) undef).getD t undef = xs[t] := by
      rw [Array.getD_eq_getD_getElem?, Array.getElem?_append_left (by simpa using hx)]
      simp [hx]
    show SRep w S _ [] x ((xs.toArray ++ Array.replicate (n - xs.toArray.size) undef).getD t undef)
    rw [hv]
    exact srep_of_rep (hreps.2 t x _ h2 (List.getElem?_eq_getElem hx))
/-- The end. -/
theorem PS.ret1 {n : Nat} {w0 w : World} {S0 S : Nat → Prop} {sl : List (Nat × AV)} {a : Act} {fn : Func} {t : Nat} {x : AV} (h : PS n w0 S0 sl S a w) (hfn : fn.results = #[.tmp t]) (ht : lk t sl = some x) (hz : okArg x = true) : bodyPost Try.prog fn (fun e w' => ∃ y S', e = .returned y ∧ Gr w0 S0 w' S' ∧ ResR w0 w' S0 S' (.pure [x]) y) .ret a w := by
  obtain ⟨q1, q2⟩ := h.hi.slots t x ht
  refine bodyPost_ret (results_tmp hfn _ _ _) h.hi.defers ⟨_, S, rfl, h.gr, [_], rfl, Reps.cons ?_ (Reps.nil _ _)⟩
  cases x <;> first | exact q2 | (simp [okArg] at hz)
end Go.Proofs.Ytdnaadcbimbfmaa
set_option linter.unusedSimpArgs false
set_option linter.unusedVariables false
namespace Go.Proofs.Ytdnaadcbimbfmaa
open Go Go.RowKit Am

theorem grownBy_below {w w' : World} (h : w.grownBy w' none) : Below w.heap.size w w' := ⟨h.1, h.2, h.3, h.4, fun k hk => h.5 k hk (by simp)⟩
theorem byR_flat (l : List UInt8) : (byR l).flatten = (l.map fun b => (.int .u8 b.toNat : Value)).map .v := by
  induction l with
  | nil => rfl
  | cons b l ih => simp only [byR, List.map_cons, List.flatten_cons] at ih ⊢; rw [ih]; rfl
set_option maxRecDepth 100000 in
set_option maxHeartbeats 8000000 in
/-- vlq.own: bytes in a list of their own. -/
theorem own_ok (l : List UInt8) (hl : l.length ≤ 100000000) : CSem Try.prog (.fn 41) [.sl (byR l)] (.own 5 1 (byR l) []) := by
  obtain ⟨rows, hrows⟩ : ∃ rows, rows = byR l := ⟨_, rfl⟩
  have hrl : rows.length = l.length := by rw [hrows, byR_len]
  have hr1 : ∀ r ∈ rows, r.length = 1 := by rw [hrows]; exact byR_one l
  rw [← hrows]
  refine acall_hand 9 Try.func41 (by kernel_rfl) rfl rfl (by simp) fun w S a h => ?_
  refine wp_seq (h.pc (E := { n := 9 }) [(0, .sl rows)] rfl (fun F C D hF hC => ?_) fun S1 a1 w1 h1 => ?_)
  · cbv
    exact ⟨100, (le_of [] (by simp [leSl, leOb, injK, memK, parK, noTup, lk, rn0, rnA, plain] <;> first | rfl | decide | (repeat (first | rfl | trivial | refine And.intro ?_ ?_))))⟩
  clear h
  obtain ⟨m', hm'⟩ : ∃ m' : Int, m' = ((l.length + 10 : Nat) : Int) := ⟨_, rfl⟩
  refine wp_seq (wp_region_list ?_)
  refine h1.pre (E := { n := 9 }) 3 [(5, aI m'), (0, .sl rows)] rfl (fun F C hF hC => ?_) fun S2 a2 w2 h2 => ?_
  · have tl := (addF hF (i := l.length) (j := 10) (i' := F .len rows) (j' := 10) (by rw [lenF hF, hrl]) rfl (by omega)).trans hm'.symm
    cbv
    rw [tl]
    exact ⟨100, (le_of [] (by simp [leSl, leOb, injK, memK, parK, noTup, lk, rn0, rnA, plain] <;> first | rfl | decide | (repeat (first | rfl | trivial | refine And.intro ?_ ?_))))⟩
  clear h1
  -- the new row
  obtain ⟨hu, _⟩ := (gam_ok 53 _ rfl).kind
  obtain ⟨i0, hi0, hz0, hs0, hb0⟩ : ∃ i0 : TypeInfo, Try.prog.info? 5 = some i0 ∧ i0.zero = some (.int .u8 0) ∧ i0.size = 1 ∧ i0.bytes = 1 := ⟨Try.t5, by kernel_rfl, by kernel_rfl, by kernel_rfl, by kernel_rfl⟩
  obtain ⟨c, hc⟩ : ∃ c, c = l.length + 10 := ⟨_, rfl⟩
  rw [← hc] at hm'
  obtain ⟨w3, hrun3, hown3, hg3⟩ := run_make_own (P := Try.prog) w2 0 53 5 i0 (.int .u8 0) 1 hu hi0 hz0 hs0 .i64 .i64 c (by rw [hb0]; omega) (by unfold maxLen; omega) (Nat.zero_le _)
  have t5 : a2.eval (.tmp 5) = .int .i64 (c : Int) := by rw [h2.val (t := 5) rfl, hm']
  obtain ⟨v3, hv3⟩ : ∃ v, v = Value.slice (some ⟨w2.heap.size, 0, none⟩) 0 c := ⟨_, rfl⟩
  rw [← hv3] at hrun3 hown3
  have evC : ∀ v, a2.eval (.const v) = v := fun _ => rfl
  refine list1 (W' := w3) v3 rfl (by simp [execOp, t5, evC, hrun3]) ?_
  have hB3 := grownBy_below hg3
  have h3 := (h2.out (gr_below h2.hi.lt hB3)).put (d := 6) (by decide) .dead trivial (v := v3)
  have e6 : (a2.put (some 6) v3).eval (.tmp 6) = v3 := put_eq (by rw [h2.hi.size]; decide)
  obtain ⟨a3, ha3⟩ : ∃ a3, a3 = a2.put (some 6) v3 := ⟨_, rfl⟩
  have hob : v3.ownBlock = some w2.heap.size := by rw [hv3]; rfl
  rw [← ha3] at h3 e6
  -- the old one
  obtain ⟨v0, hv0⟩ : ∃ v0, a3.eval (.tmp 0) = v0 := ⟨_, rfl⟩
  have hs0' := (h3.hi.slots 0 (.sl rows) rfl).2
  rw [← evT, hv0] at hs0'
  show wpList Try.prog _ _ _ (a2.put (some 6) v3) w3
  rw [← ha3]
  refine list1 v0 rfl (q_move rfl hv0) ?_
  have h4 := h3.put (d := 7) (by decide) .dead trivial (v := v0)
  have e7 : (a3.put (some 7) v0).eval (.tmp 7) = v0 := put_eq (by rw [h3.hi.size]; decide)
  have e6' : (a3.put (some 7) v0).eval (.tmp 6) = v3 := by rw [evT, put_ne (by rw [h3.hi.size]; decide) (by decide), ← evT]; exact e6
  obtain ⟨a4, ha4⟩ : ∃ a4, a4 = a3.put (some 7) v0 := ⟨_, rfl⟩
  show wpList Try.prog _ _ _ (a3.put (some 7) v0) w3
  rw [← ha4] at h4 e7 e6' ⊢
  have hlow : ∀ g, v3.ownBlock = some g → w.heap.size ≤ g ∧ ¬ S2 g := fun g hg => by
    rw [hob] at hg
    injection hg with hg
    have := h2.gr.below.size
    exact ⟨by omega, fun hs => by have := h2.hi.lt g hs; omega⟩
  -- joined
  obtain ⟨v5, w5, hrun5, hrep5, hown5, hB5, hob5⟩ : ∃ v5 w5, (Builtin.append_ #[53, 53] 53 #[v3, v0]).run Try.prog w3 = .ok v5 w5 ∧ (∃ zs, OwnR w5 0 5 1 v5 rows.length zs ∧ RepL w5 S2 rows.flatten zs) ∧ (∀ g, v5.ownBlock = some g → w.heap.size ≤ g ∧ ¬ S2 g) ∧ Below w2.heap.size w2 w5 ∧ True := by
    rcases src_ok (obs := []) (B := 0) (esz := 1) (fun k o h => by simp [lk] at h) (y := .sl rows) rfl hs0' hr1 (by decide) with ⟨hx, hrn⟩ | ⟨ad, cc, news, hx, hnr, hnc⟩
    · refine ⟨v3, w3, ?_, ⟨[], by rw [hrn]; exact OwnR.of hown3, by rw [hrn]; exact RepL.nil _ _⟩, hlow, hB3, trivial⟩
      rw [hx, hv3]
      simp [Builtin.append_, run_underlying hu, sizeOf, typeInfo, hi0, hs0, Builtin.lenOf, Builtin.firstCells, storeCells]
    · have hnl : news.length = rows.length * 1 := by rw [← hnr.1, flatten_len rows hr1]
      obtain ⟨v', w', k1, k2, k3, k5⟩ := run_append_at (P := Try.prog) w3 53 53 5 i0 (.int .u8 0) 1 1 hu hi0 hz0 hs0 hb0 rfl (by decide) v3 0 [] (OwnR.of hown3) ad rows.length cc news hnl hnc hnr.one (by unfold maxLen; omega) (by omega)
      have hBw : Below w2.heap.size w2 w' := hB3.trans ⟨k3.1, k3.2, k3.3, k3.4, fun k hk => k3.5 k (Nat.lt_of_lt_of_le hk hB3.size) (by rw [hob]; intro e; injection e with e; omega)⟩
      rw [Nat.zero_add, List.nil_append] at k2
      refine ⟨v', w', by rw [hx]; exact k1, ⟨news, k2, hnr.mono (fun g hg => ?_) fun _ h => h⟩, fun g hg => ?_, hBw, trivial⟩
      · have := h2.hi.lt g hg
        exact (k3.5 g (Nat.lt_of_lt_of_le this hB3.size) (by rw [hob]; intro e; injection e with e; omega))
      · rcases k5 with k5 | k5
        · exact hlow g (k5 ▸ hg)
        · rw [k5] at hg
          injection hg with hg
          have := h2.gr.below.size
          have := hB3.size
          exact ⟨by omega, fun hs => by have := h2.hi.lt g hs; omega⟩
  refine list1 (W' := w5) v5 rfl (by simp [execOp, resolve, invoke, builtin, e6', e7, hrun5]) ?_
  have e8 : (a4.put (some 8) v5).eval (.tmp 8) = v5 := put_eq (by rw [h4.hi.size]; decide)
  refine list1 v5 rfl (q_asg rfl e8) ?_
  show Code.wp Try.prog Code.ret _ _ _
  obtain ⟨zs, ho1, ho2⟩ := hrep5
  have hz5 : (a4.put (some 8) v5).tmps.size = 9 := by rw [put_size]; exact h4.hi.size
  have hend : ((a4.put (some 8) v5).put (some 2) v5).tmps.getD 2 undef = v5 := put_eq (by rw [hz5]; decide)
  refine wp_ret (bodyPost_ret (v := v5) ?_ ?_ ⟨v5, S2, rfl, h2.gr.trans (gr_below h2.hi.lt hB5), v5, [], zs, rfl, ownsRow_up ho1 (fun g hg => (hown5 g hg).1), ho2, hr1, fun g hg => (hown5 g hg).2, Reps.nil _ _, by omega⟩)
  · refine (results_tmp rfl _ _ _).trans ?_
    exact congrArg (fun v => Result.ok v w5) hend
  · show ((a4.put (some 8) v5).put (some 2) v5).defers = []
    rw [put_defers, put_defers]
    exact h4.hi.defers
end Go.Proofs.Ytdnaadcbimbfmaa
set_option linter.unusedSimpArgs false
set_option linter.unusedVariables false
namespace Go.Proofs.Ytdnaadcbimbfmaa
open Go Go.RowKit Am

/-! ### vlq.Put: a number as bytes, seven bits each, the highest first -/
def vg (n : Nat) : Nat := (max (bl n) 1 - 1) / 7
def vpre (n g j : Nat) : List UInt8 := (List.range j).map fun i => UInt8.ofNat (n / 2 ^ (7 * (g - i)) % 128 + 128)
def vlqL (n : Nat) : List UInt8 := vpre n (vg n) (vg n) ++ [UInt8.ofNat (n % 128)]
theorem vpre_len (n g j : Nat) : (vpre n g j).length = j := by simp [vpre]
theorem vpre_succ (n g j : Nat) : vpre n g (j + 1) = vpre n g j ++ [UInt8.ofNat (n / 2 ^ (7 * (g - j)) % 128 + 128)] := by simp [vpre, List.range_succ]
theorem vg_le (n : Nat) (h : n < 2 ^ 64) : vg n ≤ 9 := by
  have := bl_lt n 64 h
  unfold vg
  omega
theorem vlq_len (n : Nat) (h : n < 2 ^ 64) : (vlqL n).length ≤ 10 := by
  have := vg_le n h
  simp only [vlqL, List.length_append, vpre_len, List.length_singleton]
  omega
set_option maxRecDepth 100000 in
theorem or128 : ∀ x, x < 256 → IntKind.u8.wrap ((BitVec.ofInt 8 (x : Nat) ||| BitVec.ofInt 8 128).toNat) = ((x % 128 + 128 : Nat) : Int) := by decide
set_option maxRecDepth 100000 in
theorem and127 : ∀ x, x < 256 → IntKind.u8.wrap ((BitVec.ofInt 8 (x : Nat) &&& BitVec.ofInt 8 127).toNat) = ((x % 128 : Nat) : Int) := by decide
theorem wrpU8 {F : Sy} (hF : F = sy) (x : Nat) : F .wrp .u8 (x : Int) = ((x % 256 : Nat) : Int) := by
  rw [hF]
  show IntKind.u8.wrap (x : Int) = _
  rw [IntKind.wrap_u8]
  omega
theorem or8F {F : Sy} (hF : F = sy) (x : Nat) : F .ar .or .u8 (F .wrp .u8 (x : Int)) 128 = ((x % 128 + 128 : Nat) : Int) := by
  rw [wrpU8 hF, hF]
  have := or128 (x % 256) (Nat.mod_lt _ (by decide))
  show IntKind.u8.wrap ((BitVec.ofInt 8 ((x % 256 : Nat) : Int) ||| BitVec.ofInt 8 128).toNat) = _
  rw [this, Nat.mod_mod_of_dvd x (show 128 ∣ 256 by decide)]
theorem and8F {F : Sy} (hF : F = sy) (x : Nat) : F .ar .and .u8 (F .wrp .u8 (x : Int)) 127 = ((x % 128 : Nat) : Int) := by
  rw [wrpU8 hF, hF]
  have := and127 (x % 256) (Nat.mod_lt _ (by decide))
  show IntKind.u8.wrap ((BitVec.ofInt 8 ((x % 256 : Nat) : Int) &&& BitVec.ofInt 8 127).toNat) = _
  rw [this, Nat.mod_mod_of_dvd x (show 128 ∣ 256 by decide)]
theorem byR_app (a b : List UInt8) : byR (a ++ b) = byR a ++ byR b := by simp [byR]
theorem byR_ofNat (n : Nat) (h : n < 256) : byR [UInt8.ofNat n] = [[aU n]] := by
  simp only [byR, List.map_cons, List.map_nil]
  have : (UInt8.ofNat n).toNat = n := by simp; omega
  rw [this]
theorem shF {F : Sy} (hF : F = sy) (n : Nat) (hn : n < 2 ^ 64) {b' : Int} (hb : b' = ((bl n : Nat) : Int)) : F .ar .mul .i64 (F .ar .quo .i64 (F .ar .sub .i64 (F .mx b' 1) 1) 7) 7 = ((7 * vg n : Nat) : Int) := by
  have h1 := bl_lt n 64 hn
  have h2 := vg_le n hn
  have e1 : F .mx b' 1 = ((max (bl n) 1 : Nat) : Int) := by rw [hF, hb]; show (if (1 : Int) > _ then (1 : Int) else _) = _; split <;> omega
  have e2 : F .ar .sub .i64 ((max (bl n) 1 : Nat) : Int) 1 = ((max (bl n) 1 - 1 : Nat) : Int) := by rw [hF]; exact (wrap_in (by omega) (by omega)).trans (by omega)
  have e3 : F .ar .quo .i64 ((max (bl n) 1 - 1 : Nat) : Int) 7 = ((vg n : Nat) : Int) := by
    rw [hF]
    show IntKind.i64.wrap (Int.tdiv ((max (bl n) 1 - 1 : Nat) : Int) 7) = _
    rw [Int.tdiv_eq_ediv_of_nonneg (by omega)]
    have : (((max (bl n) 1 - 1 : Nat) : Int) / 7) = ((vg n : Nat) : Int) := by unfold vg; omega
    rw [this]
    exact wrap_in (by omega) (by omega)
  have e4 : F .ar .mul .i64 ((vg n : Nat) : Int) 7 = ((7 * vg n : Nat) : Int) := by rw [hF]; exact (wrap_in (by omega) (by omega)).trans (by omega)
  rw [e1, e2, e3, e4]
set_option maxRecDepth 100000 in
set_option maxHeartbeats 8000000 in
theorem put_ok (l : List UInt8) (hl : l.length ≤ 50000000) (n : Nat) (hn : n < 2 ^ 64) : CSem Try.prog (.fn 18) [.sl (byR l), aV n] (.own 5 1 (byR (l ++ vlqL n)) []) := by
  obtain ⟨rows, hrows⟩ : ∃ rows, rows = byR l := ⟨_, rfl⟩
  obtain ⟨out, hout⟩ : ∃ out, out = byR (l ++ vlqL n) := ⟨_, rfl⟩
  obtain ⟨n', en⟩ : ∃ n' : Int, n' = (n : Int) := ⟨_, rfl⟩
  rw [← hrows, ← hout, ← en]
  refine of_text gam_ok mixed { n := 33, keep := [8, 26, 32] } Try.func18 (by kernel_rfl) rfl rfl (by simp) (by decide) fun F C D hF hC hD => ?_
  have ko := hC _ _ _ (own_ok l (by omega))
  have kl := hC _ _ _ (len64_ok n hn)
  obtain ⟨b', eb⟩ : ∃ b' : Int, b' = ((bl n : Nat) : Int) := ⟨_, rfl⟩
  rw [← hrows] at ko
  rw [← eb, ← en] at kl
  obtain ⟨s0, hs0⟩ : ∃ s0 : Int, s0 = ((7 * vg n : Nat) : Int) := ⟨_, rfl⟩
  have es := (shF hF n hn eb).trans hs0.symm
  have eh : ∀ x : Int, ∀ r ∈ [[aU x]], r.length = 1 := fun x r h => by rw [List.mem_singleton.1 h]; rfl
  have hsm : ∀ (j : Nat) (x : Int), j ≤ vg n → (F .len (byR (l ++ vpre n (vg n) j)) + F .len [[aU x]]) * 1 ≤ 140737488355328 := fun j x hj => by
    have := vg_le n hn
    rw [lenF hF, lenF hF, byR_len, List.length_append, vpre_len]
    simp only [List.length_singleton]
    omega
  have hg9 := vg_le n hn
  -- the last byte
  obtain ⟨c', hc'⟩ : ∃ c', F .ar .and .u8 (F .wrp .u8 n') 127 = c' := ⟨_, rfl⟩
  have ec : c' = ((n % 128 : Nat) : Int) := by rw [← hc', en]; exact and8F hF n
  have hfin : F .app (byR (l ++ vpre n (vg n) (vg n))) [[aU c']] = out := by
    rw [hF, hout, vlqL, ← List.append_assoc, byR_app (l ++ _), byR_ofNat _ (by omega), ec]
    rfl
  obtain ⟨G, hG⟩ : ∃ G, G = vg n := ⟨_, rfl⟩
  rw [← hG] at hs0 hsm hg9 hfin
  clear hout
  have e0 : byR (l ++ vpre n G 0) = rows := by rw [hrows]; simp [vpre]
  cbv
  refine ⟨_, _, _, _, ko, ?_⟩
  cbv
  refine ⟨_, kl, ?_⟩
  cbv
  rw [es]
  refine ⟨Nat × Int × List (List AV), fun y => { slots := [(6, aI y.2.1), (5, .own 0 0), (1, aV n')], obs := [(0, .row 5 1 y.2.2 0 0)], ctr := 1 }, fun y => y.2.1 = ((7 * (G - y.1) : Nat) : Int) ∧ y.1 ≤ G ∧ y.2.2 = byR (l ++ vpre n G y.1), fun y => G - y.1, ⟨(0, s0, rows), ⟨hs0, Nat.zero_le _, e0.symm⟩, (le_of [] (by simp [leSl, leOb, injK, memK, parK, noTup, lk, rn0, rnA, plain] <;> first | rfl | decide | (repeat (first | rfl | trivial | refine And.intro ?_ ?_))))⟩, fun y hy => ?_⟩
  obtain ⟨j, s', ow⟩ := y
  obtain ⟨e1, hj, how⟩ := hy
  simp only at e1 hj how
  have tg := gtF hF s' 0
  by_cases hjg : j < G
  · have tg : F .cmp .gtr s' 0 = true := by rw [tg]; exact decide_eq_true (by omega)
    have hs0' : 0 ≤ s' := by omega
    obtain ⟨x', hx'⟩ : ∃ x', F .ar .shr .u64 n' s' = x' := ⟨_, rfl⟩
    have ex : x' = ((n / 2 ^ (7 * (G - j)) : Nat) : Int) := by rw [← hx', en, e1]; exact shrU hF n _ (by omega)
    obtain ⟨d', hd'⟩ : ∃ d', F .ar .or .u8 (F .wrp .u8 x') 128 = d' := ⟨_, rfl⟩
    have ed : d' = ((n / 2 ^ (7 * (G - j)) % 128 + 128 : Nat) : Int) := by rw [← hd', ex]; exact or8F hF _
    obtain ⟨s2, hs2⟩ : ∃ s2, F .ar .sub .i64 s' 7 = s2 := ⟨_, rfl⟩
    have e2 : s2 = ((7 * (G - (j + 1)) : Nat) : Int) := by rw [← hs2, e1, hF]; exact (wrap_in (by omega) (by omega)).trans (by omega)
    obtain ⟨o2, ho2⟩ : ∃ o2, o2 = F .app ow [[aU d']] := ⟨_, rfl⟩
    have eo : o2 = byR (l ++ vpre n G (j + 1)) := by
      rw [ho2, how, vpre_succ, ← List.append_assoc, byR_app (l ++ _), byR_ofNat _ (by omega), ed, hF]
      rfl
    have hmu : G - (j + 1) < G - j := by omega
    have hrm := hsm j d' hj
    rw [← how] at hrm
    have hel := eh d'
    clear hs0 hsm hfin e0
    cbv
    refine bT (tg) ?_
    cbv
    refine ⟨hs0', ?_⟩
    cbv
    rw [hx', hd']
    refine ⟨hel, hrm, ?_⟩
    cbv
    rw [hs2]
    exact ⟨(j + 1, s2, o2), ⟨e2, hjg, eo⟩, hmu, le_of [(0, 1)] (by simp [leSl, leOb, injK, memK, parK, noTup, lk, rn0, rnA, plain]; repeat (first | exact ho2.symm | refine And.intro ?_ ?_ | rfl | trivial))⟩
  · have hje : j = G := by omega
    have tg : F .cmp .gtr s' 0 = false := by rw [tg]; exact decide_eq_false (by omega)
    subst hje
    have hrm := hsm j c' (Nat.le_refl _)
    rw [← how] at hrm hfin
    have hel := eh c'
    clear hs0 hsm e0 how
    cbv
    refine bF (tg) ?_
    cbv
    rw [hc']
    refine ⟨hel, hrm, ?_⟩
    cbv
    exact ⟨hfin, trivial⟩
end Go.Proofs.Ytdnaadcbimbfmaa
set_option linter.unusedSimpArgs false
set_option linter.unusedVariables false
namespace Go.Proofs.Ytdnaadcbimbfmaa
open Go Go.RowKit Am

def txtL (s : ByteArray) : List UInt8 := vlqL s.size ++ L s
set_option maxRecDepth 100000 in
theorem putText_ok (l : List UInt8) (hl : l.length ≤ 40000000) (s : ByteArray) (hs : s.size ≤ 10000000) : CSem Try.prog (.fn 47) [.sl (byR l), aS s] (.own 5 1 (byR (l ++ txtL s)) []) := by
  obtain ⟨rows, hrows⟩ : ∃ rows, rows = byR l := ⟨_, rfl⟩
  obtain ⟨out, hout⟩ : ∃ out, out = byR (l ++ txtL s) := ⟨_, rfl⟩
  rw [← hrows, ← hout]
  refine of_text gam_ok mixed { n := 12, keep := [9, 11] } Try.func47 (by kernel_rfl) rfl rfl (by simp) (by decide) fun F C D hF hC hD => ?_
  obtain ⟨n', en⟩ : ∃ n' : Int, n' = (s.size : Int) := ⟨_, rfl⟩
  have ew : F .wrp .u64 (F .slen s) = n' := by rw [slenF hF, en, hF]; exact IntWalk.u64_in _ (by omega)
  have kp := hC _ _ _ (put_ok l (by omega) s.size (by omega))
  rw [← hrows, ← en] at kp
  obtain ⟨r1, hr1⟩ : ∃ r1, r1 = byR (l ++ vlqL s.size) := ⟨_, rfl⟩
  rw [← hr1] at kp
  have hn := vlq_len s.size (by omega)
  cbv
  rw [ew]
  refine ⟨_, _, _, _, kp, ?_⟩
  cbv
  refine ⟨fun r hr => ?_, ?_, ?_, trivial⟩
  · rw [sbF hF] at hr; exact byR_one _ r hr
  · show (F .len r1 + F .len (F .sb s)) * 1 ≤ 140737488355328
    rw [lenF hF, lenF hF, sbF hF, hr1, byR_len, byR_len, List.length_append, ← L_size]
    omega
  · rw [sbF hF, hr1, hout, txtL, ← List.append_assoc, byR_app (l ++ _), hF]
    rfl
def zz (n : Int) : Nat := if 0 ≤ n then (2 * n).toNat else (-2 * n - 1).toNat
theorem xor0 (x : Int) : (BitVec.ofInt 64 x ^^^ BitVec.ofInt 64 0).toNat = (x % 18446744073709551616).toNat := by
  rw [show BitVec.ofInt 64 0 = 0#64 from rfl, BitVec.xor_zero, BitVec.toNat_ofInt]; rfl
theorem xor1 (x : Int) : (BitVec.ofInt 64 x ^^^ BitVec.ofInt 64 (-1)).toNat = 18446744073709551615 - (x % 18446744073709551616).toNat := by
  rw [show BitVec.ofInt 64 (-1) = BitVec.allOnes 64 from by decide, BitVec.xor_allOnes, BitVec.toNat_not, BitVec.toNat_ofInt]; rfl
theorem zzF {F : Sy} (hF : F = sy) (n : Int) (h0 : -9223372036854775808 ≤ n) (h1 : n ≤ 9223372036854775807) : F .wrp .u64 (F .ar .xor .i64 (F .ar .shl .i64 n 1) (F .ar .shr .i64 n 63)) = ((zz n : Nat) : Int) := by
  have e1 : F .ar .shl .i64 n 1 = IntKind.i64.wrap (n * 2) := by rw [hF]; rfl
  have e2 : F .ar .shr .i64 n 63 = n.fdiv 9223372036854775808 := by rw [hF]; rfl
  rw [e1, e2, hF]
  show IntKind.u64.wrap (IntKind.i64.wrap ((BitVec.ofInt 64 (IntKind.i64.wrap (n * 2)) ^^^ BitVec.ofInt 64 (n.fdiv 9223372036854775808)).toNat : Int)) = _
  rw [Int.fdiv_eq_ediv_of_nonneg _ (by decide)]
  unfold zz
  by_cases hn : 0 ≤ n
  · have : n / 9223372036854775808 = 0 := by omega
    rw [this, xor0, if_pos hn, IntKind.wrap_i64, IntKind.wrap_i64, IntKind.wrap_u64]
    omega
  · have : n / 9223372036854775808 = -1 := by omega
    rw [this, xor1, if_neg hn, IntKind.wrap_i64, IntKind.wrap_i64, IntKind.wrap_u64]
    omega
set_option maxRecDepth 100000 in
theorem putInt_ok (l : List UInt8) (hl : l.length ≤ 40000000) (n : Int) (h0 : -9223372036854775808 ≤ n) (h1 : n ≤ 9223372036854775807) : CSem Try.prog (.fn 69) [.sl (byR l), aI n] (.own 5 1 (byR (l ++ vlqL (zz n))) []) := by
  obtain ⟨rows, hrows⟩ : ∃ rows, rows = byR l := ⟨_, rfl⟩
  rw [← hrows]
  refine of_text gam_ok mixed { n := 13, keep := [12] } Try.func69 (by kernel_rfl) rfl rfl (by simp) (by decide) fun F C D hF hC hD => ?_
  have kp := hC _ _ _ (put_ok l (by omega) (zz n) (by unfold zz; split <;> omega))
  rw [← hrows] at kp
  obtain ⟨z', ez⟩ : ∃ z' : Int, z' = ((zz n : Nat) : Int) := ⟨_, rfl⟩
  rw [← ez] at kp
  have ew := (zzF hF n h0 h1).trans ez.symm
  obtain ⟨r1, hr1⟩ : ∃ r1, r1 = byR (l ++ vlqL (zz n)) := ⟨_, rfl⟩
  rw [← hr1] at kp ⊢
  clear hr1 ez
  cbv
  rw [ew]
  refine ⟨_, _, _, _, kp, ?_⟩
  cbv
end Go.Proofs.Ytdnaadcbimbfmaa
