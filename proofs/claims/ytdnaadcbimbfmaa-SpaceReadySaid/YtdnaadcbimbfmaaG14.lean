import Derived.Test.YtdnaadcbimbfmaaG11
import Derived.Test.YtdnaadcbimbfmaaG12
import Derived.Test.YtdnaadcbimbfmaaG13
set_option linter.unusedSimpArgs false
set_option linter.unusedVariables false
namespace Go.Proofs.Ytdnaadcbimbfmaa
open Go Go.RowKit Am

/-! ### reg.Latest -/
def zE : Ev := ⟨⟨0, 0⟩, 0, fun _ => 0, ⟨0, BA [], BA [], BA [], 0, ⟨0, 0⟩⟩⟩
def topB (l : List Ev) (e : Ev) : Bool := l.all fun k => !laterB k e
def latR (l : List Ev) : Option Ev := l.find? (topB l)
theorem later_irr (a : Ev) : laterB a a = false := by
  cases h : laterB a a with
  | false => rfl
  | true => have := (later_iff a a).1 h; omega
theorem later_trans {a b c : Ev} (h1 : laterB b a = true) (h2 : laterB c b = true) : laterB c a = true := by
  rw [later_iff] at *
  omega
/-- What isn't later than one than which a third is later. -/
theorem later_ne {a b c : Ev} (h1 : laterB a b = false) (h2 : laterB c b = true) : laterB c a = true := by
  have h1 : ¬ laterB a b = true := by rw [h1]; simp
  rw [later_iff] at *
  omega
theorem later_neg {a b c : Ev} (h1 : laterB a b = false) (h2 : laterB c a = false) : laterB c b = false := by
  have h1 : ¬ laterB a b = true := by rw [h1]; simp
  have h2 : ¬ laterB c a = true := by rw [h2]; simp
  cases h : laterB c b with
  | false => rfl
  | true => rw [later_iff] at *; omega
def best : Option Ev → Ev → Option Ev
  | none, e => some e
  | some o, e => if laterB e o = true then some e else some o
theorem topB_snoc (l : List Ev) (e x : Ev) : topB (l ++ [e]) x = (topB l x && !laterB e x) := by
  unfold topB; simp
theorem latR_snoc (l : List Ev) (e : Ev) (h : l.foldl best none = latR l) : best (l.foldl best none) e = latR (l ++ [e]) := by
  rw [h]
  cases hl : latR l with
  | none =>
    have hn : l = [] := by
      cases l with
      | nil => rfl
      | cons a t =>
        exfalso
        have key : ∀ (t : List Ev) (o : Option Ev), o ≠ none → t.foldl best o ≠ none := by
          intro t
          induction t with
          | nil => intro o h; exact h
          | cons b t ih => intro o h; exact ih _ (by cases o with | none => exact absurd rfl h | some o => (simp only [best]; split <;> simp))
        exact key t (some a) (by simp) (by rw [← hl, ← h]; rfl)
    subst hn
    unfold best latR topB
    simp [later_irr]
  | some o =>
    unfold latR at hl ⊢
    obtain ⟨htop, l1, l2, hsplit, has⟩ := List.find?_eq_some_iff_append.1 hl
    have htop' : ∀ k ∈ l, laterB k o = false := fun k hk => by
      have := List.all_eq_true.1 htop k hk
      simpa using this
    by_cases hlt : laterB e o = true
    · simp only [best, if_pos hlt]
      symm
      rw [List.find?_append]
      have hn : l.find? (topB (l ++ [e])) = none := by
        rw [List.find?_eq_none]
        intro x hx
        rw [topB_snoc]
        have : laterB e x = true := later_ne (htop' x hx) hlt
        simp [this]
      rw [hn]
      have he : topB (l ++ [e]) e = true := by
        rw [topB_snoc, later_irr]
        have : topB l e = true := by
          unfold topB
          rw [List.all_eq_true]
          intro k hk
          have h1 : laterB k e = false := by
            cases hke : laterB k e with
            | false => rfl
            | true => have := later_trans hlt hke; rw [htop' k hk] at this; cases this
          simp [h1]
        simp [this]
      simp [he]
    · simp only [best, if_neg hlt]
      have hlt : laterB e o = false := by simpa using hlt
      symm
      rw [List.find?_append]
      have hf : l.find? (topB (l ++ [e])) = some o := by
        rw [List.find?_eq_some_iff_append]
        refine ⟨by rw [topB_snoc, htop, hlt]; rfl, l1, l2, hsplit, fun a ha => ?_⟩
        rw [topB_snoc]
        have := has a ha
        simp only [Bool.not_eq_true'] at this ⊢
        rw [this]; rfl
      rw [hf]
      rfl
theorem best_latR (l : List Ev) : l.foldl best none = latR l := by
  have key : ∀ (n : Nat) (l : List Ev), l.length = n → l.foldl best none = latR l := by
    intro n
    induction n with
    | zero => intro l h; rw [List.eq_nil_of_length_eq_zero h]; rfl
    | succ n ih =>
      intro l h
      obtain ⟨l', e, rfl⟩ : ∃ l' e, l = l' ++ [e] := ⟨l.dropLast, l.getLast (by intro h0; rw [h0] at h; simp at h), (List.dropLast_concat_getLast _).symm⟩
      rw [List.foldl_append]
      exact latR_snoc l' e (ih l' (by simpa using h))
  exact key _ l rfl
set_option maxHeartbeats 4000000 in
theorem latest2_ok (l : List Ev) (hl : l.length ≤ 1000000) (rows : List (List AV)) (hrows : rows = evR l) (x : Ev) (ok : Bool) (h1 : ∀ e, latR l = some e → x = e ∧ ok = true) (h2 : latR l = none → x = zE ∧ ok = false) : CSem Try.prog (.fn 65) [.sl rows] (.pure [.agg x.ac, aB ok]) := by
  refine of_text gam_ok mixed { n := 27, keep := [4] } Try.func65 (by kernel_rfl) rfl rfl (by simp) (by decide) fun F C D hF hC hD => ?_
  obtain ⟨n', hn'⟩ : ∃ n' : Int, F .len rows = n' := ⟨_, rfl⟩
  have en : n' = (l.length : Int) := by rw [← hn', lenF hF, hrows, evR_len]
  rw [← best_latR] at h1 h2
  cbv
  rw [hn']
  refine ⟨Nat × Int × Ev, fun x => { slots := [(9, aI x.2.1), (8, aI n'), (7, .sl rows), (4, .ptr 1 0), (3, aB false), (2, .ptr 0 0), (0, .sl rows)], obs := [(1, .box 37 x.2.2.ac false), (0, .box 37 zE.ac true)], ctr := 2 }, fun x => x.2.1 = (x.1 : Int) ∧ x.1 ≤ l.length ∧ (x.1 = 0 → x.2.2 = zE) ∧ (0 < x.1 → (l.take x.1).foldl best none = some x.2.2), fun x => l.length - x.1, ⟨(0, 0, zE), ⟨rfl, Nat.zero_le _, fun _ => rfl, fun h => absurd h (Nat.lt_irrefl 0)⟩, (le_of [] (by simp [leSl, leOb, injK, memK, parK, noTup, lk, rn0, rnA, plain] <;> first | rfl | decide | (repeat (first | rfl | trivial | refine And.intro ?_ ?_))))⟩, fun x hx => ?_⟩
  obtain ⟨i, i', c⟩ := x
  obtain ⟨ei, hi, hc0, hc1⟩ := hx
  simp only at ei hi hc0 hc1
  have en : n' = (l.length : Int) := en
  have tl := ltF hF i l.length i' n' ei en
  obtain ⟨i2, hi2⟩ : ∃ i2, F .ar .add .i64 i' 1 = i2 := ⟨_, rfl⟩
  have ei2 : i2 = ((i + 1 : Nat) : Int) := hi2.symm.trans (incF hF ei (by omega))
  by_cases hil : i < l.length
  · have tl : F .cmp .lss i' n' = true := tl.2 hil
    obtain ⟨e, he⟩ : ∃ s, l[i]? = some s := ⟨_, List.getElem?_eq_getElem hil⟩
    have hrow : rows[i]? = some e.ac := by rw [hrows]; exact evR_get he
    have hmu : l.length - (i + 1) < l.length - i := by omega
    have hst : (l.take (i + 1)).foldl best none = best ((l.take i).foldl best none) e := by rw [List.take_add_one, he, List.foldl_append]; rfl
    have tz : F .cmp .eql i' 0 = decide (i' = 0) := eqF hF _ _
    by_cases hi0 : i = 0
    · have tz : F .cmp .eql i' 0 = true := by rw [tz]; exact decide_eq_true (by omega)
      have hc2 : (l.take (i + 1)).foldl best none = some e := by rw [hst, hi0]; rfl
      clear h1 h2 hst hc0 hc1
      cbv
      refine bT (tl) ?_
      cbv
      refine ⟨i, _, ei, hrow, rfl, ?_⟩
      cbv
      refine cT (tz) ?_
      cbv
      rw [hi2]
      exact ⟨(i + 1, i2, e), ⟨ei2, hil, fun h => absurd h (Nat.succ_ne_zero _), fun _ => hc2⟩, hmu, le_of [] (by simp [leSl, leOb, injK, memK, parK, noTup, lk, rn0, rnA, plain]; repeat (first | rfl | refine And.intro ?_ ?_ | trivial))⟩
    · have tz : F .cmp .eql i' 0 = false := by rw [tz]; exact decide_eq_false (by omega)
      obtain ⟨q, hq⟩ : ∃ q, q = laterB e c := ⟨_, rfl⟩
      have hlat := hC _ _ _ (later_ok e c q hq)
      have hs := hc1 (by omega)
      rw [hs] at hst
      cases q with
      | true =>
        have hc2 : (l.take (i + 1)).foldl best none = some e := by rw [hst]; simp only [best, ← hq, if_true]
        clear h1 h2 hst hc0 hc1 hs hq
        cbv
        refine bT (tl) ?_
        cbv
        refine ⟨i, _, ei, hrow, rfl, ?_⟩
        cbv
        refine cF (tz) ?_
        cbv
        refine ⟨_, hlat, ?_⟩
        cbv
        refine bT (rfl) ?_
        cbv
        rw [hi2]
        exact ⟨(i + 1, i2, e), ⟨ei2, hil, fun h => absurd h (Nat.succ_ne_zero _), fun _ => hc2⟩, hmu, le_of [] (by simp [leSl, leOb, injK, memK, parK, noTup, lk, rn0, rnA, plain]; repeat (first | rfl | refine And.intro ?_ ?_ | trivial))⟩
      | false =>
        have hc2 : (l.take (i + 1)).foldl best none = some c := by rw [hst]; simp [best, ← hq]
        clear h1 h2 hst hc0 hc1 hs hq
        cbv
        refine bT (tl) ?_
        cbv
        refine ⟨i, _, ei, hrow, rfl, ?_⟩
        cbv
        refine cF (tz) ?_
        cbv
        refine ⟨_, hlat, ?_⟩
        cbv
        refine bF (rfl) ?_
        cbv
        rw [hi2]
        exact ⟨(i + 1, i2, c), ⟨ei2, hil, fun h => absurd h (Nat.succ_ne_zero _), fun _ => hc2⟩, hmu, le_of [] (by simp [leSl, leOb, injK, memK, parK, noTup, lk, rn0, rnA, plain]; repeat (first | rfl | refine And.intro ?_ ?_ | trivial))⟩
  · have tl : F .cmp .lss i' n' = false := by cases h : F .cmp .lss i' n' with | true => exact absurd (tl.1 h) hil | false => rfl
    have tg : F .cmp .gtr n' 0 = decide (n' > 0) := gtF hF _ _
    have hxc : x = c ∧ decide (n' > 0) = ok := by
      have hil2 : i = l.length := by omega
      rw [hil2, List.take_length] at hc1
      by_cases h0 : i = 0
      · have hn : l = [] := List.eq_nil_of_length_eq_zero (by omega)
        subst hn
        obtain ⟨a1, a2⟩ := h2 rfl
        exact ⟨by rw [a1, hc0 h0], by rw [a2]; exact decide_eq_false (by omega)⟩
      · obtain ⟨a1, a2⟩ := h1 _ (hc1 (by omega))
        exact ⟨a1, by rw [a2]; exact decide_eq_true (by omega)⟩
    obtain ⟨rfl, hok⟩ := hxc
    rw [hok] at tg
    clear h1 h2 hc0 hc1 hok
    cbv
    refine bF (tl) ?_
    cbv
    rw [hn', tg]
    simp
/-! ### reg.Value -/
def kdP (e : Ev) : Bool := decide (e.op.kind = 1)
set_option maxHeartbeats 4000000 in
theorem value_ok (l : List Ev) (hl : l.length ≤ 1000000) (rows : List (List AV)) (hrows : rows = evR l) (v : ByteArray) (q : Bool) (g1 : ∀ e, latR (l.filter kdP) = some e → v = e.op.val ∧ q = true) (g2 : latR (l.filter kdP) = none → v = BA [] ∧ q = false) : CSem Try.prog (.fn 37) [.sl rows] (.pure [aS v, aB q]) := by
  refine of_text gam_ok mixed { n := 33, keep := [22] } Try.func37 (by kernel_rfl) rfl rfl (by simp) (by decide) fun F C D hF hC hD => ?_
  obtain ⟨n', hn'⟩ : ∃ n', F .len rows = n' := ⟨_, rfl⟩
  have en : n' = (l.length : Int) := by rw [← hn', lenF hF, hrows, evR_len]
  obtain ⟨x, hx1, hx2, hxv⟩ : ∃ x : Ev, (∀ e, latR (l.filter kdP) = some e → x = e ∧ q = true) ∧ (latR (l.filter kdP) = none → x = zE ∧ q = false) ∧ x.op.val = v := by
    cases h : latR (l.filter kdP) with
    | none => exact ⟨zE, (fun e h => by cases h), fun _ => ⟨rfl, (g2 h).2⟩, (g2 h).1.symm⟩
    | some e => exact ⟨e, fun e' h' => by injection h' with h'; exact ⟨h', (g1 e h).2⟩, (fun h' => by cases h'), (g1 e h).1.symm⟩
  clear g1 g2
  cbv
  rw [hn']
  refine ⟨Nat × Int × List (List AV), fun x => { slots := [(11, aI x.2.1), (10, aI n'), (9, .sl rows), (4, .own 0 0)], obs := [(0, .row 37 26 x.2.2 0 0)], ctr := 1 }, fun x => x.2.1 = (x.1 : Int) ∧ x.1 ≤ l.length ∧ x.2.2 = evR ((l.take x.1).filter kdP), fun x => l.length - x.1, ⟨(0, 0, []), ⟨rfl, Nat.zero_le _, by simp [evR]⟩, Le.trans (le_nil 4 37 26 (by rfl) (by rfl)) (le_of [] (by simp [leSl, leOb, injK, memK, parK, noTup, lk, rn0, rnA, plain] <;> first | rfl | decide | (repeat (first | rfl | trivial | refine And.intro ?_ ?_))))⟩, fun y hy => ?_⟩
  obtain ⟨i, i', o⟩ := y
  obtain ⟨ei, hi, ho⟩ := hy
  simp only at ei hi ho
  have en : n' = (l.length : Int) := en
  have tl := ltF hF i l.length i' n' ei en
  have ep := incF hF ei (by omega)
  have hol : o.length ≤ l.length := by
    rw [ho, evR_len]
    exact Nat.le_trans (List.length_filter_le _ _) (by simp; omega)
  have room : ∀ q : List (List AV), q.length = 1 → (F .len o + F .len q) * 232 ≤ 140737488355328 := fun q hq => by rw [lenF hF, lenF hF, hq]; omega
  obtain ⟨j, hj⟩ : ∃ j, F .ar .add .i64 i' 1 = j := ⟨_, rfl⟩
  have ej : j = ((i + 1 : Nat) : Int) := hj.symm.trans ep
  cbv
  refine br (fun h => ?_) (fun h => ?_) <;> cbv
  · have hil := tl.1 h
    obtain ⟨e, he⟩ : ∃ e, l[i]? = some e := ⟨_, List.getElem?_eq_getElem hil⟩
    have hrow : rows[i]? = some e.ac := by rw [hrows]; exact evR_get he
    have htake : l.take (i + 1) = l.take i ++ [e] := by rw [List.take_add_one, he]; rfl
    have hno : kdP e = false → o = evR ((l.take (i + 1)).filter kdP) := fun h => by rw [htake, List.filter_append, ho]; simp [evR, h]
    obtain ⟨o2, ho2⟩ : ∃ o2, o2 = F .app o [e.ac] := ⟨_, rfl⟩
    have hyes : kdP e = true → o2 = evR ((l.take (i + 1)).filter kdP) := fun h => by rw [ho2, htake, List.filter_append, ho, hF]; simp [evR, h, sy]
    have hrm := room [e.ac] rfl
    have hel : ∀ r ∈ [e.ac], r.length = 26 := fun r h => by rw [List.mem_singleton.1 h]; rfl
    have hk : F .cmp .eql e.op.kind 1 = kdP e := eqF hF _ _
    refine ⟨i, e.ac, ei, hrow, rfl, ?_⟩
    cbv
    refine br (fun g => ?_) (fun g => ?_) <;> cbv
    · refine ⟨hel, hrm, ?_⟩
      rw [hj]
      exact ⟨(i + 1, j, o2), ⟨ej, hil, hyes (hk.symm.trans g)⟩, (show l.length - (i + 1) < l.length - i by omega), le_of [(0, 2)] (by simp [leSl, leOb, injK, memK, parK, noTup, lk, rn0, rnA, plain]; exact ⟨ho2.symm, rfl⟩)⟩
    · rw [hj]
      exact ⟨(i + 1, j, o), ⟨ej, hil, hno (hk.symm.trans g)⟩, (show l.length - (i + 1) < l.length - i by omega), le_of [] (by simp [leSl, leOb, injK, memK, parK, noTup, lk, rn0, rnA, plain])⟩
  · have hge : l.length ≤ i := by have := nfB tl h; omega
    have hfin : o = evR (l.filter kdP) := by rw [ho, List.take_of_length_le hge]
    have hfl : (l.filter kdP).length ≤ 1000000 := Nat.le_trans (List.length_filter_le _ _) hl
    have kl := hC _ _ _ (latest2_ok _ hfl o hfin x q hx1 hx2)
    clear hx1 hx2 hfin ho
    subst hxv
    refine ⟨_, kl, ?_⟩
    cbv
    first | exact ⟨rfl, rfl, trivial⟩ | simp
/-! ### Space.events, of, Text, Type -/
def enK : List ByteArray → List Ent → ByteArray → Option Ent
  | k :: ks, e :: es, s => if k = s then some e else enK ks es s
  | _, _, _ => none
theorem mget_map (f : Ent → AV) (s : ByteArray) : ∀ (ks : List ByteArray) (es : List Ent), mget ks (es.map f) s = (enK ks es s).map f
  | [], [] => rfl
  | [], _ :: _ => rfl
  | _ :: _, [] => rfl
  | k :: ks, e :: es => by
    simp only [List.map_cons, mget, enK]
    split
    · rfl
    · exact mget_map f s ks es
theorem enK_mem {s : ByteArray} : ∀ {ks : List ByteArray} {es : List Ent} {en : Ent}, enK ks es s = some en → en ∈ es
  | [], [], _, h => by simp [enK] at h
  | [], _ :: _, _, h => by simp [enK] at h
  | _ :: _, [], _, h => by simp [enK] at h
  | k :: ks, e :: es, en, h => by
    unfold enK at h
    split at h
    · injection h with h; subst h; exact .head _
    · exact .tail _ (enK_mem h)
def Sp.evs (σ : Sp) (key : ByteArray) : List Ev := match enK σ.ks σ.es key with | some en => en.lv | none => []
theorem mapA_get (σ : Sp) (key : ByteArray) : ∃ ks vs, (mapA σ = .v (.map none) ∧ ks = [] ∧ vs = [] ∨ mapA σ = .mp ks vs) ∧ mget ks vs key = (enK σ.ks σ.es key).map fun en => .ept [.sl (en.lv.map itE), .sl (en.dd.map itT)] 0 := by
  unfold mapA
  cases h : σ.ks with
  | nil => exact ⟨[], [], .inl ⟨rfl, rfl, rfl⟩, by cases σ.es <;> rfl⟩
  | cons k ks => exact ⟨_, _, .inr rfl, by rw [mget_map]⟩
/-- A contract holds of an entry's pointer as of its first bag's. -/
theorem itemsE2_ok (rows : List (List AV)) (y : AV) (hl : rows.length ≤ 1000000) (hr : ∀ r ∈ rows, r.length = 28) : CSem Try.prog (.fn 21) [.ept [.sl rows, y] 0] (.own 65 28 rows []) := by
  have h := itemsE_ok rows hl hr
  refine ⟨h.1, fun w S xs hS hgd hreps => h.2 w S xs hS hgd ?_⟩
  obtain ⟨z, rfl, hz⟩ := reps_one hreps
  obtain ⟨ad, rfl, h1, _⟩ := rep_lv hz
  rw [add00] at h1
  exact Reps.cons h1 (Reps.nil _ _)
theorem eventsN_ok (mA : AV) (ks : List ByteArray) (vs : List AV) (hm : mA = .v (.map none) ∧ ks = [] ∧ vs = [] ∨ mA = .mp ks vs) (v : VV) (t : Int) (key : ByteArray) (hg : mget ks vs key = none) : CSem Try.prog (.fn 40) [.ept (spA mA v t) 0, aS key] (.own 37 26 [] []) := by
  refine of_text gam_ok mixed { n := 40, keep := [37] } Try.func40 (by kernel_rfl) rfl rfl (by simp) (by decide) fun F C D hF hC hD => ?_
  have nilp := hC _ _ _ (show CSem Try.prog (.nilp 25) [] (.pure []) from (show Try.prog.underlying 25 = _ from by kernel_rfl))
  have nile := hC _ _ _ (show CSem Try.prog (.nilp 74) [] (.pure []) from (show Try.prog.underlying 74 = _ from by kernel_rfl))
  rcases hm with ⟨rfl, rfl, rfl⟩ | rfl
  · cbv
    refine ⟨nilp, ?_⟩
    cbv
    refine ⟨_, .miss1 hg, fun _ => trivial, ?_⟩
    cbv
    first | exact ⟨rfl, trivial⟩ | trivial
  · cbv
    refine ⟨nilp, ?_⟩
    cbv
    refine ⟨_, .miss1 hg, fun _ => trivial, ?_⟩
    cbv
    first | exact ⟨rfl, trivial⟩ | trivial
theorem eventsS_ok (ks : List ByteArray) (vs : List AV) (v : VV) (t : Int) (key : ByteArray) (l : List Ev) (y : AV) (hl : l.length ≤ 1000000) (hg : mget ks vs key = some (.ept [.sl (l.map itE), y] 0)) (hy : plain y = y) (out : List (List AV)) (hout : out = evR l) : CSem Try.prog (.fn 40) [.ept (spA (.mp ks vs) v t) 0, aS key] (.own 37 26 out []) := by
  refine of_text gam_ok mixed { n := 40, keep := [37] } Try.func40 (by kernel_rfl) rfl rfl (by simp) (by decide) fun F C D hF hC hD => ?_
  have nilp := hC _ _ _ (show CSem Try.prog (.nilp 25) [] (.pure []) from (show Try.prog.underlying 25 = _ from by kernel_rfl))
  have nile := hC _ _ _ (show CSem Try.prog (.nilp 74) [] (.pure []) from (show Try.prog.underlying 74 = _ from by kernel_rfl))
  obtain ⟨rows, hrows⟩ : ∃ r, r = l.map itE := ⟨_, rfl⟩
  rw [← hrows] at hg
  have rl : rows.length = l.length := by rw [hrows, List.length_map]
  have ki := hC _ _ _ (itemsE2_ok rows y (by omega) (by rw [hrows]; exact fun r hr => by obtain ⟨a, _, rfl⟩ := List.mem_map.1 hr; rfl))
  obtain ⟨n', hn'⟩ : ∃ n', F .len rows = n' := ⟨_, rfl⟩
  have en : n' = (l.length : Int) := by rw [← hn', lenF hF, rl]
  cbv
  refine ⟨nilp, ?_⟩
  cbv
  refine ⟨_, .hit1 hg, fun _ => trivial, ?_⟩
  cbv
  refine ⟨nile, ?_⟩
  cbv
  refine ⟨_, .hit1 hg, fun _ => trivial, ?_⟩
  cbv
  refine ⟨_, ki, ?_⟩
  cbv
  rw [hn']
  refine ⟨Nat × Int × List (List AV), fun x => { slots := [(29, aI x.2.1), (28, aI n'), (27, .sl rows), (5, .own 0 0)], obs := [(0, .row 37 26 x.2.2 0 0)], ctr := 1 }, fun x => x.2.1 = (x.1 : Int) ∧ x.1 ≤ l.length ∧ x.2.2 = evR (l.take x.1), fun x => l.length - x.1, ⟨(0, 0, []), ⟨rfl, Nat.zero_le _, by simp [evR]⟩, Le.trans (le_nil 5 37 26 (by rfl) (by rfl)) (le_of [] (by simp [leSl, leOb, injK, memK, parK, noTup, lk, rn0, rnA, plain] <;> first | rfl | decide | (repeat (first | rfl | trivial | refine And.intro ?_ ?_))))⟩, fun q hq => ?_⟩
  obtain ⟨i, i', o⟩ := q
  obtain ⟨ei, hi, ho⟩ := hq
  simp only at ei hi ho
  have en : n' = (l.length : Int) := en
  have tl := ltF hF i l.length i' n' ei en
  have ep := incF hF ei (by omega)
  have hol : o.length ≤ l.length := by rw [ho, evR_len]; simp; omega
  obtain ⟨j, hj⟩ : ∃ j, F .ar .add .i64 i' 1 = j := ⟨_, rfl⟩
  have ej : j = ((i + 1 : Nat) : Int) := hj.symm.trans ep
  cbv
  refine br (fun h => ?_) (fun h => ?_) <;> cbv
  · have hil := tl.1 h
    obtain ⟨e, he⟩ : ∃ e, l[i]? = some e := ⟨_, List.getElem?_eq_getElem hil⟩
    have hrow : rows[i]? = some (itE e) := by rw [hrows, List.getElem?_map, he]; rfl
    have htake : l.take (i + 1) = l.take i ++ [e] := by rw [List.take_add_one, he]; rfl
    obtain ⟨o2, ho2⟩ : ∃ o2, o2 = F .app o [e.ac] := ⟨_, rfl⟩
    have hyes : o2 = evR (l.take (i + 1)) := by rw [ho2, htake, ho, hF]; simp [evR, sy]
    have hrm : (F .len o + F .len [e.ac]) * 232 ≤ 140737488355328 := by rw [lenF hF, lenF hF]; simp; omega
    have hel : ∀ r ∈ [e.ac], r.length = 26 := fun r h => by rw [List.mem_singleton.1 h]; rfl
    refine ⟨i, itE e, ei, hrow, rfl, ?_⟩
    cbv
    refine ⟨hel, hrm, ?_⟩
    rw [hj]
    exact ⟨(i + 1, j, o2), ⟨ej, hil, hyes⟩, (show l.length - (i + 1) < l.length - i by omega), le_of [(0, 2)] (by simp [leSl, leOb, injK, memK, parK, noTup, lk, rn0, rnA, plain]; exact ⟨ho2.symm, rfl⟩)⟩
  · have hge : l.length ≤ i := by have := nfB tl h; omega
    have hfin : o = out := by rw [ho, List.take_of_length_le hge, hout]
    rw [hfin]
    first | exact ⟨rfl, trivial⟩ | simp
theorem events_ok (σ : Sp) (hl : ∀ en ∈ σ.es, en.lv.length ≤ 1000000) (key : ByteArray) (rows : List (List AV)) (hrows : rows = evR (σ.evs key)) : CSem Try.prog (.fn 40) [.ept (spA (mapA σ) σ.vv σ.tm) 0, aS key] (.own 37 26 rows []) := by
  obtain ⟨ks, vs, hm, hg⟩ := mapA_get σ key
  unfold Sp.evs at hrows
  cases he : enK σ.ks σ.es key with
  | none =>
    rw [he] at hg hrows
    rw [hrows]
    exact eventsN_ok _ ks vs hm _ _ key hg
  | some en =>
    rw [he] at hg hrows
    rcases hm with ⟨_, rfl, rfl⟩ | hm
    · simp [mget] at hg
    · rw [hm]
      exact eventsS_ok ks vs _ _ key en.lv _ (hl en (enK_mem he)) hg rfl rows hrows
def ofS (l : List Ev) (key : ByteArray) (typ : Int) : List Ev := if ofT l key = typ then ofV l key else []
theorem evs_len {σ : Sp} (hl : ∀ en ∈ σ.es, en.lv.length ≤ 1000000) (key : ByteArray) : (σ.evs key).length ≤ 1000000 := by
  unfold Sp.evs
  split
  · rename_i en h; exact hl en (enK_mem h)
  · simp
theorem of17_ok (σ : Sp) (hl : ∀ en ∈ σ.es, en.lv.length ≤ 1000000) (key : ByteArray) (typ : Int) (rows : List (List AV)) (hrows : rows = evR (ofS (σ.evs key) key typ)) : CSem Try.prog (.fn 38) [.ept (spA (mapA σ) σ.vv σ.tm) 0, aS key, aI typ] (.own 37 26 rows []) := by
  have hel := evs_len hl key
  have ke0 := events_ok σ hl key _ rfl
  obtain ⟨l, hle⟩ : ∃ l, l = σ.evs key := ⟨_, rfl⟩
  obtain ⟨r1, hr1⟩ : ∃ r, r = evR l := ⟨_, rfl⟩
  rw [← hle] at hel hrows ke0
  rw [← hr1] at ke0
  obtain ⟨t, ht⟩ : ∃ t, t = ofT l key := ⟨_, rfl⟩
  obtain ⟨r2, hr2⟩ : ∃ r, r = evR (ofV l key) := ⟨_, rfl⟩
  have kt0 := type_ok l (by omega) key r1 hr1 t ht
  have kv0 := ofLive_ok l (by omega) key r1 hr1 r2 hr2
  obtain ⟨m, hm⟩ : ∃ m, m = mapA σ := ⟨_, rfl⟩
  rw [← hm] at ke0 ⊢
  refine of_text gam_ok mixed { n := 19, keep := [18] } Try.func38 (by kernel_rfl) rfl rfl (by simp) (by decide) fun F C D hF hC hD => ?_
  have ke := hC _ _ _ ke0
  have kt := hC _ _ _ kt0
  have kv := hC _ _ _ kv0
  have tn : F .cmp .neq t typ = decide (t ≠ typ) := neF hF _ _
  by_cases h : t = typ
  · have tn : F .cmp .neq t typ = false := by rw [tn]; exact decide_eq_false (fun h' => h' h)
    have hrr : rows = r2 := by rw [hrows, hr2, ofS, if_pos (by rw [← ht]; exact h)]
    subst hrr
    clear ke0 kt0 kv0 hrows hr2 hr1 hle hm
    cbv
    refine ⟨_, ke, ?_⟩
    cbv
    refine ⟨_, kt, ?_⟩
    cbv
    refine bF (tn) ?_
    cbv
    refine ⟨_, _, _, _, kv, ?_⟩
    cbv
    try exact ⟨rfl, trivial⟩
  · have tn : F .cmp .neq t typ = true := by rw [tn]; exact decide_eq_true h
    have hrr : rows = [] := by rw [hrows, ofS, if_neg (by rw [← ht]; exact h)]; rfl
    subst hrr
    clear ke0 kt0 kv0 hrows hr2 hr1 hle hm
    cbv
    refine ⟨_, ke, ?_⟩
    cbv
    refine ⟨_, kt, ?_⟩
    cbv
    refine bT (tn) ?_
    cbv
    try exact ⟨rfl, trivial⟩
theorem type17_ok (σ : Sp) (hl : ∀ en ∈ σ.es, en.lv.length ≤ 1000000) (key : ByteArray) (t : Int) (ht : t = ofT (σ.evs key) key) : CSem Try.prog (.fn 17) [.ept (spA (mapA σ) σ.vv σ.tm) 0, aS key] (.pure [aI t]) := by
  have hel := evs_len hl key
  have ke0 := events_ok σ hl key _ rfl
  obtain ⟨l, hle⟩ : ∃ l, l = σ.evs key := ⟨_, rfl⟩
  obtain ⟨r1, hr1⟩ : ∃ r, r = evR l := ⟨_, rfl⟩
  rw [← hle] at hel ht ke0
  rw [← hr1] at ke0
  have kt0 := type_ok l (by omega) key r1 hr1 t ht
  obtain ⟨m, hm⟩ : ∃ m, m = mapA σ := ⟨_, rfl⟩
  rw [← hm] at ke0 ⊢
  refine of_text gam_ok mixed { n := 10 } Try.func17 (by kernel_rfl) rfl rfl (by simp) (by decide) fun F C D hF hC hD => ?_
  have ke := hC _ _ _ ke0
  have kt := hC _ _ _ kt0
  clear ke0 kt0 hr1 hle hm ht
  cbv
  refine ⟨_, ke, ?_⟩
  cbv
  refine ⟨_, kt, ?_⟩
  cbv
  first | exact ⟨rfl, trivial⟩ | simp
theorem text_ok (σ : Sp) (hl : ∀ en ∈ σ.es, en.lv.length ≤ 1000000) (key : ByteArray) (v : ByteArray) (q : Bool) (g1 : ∀ e, latR ((ofS (σ.evs key) key 1).filter kdP) = some e → v = e.op.val ∧ q = true) (g2 : latR ((ofS (σ.evs key) key 1).filter kdP) = none → v = BA [] ∧ q = false) : CSem Try.prog (.fn 16) [.ept (spA (mapA σ) σ.vv σ.tm) 0, aS key] (.pure [aS v, aB q]) := by
  have hel := evs_len hl key
  obtain ⟨r1, hr1⟩ : ∃ r, r = evR (ofS (σ.evs key) key 1) := ⟨_, rfl⟩
  have ke0 := of17_ok σ hl key 1 r1 hr1
  obtain ⟨l, hle⟩ : ∃ l, l = ofS (σ.evs key) key 1 := ⟨_, rfl⟩
  have hll : l.length ≤ 1000000 := by
    rw [hle, ofS]
    split
    · exact Nat.le_trans (ofV_len _ _) hel
    · simp
  rw [← hle] at hr1 g1 g2
  have kv0 := value_ok l hll r1 hr1 v q g1 g2
  obtain ⟨m, hm⟩ : ∃ m, m = mapA σ := ⟨_, rfl⟩
  rw [← hm] at ke0 ⊢
  refine of_text gam_ok mixed { n := 12 } Try.func16 (by kernel_rfl) rfl rfl (by simp) (by decide) fun F C D hF hC hD => ?_
  have ke := hC _ _ _ ke0
  have kv := hC _ _ _ kv0
  clear ke0 kv0 hr1 hle hm g1 g2
  cbv
  refine ⟨_, ke, ?_⟩
  cbv
  refine ⟨_, kv, ?_⟩
  cbv
  first | exact ⟨rfl, rfl, trivial⟩ | simp
/-! ### few -/
def big17 (e : Ev) : Bool := sy .cmp .gtr (sy .ar .add .i64 (sy .ar .add .i64 (sy .slen e.op.key) (sy .slen e.op.fld)) (sy .slen e.op.val)) 1000
def few17 (l : List Ev) : Bool := decide (l.length ≤ 60) && l.all fun e => !big17 e
theorem few17_len {l : List Ev} (h : few17 l = true) : l.length ≤ 60 := by simp [few17] at h; exact h.1
theorem few_ok (l : List Ev) (rows : List (List AV)) (hrows : rows = evR l) (r : Bool) (hr : r = few17 l) : CSem Try.prog (.fn 7) [.sl rows] (.pure [aB r]) := by
  refine of_text gam_ok mixed { n := 37 } Try.func7 (by kernel_rfl) rfl rfl (by simp) (by decide) fun F C D hF hC hD => ?_
  obtain ⟨n', hn'⟩ : ∃ n', F .len rows = n' := ⟨_, rfl⟩
  have en : n' = (l.length : Int) := by rw [← hn', lenF hF, hrows, evR_len]
  have t0 : F .cmp .gtr n' 60 = true → r = false := fun h => by rw [en, hF] at h; simp [sy] at h; rw [hr, few17]; simp; omega
  have t1 : F .cmp .gtr n' 60 = false → l.length ≤ 60 := fun h => by rw [en, hF] at h; simp [sy] at h; omega
  cbv
  rw [hn']
  refine br (fun h0 => ?_) (fun h0 => ?_) <;> cbv
  · rw [t0 h0]; exact ⟨rfl, trivial⟩
  have hlen := t1 h0
  rw [hn']
  refine ⟨Nat × Int, fun x => { slots := [(9, aI x.2), (8, aI n'), (0, .sl rows)], obs := [], ctr := 0 }, fun x => x.2 = (x.1 : Int) ∧ x.1 ≤ l.length ∧ ∀ (k : Nat) e, k < x.1 → l[k]? = some e → big17 e = false, fun x => l.length - x.1, ⟨(0, 0), ⟨rfl, Nat.zero_le _, fun k e hk => by omega⟩, (le_of [] (by simp [leSl, leOb, injK, memK, parK, noTup, lk, rn0, rnA, plain] <;> first | rfl | decide | (repeat (first | rfl | trivial | refine And.intro ?_ ?_))))⟩, fun x hx => ?_⟩
  obtain ⟨i, i'⟩ := x
  obtain ⟨ei, hi, hz⟩ := hx
  simp only at ei hi hz
  have en : n' = (l.length : Int) := en
  have tl := ltF hF i l.length i' n' ei en
  have ep := incF hF ei (by omega)
  obtain ⟨j, hj⟩ : ∃ j, F .ar .add .i64 i' 1 = j := ⟨_, rfl⟩
  have ej : j = ((i + 1 : Nat) : Int) := hj.symm.trans ep
  cbv
  refine br (fun h => ?_) (fun h => ?_) <;> cbv
  · have hil := tl.1 h
    obtain ⟨e, he⟩ : ∃ e, l[i]? = some e := ⟨_, List.getElem?_eq_getElem hil⟩
    have hrow : rows[i]? = some e.ac := by rw [hrows]; exact evR_get he
    generalize hb : big17 e = bg
    have hw : F .cmp .gtr (F .ar .add .i64 (F .ar .add .i64 (F .slen e.op.key) (F .slen e.op.fld)) (F .slen e.op.val)) 1000 = bg := by rw [hF, ← hb]; rfl
    refine ⟨hC _ _ _ (ben_ok (by kernel_rfl)), ?_⟩
    cbv
    refine ⟨i, e.ac, ei, hrow, rfl, ?_⟩
    cbv
    refine ⟨i, e.ac, ei, hrow, rfl, ?_⟩
    cbv
    refine ⟨i, e.ac, ei, hrow, rfl, ?_⟩
    cbv
    rw [hw]
    cases bg with
    | true =>
      refine bT (rfl) ?_
      cbv
      have hrf : r = false := by
        cases hr' : r with
        | false => rfl
        | true =>
          rw [hr'] at hr
          have := hr.symm
          simp only [few17, Bool.and_eq_true, List.all_eq_true] at this
          have := this.2 e (List.mem_of_getElem? he)
          rw [hb] at this; simp at this
      rw [hrf]; exact ⟨rfl, trivial⟩
    | false =>
      refine bF (rfl) ?_
      cbv
      rw [hj]
      refine ⟨(i + 1, j), ⟨ej, hil, fun k e' hk hk' => ?_⟩, (show l.length - (i + 1) < l.length - i by omega), (le_of [] (by simp [leSl, leOb, injK, memK, parK, noTup, lk, rn0, rnA, plain] <;> first | rfl | decide | (repeat (first | rfl | trivial | refine And.intro ?_ ?_))))⟩
      rcases Nat.lt_or_ge k i with h1 | h1
      · exact hz k e' h1 hk'
      · obtain rfl : k = i := by omega
        rw [he] at hk'; injection hk' with hk'; rw [← hk']; exact hb
  · have hge : l.length ≤ i := by have := nfB tl h; omega
    have hrt : r = true := by
      rw [hr]
      simp only [few17, Bool.and_eq_true, List.all_eq_true, decide_eq_true_eq]
      refine ⟨hlen, fun e he => ?_⟩
      obtain ⟨k, hk⟩ := List.getElem?_of_mem he
      have := hz k e (by have := (List.getElem?_eq_some_iff.1 hk).1; omega) hk
      rw [this]; rfl
    rw [hrt]; exact ⟨rfl, trivial⟩
end Go.Proofs.Ytdnaadcbimbfmaa
set_option linter.unusedSimpArgs false
set_option linter.unusedVariables false
namespace Go.Proofs.Ytdnaadcbimbfmaa
open Go Go.RowKit Am

/-! ### Open regions with guards, in which nothing that is known changes -/
theorem region_invG {P : Program} {id : Nat} {ops : Array Oper} {Q : Exit → Act → World → Prop} {a : Act} {w : World} (hm : P.follows .mixedOrders = true)
    (hlex : ∀ (i : Nat) (o : Oper), ops[i]? = some o → ∀ e ∈ o.after, Region.binds .any e = true → e.on < i) (I : Array Bool → Act → World → Prop) (h0 : I (Array.replicate ops.size false) a { w with drawn := w.drawn + 1 })
    (step : ∀ (listed : Array Bool) (a : Act) (w : World) (i : Nat) (o : Oper), listed.size = ops.size → I listed a w → ops[i]? = some o → listed.getD i true = false → (∀ e ∈ o.after, Region.binds .any e = true → listed.getD e.on false = true) → (Region.wanted o (yielded ops a.tmps) = true ∧ o.wp P a w (fun a' w' => I (listed.setIfInBounds i true) a' w') Q) ∨ (Region.wanted o (yielded ops a.tmps) = false ∧ I (listed.setIfInBounds i true) (a.put o.dst undef) w))
    (done : ∀ (listed : Array Bool) (a : Act) (w : World), listed.size = ops.size → (∀ i, i < ops.size → listed.getD i false = true) → I listed a w → Q .normal a w) : (Code.region id ops true).wp P Q a w := by
  have full : ∀ listed : Array Bool, listed.size = ops.size → Region.ready .any ops listed = [] → ∀ i, i < ops.size → listed.getD i false = true := by
    intro listed hs hr
    have key : ∀ n i, i < n → i < ops.size → listed.getD i false = true := by
      intro n
      induction n with
      | zero => intro i h; omega
      | succ n ih =>
        intro i hi hsz
        cases hg : listed.getD i false with
        | true => rfl
        | false =>
          have hmem : i ∈ Region.ready .any ops listed := by
            rw [mem_ready]
            have h1 : listed.getD i true = false := by
              rw [Array.getD_eq_getD_getElem?] at hg ⊢
              rw [Array.getElem?_eq_getElem (by omega)] at hg ⊢
              simpa using hg
            exact ⟨h1, ops[i], Array.getElem?_eq_getElem hsz, fun e he hb => ih e.on (by have := hlex i _ (Array.getElem?_eq_getElem hsz) e he hb; omega) (by have := hlex i _ (Array.getElem?_eq_getElem hsz) e he hb; omega)⟩
          rw [hr] at hmem
          cases hmem
    exact fun i hi => key (i + 1) i (by omega) hi
  have main : ∀ (fuel : Nat) (listed : Array Bool) (a : Act) (w : World), listed.size = ops.size → (listed.toList.countP fun b => !b) ≤ fuel → I listed a w → wpAny P .any ops Q fuel listed a w := by
    intro fuel
    induction fuel with
    | zero =>
      intro listed a w hs hc hI
      have hr : Region.ready .any ops listed = [] := by
        cases hr : Region.ready .any ops listed with
        | nil => rfl
        | cons j t =>
          have hj : j ∈ Region.ready .any ops listed := by rw [hr]; exact List.mem_cons_self
          obtain ⟨h1, o, ho, _⟩ := mem_ready.1 hj
          have hjl : j < listed.size := by rw [hs]; exact (Array.getElem?_eq_some_iff.1 ho).1
          rw [Array.getD_eq_getD_getElem?, Array.getElem?_eq_getElem hjl] at h1
          have h2 := List.countP_eq_zero.1 (Nat.le_zero.1 hc) listed[j] (by simp)
          simp at h1 h2
          rw [h1] at h2
          cases h2
      exact ⟨hr, done listed a w hs (full listed hs hr) hI⟩
    | succ fuel ih =>
      intro listed a w hs hc hI
      refine ⟨fun hr => done listed a w hs (full listed hs hr) hI, fun i hi => ?_⟩
      obtain ⟨h1, o, ho, h2⟩ := mem_ready.1 hi
      have hless : (listed.setIfInBounds i true).toList.countP (fun b => !b) ≤ fuel := by
        have hil : i < listed.size := by rw [hs]; exact (Array.getElem?_eq_some_iff.1 ho).1
        rw [Array.getD_eq_getD_getElem?, Array.getElem?_eq_getElem hil] at h1
        have h1 : listed[i] = false := by simpa using h1
        have : (listed.setIfInBounds i true).toList.countP (fun b => !b) + 1 = listed.toList.countP (fun b => !b) := by
          rw [Array.toList_setIfInBounds]
          have hl : i < listed.toList.length := by simpa using hil
          have e1 : listed.toList = listed.toList.take i ++ listed.toList[i] :: listed.toList.drop (i + 1) := by
            rw [List.getElem_cons_drop hl, List.take_append_drop]
          have e2 : listed.toList.set i true = listed.toList.take i ++ true :: listed.toList.drop (i + 1) := by
            rw [List.set_eq_take_append_cons_drop, if_pos hl]
          rw [e2]
          conv => rhs; rw [e1]
          rw [List.countP_append, List.countP_append, List.countP_cons, List.countP_cons]
          have : listed.toList[i] = false := by rw [Array.getElem_toList]; exact h1
          rw [this]
          simp
          omega
        omega
      have hsz : (listed.setIfInBounds i true).size = ops.size := by rw [Array.size_setIfInBounds]; exact hs
      unfold wpOp
      rw [ho]
      rcases step listed a w i o hs hI ho h1 h2 with ⟨hw, hst⟩ | ⟨hw, hI'⟩
      · simp only [hw, if_true]
        exact .inl (Oper.wp_mono (fun a' w' hI' => ih _ a' w' hsz hless hI') hst)
      · simp only [hw]
        exact ih _ _ _ hsz hless hI'
  refine wp_region_any hm (main _ _ _ _ (by simp) ?_ h0)
  exact Nat.le_trans List.countP_le_length (by simp)
def depsG (need : Nat → List Nat) (ops : List Oper) : Bool := (List.range ops.length).all fun i => match ops[i]? with
  | none => false
  | some o => (o.after.all fun e => !Region.binds .any e || Nat.blt e.on i) && ((need i).all fun j => o.after.any fun e => Nat.beq e.on j && Region.binds .any e) && (match o.guard with | none => true | some (j, _) => (need i).any fun k => Nat.beq k j)
abbrev ShG := List (Option Nat × Op × Option (Nat × Bool))
def ShG.dsts (s : ShG) : List (Option Nat × Op) := s.map fun q => (q.1, q.2.1)
structure RPI (n : Nat) (a0 : Act) (w : World) (shape : ShG) (val : Nat → Value) (L : Array Bool) (a : Act) (w' : World) : Prop where
  bw : Below w.heap.size w w'
  size : a.tmps.size = n
  defers : a.defers = a0.defers
  vals : ∀ (i d : Nat) (op : Op) (g : Option (Nat × Bool)), L.getD i false = true → shape[i]? = some (some d, op, g) → a.eval (.tmp d) = val i
  keep : ∀ (t : Nat), (∀ (j : Nat) (op : Op), shape.dsts[j]? ≠ some (some t, op)) → a.eval (.tmp t) = a0.eval (.tmp t)
set_option maxHeartbeats 1000000 in
theorem region_pure {P : Program} {id : Nat} {ops : List Oper} {Q : Exit → Act → World → Prop} {a0 : Act} {w : World} (hm : P.follows .mixedOrders = true) (n : Nat) (hz : a0.tmps.size = n)
    (shape : ShG) (hops : ops.map (fun o => (o.dst, o.op, o.guard)) = shape) (need : Nat → List Nat) (hdep : depsG need ops = true) (hdst : dstsC n shape.dsts = true) (hsome : (shape.all fun q => q.1.isSome) = true) (val : Nat → Value)
    (hskip : ∀ (i : Nat) (d : Option Nat) (op : Op) (j : Nat) (b : Bool), shape[i]? = some (d, op, some (j, b)) → j < shape.length ∧ (val j ≠ .bool b → val i = undef))
    (hstep : ∀ (i d : Nat) (op : Op) (g : Option (Nat × Bool)), shape[i]? = some (some d, op, g) → (∀ j b, g = some (j, b) → val j = .bool b) → ∀ (a : Act) (w' : World), a.tmps.size = n → Below w.heap.size w w' → (∀ j ∈ need i, ∀ (dj : Nat) (op' : Op) (g' : Option (Nat × Bool)), shape[j]? = some (some dj, op', g') → a.eval (.tmp dj) = val j) → (∀ (t : Nat), (∀ (j : Nat) (op : Op), shape.dsts[j]? ≠ some (some t, op)) → a.eval (.tmp t) = a0.eval (.tmp t)) → ∀ (o : Oper), o.op = op → o.dst = some d → o.wp P a w' (fun a' w2 => a' = a.put (some d) (val i) ∧ Below w'.heap.size w' w2) Q)
    (hQ : ∀ (a' : Act) (w' : World), a'.tmps.size = n → a'.defers = a0.defers → Below w.heap.size w w' → (∀ (i d : Nat) (op : Op) (g : Option (Nat × Bool)), shape[i]? = some (some d, op, g) → a'.eval (.tmp d) = val i) → (∀ (t : Nat), (∀ (j : Nat) (op : Op), shape.dsts[j]? ≠ some (some t, op)) → a'.eval (.tmp t) = a0.eval (.tmp t)) → Q .normal a' w') : (Code.region id ops.toArray true).wp P Q a0 w := by
  have hlen : shape.length = ops.length := by rw [← hops, List.length_map]
  have hdep' : ∀ (i : Nat) (o : Oper), ops[i]? = some o → (∀ e ∈ o.after, Region.binds .any e = true → e.on < i) ∧ (∀ j ∈ need i, ∃ e ∈ o.after, e.on = j ∧ Region.binds .any e = true) ∧ (∀ j b, o.guard = some (j, b) → j ∈ need i) := fun i o ho => by
    have hil := (List.getElem?_eq_some_iff.1 ho).1
    have h1 := List.all_eq_true.1 hdep i (List.mem_range.2 hil)
    rw [ho] at h1
    simp only [Bool.and_eq_true, Array.all_eq_true', List.all_eq_true, Array.any_eq_true'] at h1
    obtain ⟨⟨h1, h2⟩, h3⟩ := h1
    refine ⟨fun e he hb => ?_, fun j hj => ?_, fun j b hg => ?_⟩
    · have := h1 e he
      rw [hb] at this
      simpa using this
    · obtain ⟨e, he, h⟩ := h2 j hj
      exact ⟨e, he, by simpa using h.1, h.2⟩
    · rw [hg] at h3
      simp at h3
      exact h3
  refine region_invG hm (fun i o ho e he hb => ?_) (fun L a w' => RPI n a0 w shape val L a w') ?_ ?_ ?_
  · have ho : ops[i]? = some o := by simpa using ho
    exact (hdep' i o ho).1 e he hb
  · refine ⟨(Below.refl _ _).drew, hz, rfl, fun i d op g hL => ?_, fun t ht => rfl⟩
    rw [Array.getD_eq_getD_getElem?, Array.getElem?_replicate] at hL
    split at hL <;> simp at hL
  · intro L a w' i o hs hI ho hun hd
    have ho : ops[i]? = some o := by simpa using ho
    obtain ⟨h1, h2, h3⟩ := hdep' i o ho
    have hil := (List.getElem?_eq_some_iff.1 ho).1
    have hsh : shape[i]? = some (o.dst, o.op, o.guard) := by rw [← hops, List.getElem?_map, ho]; rfl
    have hds : (o.dst).isSome = true := List.all_eq_true.1 hsome _ (List.mem_of_getElem? hsh)
    obtain ⟨d, hdd⟩ := Option.isSome_iff_exists.1 hds
    rw [hdd] at hsh
    have hdsh : shape.dsts[i]? = some (some d, o.op) := by unfold ShG.dsts; rw [List.getElem?_map, hsh]; rfl
    have hdn := (dstsC_ok hdst hdsh).1
    have hiL : i < L.size := by rw [hs]; simpa using hil
    have hnv : ∀ j ∈ need i, ∀ (dj : Nat) (op' : Op) (g' : Option (Nat × Bool)), shape[j]? = some (some dj, op', g') → a.eval (.tmp dj) = val j := fun j hj dj op' g' hsj => by
      obtain ⟨e, he, q1, q2⟩ := h2 j hj
      subst q1
      exact hI.vals _ dj op' g' (hd e he q2) hsj
    have hnext : ∀ (w2 : World), Below w'.heap.size w' w2 → RPI n a0 w shape val (L.setIfInBounds i true) (a.put (some d) (val i)) w2 := fun w2 hb => by
      refine ⟨hI.bw.trans (hb.mono hI.bw.size), by rw [← hI.size]; exact Array.size_setIfInBounds .., hI.defers, fun j dj op' g' hL hsj => ?_, fun t ht => ?_⟩
      · rw [getD_setT L i j hiL] at hL
        by_cases hij : i = j
        · subst hij
          rw [hsh] at hsj
          injection hsj with hsj
          have : d = dj := by injection (Prod.mk.inj hsj).1
          subst this
          rw [evT]
          exact put_eq (by rw [hI.size]; exact hdn)
        · rw [if_neg hij] at hL
          have hdj : shape.dsts[j]? = some (some dj, op') := by unfold ShG.dsts; rw [List.getElem?_map, hsj]; rfl
          have hne : d ≠ dj := fun e => (dstsC_ok hdst hdsh).2 j dj op' hdj hij (by rw [e])
          rw [evT, put_ne (by rw [hI.size]; exact hdn) (fun e => hne e.symm)]
          exact hI.vals j dj op' g' hL hsj
      · have hne : t ≠ d := fun e => ht i o.op (by rw [hdsh, e])
        rw [evT, put_ne (by rw [hI.size]; exact hdn) hne]
        exact hI.keep t ht
    have hwant : ∀ j b, o.guard = some (j, b) → (val j ≠ .bool b → val i = undef) ∧ (val j = .bool b → Region.wanted o (yielded ops.toArray a.tmps) = true) ∧ (val j ≠ .bool b → Region.wanted o (yielded ops.toArray a.tmps) = false) := fun j b hg => by
      obtain ⟨q1, q3⟩ := hskip i _ _ j b (by rw [hsh, hg])
      have hsj := List.getElem?_eq_getElem q1
      have hdsj : (shape[j]).1.isSome = true := List.all_eq_true.1 hsome _ (List.getElem_mem q1)
      obtain ⟨dj, hdj0⟩ := Option.isSome_iff_exists.1 hdsj
      obtain ⟨op', g', hsj⟩ : ∃ op' g', shape[j]? = some (some dj, op', g') := ⟨(shape[j]).2.1, (shape[j]).2.2, by rw [hsj, ← hdj0]⟩
      have hv := hnv j (h3 j b hg) dj op' g' hsj
      have hoj : ∃ oj, ops[j]? = some oj ∧ oj.dst = some dj := by
        have := hsj
        rw [← hops, List.getElem?_map] at this
        obtain ⟨oj, e1, e2⟩ := Option.map_eq_some_iff.1 this
        exact ⟨oj, e1, (Prod.mk.inj e2).1⟩
      obtain ⟨oj, e1, e2⟩ := hoj
      have hdj : shape.dsts[j]? = some (some dj, op') := by unfold ShG.dsts; rw [List.getElem?_map, hsj]; rfl
      have hdjn := (dstsC_ok hdst hdj).1
      have h9 : a.tmps[dj]? = some (val j) := by
        rw [evT, Array.getD_eq_getD_getElem?] at hv
        have hlt : dj < a.tmps.size := by rw [hI.size]; exact hdjn
        rw [Array.getElem?_eq_getElem hlt] at hv ⊢
        rw [← hv]; rfl
      have hy : yielded ops.toArray a.tmps j = (match val j with | .bool b => some b | _ => none) := by
        unfold yielded
        have : (ops.toArray)[j]? = some oj := by simpa using e1
        rw [this]
        show (match (oj.dst).bind (a.tmps[·]?) with | some (.bool b) => some b | _ => none) = _
        rw [e2]
        show (match a.tmps[dj]? with | some (.bool b) => some b | _ => none) = _
        rw [h9]
        cases val j <;> rfl
      have hwd : Region.wanted o (yielded ops.toArray a.tmps) = (yielded ops.toArray a.tmps j == some b) := by
        unfold Region.wanted
        rw [hg]
      refine ⟨q3, fun h => ?_, fun h => ?_⟩
      · rw [hwd, hy, h]
        cases b <;> rfl
      · rw [hwd, hy]
        cases hvj : val j with
        | bool c =>
          have : c ≠ b := fun e => h (by rw [hvj, e])
          cases c <;> cases b <;> first | rfl | exact absurd rfl this
        | _ => rfl
    have hput2 : val i = undef → RPI n a0 w shape val (L.setIfInBounds i true) (a.put o.dst undef) w' := fun hu => by
      have := hnext w' (Below.refl _ _)
      rw [hu] at this
      rw [hdd]
      exact this
    cases hg : o.guard with
    | none =>
      refine .inl ⟨by unfold Region.wanted; rw [hg], ?_⟩
      refine Oper.wp_mono (fun a' w2 hh => ?_) (hstep i d o.op o.guard hsh (fun j b h => by rw [hg] at h; cases h) a w' hI.size hI.bw hnv hI.keep o rfl hdd)
      obtain ⟨rfl, hb⟩ := hh
      exact hnext w2 hb
    | some jb =>
      obtain ⟨j, b⟩ := jb
      obtain ⟨q1, q2, q3⟩ := hwant j b hg
      by_cases hcb : val j = .bool b
      · refine .inl ⟨q2 hcb, ?_⟩
        refine Oper.wp_mono (fun a' w2 hh => ?_) (hstep i d o.op o.guard hsh (fun j' b' h => by rw [hg] at h; injection h with h; injection h with e1 e2; subst e1; subst e2; exact hcb) a w' hI.size hI.bw hnv hI.keep o rfl hdd)
        obtain ⟨rfl, hb⟩ := hh
        exact hnext w2 hb
      · exact .inr ⟨q3 hcb, hput2 (q1 hcb)⟩
  · intro L a w' hs hall hI
    refine hQ a w' hI.size hI.defers hI.bw (fun i d op g hsh => hI.vals i d op g (hall i ?_) hsh) hI.keep
    have := (List.getElem?_eq_some_iff.1 hsh).1
    simp
    omega
end Go.Proofs.Ytdnaadcbimbfmaa
set_option linter.unusedSimpArgs false
set_option linter.unusedVariables false
namespace Go.Proofs.Ytdnaadcbimbfmaa
open Go Go.RowKit Am

def vvShape : List (Option Nat × Op) := [(some 75, .move (.tmp 0)), (some 76, .move (.tmp 0)), (some 77, .nilCheck (.tmp 76)), (some 78, .fieldAddr 52 (.tmp 77) 1), (some 79, .load 29 (.tmp 78)), (some 80, .fieldAddr 37 (.tmp 3) 0), (some 81, .load 33 (.tmp 80)), (some 82, .call { callee := .value (.func 33), args := #[.tmp 79, .tmp 81], argTypes := #[29, 33] }), (some 74, .move (.tmp 82)), (some 83, .extract (.tmp 74) 0), (some 84, .extract (.tmp 74) 1), (some 85, .nilCheck (.tmp 75)), (some 86, .fieldAddr 52 (.tmp 85) 1), (none, .store 29 (.tmp 86) (.tmp 83))]
def vvNeed : Nat → List Nat
  | 2 => [1] | 3 => [2] | 4 => [3] | 6 => [5] | 7 => [4, 6] | 8 => [7] | 9 => [8] | 10 => [8] | 11 => [0] | 12 => [11] | 13 => [12, 9, 7] | _ => []
def tupW (u : VV) : Value := .tuple #[.agg (vvs u), vI 0]
def vvVal (p : Nat) (ae : Addr) (vv u : VV) (d : Dt) (q : Nat) : Option Value :=
  match q with
  | 0 => some (.pointer (some ⟨p, 0, none⟩)) | 1 => some (.pointer (some ⟨p, 0, none⟩)) | 2 => some (.pointer (some ⟨p, 0, none⟩)) | 3 => some (.pointer (some ((⟨p, 0, none⟩ : Addr).add 1))) | 4 => some (.agg (vvs vv))
  | 5 => some (.pointer (some (ae.add 0))) | 6 => some (.agg d.vs) | 8 => some (tupW u) | 9 => some (.agg (vvs u)) | 10 => some (vI 0) | 11 => some (.pointer (some ⟨p, 0, none⟩)) | 12 => some (.pointer (some ⟨p, 1, none⟩)) | _ => none
def vvT (p : Nat) (mv : Value) (u : VV) (t : Int) (W : World) (k : Nat) (f : Nat → Value) (w : World) : Prop :=
  match k with
  | 0 => w = W
  | 1 => f 82 = tupW u ∧ Below W.heap.size W w
  | _ => f 82 = tupW u ∧ ∃ w1, Below W.heap.size W w1 ∧ w = w1.setRow p (spV mv u t)
theorem vv_in {mv : Value} {vv : VV} {tm : Int} (j : Nat) (v : Value) (h : (vvs vv).toList[j]? = some v) : (spV mv vv tm).toList[1 + j]? = some v := by
  rw [Nat.add_comm]
  have hj : j < 16 := (List.getElem?_eq_some_iff.1 h).1
  have : (spV mv vv tm).toList[j + 1]? = ((vvs vv).toList ++ [vI tm])[j]? := rfl
  rw [this, List.getElem?_append_left (show j < (vvs vv).toList.length from hj)]
  exact h
set_option maxHeartbeats 4000000 in
set_option maxRecDepth 100000 in
theorem vv_region {id : Nat} {ops : List Oper} {Q : Exit → Act → World → Prop} {a0 : Act} {w : World} (p : Nat) (ae : Addr) (vv u : VV) (d : Dt) (mv : Value) (tm : Int) (hops : ops.map (fun o => (o.dst, o.op)) = vvShape) (hdep : depsC vvNeed ops = true) (hz : a0.tmps.size = 97)
    (h0 : a0.eval (.tmp 0) = .pointer (some (⟨p, 0, none⟩))) (h3 : a0.eval (.tmp 3) = .pointer (some (ae)))
    (c3 : ∀ j v, d.vs.toList[j]? = some v → w.cell? ((ae.add 0).add j) = some v) (cp : w.heap[p]? = some (.cells (spV mv vv tm) 52 (0, 0)))
    (hc : Calls Try.prog 33 #[.agg (vvs vv), .agg d.vs] w.drew fun r w2 => r = .returned (tupW u) ∧ Below w.heap.size w.drew w2) (hQ : ∀ a' w1, a'.tmps.size = 97 → a'.defers = a0.defers → Below w.heap.size w.drew w1 → (∀ t, (∀ (j : Nat) (op : Op), vvShape[j]? ≠ some (some t, op)) → a'.eval (.tmp t) = a0.eval (.tmp t)) → Q .normal a' (w1.setRow p (spV mv u tm))) : (Code.region id ops.toArray true).wp Try.prog Q a0 w := by
  have hp : p < w.heap.size := (Array.getElem?_eq_some_iff.1 cp).1
  refine region_chain mixed 97 hz vvShape hops vvNeed hdep (by decide) (vvVal p ae vv u d) [7, 13] (vvT p mv u tm w.drew) (fun k f f' w1 hT hk => ?_) (by decide) (fun q hq => ?_) (fun m hm => ?_) (by decide) (fun p m m' h1 h2 => ?_) ?_ ?_ ?_ (fun a' w' hs hd hT hv hoth => ?_)
  · match k, hT with
    | 0, hT => exact hT
    | 1, hT => exact ⟨by rw [hk 7 (by simp) 82 _ rfl]; exact hT.1, hT.2⟩
    | _ + 2, hT => exact ⟨by rw [hk 7 (by simp) 82 _ rfl]; exact hT.1, hT.2⟩
  · have hq : q < 14 := hq
    obtain rfl | rfl | rfl | rfl | rfl | rfl | rfl | rfl | rfl | rfl | rfl | rfl | rfl | rfl : q = 0 ∨ q = 1 ∨ q = 2 ∨ q = 3 ∨ q = 4 ∨ q = 5 ∨ q = 6 ∨ q = 7 ∨ q = 8 ∨ q = 9 ∨ q = 10 ∨ q = 11 ∨ q = 12 ∨ q = 13 := by omega
    all_goals first | exact .inl rfl | exact .inr (by simp)
  · simp only [List.mem_cons, List.not_mem_nil, or_false] at hm
    rcases hm with rfl | rfl <;> rfl
  · match p with
    | 0 => injection h1 with h1; injection h2 with h2; subst h1; subst h2; simp [vvNeed]
    | 1 => simp at h2
    | _ + 2 => simp at h1
  · exact rfl
  · intro q dd op uu hsh hv k a w' hT hlim hn hpp hk o ho
    have hq : q < 14 := (List.getElem?_eq_some_iff.1 hsh).1
    have e0 := (hk 0 (notD (by rfl))).trans h0
    have e3 := (hk 3 (notD (by rfl))).trans h3
    obtain rfl | rfl | rfl | rfl | rfl | rfl | rfl | rfl | rfl | rfl | rfl | rfl | rfl | rfl : q = 0 ∨ q = 1 ∨ q = 2 ∨ q = 3 ∨ q = 4 ∨ q = 5 ∨ q = 6 ∨ q = 7 ∨ q = 8 ∨ q = 9 ∨ q = 10 ∨ q = 11 ∨ q = 12 ∨ q = 13 := by omega
    all_goals first | (cases hv; done) | (injection hsh with hsh; obtain ⟨rfl, rfl⟩ := Prod.mk.inj hsh; injection hv with hv; subst hv)
    · exact q_move ho e0
    · exact q_move ho e0
    · exact q_nil ho (hn 1 (by decide) _ 76 _ rfl rfl)
    · exact q_fld (ti := ti52) (off := 1) (sz := 16) rfl rfl ho (hn 2 (by decide) _ 77 _ rfl rfl)
    · have hk0 := hlim 0 7 rfl (by decide)
      obtain rfl : k = 0 := by omega
      have hT : w' = w.drew := hT
      subst hT
      exact q_loadA (w := w.drew) (cs := (vvs vv).toList) (ti := ti29) rfl rfl rfl ho (hn 3 (by decide) _ 78 _ rfl rfl) fun j v hj => by
        rw [Addr.add_add, Addr.add_lit, cell_of_row w.drew _ _ _ _ _ cp]
        have := vv_in (mv := mv) (tm := tm) j v hj
        rw [Nat.zero_add]
        simpa using this
    · exact q_fld (ti := ti37) (off := 0) (sz := 2) rfl rfl ho e3
    · have hk0 := hlim 0 7 rfl (by decide)
      obtain rfl : k = 0 := by omega
      have hT : w' = w.drew := hT
      subst hT
      exact q_loadA (w := w.drew) (cs := d.vs.toList) (ti := ti33) rfl rfl rfl ho (hn 5 (by decide) _ 80 _ rfl rfl) c3
    · have h7 := hpp 7 (by decide) 0 rfl
      have e82 : a.eval (.tmp 82) = tupW u := by
        match k, hT with
        | 0, _ => omega
        | 1, hT => exact hT.1
        | _ + 2, hT => exact hT.1
      exact q_move ho e82
    · exact q_ext ho (hn 8 (by decide) _ 74 _ rfl rfl) rfl
    · exact q_ext ho (hn 8 (by decide) _ 74 _ rfl rfl) rfl
    · exact q_nil ho (hn 0 (by decide) _ 75 _ rfl rfl)
    · exact q_fld (ti := ti52) (off := 1) (sz := 16) rfl rfl ho (hn 11 (by decide) _ 85 _ rfl rfl)
  · intro k m dd op hkm hsh a w' hza hT hn hk o hd ho
    match k with
    | 0 =>
      injection hkm with hkm; subst hkm; injection hsh with hsh; obtain ⟨rfl, rfl⟩ := Prod.mk.inj hsh
      have hT : w' = w.drew := hT
      subst hT
      have hen := run_call (P := Try.prog) (a := a) (w := w.drew) (g := 33) (caps := []) ho rfl (enterT Try.func33 (by kernel_rfl) rfl)
      simp only [List.map_cons, List.map_nil, List.append_nil, (hn 4 (by decide) _ 79 _ rfl rfl), (hn 6 (by decide) _ 81 _ rfl rfl)] at hen
      refine wp_enter hen (hc.mono ?_)
      rintro r w2 ⟨rfl, hb⟩
      refine ⟨_, rfl, _, by rw [hd], ?_, hb⟩
      rw [hd, tf, put_eq (by rw [hza]; decide)]
    | 1 =>
      injection hkm with hkm; subst hkm; injection hsh with hsh; obtain ⟨rfl, rfl⟩ := Prod.mk.inj hsh
      obtain ⟨h82, hb⟩ := hT
      have hst := q_storeN (w := w') (a := a) (cs := (vvs u).toList) (ti := ti29) rfl rfl ho (hn 12 (by decide) _ 86 _ rfl rfl) (hn 9 (by decide) _ 83 _ rfl rfl) ((hb.block p hp).trans cp) (by show 1 + 16 ≤ 18; omega) (List.all_eq_true.1 (show ((vvs u).toList).all (fun v => v.oneCell') = true from rfl))
      refine exec_skip hst ⟨undef, by rw [hd], ?_, w', hb, rfl⟩
      rw [hd]; exact h82
    | _ + 2 => simp at hkm
  · obtain ⟨_, w1, hb, rfl⟩ := hT
    exact hQ a' w1 hs hd hb fun t ht => hoth t fun j op => ht j op
def tmShape : List (Option Nat × Op) := [(some 87, .move (.tmp 0)), (some 88, .move (.tmp 0)), (some 89, .nilCheck (.tmp 88)), (some 90, .fieldAddr 52 (.tmp 89) 2), (some 91, .load 3 (.tmp 90)), (some 92, .fieldAddr 37 (.tmp 3) 1), (some 93, .load 3 (.tmp 92)), (some 94, .call { callee := .builtin .max, args := #[.tmp 91, .tmp 93], argTypes := #[3, 3] }), (some 95, .nilCheck (.tmp 87)), (some 96, .fieldAddr 52 (.tmp 95) 2), (none, .store 3 (.tmp 96) (.tmp 94))]
def tmNeed : Nat → List Nat
  | 2 => [1] | 3 => [2] | 4 => [3] | 6 => [5] | 7 => [4, 6] | 8 => [0] | 9 => [8] | 10 => [9, 7] | _ => []
def tmVal (p : Nat) (ae : Addr) (t te : Int) (q : Nat) : Option Value :=
  match q with
  | 0 => some (.pointer (some ⟨p, 0, none⟩)) | 1 => some (.pointer (some ⟨p, 0, none⟩)) | 2 => some (.pointer (some ⟨p, 0, none⟩)) | 3 => some (.pointer (some ⟨p, 17, none⟩)) | 4 => some (vI t)
  | 5 => some (.pointer (some (ae.add 2))) | 6 => some (vI te) | 7 => some (vI (max t te)) | 8 => some (.pointer (some ⟨p, 0, none⟩)) | 9 => some (.pointer (some ⟨p, 17, none⟩)) | _ => none
def tmT (p : Nat) (mv : Value) (vv : VV) (t : Int) (W : World) (k : Nat) (_ : Nat → Value) (w : World) : Prop :=
  match k with
  | 0 => w = W
  | _ => w = W.setRow p (spV mv vv t)
set_option maxHeartbeats 4000000 in
set_option maxRecDepth 100000 in
theorem tm_region {id : Nat} {ops : List Oper} {Q : Exit → Act → World → Prop} {a0 : Act} {w : World} (p : Nat) (ae : Addr) (vv : VV) (mv : Value) (t te : Int) (hops : ops.map (fun o => (o.dst, o.op)) = tmShape) (hdep : depsC tmNeed ops = true) (hz : a0.tmps.size = 97)
    (h0 : a0.eval (.tmp 0) = .pointer (some (⟨p, 0, none⟩))) (h3 : a0.eval (.tmp 3) = .pointer (some (ae)))
    (c3 : w.cell? (ae.add 2) = some (vI te)) (cp : w.heap[p]? = some (.cells (spV mv vv t) 52 (0, 0)))
    (hQ : ∀ a', a'.tmps.size = 97 → a'.defers = a0.defers → (∀ t, (∀ (j : Nat) (op : Op), tmShape[j]? ≠ some (some t, op)) → a'.eval (.tmp t) = a0.eval (.tmp t)) → Q .normal a' (w.drew.setRow p (spV mv vv (max t te)))) : (Code.region id ops.toArray true).wp Try.prog Q a0 w := by
  have hp : p < w.heap.size := (Array.getElem?_eq_some_iff.1 cp).1
  refine region_chain mixed 97 hz tmShape hops tmNeed hdep (by decide) (tmVal p ae t te) [10] (tmT p mv vv (max t te) w.drew) (fun k f f' w1 hT hk => ?_) (by decide) (fun q hq => ?_) (fun m hm => ?_) (by decide) (fun p m m' h1 h2 => ?_) ?_ ?_ ?_ (fun a' w' hs hd hT hv hoth => ?_)
  · match k, hT with
    | 0, hT => exact hT
    | _ + 1, hT => exact hT
  · have hq : q < 11 := hq
    obtain rfl | rfl | rfl | rfl | rfl | rfl | rfl | rfl | rfl | rfl | rfl : q = 0 ∨ q = 1 ∨ q = 2 ∨ q = 3 ∨ q = 4 ∨ q = 5 ∨ q = 6 ∨ q = 7 ∨ q = 8 ∨ q = 9 ∨ q = 10 := by omega
    all_goals first | exact .inl rfl | exact .inr (by simp)
  · simp only [List.mem_cons, List.not_mem_nil, or_false] at hm
    subst hm; rfl
  · match p with
    | 0 => simp at h2
    | _ + 1 => simp at h1
  · exact rfl
  · intro q dd op uu hsh hv k a w' hT hlim hn hpp hk o ho
    have hq : q < 11 := (List.getElem?_eq_some_iff.1 hsh).1
    have e0 := (hk 0 (notD (by rfl))).trans h0
    have e3 := (hk 3 (notD (by rfl))).trans h3
    obtain rfl | rfl | rfl | rfl | rfl | rfl | rfl | rfl | rfl | rfl | rfl : q = 0 ∨ q = 1 ∨ q = 2 ∨ q = 3 ∨ q = 4 ∨ q = 5 ∨ q = 6 ∨ q = 7 ∨ q = 8 ∨ q = 9 ∨ q = 10 := by omega
    all_goals first | (cases hv; done) | (injection hsh with hsh; obtain ⟨rfl, rfl⟩ := Prod.mk.inj hsh; injection hv with hv; subst hv)
    · exact q_move ho e0
    · exact q_move ho e0
    · exact q_nil ho (hn 1 (by decide) _ 88 _ rfl rfl)
    · exact q_fld (ti := ti52) (off := 17) (sz := 1) rfl rfl ho (hn 2 (by decide) _ 89 _ rfl rfl)
    · have hk0 := hlim 0 10 rfl (by decide)
      obtain rfl : k = 0 := by omega
      have hT : w' = w.drew := hT
      subst hT
      exact q_load1 (w := w.drew) (ti := ti3) rfl rfl ho (hn 3 (by decide) _ 90 _ rfl rfl) (by rw [cell_of_row w.drew _ _ _ _ _ cp]; rfl)
    · exact q_fld (ti := ti37) (off := 2) (sz := 1) rfl rfl ho e3
    · have hk0 := hlim 0 10 rfl (by decide)
      obtain rfl : k = 0 := by omega
      have hT : w' = w.drew := hT
      subst hT
      exact q_load1 (w := w.drew) (ti := ti3) rfl rfl ho (hn 5 (by decide) _ 92 _ rfl rfl) c3
    · exact q_max (ty := 0) ho (hn 4 (by decide) _ 91 _ rfl rfl) (hn 6 (by decide) _ 93 _ rfl rfl)
    · exact q_nil ho (hn 0 (by decide) _ 87 _ rfl rfl)
    · exact q_fld (ti := ti52) (off := 17) (sz := 1) rfl rfl ho (hn 8 (by decide) _ 95 _ rfl rfl)
  · intro k m dd op hkm hsh a w' hza hT hn hk o hd ho
    match k with
    | 0 =>
      injection hkm with hkm; subst hkm; injection hsh with hsh; obtain ⟨rfl, rfl⟩ := Prod.mk.inj hsh
      have hT : w' = w.drew := hT
      subst hT
      have hst := q_store1 (w := w.drew) (a := a) (u := vI t) (ti := ti3) rfl rfl ho (hn 9 (by decide) _ 96 _ rfl rfl) (hn 7 (by decide) _ 94 _ rfl rfl) rfl rfl (by rw [cell_of_row w.drew _ _ _ _ _ cp]; rfl) (by simp [World.frozen?, show w.drew.heap[p]? = _ from cp])
      rw [setCell_eq_setRow w.drew p 17 _ _ _ _ cp] at hst
      exact exec_skip hst ⟨undef, by rw [hd], rfl⟩
    | _ + 1 => simp at hkm
  · have hT : w' = w.drew.setRow p (spV mv vv (max t te)) := hT
    subst hT
    exact hQ a' hs hd fun t ht => hoth t fun j op => ht j op
/-- What has been seen, written. -/
theorem SpAt.putV {w : World} {L : Lay} {p : Nat} {σ : Sp} {mv : Value} (h : SpAt w L p σ mv) (u : VV) (t : Int) : SpAt (w.setRow p (spV mv u t)) L p { σ with vv := u, tm := t } mv ∧ Kp L.dom w (w.setRow p (spV mv u t)) := by
  have hold : ∀ g t', L.o g = some t' → t' ≠ .sp → (w.setRow p (spV mv u t)).heap[g]? = w.heap[g]? := fun g t' hg hne => setRow_other w p g _ (fun e => hne (by rw [e, h.op] at hg; injection hg with hg; exact hg.symm))
  refine ⟨⟨setRow_heap w p _ _ _ _ h.at', h.op, fun g t' hg => by rw [setRow_size]; exact h.dom g t' hg, h.len, h.nd, ?_⟩, ⟨rfl, rfl, rfl, by rw [setRow_size]; exact Nat.le_refl _, fun g hg hd => setRow_other w p g _ (fun e => hd (by rw [e]; show L.o _ ≠ none; rw [h.op]; simp))⟩⟩
  rcases h.mp with h1 | ⟨h0, m, es, clock, h1, hm⟩
  · exact .inl h1
  · refine .inr ⟨h0, m, es, clock, h1, hm.om, (hold m _ hm.om (by simp)).trans hm.at', hm.keys, hm.nd, hm.bd, fun j e en hje hen => ?_⟩
    obtain ⟨q1, v, u', q2⟩ := hm.ents j e en hje hen
    exact ⟨q1, v, u', q2.keep fun g t' hg ht => ⟨hold g t' hg (by rcases ht with rfl | rfl | rfl <;> simp), hg⟩⟩
theorem withW (v u : VV) (d : Dt) (m : Nat) (hm : m < 16) (hR : d.R = (m : Int)) (hv : vrightP v) (hd : dotB d = true) (hN : d.N = v ⟨m, hm⟩ + 1) (hu : u = vset v m d.N) (w : World) : Calls Try.prog 33 #[.agg (vvs v), .agg d.vs] w fun r w' => r = .returned (tupW u) ∧ Below w.heap.size w w' := by
  refine ((with_ok v d m hm hR hv hd hN u hu).2 w (fun _ => False) _ (fun g hg => hg.elim) (gd_all _ _) (Reps.cons (.agg (xs := (vvs v).toList) (repl_map_v _ (List.all_eq_true.1 (show ((vvs v).toList).all (fun v => v.oneCell') = true from rfl)))) (Reps.cons (.agg (xs := d.vs.toList) (repl_map_v _ (List.all_eq_true.1 (show (d.vs.toList).all (fun v => v.oneCell') = true from rfl)))) (Reps.nil _ _)))).mono fun r w' hh => ?_
  obtain ⟨y, S', rfl, hg, ys, rfl, hys⟩ := hh
  obtain ⟨z1, zs, rfl, h1, hys⟩ := hys.uncons
  obtain ⟨z2, zs2, rfl, h2, hys⟩ := hys.uncons
  have := hys.unnil
  subst this
  rw [rep_v h2, rep_agg_v (xs := (vvs u).toList) h1]
  exact ⟨rfl, hg.below⟩
end Go.Proofs.Ytdnaadcbimbfmaa
set_option linter.unusedSimpArgs false
set_option linter.unusedVariables false
namespace Go.Proofs.Ytdnaadcbimbfmaa
open Go Go.RowKit Am

set_option maxHeartbeats 4000000 in
set_option maxRecDepth 100000 in
/-- Apply of what is ready. -/
theorem apply_ok (w : World) (L : Lay) (p : Nat) (σ : Sp) (mv : Value) (e : Ev) (h : SpAt w L p σ mv) (hrd : ReadyP σ.vv e) (hvv : vrightP σ.vv)
    (hE : ∀ (i : Nat) (en : Ent), (σ.at e.op.key).es[i]? = some en → EntOK en ∧ (∀ x ∈ en.lv, x.dot ≠ e.dot) ∧ en.lv.length ≤ 400000 ∧ en.dd.length ≤ 400000) :
    Calls Try.prog 12 #[.pointer (some ⟨p, 0, none⟩), .agg e.vs] w fun r w' => ∃ L' mv' i, r = .returned (.int .i64 0) ∧ (σ.at e.op.key).ks[i]? = some e.op.key ∧ SpAt w' L' p ((σ.at e.op.key).app i e) mv' ∧ Ext L L' w.heap.size ∧ Kp L.dom w w' := by
  refine calls_of_wp Try.func12 rfl ?_
  rw [Try.ntmps12]
  obtain ⟨a0, ha0⟩ : ∃ a0 : Act, a0 = { tmps := (#[.pointer (some ⟨p, 0, none⟩), .agg e.vs] : Array Value) ++ Array.replicate (97 - (#[.pointer (some ⟨p, 0, none⟩), .agg e.vs] : Array Value).size) undef, defers := [] } := ⟨_, rfl⟩
  rw [← ha0]
  obtain ⟨q0, q1, q2, q3⟩ := act2 (.pointer (some ⟨p, 0, none⟩)) (.agg e.vs) 97 (by decide) a0 ha0
  have hs0 : AS 97 w L p [(0, .v (.pointer (some ⟨p, 0, none⟩))), (1, .agg e.ac)] (fun _ => False) L σ mv a0 w := by
    refine AS.start (xs := []) (args := []) q0 q1 h fun t x ht => ?_
    simp only [lk] at ht
    split at ht
    · rename_i h0; injection ht with ht; subst ht; subst h0
      exact ⟨by omega, by rw [q2]; exact srep_of_rep (.c (.v _ rfl))⟩
    split at ht
    · rename_i h0; injection ht with ht; subst ht; subst h0
      exact ⟨by omega, by rw [q3]; exact srep_of_rep (.agg (xs := e.vs.toList) (repl_map_v e.vs.toList (xvone e)))⟩
    · cases ht
  clear ha0
  have hdef : ∀ {sl S L' σ' mv' a' w'}, AS 97 w L p sl S L' σ' mv' a' w' → a'.defers = [] := fun h => h.hi.defers
  -- the event's box
  refine wp_seq (hs0.pc (E := { n := 97 }) [(4, aI 0), (3, .ept e.ac 0), (0, .v (.pointer (some ⟨p, 0, none⟩)))] rfl (fun F C D hF hC => ?_) fun S1 a1 w1 h1 => ?_)
  · cbv
    exact ⟨100, (le_of [] (by simp [leSl, leOb, injK, memK, parK, noTup, lk, rn0, rnA, plain] <;> first | rfl | decide | (repeat (first | rfl | trivial | refine And.intro ?_ ?_))))⟩
  clear hs0
  -- may it be seen?
  refine wp_seq (wp_block (wp_seq (h1.pc (E := { n := 97 }) [(8, aB false), (4, aI 0), (3, .ept e.ac 0), (0, .v (.pointer (some ⟨p, 0, none⟩)))] rfl (fun F C D hF hC => ?_) fun S2 a2 w2 h2 => ?_)))
  · have kr := hC _ _ _ (right_ok e true (by simp [hrd.rt]))
    have nilp := hC _ _ _ (show CSem Try.prog (.nilp 25) [] (.pure []) from (show Try.prog.underlying 25 = _ from by kernel_rfl))
    have tb := bnotF hF true
    cbv
    refine ⟨nilp, ?_⟩
    cbv
    refine ⟨_, kr, ?_⟩
    cbv
    rw [tb]
    exact ⟨100, (le_of [] (by simp [leSl, leOb, injK, memK, parK, noTup, lk, rn0, rnA, plain] <;> first | rfl | decide | (repeat (first | rfl | trivial | refine And.intro ?_ ?_))))⟩
  have t8 : a2.eval (.tmp 8) = .bool false := h2.val rfl
  refine wp_cond_false t8 (wp_seq (wp_region_list ?_))
  -- Ready is called
  refine h2.pre (E := { n := 97 }) 2 [(18, .agg e.ac), (17, .v (.pointer (some ⟨p, 0, none⟩))), (4, aI 0), (3, .ept e.ac 0), (0, .v (.pointer (some ⟨p, 0, none⟩)))] rfl (fun F C hF hC => ?_) fun S3 a3 w3 h3 => ?_
  · cbv
    exact ⟨100, (le_of [] (by simp [leSl, leOb, injK, memK, parK, noTup, lk, rn0, rnA, plain] <;> first | rfl | decide | (repeat (first | rfl | trivial | refine And.intro ?_ ?_))))⟩
  clear h1 h2
  obtain ⟨r18, e18⟩ : a3.eval (.tmp 18) = .agg e.vs ∧ True := ⟨rep_agg_v (xs := e.vs.toList) (h3.hi.slots 18 _ rfl).2, trivial⟩
  refine callW [.pointer (some ⟨p, 0, none⟩), .agg e.vs] rfl rfl (enterT Try.func11 (by kernel_rfl) rfl) (by simp [h3.val (t := 17) rfl, r18]) ?_
  refine (readyW (w := w3) h3.sp hvv e true (by simp [hrd])).mono ?_
  rintro r w4 ⟨rfl, hb4⟩
  refine ⟨_, rfl, ?_⟩
  have h4 := (h3.bw hb4).put (d := 19) (by decide) (aB true) (srep_of_rep (.c (.v _ rfl)))
  clear h3
  refine h4.pcl (E := { n := 97 }) [(16, aB false), (4, aI 0), (3, .ept e.ac 0), (0, .v (.pointer (some ⟨p, 0, none⟩)))] rfl (fun F C hF hC => ?_) fun S5 a5 w5 h5 => ?_
  · have tb := bnotF hF true
    cbv
    rw [tb]
    exact ⟨100, (le_of [] (by simp [leSl, leOb, injK, memK, parK, noTup, lk, rn0, rnA, plain] <;> first | rfl | decide | (repeat (first | rfl | trivial | refine And.intro ?_ ?_))))⟩
  clear h4 e18 r18
  have t16 : a5.eval (.tmp 16) = .bool false := h5.val rfl
  refine wp_cond_false t16 (wp_skip ?_)
  clear t16 t8
  -- the entry
  refine wp_seq (wp_region_list ?_)
  refine h5.pre (E := { n := 97 }) 4 [(24, aS e.op.key), (21, .v (.pointer (some ⟨p, 0, none⟩))), (4, aI 0), (3, .ept e.ac 0), (0, .v (.pointer (some ⟨p, 0, none⟩)))] rfl (fun F C hF hC => ?_) fun S6 a6 w6 h6 => ?_
  · cbv
    exact ⟨100, (le_of [] (by simp [leSl, leOb, injK, memK, parK, noTup, lk, rn0, rnA, plain] <;> first | rfl | decide | (repeat (first | rfl | trivial | refine And.intro ?_ ?_))))⟩
  clear h5
  refine callW [.pointer (some ⟨p, 0, none⟩), .string e.op.key] rfl rfl (enterT Try.func27 (by kernel_rfl) rfl) (by simp [h6.val (t := 21) rfl, h6.val (t := 24) rfl]) ?_
  refine (at_ok w6 _ p σ _ e.op.key h6.sp).mono ?_
  rintro r w7 ⟨L1, mv1, i, rfl, hsp1, hki, hx1, hk1⟩
  refine ⟨_, rfl, ?_⟩
  have hil : i < (σ.at e.op.key).es.length := by rw [hsp1.len]; exact (List.getElem?_eq_some_iff.1 hki).1
  obtain ⟨en, hen⟩ : ∃ en, (σ.at e.op.key).es[i]? = some en := ⟨_, List.getElem?_eq_getElem hil⟩
  obtain ⟨hok, hnd, hll, hdl⟩ := hE i en hen
  have h7 := (h6.wr hsp1 hk1 hx1).put (d := 25) (by decide) (.v (.pointer (some ⟨L1.pt i, 0, none⟩))) (srep_of_rep (.c (.v _ rfl)))
  clear h6
  obtain ⟨A, hA⟩ : ∃ A, A = L1.pt i := ⟨_, rfl⟩
  rw [← hA] at h7 ⊢
  refine h7.pcl (E := { n := 97 }) [(5, .v (.pointer (some ⟨A, 0, none⟩))), (4, aI 0), (3, .ept e.ac 0), (0, .v (.pointer (some ⟨p, 0, none⟩)))] rfl (fun F C hF hC => ?_) fun S8 a8 w8 h8 => ?_
  · cbv
    exact ⟨100, (le_of [] (by simp [leSl, leOb, injK, memK, parK, noTup, lk, rn0, rnA, plain] <;> first | rfl | decide | (repeat (first | rfl | trivial | refine And.intro ?_ ?_))))⟩
  clear h7
  -- the items
  refine wp_seq (wp_seq (wp_region_list ?_))
  refine h8.pre (E := { n := 97 }) 3 [(28, .v (.pointer (some ⟨A, 0, none⟩))), (5, .v (.pointer (some ⟨A, 0, none⟩))), (4, aI 0), (3, .ept e.ac 0), (0, .v (.pointer (some ⟨p, 0, none⟩)))] rfl (fun F C hF hC => ?_) fun S9 a9 w9 h9 => ?_
  · cbv
    exact ⟨100, (le_of [] (by simp [leSl, leOb, injK, memK, parK, noTup, lk, rn0, rnA, plain] <;> first | rfl | decide | (repeat (first | rfl | trivial | refine And.intro ?_ ?_))))⟩
  clear h8
  obtain ⟨ve, ue, hent⟩ := h9.sp.ent hen
  rw [← hA] at hent
  refine callW [.pointer (some ⟨A, 0, none⟩)] rfl rfl (enterT Try.func21 (by kernel_rfl) rfl) (by simp [h9.val (t := 28) rfl]) ?_
  refine (itemsEW hent.bagLv.1 (by omega)).mono ?_
  rintro r w10 ⟨z, rfl, hb10, hown⟩
  refine ⟨_, rfl, ?_⟩
  obtain ⟨S10, h10⟩ := h9.row (d := 29) hb10 hown itvE_ac itvE_one itE_len (by decide)
  clear h9 hown hb10 hent
  obtain ⟨rows, hrows⟩ : ∃ rows, rows = en.lv.map itE := ⟨_, rfl⟩
  obtain ⟨n', hn'⟩ : ∃ n' : Int, n' = (en.lv.length : Int) := ⟨_, rfl⟩
  rw [← hrows] at h10
  refine h10.pcl (E := { n := 97 }) [(31, aI 0), (30, aI n'), (29, .sl rows), (5, .v (.pointer (some ⟨A, 0, none⟩))), (4, aI 0), (3, .ept e.ac 0), (0, .v (.pointer (some ⟨p, 0, none⟩)))] rfl (fun F C hF hC => ?_) fun S11 a11 w11 h11 => ?_
  · have tl : F .len rows = n' := by rw [lenF hF, hrows, List.length_map, hn']
    cbv
    rw [tl]
    exact ⟨100, (le_of [] (by simp [leSl, leOb, injK, memK, parK, noTup, lk, rn0, rnA, plain] <;> first | rfl | decide | (repeat (first | rfl | trivial | refine And.intro ?_ ?_))))⟩
  clear h10
  have hset0 : (σ.at e.op.key).set i ⟨(foldA e en 0).1, (foldA e en 0).2⟩ = σ.at e.op.key := by
    unfold Sp.set
    have : (σ.at e.op.key).es.set i en = (σ.at e.op.key).es := by
      apply List.ext_getElem?
      intro j
      by_cases hj : i = j
      · subst hj; rw [List.getElem?_set_self hil, hen]
      · rw [List.getElem?_set_ne hj]
    show { σ.at e.op.key with es := (σ.at e.op.key).es.set i en } = _
    rw [this]
  rw [← hset0] at h11
  -- the loop
  refine wp_block (loop_by (fun k a w' => k ≤ en.lv.length ∧ ∃ S L' mv' k', k' = (k : Int) ∧ L'.pt i = A ∧ AS 97 w L p [(31, aI k'), (30, aI n'), (29, .sl rows), (5, .v (.pointer (some ⟨A, 0, none⟩))), (4, aI 0), (3, .ept e.ac 0), (0, .v (.pointer (some ⟨p, 0, none⟩)))] S L' ((σ.at e.op.key).set i ⟨(foldA e en k).1, (foldA e en k).2⟩) mv' a w') (fun k => en.lv.length - k) 0 ⟨Nat.zero_le _, S11, L1, mv1, 0, rfl, hA.symm, h11⟩ fun k aa ww hI => ?_)
  clear h11 hset0
  obtain ⟨hk, S, L2, mv2, k', ek, hpt, hs⟩ := hI
  have FI := foldI e en hok k hk
  by_cases hkl : k < en.lv.length
  · obtain ⟨x, hx⟩ : ∃ x, en.lv[k]? = some x := ⟨_, List.getElem?_eq_getElem hkl⟩
    have hrow : rows[k]? = some (itE x) := by rw [hrows, List.getElem?_map, hx]; rfl
    have hst := foldA_succ e en k x hx
    obtain ⟨k2, ek2⟩ : ∃ k2 : Int, k2 = ((k + 1 : Nat) : Int) := ⟨_, rfl⟩
    refine wp_seq (hs.pc (E := { n := 97 }) [(32, aB true), (31, aI k'), (30, aI n'), (29, .sl rows), (5, .v (.pointer (some ⟨A, 0, none⟩))), (4, aI 0), (3, .ept e.ac 0), (0, .v (.pointer (some ⟨p, 0, none⟩)))] rfl (fun F C D hF hC => ?_) fun S1 a1 w1 h1 => ?_)
    · have tl : F .cmp .lss k' n' = true := (ltF hF k en.lv.length k' n' ek hn').2 hkl
      cbv
      rw [tl]
      exact ⟨100, (le_of [] (by simp [leSl, leOb, injK, memK, parK, noTup, lk, rn0, rnA, plain] <;> first | rfl | decide | (repeat (first | rfl | trivial | refine And.intro ?_ ?_))))⟩
    refine wp_seq (wp_cond_true (h1.val (t := 32) rfl) (wp_skip ?_))
    refine wp_seq (wp_block (wp_seq (h1.pc (E := { n := 97 }) [(7, .ept (itE x) 0), (31, aI k'), (30, aI n'), (29, .sl rows), (5, .v (.pointer (some ⟨A, 0, none⟩))), (4, aI 0), (3, .ept e.ac 0), (0, .v (.pointer (some ⟨p, 0, none⟩)))] rfl (fun F C D hF hC => ?_) fun S2 a2 w2 h2 => ?_)))
    · cbv
      refine ⟨k, _, ek, hrow, rfl, ?_⟩
      cbv
      exact ⟨100, (le_of [] (by simp [leSl, leOb, injK, memK, parK, noTup, lk, rn0, rnA, plain] <;> first | rfl | decide | (repeat (first | rfl | trivial | refine And.intro ?_ ?_))))⟩
    clear h1 hs
    obtain ⟨r, hr⟩ : ∃ r, r = endsB e x := ⟨_, rfl⟩
    obtain ⟨nr, hnr⟩ : ∃ nr, nr = !r := ⟨_, rfl⟩
    refine wp_seq (wp_seq (h2.pc (E := { n := 97 }) [(39, aB nr), (7, .ept (itE x) 0), (31, aI k'), (30, aI n'), (29, .sl rows), (5, .v (.pointer (some ⟨A, 0, none⟩))), (4, aI 0), (3, .ept e.ac 0), (0, .v (.pointer (some ⟨p, 0, none⟩)))] rfl (fun F C D hF hC => ?_) fun S3 a3 w3 h3 => ?_))
    · have kd := hC _ _ _ (ends_ok e x r hr)
      have tn := (bnotF hF r).trans hnr.symm
      cbv
      refine ⟨_, kd, ?_⟩
      cbv
      rw [tn]
      exact ⟨100, (le_of [] (by simp [leSl, leOb, injK, memK, parK, noTup, lk, rn0, rnA, plain] <;> first | rfl | decide | (repeat (first | rfl | trivial | refine And.intro ?_ ?_))))⟩
    clear h2
    have t39 : a3.eval (.tmp 39) = .bool nr := h3.val rfl
    cases r with
    | false =>
      subst hnr
      refine wp_cond_true t39 (wp_exit ?_)
      refine h3.pc (E := { n := 97 }) [(31, aI k2), (30, aI n'), (29, .sl rows), (5, .v (.pointer (some ⟨A, 0, none⟩))), (4, aI 0), (3, .ept e.ac 0), (0, .v (.pointer (some ⟨p, 0, none⟩)))] rfl (fun F C D hF hC => ?_) fun S4 a4 w4 h4 => ?_
      · have tl := (incF hF ek (by omega)).trans ek2.symm
        cbv
        rw [tl]
        exact ⟨100, (le_of [] (by simp [leSl, leOb, injK, memK, parK, noTup, lk, rn0, rnA, plain] <;> first | rfl | decide | (repeat (first | rfl | trivial | refine And.intro ?_ ?_))))⟩
      rw [show (⟨(foldA e en k).1, (foldA e en k).2⟩ : Ent) = ⟨(foldA e en (k + 1)).1, (foldA e en (k + 1)).2⟩ by rw [hst, stepA, if_neg (by rw [← hr]; simp)]] at h4
      exact ⟨k + 1, ⟨hkl, S4, L2, mv2, k2, ek2, hpt, h4⟩, by omega⟩
    | true =>
      subst hnr
      refine wp_cond_false t39 (wp_skip ?_)
      have he : endsB e x = true := hr.symm
      rw [stepA, if_pos he] at hst
      obtain ⟨ad, had, hcell⟩ := h3.cells (t := 7) (itvE x) rfl
      refine wp_seq (rem_region A ad x.dot rfl (by kernel_rfl) h3.hi.size (h3.val rfl) had (it_c0 hcell) _ (remW h3.sp hil hpt FI.lr (FI.rest k x (Nat.le_refl _) hx) (by have := foldA_len e en k hk; omega)) fun a4 v4 w4 hz4 hd4 hJ ho4 => ?_)
      obtain ⟨L3, hpt3, hsp3, hx3, hk3⟩ := hJ
      have h4 := (h3.reg hz4 hd4 remShape rfl ho4).wr hsp3 hk3 hx3
      clear h3
      obtain ⟨kk, hkk⟩ : ∃ kk, kk = decide (x.op.kind = 9) := ⟨_, rfl⟩
      refine wp_seq (h4.pc (E := { n := 97 }) [(50, aB kk), (7, .ept (itE x) 0), (31, aI k'), (30, aI n'), (29, .sl rows), (5, .v (.pointer (some ⟨A, 0, none⟩))), (4, aI 0), (3, .ept e.ac 0), (0, .v (.pointer (some ⟨p, 0, none⟩)))] rfl (fun F C D hF hC => ?_) fun S5 a5 w5 h5 => ?_)
      · have tk : F .cmp .eql x.op.kind 9 = kk := by rw [hF, hkk]; rfl
        cbv
        exact ⟨100, le_of [] (by simp [leSl, leOb, injK, memK, parK, noTup, lk, rn0, rnA, plain] <;> exact ⟨tk, rfl, rfl⟩)⟩
      clear h4
      have t50 : a5.eval (.tmp 50) = .bool kk := h5.val rfl
      cases kk with
      | false =>
        refine wp_cond_false t50 (wp_skip ?_)
        refine h5.pc (E := { n := 97 }) [(31, aI k2), (30, aI n'), (29, .sl rows), (5, .v (.pointer (some ⟨A, 0, none⟩))), (4, aI 0), (3, .ept e.ac 0), (0, .v (.pointer (some ⟨p, 0, none⟩)))] rfl (fun F C D hF hC => ?_) fun S6 a6 w6 h6 => ?_
        · have tl := (incF hF ek (by omega)).trans ek2.symm
          cbv
          rw [tl]
          exact ⟨100, (le_of [] (by simp [leSl, leOb, injK, memK, parK, noTup, lk, rn0, rnA, plain] <;> first | rfl | decide | (repeat (first | rfl | trivial | refine And.intro ?_ ?_))))⟩
        rw [show (⟨delD dE (foldA e en k).1 x.dot, (foldA e en k).2⟩ : Ent) = ⟨(foldA e en (k + 1)).1, (foldA e en (k + 1)).2⟩ by rw [hst, if_neg (by simpa using hkk.symm)]] at h6
        exact ⟨k + 1, ⟨hkl, S6, L3, _, k2, ek2, hpt3, h6⟩, by omega⟩
      | true =>
        have hk9 : x.op.kind = 9 := by simpa using hkk.symm
        obtain ⟨ad5, had5, hcell5⟩ := h5.cells (t := 7) (itvE x) rfl
        obtain ⟨ae5, hae5, hcel5⟩ := h5.cells (t := 3) e.vs.toList rfl
        refine wp_cond_true t50 (pud_region A ad5 ae5 x e.dot rfl (by kernel_rfl) h5.hi.size (h5.val rfl) had5 hae5 (it_c0 hcell5) (it_c2 hcell5) (ev_c0 hcel5) _ (pudW h5.sp hil hpt3 FI.dr (fun z hz => ?_) (by have := FI.dlen; omega)) fun a6 v6 w6 hz6 hd6 hJ ho6 => ?_)
        · intro hd
          rcases FI.dsub z hz with q | ⟨j, y, q1, q2, q3, q4⟩
          · exact hok.ap x (List.mem_of_getElem? hx) z q hd.symm
          · have := lv_inj hok q2 hx (q4.symm.trans hd)
            omega
        obtain ⟨L4, hpt4, hsp4, hx4, hk4⟩ := hJ
        have h6 := (h5.reg hz6 hd6 pudShape rfl ho6).wr hsp4 hk4 hx4
        clear h5
        refine h6.pc (E := { n := 97 }) [(31, aI k2), (30, aI n'), (29, .sl rows), (5, .v (.pointer (some ⟨A, 0, none⟩))), (4, aI 0), (3, .ept e.ac 0), (0, .v (.pointer (some ⟨p, 0, none⟩)))] rfl (fun F C D hF hC => ?_) fun S7 a7 w7 h7 => ?_
        · have tl := (incF hF ek (by omega)).trans ek2.symm
          cbv
          rw [tl]
          exact ⟨100, (le_of [] (by simp [leSl, leOb, injK, memK, parK, noTup, lk, rn0, rnA, plain] <;> first | rfl | decide | (repeat (first | rfl | trivial | refine And.intro ?_ ?_))))⟩
        rw [show (⟨delD dE (foldA e en k).1 x.dot, insD dT (foldA e en k).2 (x, e.dot)⟩ : Ent) = ⟨(foldA e en (k + 1)).1, (foldA e en (k + 1)).2⟩ by rw [hst, if_pos hk9]] at h7
        exact ⟨k + 1, ⟨hkl, S7, L4, _, k2, ek2, hpt4, h7⟩, by omega⟩
  · have hke : k = en.lv.length := by omega
    refine wp_seq (hs.pc (E := { n := 97 }) [(32, aB false), (31, aI k'), (30, aI n'), (29, .sl rows), (5, .v (.pointer (some ⟨A, 0, none⟩))), (4, aI 0), (3, .ept e.ac 0), (0, .v (.pointer (some ⟨p, 0, none⟩)))] rfl (fun F C D hF hC => ?_) fun S1 a1 w1 h1 => ?_)
    · have tl : F .cmp .lss k' n' = false := by rw [Bool.eq_false_iff]; exact fun hh => hkl ((ltF hF k en.lv.length k' n' ek hn').1 hh)
      cbv
      rw [tl]
      exact ⟨100, (le_of [] (by simp [leSl, leOb, injK, memK, parK, noTup, lk, rn0, rnA, plain] <;> first | rfl | decide | (repeat (first | rfl | trivial | refine And.intro ?_ ?_))))⟩
    refine wp_seq (wp_cond_false (h1.val (t := 32) rfl) (wp_exit ?_))
    clear hs
    subst hke
    obtain ⟨rl, rd, hF9⟩ : ∃ rl rd, foldA e en en.lv.length = (rl, rd) := ⟨_, _, rfl⟩
    obtain ⟨rr, hrr⟩ : ∃ rr, rr = addsB e.op.kind := ⟨_, rfl⟩
    refine wp_seq (wp_seq (h1.pc (E := { n := 97 }) [(66, aB rr), (5, .v (.pointer (some ⟨A, 0, none⟩))), (4, aI 0), (3, .ept e.ac 0), (0, .v (.pointer (some ⟨p, 0, none⟩)))] rfl (fun F C D hF hC => ?_) fun S2 a2 w2 h2 => ?_))
    · have kr := hC _ _ _ (adds_ok e.op.kind rr hrr)
      cbv
      refine ⟨_, kr, ?_⟩
      cbv
      exact ⟨100, (le_of [] (by simp [leSl, leOb, injK, memK, parK, noTup, lk, rn0, rnA, plain] <;> first | rfl | decide | (repeat (first | rfl | trivial | refine And.intro ?_ ?_))))⟩
    clear h1
    have t66 : a2.eval (.tmp 66) = .bool rr := h2.val rfl
    show Code.wp Try.prog (Code.cond _ _ _) _ a2 w2
    have hap : (σ.at e.op.key).set i (applyE e en) = (σ.at e.op.key).set i ⟨if rr = true then insD dE rl e else rl, rd⟩ := by
      unfold applyE; rw [hF9, hrr]
    have FI' : FoldI e en en.lv.length := FI
    have hrl : rl = (foldA e en en.lv.length).1 := by rw [hF9]
    refine wp_mono (Q := fun ex a' w' => ex = .normal ∧ ∃ S L' mv', AS 97 w L p [(4, aI 0), (3, .ept e.ac 0), (0, .v (.pointer (some ⟨p, 0, none⟩)))] S L' ((σ.at e.op.key).set i (applyE e en)) mv' a' w') ?_ fun ex a3 w3 hh => ?_
    · cases rr with
      | false =>
        refine wp_cond_false t66 (wp_skip ⟨rfl, S2, L2, mv2, ?_⟩)
        rw [hap, if_neg (by simp)]
        rw [hF9] at h2
        exact (h2.dr rfl).dr rfl
      | true =>
        obtain ⟨ae, hae, hcel⟩ := h2.cells (t := 3) e.vs.toList rfl
        refine wp_cond_true t66 (pul_region A ae e rfl (by kernel_rfl) h2.hi.size (h2.val rfl) hae (ev_c0 hcel) hcel _ (pulW h2.sp hil hpt FI.lr (fun y hy => hnd y (FI.lsub y hy)) (by have := foldA_len e en en.lv.length (Nat.le_refl _); omega)) fun a6 v6 w6 hz6 hd6 hJ ho6 => ?_)
        obtain ⟨L4, hpt4, hsp4, hx4, hk4⟩ := hJ
        have h6 := (h2.reg hz6 hd6 pulShape rfl ho6).wr hsp4 hk4 hx4
        refine ⟨rfl, S2, L4, mv2, ?_⟩
        rw [hap, if_pos rfl]
        rw [hF9] at h6
        exact (h6.dr rfl).dr rfl
    · obtain ⟨rfl, S3, L3, mv3, h3⟩ := hh
      clear h2
      obtain ⟨ae, hae, hcel⟩ := h3.cells (t := 3) e.vs.toList rfl
      have hsv : ((σ.at e.op.key).set i (applyE e en)).vv = σ.vv := by
        show (σ.at e.op.key).vv = σ.vv
        unfold Sp.at; split <;> rfl
      have hst : ((σ.at e.op.key).set i (applyE e en)).tm = σ.tm := by
        show (σ.at e.op.key).tm = σ.tm
        unfold Sp.at; split <;> rfl
      have hat := h3.sp.at'
      rw [hsv, hst] at hat
      obtain ⟨m, hm⟩ : ∃ m, m = e.dot.R.toNat := ⟨_, rfl⟩
      have r0 := hrd.rt.r0
      have r1 := hrd.rt.r1
      have hm16 : m < 16 := by omega
      have hnx : e.dot.N = σ.vv ⟨m, hm16⟩ + 1 := by
        have := hrd.nx
        unfold vget at this
        rw [dif_pos (by omega)] at this
        subst hm; exact this
      have hdot : dotB e.dot = true := by simp [dotB, replica, r0, r1, hrd.rt.n0, hrd.rt.n1]
      obtain ⟨u, hu⟩ : ∃ u, u = vset σ.vv m e.dot.N := ⟨_, rfl⟩
      show Code.wp Try.prog (Code.seq _ _) _ a3 w3
      refine wp_seq (vv_region p ae σ.vv u e.dot mv3 σ.tm rfl (by kernel_rfl) h3.hi.size (h3.val rfl) hae (ev_c0 hcel) hat ((withW σ.vv u e.dot m hm16 (by omega) hvv hdot hnx hu w3.drew)) fun a4 w4 hz4 hd4 hb4 ho4 => ?_)
      have hb4' : Below w3.heap.size w3 w4 := (Below.refl _ _).drew.trans hb4
      have h4 := (h3.reg hz4 hd4 vvShape rfl ho4).bw hb4'
      obtain ⟨q4, q5⟩ := h4.sp.putV u σ.tm
      have h5 := h4.wr q4 q5 (Ext.refl _ _)
      clear h4 h3
      obtain ⟨ae', hae', hcel'⟩ := h5.cells (t := 3) e.vs.toList rfl
      show Code.wp Try.prog (Code.seq _ _) _ _ _
      refine wp_seq (tm_region p ae' u mv3 σ.tm e.time rfl (by kernel_rfl) h5.hi.size (h5.val rfl) hae' (hcel' 2 _ rfl) h5.sp.at' fun a6 hz6 hd6 ho6 => ?_)
      have h6 := (h5.reg hz6 hd6 tmShape rfl ho6).bw ((Below.refl _ _).drew)
      obtain ⟨q6, q7⟩ := h6.sp.putV u (max σ.tm e.time)
      have h7 := h6.wr q6 q7 (Ext.refl _ _)
      clear h6 h5
      have happ : { (σ.at e.op.key).set i (applyE e en) with vv := u, tm := max σ.tm e.time } = (σ.at e.op.key).app i e := by
        unfold Sp.app Sp.set
        rw [hen, hu]
        have e1 : (σ.at e.op.key).vv = σ.vv := hsv
        have e2 : (σ.at e.op.key).tm = σ.tm := hst
        rw [e1, e2, hm]
        rfl
      show Code.wp Try.prog (Code.seq _ _) _ _ _
      refine wp_seq (h7.pc (E := { n := 97 }) [(4, aI 0)] rfl (fun F C D hF hC => ?_) fun S8 a8 w8 h8 => ?_)
      · cbv
        exact ⟨100, (le_of [] (by simp [leSl, leOb, injK, memK, parK, noTup, lk, rn0, rnA, plain] <;> first | rfl | decide | (repeat (first | rfl | trivial | refine And.intro ?_ ?_))))⟩
      have t4 : a8.tmps.getD 4 undef = .int .i64 0 := h8.val (t := 4) rfl
      rw [happ] at h8
      refine wp_ret ⟨hdef h8, .int .i64 0, ?_, L3, mv3, i, rfl, hki, h8.sp, h8.ex, h8.kp⟩
      rw [results_tmp rfl, t4]
end Go.Proofs.Ytdnaadcbimbfmaa
set_option linter.unusedSimpArgs false
set_option linter.unusedVariables false
namespace Go.Proofs.Ytdnaadcbimbfmaa
open Go Go.RowKit Am

/-! ### Calls at a space in memory -/
theorem SpAt.call {w : World} {L : Lay} {p : Nat} {σ : Sp} {mv : Value} (h : SpAt w L p σ mv) {f : Nat} {args : List AV} {xs : List Value} {r : List AV} (hc : CSem Try.prog (.fn f) (.ept (spA (mapA σ) σ.vv σ.tm) 0 :: args) (.pure r)) (hx : ∀ S, Reps w S args xs) :
    Calls Try.prog f (Value.pointer (some ⟨p, 0, none⟩) :: xs).toArray w fun e w' => ∃ ys S', e = .returned (tupV ys) ∧ Below w.heap.size w w' ∧ Reps w' S' r ys := by
  refine (hc.2 w L.dom _ (fun g hg => ?_) (gd_all _ _) (Reps.cons (h.rep fun g hg => hg) (hx _))).mono fun e w' hh => ?_
  · cases ho : L.o g with
    | none => exact absurd ho hg
    | some t => exact h.dom g t ho
  · obtain ⟨y, S', rfl, hg, ys, rfl, hys⟩ := hh
    exact ⟨ys, S', rfl, hg.below, hys⟩
theorem reps_v1 {w : World} {S : Nat → Prop} {v : Value} {ys : List Value} (h : Reps w S [.v v] ys) : ys = [v] := by
  obtain ⟨z, rfl, hz⟩ := reps_one h
  rw [rep_v hz]
theorem SpAt.callV {w : World} {L : Lay} {p : Nat} {σ : Sp} {mv : Value} (h : SpAt w L p σ mv) {f : Nat} {args : List AV} {xs : List Value} {v : Value} (hc : CSem Try.prog (.fn f) (.ept (spA (mapA σ) σ.vv σ.tm) 0 :: args) (.pure [.v v])) (hx : ∀ S, Reps w S args xs) :
    Calls Try.prog f (Value.pointer (some ⟨p, 0, none⟩) :: xs).toArray w fun e w' => e = .returned v ∧ Below w.heap.size w w' :=
  (h.call hc hx).mono fun e w' ⟨ys, S', he, hb, hr⟩ => by
    rw [reps_v1 hr] at he
    exact ⟨he, hb⟩
theorem SpAt.vvW {w : World} {L : Lay} {p : Nat} {σ : Sp} {mv : Value} (h : SpAt w L p σ mv) : Calls Try.prog 10 #[.pointer (some ⟨p, 0, none⟩)] w fun e w' => e = .returned (.agg (vvs σ.vv)) ∧ Below w.heap.size w w' :=
  (h.call (vv_ok (mapA σ) σ.vv σ.tm) (fun S => Reps.nil _ _)).mono fun e w' ⟨ys, S', he, hb, hr⟩ => by
    obtain ⟨z, rfl, hz⟩ := reps_one hr
    have : z = .agg (vvs σ.vv) := rep_agg_v (xs := (vvs σ.vv).toList) hz
    subst this
    exact ⟨he, hb⟩
theorem SpAt.encW {w : World} {L : Lay} {p : Nat} {σ : Sp} {mv : Value} (h : SpAt w L p σ mv) {got : List Ev} (hg : SpG σ got) (hl : got.length ≤ 1000) : ∃ s : ByteArray, ∀ {w : World} {L : Lay} {mv : Value}, SpAt w L p σ mv → Calls Try.prog 9 #[.pointer (some ⟨p, 0, none⟩)] w fun e w' => e = .returned (.string s) ∧ Below w.heap.size w w' := by
  obtain ⟨A, D, hU, hA, hD, oA, oD⟩ := hg.all hl
  exact ⟨_, fun h => h.callV (encode_ok σ A D hU hg.len hA hD oA oD _ rfl) (fun S => Reps.nil _ _)⟩
theorem AS.addV {n p : Nat} {w0 w : World} {L0 L : Lay} {sl : List (Nat × AV)} {S : Nat → Prop} {σ : Sp} {mv : Value} {a : Act} (h : AS n w0 L0 p sl S L σ mv a w) {d : Nat} (hd : d < n) {v : Value} (h1 : v.oneCell' = true) (hv : a.eval (.tmp d) = v) : AS n w0 L0 p ((d, .v v) :: sl) S L σ mv a w :=
  ⟨(PS.addV (w0 := w) (S0 := S) ⟨h.hi, gr_below h.hi.lt (Below.refl _ _)⟩ hd h1 hv).hi, h.sp, h.ap, h.kp, h.ex⟩
theorem reps_ev {w : World} {S : Nat → Prop} (e : Ev) : Reps w S [.agg e.ac] [.agg e.vs] := Reps.cons (rep_ev e) (Reps.nil _ _)
/-! ### New -/
set_option maxHeartbeats 4000000 in
set_option maxRecDepth 100000 in
theorem newW_ok (w : World) : Calls Try.prog 8 #[] w fun e w' => e = .returned (.pointer (some ⟨w.heap.size, 0, none⟩)) ∧ w' = w.alloc (.cells (spV (.map none) (fun _ => 0) 0) 52) := by
  go_enter Try.func8, Try.ntmps8
  go_wp2
  go_ret
  exact ⟨rfl, rfl⟩
def layP (p : Nat) : Lay := ⟨fun g => if g = p then some .sp else none, fun _ => 0⟩
theorem spAt_new (w : World) : SpAt (w.alloc (.cells (spV (.map none) (fun _ => 0) 0) 52)) (layP w.heap.size) w.heap.size sp0 (.map none) := by
  refine ⟨heap_alloc_new w _, if_pos rfl, fun g t hg => ?_, rfl, List.nodup_nil, .inl ⟨rfl, rfl⟩⟩
  have hg : (if g = w.heap.size then some Tag.sp else none) = some t := hg
  split at hg
  · simp; omega
  · cases hg
/-! ### Apply, of what isn't ready -/
set_option maxRecDepth 100000 in
set_option maxHeartbeats 4000000 in
theorem applyN_ok (mA : AV) (hmA : plain mA = mA) (v : VV) (t : Int) (hv : vrightP v) (e : Ev) (hn : ¬ ReadyP v e) : ∃ x : Int, x ≠ 0 ∧ CSem Try.prog (.fn 12) [.ept (spA mA v t) 0, .agg e.ac] (.pure [aI x]) := by
  obtain ⟨rr, hrr⟩ : ∃ rr : Bool, (rr = true ↔ RightP e) := ⟨@decide (RightP e) (Classical.propDecidable _), by simp⟩
  have kr0 := right_ok e rr hrr
  have kd0 := ready_ok mA v t hv e false ⟨(fun h => by cases h), fun h => absurd h hn⟩
  cases rr with
  | false =>
    refine ⟨1, by decide, ?_⟩
    refine of_text gam_ok mixed { n := 97 } Try.func12 (by kernel_rfl) rfl rfl (by simp) (by decide) fun F C D hF hC hD => ?_
    have nilp := hC _ _ _ (show CSem Try.prog (.nilp 25) [] (.pure []) from (show Try.prog.underlying 25 = _ from by kernel_rfl))
    have kr := hC _ _ _ kr0
    have br0 := bnotF hF false
    obtain ⟨⟨R, N⟩, time, deps, kind, key, fld, val, num, rR, rN⟩ := e
    clear kr0 kd0 hrr hn
    cbv
    refine ⟨nilp, ?_⟩
    cbv
    refine ⟨_, kr, ?_⟩
    cbv
    rw [br0]
    refine bT (rfl) ?_
    cbv
    first | exact ⟨rfl, trivial⟩ | trivial
  | true =>
    refine ⟨11, by decide, ?_⟩
    refine of_text gam_ok mixed { n := 97 } Try.func12 (by kernel_rfl) rfl rfl (by simp) (by decide) fun F C D hF hC hD => ?_
    have nilp := hC _ _ _ (show CSem Try.prog (.nilp 25) [] (.pure []) from (show Try.prog.underlying 25 = _ from by kernel_rfl))
    have kr := hC _ _ _ kr0
    have kd := hC _ _ _ kd0
    have br0 := bnotF hF true
    have br1 := bnotF hF false
    obtain ⟨⟨R, N⟩, time, deps, kind, key, fld, val, num, rR, rN⟩ := e
    clear kr0 kd0 hrr hn
    cbv
    refine ⟨nilp, ?_⟩
    cbv
    refine ⟨_, kr, ?_⟩
    cbv
    rw [br0]
    refine bF (rfl) ?_
    cbv
    refine ⟨_, kd, ?_⟩
    cbv
    rw [br1]
    refine bT (rfl) ?_
    cbv
    first | exact ⟨rfl, trivial⟩ | trivial
end Go.Proofs.Ytdnaadcbimbfmaa
set_option linter.unusedSimpArgs false
set_option linter.unusedVariables false
namespace Go.Proofs.Ytdnaadcbimbfmaa
open Go Go.RowKit Am

theorem wantedW {ops : Array Oper} {a : Act} {o : Oper} {j d : Nat} {b : Bool} (hg : o.guard = some (j, b)) (hd : (ops[j]?).bind (·.dst) = some d) (hz : d < a.tmps.size) (hv : a.eval (.tmp d) = .bool b) : Region.wanted o (yielded ops a.tmps) = true := by
  unfold Region.wanted
  rw [hg]
  show (yielded ops a.tmps j == some b) = true
  have hy : yielded ops a.tmps j = some b := by
    unfold yielded
    rw [hd]
    show (match a.tmps[d]? with | some (.bool b) => some b | _ => none) = _
    rw [evT, Array.getD_eq_getD_getElem?] at hv
    rw [Array.getElem?_eq_getElem hz] at hv ⊢
    have hv : a.tmps[d] = .bool b := hv
    rw [hv]
  rw [hy]
  cases b <;> rfl
/-- A call that is wanted. -/
theorem callWg {P : Program} {ops : Array Oper} {Q : Exit → Act → World → Prop} {rest : List Oper} {a : Act} {w : World} {o : Oper} {f : Nat} {args : Array Operand} {tys : Array TypeId} (xs : List Value) (hw : Region.wanted o (yielded ops a.tmps) = true) (ho : o.op = .call { callee := .value (.func f), args := args, argTypes := tys })
    (hf : ∀ cs w, (callFunc f cs).run P w = .ok (.enter f cs) w) (hx : args.map a.eval = xs.toArray) (hc : Calls P f xs.toArray w fun e w' => ∃ v, e = .returned v ∧ wpList P ops Q rest (a.put o.dst v) w') : wpList P ops Q (o :: rest) a w := by
  refine wpList_step fun K' hK' => ?_
  rw [if_pos hw]
  refine wp_enter (run_call (caps := []) ho rfl hf) ?_
  rw [show (args.toList.map a.eval ++ [] : List Value) = xs by rw [List.append_nil, ← Array.toList_map, hx]]
  refine hc.mono ?_
  rintro e w' ⟨v, rfl, h⟩
  exact ⟨v, rfl, hK' _ _ h⟩
/-- From a walk that changes nothing to one beside a space that is new. -/
theorem AS.fresh {n : Nat} {w0 w : World} {S0 S : Nat → Prop} {sl : List (Nat × AV)} {a : Act} (h : PS n w0 S0 sl S a w) {d : Nat} (hd : d < n) :
    AS n (w.alloc (.cells (spV (.map none) (fun _ => 0) 0) 52)) (layP w.heap.size) w.heap.size ((d, .v (.pointer (some ⟨w.heap.size, 0, none⟩))) :: sl) S (layP w.heap.size) sp0 (.map none) (a.put (some d) (.pointer (some ⟨w.heap.size, 0, none⟩))) (w.alloc (.cells (spV (.map none) (fun _ => 0) 0) 52)) := by
  have hb : Below w.heap.size w (w.alloc (.cells (spV (.map none) (fun _ => 0) 0) 52)) := (Below.refl _ _).alloc (Nat.le_refl _) _
  have h1 := (h.hi.grow (gr_below h.hi.lt hb)).put hd (.v (.pointer (some ⟨w.heap.size, 0, none⟩))) (srep_of_rep (.c (.v _ rfl)))
  refine ⟨h1, spAt_new w, fun g hg => ?_, Kp.refl _ _, Ext.refl _ _⟩
  have := h.hi.lt g hg
  show (if g = w.heap.size then some Tag.sp else none) = none
  rw [if_neg (by omega)]
/-- Back: what was known lies below the space. -/
theorem AS.done {n : Nat} {w0 w w2 : World} {S0 S S' : Nat → Prop} {sl : List (Nat × AV)} {L : Lay} {σ : Sp} {mv : Value} {a : Act} (hgr : Gr w0 S0 w S) (hS : ∀ g, S0 g → g < w0.heap.size) (h : AS n (w.alloc (.cells (spV (.map none) (fun _ => 0) 0) 52)) (layP w.heap.size) w.heap.size sl S' L σ mv a w2) : Below w0.heap.size w0 w2 := by
  have hb : Below w.heap.size w (w.alloc (.cells (spV (.map none) (fun _ => 0) 0) 52)) := (Below.refl _ _).alloc (Nat.le_refl _) _
  have hk : Below w.heap.size (w.alloc (.cells (spV (.map none) (fun _ => 0) 0) 52)) w2 := ⟨h.kp.os, h.kp.tape, h.kp.output, h.kp.size, fun g hg => h.kp.block g (Nat.lt_of_lt_of_le hg hb.size) (fun hd => by
    have : (if g = w.heap.size then some Tag.sp else none) ≠ none := hd
    rw [if_neg (by omega)] at this
    exact this rfl)⟩
  exact hgr.below.trans ((hb.trans hk).mono hgr.below.size)
/-! ### awake -/
def aw17 : Ev := { dot := ⟨0, 1⟩, time := 0, deps := fun _ => 0, op := { kind := 1, key := ⟨#[107]⟩, fld := ⟨#[]⟩, val := ⟨#[118]⟩, num := 0, ref := ⟨0, 0⟩ } }
theorem aw17_ready : ReadyP sp0.vv aw17 := by
  refine ⟨⟨by decide, by decide, by decide, by decide, by decide, by decide, fun i => ⟨Int.le_refl 0, (show (0 : Int) ≤ 1048576 by decide)⟩, ?_, ?_, .inr ⟨by decide, rfl⟩⟩, ?_, ?_⟩
  · unfold vget aw17; simp
  · unfold canB usesU aw17; decide
  · unfold vget aw17 sp0; simp
  · funext k; rfl
noncomputable def sp17 : Sp := (sp0.at aw17.op.key).app 0 aw17
theorem sp17_at : sp0.at aw17.op.key = ⟨[aw17.op.key], [⟨[], []⟩], fun _ => 0, 0⟩ := by rw [Sp.at_miss (by simp [sp0])]; rfl
theorem sp17_eq : sp17 = ⟨[aw17.op.key], [⟨[aw17], []⟩], vset (fun _ => 0) 0 1, 0⟩ := by
  unfold sp17; rw [sp17_at]; rfl
theorem aw17_ends : endsB aw17 aw17 = false := by simp [endsB, covers, hasB, vget, aw17, dotB, replica]
theorem aw17_all : liveAll [aw17] = [aw17] := by
  have : liveP [aw17] aw17 = true := by simp [liveP, aw17_ends, show addsB aw17.op.kind = true from rfl]
  rw [liveAll, List.filter_cons_of_pos this]; rfl
theorem aw17_of : ofL [aw17] ⟨#[107]⟩ = [aw17] := by
  have : keyP ⟨#[107]⟩ aw17 = true := by unfold keyP; rw [bytes_beq]; rfl
  rw [ofL, List.filter_cons_of_pos this]; exact aw17_all
theorem aw17_typ : ofT [aw17] ⟨#[107]⟩ = 1 := by unfold ofT; rw [aw17_of]; rfl
theorem aw17_ofV : ofV [aw17] ⟨#[107]⟩ = [aw17] := by unfold ofV; rw [aw17_of, aw17_typ]; rfl
theorem sp17_evs : sp17.evs ⟨#[107]⟩ = [aw17] := by
  rw [sp17_eq]; unfold Sp.evs enK; rw [if_pos (show aw17.op.key = ⟨#[107]⟩ from rfl)]
theorem aw17_lat : latR ((ofS (sp17.evs ⟨#[107]⟩) ⟨#[107]⟩ 1).filter kdP) = some aw17 := by
  rw [sp17_evs, ofS, if_pos aw17_typ, aw17_ofV]
  have : kdP aw17 = true := rfl
  rw [List.filter_cons_of_pos this]
  unfold latR topB
  simp [later_irr]
theorem sp17_lv : ∀ en ∈ sp17.es, en.lv.length ≤ 1000000 := by rw [sp17_eq]; simp
theorem aw_text : CSem Try.prog (.fn 16) [.ept (spA (mapA sp17) sp17.vv sp17.tm) 0, aS ⟨#[107]⟩] (.pure [aS ⟨#[118]⟩, aB true]) :=
  text_ok sp17 sp17_lv ⟨#[107]⟩ ⟨#[118]⟩ true (fun e h => by rw [aw17_lat] at h; injection h with h; subst h; exact ⟨rfl, rfl⟩) (fun h => by rw [aw17_lat] at h; cases h)
theorem aw_type : CSem Try.prog (.fn 17) [.ept (spA (mapA sp17) sp17.vv sp17.tm) 0, aS ⟨#[107]⟩] (.pure [aI 1]) :=
  type17_ok sp17 sp17_lv ⟨#[107]⟩ 1 (by rw [sp17_evs, aw17_typ])
set_option maxHeartbeats 8000000 in
set_option maxRecDepth 100000 in
theorem awake_ok : CSem Try.prog (.fn 6) [] (.pure [aB true]) := by
  refine acall_hand 38 Try.func6 (by kernel_rfl) rfl rfl (by simp) fun w S a h => ?_
  have hS := h.hi.lt
  refine wp_seq (h.pc (E := { n := 38 }) [] rfl (fun F C D hF hC => ?_) fun S1 a1 w1 h1 => ?_)
  · cbv
    exact ⟨100, (le_of [] (by simp [leSl, leOb, injK, memK, parK, noTup, lk, rn0, rnA, plain] <;> first | rfl | decide | (repeat (first | rfl | trivial | refine And.intro ?_ ?_))))⟩
  clear h
  refine wp_seq (wp_region_list ?_)
  refine callW [] rfl rfl (enterT Try.func8 (by kernel_rfl) rfl) (by simp) ?_
  refine (newW_ok w1).mono ?_
  rintro r w2 ⟨rfl, rfl⟩
  refine ⟨_, rfl, ?_⟩
  have hgr := h1.gr
  have h2 := AS.fresh h1 (d := 5) (by decide)
  clear h1
  obtain ⟨p, hp⟩ : ∃ p, p = w1.heap.size := ⟨_, rfl⟩
  have hdone := fun (n : Nat) (sl : List (Nat × AV)) (S' : Nat → Prop) (L : Lay) (σ : Sp) (mv : Value) (a : Act) (w2 : World) => AS.done (n := n) (sl := sl) (S' := S') (L := L) (σ := σ) (mv := mv) (a := a) (w2 := w2) hgr hS
  rw [← hp] at h2 hdone ⊢
  obtain ⟨wA, hwA⟩ : ∃ wA, wA = w1.alloc (.cells (spV (.map none) (fun _ => 0) 0) 52) := ⟨_, rfl⟩
  rw [← hwA] at h2 hdone ⊢
  obtain ⟨LP, hLP⟩ : ∃ LP, LP = layP p := ⟨_, rfl⟩
  rw [← hLP] at h2 hdone
  refine h2.pcl (E := { n := 38 }) [(1, .v (.pointer (some ⟨p, 0, none⟩)))] rfl (fun F C hF hC => ?_) fun S3 a3 w3 h3 => ?_
  · cbv
    exact ⟨100, (le_of [] (by simp [leSl, leOb, injK, memK, parK, noTup, lk, rn0, rnA, plain] <;> first | rfl | decide | (repeat (first | rfl | trivial | refine And.intro ?_ ?_))))⟩
  clear h2
  refine wp_seq (wp_seq (h3.pc (E := { n := 38 }) [(7, aB false), (1, .v (.pointer (some ⟨p, 0, none⟩)))] rfl (fun F C D hF hC => ?_) fun S4 a4 w4 h4 => ?_))
  · have nilp := hC _ _ _ (show CSem Try.prog (.nilp 25) [] (.pure []) from (show Try.prog.underlying 25 = _ from by kernel_rfl))
    cbv
    refine ⟨nilp, ?_⟩
    cbv
    exact ⟨100, (le_of [] (by simp [leSl, leOb, injK, memK, parK, noTup, lk, rn0, rnA, plain] <;> first | rfl | decide | (repeat (first | rfl | trivial | refine And.intro ?_ ?_))))⟩
  clear h3
  refine wp_cond_false (h4.val (t := 7) rfl) (wp_skip ?_)
  show Code.wp Try.prog (Code.seq _ _) _ _ _
  refine wp_seq (wp_region_list ?_)
  refine h4.pre (E := { n := 38 }) 4 [(11, .agg aw17.ac), (8, .v (.pointer (some ⟨p, 0, none⟩))), (1, .v (.pointer (some ⟨p, 0, none⟩)))] rfl (fun F C hF hC => ?_) fun S5 a5 w5 h5 => ?_
  · cbv
    exact ⟨100, (le_of [] (by simp [leSl, leOb, injK, memK, parK, noTup, lk, rn0, rnA, plain] <;> first | rfl | decide | (repeat (first | rfl | trivial | refine And.intro ?_ ?_))))⟩
  clear h4
  have r11 : a5.eval (.tmp 11) = .agg aw17.vs := rep_agg_v (xs := aw17.vs.toList) (h5.hi.slots 11 _ rfl).2
  refine callW [.pointer (some ⟨p, 0, none⟩), .agg aw17.vs] rfl rfl (enterT Try.func12 (by kernel_rfl) rfl) (by simp [h5.val (t := 8) rfl, r11]) ?_
  refine (apply_ok w5 _ p sp0 _ aw17 h5.sp aw17_ready (fun i => ⟨Int.le_refl 0, (show (0 : Int) ≤ 1048576 by decide)⟩) (fun i en hen => spg0.ents (Nat.zero_le _) aw17_ready i en hen)).mono ?_
  rintro r w6 ⟨L6, mv6, i, rfl, hki, hsp6, hx6, hk6⟩
  have hi0 : i = 0 := by
    rw [sp17_at] at hki
    match i, hki with
    | 0, _ => rfl
    | i + 1, hki => simp at hki
  subst hi0
  refine ⟨_, rfl, ?_⟩
  have h6 := (h5.wr hsp6 hk6 hx6).put (d := 12) (by decide) (aI 0) (srep_of_rep (.c (.v _ rfl)))
  rw [show (sp0.at aw17.op.key).app 0 aw17 = sp17 from rfl] at h6
  clear h5
  refine h6.pcl (E := { n := 38 }) [(2, aI 0), (1, .v (.pointer (some ⟨p, 0, none⟩)))] rfl (fun F C hF hC => ?_) fun S7 a7 w7 h7 => ?_
  · cbv
    exact ⟨100, (le_of [] (by simp [leSl, leOb, injK, memK, parK, noTup, lk, rn0, rnA, plain] <;> first | rfl | decide | (repeat (first | rfl | trivial | refine And.intro ?_ ?_))))⟩
  clear h6
  -- Text
  refine wp_seq (wp_region_list ?_)
  refine h7.pre (E := { n := 38 }) 1 [(14, .v (.pointer (some ⟨p, 0, none⟩))), (2, aI 0), (1, .v (.pointer (some ⟨p, 0, none⟩)))] rfl (fun F C hF hC => ?_) fun S8 a8 w8 h8 => ?_
  · cbv
    exact ⟨100, (le_of [] (by simp [leSl, leOb, injK, memK, parK, noTup, lk, rn0, rnA, plain] <;> first | rfl | decide | (repeat (first | rfl | trivial | refine And.intro ?_ ?_))))⟩
  clear h7
  refine callW [.pointer (some ⟨p, 0, none⟩), .string ⟨#[107]⟩] rfl rfl (enterT Try.func16 (by kernel_rfl) rfl) (by simp [h8.val (t := 14) rfl]; rfl) ?_
  refine (h8.sp.call (xs := [.string ⟨#[107]⟩]) aw_text (fun S => Reps.cons (.c (.v _ rfl)) (Reps.nil _ _))).mono ?_
  rintro r w9 ⟨ys, S9, rfl, hb9, hys⟩
  obtain ⟨z1, ys, rfl, hz1, hys⟩ := hys.uncons
  have hz2 := reps_v1 hys
  subst hz2
  have hz1 := rep_v hz1
  subst hz1
  refine ⟨_, rfl, ?_⟩
  have h9 := (h8.bw hb9).put (d := 15) (by decide) (.tup [aS ⟨#[118]⟩, aB true]) (v := .tuple #[.string ⟨#[118]⟩, .bool true]) ⟨[.string ⟨#[118]⟩, .bool true], rfl, rfl, fun i u x hu hx => by
    match i, hu, hx with
    | 0, hu, hx => injection hu with hu; injection hx with hx; subst hu; subst hx; exact .c (.v _ rfl)
    | 1, hu, hx => injection hu with hu; injection hx with hx; subst hu; subst hx; exact .c (.v _ rfl)
    | i + 2, hu, hx => simp at hu⟩
  clear h8
  refine h9.pcl (E := { n := 38 }) [(4, aB true), (3, aS ⟨#[118]⟩), (2, aI 0), (1, .v (.pointer (some ⟨p, 0, none⟩)))] rfl (fun F C hF hC => ?_) fun S10 a10 w10 h10 => ?_
  · cbv
    exact ⟨100, (le_of [] (by simp [leSl, leOb, injK, memK, parK, noTup, lk, rn0, rnA, plain] <;> first | rfl | decide | (repeat (first | rfl | trivial | refine And.intro ?_ ?_))))⟩
  clear h9
  -- Type, VV
  refine wp_seq (wp_region_list ?_)
  refine h10.pre (E := { n := 38 }) 11 [(28, .v (.pointer (some ⟨p, 0, none⟩))), (27, aB true), (1, .v (.pointer (some ⟨p, 0, none⟩)))] rfl (fun F C hF hC => ?_) fun S11 a11 w11 h11 => ?_
  · have t1 : F .cmp .eql 0 0 = true := eqF hF _ _
    have t2 : F .scmp .eql (⟨#[118]⟩ : ByteArray) ⟨#[118]⟩ = true := by rw [hF]; simp [sy]
    cbv
    rw [t1]
    repeat (first | (refine bT rfl ?_; cbv) | (refine bT t2 ?_; cbv))
    exact ⟨100, (le_of [] (by simp [leSl, leOb, injK, memK, parK, noTup, lk, rn0, rnA, plain] <;> first | rfl | decide | (repeat (first | rfl | trivial | refine And.intro ?_ ?_))))⟩
  clear h10
  refine callWg [.pointer (some ⟨p, 0, none⟩), .string ⟨#[107]⟩] (wantedW (d := 27) (b := true) rfl rfl (by rw [h11.hi.size]; decide) (h11.val (t := 27) rfl)) rfl (enterT Try.func17 (by kernel_rfl) rfl) (by simp [h11.val (t := 28) rfl]; rfl) ?_
  refine (h11.sp.callV (xs := [.string ⟨#[107]⟩]) aw_type (fun S => Reps.cons (.c (.v _ rfl)) (Reps.nil _ _))).mono ?_
  rintro r w12 ⟨rfl, hb12⟩
  refine ⟨_, rfl, ?_⟩
  have h12 := (h11.bw hb12).put (d := 29) (by decide) (aI 1) (srep_of_rep (.c (.v _ rfl)))
  clear h11
  refine h12.pre (E := { n := 38 }) 4 [(33, .v (.pointer (some ⟨p, 0, none⟩))), (32, aB true), (1, .v (.pointer (some ⟨p, 0, none⟩)))] rfl (fun F C hF hC => ?_) fun S13 a13 w13 h13 => ?_
  · have t1 : F .cmp .eql 1 1 = true := eqF hF _ _
    cbv
    repeat (first | (refine bT rfl ?_; cbv) | (refine bT t1 ?_; cbv))
    exact ⟨100, (le_of [] (by simp [leSl, leOb, injK, memK, parK, noTup, lk, rn0, rnA, plain] <;> first | rfl | decide | (repeat (first | rfl | trivial | refine And.intro ?_ ?_))))⟩
  clear h12
  refine callWg [.pointer (some ⟨p, 0, none⟩)] (wantedW (d := 32) (b := true) rfl rfl (by rw [h13.hi.size]; decide) (h13.val (t := 32) rfl)) rfl (enterT Try.func10 (by kernel_rfl) rfl) (by simp [h13.val (t := 33) rfl]) ?_
  refine h13.sp.vvW.mono ?_
  rintro r w14 ⟨rfl, hb14⟩
  refine ⟨_, rfl, ?_⟩
  obtain ⟨u, hu⟩ : ∃ u, u = sp17.vv := ⟨_, rfl⟩
  have hu' : u = vset (fun _ => 0) 0 1 := by rw [hu, sp17_eq]
  rw [← hu]
  have h14 := (h13.bw hb14).put (d := 34) (by decide) (.agg (vac u)) (srep_of_rep (.agg (xs := (vvs u).toList) (repl_map_v (vvs u).toList (List.all_eq_true.1 (show ((vvs u).toList).all (fun v => v.oneCell') = true from rfl)))))
  clear h13
  obtain ⟨u1, hu1⟩ : ∃ u1, u1 = vset (fun _ => 0) 0 1 := ⟨_, rfl⟩
  rw [← hu1] at hu'
  refine wpList_step fun K' hK' => ?_
  rw [if_pos (wantedW (d := 32) (b := true) rfl rfl (by rw [h14.hi.size]; decide) (h14.val (t := 32) rfl))]
  refine exec_val (w' := w14) (v := .agg (vvs u1)) (by rw [hu1]; kernel_rfl) (hK' _ _ ?_)
  have h15 := h14.put (d := 35) (by decide) (.agg (vac u1)) (srep_of_rep (.agg (xs := (vvs u1).toList) (repl_map_v (vvs u1).toList (List.all_eq_true.1 (show ((vvs u1).toList).all (fun v => v.oneCell') = true from rfl)))))
  clear h14
  obtain ⟨q, hq, heq⟩ := vvEq_ok u u1
  rw [hq.2 hu'] at heq
  clear hu1
  refine h15.pcl (E := { n := 38 }) [(0, aB true)] rfl (fun F C hF hC => ?_) fun S15 a15 w15 h15 => ?_
  · have he := hC _ _ _ heq
    clear heq hq hu hu'
    cbv
    repeat (first | (refine bT rfl ?_; cbv))
    refine ⟨_, he, ?_⟩
    cbv
    repeat (first | (refine bT rfl ?_; cbv))
    exact ⟨100, (le_of [] (by simp [leSl, leOb, injK, memK, parK, noTup, lk, rn0, rnA, plain] <;> first | rfl | decide | (repeat (first | rfl | trivial | refine And.intro ?_ ?_))))⟩
  subst hwA
  subst hLP
  subst hp
  have hb := hdone _ _ _ _ _ _ _ _ h15
  refine wp_ret (bodyPost_ret (results_tmp rfl _ _ _) h15.hi.defers ⟨_, S, rfl, gr_below hS hb, [_], rfl, Reps.cons ?_ (Reps.nil _ _)⟩)
  show Rep w15 S (aB true) (a15.tmps.getD 0 undef)
  rw [show a15.tmps.getD 0 undef = .bool true from h15.val (t := 0) rfl]
  exact .c (.v _ rfl)
end Go.Proofs.Ytdnaadcbimbfmaa
