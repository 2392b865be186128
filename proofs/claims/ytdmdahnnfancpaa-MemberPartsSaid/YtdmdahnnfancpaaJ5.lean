import Derived.Test.YtdmdahnnfancpaaJ4
import Derived.Test.YtdmdahnnfancpaaJ2
set_option linter.unusedSimpArgs false
set_option linter.unusedVariables false
namespace Go.Proofs.Ytdmdahnnfancpaa
open Go Go.RowKit Am

/-! ### member.Dots -/
def dotsM (l : List Ev) (s : ByteArray) : List Dt := (l.filter fun e => telB e s).map Ev.dot
def dotS (l : List Ev) (s : ByteArray) : List Dt := ddD (srtD (dotsM l s))
theorem dotsM_len (l : List Ev) (s : ByteArray) : (dotsM l s).length ≤ l.length := by unfold dotsM; rw [List.length_map]; exact List.length_filter_le _ _
theorem dotsM_step {l : List Ev} {i : Nat} {e : Ev} (h : l[i]? = some e) (s : ByteArray) : dotsM (l.take (i + 1)) s = if telB e s = true then dotsM (l.take i) s ++ [e.dot] else dotsM (l.take i) s := by
  unfold dotsM
  rw [List.take_add_one, h, List.filter_append]
  by_cases hb : telB e s = true
  · rw [if_pos hb]; simp [hb]
  · rw [if_neg hb]; simp [hb]
theorem dR_snoc (o : List Dt) (p : Dt) : dR (o ++ [p]) = dR o ++ [[aI p.R, aI p.N]] := by simp [dR]
theorem dotS_spec (l : List Ev) (s : ByteArray) : (dotS l s).Pairwise (fun x y => ltD x y = true) ∧ ∀ x, x ∈ dotS l s ↔ ∃ e ∈ l, telB e s = true ∧ e.dot = x := by
  obtain ⟨h1, h2⟩ := ddD_spec (srtD (dotsM l s)) (srtD_sorted _)
  refine ⟨h1, fun x => ?_⟩
  unfold dotS
  rw [h2, (srtD_perm _).mem_iff]
  unfold dotsM
  simp [List.mem_filter, and_assoc]
set_option maxHeartbeats 4000000 in
theorem memDots_ok (l : List Ev) (hl : l.length ≤ 1000000) (rows : List (List AV)) (hrows : rows = evR l) (s : ByteArray) (out : List (List AV)) (hout : out = dR (dotS l s)) : CSem Try.prog (.fn 36) [.sl rows, aS s] (.own 29 2 out []) := by
  refine of_text gam_ok mixed { n := 27, keep := [21, 26], wrs := [56, 58] } Try.func36 (by kernel_rfl) rfl rfl (by simp) (by decide) fun F C D hF hC hD => ?_
  obtain ⟨n', hn'⟩ : ∃ n' : Int, F .len rows = n' := ⟨_, rfl⟩
  have en : n' = (l.length : Int) := by rw [← hn', lenF hF, hrows, evR_len]
  cbv
  rw [hn']
  refine ⟨Nat × Int × List (List AV), fun x => { slots := [(10, aI x.2.1), (9, aI n'), (8, .sl rows), (5, .own 0 0), (4, .v (.slice none 0 0)), (1, aS s), (0, .sl rows)], obs := [(0, .row 29 2 x.2.2 0 0)], ctr := 1 }, fun x => x.2.1 = (x.1 : Int) ∧ x.1 ≤ l.length ∧ x.2.2 = dR (dotsM (l.take x.1) s), fun x => l.length - x.1, ⟨(0, 0, []), ⟨rfl, Nat.zero_le _, rfl⟩, Le.trans (le_nil 5 29 2 (by rfl) (by rfl)) (le_of [] (by simp [leSl, leOb, injK, memK, parK, noTup, lk, rn0, rnA, plain] <;> first | rfl | decide))⟩, fun x hx => ?_⟩
  obtain ⟨i, i', ow⟩ := x
  obtain ⟨ei, hi, how⟩ := hx
  simp only at ei hi how
  have en : n' = (l.length : Int) := en
  have tl := ltF hF i l.length i' n' ei en
  obtain ⟨i2, hi2⟩ : ∃ i2, F .ar .add .i64 i' 1 = i2 := ⟨_, rfl⟩
  have ei2 : i2 = ((i + 1 : Nat) : Int) := hi2.symm.trans (incF hF ei (by omega))
  by_cases hil : i < l.length
  · have tl : F .cmp .lss i' n' = true := tl.2 hil
    obtain ⟨e, he⟩ : ∃ s, l[i]? = some s := ⟨_, List.getElem?_eq_getElem hil⟩
    have hrow : rows[i]? = some e.ac := by rw [hrows]; exact evR_get he
    have hmu : l.length - (i + 1) < l.length - i := by omega
    obtain ⟨q, hq⟩ : ∃ q, q = telB e s := ⟨_, rfl⟩
    have htel := hC _ _ _ (tellsM_ok e s q hq)
    have hst := dotsM_step he s
    rw [← hq] at hst
    have hlo : (dotsM (l.take i) s).length ≤ 1000000 := Nat.le_trans (dotsM_len _ _) (by rw [List.length_take]; omega)
    cases q with
    | true =>
      rw [if_pos rfl] at hst
      obtain ⟨o2, ho2⟩ : ∃ x, x = F .app ow [[aI e.dot.R, aI e.dot.N]] := ⟨_, rfl⟩
      have how2 : o2 = dR (dotsM (l.take (i + 1)) s) := by rw [ho2, hst, dR_snoc, how, hF]; rfl
      have hrm : (F .len ow + F .len [[aI e.dot.R, aI e.dot.N]]) * 16 ≤ 140737488355328 := by rw [lenF hF, lenF hF, how, dR_len]; simp only [List.length_singleton]; omega
      have hel : ∀ r ∈ [[aI e.dot.R, aI e.dot.N]], r.length = 2 := fun r h => by rw [List.mem_singleton.1 h]; rfl
      clear hst how hq hlo
      cbv
      refine bT (tl) ?_
      cbv
      refine ⟨i, _, ei, hrow, rfl, ?_⟩
      cbv
      refine ⟨_, htel, ?_⟩
      cbv
      refine bT (rfl) ?_
      cbv
      refine ⟨hel, hrm, ?_⟩
      cbv
      rw [hi2]
      exact ⟨(i + 1, i2, o2), ⟨ei2, hil, how2⟩, hmu, le_of [(0, 2)] (by simp [leSl, leOb, injK, memK, parK, noTup, lk, rn0, rnA, plain]; repeat (first | exact ho2.symm | refine And.intro ?_ ?_ | rfl | trivial))⟩
    | false =>
      rw [if_neg (by simp)] at hst
      have how2 : ow = dR (dotsM (l.take (i + 1)) s) := by rw [hst]; exact how
      clear hst how hq hlo
      cbv
      refine bT (tl) ?_
      cbv
      refine ⟨i, _, ei, hrow, rfl, ?_⟩
      cbv
      refine ⟨_, htel, ?_⟩
      cbv
      refine bF (rfl) ?_
      cbv
      rw [hi2]
      exact ⟨(i + 1, i2, ow), ⟨ei2, hil, how2⟩, hmu, (le_of [] (by simp [leSl, leOb, injK, memK, parK, noTup, lk, rn0, rnA, plain] <;> first | rfl | decide))⟩
  · have tl : F .cmp .lss i' n' = false := by cases h : F .cmp .lss i' n' with | true => exact absurd (tl.1 h) hil | false => rfl
    rw [List.take_of_length_le (by omega)] at how
    have hdl := dotsM_len l s
    obtain ⟨q, hq⟩ : ∃ q, q = dR (srtD (dotsM l s)) := ⟨_, rfl⟩
    have hso := hC _ _ _ (sortD (dotsM l s) (by omega) ow how q hq)
    have hsl : (srtD (dotsM l s)).length ≤ 1000000 := by rw [(srtD_perm _).length_eq]; omega
    have hcp := hC _ _ _ (compactD_ok (srtD (dotsM l s)) hsl q hq out hout)
    clear how hq hout
    cbv
    refine bF (tl) ?_
    cbv
    refine ⟨_, _, hso, ?_⟩
    cbv
    refine ⟨_, _, _, _, _, hcp, ?_⟩
    cbv
    try simp
end Go.Proofs.Ytdmdahnnfancpaa
