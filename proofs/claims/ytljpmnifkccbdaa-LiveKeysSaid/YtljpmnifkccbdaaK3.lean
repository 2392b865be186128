import Derived.Test.YtljpmnifkccbdaaD4
import Derived.Sort.Walk0
set_option linter.unusedSimpArgs false
set_option linter.unusedVariables false
namespace Go.Proofs.Ytljpmnifkccbdaa
open Go Go.RowKit Am Go.Sort

theorem le_nilS (t : Nat) {s : St} (ht : lk t s.slots = some (.v (.slice none 0 0))) : Le s { slots := (t, .sl []) :: s.slots, obs := s.obs, ctr := s.ctr, par := s.par } := by
  rintro W0 S0 n a w ⟨S, β, hr⟩
  refine ⟨S, β, hr.gr, hr.par, hr.defers, hr.size, fun t' x hx => ?_, hr.objs, hr.up, hr.sep, hr.ctr, hr.parc, hr.fix⟩
  simp only [lk] at hx
  split at hx
  · rename_i e1
    injection hx with hx
    subst e1 hx
    obtain ⟨h1, h2⟩ := hr.slots _ _ ht
    refine ⟨h1, ?_⟩
    rw [srep_v h2]
    exact srep_c (.nil none 0 (fun _ => rfl))
  · exact hr.slots _ _ hx
/-! The reference's kinds. -/
theorem eqlF {F : Sy} (hF : F = sy) (a b : Int) : F .cmp .eql a b = decide (a = b) := by rw [hF]; simp [sy, Bool.beq_eq_decide_eq]
def kindsL : List Int := [1, 2, 3, 5, 7, 9]
def kR (l : List Int) : List (List AV) := l.map fun k => [aI k]
theorem kinds_typ (k : Int) (i : Nat) (c : Int) (hc : kindsL[i]? = some c) (h : c = k) : typI k = ((i + 1 : Nat) : Int) := by
  subst h
  match i, hc with
  | 0, h => simp [kindsL] at h; subst h; rfl
  | 1, h => simp [kindsL] at h; subst h; rfl
  | 2, h => simp [kindsL] at h; subst h; rfl
  | 3, h => simp [kindsL] at h; subst h; rfl
  | 4, h => simp [kindsL] at h; subst h; rfl
  | 5, h => simp [kindsL] at h; subst h; rfl
  | n + 6, h => simp [kindsL] at h
theorem typR_ok (k : Int) (r : Int) (hr : r = typI k) : CSem Try.prog (.fn 47) [aI k] (.pure [aI r]) := by
  refine of_text gam_ok mixed { n := 20 } Try.func47 (by kernel_rfl) rfl rfl (by simp) (by decide) fun F C D hF hC hD => ?_
  obtain ⟨R, hR⟩ : ∃ R, R = kR kindsL := ⟨_, rfl⟩
  have hR2 : R = [[.v (.int .i64 1)], [.v (.int .i64 2)], [.v (.int .i64 3)], [.v (.int .i64 5)], [.v (.int .i64 7)], [.v (.int .i64 9)]] := hR
  obtain ⟨n', hn'⟩ : ∃ n', F .len R = n' := ⟨_, rfl⟩
  have en : n' = ((6 : Nat) : Int) := by rw [← hn', lenF hF, hR]; rfl
  cbv
  rw [← hR2, hn']
  refine ⟨Nat × Int, fun x => { slots := [(8, aI x.2), (7, aI n'), (3, .sl R), (0, aI k)], obs := [], ctr := 0 }, fun x => x.2 = (x.1 : Int) ∧ x.1 ≤ 6 ∧ ∀ (j : Nat) (c : Int), j < x.1 → kindsL[j]? = some c → c ≠ k, fun x => 6 - x.1, ⟨(0, 0), ⟨rfl, Nat.zero_le _, fun j c hj => by omega⟩, le_of [] (by simp [leSl, leOb, injK, memK, parK, noTup, lk, rn0, rnA, plain, aI])⟩, fun x hx => ?_⟩
  obtain ⟨i, i'⟩ := x
  obtain ⟨ei, hi, hz⟩ := hx
  simp only at ei hi hz
  have en : n' = ((6 : Nat) : Int) := en
  have tl := ltF hF i 6 i' n' ei en
  have ep := incF hF ei (by omega)
  obtain ⟨j, hj⟩ : ∃ j, F .ar .add .i64 i' 1 = j := ⟨_, rfl⟩
  have ej : j = ((i + 1 : Nat) : Int) := hj.symm.trans ep
  cbv
  refine br (fun h => ?_) (fun h => ?_) <;> cbv
  · have hil := tl.1 h
    obtain ⟨c, hc⟩ : ∃ c, kindsL[i]? = some c := ⟨_, List.getElem?_eq_getElem (show i < kindsL.length from hil)⟩
    have hrow : R[i]? = some [aI c] := by rw [hR, kR, List.getElem?_map, hc]; rfl
    have ec := eqlF hF c k
    refine ⟨i, [aI c], ei, hrow, rfl, ?_⟩
    cbv
    refine br (fun g => ?_) (fun g => ?_) <;> cbv
    · have hck : c = k := of_decide_eq_true (ec.symm.trans g)
      have : F .ar .add .i64 i' 1 = r := by rw [hr, kinds_typ k i c hc hck, hj]; exact ej
      rw [this]; exact ⟨rfl, trivial⟩
    · have hck : c ≠ k := of_decide_eq_false (ec.symm.trans g)
      rw [hj]
      refine ⟨(i + 1, j), ⟨ej, hil, fun d c' hd hc' => ?_⟩, (show 6 - (i + 1) < 6 - i by omega), le_of [] (by simp [leSl, leOb, injK, memK, parK, noTup, lk, rn0, rnA, plain])⟩
      by_cases e1 : d < i
      · exact hz d c' e1 hc'
      · have : d = i := by have := (show d < i + 1 from hd); omega
        rw [this, hc] at hc'
        injection hc' with hc'
        rw [← hc']; exact hck
  · have hge : 6 ≤ i := by have := nfB tl h; omega
    have : (0 : Int) = r := by
      have g0 := hz 0 1 (by omega) rfl
      have g1 := hz 1 2 (by omega) rfl
      have g2 := hz 2 3 (by omega) rfl
      have g3 := hz 3 5 (by omega) rfl
      have g4 := hz 4 7 (by omega) rfl
      have g5 := hz 5 9 (by omega) rfl
      rw [hr, typI, if_neg (Ne.symm g0), if_neg (Ne.symm g1), if_neg (Ne.symm g2), if_neg (Ne.symm g3), if_neg (Ne.symm g4), if_neg (Ne.symm g5)]
    rw [← this]; exact ⟨rfl, trivial⟩
end Go.Proofs.Ytljpmnifkccbdaa
