import Derived.Test.YtljpmnifkccbdaaEv
import Derived.IntWalk
set_option linter.unusedSimpArgs false
set_option linter.unusedVariables false
namespace Go.Proofs.Ytljpmnifkccbdaa
open Go Go.RowKit Am

def replica (n : Int) : Bool := decide (0 ≤ n) && decide (n < 16)
theorem replica_ok (n : Int) (r : Bool) (hr : r = replica n) : CSem Try.prog (.fn 101) [aI n] (.pure [aB r]) := by
  refine of_text gam_ok mixed { n := 9 } Try.func101 (by kernel_rfl) rfl rfl (by simp) (by decide) fun F C D hF hC hD => ?_
  cbv
  refine ⟨fun h => ?_, fun h => ?_⟩ <;> cbv <;> subst hF <;> grind [sy, replica]

def dotB (d : Dt) : Bool := replica d.R && decide (1 ≤ d.N) && decide (d.N ≤ 1048576)
theorem dot_ok (d : Dt) (r : Bool) (hr : r = dotB d) : CSem Try.prog (.fn 80) [.agg d.ac] (.pure [aB r]) := by
  refine of_text gam_ok mixed { n := 16 } Try.func80 (by kernel_rfl) rfl rfl (by simp) (by decide) fun F C D hF hC hD => ?_
  cbv
  refine ⟨_, hC _ _ _ (replica_ok _ _ rfl), ?_⟩
  generalize h1 : replica d.R = c1
  cbv
  refine ⟨fun h => ?_, fun h => ?_⟩ <;> cbv
  · refine ⟨fun h => ?_, fun h => ?_⟩ <;> cbv <;> subst hF <;> grind [sy, dotB]
  · subst hF; grind [sy, dotB]

end Go.Proofs.Ytljpmnifkccbdaa
set_option linter.unusedSimpArgs false
set_option linter.unusedVariables false
namespace Go.Proofs.Ytljpmnifkccbdaa
open Go Go.RowKit Am

theorem wrap_in {n : Int} (h0 : -9223372036854775808 ≤ n) (h1 : n ≤ 9223372036854775807) : IntKind.i64.wrap n = n := IntWalk.i64_in n ⟨h0, h1⟩

theorem vac_cut (v : VV) (m : Nat) (h : m < 16) : cut (0 + m * 1) 1 (vac v) = some [aI (v ⟨m, h⟩)] := by
  match m, h with
  | 0, _ => rfl | 1, _ => rfl | 2, _ => rfl | 3, _ => rfl | 4, _ => rfl | 5, _ => rfl | 6, _ => rfl | 7, _ => rfl
  | 8, _ => rfl | 9, _ => rfl | 10, _ => rfl | 11, _ => rfl | 12, _ => rfl | 13, _ => rfl | 14, _ => rfl | 15, _ => rfl
  | n+16, h => exact absurd h (by omega)

def vget (v : VV) (i : Int) : Int := if h : i.toNat < 16 then v ⟨i.toNat, h⟩ else 0
def hasB (v : VV) (d : Dt) : Bool := dotB d && decide (d.N ≤ vget v d.R)
theorem has_ok (v : VV) (d : Dt) (r : Bool) (hr : r = hasB v d) : CSem Try.prog (.fn 71) [.agg (vac v), .agg d.ac] (.pure [aB r]) := by
  refine of_text gam_ok mixed { n := 16 } Try.func71 (by kernel_rfl) rfl rfl (by simp) (by decide) fun F C D hF hC hD => ?_
  cbv
  refine ⟨hC _ _ _ (ben_ok (by kernel_rfl)), ?_⟩
  cbv
  refine ⟨_, hC _ _ _ (dot_ok d _ rfl), ?_⟩
  generalize h1 : dotB d = c1
  cbv
  refine ⟨fun h => ?_, fun h => ?_⟩ <;> cbv
  · have hd : 0 ≤ d.R ∧ d.R < 16 := by subst h; simp [dotB, replica] at h1; omega
    have hm : d.R.toNat < 16 := by omega
    refine ⟨d.R.toNat, _, (Int.toNat_of_nonneg hd.1).symm, hm, vac_cut v _ hm, ?_⟩
    generalize h2 : v ⟨d.R.toNat, hm⟩ = x
    cbv
    subst hF
    simp [hr, hasB, h1, h, vget, hm, h2, sy]
  · subst hF; simp [hr, hasB, h1, h]
def covers (b a : Ev) : Bool := hasB b.deps a.dot
theorem covers_ok (b a : Ev) (r : Bool) (hr : r = covers b a) : CSem Try.prog (.fn 49) [.agg b.ac, .agg a.ac] (.pure [aB r]) := by
  refine of_text gam_ok mixed { n := 10 } Try.func49 (by kernel_rfl) rfl rfl (by simp) (by decide) fun F C D hF hC hD => ?_
  cbv
  refine ⟨_, hC _ _ _ (has_ok b.deps a.dot _ rfl), ?_⟩
  generalize h1 : hasB b.deps a.dot = c1
  cbv
  simp [hr, covers, h1]

def addsB (k : Int) : Bool := k == 1 || k == 2 || k == 3 || k == 5 || k == 7 || k == 9
theorem adds_ok (k : Int) (r : Bool) (hr : r = addsB k) : CSem Try.prog (.fn 42) [aI k] (.pure [aB r]) := by
  refine of_text gam_ok mixed { n := 11 } Try.func42 (by kernel_rfl) rfl rfl (by simp) (by decide) fun F C D hF hC hD => ?_
  cbv
  refine ⟨fun h => ?_, fun h => ?_⟩ <;> cbv
  · subst hF; simp_all [sy, addsB]
  refine ⟨fun h => ?_, fun h => ?_⟩ <;> cbv
  · subst hF; simp_all [sy, addsB]
  refine ⟨fun h => ?_, fun h => ?_⟩ <;> cbv
  · subst hF; simp_all [sy, addsB]
  refine ⟨fun h => ?_, fun h => ?_⟩ <;> cbv
  · subst hF; simp_all [sy, addsB]
  refine ⟨fun h => ?_, fun h => ?_⟩ <;> cbv
  · subst hF; simp_all [sy, addsB]
  refine ⟨fun h => ?_, fun h => ?_⟩ <;> cbv
  · subst hF; simp_all [sy, addsB]
  subst hF; simp_all [sy, addsB]
end Go.Proofs.Ytljpmnifkccbdaa
