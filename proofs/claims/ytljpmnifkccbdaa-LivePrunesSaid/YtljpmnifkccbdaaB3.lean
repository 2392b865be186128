import Derived.Test.YtljpmnifkccbdaaC1
set_option linter.unusedSimpArgs false
set_option linter.unusedVariables false
namespace Go.Proofs.Ytljpmnifkccbdaa
open Go Go.RowKit Am

theorem br {c : Bool} {p q : Prop} (h1 : c = true → p) (h2 : c = false → q) : (c = true → p) ∧ (c = false → q) := ⟨h1, h2⟩
theorem dotRef_ok (d : Dt) (r : Bool) (hr : r = dotB d) : CSem Try.prog (.fn 72) [.agg d.ac] (.pure [aB r]) := by
  obtain ⟨dR, dN⟩ := d
  refine of_text gam_ok mixed { n := 21 } Try.func72 (by kernel_rfl) rfl rfl (by simp) (by decide) fun F C D hF hC hD => ?_
  cbv
  iterate 4 (all_goals (try (with_reducible refine br (fun h => ?_) (fun h => ?_))); all_goals cbv)
  all_goals (subst hF; simp_all [sy, dotB, replica])
  all_goals omega
theorem hasRef_ok (v : VV) (d : Dt) (r : Bool) (hr : r = hasB v d) : CSem Try.prog (.fn 50) [.agg (vac v), .agg d.ac] (.pure [aB r]) := by
  refine of_text gam_ok mixed { n := 16 } Try.func50 (by kernel_rfl) rfl rfl (by simp) (by decide) fun F C D hF hC hD => ?_
  cbv
  refine ⟨hC _ _ _ (ben_ok (by kernel_rfl)), ?_⟩
  cbv
  refine ⟨_, hC _ _ _ (dotRef_ok d _ rfl), ?_⟩
  generalize h1 : dotB d = c1
  cbv
  refine ⟨fun h => ?_, fun h => ?_⟩ <;> cbv
  · have hd : 0 ≤ d.R ∧ d.R < 16 := by subst h; simp [dotB, replica] at h1; omega
    have hm : d.R.toNat < 16 := by omega
    refine ⟨d.R.toNat, _, (Int.toNat_of_nonneg hd.1).symm, hm, vac_cut v _ hm, ?_⟩
    generalize h2 : v ⟨d.R.toNat, hm⟩ = x
    cbv
    subst hF
    simp [hr, hasB, h1, h, vget, hm, h2, sy]
  · subst hF; simp [hr, hasB, h1, h]
theorem coversRef_ok (b a : Ev) (r : Bool) (hr : r = covers b a) : CSem Try.prog (.fn 26) [.agg b.ac, .agg a.ac] (.pure [aB r]) := by
  refine of_text gam_ok mixed { n := 10 } Try.func26 (by kernel_rfl) rfl rfl (by simp) (by decide) fun F C D hF hC hD => ?_
  cbv
  refine ⟨_, hC _ _ _ (hasRef_ok b.deps a.dot _ rfl), ?_⟩
  generalize h1 : hasB b.deps a.dot = c1
  cbv
  simp [hr, covers, h1]
theorem laterRef_ok (b a : Ev) (r : Bool) (hr : r = laterB b a) : CSem Try.prog (.fn 48) [.agg b.ac, .agg a.ac] (.pure [aB r]) := by
  have hl := later_iff b a
  rw [← hr] at hl
  clear hr
  obtain ⟨⟨bR, bN⟩, bt, bd, bo⟩ := b
  obtain ⟨⟨aR, aN⟩, at', ad, ao⟩ := a
  simp only at hl
  refine of_text gam_ok mixed { n := 36 } Try.func48 (by kernel_rfl) rfl rfl (by simp) (by decide) fun F C D hF hC hD => ?_
  cbv
  refine ⟨fun h => ?_, fun h => ?_⟩ <;> cbv
  · subst hF
    simp [sy] at h ⊢
    rw [Bool.eq_iff_iff, hl]; simp; omega
  refine ⟨fun h2 => ?_, fun h2 => ?_⟩ <;> cbv
  · subst hF
    simp [sy] at h h2 ⊢
    rw [Bool.eq_iff_iff, hl]; simp; omega
  · subst hF
    simp [sy] at h h2 ⊢
    rw [Bool.eq_iff_iff, hl]; simp; omega
def typI (k : Int) : Int := if k = 1 then 1 else if k = 2 then 2 else if k = 3 then 3 else if k = 5 then 4 else if k = 7 then 5 else if k = 9 then 6 else 0
theorem typ_ok (k : Int) (r : Int) (hr : r = typI k) : CSem Try.prog (.fn 54) [aI k] (.pure [aI r]) := by
  refine of_text gam_ok mixed { n := 16 } Try.func54 (by kernel_rfl) rfl rfl (by simp) (by decide) fun F C D hF hC hD => ?_
  cbv
  refine ⟨fun h1 => ?_, fun h1 => ?_⟩ <;> cbv
  · subst hF; grind [sy, typI]
  refine ⟨fun h2 => ?_, fun h2 => ?_⟩ <;> cbv
  · subst hF; grind [sy, typI]
  refine ⟨fun h3 => ?_, fun h3 => ?_⟩ <;> cbv
  · subst hF; grind [sy, typI]
  refine ⟨fun h4 => ?_, fun h4 => ?_⟩ <;> cbv
  · subst hF; grind [sy, typI]
  refine ⟨fun h5 => ?_, fun h5 => ?_⟩ <;> cbv
  · subst hF; grind [sy, typI]
  refine ⟨fun h6 => ?_, fun h6 => ?_⟩ <;> cbv
  · subst hF; grind [sy, typI]
  · subst hF; grind [sy, typI]
end Go.Proofs.Ytljpmnifkccbdaa
