import Derived.Test.YtljpmnifkccbdaaAm8
set_option linter.unusedVariables false
set_option linter.unusedSimpArgs false
namespace Go.Proofs.Ytljpmnifkccbdaa.Am
open Go Go.RowKit
variable {P : Program} {W0 : Bas} {S0 : Nat → Prop} {n : Nat}

/-! ### 9. All operations are sound -/
theorem aop_dop (hΓ : TOKs P) {S : Nat → Prop} {β : Nat → Value} {st : St} {a : Act} {w : World} {o : Oper} {K : St → Prop} {Kr : Act → World → Prop} {Q : Exit → Act → World → Prop} (h1 : RelS W0 S0 n S β st a w) (hd : okD n o.dst = true)
    (h : dop sy (CSem P) (ev st) st.obs o.op (fun x => K (st.put o.dst x))) (hK : ∀ st' a' w', K st' → Rel W0 S0 n st' a' w' → Kr a' w') : o.wp P a w Kr Q := by
  obtain ⟨x, hk, hg⟩ := dop_ok hΓ h
  exact hg a w S β 0 h1.gr.lt (fun o _ u hu => ev_ok h1 hu) h1.objs o rfl Kr Q (fun v w' S' hgr hx => hK _ _ _ hk ⟨S', β, rel_quiet h1 hgr hd hx⟩)

theorem aop_alloc {S : Nat → Prop} {β : Nat → Value} {st : St} {a : Act} {w : World} {o : Oper} {K : St → Prop} {Kr : Act → World → Prop} {Q : Exit → Act → World → Prop} {t : Nat} {ti : TI} {fz : Bool} (h : RelS W0 S0 n S β st a w) (hd : okD n o.dst = true) (hop : o.op = .alloc t) (ht : TOK P t ti) (hfr : frS st.ctr st.slots = true)
    (hk : K (St.put { slots := st.slots, obs := (st.ctr, .box t ti.zero fz) :: st.obs, ctr := st.ctr + 1, par := st.par } o.dst (.ptr st.ctr 0))) (hK : ∀ st' a' w', K st' → Rel W0 S0 n st' a' w' → Kr a' w') : o.wp P a w Kr Q := by
  obtain ⟨z, hz, hzs, hzr⟩ := ht.zero w
  have hzl : z.cells = z.cells.toList.toArray := by simp
  have hS := h.gr.lt
  have hbl : Below w.heap.size w (w.alloc (.cells z.cells t (0, 0))) := (Below.refl _ _).alloc (Nat.le_refl _) _
  have hne : ¬ S w.heap.size := fun hs => by have := hS _ hs; omega
  refine wp_val (w' := w.alloc (.cells z.cells t (0, 0))) (v := .pointer (some ⟨w.heap.size, 0, none⟩)) ?_ (hK _ _ _ hk ?_)
  · simp [execOp, hop, Instr.alloc, hz, newVar, newRow, newObj, Sem.run]
  · refine rel_new (nv := .pointer (some ⟨w.heap.size, 0, none⟩)) (S' := S) h hfr (fun j u hj => hj) (h.gr.step (⟨hbl, fun _ h => h, fun _ h => .inl h, fun g hg => Nat.lt_of_lt_of_le (hS g hg) (by simp)⟩ : Gr w S _ S))
      (fun g hg => hbl.block g (hS g hg)) (fun g hg => hg) (fun j u hj g hg => ?_) hd ?_ (fun g hg => by simp [blkOf] at hg; subst hg; exact .inl h.gr.size) (fun j u hj g hg hg' => ?_) ?_
    · obtain ⟨h1, h2, h3⟩ := orep_blk (h.objs j u hj) hg
      exact ⟨hbl.block g h2, h3⟩
    · exact ⟨w.heap.size, z.cells.toList, rfl, Nat.zero_le _, hne, by rw [← hzl]; exact heap_alloc_new w _, hzr _ _⟩
    · obtain ⟨h1, h2, h3⟩ := orep_blk (h.objs j u hj) hg
      simp [blkOf] at hg'
      omega
    · exact ⟨w.heap.size, by simp, by rw [add_mk]⟩

end Go.Proofs.Ytljpmnifkccbdaa.Am
