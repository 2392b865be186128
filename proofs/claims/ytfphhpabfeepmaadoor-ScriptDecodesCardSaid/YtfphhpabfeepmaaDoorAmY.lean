import Derived.Test.YtfphhpabfeepmaaDoorAm16
set_option linter.unusedVariables false
set_option linter.unusedSimpArgs false
namespace Go.Proofs.YtfphhpabfeepmaaDoor.Am
open Go Go.RowKit
variable {P : Program} {W0 : Bas} {S0 : Nat → Prop} {E : En}

/-! ### 19. Regions whose order is open, order by order -/
section
variable (F : Sy) (C : Key → List AV → Res → Prop) (E : En)
/-- All that are ready, one after the other. -/
def anyL (ops : Array Oper) (st : St) (K : Nat → St → Prop) : List Nat → Prop
  | [] => True
  | i :: r => (match ops[i]? with
    | some o => (match o.guard with | none => aop F C E o st (K i) | some _ => False)
    | none => False) ∧ anyL ops st K r
def anyM (ops : Array Oper) (K : St → Prop) : Nat → Array Bool → St → Prop
  | 0, listed, st => Region.ready .any ops listed = [] ∧ K st
  | n + 1, listed, st => match Region.ready .any ops listed with
    | [] => K st
    | i :: r => anyL F C E ops st (fun j st' => anyM ops K n (listed.setIfInBounds j true) st') (i :: r)
end
theorem anyL_get {F : Sy} {C : Key → List AV → Res → Prop} {ops : Array Oper} {st : St} {K : Nat → St → Prop} : ∀ {l : List Nat}, anyL F C E ops st K l → ∀ i ∈ l, ∃ o, ops[i]? = some o ∧ o.guard = none ∧ aop F C E o st (K i)
  | [], _, i, h => by cases h
  | j :: r, h, i, hi => by
    obtain ⟨h1, h2⟩ := h
    rcases List.mem_cons.1 hi with rfl | hi
    · split at h1
      · rename_i o ho
        split at h1
        · rename_i hg; exact ⟨o, ho, hg, h1⟩
        · exact h1.elim
      · exact h1.elim
    · exact anyL_get h2 i hi
theorem anyM_ok (hΓ : TOKs P) {ops : Array Oper} {K : St → Prop} {Q : Exit → Act → World → Prop} (hK : ∀ st' a' w', K st' → Rel W0 S0 E.n st' a' w' → Q .normal a' w') :
    ∀ (fuel : Nat) (listed : Array Bool) (st : St) (a : Act) (w : World), anyM sy (CSem P) E ops K fuel listed st → Rel W0 S0 E.n st a w → wpAny P .any ops Q fuel listed a w := by
  intro fuel
  induction fuel with
  | zero => intro listed st a w h hr; exact ⟨h.1, hK _ _ _ h.2 hr⟩
  | succ fuel ih =>
    intro listed st a w h hr
    simp only [anyM] at h
    split at h
    · rename_i he
      exact ⟨fun _ => hK _ _ _ h hr, fun i hi => (by rw [he] at hi; cases hi)⟩
    · rename_i j r he
      refine ⟨fun h0 => (by rw [he] at h0; cases h0), fun i hi => ?_⟩
      rw [he] at hi
      obtain ⟨o, ho, hg, ha⟩ := anyL_get h i hi
      unfold wpOp
      rw [ho]
      have hw : Region.wanted o (yielded ops a.tmps) = true := by simp [Region.wanted, hg]
      simp only [hw, if_true]
      exact .inl (aop_ok hΓ ha hr fun st' a' w' hk hr' => ih _ _ _ _ hk hr')
theorem rel_drawnY {st : St} {a : Act} {w : World} (h : Rel W0 S0 E.n st a w) : Rel W0 S0 E.n st a { w with drawn := w.drawn + 1 } := by
  obtain ⟨S, β, hr⟩ := h
  exact ⟨S, β, ⟨hr.gr.os, hr.gr.tape, hr.gr.output, hr.gr.size, hr.gr.block, hr.gr.sub, hr.gr.new, hr.gr.lt, hr.gr.gd.1, hr.gr.gd.2.mono (fun _ _ => rfl) (fun _ h => h)⟩, hr.par, hr.defers, hr.size, fun t u hu => ⟨(hr.slots t u hu).1, srep_mono (w := w) (w' := { w with drawn := w.drawn + 1 }) (S' := S) (fun _ _ => rfl) (fun _ h => h) (hr.slots t u hu).2⟩, fun k o ho => orep_mono (w := w) (fun _ _ => rfl) (fun _ h => h) (fun g hg => ⟨rfl, (orep_blk (hr.objs k o ho) hg).2.2⟩) (hr.objs k o ho), hr.up, hr.sep, hr.ctr, hr.parc, hr.fix⟩
/-- of_textW, with open regions taken order by order. -/
theorem of_textWY (hΓ : TOKs P) (hm : P.follows .mixedOrders = true) (E : En) {f : Nat} {fn : Func} {c : Code} {args : List AV} {pars pars' : Obs} {res : Res} (hf : P.funcs[f]? = some fn) (hname : (fn.name == "runtime.NumGoroutine") = false) (hb : fn.body = some c) (hn : fn.ntmps = E.n) (ha : args.length ≤ E.n) (h4 : fn.results.toList.length ≤ 4) (hkl : keysLt args.length pars = true)
    (h : ∀ (F : Sy) (C : Key → List AV → Res → Prop) (D : Code → (AE → St → Prop) → St → Prop), F = sy → (∀ k as r, CSem P k as r → C k as r) → (∀ c Q s, awp F C D E c Q s → D c Q s) → (∀ id ops Q s s1, anyM F C E ops (fun st => Le st s1) ops.size (Array.replicate ops.size false) s → Q .normal s1 → D (.region id ops true) Q s) →
      awp F C D E c (fun e st => match e with | .normal => retOKW fn.results.toList pars' res st | .ret => retOKW fn.results.toList pars' res st | .exit _ => False) { slots := st0 0 args, obs := pars, ctr := args.length, par := args.length }) : CSem P (.wr f pars pars') args res := by
  have snd : ∀ c Q s, awp sy (CSem P) (Snd P E) E c Q s → Snd P E c Q s := fun c Q s h W0 S0 R a w hr hq => awp_ok hΓ hm c Q R s a w h hr hq
  refine ⟨fun as w => ?_, mcalls_of0 E hΓ hm hf hb hn ha h4 hkl (h sy (CSem P) (Snd P E) rfl (fun _ _ _ h => h) snd fun id ops Q s s1 h1 h2 W0 S0 R a w hr hq => ?_)⟩
  · have h1 : fn.name ≠ "runtime.NumGoroutine" := by simpa using hname
    simp [callFunc, hf, h1, hb]
  · exact wp_region_any hm (anyM_ok hΓ (fun st' a' w' hk hr' => hq .normal _ _ _ h2 (hk _ _ _ _ _ hr')) _ _ _ _ _ h1 (rel_drawnY hr))
end Go.Proofs.YtfphhpabfeepmaaDoor.Am
