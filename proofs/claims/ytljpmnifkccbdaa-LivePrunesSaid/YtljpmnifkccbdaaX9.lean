import Derived.Test.YtljpmnifkccbdaaX8
set_option linter.unusedVariables false
set_option linter.unusedSimpArgs false
namespace Go.Proofs.Ytljpmnifkccbdaa.Am
open Go Go.RowKit
variable {P : Program} {W0 : Bas} {S0 : Nat → Prop} {E : En}

def lowS (K0 : Nat) : List (Nat × AV) → Bool
  | [] => true
  | (_, .tup (_ :: _)) :: _ => false
  | (_, x) :: r => if fr0 K0 x = true then lowS K0 r else false
theorem lowS_spec {K0 : Nat} : ∀ {l : List (Nat × AV)}, lowS K0 l = true → frS K0 l = true ∧ ∀ t u, lk t l = some u → ment K0 (fun _ => False) u := by
  intro l
  induction l with
  | nil => intro _; exact ⟨rfl, fun t u h => by simp [lk] at h⟩
  | cons p l ih =>
    obtain ⟨k, x⟩ := p
    intro h
    have hx : (∀ v vs, x ≠ .tup (v :: vs)) ∧ fr0 K0 x = true ∧ lowS K0 l = true := by
      by_cases ht : ∃ v vs, x = .tup (v :: vs)
      · obtain ⟨v, vs, rfl⟩ := ht; simp [lowS] at h
      · have hn : ∀ v vs, x ≠ .tup (v :: vs) := fun v vs e => ht ⟨v, vs, e⟩
        have e : lowS K0 ((k, x) :: l) = if fr0 K0 x = true then lowS K0 l else false := by
          cases x <;> try rfl
          rename_i vs
          cases vs with
          | nil => rfl
          | cons v vs => exact absurd rfl (hn v vs)
        rw [e] at h
        split at h
        · rename_i he; exact ⟨hn, he, h⟩
        · simp at h
    obtain ⟨h1, h2, h3⟩ := hx
    obtain ⟨g1, g2⟩ := ih h3
    refine ⟨frS_put h2 h1 g1, fun t u hu => ?_⟩
    simp only [lk] at hu
    split at hu
    · injection hu with hu
      subst hu
      cases x <;> simp only [fr0, Nat.blt_eq] at h2 <;> first | exact .inl h2 | exact h2 | trivial | skip
      rename_i vs
      cases vs with
      | nil => trivial
      | cons v vs => exact absurd rfl (h1 v vs)
    · exact g2 t u hu
theorem rel_drawn {st : St} {a : Act} {w : World} (h : Rel W0 S0 E.n st a w) : Rel W0 S0 E.n st a { w with drawn := w.drawn + 1 } := by
  obtain ⟨S, β, hr⟩ := h
  exact ⟨S, β, ⟨hr.gr.os, hr.gr.tape, hr.gr.output, hr.gr.size, hr.gr.block, hr.gr.sub, hr.gr.new, hr.gr.lt⟩, hr.par, hr.defers, hr.size, fun t u hu => ⟨(hr.slots t u hu).1, srep_mono (w := w) (w' := { w with drawn := w.drawn + 1 }) (S' := S) (fun _ _ => rfl) (fun _ h => h) (hr.slots t u hu).2⟩, fun k o ho => orep_mono (w := w) (fun _ _ => rfl) (fun _ h => h) (fun g hg => ⟨rfl, (orep_blk (hr.objs k o ho) hg).2.2⟩) (hr.objs k o ho), hr.up, hr.sep, hr.ctr, hr.parc, hr.fix⟩
theorem adx_ok (hΓ : TOKs P) (hm : P.follows .mixedOrders = true) {ops : Array Oper} {K : St → Prop} {Q : Exit → Act → World → Prop} (hb : benX ops.toList = true) {st : St} (hlow : lowS st.ctr st.slots = true) (hK : ∀ st' a' w', K st' → Rel W0 S0 E.n st' a' w' → Q .normal a' w') {a : Act} {w : World} {id : Nat}
    (h : adx sy (CSem P) E ops.toList st.ctr ops.toList 0 [] K st) (hr : Rel W0 S0 E.n st a w) : (Code.region id ops true).wp P Q a w := by
  obtain ⟨hfr, hst0⟩ := lowS_spec hlow
  have hpk : st.par ≤ st.ctr := by obtain ⟨S, β, hr⟩ := hr; rw [hr.par]; exact hr.parc
  have hctr : ∀ k o, lk k st.obs = some o → k < st.ctr := by obtain ⟨S, β, hr⟩ := hr; exact hr.ctr
  obtain ⟨X, KD, _, hglob, used, stN, hk, hsrcN, hobN, hparN⟩ := adx_tr hΓ (st0 := st) (K0 := st.ctr) (K := K) (benX_dis hb) ops.toList 0 [] st (fun _ => .dead) (fun _ => .plain) rfl (Nat.zero_le _) ⟨fun j t hj => by omega, fun _ _ => rfl⟩ ⟨fun _ _ => rfl, fun m hm => by omega, fun m => ⟨fun h => by simp [memN] at h, fun ⟨j, hj, _⟩ => by omega⟩, fun k o ho => .inl (hctr k o ho), fun m h => by simp [memN] at h⟩ rfl h
  have hglob : ∀ j q, ops.toList[j]? = some q → StepX' P E ops.toList st st.ctr X KD j q := fun j q hq => hglob j q (Nat.zero_le _) hq
  refine wp_region_any hm (anyX_ok (W0 := W0) (S0 := S0) (E := E) (K0 := st.ctr) (X := X) (KD := KD) hΓ hb hst0 hpk hglob (fun listed s ρ a' w' hsz hall hinv hrel => hK _ _ _ hk ?_) ops.size _ st (fun m => st.ctr + m) a _ (by simp) ?_ ?_ (rel_drawn hr))
  · have hL : ∀ j, j < ops.toList.length → Lst listed j := fun j hj => hall j (by simpa using hj)
    have hLl : ∀ j, Lst listed j → dstOf ops.toList j ≠ none → j < ops.toList.length := fun j _ h => by
      unfold dstOf at h
      split at h
      · rename_i o ho; exact (List.getElem?_eq_some_iff.1 ho).1
      · exact absurd rfl h
    -- the creators of what is there
    have made : ∀ k o, lk k stN.obs = some o → st.ctr ≤ k → ∃ m ob, k = st.ctr + m ∧ m < ops.toList.length ∧ obOf (KD m) = some ob ∧ lk (ρ m) s.obs = some o := by
      intro k o hk hle
      rcases hobN.2.2.2.1 k o hk with h1 | ⟨m, hm, he, h1⟩
      · omega
      · subst he
        rcases h1 with h1 | ⟨j, hj, h1⟩
        · have h2 := hobN.2.1 m hm h1
          rw [hk] at h2
          refine ⟨m, o, rfl, hm, h2.symm, hinv.unused m o (hL m hm) h2.symm fun j hj hu => ?_⟩
          by_cases hjl : j < ops.toList.length
          · have := (hobN.2.2.1 m).2 ⟨j, hjl, hu⟩
            rw [h1] at this; cases this
          · exfalso
            unfold Lst at hj
            have : ¬ j < listed.size := by rw [hsz]; simpa using hjl
            simp [this] at hj
        · obtain ⟨hm', _, ob, hob⟩ := usr_lst hglob hinv (hL j hj) hj (show usr (KD j) = some m by rw [h1]; rfl)
          exact ⟨m, ob, rfl, hm, hob, hinv.stored m j o (hL j hj) h1⟩
    refine rel_ren (kap st.ctr ρ) (fun t x hx => ?_) (fun k o hk' => ?_) (fun k k' o o' h1 h2 he => ?_) (fun k o hk' => ?_) (by rw [hinv.par]; exact hparN) (by rw [hinv.par]; show st.par ≤ st.ctr + _; omega) (fun k hk' => ?_) (fun k o hk' hlt => ?_) hrel
    · have hx : lk t stN.slots = some x := hx
      by_cases hj : ∃ j, j < ops.toList.length ∧ dstOf ops.toList j = some t
      · obtain ⟨j, hjl, hjt⟩ := hj
        rw [hsrcN.1 j t hjl hjt] at hx
        injection hx with hx
        subst hx
        exact ⟨ment_tup (hinv.men j (hL j hjl)), hinv.new j t (hL j hjl) hjt⟩
      · rw [hsrcN.2 t fun j hjl hjt => hj ⟨j, hjl, hjt⟩] at hx
        refine ⟨ment_tup (hst0 t x hx), ?_⟩
        rw [hinv.old t fun j hjL hjt => hj ⟨j, hLl j hjL (by rw [hjt]; simp), hjt⟩, hx, rn_low (hst0 t x hx)]
    · have hk' : lk k stN.obs = some o := hk'
      by_cases hlt : k < st.ctr
      · rw [hobN.1 k hlt] at hk'
        unfold kap
        rw [if_pos hlt, hinv.low k hlt]; exact hk'
      · obtain ⟨m, ob, rfl, hm, _, h2⟩ := made k o hk' (by omega)
        rw [kap_hi]; exact h2
    · have h1 : lk k stN.obs = some o := h1
      have h2 : lk k' stN.obs = some o' := h2
      by_cases hlt : k < st.ctr <;> by_cases hlt' : k' < st.ctr
      · unfold kap at he; rw [if_pos hlt, if_pos hlt'] at he; exact he
      · obtain ⟨m, ob, rfl, hm, hob, _⟩ := made k' o' h2 (by omega)
        rw [kap_hi] at he
        unfold kap at he
        rw [if_pos hlt] at he
        have := (hinv.rge m ob (hL m hm) hob).1
        omega
      · obtain ⟨m, ob, rfl, hm, hob, _⟩ := made k o h1 (by omega)
        rw [kap_hi] at he
        unfold kap at he
        rw [if_pos hlt'] at he
        have := (hinv.rge m ob (hL m hm) hob).1
        omega
      · obtain ⟨m, ob, rfl, hm, hob, _⟩ := made k o h1 (by omega)
        obtain ⟨m', ob', rfl, hm', hob', _⟩ := made k' o' h2 (by omega)
        rw [kap_hi, kap_hi] at he
        rw [hinv.inj m m' ob ob' (hL m hm) (hL m' hm') hob hob' he]
    · have hk' : lk k stN.obs = some o := hk'
      show k < st.ctr + _
      by_cases hlt : k < st.ctr
      · omega
      · obtain ⟨m, ob, rfl, hm, _, _⟩ := made k o hk' (by omega)
        omega
    · rw [hinv.par] at hk'
      unfold kap
      rw [if_pos (by omega)]
    · have hk' : lk k stN.obs = some o := hk'
      rw [hinv.par] at hlt ⊢
      by_cases h3 : k < st.ctr
      · unfold kap at hlt; rw [if_pos h3] at hlt; exact hlt
      · obtain ⟨m, ob, rfl, hm, hob, _⟩ := made k o hk' (by omega)
        rw [kap_hi] at hlt
        have := (hinv.rge m ob (hL m hm) hob).1
        omega
  · refine Nat.le_trans (List.length_filter_le _ _) (by simp)
  · have hno : ∀ j, ¬ Lst (Array.replicate ops.size false) j := fun j hj => by
      unfold Lst at hj
      by_cases hlt : j < ops.size <;> simp [hlt] at hj
    exact ⟨rfl, Nat.le_refl _, hfr, fun j t hj => absurd hj (hno j), fun _ _ => rfl, fun _ _ => rfl, fun m o hm => absurd hm (hno m), fun m j o hj => absurd hj (hno j), fun m o hm => absurd hm (hno m), fun m m' o o' hm => absurd hm (hno m), fun j hj => absurd hj (hno j), fun j q hq hj => absurd hj (hno j)⟩
/-- of_text, with open regions that make objects, at cuts. -/
theorem of_textX (hΓ : TOKs P) (hm : P.follows .mixedOrders = true) (E : En) {f : Nat} {fn : Func} {c : Code} {args : List AV} {res : Res} (hf : P.funcs[f]? = some fn) (hname : (fn.name == "runtime.NumGoroutine") = false) (hb : fn.body = some c) (hn : fn.ntmps = E.n) (ha : args.length ≤ E.n) (h4 : fn.results.toList.length ≤ 4)
    (h : ∀ (F : Sy) (C : Key → List AV → Res → Prop) (D : Code → (AE → St → Prop) → St → Prop), F = sy → (∀ k l r, CSem P k l r → C k l r) → (∀ c Q s, awp F C D E c Q s → D c Q s) → (∀ id ops rest Q s, benX ops.toList = true → lowS s.ctr s.slots = true → adx F C E ops.toList s.ctr ops.toList 0 [] (fun st => D rest Q st) s → D (.seq (.region id ops true) rest) Q s) →
      awp F C D E c (fun e st => match e with | .normal => retOK fn.results.toList res st | .ret => retOK fn.results.toList res st | .exit _ => False) { slots := Am.st0 0 args, obs := [], ctr := 0 }) : CSem P (.fn f) args res := by
  have snd : ∀ c Q s, awp sy (CSem P) (Snd P E) E c Q s → Snd P E c Q s := fun c Q s h W0 S0 R a w hr hq => awp_ok hΓ hm c Q R s a w h hr hq
  refine fsem_of (fun as w => ?_) (acalls_of0 E hΓ hm hf hb hn ha h4 (h sy (CSem P) (Snd P E) rfl (fun _ _ _ h => h) snd (fun id ops rest Q s h1 h2 h3 W0 S0 R a w hr hq => ?_)))
  · have h1 : fn.name ≠ "runtime.NumGoroutine" := by simpa using hname
    simp [callFunc, hf, h1, hb]
  · exact wp_seq (adx_ok hΓ hm h1 h2 (fun st' a' w' hk hr' => hk _ _ _ _ _ hr' hq) h3 hr)
end Go.Proofs.Ytljpmnifkccbdaa.Am
