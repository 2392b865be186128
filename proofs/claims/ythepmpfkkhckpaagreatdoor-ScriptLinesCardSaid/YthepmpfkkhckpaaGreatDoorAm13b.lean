import Derived.Test.YthepmpfkkhckpaaGreatDoorAm13
set_option linter.unusedVariables false
set_option linter.unusedSimpArgs false
namespace Go.Proofs.YthepmpfkkhckpaaGreatDoor.Am
open Go Go.RowKit
variable {P : Program} {W0 : Bas} {S0 : Nat → Prop} {E : En}

def Inv (W0 : Bas) (S0 : Nat → Prop) (E : En) (all : List Oper) (st0 : St) (β : Nat → Value) (OB : Nat → Obs) (X : Nat → AV) (listed : Array Bool) (a : Act) (w : World) : Prop :=
  ∃ S p, GrK W0.M W0.W S0 w S ∧ a.defers = [] ∧ a.tmps.size = E.n ∧ (∀ k o, lk k (OB p) = some o → ORep w S 0 (β k) o) ∧
    (∀ j t, listed.getD j false = true → dstOf all j = some t → t < E.n ∧ SRep w S β (OB p) (X j) (a.tmps.getD t undef)) ∧
    (∀ t u, (∀ j, listed.getD j false = true → dstOf all j ≠ some t) → lk t st0.slots = some u → t < E.n ∧ SRep w S β (OB p) u (a.tmps.getD t undef)) ∧
    p ≤ all.length ∧ (∀ j q, all[j]? = some q → isW E q = true → (listed.getD j false = true ↔ j < p)) ∧
    (∀ j q, all[j]? = some q → listed.getD j false = true → ∀ e ∈ q.after, Region.binds .any e = true → listed.getD e.on false = true)
/-- Between two writes nothing turns. -/
theorem ob_eq {all : List Oper} {OB : Nat → Obs} (hOB : ∀ i o, all[i]? = some o → isW E o = false → OB (i + 1) = OB i) : ∀ (d p : Nat), p + d ≤ all.length → (∀ j q, all[j]? = some q → isW E q = true → p ≤ j → p + d ≤ j) → OB (p + d) = OB p := by
  intro d
  induction d with
  | zero => intro p _ _; rfl
  | succ d ih =>
    intro p hl h
    have hlt : p + d < all.length := by omega
    have ho : all[p + d]? = some all[p + d] := List.getElem?_eq_getElem hlt
    by_cases hw : isW E all[p + d] = true
    · have := h (p + d) _ ho hw (by omega); omega
    · rw [show p + (d + 1) = p + d + 1 by omega, hOB (p + d) _ ho (by simpa using hw)]
      exact ih p (by omega) (fun j q hq hqw hj => by have := h j q hq hqw hj; omega)
theorem ob_eq2 {all : List Oper} {OB : Nat → Obs} (hOB : ∀ i o, all[i]? = some o → isW E o = false → OB (i + 1) = OB i) {p i : Nat} (hp : p ≤ all.length) (hi : i ≤ all.length) (h : ∀ j q, all[j]? = some q → isW E q = true → (j < p ↔ j < i)) : OB p = OB i := by
  by_cases hle : p ≤ i
  · have := ob_eq hOB (i - p) p (by omega) (fun j q hq hw hj => by have := (h j q hq hw); omega)
    rw [show p + (i - p) = i by omega] at this
    exact this.symm
  · have := ob_eq hOB (p - i) i (by omega) (fun j q hq hw hj => by have := (h j q hq hw); omega)
    rw [show i + (p - i) = p by omega] at this
    exact this

theorem ev_const {w : World} {S : Nat → Prop} {β : Nat → Value} {obs : Obs} {st : St} {a : Act} {x : Operand} {u : AV} (hx : isTmp x = none) (hu : ev st x = some u) : SRep w S β obs u (a.eval x) := by
  cases x with
  | tmp t => simp [isTmp] at hx
  | const v =>
    simp only [ev] at hu
    unfold evc at hu
    split at hu <;> simp at hu <;> subst hu <;> first | exact srep_c (.b _) | exact srep_c (.v _ rfl)
  | global g => simp [ev] at hu
  | func f =>
    simp [ev] at hu
    subst hu
    exact srep_of_rep (.clo (xs := []) rfl (fun i u x h => by simp at h))
theorem getD_set {listed : Array Bool} {i j : Nat} (hi : i < listed.size) : (listed.setIfInBounds i true).getD j false = if j = i then true else listed.getD j false := by
  by_cases h : j = i
  · subst h; simp [hi]
  · rw [if_neg h]; simp [Array.getElem?_setIfInBounds_ne (Ne.symm h)]

/-- One operation more. -/
theorem inv_step {all : List Oper} {st0 : St} {β : Nat → Value} {OB : Nat → Obs} {X : Nat → AV} {listed : Array Bool} {a : Act} {w w' : World} {i p p' : Nat} {o : Oper} {v : Value} {S S' : Nat → Prop} {T : Nat → Prop} (hb : benign E all = true) (ho : all[i]? = some o) (hd : okD E.n o.dst = true) (hi : i < listed.size)
    (hgr : GrK W0.M W0.W S0 w S) (hdef : a.defers = []) (hsz : a.tmps.size = E.n)
    (hA : ∀ j t, listed.getD j false = true → dstOf all j = some t → t < E.n ∧ SRep w S β (OB p) (X j) (a.tmps.getD t undef)) (hB : ∀ t u, (∀ j, listed.getD j false = true → dstOf all j ≠ some t) → lk t st0.slots = some u → t < E.n ∧ SRep w S β (OB p) u (a.tmps.getD t undef))
    (hg : GrK T w S w' S') (hT : ∀ g, T g → W0.M g ∨ W0.heap.size ≤ g) (hobj' : ∀ k o, lk k (OB p') = some o → ORep w' S' 0 (β k) o) (hmap : ∀ x y, SRep w S β (OB p) x y → SRep w' S' β (OB p') x y) (hv : SRep w' S' β (OB p') (X i) v)
    (hp' : p' ≤ all.length) (hwr : ∀ j q, all[j]? = some q → isW E q = true → ((listed.setIfInBounds i true).getD j false = true ↔ j < p')) (hcl : ∀ j q, all[j]? = some q → listed.getD j false = true → ∀ e ∈ q.after, Region.binds .any e = true → listed.getD e.on false = true)
    (hafter : ∀ e ∈ o.after, Region.binds .any e = true → listed.getD e.on false = true) : Inv W0 S0 E all st0 β OB X (listed.setIfInBounds i true) (a.put o.dst v) w' := by
  have hdst : dstOf all i = o.dst := by unfold dstOf; rw [ho]
  have hget : ∀ t, o.dst ≠ some t → (a.put o.dst v).tmps.getD t undef = a.tmps.getD t undef := by
    intro t ht
    cases hdd : o.dst with
    | none => rfl
    | some d =>
      rw [hdd] at ht hd
      have hdn : d < E.n := by simpa [okD] using hd
      rw [getD_put _ _ _ _ (by rw [hsz]; exact hdn), if_neg (fun e => ht (by rw [e]))]
  refine ⟨S', p', hgr.trans hg hT, by rw [put_defers]; exact hdef, by rw [put_size]; exact hsz, hobj', fun j t hj hjt => ?_, fun t u ht hu => ?_, hp', hwr, fun j q hq hj e he hbd => ?_⟩
  · rw [getD_set hi] at hj
    by_cases e : j = i
    · subst e
      rw [hdst] at hjt
      rw [hjt] at hd ⊢
      have hdn : t < E.n := by simpa [okD] using hd
      refine ⟨hdn, ?_⟩
      rw [getD_put _ _ _ _ (by rw [hsz]; exact hdn), if_pos rfl]
      exact hv
    · rw [if_neg e] at hj
      obtain ⟨h1, h2⟩ := hA j t hj hjt
      have hne : o.dst ≠ some t := by
        rcases ((benign_spec hb ho).1 j t hjt).1 with h | h
        · exact absurd h e
        · exact h
      exact ⟨h1, by rw [hget t hne]; exact hmap _ _ h2⟩
  · have hne : o.dst ≠ some t := by
      have := ht i (by rw [getD_set hi, if_pos rfl])
      rwa [hdst] at this
    obtain ⟨h1, h2⟩ := hB t u (fun j hj => ht j (by rw [getD_set hi]; split <;> first | rfl | exact hj)) hu
    exact ⟨h1, by rw [hget t hne]; exact hmap _ _ h2⟩
  · rw [getD_set hi]
    split
    · rfl
    · rw [getD_set hi] at hj
      by_cases e1 : j = i
      · subst e1
        rw [ho] at hq
        injection hq with hq
        subst hq
        exact hafter e he hbd
      · rw [if_neg e1] at hj
        exact hcl j q hq hj e he hbd

theorem ready_or {ops : Array Oper} (hb : benign E ops.toList = true) {listed : Array Bool} (hs : listed.size = ops.size) (hr : Region.ready .any ops listed = []) : ∀ j, j < ops.size → listed.getD j false = true := by
  intro j
  induction j using Nat.strongRecOn with
  | _ j ih =>
    intro hj
    by_cases h : listed.getD j false = true
    · exact h
    · exfalso
      have hlt : j < listed.size := by omega
      have hf : listed.getD j true = false := by
        have : listed.getD j false = listed.getD j true := by simp [hlt]
        rw [← this]; simpa using h
      have ho : ops[j]? = some ops[j] := Array.getElem?_eq_getElem hj
      have ho' : ops.toList[j]? = some ops[j] := by simp
      have : j ∈ Region.ready .any ops listed := mem_ready.2 ⟨hf, ops[j], ho, fun e he hbd => by
        have h1 := (benign_spec hb ho').2.1 e he hbd
        exact ih e.on h1 (by omega)⟩
      rw [hr] at this
      simp at this

theorem any_ok {ops : Array Oper} {st0 : St} {β : Nat → Value} {OB : Nat → Obs} {X : Nat → AV} (hb : benign E ops.toList = true) (hok : ∀ j o, ops.toList[j]? = some o → StepOk P E ops.toList st0 OB X j o)
    (hsep : ∀ p k k' o o', lk k (OB p) = some o → lk k' (OB p) = some o' → k ≠ k' → ∀ g, blkOf (β k) = some g → blkOf (β k') = some g → False) (hup : ∀ p k o g, lk k (OB p) = some o → blkOf (β k) = some g → W0.M g ∨ W0.heap.size ≤ g) {Q : Exit → Act → World → Prop}
    (hfin : ∀ listed a w, (∀ j, j < ops.size → listed.getD j false = true) → Inv W0 S0 E ops.toList st0 β OB X listed a w → Q .normal a w) :
    ∀ (fuel : Nat) (listed : Array Bool) (a : Act) (w : World), listed.size = ops.size → ((List.range ops.size).filter (fun j => listed.getD j false == false)).length ≤ fuel → Inv W0 S0 E ops.toList st0 β OB X listed a w → wpAny P .any ops Q fuel listed a w := by
  intro fuel
  induction fuel with
  | zero =>
    intro listed a w hs hf hinv
    have hall : ∀ j, j < ops.size → listed.getD j false = true := by
      intro j hj
      have : (List.range ops.size).filter (fun j => listed.getD j false == false) = [] := List.eq_nil_of_length_eq_zero (by omega)
      rw [List.filter_eq_nil_iff] at this
      have := this j (List.mem_range.2 hj)
      simpa using this
    refine ⟨?_, hfin _ _ _ hall hinv⟩
    rw [List.eq_nil_iff_forall_not_mem]
    intro j hj
    obtain ⟨h1, o, ho, _⟩ := mem_ready.1 hj
    have hlt : j < ops.size := (Array.getElem?_eq_some_iff.1 ho).1
    have h2 := hall j hlt
    have : listed.getD j false = listed.getD j true := by simp [show j < listed.size by omega]
    rw [this, h1] at h2
    simp at h2
  | succ fuel ih =>
    intro listed a w hs hf hinv
    refine ⟨fun hr => hfin _ _ _ (ready_or hb hs hr) hinv, fun i hi => ?_⟩
    obtain ⟨h1, o, ho, hafter⟩ := mem_ready.1 hi
    have hlt : i < ops.size := (Array.getElem?_eq_some_iff.1 ho).1
    have hil : i < listed.size := by omega
    have hif : listed.getD i false = false := by
      have : listed.getD i false = listed.getD i true := by simp [hil]
      rw [this]; exact h1
    have ho' : ops.toList[i]? = some o := by simpa using ho
    have hfuel : ((List.range ops.size).filter (fun j => (listed.setIfInBounds i true).getD j false == false)).length ≤ fuel := by
      have : (List.range ops.size).filter (fun j => (listed.setIfInBounds i true).getD j false == false) = ((List.range ops.size).filter (fun j => listed.getD j false == false)).filter (fun j => !(j == i)) := by
        rw [List.filter_filter]
        apply List.filter_congr
        intro j _
        rw [getD_set hil]
        by_cases e : j = i <;> simp [e]
      rw [this]
      have hlt2 : (((List.range ops.size).filter (fun j => listed.getD j false == false)).filter (fun j => !(j == i))).length < ((List.range ops.size).filter (fun j => listed.getD j false == false)).length := by
        rw [List.length_filter_lt_length_iff_exists]
        exact ⟨i, List.mem_filter.2 ⟨List.mem_range.2 hlt, by simpa using hif⟩, by simp⟩
      omega
    have hOB : ∀ i o, ops.toList[i]? = some o → isW E o = false → OB (i + 1) = OB i := fun i o ho hw => (hok i o ho).2.1 hw
    obtain ⟨hd, _, sti, hsrc, hstep⟩ := hok i o ho'
    obtain ⟨S, p, hgr, hdef, hsz, hobj, hA, hB, hpl, hpw, hcl⟩ := hinv
    obtain ⟨bs1, bs2, bs3, bs4⟩ := benign_spec hb ho'
    have hafter' : ∀ e ∈ o.after, Region.binds .any e = true → listed.getD e.on false = true := fun e he hbd => hafter e he hbd
    have via : ∀ (q : Oper) (n : Nat), (∀ e ∈ q.after, Region.binds .any e = true → listed.getD e.on false = true) → Ahead ops.toList n q → listed.getD n false = true := by
      intro q n hq h
      exact h.via (L := fun n => listed.getD n false = true) hcl hq
    -- what a slot that is looked at holds
    have hlook : ∀ t u, t ∈ looks ops.toList o → lk t sti.slots = some u → t < E.n ∧ SRep w S β (OB p) u (a.tmps.getD t undef) := by
      intro t u ht hu
      rcases hsrc t u hu with ⟨j, hj, hjt, hp⟩ | ⟨hno, u0, hu0, hp⟩
      · obtain ⟨_, e, he, heon, hbd⟩ | ⟨hji, _⟩ := (bs1 j t hjt).2 ht
        rotate_left
        · omega
        have hl : listed.getD j false = true := by rw [← heon]; exact hafter e he hbd
        obtain ⟨h2, h3⟩ := hA j t hl hjt
        exact ⟨h2, srep_plain hp.symm h3⟩
      · obtain ⟨h2, h3⟩ := hB t u0 (fun j hl hjt => by
          rcases (bs1 j t hjt).2 ht with ⟨this, _⟩ | ⟨_, q, hq, hah⟩
          · exact hno j this hjt
          · have := via q i (hcl j q hq hl) hah
            rw [hif] at this
            simp at this) hu0
        exact ⟨h2, srep_plain hp.symm h3⟩
    have hops : ∀ x ∈ o.op.operands, ∀ u, ev sti x = some u → SRep w S β (OB p) u (a.eval x) := by
      intro x hx u hu
      cases hxt : isTmp x with
      | none => exact ev_const hxt hu
      | some t =>
        have hxe : x = .tmp t := by cases x <;> simp [isTmp] at hxt; subst hxt; rfl
        subst hxe
        have ht : t ∈ looks ops.toList o := by
          unfold looks
          refine List.mem_append_left _ (List.mem_filterMap.2 ⟨_, by simpa using hx, hxt⟩)
        exact (hlook t u ht hu).2
    -- where it may run
    have hstage : triv o = false → ∀ j q, ops.toList[j]? = some q → isW E q = true → j ≠ i → (j < p ↔ j < i) := by
      intro htr j q hq hw hne
      rw [← hpw j q hq hw]
      rcases bs4 j q hq hw hne htr with ⟨h2, h3⟩ | ⟨h2, h3⟩
      · exact ⟨fun _ => h2, fun _ => via o j hafter' h3⟩
      · refine ⟨fun hl => ?_, fun h => by omega⟩
        have := via q i (hcl j q hq hl) h3
        rw [hif] at this
        simp at this
    have quiet : isW E o = false → ∀ v w' S', Gr w S w' S' → SRep w' S' β (OB p) (X i) v → Inv W0 S0 E ops.toList st0 β OB X (listed.setIfInBounds i true) (a.put o.dst v) w' := by
      intro hnw v w' S' hg hv
      have hsame := hg.same hgr.lt
      refine inv_step (T := fun _ => False) hb ho' hd hil hgr hdef hsz hA hB (hg.k hgr.lt hgr.gd.2 _) (fun _ h => h.elim) (fun k o' ho' => ?_) (fun x y h => srep_mono hsame hg.sub h) hv hpl (fun j q hq hw => ?_) hcl hafter'
      · refine orep_mono hsame hg.sub (fun g hgb => ?_) (hobj k o' ho')
        obtain ⟨h1, h2, h3⟩ := orep_blk (hobj k o' ho') hgb
        exact ⟨hg.below.block g h2, fun hs => by rcases hg.new g hs with h4 | h4; exact h3 h4; omega⟩
      · rw [getD_set hil]
        split
        · rename_i e
          subst e
          rw [ho'] at hq
          injection hq with hq
          subst hq
          rw [hnw] at hw
          simp at hw
        · exact hpw j q hq hw
    have run : isW E o = false → Good P (ev sti) (OB i) o.op (X i) → (triv o = true → ∀ obs, Good P (ev sti) obs o.op (X i)) → Region.wanted o (yielded ops a.tmps) = true → wpOp P ops Q i (wpAny P .any ops Q fuel (listed.setIfInBounds i true)) a w := by
      intro hnw hgood htr hw
      have hgood : Good P (ev sti) (OB p) o.op (X i) := by
        by_cases ht : triv o = true
        · exact htr ht _
        · rw [ob_eq2 (E := E) (all := ops.toList) hOB hpl (i := i) (by simpa using Nat.le_of_lt hlt) (fun j q hq hwq => by
            by_cases e : j = i
            · subst e
              rw [ho'] at hq
              injection hq with hq
              subst hq
              rw [hnw] at hwq
              simp at hwq
            · exact hstage (by simpa using ht) j q hq hwq e)]
          exact hgood
      unfold wpOp
      rw [ho]
      simp only [hw, if_true]
      exact .inl (hgood a w S β 0 hgr.lt hgr.gd.2 hops hobj o rfl _ _ (fun v w' S' hg hv => ih _ _ _ (by simp [hs]) hfuel (quiet hnw v w' S' hg hv)))
    have skip : isW E o = false → X i = .tup [] → Region.wanted o (yielded ops a.tmps) = false → wpOp P ops Q i (wpAny P .any ops Q fuel (listed.setIfInBounds i true)) a w := by
      intro hnw hx hw
      unfold wpOp
      rw [ho]
      simp only [hw]
      exact ih _ _ _ (by simp [hs]) hfuel (quiet hnw _ _ _ (Gr.refl hgr.lt) (by rw [hx]; exact tup_nil))
    rcases hstep with ⟨hg, hnw, hgood, htr⟩ | ⟨hg, hnw, hgood, hkeys⟩ | ⟨hnw, j, b, d, u, hg, hdj, hu, hcase⟩
    · exact run hnw hgood htr (by simp [Region.wanted, hg])
    · -- a write
      have hnt : triv o = false := by
        unfold isW at hnw
        unfold triv
        split at hnw <;> simp_all
      have hpi : OB p = OB i := by
        refine ob_eq2 (E := E) (all := ops.toList) hOB hpl (by simpa using Nat.le_of_lt hlt) (fun j q hq hwq => ?_)
        by_cases e : j = i
        · subst e
          rw [← hpw j q hq hwq, hif]
          simp
        · exact hstage hnt j q hq hwq e
      unfold wpOp
      rw [ho]
      have hw : Region.wanted o (yielded ops a.tmps) = true := by simp [Region.wanted, hg]
      simp only [hw, if_true]
      refine .inl (hgood a w S β hgr.lt hgr.gd.2 (fun x hx u hu => by rw [← hpi]; exact hops x hx u hu) (by rw [← hpi]; exact hobj) (hsep i) o rfl _ _ (fun v w' S' hg2 hobj2 hmap hv => ih _ _ _ (by simp [hs]) hfuel ?_))
      refine inv_step (p := p) (p' := i + 1) hb ho' hd hil hgr hdef hsz hA hB hg2 (fun g hg => ?_) hobj2 (fun x y h => srep_of0 hmap (by rw [← hpi]; exact h)) hv (Nat.succ_le_of_lt (by simpa using hlt)) (fun j q hq hwq => ?_) hcl hafter'
      · obtain ⟨k, o2, h1, h2⟩ := hg
        exact hup i k o2 g h1 h2
      · rw [getD_set hil]
        by_cases e : j = i
        · rw [if_pos e]; simp; omega
        · rw [if_neg e, hpw j q hq hwq, hstage hnt j q hq hwq e]
          omega
    · have ht : d ∈ looks ops.toList o := by
        unfold looks
        refine List.mem_append_right _ ?_
        rw [hg]
        simp [hdj]
      obtain ⟨hdn, hs1⟩ := hlook d u ht hu
      have hy := yielded_of (ops := ops) (a := a) hdj (by rw [hsz]; exact hdn)
      rcases hcase with ⟨c, hp, hcase⟩ | ⟨rfl, hx⟩
      · have hv : a.tmps.getD d undef = .bool c := srep_v (srep_plain (y := .v (.bool c)) (by rw [hp]; rfl) hs1)
        rw [hv] at hy
        rcases hcase with ⟨hcb, hgood, htr⟩ | ⟨hcb, hx⟩
        · exact run hnw hgood htr (by simp [Region.wanted, hg, hy, hcb])
        · refine skip hnw hx ?_
          simp only [Region.wanted, hg, hy]
          cases c <;> cases b <;> first | rfl | exact absurd rfl hcb
      · rw [tup_nil_inv hs1] at hy
        exact skip hnw hx (by simp [Region.wanted, hg, hy])
theorem adr_ok (hΓ : TOKs P) (hm : P.follows .mixedOrders = true) {ops : Array Oper} {K : St → Prop} {Q : Exit → Act → World → Prop} (hb : benign E ops.toList = true) (hK : ∀ st' a' w', K st' → Rel W0 S0 E.n st' a' w' → Q .normal a' w') {st : St} {a : Act} {w : World} {id : Nat} (h : adr sy (CSem P) E ops.toList ops.toList K st) (hr : Rel W0 S0 E.n st a w) : (Code.region id ops true).wp P Q a w := by
  obtain ⟨S, β, hr⟩ := hr
  obtain ⟨X, OB, _, hOB0, hok, stN, hk, hsrcN, hobsN, hctrN, hparN⟩ := adr_tr hΓ (st0 := st) ops.toList 0 st (fun _ => .dead) (fun _ => st.obs) rfl (fun t u ht => .inr ⟨fun j hj => by omega, u, ht, rfl⟩) rfl rfl rfl h
  have hOB0 : OB 0 = st.obs := hOB0 0 (Nat.le_refl _)
  have hobsN : stN.obs = OB ops.toList.length := by simpa using hobsN
  have hkeys : ∀ p k u, p ≤ ops.toList.length → lk k (OB p) = some u → ∃ u', lk k st.obs = some u' := by
    intro p
    induction p with
    | zero => intro k u _ h; rw [hOB0] at h; exact ⟨_, h⟩
    | succ p ih =>
      intro k u hp h
      have ho : ops.toList[p]? = some ops.toList[p] := List.getElem?_eq_getElem (by omega)
      obtain ⟨_, h1, _, _, h2⟩ := hok p _ (Nat.zero_le _) ho
      by_cases hw : isW E ops.toList[p] = true
      · rcases h2 with ⟨_, h3, _⟩ | ⟨_, _, _, h3⟩ | ⟨h3, _⟩
        · rw [h3] at hw; simp at hw
        · obtain ⟨u', hu'⟩ := h3 k u h
          exact ih k u' (by omega) hu'
        · rw [h3] at hw; simp at hw
      · rw [h1 (by simpa using hw)] at h
        exact ih k u (by omega) h
  -- beyond the end nothing counts
  obtain ⟨OB', hOB'⟩ : ∃ OB' : Nat → Obs, OB' = fun p => if p ≤ ops.toList.length then OB p else [] := ⟨_, rfl⟩
  have eq : ∀ p, p ≤ ops.toList.length → OB' p = OB p := fun p hp => by rw [hOB']; simp only; rw [if_pos hp]
  have hkeys' : ∀ p k u, lk k (OB' p) = some u → ∃ u', lk k st.obs = some u' := by
    intro p k u h
    rw [hOB'] at h
    simp only at h
    split at h
    · rename_i hp; exact hkeys p k u hp h
    · simp [lk] at h
  have hok' : ∀ j o, ops.toList[j]? = some o → StepOk P E ops.toList st OB' X j o := by
    intro j o ho
    have hlt : j < ops.toList.length := (List.getElem?_eq_some_iff.1 ho).1
    have := hok j o (Nat.zero_le _) ho
    unfold StepOk at this ⊢
    rw [eq j (by omega), eq (j + 1) (by omega)]
    exact this
  refine wp_region_any hm (any_ok (W0 := W0) (S0 := S0) (E := E) (st0 := st) (β := β) (OB := OB') (X := X) hb hok' (fun p k k' o o' h1 h2 => ?_) (fun p k o g h1 h2 => ?_) (fun listed a' w' hall hinv => ?_) ops.size _ a _ (by simp) ?_ ?_)
  · obtain ⟨u, hu⟩ := hkeys' p k o h1
    obtain ⟨u', hu'⟩ := hkeys' p k' o' h2
    exact hr.sep k k' u u' hu hu'
  · obtain ⟨u, hu⟩ := hkeys' p k o h1
    have := hr.up k u g hu h2
    split at this
    · exact .inl this
    · exact this.symm
  · obtain ⟨S', p, hgr, hdef, hsz, hobj, hA, hB, hpl, hpw, _⟩ := hinv
    have hpe : OB' p = OB ops.toList.length := by
      rw [← eq _ (Nat.le_refl _)]
      refine ob_eq2 (E := E) (all := ops.toList) (fun i o ho hw => (hok' i o ho).2.1 hw) hpl (Nat.le_refl _) (fun j q hq hw => ?_)
      have hj : j < ops.toList.length := (List.getElem?_eq_some_iff.1 hq).1
      have := (hpw j q hq hw).1 (hall j (by simpa using hj))
      exact ⟨fun _ => hj, fun _ => this⟩
    rw [hpe] at hobj hA hB
    have hkN : ∀ k u, lk k stN.obs = some u → ∃ u', lk k st.obs = some u' := fun k u h => hkeys _ k u (Nat.le_refl _) (by rw [← hobsN]; exact h)
    refine hK _ _ _ hk ⟨S', β, hgr, by rw [hparN]; exact hr.par, hdef, hsz, fun t u ht => ?_, by rw [hobsN]; exact hobj, fun k o g h1 => ?_, fun k k' o o' h1 h2 => ?_, fun k o h1 => ?_, by rw [hctrN]; exact hr.parc, fun k o hp h1 => ?_⟩
    · rw [hobsN]
      rcases hsrcN t u ht with ⟨j, hj, hjt, hp⟩ | ⟨hno, u0, hu0, hp⟩
      · obtain ⟨h1, h2⟩ := hA j t (hall j (by simpa using hj)) hjt
        exact ⟨h1, srep_plain hp.symm h2⟩
      · obtain ⟨h1, h2⟩ := hB t u0 (fun j _ hjt => by
          by_cases hj : j < ops.toList.length
          · exact hno j hj hjt
          · unfold dstOf at hjt
            rw [List.getElem?_eq_none (by omega)] at hjt
            simp at hjt) hu0
        exact ⟨h1, srep_plain hp.symm h2⟩
    · obtain ⟨u, hu⟩ := hkN k o h1; exact hr.up k u g hu
    · obtain ⟨u, hu⟩ := hkN k o h1
      obtain ⟨u', hu'⟩ := hkN k' o' h2
      exact hr.sep k k' u u' hu hu'
    · obtain ⟨u, hu⟩ := hkN k o h1
      rw [hctrN]
      exact hr.ctr k u hu
    · obtain ⟨u, hu⟩ := hkN k o h1; exact hr.fix k u hp hu
  · refine Nat.le_trans (List.length_filter_le _ _) (by simp)
  · have e0 : OB' 0 = st.obs := by rw [eq 0 (Nat.zero_le _)]; exact hOB0
    refine ⟨S, 0, ⟨hr.gr.os, hr.gr.tape, hr.gr.output, hr.gr.size, hr.gr.block, hr.gr.sub, hr.gr.new, hr.gr.lt, hr.gr.gd.1, hr.gr.gd.2.mono (fun _ _ => rfl) (fun _ h => h)⟩, hr.defers, hr.size, fun k o ho => ?_, fun j t hj => ?_, fun t u _ hu => ?_, Nat.zero_le _, fun j q _ _ => ?_, fun j q _ hj => ?_⟩
    · rw [e0] at ho
      exact orep_mono (w := w) (fun _ _ => rfl) (fun _ h => h) (fun g hg => ⟨rfl, (orep_blk (hr.objs k o ho) hg).2.2⟩) (hr.objs k o ho)
    · exfalso
      by_cases hlt : j < ops.size <;> simp [hlt] at hj
    · rw [e0]
      obtain ⟨h1, h2⟩ := hr.slots t u hu
      exact ⟨h1, srep_mono (w := w) (w' := { w with drawn := w.drawn + 1 }) (S' := S) (fun _ _ => rfl) (fun _ h => h) h2⟩
    · have : ¬ ((Array.replicate ops.size false).getD j false = true) := by by_cases hlt : j < ops.size <;> simp [hlt]
      exact ⟨fun h => absurd h this, fun h => by omega⟩
    · exfalso
      by_cases hlt : j < ops.size <;> simp [hlt] at hj
end Go.Proofs.YthepmpfkkhckpaaGreatDoor.Am
