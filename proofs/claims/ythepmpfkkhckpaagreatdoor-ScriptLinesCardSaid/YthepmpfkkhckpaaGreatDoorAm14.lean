import Derived.Test.YthepmpfkkhckpaaGreatDoorAm13b
import Derived.LoopN
import Derived.Scope
set_option linter.unusedVariables false
set_option linter.unusedSimpArgs false
namespace Go.Proofs.YthepmpfkkhckpaaGreatDoor.Am
open Go Go.RowKit

/-! ### 12. Code -/
inductive AE where
  | normal
  | ret
  | exit (id : Nat)
/-- Whatever the one state stands for the other one stands for, too. -/
def Le (s s' : St) : Prop := ∀ (W0 : Bas) (S0 : Nat → Prop) (n : Nat) (a : Act) (w : World), Rel W0 S0 n s a w → Rel W0 S0 n s' a w
def ALp (body : (AE → St → Prop) → St → Prop) (Q : AE → St → Prop) (st : St) : Prop :=
  ∃ (ι : Type) (sh : ι → St) (inv : ι → Prop) (μ : ι → Nat), (∃ x, inv x ∧ Le st (sh x)) ∧
    ∀ x, inv x → body (fun e s => match e with
      | .normal => ∃ y, inv y ∧ μ y < μ x ∧ Le s (sh y)
      | .ret => Q .ret s
      | .exit i => Q (.exit i) s) (sh x)
def relab (c : Operand) (b : Bool) (st : St) : St :=
  match c with
  | .tmp d => st.put (some d) (.b b)
  | _ => st
section
variable (F : Sy) (C : Key → List AV → Res → Prop) (D : Code → (AE → St → Prop) → St → Prop) (E : En)
def firstId : Code → Option Nat
  | .region id _ _ => some id
  | .seq x _ => firstId x
  | .block _ c => firstId c
  | .loop c => firstId c
  | _ => none
def cutAt (c : Code) : Bool := match firstId c with | some id => memN id E.cuts | none => false
def awp : Code → (AE → St → Prop) → St → Prop
  | .skip, Q, st => Q .normal st
  | .region _ ops dr, Q, st => (match dr with
    | true => C (.ben E ops.toList) [] (.pure []) ∧ adr F C E ops.toList ops.toList (Q .normal) st
    | false => aops F C E ops.toList ops.toList (Q .normal) st)
  | .seq x y, Q, st => awp x (fun e s => match e with
    | .normal => (match cutAt E y with | true => ∃ s', Le s s' ∧ D y Q s' | false => awp y Q s)
    | .ret => Q .ret s
    | .exit i => Q (.exit i) s) st
  | .cond c x y, Q, st => (match ev st c with
    | some (.b true) => awp x Q st
    | some (.b false) => awp y Q st
    | some (.v (.bool t)) => (t = true → awp x Q (relab c true st)) ∧ (t = false → awp y Q (relab c false st))
    | _ => False)
  | .block id c, Q, st => awp c (fun e s => match e with
    | .normal => Q .normal s
    | .ret => Q .ret s
    | .exit i => if i = id then Q .normal s else Q (.exit i) s) st
  | .loop c, Q, st => ALp (awp c) Q st
  | .exit id, Q, st => Q (.exit id) st
  | .ret, Q, st => Q .ret st
  | .scope c, Q, st => awp c Q st
  | .rangeFunc _ _ _ _, _, _ => False
  | .label _, Q, st => Q .normal st
  | .goto _, _, _ => False
  | .refuse _, _, _ => False
end
def toExit : AE → Exit
  | .normal => .normal
  | .ret => .ret
  | .exit i => .exit i

variable {P : Program} {W0 : Bas} {S0 : Nat → Prop} {E : En}
/-- What a cut stands for. -/
def Snd (P : Program) (E : En) (c : Code) (Q : AE → St → Prop) (st : St) : Prop :=
  ∀ (W0 : Bas) (S0 : Nat → Prop) (R : Exit → Act → World → Prop) (a : Act) (w : World), Rel W0 S0 E.n st a w → (∀ e st' a' w', Q e st' → Rel W0 S0 E.n st' a' w' → R (toExit e) a' w') → c.wp P R a w
theorem awp_ok (hΓ : TOKs P) (hm : P.follows .mixedOrders = true) : ∀ (c : Code) (Q : AE → St → Prop) (R : Exit → Act → World → Prop) (st : St) (a : Act) (w : World), awp sy (CSem P) (Snd P E) E c Q st → Rel W0 S0 E.n st a w → (∀ e st' a' w', Q e st' → Rel W0 S0 E.n st' a' w' → R (toExit e) a' w') → c.wp P R a w := by
  intro c
  induction c with
  | skip => intro Q R st a w h hr hq; exact wp_skip (hq .normal _ _ _ h hr)
  | region id ops dr =>
    intro Q R st a w h hr hq
    simp only [awp] at h
    split at h
    · obtain ⟨hb, h⟩ := h
      exact adr_ok hΓ hm hb (fun st' a' w' hk hr' => hq .normal _ _ _ hk hr') h hr
    · exact wp_region_list (aops_ok hΓ (fun st' a' w' hk hr' => hq .normal _ _ _ hk hr') ops.toList st a w h hr)
  | seq x y ihx ihy =>
    intro Q R st a w h hr hq
    simp only [awp] at h
    refine wp_seq (ihx _ _ st a w h hr (fun e st' a' w' hk hr' => ?_))
    cases e with
    | normal =>
      simp only at hk
      split at hk
      · obtain ⟨s', hle, hd⟩ := hk
        exact hd _ _ _ _ _ (hle _ _ _ _ _ hr') hq
      · exact ihy _ _ st' a' w' hk hr' hq
    | ret => exact hq .ret _ _ _ hk hr'
    | exit i => exact hq (.exit i) _ _ _ hk hr'
  | cond c x y ihx ihy =>
    intro Q R st a w h hr hq
    simp only [awp] at h
    have hval : ∀ u, ev st c = some u → ∃ S β, SRep w S β st.obs u (a.eval c) := fun u hu => by
      obtain ⟨S, β, hr⟩ := hr
      exact ⟨S, β, ev_ok hr hu⟩
    have hrel : ∀ t b, ev st c = some (.v (.bool t)) → t = b → Rel W0 S0 E.n (relab c b st) a w := by
      intro t b hc htb
      cases c with
      | tmp d => exact rel_relabel hr hc (by simp [plain, htb])
      | const v => exact hr
      | global g => exact hr
      | func f => exact hr
    split at h
    · rename_i hc
      obtain ⟨S, β, hv⟩ := hval _ hc
      exact wp_cond_true (srep_b hv) (ihx _ _ _ _ _ h hr hq)
    · rename_i hc
      obtain ⟨S, β, hv⟩ := hval _ hc
      exact wp_cond_false (srep_b hv) (ihy _ _ _ _ _ h hr hq)
    · rename_i t hc
      obtain ⟨S, β, hv⟩ := hval _ hc
      cases t with
      | true => exact wp_cond_true (srep_v hv) (ihx _ _ _ _ _ (h.1 rfl) (hrel _ _ hc rfl) hq)
      | false => exact wp_cond_false (srep_v hv) (ihy _ _ _ _ _ (h.2 rfl) (hrel _ _ hc rfl) hq)
    · exact h.elim
  | block id c ih =>
    intro Q R st a w h hr hq
    simp only [awp] at h
    refine wp_block (ih _ _ st a w h hr (fun e st' a' w' hk hr' => ?_))
    cases e with
    | normal => exact hq .normal _ _ _ hk hr'
    | ret => exact hq .ret _ _ _ hk hr'
    | exit i =>
      simp only [toExit, Exit.inBlock]
      by_cases e : i = id
      · subst e
        simp only [if_true] at hk ⊢
        exact hq .normal _ _ _ hk hr'
      · rw [if_neg e]
        simp only [if_neg e] at hk
        exact hq (.exit i) _ _ _ hk hr'
  | loop c ih =>
    intro Q R st a w h hr hq
    simp only [awp] at h
    obtain ⟨ι, sh, inv, μ, ⟨x0, hx0, hle⟩, hstep⟩ := h
    have key : ∀ n x a w, inv x → μ x < n → Rel W0 S0 E.n (sh x) a w → Code.rounds P c R n a w := by
      intro n
      induction n with
      | zero => intro x a w _ h; omega
      | succ n ihn =>
        intro x a w hx hμ hr
        rw [rounds_succ]
        refine ih _ _ (sh x) a w (hstep x hx) hr (fun e st' a' w' hk hr' => ?_)
        cases e with
        | normal =>
          obtain ⟨y, hy, hμy, hley⟩ := hk
          exact ihn y a' w' hy (by omega) (hley _ _ _ _ _ hr')
        | ret => exact hq .ret _ _ _ hk hr'
        | exit i => exact hq (.exit i) _ _ _ hk hr'
    exact wp_loop_rounds (μ x0 + 1) (key _ x0 a w hx0 (by omega) (hle _ _ _ _ _ hr))
  | exit id => intro Q R st a w h hr hq; exact wp_exit (hq (.exit id) _ _ _ h hr)
  | ret => intro Q R st a w h hr hq; exact wp_ret (hq .ret _ _ _ h hr)
  | scope c ih =>
    intro Q R st a w h hr hq
    exact wp_scope_straight (ih Q (Exit.noGoto R) st a w h hr (fun e st' a' w' hk hr' => by
      have := hq e st' a' w' hk hr'
      cases e <;> exact this))
  | rangeFunc f ps x y ih1 ih2 => intro Q R st a w h hr hq; exact h.elim
  | label l => intro Q R st a w h hr hq; exact wp_label (hq .normal _ _ _ h hr)
  | goto l => intro Q R st a w h hr hq; exact h.elim
  | refuse y => intro Q R st a w h hr hq; exact h.elim

/-! ### 13. Weaker states -/
def rn0 (κ : List (Nat × Nat)) (k : Nat) : Nat := match lk k κ with | some j => j | none => k
def rnA (κ : List (Nat × Nat)) : AV → AV
  | .own k v => .own (rn0 κ k) v
  | .ptr k o => .ptr (rn0 κ k) o
  | .rel k v m i cs o => .rel (rn0 κ k) v m i cs o
  | .mo k => .mo (rn0 κ k)
  | x => x
def noTup : AV → Bool
  | .osl _ _ _ => false
  | .tup (_ :: _) => false
  | _ => true
def leSl (κ : List (Nat × Nat)) (s : List (Nat × AV)) : List (Nat × AV) → Prop
  | [] => True
  | (t, x) :: r => (match lk t s with | some y => plain y = plain (rnA κ x) | none => False) ∧ (if noTup x = true then leSl κ s r else False)
def leOb (κ : List (Nat × Nat)) (s : Obs) (c : Nat) : Obs → Prop
  | [] => True
  | (k, o) :: r => (match lk (rn0 κ k) s with | some o2 => o2 = o | none => False) ∧ (if Nat.blt k c = true then leOb κ s c r else False)
def memK (j : Nat) (κ : List (Nat × Nat)) : Obs → Bool
  | [] => false
  | (k, _) :: r => if rn0 κ k = j then true else memK j κ r
def injK (κ : List (Nat × Nat)) : Obs → Bool
  | [] => true
  | (k, _) :: r => if memK (rn0 κ k) κ r = true then false else injK κ r
theorem leSl_get {κ : List (Nat × Nat)} {s : List (Nat × AV)} : ∀ {l : List (Nat × AV)}, leSl κ s l → ∀ t x, (t, x) ∈ l → noTup x = true ∧ ∃ y, lk t s = some y ∧ plain y = plain (rnA κ x) := by
  intro l
  induction l with
  | nil => intro _ t x h; simp at h
  | cons p l ih =>
    obtain ⟨k, z⟩ := p
    intro h t x hx
    simp only [leSl] at h
    obtain ⟨h1, h2⟩ := h
    split at h2
    · rename_i hn
      rcases List.mem_cons.1 hx with e | hx
      · injection e with e1 e2
        subst e1 e2
        split at h1
        · rename_i y hy; exact ⟨hn, y, hy, h1⟩
        · exact h1.elim
      · exact ih h2 t x hx
    · exact h2.elim
theorem leOb_get {κ : List (Nat × Nat)} {s : Obs} {c : Nat} : ∀ {l : Obs}, leOb κ s c l → ∀ k o, (k, o) ∈ l → lk (rn0 κ k) s = some o ∧ k < c := by
  intro l
  induction l with
  | nil => intro _ t x h; simp at h
  | cons p l ih =>
    obtain ⟨k, z⟩ := p
    intro h t x hx
    simp only [leOb] at h
    obtain ⟨h1, h2⟩ := h
    split at h2
    · rename_i hn
      rcases List.mem_cons.1 hx with e | hx
      · injection e with e1 e2
        subst e1 e2
        split at h1
        · rename_i y hy; subst h1; exact ⟨hy, by simpa using hn⟩
        · exact h1.elim
      · exact ih h2 t x hx
    · exact h2.elim
theorem injK_spec {κ : List (Nat × Nat)} : ∀ {l : Obs}, injK κ l = true → ∀ k k' o o', (k, o) ∈ l → (k', o') ∈ l → k ≠ k' → rn0 κ k ≠ rn0 κ k' := by
  have mem : ∀ (l : Obs) j k o, (k, o) ∈ l → rn0 κ k = j → memK j κ l = true := by
    intro l
    induction l with
    | nil => intro j k o h; simp at h
    | cons p l ih =>
      obtain ⟨k0, z⟩ := p
      intro j k o h e
      simp only [memK]
      rcases List.mem_cons.1 h with h | h
      · injection h with h1 h2; subst h1; rw [if_pos e]
      · split
        · rfl
        · exact ih j k o h e
  intro l
  induction l with
  | nil => intro _ k k' o o' h; simp at h
  | cons p l ih =>
    obtain ⟨k0, z⟩ := p
    intro h k k' o o' hk hk' hne e
    simp only [injK] at h
    split at h
    · simp at h
    · rename_i hm
      rcases List.mem_cons.1 hk with h1 | h1
      · injection h1 with h1 _
        subst h1
        rcases List.mem_cons.1 hk' with h2 | h2
        · injection h2 with h2 _; exact hne h2.symm
        · exact hm (mem l _ k' o' h2 e.symm)
      · rcases List.mem_cons.1 hk' with h2 | h2
        · injection h2 with h2 _
          subst h2
          exact hm (mem l _ k o h1 e)
        · exact ih h k k' o o' h1 h2 hne e
/-- The versions of rows begin anew. -/
def Ob.fresh : Ob → Ob
  | .row e sz rows ver _ => .row e sz rows ver 0
  | o => o
def relT : AV → Bool
  | .osl _ _ _ => true
  | .rel _ _ _ _ _ _ => true
  | .tup (_ :: _) => true
  | _ => false
def killR (x : AV) : AV := if relT x = true then .dead else x
def freshObs : Obs → Obs
  | [] => []
  | (k, o) :: r => (k, o.fresh) :: freshObs r
theorem lk_fresh : ∀ (l : Obs) (k : Nat), lk k (freshObs l) = (lk k l).map Ob.fresh := by
  intro l k
  induction l with
  | nil => rfl
  | cons p l ih =>
    obtain ⟨j, o⟩ := p
    simp only [freshObs, lk]
    split
    · rfl
    · exact ih
def St.fresh (s : St) : St := { slots := mapS killR s.slots, obs := freshObs s.obs, ctr := s.ctr, par := s.par }
theorem orep_fresh {w : World} {S : Nat → Prop} {B : Nat} {x : Value} {o : Ob} (h : ORep w S B x o) : ORep w S B x o.fresh := by cases o <;> exact h
theorem le_fresh {s : St} : Le s s.fresh := by
  rintro W0 S0 n a w ⟨S, β, hr⟩
  have hob : ∀ k o, lk k s.fresh.obs = some o → ∃ o', lk k s.obs = some o' ∧ o = o'.fresh := by
    intro k o hk
    have hk : (lk k s.obs).map Ob.fresh = some o := by rw [← lk_fresh]; exact hk
    cases ho : lk k s.obs with
    | none => rw [ho] at hk; simp at hk
    | some o' => rw [ho] at hk; injection hk with hk; exact ⟨o', rfl, hk.symm⟩
  refine ⟨S, β, hr.gr, hr.par, hr.defers, hr.size, fun t x ht => ?_, fun k o hk => ?_, fun k o g hk => ?_, fun k k' o o' hk hk' => ?_, fun k o hk => ?_, hr.parc, fun k o hp hk => ?_⟩
  · have ht : (lk t s.slots).map killR = some x := by rw [← lk_mapS]; exact ht
    cases hy : lk t s.slots with
    | none => rw [hy] at ht; simp at ht
    | some y =>
      rw [hy] at ht
      injection ht with ht
      obtain ⟨h1, h2⟩ := hr.slots t y hy
      refine ⟨h1, ?_⟩
      by_cases hrel : relT y = true
      · rw [← ht, killR, if_pos hrel]; exact trivial
      · rw [killR, if_neg hrel] at ht
        subst ht
        cases y <;> try exact h2
        · rename_i k v
          intro e sz rows m hk
          obtain ⟨o', ho', he⟩ := hob _ _ hk
          cases o' <;> simp [Ob.fresh] at he
          rename_i e0 sz0 rows0 v0 m0
          obtain ⟨rfl, rfl, rfl, rfl, rfl⟩ := he
          exact (show ∀ e sz rows m, lk k s.obs = some (.row e sz rows v m) → a.tmps.getD t undef = β k from h2) _ _ _ _ ho'
        · exact absurd rfl hrel
        · exact absurd rfl hrel
        · rename_i vs
          cases vs with
          | nil => rw [tup_nil_inv h2]; exact tup_nil
          | cons v vs => exact absurd rfl hrel
        · rename_i k
          intro ks vs hk
          obtain ⟨o', ho', he⟩ := hob _ _ hk
          cases o' <;> simp [Ob.fresh] at he
          obtain ⟨rfl, rfl⟩ := he
          exact (show ∀ ks vs, lk k s.obs = some (.mp ks vs) → a.tmps.getD t undef = β k from h2) _ _ ho'
  · obtain ⟨o', ho', rfl⟩ := hob _ _ hk
    exact orep_fresh (hr.objs _ _ ho')
  · obtain ⟨o', ho', rfl⟩ := hob _ _ hk
    exact hr.up _ _ g ho'
  · obtain ⟨o1, h1, rfl⟩ := hob _ _ hk
    obtain ⟨o2, h2, rfl⟩ := hob _ _ hk'
    exact hr.sep _ _ _ _ h1 h2
  · obtain ⟨o', ho', rfl⟩ := hob _ _ hk
    exact hr.ctr _ _ ho'
  · obtain ⟨o', ho', rfl⟩ := hob _ _ hk
    exact hr.fix _ _ hp ho'
theorem Le.trans {a b c : St} (h : Le a b) (k : Le b c) : Le a c := fun W0 S0 n ac w hr => k _ _ _ _ _ (h _ _ _ _ _ hr)
def parK (κ : List (Nat × Nat)) (par : Nat) : Obs → Bool
  | [] => true
  | (k, _) :: r => if Nat.blt k par = Nat.blt (rn0 κ k) par then (if Nat.blt k par = true then (if rn0 κ k = k then parK κ par r else false) else parK κ par r) else false
theorem parK_get {κ : List (Nat × Nat)} {par : Nat} : ∀ {l : Obs}, parK κ par l = true → ∀ k o, (k, o) ∈ l → (k < par ↔ rn0 κ k < par) ∧ (k < par → rn0 κ k = k) := by
  intro l
  induction l with
  | nil => intro _ k o h; simp at h
  | cons p l ih =>
    obtain ⟨j, u⟩ := p
    intro h k o hk
    simp only [parK] at h
    split at h
    · rename_i e
      have h2 : parK κ par l = true ∧ (j < par → rn0 κ j = j) := by
        split at h
        · split at h
          · rename_i e2; exact ⟨h, fun _ => e2⟩
          · simp at h
        · rename_i e2; exact ⟨h, fun h3 => absurd (by rw [Nat.blt_eq]; exact h3) e2⟩
      rcases List.mem_cons.1 hk with h1 | h1
      · injection h1 with h1 _
        subst h1
        exact ⟨by rw [← Nat.blt_eq, ← Nat.blt_eq, e], h2.2⟩
      · exact ih h2.1 k o h1
    · simp at h
theorem le_of (κ : List (Nat × Nat)) {s s' : St} (h : leSl κ s.slots s'.slots ∧ leOb κ s.obs s'.ctr s'.obs ∧ injK κ s'.obs = true ∧ s'.par = s.par ∧ Nat.ble s.par s'.ctr = true ∧ parK κ s.par s'.obs = true) : Le s s' := by
  obtain ⟨h1, h2, h3, h4', h5', h6'⟩ := h
  rintro W0 S0 n a w ⟨S, β, hr⟩
  refine ⟨S, fun k => β (rn0 κ k), hr.gr, by rw [h4']; exact hr.par, hr.defers, hr.size, fun t x ht => ?_, fun k o hk => ?_, fun k o g hk hg => ?_, fun k k' o o' hk hk' hne => ?_, fun k o hk => ?_, by rw [← hr.par]; simpa using h5', fun k o hp hk => ?_⟩
  · obtain ⟨hn, y, hy, hp⟩ := leSl_get h1 t x (lk_mem ht)
    obtain ⟨h4, h5⟩ := hr.slots t y hy
    refine ⟨h4, ?_⟩
    have h6 := srep_plain hp h5
    have hob : ∀ k o, lk k s'.obs = some o → lk (rn0 κ k) s.obs = some o := fun k o hk => (leOb_get h2 k o (lk_mem hk)).1
    cases x <;> try exact h6
    · rename_i k v
      intro e sz rows m hk
      exact (show ∀ e sz rows m, lk (rn0 κ k) s.obs = some (.row e sz rows v m) → a.tmps.getD t undef = β (rn0 κ k) from h6) _ _ _ _ (hob _ _ hk)
    · rename_i k v m i cs off
      intro e sz rows m' hk
      exact (show RelP β s.obs (rn0 κ k) v m i cs off (a.tmps.getD t undef) from h6) _ _ _ _ (hob _ _ hk)
    · simp [noTup] at hn
    · rename_i vs
      cases vs with
      | nil => rw [tup_nil_inv h6]; exact tup_nil
      | cons v vs => simp [noTup] at hn
    · rename_i k
      intro ks vs hk
      exact (show ∀ ks vs, lk (rn0 κ k) s.obs = some (.mp ks vs) → a.tmps.getD t undef = β (rn0 κ k) from h6) _ _ (hob _ _ hk)
  · exact hr.objs _ _ (leOb_get h2 k o (lk_mem hk)).1
  · have := hr.up _ _ g (leOb_get h2 k o (lk_mem hk)).1 hg
    have hp := (parK_get h6' k o (lk_mem hk)).1
    rw [hr.par] at hp
    by_cases hlt : k < W0.par
    · rw [if_pos hlt]; rwa [if_pos (hp.1 hlt)] at this
    · rw [if_neg hlt]; rwa [if_neg (fun h => hlt (hp.2 h))] at this
  · exact hr.sep _ _ _ _ (leOb_get h2 k o (lk_mem hk)).1 (leOb_get h2 k' o' (lk_mem hk')).1 (injK_spec h3 k k' o o' (lk_mem hk) (lk_mem hk') hne)
  · exact (leOb_get h2 k o (lk_mem hk)).2
  · have h7 := (parK_get h6' k o (lk_mem hk)).2 (by rw [hr.par]; exact hp)
    rw [h7]
    have := (leOb_get h2 k o (lk_mem hk)).1
    rw [h7] at this
    exact hr.fix k o hp this
end Go.Proofs.YthepmpfkkhckpaaGreatDoor.Am
