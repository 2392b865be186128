import Derived.Test.YthepmpfkkhckpaaGreatDoorAm14
set_option linter.unusedVariables false
set_option linter.unusedSimpArgs false
namespace Go.Proofs.YthepmpfkkhckpaaGreatDoor.Am
open Go Go.RowKit

/-! ### 14. Functions -/
def st0 (i : Nat) : List AV → List (Nat × AV)
  | [] => []
  | x :: r => (i, x) :: st0 (i + 1) r
def opOf : ResultVar → Operand
  | .tmp t => .tmp t
  | .cell p _ => .tmp p
def resVar (st : St) : ResultVar → Option AV
  | .tmp t => lk t st.slots
  | .cell p T => match gam T, lk p st.slots with
    | some ti, some q => (match deref st.obs q with
      | some (cs, off) => (match cut off ti.size cs with
        | some ds => if ti.agg = true then some (.agg ds) else (match ds with | [d] => some d | _ => none)
        | none => none)
      | none => none)
    | _, _ => none
def eqR (y x : AV) : Prop :=
  match y, x with
  | .v (.slice none 0 0), .sl rows => rows = []
  | y, x => plain y = plain x
def eqRs (st : St) : List ResultVar → List AV → Prop
  | [], [] => True
  | r :: rs, x :: xs => (match resVar st r with | some y => (if okArg y = true then eqR y x else False) | none => False) ∧ eqRs st rs xs
  | _, _ => False
def eqCs : List AV → List AV → Prop
  | [], [] => True
  | y :: ys, x :: xs => eqR y x ∧ eqCs ys xs
  | _, _ => False
def retOK (rs : List ResultVar) (res : Res) (st : St) : Prop :=
  match res with
  | .pure xs => eqRs (frzArgs st (rs.map opOf)) rs xs
  | .own e sz rows rest => match rs with
    | .tmp t :: rs' => (match lk t (frzArgs st (rs'.map opOf)).slots with
        | some (.own k ver) => (match lk k (frzArgs st (rs'.map opOf)).obs with
          | some (.row e' sz' rows' ver' _) => ver = ver' ∧ e' = e ∧ sz' = sz ∧ rows' = rows
          | _ => False)
        | some (.v (.slice none 0 0)) => rows = []
        | _ => False) ∧ eqRs (frzArgs st (rs'.map opOf)) rs' rest
    | _ => False
  | .bx ty cells rest => match rs with
    | .tmp t :: rs' => (match lk t (frzArgs st (rs'.map opOf)).slots with
        | some (.ptr k 0) => (match lk k (frzArgs st (rs'.map opOf)).obs with
          | some (.box ty' cs _) => ty' = ty ∧ eqCs cs cells
          | _ => False)
        | _ => False) ∧ eqRs (frzArgs st (rs'.map opOf)) rs' rest
    | _ => False

variable {P : Program} {E : En}
theorem rep_of_okArg {w : World} {S : Nat → Prop} {β : Nat → Value} {obs : Obs} {y : AV} {v : Value} (hk : okArg y = true) (h : SRep w S β obs y v) : Rep w S y v := by
  cases y <;> first | exact h | simp [okArg] at hk
theorem rep_plain_iff {w : World} {S : Nat → Prop} {x y : AV} {v : Value} (h : plain x = plain y) (hx : Rep w S x v) (hk : okArg x = true) : Rep w S y v := by
  have h1 := srep_plain (β := fun _ => .bool true) (obs := []) h (srep_of_rep hx)
  refine rep_of_okArg ?_ h1
  cases x <;> cases y <;> simp_all [plain, okArg]
theorem rep_of_eqR {w : World} {S : Nat → Prop} {x y : AV} {v : Value} (hk : okArg y = true) (h : eqR y x) (hy : Rep w S y v) : Rep w S x v := by
  unfold eqR at h
  split at h
  · subst h
    cases hy with
    | c h => cases h; exact .c (.nil _ _ (fun _ => rfl))
  · exact rep_plain_iff h hy hk
theorem repc_nlit {w : World} {S : Nat → Prop} {y : AV} {v : Value} (h : RepC w S y v) (rows : List (List AV)) : plain y ≠ plain (.lit rows) := by
  cases h <;> simp [plain]
theorem repc_nftp {w : World} {S : Nat → Prop} {y : AV} {v : Value} (h : RepC w S y v) (vs : List AV) : plain y ≠ plain (.ftp vs) := by
  cases h <;> simp [plain]
theorem repc_nmp {w : World} {S : Nat → Prop} {y : AV} {v : Value} (h : RepC w S y v) (ks : List ByteArray) (vs : List AV) : plain y ≠ plain (.mp ks vs) := by
  cases h <;> simp [plain]
theorem repc_of_eqR {w : World} {S : Nat → Prop} {x y : AV} {v : Value} (h : eqR y x) (hy : RepC w S y v) : RepC w S x v := by
  unfold eqR at h
  split at h
  · subst h
    cases hy
    exact .nil _ _ (fun _ => rfl)
  · have h1 : Rep w S x v := rep_plain_iff h (.c hy) (by cases hy <;> rfl)
    cases h1 with
    | c h1 => exact h1
    | agg h1 => cases hy <;> simp [plain] at h
    | ept h1 => cases hy <;> simp [plain] at h
    | clo h1 h2 => cases hy <;> simp [plain] at h
    | lit h1 => exact absurd h (repc_nlit hy _)
    | ftp h1 h2 => exact absurd h (repc_nftp hy _)
    | mp hs hh hk hl _ _ h1 => exact absurd h (repc_nmp hy _ _)
theorem repl_of_eqCs {w : World} {S : Nat → Prop} : ∀ (ys xs : List AV) (vs : List Value), eqCs ys xs → RepL w S ys vs → RepL w S xs vs := by
  intro ys
  induction ys with
  | nil => intro xs vs h hr; cases xs <;> simp [eqCs] at h; exact hr
  | cons y ys ih =>
    intro xs vs h hr
    cases xs with
    | nil => simp [eqCs] at h
    | cons x xs =>
      obtain ⟨v, vs', rfl, h1, h2⟩ := hr.uncons
      exact RepL.cons (repc_of_eqR h.1 h1) (ih _ _ h.2 h2)
def R1 (P : Program) (tmps : Array Value) (w : World) (r : ResultVar) (v : Value) : Prop :=
  match r with
  | .tmp t => v = tmps.getD t undef
  | .cell p T => ∃ a, tmps.getD p undef = .pointer (some a) ∧ (loadVar T a).run P w = .ok v w
theorem resVar_ok {W0 : Bas} {S0 : Nat → Prop} {n : Nat} (hΓ : TOKs P) {S : Nat → Prop} {β : Nat → Value} {st : St} {a : Act} {w : World} (h : RelS W0 S0 n S β st a w) {r : ResultVar} {y : AV} (hy : resVar st r = some y) : ∃ v, R1 P a.tmps w r v ∧ SRep w S β st.obs y v := by
  cases r with
  | tmp t => exact ⟨_, rfl, (h.slots t y hy).2⟩
  | cell p T =>
    simp only [resVar] at hy
    split at hy
    · rename_i ti q hti hq
      split at hy
      · rename_i cs off hd
        split at hy
        · rename_i ds hds
          obtain ⟨ad, hv, hcells⟩ := deref_ok h.objs hd (h.slots p q hq).2
          obtain ⟨xs, hl, hrep, hx⟩ := cut_ok (f := fun i => ad.add i) hcells off ti.size ds hds
          have ht := hΓ _ _ hti
          have hxl : xs.length = ti.size := by rw [← hrep.1, hl]
          split at hy
          · rename_i hag
            injection hy with hy
            subst hy
            have h1 := run_loadCells_ok (P := P) (w := w) (b := ad.add off) (xs := xs) (fun j x hj => by rw [add_add]; exact hx j x hj)
            rw [hxl] at h1
            exact ⟨.agg xs.toArray, ⟨_, hv, by simp [loadVar, ht.agg, hag, ht.size, h1]⟩, srep_of_rep (.agg hrep)⟩
          · rename_i hag
            split at hy
            · rename_i d
              injection hy with hy
              subst hy
              obtain ⟨y1, ys, rfl, hry, hys⟩ := hrep.uncons
              have := hys.unnil
              subst this
              have h1 : w.cell? (ad.add off) = some y1 := hx 0 y1 rfl
              exact ⟨y1, ⟨_, hv, by simp [loadVar, ht.agg, hag, load, Sem.run, h1]⟩, srep_c hry⟩
            · simp at hy
        · simp at hy
      · simp at hy
    · simp at hy
theorem eqRs_ok {W0 : Bas} {S0 : Nat → Prop} {n : Nat} (hΓ : TOKs P) {S : Nat → Prop} {β : Nat → Value} {st : St} {a : Act} {w : World} (h : RelS W0 S0 n S β st a w) : ∀ (rs : List ResultVar) (xs : List AV), eqRs st rs xs → ∃ ys : List Value, rs.length = ys.length ∧ (∀ (i : Nat) r v, rs[i]? = some r → ys[i]? = some v → R1 P a.tmps w r v) ∧ Reps w S xs ys := by
  intro rs
  induction rs with
  | nil =>
    intro xs hx
    cases xs with
    | nil => exact ⟨[], rfl, fun i r v h => by simp at h, Reps.nil _ _⟩
    | cons x xs => simp [eqRs] at hx
  | cons r rs ih =>
    intro xs hx
    cases xs with
    | nil => simp [eqRs] at hx
    | cons x xs =>
      simp only [eqRs] at hx
      obtain ⟨h1, h2⟩ := hx
      split at h1
      · rename_i y hy
        split at h1
        · rename_i hk
          obtain ⟨v, hv, hs⟩ := resVar_ok hΓ h hy
          obtain ⟨ys, h3, h4, h5⟩ := ih xs h2
          refine ⟨v :: ys, by simp [h3], fun i r' v' hr' hv' => ?_, Reps.cons (rep_of_eqR hk h1 (rep_of_okArg hk hs)) h5⟩
          cases i with
          | zero => simp at hr' hv'; subst hr' hv'; exact hv
          | succ i => exact h4 i r' v' (by simpa using hr') (by simpa using hv')
        · exact h1.elim
      · exact h1.elim
theorem results_run {fn : Func} {tmps : Array Value} {w : World} {ys : List Value} (hl : fn.results.toList.length = ys.length) (h4 : ys.length ≤ 4) (h : ∀ (i : Nat) r v, fn.results.toList[i]? = some r → ys[i]? = some v → R1 P tmps w r v) : (results fn tmps).run P w = .ok (tupV ys) w := by
  obtain ⟨rs, hrs⟩ : ∃ rs, fn.results = rs := ⟨_, rfl⟩
  obtain ⟨l⟩ := rs
  rw [hrs] at hl h
  have one : ∀ r v, R1 P tmps w r v → (∃ t, r = .tmp t ∧ v = tmps[t]?.getD undef) ∨ ∃ p T a, r = .cell p T ∧ tmps[p]?.getD undef = .pointer (some a) ∧ (loadVar T a).run P w = .ok v w := by
    intro r v hr
    cases r with
    | tmp t =>
      have hr' : v = tmps.getD t undef := hr
      simp only [Array.getD_eq_getD_getElem?] at hr'
      exact .inl ⟨t, rfl, hr'⟩
    | cell p T =>
      obtain ⟨a, h1, h2⟩ := hr
      simp only [Array.getD_eq_getD_getElem?] at h1
      exact .inr ⟨p, T, a, rfl, h1, h2⟩
  match l, ys, hl, h4, h with
  | [], [], _, _, _ => simp [results, hrs, tupV]
  | [r], [y], _, _, h =>
    rcases one r y (h 0 r y rfl rfl) with ⟨t, rfl, rfl⟩ | ⟨p, T, a, rfl, h1, h2⟩
    · simp [results, hrs, tupV]
    · simp [results, hrs, tupV, asAddr, h1, h2]
  | [r, r2], [y, y2], _, _, h =>
    rcases one r y (h 0 r y rfl rfl) with ⟨t, rfl, rfl⟩ | ⟨p, T, a, rfl, h1, h2⟩ <;> rcases one r2 y2 (h 1 r2 y2 rfl rfl) with ⟨t2, rfl, rfl⟩ | ⟨p2, T2, a2, rfl, h3, h4⟩ <;> simp [results, hrs, tupV, asAddr, *]
  | [r, r2, r3], [y, y2, y3], _, _, h =>
    rcases one r y (h 0 r y rfl rfl) with ⟨t, rfl, rfl⟩ | ⟨p, T, a, rfl, h1, h2⟩ <;> rcases one r2 y2 (h 1 r2 y2 rfl rfl) with ⟨t2, rfl, rfl⟩ | ⟨p2, T2, a2, rfl, h3, h4⟩ <;> rcases one r3 y3 (h 2 r3 y3 rfl rfl) with ⟨t3, rfl, rfl⟩ | ⟨p3, T3, a3, rfl, h5, h6⟩ <;> simp [results, hrs, tupV, asAddr, *]
  | [r, r2, r3, r4], [y, y2, y3, y4], _, _, h =>
    rcases one r y (h 0 r y rfl rfl) with ⟨t, rfl, rfl⟩ | ⟨p, T, a, rfl, h1, h2⟩ <;> rcases one r2 y2 (h 1 r2 y2 rfl rfl) with ⟨t2, rfl, rfl⟩ | ⟨p2, T2, a2, rfl, h3, h4⟩ <;> rcases one r3 y3 (h 2 r3 y3 rfl rfl) with ⟨t3, rfl, rfl⟩ | ⟨p3, T3, a3, rfl, h5, h6⟩ <;> rcases one r4 y4 (h 3 r4 y4 rfl rfl) with ⟨t4, rfl, rfl⟩ | ⟨p4, T4, a4, rfl, h7, h8⟩ <;> simp [results, hrs, tupV, asAddr, *]
  | _ :: _ :: _ :: _ :: _ :: l, ys, hl, h4, _ => simp at hl; omega
theorem st0_get : ∀ (l : List AV) (i t : Nat) (x : AV), lk t (st0 i l) = some x → i ≤ t ∧ l[t - i]? = some x := by
  intro l
  induction l with
  | nil => intro i t x h; simp [st0, lk] at h
  | cons y l ih =>
    intro i t x h
    simp only [st0, lk] at h
    split at h
    · rename_i e; injection h with h; subst e h; simp
    · obtain ⟨h1, h2⟩ := ih (i + 1) t x h
      exact ⟨by omega, by rw [show t - i = (t - (i + 1)) + 1 from by omega]; simpa using h2⟩
/-- **The contract of a function out of its text.** -/
theorem acalls_of0 (E : En) (hΓ : TOKs P) (hm : P.follows .mixedOrders = true) {f : Nat} {fn : Func} {c : Code} {args : List AV} {res : Res} (hf : P.funcs[f]? = some fn) (hb : fn.body = some c) (hn : fn.ntmps = E.n) (ha : args.length ≤ E.n) (h4 : fn.results.toList.length ≤ 4)
    (h : awp sy (CSem P) (Snd P E) E c (fun e st => match e with | .normal => retOK fn.results.toList res st | .ret => retOK fn.results.toList res st | .exit _ => False) { slots := st0 0 args, obs := [], ctr := 0 }) : ACalls P f args res := by
  intro w S xs hS hgd hreps
  refine calls_of_wp hf hb (awp_ok (W0 := { W := w, par := 0, M := fun _ => False, b0 := fun _ => .bool true }) (S0 := S) hΓ hm c _ _ _ _ _ h ?_ (fun e st' a' w' hk hr => ?_))
  · refine ⟨S, fun _ => .bool true, GrK.refl hS hgd, rfl, rfl, ?_, fun t x ht => ?_, fun k o h => by simp [lk] at h, fun k o g h => by simp [lk] at h, fun k k' o o' h => by simp [lk] at h, fun k o h => by simp [lk] at h, Nat.le_refl _, fun k o _ h => by simp [lk] at h⟩
    · have := hreps.1
      simp
      omega
    · obtain ⟨h1, h2⟩ := st0_get args 0 t x ht
      simp only [Nat.sub_zero] at h2
      have hlt : t < args.length := (List.getElem?_eq_some_iff.1 h2).1
      have hx : t < xs.length := by rw [← hreps.1]; exact hlt
      refine ⟨by omega, ?_⟩
      have hv : (xs.toArray ++ Array.replicate (fn.ntmps - xs.toArray.size) undef).getD t undef = xs[t] := by
        rw [Array.getD_eq_getD_getElem?, Array.getElem?_append_left (by simpa using hx)]
        simp [hx]
      rw [hv]
      exact srep_of_rep (hreps.2 t x _ h2 (List.getElem?_eq_getElem hx))
  · have fin : retOK fn.results.toList res st' → bodyPost P fn (fun e w' => ∃ y S', e = .returned y ∧ Gr w S w' S' ∧ ResR w w' S S' res y) .ret a' w' := by
      intro hret
      obtain ⟨S', β, hr⟩ := hr
      cases res with
      | pure ys =>
        obtain ⟨S2, hr2⟩ := rel_frzArgs (fn.results.toList.map opOf) hr
        obtain ⟨vs, h1, h2, h3⟩ := eqRs_ok hΓ hr2 _ _ hret
        exact ⟨hr.defers, tupV vs, results_run h1 (by omega) h2, _, S2, rfl, hr2.gr.gr (fun _ h => h), vs, rfl, h3⟩
      | own e sz rows rest =>
        simp only [retOK] at hret
        split at hret
        · rename_i rs0 t rs' hrs
          obtain ⟨hown, hrest⟩ := hret
          obtain ⟨S2, hr2⟩ := rel_frzArgs (rs'.map opOf) hr
          obtain ⟨vs, h1, h2, h3⟩ := eqRs_ok hΓ hr2 _ _ hrest
          have hlen : fn.results.toList.length = (a'.tmps.getD t undef :: vs).length := by rw [hrs]; simp [h1]
          have hrun := results_run (P := P) (fn := fn) (tmps := a'.tmps) (w := w') (ys := a'.tmps.getD t undef :: vs) hlen (by rw [← hlen]; exact h4) (fun i r v hri hvi => by
            rw [hrs] at hri
            cases i with
            | zero => simp at hri hvi; subst hri hvi; simp [R1]
            | succ i => exact h2 i r v (by simpa using hri) (by simpa using hvi))
          refine ⟨hr.defers, _, hrun, _, S2, rfl, hr2.gr.gr (fun _ h => h), a'.tmps.getD t undef, vs, ?_⟩
          split at hown
          · rename_i k ver hk1
            split at hown
            · rename_i e' sz' rows' ver' m hl
              obtain ⟨rfl, rfl, rfl, rfl⟩ := hown
              have hy : a'.tmps.getD t undef = β k := (show ∀ e sz rows m, lk k (frzArgs st' (rs'.map opOf)).obs = some (.row e sz rows ver m) → a'.tmps.getD t undef = β k from (hr2.slots t _ hk1).2) _ _ _ _ hl
              obtain ⟨zs, ho1, ho2, ho3, ho4⟩ := hr2.objs _ _ hl
              refine ⟨zs, rfl, by rw [hy]; exact ownsRow_up ho1 (fun g hg => by simpa using hr2.up _ _ g hl (blk_of_own hg)), ho2, ho3, by rw [hy]; exact ho4, h3, ?_⟩
              rcases ho1.2 with ⟨_, h⟩ | ⟨g, cap, cur, fr, _, _, _, _, h5, h6, _⟩
              · omega
              · unfold maxLen at h6; omega
            · exact hown.elim
          · rename_i hk1
            subst hown
            have hy : a'.tmps.getD t undef = .slice none 0 0 := srep_v (hr2.slots t _ hk1).2
            rw [hy]
            exact ⟨[], rfl, OwnR.nil _ _ _ _, RepL.nil _ _, fun r h => by simp at h, fun g hg => by simp [Value.ownBlock] at hg, h3, by simp⟩
          · exact hown.elim
        · exact hret.elim
      | bx ty cells rest =>
        simp only [retOK] at hret
        split at hret
        · rename_i rs0 t rs' hrs
          obtain ⟨hown, hrest⟩ := hret
          obtain ⟨S2, hr2⟩ := rel_frzArgs (rs'.map opOf) hr
          obtain ⟨vs, h1, h2, h3⟩ := eqRs_ok hΓ hr2 _ _ hrest
          have hlen : fn.results.toList.length = (a'.tmps.getD t undef :: vs).length := by rw [hrs]; simp [h1]
          have hrun := results_run (P := P) (fn := fn) (tmps := a'.tmps) (w := w') (ys := a'.tmps.getD t undef :: vs) hlen (by rw [← hlen]; exact h4) (fun i r v hri hvi => by
            rw [hrs] at hri
            cases i with
            | zero => simp at hri hvi; subst hri hvi; simp [R1]
            | succ i => exact h2 i r v (by simpa using hri) (by simpa using hvi))
          refine ⟨hr.defers, _, hrun, _, S2, rfl, hr2.gr.gr (fun _ h => h), ?_⟩
          split at hown
          · rename_i k hk1
            split at hown
            · rename_i ty' cs fz hl
              obtain ⟨rfl, he⟩ := hown
              obtain ⟨g, g1, g2⟩ := (show ∃ g, β k = .pointer (some ⟨g, 0, none⟩) ∧ a'.tmps.getD t undef = .pointer (some ((⟨g, 0, none⟩ : Addr).add 0)) from (hr2.slots t _ hk1).2)
              obtain ⟨g', xs, i1, i2, i3, i4, i5⟩ := hr2.objs _ _ hl
              rw [g1] at i1
              injection i1 with i1
              injection i1 with i1
              injection i1 with i1
              subst i1
              rw [add_mk] at g2
              have hup := hr2.up k _ g hl (by rw [g1]; rfl)
              exact ⟨g, vs, xs, by rw [g2], by simpa using hup, i3, i4, repl_of_eqCs _ _ _ he i5, h3⟩
            · exact hown.elim
          · exact hown.elim
        · exact hret.elim
    cases e with
    | normal => exact fin hk
    | ret => exact fin hk
    | exit i => exact hk.elim
theorem acalls_of (E : En) (hΓ : TOKs P) (hm : P.follows .mixedOrders = true) {f : Nat} {fn : Func} {c : Code} {args : List AV} {res : Res} (hf : P.funcs[f]? = some fn) (hb : fn.body = some c) (hn : fn.ntmps = E.n) (ha : args.length ≤ E.n) (h4 : fn.results.toList.length ≤ 4)
    (h : ∀ (F : Sy) (C : Key → List AV → Res → Prop) (D : Code → (AE → St → Prop) → St → Prop), F = sy → (∀ k as r, CSem P k as r → C k as r) → (∀ c Q s, awp F C D E c Q s → D c Q s) → awp F C D E c (fun e st => match e with | .normal => retOK fn.results.toList res st | .ret => retOK fn.results.toList res st | .exit _ => False) { slots := st0 0 args, obs := [], ctr := 0 }) : ACalls P f args res :=
  acalls_of0 E hΓ hm hf hb hn ha h4 (h sy (CSem P) (Snd P E) rfl (fun _ _ _ h => h) (fun c Q s h W0 S0 R a w hr hq => awp_ok hΓ hm c Q R s a w h hr hq))
theorem fsem_of {f : Nat} {args : List AV} {res : Res} (he : ∀ as w, (callFunc f as).run P w = .ok (.enter f as) w) (h : ACalls P f args res) : CSem P (.fn f) args res := ⟨he, h⟩

/-! ### 15. Functions that write to what they are handed -/
def obEq (o o' : Ob) : Prop :=
  match o, o' with
  | .row e sz rows _ _, .row e' sz' rows' _ _ => e = e' ∧ sz = sz' ∧ rows = rows'
  | .box ty cs _, .box ty' cs' _ => ty = ty' ∧ eqCs cs cs'
  | _, _ => False
def retW (st : St) : Obs → Prop
  | [] => True
  | (k, o') :: r => (match lk k st.obs with | some o => obEq o o' | none => False) ∧ (if Nat.blt k st.par = true then retW st r else False)
def noKey (k : Nat) : Obs → Bool
  | [] => true
  | (j, _) :: r => if j = k then false else noKey k r
def retOKW (rs : List ResultVar) (pars' : Obs) (res : Res) (st : St) : Prop :=
  match res with
  | .pure xs => retW (frzArgs st (rs.map opOf)) pars' ∧ eqRs (frzArgs st (rs.map opOf)) rs xs
  | .own e sz rows rest => match rs with
    | .tmp t :: rs' => retW (frzArgs st (rs'.map opOf)) pars' ∧ (match lk t (frzArgs st (rs'.map opOf)).slots with
        | some (.own k ver) => (match lk k (frzArgs st (rs'.map opOf)).obs with
          | some (.row e' sz' rows' ver' _) => noKey k pars' = true ∧ ver = ver' ∧ e' = e ∧ sz' = sz ∧ rows' = rows
          | _ => False)
        | some (.v (.slice none 0 0)) => rows = []
        | _ => False) ∧ eqRs (frzArgs st (rs'.map opOf)) rs' rest
    | _ => False
  | .bx _ _ _ => False
theorem orep_of_obEq {w : World} {S : Nat → Prop} {B : Nat} {x : Value} {o o' : Ob} (h : obEq o o') (ho : ORep w S B x o) : ORep w S B x o' := by
  cases o <;> cases o' <;> simp only [obEq] at h
  · obtain ⟨rfl, h⟩ := h
    obtain ⟨g, xs, h1, h2, h3, h4, h5⟩ := ho
    exact ⟨g, xs, h1, h2, h3, h4, repl_of_eqCs _ _ _ h h5⟩
  · obtain ⟨rfl, rfl, rfl⟩ := h
    exact ho
theorem retW_ok {st : St} : ∀ {pars' : Obs}, retW st pars' → ∀ k o', lk k pars' = some o' → k < st.par ∧ ∃ o, lk k st.obs = some o ∧ obEq o o' := by
  intro pars'
  induction pars' with
  | nil => intro _ k o' h; simp [lk] at h
  | cons p l ih =>
    obtain ⟨j, u⟩ := p
    intro h k o' hk
    simp only [retW] at h
    obtain ⟨h1, h2⟩ := h
    split at h2
    · rename_i hp
      simp only [lk] at hk
      split at hk
      · rename_i e
        injection hk with hk
        subst hk e
        split at h1
        · rename_i o ho; exact ⟨by simpa using hp, o, ho, h1⟩
        · exact h1.elim
      · exact ih h2 k o' hk
    · exact h2.elim
theorem noKey_ok {k : Nat} : ∀ {l : Obs}, noKey k l = true → ∀ j o, lk j l = some o → j ≠ k := by
  intro l
  induction l with
  | nil => intro _ j o h; simp [lk] at h
  | cons p l ih =>
    obtain ⟨i, u⟩ := p
    intro h j o hj
    simp only [noKey] at h
    split at h
    · simp at h
    · rename_i hne
      simp only [lk] at hj
      split at hj
      · rename_i e; subst e; exact hne
      · exact ih h j o hj
def keysLt (n : Nat) : Obs → Bool
  | [] => true
  | (k, _) :: r => if Nat.blt k n = true then keysLt n r else false
theorem keysLt_ok {n : Nat} : ∀ {l : Obs}, keysLt n l = true → ∀ k o, lk k l = some o → k < n := by
  intro l
  induction l with
  | nil => intro _ j o h; simp [lk] at h
  | cons p l ih =>
    obtain ⟨i, u⟩ := p
    intro h j o hj
    simp only [keysLt] at h
    split at h
    · rename_i hlt
      simp only [lk] at hj
      split at hj
      · rename_i e; subst e; simpa using hlt
      · exact ih h j o hj
    · simp at h
theorem frzArgs_par : ∀ (l : List Operand) (st : St), (frzArgs st l).par = st.par := by
  intro l
  induction l with
  | nil => intro st; rfl
  | cons x l ih =>
    intro st
    simp only [frzArgs]
    split
    · rw [ih]
      unfold St.freeze
      split
      · rfl
      · split <;> rfl
    · rw [ih]
      unfold St.freeze
      split
      · rfl
      · split <;> rfl
    · exact ih st
theorem mcalls_of0 (E : En) (hΓ : TOKs P) (hm : P.follows .mixedOrders = true) {f : Nat} {fn : Func} {c : Code} {args : List AV} {pars pars' : Obs} {res : Res} (hf : P.funcs[f]? = some fn) (hb : fn.body = some c) (hn : fn.ntmps = E.n) (ha : args.length ≤ E.n) (h4 : fn.results.toList.length ≤ 4) (hkl : keysLt args.length pars = true)
    (h : awp sy (CSem P) (Snd P E) E c (fun e st => match e with | .normal => retOKW fn.results.toList pars' res st | .ret => retOKW fn.results.toList pars' res st | .exit _ => False) { slots := st0 0 args, obs := pars, ctr := args.length, par := args.length }) : MCalls P f args pars pars' res := by
  intro w S β xs hS hgd hobj hsep hreps
  refine calls_of_wp hf hb (awp_ok (W0 := { W := w, par := args.length, M := obsBlk pars β, b0 := β }) (S0 := S) hΓ hm c _ _ _ _ _ h ?_ (fun e st' a' w' hk hr => ?_))
  · refine ⟨S, β, GrK.refl hS hgd, rfl, rfl, ?_, fun t x ht => ?_, hobj, fun k o g hk hg => ?_, hsep, fun k o hk => keysLt_ok hkl k o hk, Nat.le_refl _, fun k o _ _ => rfl⟩
    · have := hreps.1
      simp
      omega
    · obtain ⟨h1, h2⟩ := st0_get args 0 t x ht
      simp only [Nat.sub_zero] at h2
      have hlt : t < args.length := (List.getElem?_eq_some_iff.1 h2).1
      have hx : t < xs.length := by rw [← hreps.1]; exact hlt
      refine ⟨by omega, ?_⟩
      have hv : (xs.toArray ++ Array.replicate (fn.ntmps - xs.toArray.size) undef).getD t undef = xs[t] := by
        rw [Array.getD_eq_getD_getElem?, Array.getElem?_append_left (by simpa using hx)]
        simp [hx]
      rw [hv]
      have h3 := hreps.2 t x _ h2 (List.getElem?_eq_getElem hx)
      cases x <;> first | exact h3 | skip
      have h3 : Rep w S _ _ := h3
      cases h3 with
      | c h3 => cases h3
    · rw [if_pos (keysLt_ok hkl k o hk)]
      exact ⟨k, o, hk, hg⟩
  · have fin : retOKW fn.results.toList pars' res st' → bodyPost P fn (fun e w' => ∃ y S', e = .returned y ∧ GrK (obsBlk pars β) w S w' S' ∧ (∀ k o, lk k pars' = some o → ORep w' S' 0 (β k) o) ∧ ResM (obsBlk pars β) pars' β w w' S S' res y) .ret a' w' := by
      intro hret
      obtain ⟨S', β', hr⟩ := hr
      have hpar : st'.par = args.length := hr.par
      cases res with
      | pure ys =>
        obtain ⟨hw, hret⟩ := hret
        obtain ⟨S2, hr2⟩ := rel_frzArgs (fn.results.toList.map opOf) hr
        obtain ⟨vs, h1, h2, h3⟩ := eqRs_ok hΓ hr2 _ _ hret
        refine ⟨hr.defers, tupV vs, results_run h1 (by omega) h2, _, S2, rfl, hr2.gr, fun k o' hk => ?_, vs, rfl, h3⟩
        obtain ⟨hlt, o, ho, he⟩ := retW_ok hw k o' hk
        have hb := hr2.fix k o (by rw [frzArgs_par, hpar] at hlt; exact hlt) ho
        have := hr2.objs k o ho
        rw [hb] at this
        exact orep_of_obEq he this
      | own e sz rows rest =>
        simp only [retOKW] at hret
        split at hret
        · rename_i rs0 t rs' hrs
          obtain ⟨hw, hown, hrest⟩ := hret
          obtain ⟨S2, hr2⟩ := rel_frzArgs (rs'.map opOf) hr
          obtain ⟨vs, h1, h2, h3⟩ := eqRs_ok hΓ hr2 _ _ hrest
          have hlen : fn.results.toList.length = (a'.tmps.getD t undef :: vs).length := by rw [hrs]; simp [h1]
          have hrun := results_run (P := P) (fn := fn) (tmps := a'.tmps) (w := w') (ys := a'.tmps.getD t undef :: vs) hlen (by rw [← hlen]; exact h4) (fun i r v hri hvi => by
            rw [hrs] at hri
            cases i with
            | zero => simp at hri hvi; subst hri hvi; simp [R1]
            | succ i => exact h2 i r v (by simpa using hri) (by simpa using hvi))
          have hold : ∀ k o', lk k pars' = some o' → ORep w' S2 0 (β k) o' ∧ β' k = β k ∧ ∃ o, lk k (frzArgs st' (rs'.map opOf)).obs = some o := by
            intro k o' hk
            obtain ⟨hlt, o, ho, he⟩ := retW_ok hw k o' hk
            have hb := hr2.fix k o (by rw [frzArgs_par, hpar] at hlt; exact hlt) ho
            have := hr2.objs k o ho
            rw [hb] at this
            exact ⟨orep_of_obEq he this, hb, o, ho⟩
          refine ⟨hr.defers, _, hrun, _, S2, rfl, hr2.gr, fun k o' hk => (hold k o' hk).1, a'.tmps.getD t undef, vs, ?_⟩
          split at hown
          · rename_i k ver hk1
            split at hown
            · rename_i e' sz' rows' ver' m hl
              obtain ⟨hnk, rfl, rfl, rfl, rfl⟩ := hown
              have hy : a'.tmps.getD t undef = β' k := (show ∀ e sz rows m, lk k (frzArgs st' (rs'.map opOf)).obs = some (.row e sz rows ver m) → a'.tmps.getD t undef = β' k from (hr2.slots t _ hk1).2) _ _ _ _ hl
              obtain ⟨zs, ho1, ho2, ho3, ho4⟩ := hr2.objs _ _ hl
              refine ⟨zs, rfl, by rw [hy]; exact ho1, ho2, ho3, fun g hg => ?_, h3⟩
              rw [hy] at hg
              have hgb := blk_of_own hg
              refine ⟨ho4 g hg, ?_, ?_⟩
              · have := hr2.up k _ g hl hgb
                split at this
                · exact .inl this
                · exact this.symm
              · rintro ⟨k2, o2, h5, h6⟩
                obtain ⟨_, h7, o3, h8⟩ := hold k2 o2 h5
                exact hr2.sep k2 k o3 _ h8 hl (noKey_ok hnk k2 o2 h5) g (by rw [h7]; exact h6) hgb
            · exact hown.elim
          · rename_i hk1
            subst hown
            have hy : a'.tmps.getD t undef = .slice none 0 0 := srep_v (hr2.slots t _ hk1).2
            rw [hy]
            exact ⟨[], rfl, OwnR.nil _ _ _ _, RepL.nil _ _, fun r h => by simp at h, fun g hg => by simp [Value.ownBlock] at hg, h3⟩
          · exact hown.elim
        · exact hret.elim
      | bx ty cells rest => exact hret.elim
    cases e with
    | normal => exact fin hk
    | ret => exact fin hk
    | exit i => exact hk.elim
theorem mcalls_of (E : En) (hΓ : TOKs P) (hm : P.follows .mixedOrders = true) {f : Nat} {fn : Func} {c : Code} {args : List AV} {pars pars' : Obs} {res : Res} (hf : P.funcs[f]? = some fn) (hb : fn.body = some c) (hn : fn.ntmps = E.n) (ha : args.length ≤ E.n) (h4 : fn.results.toList.length ≤ 4) (hkl : keysLt args.length pars = true)
    (h : ∀ (F : Sy) (C : Key → List AV → Res → Prop) (D : Code → (AE → St → Prop) → St → Prop), F = sy → (∀ k as r, CSem P k as r → C k as r) → (∀ c Q s, awp F C D E c Q s → D c Q s) → awp F C D E c (fun e st => match e with | .normal => retOKW fn.results.toList pars' res st | .ret => retOKW fn.results.toList pars' res st | .exit _ => False) { slots := st0 0 args, obs := pars, ctr := args.length, par := args.length }) : MCalls P f args pars pars' res :=
  mcalls_of0 E hΓ hm hf hb hn ha h4 hkl (h sy (CSem P) (Snd P E) rfl (fun _ _ _ h => h) (fun c Q s h W0 S0 R a w hr hq => awp_ok hΓ hm c Q R s a w h hr hq))
end Go.Proofs.YthepmpfkkhckpaaGreatDoor.Am
