import Derived.Test.YthepmpfkkhckpaaGreatDoorAm7d
set_option linter.unusedVariables false
set_option linter.unusedSimpArgs false
namespace Go.Proofs.YthepmpfkkhckpaaGreatDoor.Am
open Go Go.RowKit
variable {P : Program}

theorem lk_mem {α : Type} {t : Nat} {x : α} : ∀ {l : List (Nat × α)}, lk t l = some x → (t, x) ∈ l := by
  intro l
  induction l with
  | nil => intro h; simp [lk] at h
  | cons p l ih =>
    obtain ⟨k, y⟩ := p
    intro h
    simp only [lk] at h
    split at h
    · rename_i e; injection h with h; subst e h; exact List.mem_cons_self
    · exact List.mem_cons_of_mem _ (ih h)
theorem keysOf_mem : ∀ (l : List AV) (p q k : Nat), (q, k) ∈ keysOf p l → p ≤ q ∧ lk q (keysOf p l) = some k := by
  intro l
  induction l with
  | nil => intro p q k h; simp [keysOf] at h
  | cons x l ih =>
    intro p q k h
    have step : keysOf p (x :: l) = keysOf (p + 1) l → p ≤ q ∧ lk q (keysOf p (x :: l)) = some k := by
      intro e
      rw [e] at h ⊢
      obtain ⟨h1, h2⟩ := ih _ _ _ h
      exact ⟨by omega, h2⟩
    have step2 : ∀ k0, keysOf p (x :: l) = (p, k0) :: keysOf (p + 1) l → p ≤ q ∧ lk q (keysOf p (x :: l)) = some k := by
      intro k0 e
      rw [e] at h ⊢
      rcases List.mem_cons.1 h with h | h
      · injection h with h1 h2
        subst h1 h2
        exact ⟨Nat.le_refl _, by simp [lk]⟩
      · obtain ⟨h1, h2⟩ := ih _ _ _ h
        exact ⟨by omega, by simp only [lk]; rw [if_neg (by omega)]; exact h2⟩
    cases x <;> first | exact step rfl | exact step2 _ rfl
theorem wback_ok {obs pars' : Obs} : ∀ (κ : List (Nat × Nat)) (obs' : Obs), wback obs pars' κ = some obs' → ∀ k o, lk k obs' = some o →
    ((∀ q, (q, k) ∉ κ) ∧ lk k obs = some o) ∨ ∃ q old new, (q, k) ∈ κ ∧ lk q pars' = some new ∧ lk k obs = some old ∧ obMerge old new = some o := by
  intro κ
  induction κ with
  | nil => intro obs' h k o hk; simp [wback] at h; subst h; exact .inl ⟨fun q h => by simp at h, hk⟩
  | cons pk κ ih =>
    obtain ⟨p, k0⟩ := pk
    intro obs' h k o hk
    simp only [wback] at h
    have lift : k ≠ k0 → ∀ o1, wback obs pars' κ = some o1 → lk k o1 = some o → ((∀ q, (q, k) ∉ (p, k0) :: κ) ∧ lk k obs = some o) ∨ ∃ q old new, (q, k) ∈ (p, k0) :: κ ∧ lk q pars' = some new ∧ lk k obs = some old ∧ obMerge old new = some o := by
      intro hne o1 h1 h2
      rcases ih o1 h1 k o h2 with ⟨h3, h4⟩ | ⟨q, old, new, h3, h4⟩
      · refine .inl ⟨fun q hq => ?_, h4⟩
        rcases List.mem_cons.1 hq with hq | hq
        · injection hq with _ hq; exact hne hq
        · exact h3 q hq
      · exact .inr ⟨q, old, new, List.mem_cons_of_mem _ h3, h4⟩
    split at h
    · simp at h
    · rename_i o1 ho1
      split at h
      · rename_i hp
        injection h with h
        subst h
        rw [lk_del] at hk
        split at hk
        · simp at hk
        · rename_i hne; exact lift hne o1 ho1 hk
      · rename_i new hp
        split at h
        · simp at h
        · rename_i old hold
          split at h
          · simp at h
          · rename_i om hom
            injection h with h
            subst h
            simp only [lk] at hk
            split at hk
            · rename_i e
              injection hk with hk
              subst hk e
              exact .inr ⟨p, old, new, List.mem_cons_self, hp, hold, hom⟩
            · rename_i e
              rw [lk_del, if_neg (fun h => e h.symm)] at hk
              exact lift (fun h => e h.symm) o1 ho1 hk
theorem orep_merge {w : World} {S : Nat → Prop} {B : Nat} {x : Value} {old new o : Ob} (h : obMerge old new = some o) (hn : ORep w S B x new) : ORep w S B x o := by
  cases old <;> cases new <;> simp only [obMerge] at h <;> (try (simp at h; done))
  · split at h
    · rename_i e
      injection h with h; subst h e; exact hn
    · simp at h
  · split at h
    · rename_i e1
      split at h
      · rename_i e2
        injection h with h; subst h e1 e2; exact hn
      · simp at h
    · simp at h
theorem orep_row_len {w : World} {S : Nat → Prop} {B e sz ver m n c : Nat} {rows : List (List AV)} {x : Value} {ad : Option Addr} (h : ORep w S B x (.row e sz rows ver m)) (hx : x = .slice ad n c) : rows.length = n := by
  obtain ⟨xs, hown, _⟩ := h
  rcases hown.2 with ⟨hv, hn⟩ | ⟨g, cap, cur, fr, hv, _⟩
  · rw [hx] at hv; injection hv with _ h2 _; omega
  · rw [hx] at hv; injection hv with _ h2 _; exact h2.symm

theorem wcall_core {ev : Operand → Option AV} {obs obs' pars pars' : Obs} {f : Operand} {args : Array Operand} {ats : Array TypeId} {g : Nat} {caps as as' : List AV} {res : Res} (hf : ev f = some (.clo g caps)) (ha : evs ev args.toList = some as) (hc : canon obs 0 as = some (as', pars)) (hn : nodV (keysOf 0 as) = true)
    (h : CSem P (.wr g pars pars') (as' ++ caps) res) (hw : wback obs pars' (keysOf 0 as) = some obs') {a : Act} {w : World} {S : Nat → Prop} {β : Nat → Value} (hS : ∀ g, S g → g < w.heap.size) (hgd : gdOK w S) (hev : ∀ o ∈ (Op.call { callee := .value f, args := args, argTypes := ats }).operands, ∀ u, ev o = some u → SRep w S β obs u (a.eval o))
    (ho : ∀ k o, lk k obs = some o → ORep w S 0 (β k) o) (hsep : ∀ k k' o o', lk k obs = some o → lk k' obs = some o' → k ≠ k' → ∀ g, blkOf (β k) = some g → blkOf (β k') = some g → False)
    {o : Oper} (hop : o.op = .call { callee := .value f, args := args, argTypes := ats }) {K : Act → World → Prop} {Q : Exit → Act → World → Prop}
    (hK : ∀ y w' S' β', (∀ q k, lk q (keysOf 0 as) = some k → β' q = β k) → (∀ g, obsBlk pars β' g → ∃ q k u, lk q (keysOf 0 as) = some k ∧ lk k obs = some u ∧ blkOf (β k) = some g) → GrK (obsBlk obs β) w S w' S' → SameOn S w w' → (∀ g, S g → S' g) → (∀ k o, lk k obs' = some o → ORep w' S' 0 (β k) o) → (∀ x y, SRep0 w S β obs x y → SRep0 w' S' β obs' x y) → ResM (obsBlk pars β') pars' β' w w' S S' res y → K (a.put o.dst y) w') : o.wp P a w K Q := by
  obtain ⟨he, h⟩ := h
  obtain ⟨cs, hfv, hcaps⟩ := srep_clo (hev f (by simp [Op.operands, Call.operands]) _ hf)
  obtain ⟨β', hβ'⟩ : ∃ β' : Nat → Value, β' = fun q => match lk q (keysOf 0 as) with | some k => β k | none => .bool true := ⟨_, rfl⟩
  have hβ : ∀ q k, lk q (keysOf 0 as) = some k → β' q = β k := fun q k hq => by rw [hβ']; simp only [hq]
  obtain ⟨c1, c2, c3, c4⟩ := canon_ok (w := w) (S := S) (β := β) as 0 as' pars β' hc hβ
  -- the objects handed over
  have hsub : ∀ g, obsBlk pars β' g → ∃ q k u, lk q (keysOf 0 as) = some k ∧ lk k obs = some u ∧ blkOf (β k) = some g := by
    rintro g ⟨q, o, h1, h2⟩
    obtain ⟨k, u, h3, h4, _⟩ := c1 q o h1
    exact ⟨q, k, u, h3, h4, by rw [← hβ q k h3]; exact h2⟩
  have hargs : ∀ (l : List Operand) (bs : List AV), evs ev l = some bs → (∀ o ∈ l, ∀ u, ev o = some u → SRep w S β obs u (a.eval o)) → bs.length = l.length ∧ ∀ (i : Nat) (u : AV) (y : Value), bs[i]? = some u → (l.map a.eval)[i]? = some y → SRep w S β obs u y := by
    intro l
    induction l with
    | nil => intro bs hb _; simp [evs] at hb; subst hb; exact ⟨rfl, fun i u y h => by simp at h⟩
    | cons x l ih =>
      intro bs hb hh
      simp only [evs] at hb
      split at hb
      · simp at hb
      · rename_i u hu
        split at hb
        · simp at hb
        · rename_i r hr
          injection hb with hb
          subst hb
          obtain ⟨i1, i2⟩ := ih r hr (fun o ho => hh o (List.mem_cons_of_mem _ ho))
          refine ⟨by simp [i1], fun i u' y hu' hy => ?_⟩
          cases i with
          | zero => simp at hu' hy; subst hu' hy; exact hh x List.mem_cons_self _ hu
          | succ i => exact i2 i u' y (by simpa using hu') (by simpa using hy)
  obtain ⟨a1, a2⟩ := hargs args.toList as ha (fun o ho u hu => hev o (by simp [Op.operands, Call.operands] at ho ⊢; simp [ho]) u hu)
  refine wp_enter (run_call hop hfv he) ((h w S β' (args.toList.map a.eval ++ cs) hS hgd (fun q o hq => ?_) (fun q q' o o' hq hq' hne g hg hg' => ?_) ⟨?_, fun i u y hu hy => ?_⟩).mono ?_)
  · obtain ⟨k, u, h1, h2, h3, _⟩ := c1 q o hq
    rw [hβ q k h1]
    exact h3 _ _ (ho k u h2)
  · obtain ⟨k, u, h1, h2, _⟩ := c1 q o hq
    obtain ⟨k', u', h1', h2', _⟩ := c1 q' o' hq'
    rw [hβ q k h1] at hg
    rw [hβ q' k' h1'] at hg'
    refine hsep k k' u u' h2 h2' (fun e => ?_) g hg hg'
    subst e
    exact hne (nodV_inj _ hn _ _ _ h1 h1')
  · have := hcaps.1
    simp [c3, a1, this]
  · by_cases hi : i < as'.length
    · rw [List.getElem?_append_left hi] at hu
      rw [List.getElem?_append_left (by simp; simp at a1; omega)] at hy
      have hi2 : i < as.length := by omega
      rcases c4 i as[i] u y (List.getElem?_eq_getElem hi2) hu (a2 i _ y (List.getElem?_eq_getElem hi2) hy) with ⟨h1, h2⟩ | ⟨off, h1, h2⟩ | ⟨e, sz, rows, h1, h2, h3⟩
      · cases u <;> first | exact h2 | simp [okArg] at h1
      · exact h2
      · subst h1
        intro e' sz' rows' m' _
        exact h3
    · rw [List.getElem?_append_right (by omega)] at hu
      rw [List.getElem?_append_right (by simp; simp at a1; omega)] at hy
      have hl : (args.toList.map a.eval).length = as'.length := by simp; simp at a1; omega
      rw [hl] at hy
      have := hcaps.2 _ u y hu hy
      cases u <;> first | exact this | (cases this with | c h => cases h)
  · rintro e' w' ⟨y, S', rfl, hg, hobj, hres⟩
    refine ⟨y, rfl, ?_⟩
    have hTS : ∀ g, S g → ¬ obsBlk pars β' g := by
      intro g hs hT
      obtain ⟨q, k, u, h1, h2, h3⟩ := hsub g hT
      exact (orep_blk (ho k u h2) h3).2.2 hs
    have hsame : SameOn S w w' := fun g hs => hg.block g (hS g hs) (hTS g hs)
    refine hK y w' S' β' hβ hsub ⟨hg.os, hg.tape, hg.output, hg.size, fun g hlt hn' => hg.block g hlt (fun hT => ?_), hg.sub, fun g hs => (hg.new g hs).elim .inl (fun h => h.elim (fun h => .inr (.inl h)) (fun hT => by obtain ⟨q, k, u, h1, h2, h3⟩ := hsub g hT; exact .inr (.inr ⟨k, u, h2, h3⟩))), hg.lt, hgd, hg.gd.2⟩ hsame hg.sub (fun k o hk => ?_) (fun x y hxy => ?_) hres
    · obtain ⟨q, k, u, h1, h2, h3⟩ := hsub g hT
      exact hn' ⟨k, u, h2, h3⟩
    · rcases wback_ok _ _ hw k o hk with ⟨h1, h2⟩ | ⟨q, old, new, h1, h2, h3, h4⟩
      · refine orep_mono hsame hg.sub (fun g hgb => ?_) (ho k o h2)
        obtain ⟨_, h5, h6⟩ := orep_blk (ho k o h2) hgb
        have hnT : ¬ obsBlk pars β' g := fun hT => by
          obtain ⟨q, k', u, h7, h8, h9⟩ := hsub g hT
          refine hsep k k' o u h2 h8 (fun e => ?_) g hgb h9
          subst e
          exact h1 q (lk_mem h7)
        exact ⟨hg.block g h5 hnT, fun hs => by rcases hg.new g hs with h7 | h7 | h7; exact h6 h7; omega; exact hnT h7⟩
      · have h5 := (keysOf_mem _ _ _ _ h1).2
        refine orep_merge h4 ?_
        rw [← hβ q k h5]
        exact hobj q new h2
    · have get : ∀ j e sz rows v m, lk j obs' = some (.row e sz rows v m) → (lk j obs = some (.row e sz rows v m)) ∨ ∃ rows0 m0, lk j obs = some (.row e sz rows0 v m0) ∧ (∀ ad n c, β j = .slice ad n c → rows.length = rows0.length) ∧ m0 < m := by
        intro j e sz rows v m hj
        rcases wback_ok _ _ hw j _ hj with ⟨h1, h2⟩ | ⟨q, old, new, h1, h2, h3, h4⟩
        · exact .inl h2
        · right
          have h5 := (keysOf_mem _ _ _ _ h1).2
          cases old <;> cases new <;> simp only [obMerge] at h4 <;> (try (simp at h4; done)) <;> split at h4 <;> (try (simp at h4; done))
          split at h4
          · rename_i e0 sz0 rows0 v0 m0 e1 sz1 rows1 v1 m1 hh1 hh2
            injection h4 with h4
            injection h4 with g1 g2 g3 g4 g5
            subst g1 g2 g3 g4 g5
            refine ⟨rows0, m0, h3, fun ad n c hb => ?_, by omega⟩
            have l1 := orep_row_len (ho _ _ h3) hb
            have l2 := orep_row_len (hobj q _ h2) (by rw [hβ q j h5]; exact hb)
            omega
          · simp at h4
      cases x <;> try exact Rep.mono hsame hg.sub hxy
      · exact hxy
      · rename_i j v
        intro e sz rows m hj
        rcases get _ _ _ _ _ _ hj with h | ⟨rows0, m0, h, _⟩
        · exact (show ∀ e sz rows m, lk j obs = some (.row e sz rows v m) → y = β j from hxy) _ _ _ _ h
        · exact (show ∀ e sz rows m, lk j obs = some (.row e sz rows v m) → y = β j from hxy) _ _ _ _ h
      · rename_i j v m i cs off
        intro e sz rows m' hj
        rcases get _ _ _ _ _ _ hj with h | ⟨rows0, m0, h, hl, hm⟩
        · exact (show RelP β obs j v m i cs off y from hxy) _ _ _ _ h
        · obtain ⟨h1, h2, ⟨g, n, c, h3, h3'⟩, h4⟩ := (show RelP β obs j v m i cs off y from hxy) _ _ _ _ h
          exact ⟨by omega, by rw [hl _ _ _ h3]; exact h2, ⟨g, n, c, h3, h3'⟩, fun e => by omega⟩
      · rename_i j v lo
        intro e sz rows m' hj
        rcases get _ _ _ _ _ _ hj with h | ⟨rows0, m0, h, hl, hm⟩
        · exact (show ∀ e sz rows m, lk j obs = some (.row e sz rows v m) → OslP β j lo sz rows.length y from hxy) _ _ _ _ h
        · have h3 := (show ∀ e sz rows m, lk j obs = some (.row e sz rows v m) → OslP β j lo sz rows.length y from hxy) _ _ _ _ h
          obtain ⟨zs, hz, _⟩ := ho _ _ h
          obtain ⟨ad, c, hb, _⟩ := own_shape hz
          rw [hl _ _ _ hb]; exact h3
      · rename_i j
        intro ks vs hj
        rcases wback_ok _ _ hw j _ hj with ⟨h1, h2⟩ | ⟨q, old, new, h1, h2, h3, h4⟩
        · exact (show ∀ ks vs, lk j obs = some (.mp ks vs) → y = β j from hxy) _ _ h2
        · exfalso
          unfold obMerge at h4
          split at h4
          · split at h4
            · split at h4
              · cases h4
              · cases h4
            · cases h4
          · split at h4
            · cases h4
            · cases h4
          · cases h4
      · exact trivial
theorem wgood_call {ev : Operand → Option AV} {obs obs' pars pars' : Obs} {f : Operand} {args : Array Operand} {ats : Array TypeId} {g : Nat} {caps as as' xs : List AV} (hf : ev f = some (.clo g caps)) (ha : evs ev args.toList = some as) (hc : canon obs 0 as = some (as', pars)) (hn : nodV (keysOf 0 as) = true)
    (h : CSem P (.wr g pars pars') (as' ++ caps) (.pure xs)) (hw : wback obs pars' (keysOf 0 as) = some obs') : WGood P ev obs (.call { callee := .value f, args := args, argTypes := ats }) obs' (tupOf xs) := by
  intro a w S β hS hgd hev ho hsep o hop K Q hK
  refine wcall_core hf ha hc hn h hw hS hgd hev ho hsep hop (fun y w' S' β' _ _ hg hsame hsub ho' hs hres => ?_)
  obtain ⟨ys, hy, hreps⟩ := hres
  exact hK y w' S' hg ho' hs (srep_res (w := w) (S := S) hy hreps)

/-- A row of bytes turned into one: it is marked. -/
theorem wgood_mark {ev : Operand → Option AV} {obs : Obs} {d k e ver m : Nat} {rows : List (List AV)} {x : Operand} {ti : TI} {bytes : Nat} (ht : TOK P d ti) (hkd : ti.kind = .sli e 1 bytes) (hp : ev x = some (.own k ver)) (hk : lk k obs = some (.row e 1 rows ver m)) (hb : byteT e = true) (hu8 : P.underlying e = some (.int .u8)) (h0 : 0 < rows.length) :
    WGood P ev obs (.convert d d x) ((k, .row e 1 rows ver (m + 1)) :: del k obs) (.own k ver) := by
  intro a w S β hS hgd hev ho hsep o hop K Q hK
  have hx : a.eval x = β k := (show ∀ e sz rows m, lk k obs = some (.row e sz rows ver m) → a.eval x = β k from hev x (by simp [Op.operands]) _ hp) _ _ _ _ hk
  have hkd' := ht.kind
  rw [hkd] at hkd'
  obtain ⟨hu, _⟩ := hkd'
  obtain ⟨xs, hown, hrep, hlen, hSv⟩ := ho _ _ hk
  rcases hown.2 with ⟨hv, hn⟩ | ⟨g, cap, cur, fr, hv, _, hh, hfr, hnc, hm, hcs, htake⟩
  · omega
  · have hSg : ¬ S g := hSv g (by rw [hv]; rfl)
    have hsh : w.shape? g = some (e, cur.size) := by simp [World.shape?, hh]
    have hexec : (execOp a.eval o).run P w = .ok (.value (β k)) (w.freeze ⟨g, cur.size, none⟩ 1) := by
      simp [execOp, hop, hx, hv, convert, run_underlying hu, run_underlying hu8, markStringish, hsh]
    have hfrz : ∃ fr', frB e fr' cur.size ∧ (w.freeze ⟨g, cur.size, none⟩ 1).heap[g]? = some (.cells cur e fr') := by
      obtain ⟨lo, hi⟩ := fr
      refine ⟨if lo == hi then (cur.size, cur.size + 1) else (min lo cur.size, max hi (cur.size + 1)), ?_, ?_⟩
      · refine .inr ⟨hb, ?_⟩
        split
        · exact Nat.le_refl _
        · rename_i hne
          rcases hfr with h | ⟨_, h⟩
          · injection h with h1 h2
            subst h1 h2
            simp at hne
          · simp only at h ⊢
            omega
      · simp [World.freeze, Array.getElem?_modify, hh]
    obtain ⟨fr', hfr', hheap⟩ := hfrz
    have hother : ∀ j, j ≠ g → (w.freeze ⟨g, cur.size, none⟩ 1).heap[j]? = w.heap[j]? := fun j hj => by
      simp [World.freeze, Array.getElem?_modify, Ne.symm hj]
    have hsize : (w.freeze ⟨g, cur.size, none⟩ 1).heap.size = w.heap.size := by simp [World.freeze]
    have e1 : (w.freeze ⟨g, cur.size, none⟩ 1).os = w.os := rfl
    have e2 : (w.freeze ⟨g, cur.size, none⟩ 1).tape = w.tape := rfl
    have e3 : (w.freeze ⟨g, cur.size, none⟩ 1).output = w.output := rfl
    generalize w.freeze ⟨g, cur.size, none⟩ 1 = w' at *
    have hsame0 : SameOn S w w' := fun j hj => hother j (fun e => hSg (e ▸ hj))
    have hown' : OwnR w' 0 e 1 (β k) rows.length xs := ⟨hown.1, .inr ⟨g, cap, cur, fr', hv, Nat.zero_le _, hheap, hfr', hnc, hm, hcs, htake⟩⟩
    obtain ⟨hsame, hobj, hsr⟩ := write_one (new := .row e 1 rows ver (m + 1)) hk (by rw [hv]; rfl) hS ho hsep hother hsize ⟨_, hown', hrep.mono hsame0 (fun _ h => h), hlen, hSv⟩ ⟨rfl, rfl, rfl, rfl, by omega⟩
    refine wp_val hexec ?_
    refine hK _ w' S ⟨e1, e2, e3, by omega, fun j _ hT => hother j (fun e => hT ⟨k, _, hk, by rw [hv, e]; rfl⟩), fun _ h => h, fun _ h => .inl h, fun j hj => by rw [hsize]; exact hS j hj, hgd, hgd.mono hsame (fun _ h => h)⟩ hobj hsr ?_
    intro e' sz' rows' m' _
    rfl
/-- All writing operations. -/
theorem wop_ok (hΓ : TOKs P) {ev : Operand → Option AV} {obs : Obs} {op : Op} {K : Obs → AV → Prop} (h : wop sy (CSem P) ev obs op K) : ∃ obs' x, K obs' x ∧ WGood P ev obs op obs' x ∧ (∀ k u, lk k obs' = some u → ∃ u', lk k obs = some u') := by
  have keys1 : ∀ k0 (o0 o1 : Ob), lk k0 obs = some o0 → ∀ k u, lk k ((k0, o1) :: del k0 obs) = some u → ∃ u', lk k obs = some u' := by
    intro k0 o0 o1 h0 k u hk
    simp only [lk] at hk
    split at hk
    · rename_i e; subst e; exact ⟨_, h0⟩
    · rename_i e; rw [lk_del, if_neg (fun h => e h.symm)] at hk; exact ⟨_, hk⟩
  unfold wop at h
  split at h
  · rename_i t x v
    split at h
    · rename_i ti k off u hti hx hu
      split at h
      · rename_i ty cs fz ds hk hc
        split at h
        · rename_i hl
          split at h
          · rename_i cs' hs
            exact ⟨_, _, h, wgood_ptr (hΓ _ _ hti) hx hu hk hc hl hs, keys1 _ _ _ hk⟩
          · exact h.elim
        · exact h.elim
      · exact h.elim
    · rename_i ti k ver mver i cs0 off u hti hx hu
      split at h
      · rename_i e sz rows ver' m ds hk hc
        split at h
        · rename_i e1
          subst e1
          obtain ⟨⟨hl⟩, h⟩ := h
          · split at h
            · rename_i hsz
              split at h
              · rename_i hoff
                subst hoff
                refine ⟨_, _, h, ?_, keys1 _ _ _ hk⟩
                intro a w S β hS hgd hev ho hsep
                obtain ⟨_, hi, _⟩ := (show RelP β obs k ver mver i cs0 0 (a.eval x) from hev x (by simp [Op.operands]) _ hx) _ _ _ _ hk
                obtain ⟨_, _, _, hlen, _⟩ := ho _ _ hk
                have hr : rows[i]? = some rows[i] := List.getElem?_eq_getElem hi
                have hs : setCells 0 ds rows[i] = some ds := by
                  have h1 : rows[i].length = ds.length := by rw [hlen _ (List.getElem_mem hi), hl, hsz]
                  rw [setCells_mk _ _ _ (by omega)]
                  simp [← h1]
                exact wgood_rel (hΓ _ _ hti) hx hu hk hc hl hr hs a w S β hS hgd hev ho hsep
              · exact h.elim
            · obtain ⟨r, r', hr, hs, h⟩ := h
              exact ⟨_, _, h, wgood_rel (hΓ _ _ hti) hx hu hk hc hl hr hs, keys1 _ _ _ hk⟩
        · exact h.elim
      · exact h.elim
    · exact h.elim
  · rename_i f args ats
    split at h
    · rename_i g caps as hf ha
      split at h
      · rename_i as' pars hc
        split at h
        · rename_i hn
          obtain ⟨pars', xs, hC, h⟩ := h
          split at h
          · rename_i obs' hw
            refine ⟨_, _, h, wgood_call hf ha hc hn hC hw, fun k u hk => ?_⟩
            rcases wback_ok _ _ hw k u hk with ⟨_, h2⟩ | ⟨q, old, new, _, _, h3, _⟩
            · exact ⟨_, h2⟩
            · exact ⟨_, h3⟩
          · exact h.elim
        · exact h.elim
      · exact h.elim
    · exact h.elim
  · rename_i args ats
    split at h
    · rename_i x t hargs hats
      split at h
      · rename_i ti k ver lo hti hx
        split at h
        · rename_i e esz bytes e' sz rows ver' m hkd hk
          split at h
          · rename_i e1
            subst e1
            split at h
            · rename_i e2
              subst e2
              split at h
              · rename_i te hte
                obtain ⟨rows', rfl, h⟩ := h
                have e3 : args = #[x] := by rw [← Array.toList_inj]; simpa using hargs
                have e4 : ats = #[t] := by rw [← Array.toList_inj]; simpa using hats
                subst e3 e4
                exact ⟨_, _, h, wgood_clear (hΓ _ _ hti) hkd (hΓ _ _ hte) hx hk, keys1 _ _ _ hk⟩
              · exact h.elim
            · exact h.elim
          · exact h.elim
        · exact h.elim
      · exact h.elim
    · exact h.elim
  · rename_i t m x v
    split at h
    · rename_i ti k s u hti hm hx hu
      split at h
      · rename_i e1 e2 ks vs hkd hk
        split at h
        · rename_i hok
          obtain ⟨ks', vs', hmp, h⟩ := h
          exact ⟨_, _, h, wgood_map (hΓ _ _ hti) hkd hm hx hu hok hk hmp, keys1 _ _ _ hk⟩
        · exact h.elim
      · exact h.elim
    · exact h.elim
  · rename_i s d x
    split at h
    · rename_i ti k ver hti hx
      split at h
      · rename_i e e' sz rows ver' m hkd hk
        split at h
        · rename_i e1
          split at h
          · rename_i e2
            split at h
            · rename_i e3
              split at h
              · rename_i e4
                split at h
                · rename_i hb
                  subst e1 e2 e3 e4
                  refine ⟨_, _, h.2, wgood_mark (hΓ _ _ hti) hkd hx hk hb ?_ h.1, keys1 _ _ _ hk⟩
                  unfold byteT at hb
                  split at hb
                  · rename_i te hte
                    split at hb
                    · rename_i hk8
                      have := (hΓ _ _ hte).kind
                      rw [hk8] at this
                      exact this
                    · cases hb
                  · cases hb
                · exact h.elim
              · exact h.elim
            · exact h.elim
          · exact h.elim
        · exact h.elim
      · exact h.elim
    · exact h.elim
  · exact h.elim
end Go.Proofs.YthepmpfkkhckpaaGreatDoor.Am
