import Derived.Test.YtfphhpabfeepmaaDoorU10
import Derived.Test.YtfphhpabfeepmaaDoorSh2
set_option linter.unusedSimpArgs false
set_option linter.unusedVariables false
namespace Go.Proofs.YtfphhpabfeepmaaDoor
open Go Go.RowKit Am

/-! ### A number, as the program reads it -/
def tenD : List UInt8 := [48, 49, 50, 51, 52, 53, 54, 55, 56, 57]
set_option maxRecDepth 100000 in
theorem tenD_dig (c : UInt8) : tenD.contains c = dig c := by
  have h : ∀ c : Fin 256, tenD.contains (UInt8.ofNat c.val) = dig (UInt8.ofNat c.val) := by decide
  have := h ⟨c.toNat, c.toNat_lt⟩
  simpa using this
theorem dropW_nil {α : Type} (p : α → Bool) : ∀ l : List α, l.dropWhile p = [] ↔ ∀ c ∈ l, p c = true
  | [] => by simp
  | a :: l => by
    cases h : p a with
    | true => rw [List.dropWhile_cons_of_pos h, dropW_nil p l]; simp [h]
    | false => rw [List.dropWhile_cons_of_neg (by simp [h])]; simp [h]
theorem dropW_head {α : Type} (p : α → Bool) : ∀ (l : List α) (a : α) (r : List α), l.dropWhile p = a :: r → p a = false
  | [], a, r, h => by simp at h
  | b :: l, a, r, h => by
    cases hb : p b with
    | true => rw [List.dropWhile_cons_of_pos hb] at h; exact dropW_head p l a r h
    | false => rw [List.dropWhile_cons_of_neg (by simp [hb])] at h; injection h with h; rw [← h]; exact hb
theorem trim_nil (l cs : List UInt8) : Lib.trimS l cs = [] ↔ ∀ c ∈ l, cs.contains c = true := by
  unfold Lib.trimS Lib.trimLeftS Lib.trimRightS
  rw [dropW_nil]
  constructor
  · intro h c hc
    have hn : l.reverse.dropWhile (fun x => cs.contains x) = [] := by
      cases hd : l.reverse.dropWhile (fun x => cs.contains x) with
      | nil => rfl
      | cons a r =>
        have h1 := dropW_head _ _ _ _ hd
        have h2 := h a (by rw [hd]; simp)
        rw [h1] at h2
        cases h2
    exact (dropW_nil _ _).1 hn c (by simpa using hc)
  · intro h c hc
    have : l.reverse.dropWhile (fun x => cs.contains x) = [] := (dropW_nil _ _).2 fun c hc => h c (by simpa using hc)
    rw [this] at hc
    simp at hc
theorem trim_ok (s : ByteArray) (l : List UInt8) (hs : l = L s) (r : ByteArray) (hr : r = BA (Lib.trimS l tenD)) (hl : l.length ≤ 1000000) : CSem Tryd.prog (.fn 73) [aS s, aS (BA tenD)] (.pure [aS r]) := by
  subst hr hs
  refine fsem_of (enterT Tryd.func73 (by kernel_rfl) rfl) ?_
  intro w S xs hS hgd hx
  obtain ⟨y, ys, rfl, h1, h2⟩ := hx.uncons
  obtain ⟨y2, rfl, h3⟩ := reps_one h2
  rw [rep_v h1, rep_v h3]
  have hsz : s.size ≤ 9223372036854775807 := by rw [L_size]; omega
  refine (Go.Proofs.Any.strings_Trim_laid Tryd.lays160 (by kernel_rfl) s (BA tenD) w hsz (by decide) (Go.Proofs.ascii_of_all (by decide))).mono ?_
  rintro e w' ⟨rfl, hb⟩
  exact ⟨_, S, rfl, gr_below hS hb, [_], rfl, Reps.cons (.c (.v _ rfl)) (Reps.nil _ _)⟩
theorem dec_val : ∀ (l : List UInt8) (n : Nat), l.all dig = true → Lib.decFrom n l = some (l.foldl (fun n c => 10 * n + (c.toNat - 48)) n)
  | [], n, _ => rfl
  | c :: l, n, h => by
    rw [List.all_cons, Bool.and_eq_true] at h
    have hd : 48 ≤ c.toNat ∧ c.toNat ≤ 57 := by simpa [dig] using h.1
    have hv : Lib.digitVal c = some (c.toNat - 48) := by unfold Lib.digitVal; rw [if_pos hd]
    unfold Lib.decFrom
    simp only [hv]
    rw [dec_val l _ h.2, List.foldl_cons, Nat.mul_comm]
theorem numR_neg {c : UInt8} {t : List UInt8} (hc : c = 45) : numR (c :: t) = (match numT t true with | some n => some (-(n : Int)) | none => none) := by
  unfold numR
  simp only [if_pos hc]
  cases numT t true <;> rfl
theorem numR_pos {c : UInt8} {t : List UInt8} (hc : c ≠ 45) : numR (c :: t) = (match numT (c :: t) false with | some n => some (n : Int) | none => none) := by
  unfold numR
  simp only [if_neg hc]
  cases numT (c :: t) false <;> rfl
theorem atoi_cons (c : UInt8) (t : List UInt8) : Lib.atoi (c :: t) = if c == 45 then (Lib.decNat t).map fun (m : Nat) => -(m : Int) else if c == 43 then (Lib.decNat t).map fun (m : Nat) => (m : Int) else (Lib.decNat (c :: t)).map fun (m : Nat) => (m : Int) := rfl
theorem atoi_val (l : List UInt8) (v : Int) (h : numR l = some v) : Lib.atoi l = some v := by
  have key : ∀ t neg, ∀ n, numT t neg = some n → t ≠ [] ∧ t.all dig = true ∧ Lib.decNat t = some n := by
    intro t neg n h
    unfold numT at h
    split at h
    · cases h
    · rename_i hb
      split at h
      · rename_i ha
        injection h with h
        have ht : t ≠ [] := fun e => hb (.inl e)
        refine ⟨ht, ha, ?_⟩
        unfold Lib.decNat
        have : t.isEmpty = false := by cases t; exact absurd rfl ht; rfl
        rw [this, dec_val t 0 ha, ← h]
        rfl
      · cases h
  cases l with
  | nil => simp [numR] at h
  | cons c t =>
    rw [atoi_cons]
    by_cases hc : c = 45
    · rw [numR_neg hc] at h
      rw [if_pos (by simpa using hc)]
      cases hn : numT t true with
      | none => rw [hn] at h; cases h
      | some n =>
        rw [hn] at h
        rw [(key t true n hn).2.2]
        simpa using h
    · rw [numR_pos hc] at h
      rw [if_neg (by simpa using hc)]
      cases hn : numT (c :: t) false with
      | none => rw [hn] at h; cases h
      | some n =>
        rw [hn] at h
        obtain ⟨_, h2, h3⟩ := key _ _ n hn
        rw [List.all_cons, Bool.and_eq_true] at h2
        have hd : 48 ≤ c.toNat ∧ c.toNat ≤ 57 := by simpa [dig] using h2.1
        have h43 : ¬ (c == 43) = true := by
          intro e
          have e : c = 43 := by simpa using e
          rw [e] at hd
          exact absurd hd.1 (by decide)
        rw [if_neg h43, h3]
        simpa using h
theorem atoi_ok (s : ByteArray) (l : List UInt8) (hs : l = L s) (hl : l.length ≤ 18) (v : Int) (hv : numR l = some v) : CSem Tryd.prog (.fn 74) [aS s] (.pure [aI v, .v .nilIface]) := by
  subst hs
  refine fsem_of (enterT Tryd.func74 (by kernel_rfl) rfl) ?_
  intro w S xs hS hgd hx
  obtain ⟨y, rfl, h1⟩ := reps_one hx
  rw [rep_v h1]
  refine (Tryd.strconv_Atoi s v (by rw [L_size]; exact hl) (atoi_val _ _ hv) w).mono ?_
  rintro e w' ⟨rfl, t, rfl⟩
  refine ⟨_, S, rfl, gr_below hS ⟨rfl, rfl, rfl, by rw [Lib.bytesWorld_size]; omega, fun k hk => Lib.bytesWorld_at_old w 5 t k hk⟩, [_, _], rfl, Reps.cons (.c (.v _ rfl)) (Reps.cons (.c (.v _ rfl)) (Reps.nil _ _))⟩
theorem cutM_cons (c : UInt8) (t : List UInt8) : cutM (c :: t) = if c = 45 then t else c :: t := rfl
theorem nil119 : ∃ ms, Tryd.prog.underlying 119 = some (.interface ms) := ⟨_, Tryd.underlying119⟩
def numG (l : List UInt8) : Prop := cutM l = [] ∨ 15 < (cutM l).length ∨ ((cutM l)[0]? = some 48 ∧ l ≠ [48])
theorem numR_bad {l : List UInt8} (h : numG l) : numR l = none := by
  unfold numG at h
  cases l with
  | nil => rfl
  | cons c t =>
    rw [cutM_cons] at h
    by_cases hc : c = 45
    · rw [if_pos hc] at h
      rw [numR_neg hc]
      have : numT t true = none := by
        unfold numT
        rw [if_pos]
        rcases h with h | h | ⟨h, _⟩
        · exact .inl h
        · exact .inr (.inl h)
        · exact .inr (.inr ⟨h, .inr rfl⟩)
      rw [this]
    · rw [if_neg hc] at h
      rw [numR_pos hc]
      have : numT (c :: t) false = none := by
        unfold numT
        rw [if_pos]
        rcases h with h | h | ⟨h, h2⟩
        · exact .inl h
        · exact .inr (.inl h)
        · refine .inr (.inr ⟨h, .inl ?_⟩)
          have hcc : c = 48 := by simpa using h
          cases t with
          | nil => exact absurd (by rw [hcc]) h2
          | cons d t => simp
      rw [this]
theorem numR_good {l : List UInt8} (h : ¬ numG l) : ((cutM l).all dig = true → ∃ v, numR l = some v) ∧ ((cutM l).all dig = false → numR l = none) := by
  unfold numG at h
  cases l with
  | nil => exact absurd (.inl rfl) h
  | cons c t =>
    rw [cutM_cons] at h ⊢
    by_cases hc : c = 45
    · rw [if_pos hc] at h ⊢
      rw [numR_neg hc]
      unfold numT
      rw [if_neg (by
        rintro (g | g | ⟨g, _⟩)
        · exact h (.inl g)
        · exact h (.inr (.inl g))
        · exact h (.inr (.inr ⟨g, by rw [hc]; intro e; cases e⟩)))]
      constructor
      · intro ha; rw [if_pos ha]; exact ⟨_, rfl⟩
      · intro ha; rw [if_neg (by rw [ha]; simp)]
    · rw [if_neg hc] at h ⊢
      rw [numR_pos hc]
      unfold numT
      rw [if_neg (by
        rintro (g | g | ⟨g, g2 | g2⟩)
        · exact h (.inl g)
        · exact h (.inr (.inl g))
        · refine h (.inr (.inr ⟨g, ?_⟩))
          intro e
          rw [e] at g2
          exact absurd g2 (by decide)
        · cases g2)]
      constructor
      · intro ha; rw [if_pos ha]; exact ⟨_, rfl⟩
      · intro ha; rw [if_neg (by rw [ha]; simp)]
theorem cutM_len (l : List UInt8) : l.length ≤ (cutM l).length + 1 := by
  cases l with
  | nil => simp
  | cons c t => rw [cutM_cons]; split <;> simp
set_option maxHeartbeats 4000000 in
theorem num_ok (s : ByteArray) (l : List UInt8) (hs : l = L s) (hl : l.length ≤ 1000000) (v : Int) (ok : Bool) (h1 : ∀ n, numR l = some n → v = n ∧ ok = true) (h2 : numR l = none → v = 0 ∧ ok = false) : CSem Tryd.prog (.fn 67) [aS s] (.pure [aI v, aB ok]) := by
  refine of_text gam_ok mixed { n := 36 } Tryd.func67 (by kernel_rfl) rfl rfl (by simp) (by decide) fun F C D hF hC hD => ?_
  obtain ⟨dg, hr⟩ : ∃ r, r = BA (cutM l) := ⟨_, rfl⟩
  have hcut := hC _ _ _ (cutM_ok s l hs dg hr)
  obtain ⟨tr, htr⟩ : ∃ r, r = BA (Lib.trimS (cutM l) tenD) := ⟨_, rfl⟩
  have hdg : cutM l = L dg := by rw [hr]; rfl
  have hcl : (cutM l).length ≤ l.length := by
    cases l with
    | nil => exact Nat.le_refl _
    | cons c t => rw [cutM_cons]; split <;> simp
  have htrim := hC _ _ _ (trim_ok dg (cutM l) hdg tr htr (by omega))
  obtain ⟨un, hun⟩ : ∃ un : Int, F .slen dg = un := ⟨_, rfl⟩
  have eun : un = ((cutM l).length : Int) := by rw [← hun, slenF hF, L_size, hdg]
  have e0 := empF hF dg (cutM l) hdg
  have e15 : F .cmp .gtr un 15 = decide (15 < (cutM l).length) := by rw [gtF hF, eun]; congr 1; exact propext ⟨fun h => by omega, fun h => by omega⟩
  unfold BA at hcut
  unfold BA at e0
  unfold BA tenD at htrim
  by_cases ht0 : cutM l = []
  · have e0 := e0.trans (decide_eq_true ht0)
    obtain ⟨f1, f2⟩ := h2 (numR_bad (.inl ht0))
    subst f1 f2
    clear h1 h2 hdg hcl htr hr
    cbv
    refine ⟨_, hcut, ?_⟩
    cbv
    refine cT (e0) ?_
    cbv
    simp
  · have e0 := e0.trans (decide_eq_false ht0)
    by_cases h15 : 15 < (cutM l).length
    · have e15 : F .cmp .gtr un 15 = true := by rw [e15]; exact decide_eq_true h15
      obtain ⟨f1, f2⟩ := h2 (numR_bad (.inr (.inl h15)))
      subst f1 f2
      clear h1 h2 hdg hcl htr hr
      cbv
      refine ⟨_, hcut, ?_⟩
      cbv
      refine cF (e0) ?_
      cbv
      rw [hun]
      refine cT (e15) ?_
      cbv
      simp
    · have e15 : F .cmp .gtr un 15 = false := by rw [e15]; exact decide_eq_false h15
      have hl18 : l.length ≤ 18 := by have := cutM_len l; omega
      have hpos : 0 < (cutM l).length := List.length_pos_iff.2 ht0
      obtain ⟨c0, hc0⟩ : ∃ c, (cutM l)[0]? = some c := ⟨_, List.getElem?_eq_getElem hpos⟩
      obtain ⟨b0, hb0⟩ : ∃ b : Int, F .bt dg 0 = b := ⟨_, rfl⟩
      have eb0 : b0 = (c0.toNat : Int) := by rw [← hb0]; exact btF (i := 0) hF (by rw [← hdg]; exact hc0)
      have e48 : F .cmp .eql b0 48 = decide (c0 = 48) := by rw [eqF hF, eb0]; congr 1; exact propext ⟨fun h => UInt8.toNat_inj.1 (by have : (48 : UInt8).toNat = 48 := rfl; omega), fun h => by rw [h]; rfl⟩
      have hx1 : (0 : Int) < F .slen dg := by rw [hun, eun]; exact Int.ofNat_lt.2 hpos
      by_cases h48 : c0 = 48
      · have e48 : F .cmp .eql b0 48 = true := by rw [e48]; exact decide_eq_true h48
        by_cases hz : l = [48]
        · have ez : F .scmp .neq s (BA [48]) = false := by rw [sneF hF]; exact decide_eq_false (fun h => h (by rw [← BA_L s, ← hs, hz]))
          have hg := numR_good (l := l) (by
            rintro (g | g | ⟨_, g⟩)
            · exact ht0 g
            · exact h15 g
            · exact g hz)
          clear hdg hcl eb0 hc0 hpos
          unfold BA at ez
          by_cases hall : (cutM l).all dig = true
          · obtain ⟨v', hv'⟩ := hg.1 hall
            obtain ⟨f1, f2⟩ := h1 v' hv'
            subst f1 f2
            have ha := hC _ _ _ (atoi_ok s l hs hl18 v hv')
            have hte : tr = BA [] := by rw [htr, (trim_nil (cutM l) tenD).2 fun c hc => (tenD_dig c).trans (List.all_eq_true.1 hall c hc)]
            have en : F .scmp .neq tr (BA []) = false := by rw [sneF hF, hte]; exact decide_eq_false (fun h => h rfl)
            have hni := hC (.nili 119) [] (.pure []) nil119
            clear h1 h2 hg hr hs htr hl18 hv' hall hte hl
            unfold BA at en
            cbv
            refine ⟨_, hcut, ?_⟩
            cbv
            refine cF (e0) ?_
            cbv
            rw [hun]
            refine cF (e15) ?_
            cbv
            refine ⟨hx1, ?_⟩
            cbv
            rw [hb0]
            refine bT (e48) ?_
            cbv
            refine bF (ez) ?_
            cbv
            refine ⟨_, htrim, ?_⟩
            cbv
            refine bF (en) ?_
            cbv
            refine ⟨_, ha, ?_⟩
            cbv
            refine ⟨hC _ _ _ (ben_ok (by kernel_rfl)), ?_⟩
            cbv
            refine ⟨hni, ?_⟩
            cbv
            simp
          ·
            have f := h2 (hg.2 (by simpa using hall))
            obtain ⟨f1, f2⟩ := f
            subst f1 f2
            have hte : tr ≠ BA [] := by
              intro e
              rw [e] at htr
              have := BA_inj htr
              exact hall (List.all_eq_true.2 fun c hc => (tenD_dig c).symm.trans ((trim_nil _ _).1 this.symm c hc))
            have en : F .scmp .neq tr (BA []) = true := by rw [sneF hF]; exact decide_eq_true hte
            clear h1 h2 hg hr hs htr hl18 hall hte hl
            unfold BA at en
            cbv
            refine ⟨_, hcut, ?_⟩
            cbv
            refine cF (e0) ?_
            cbv
            rw [hun]
            refine cF (e15) ?_
            cbv
            refine ⟨hx1, ?_⟩
            cbv
            rw [hb0]
            refine bT (e48) ?_
            cbv
            refine bF (ez) ?_
            cbv
            refine ⟨_, htrim, ?_⟩
            cbv
            refine bT (en) ?_
            cbv
            simp
        · have ez : F .scmp .neq s (BA [48]) = true := by rw [sneF hF]; exact decide_eq_true (fun h => hz (by rw [hs, h]; rfl))
          obtain ⟨f1, f2⟩ := h2 (numR_bad (.inr (.inr ⟨by rw [hc0, h48], hz⟩)))
          subst f1 f2
          clear h1 h2 hdg hcl htr hr eb0 hc0 hpos
          unfold BA at ez
          cbv
          refine ⟨_, hcut, ?_⟩
          cbv
          refine cF (e0) ?_
          cbv
          rw [hun]
          refine cF (e15) ?_
          cbv
          refine ⟨hx1, ?_⟩
          cbv
          rw [hb0]
          refine bT (e48) ?_
          cbv
          refine bT (ez) ?_
          cbv
          simp
      · have e48 : F .cmp .eql b0 48 = false := by rw [e48]; exact decide_eq_false h48
        have hg := numR_good (l := l) (by
          rintro (g | g | ⟨g, _⟩)
          · exact ht0 g
          · exact h15 g
          · rw [hc0] at g; injection g with g; exact h48 g)
        clear hdg hcl eb0 hc0 hpos
        by_cases hall : (cutM l).all dig = true
        · obtain ⟨v', hv'⟩ := hg.1 hall
          obtain ⟨f1, f2⟩ := h1 v' hv'
          subst f1 f2
          have ha := hC _ _ _ (atoi_ok s l hs hl18 v hv')
          have hte : tr = BA [] := by rw [htr, (trim_nil (cutM l) tenD).2 fun c hc => (tenD_dig c).trans (List.all_eq_true.1 hall c hc)]
          have en : F .scmp .neq tr (BA []) = false := by rw [sneF hF, hte]; exact decide_eq_false (fun h => h rfl)
          have hni := hC (.nili 119) [] (.pure []) nil119
          clear h1 h2 hg hr hs htr hl18 hv' hall hte hl
          unfold BA at en
          cbv
          refine ⟨_, hcut, ?_⟩
          cbv
          refine cF (e0) ?_
          cbv
          rw [hun]
          refine cF (e15) ?_
          cbv
          refine ⟨hx1, ?_⟩
          cbv
          rw [hb0]
          refine bF (e48) ?_
          cbv
          refine ⟨_, htrim, ?_⟩
          cbv
          refine bF (en) ?_
          cbv
          refine ⟨_, ha, ?_⟩
          cbv
          refine ⟨hC _ _ _ (ben_ok (by kernel_rfl)), ?_⟩
          cbv
          refine ⟨hni, ?_⟩
          cbv
          simp
        ·
          have f := h2 (hg.2 (by simpa using hall))
          obtain ⟨f1, f2⟩ := f
          subst f1 f2
          have hte : tr ≠ BA [] := by
            intro e
            rw [e] at htr
            have := BA_inj htr
            exact hall (List.all_eq_true.2 fun c hc => (tenD_dig c).symm.trans ((trim_nil _ _).1 this.symm c hc))
          have en : F .scmp .neq tr (BA []) = true := by rw [sneF hF]; exact decide_eq_true hte
          clear h1 h2 hg hr hs htr hl18 hall hte hl
          unfold BA at en
          cbv
          refine ⟨_, hcut, ?_⟩
          cbv
          refine cF (e0) ?_
          cbv
          rw [hun]
          refine cF (e15) ?_
          cbv
          refine ⟨hx1, ?_⟩
          cbv
          rw [hb0]
          refine bF (e48) ?_
          cbv
          refine ⟨_, htrim, ?_⟩
          cbv
          refine bT (en) ?_
          cbv
          simp
end Go.Proofs.YtfphhpabfeepmaaDoor
