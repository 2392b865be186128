import Derived.Test.YtfphhpabfeepmaaDoorQ1
import Derived.Test.YtfphhpabfeepmaaDoorP11
set_option linter.unusedSimpArgs false
set_option linter.unusedVariables false
namespace Go.Proofs.YtfphhpabfeepmaaDoor
open Go Go.RowKit Am

theorem srep_rows {w : World} {S : Nat → Prop} {β : Nat → Value} {obs obs' : Obs} {x : AV} {y : Value} (h : ∀ j e sz rows v m, lk j obs' = some (.row e sz rows v m) → lk j obs = some (.row e sz rows v m)) (hx : SRep w S β obs x y) : SRep w S β obs' x y := by
  have h0 : ∀ (x : AV) (y : Value), SRep0 w S β obs x y → SRep0 w S β obs' x y := fun x y hx => by
    cases x <;> try exact hx
    · exact fun e sz rows m h' => hx e sz rows m (h _ _ _ _ _ _ h')
    · exact fun e sz rows m h' => hx e sz rows m (h _ _ _ _ _ _ h')
    · exact fun e sz rows m h' => hx e sz rows m (h _ _ _ _ _ _ h')
  have hh : ∀ (o : Obs) (x : AV), (∀ vs, x ≠ .tup vs) → SRep w S β o x y = SRep0 w S β o x y := fun o x hx => by cases x <;> first | rfl | exact absurd rfl (hx _)
  by_cases ht : ∃ vs, x = .tup vs
  · obtain ⟨vs, rfl⟩ := ht
    obtain ⟨ys, h1, h2, h3⟩ := hx
    exact ⟨ys, h1, h2, fun i u x hu hx => h0 _ _ (h3 i u x hu hx)⟩
  · have hn : ∀ vs, x ≠ .tup vs := fun vs e => ht ⟨vs, e⟩
    rw [hh _ _ hn] at hx ⊢
    exact h0 _ _ hx
/-- A box's cells, said otherwise. -/
theorem le_box (k ty : Nat) (cs cs' : List AV) {s : St} (hk : lk k s.obs = some (.box ty cs false)) (h : ∀ w S xs, RepL w S cs xs → RepL w S cs' xs) :
    Le s { slots := s.slots, obs := (k, .box ty cs' false) :: del k s.obs, ctr := s.ctr, par := s.par } := by
  rintro W0 S0 n a w ⟨S, β, hr⟩
  have hold : ∀ j o, lk j ((k, Ob.box ty cs' false) :: del k s.obs) = some o → (j = k ∧ o = .box ty cs' false) ∨ (j ≠ k ∧ lk j s.obs = some o) := fun j o hj => by
    simp only [lk] at hj
    split at hj
    · rename_i e; injection hj with hj; exact .inl ⟨e.symm, hj.symm⟩
    · rename_i e; rw [lk_del, if_neg (fun e2 => e e2.symm)] at hj; exact .inr ⟨fun e2 => e e2.symm, hj⟩
  have hex : ∀ j o, lk j ((k, Ob.box ty cs' false) :: del k s.obs) = some o → ∃ o2, lk j s.obs = some o2 := fun j o hj => by
    rcases hold j o hj with ⟨e, _⟩ | ⟨_, e⟩
    · subst e; exact ⟨_, hk⟩
    · exact ⟨_, e⟩
  refine ⟨S, β, hr.gr, hr.par, hr.defers, hr.size, fun t x hx => ?_, fun j o hj => ?_, fun j o g hj hg => ?_, fun j j' o o' hj hj' hne g hg hg' => ?_, fun j o hj => ?_, hr.parc, fun j o hp hj => ?_⟩
  · obtain ⟨h1, h2⟩ := hr.slots t x hx
    refine ⟨h1, srep_rows (fun j e sz rows v m hj => ?_) h2⟩
    rcases hold j _ hj with ⟨_, e⟩ | ⟨_, e⟩
    · cases e
    · exact e
  · rcases hold j o hj with ⟨e1, e2⟩ | ⟨_, e⟩
    · subst e1 e2
      obtain ⟨g, xs, h1, h2, h3, h4, h5⟩ := hr.objs j _ hk
      exact ⟨g, xs, h1, h2, h3, h4, h w S xs h5⟩
    · exact hr.objs j o e
  · obtain ⟨o2, h2⟩ := hex j o hj; exact hr.up j o2 g h2 hg
  · obtain ⟨o2, h2⟩ := hex j o hj
    obtain ⟨o3, h3⟩ := hex j' o' hj'
    exact hr.sep j j' o2 o3 h2 h3 hne g hg hg'
  · obtain ⟨o2, h2⟩ := hex j o hj; exact hr.ctr j o2 h2
  · obtain ⟨o2, h2⟩ := hex j o hj; exact hr.fix j o2 hp h2
theorem nil_sl (w : World) (S : Nat → Prop) (a : AV) (xs : List Value) (h : RepL w S [.v (.slice none 0 0), a] xs) : RepL w S [.sl [], a] xs := by
  obtain ⟨y, ys, rfl, h1, h2⟩ := RepL.uncons h
  cases h1
  exact RepL.cons (.nil _ _ (fun _ => rfl)) h2
set_option maxHeartbeats 1000000 in
theorem respPieces_go (s : ByteArray) (hs : s.size ≤ 3000) (d : List UInt8) (hd : d.length ≤ 300) (dR : List (List AV)) (hdR : dR = byR d) (b : Bool) : CSem Tryd.prog (.fn 5) [aS s, .sl dR, aB b] (.pure [aB true]) := by
  refine of_text gam_ok mixed { n := 90, keep := [30, 33, 35, 68, 82], bxs := [30, 35], wrs := [20], cuts := [6] } Tryd.func5 (by kernel_rfl) rfl rfl (by simp) (by decide) fun F C D hF hC hD => ?_
  have haw := hC _ _ _ awake_ok
  have hnew := hC _ _ _ new_ok
  have t2 : F .bnot true = false := by rw [bnotF hF]; rfl
  obtain ⟨l, hl⟩ : ∃ l, l = L s := ⟨_, rfl⟩
  obtain ⟨sn, hsn⟩ : ∃ sn : Int, F .slen s = sn := ⟨_, rfl⟩
  have esn : sn = (l.length : Int) := by rw [← hsn, slenF hF, L_size, hl]
  have hll : l.length ≤ 3000 := by rw [hl, ← L_size]; exact hs
  obtain ⟨dn, hdn⟩ : ∃ dn : Int, F .len dR = dn := ⟨_, rfl⟩
  have edn : dn = (d.length : Int) := by rw [← hdn, lenF hF, hdR, byR_len]
  have g1 : F .cmp .gtr sn 3000 = false := by rw [gtF hF]; simp; omega
  have g2 : F .cmp .gtr dn 300 = false := by rw [gtF hF]; simp; omega
  obtain ⟨lR, hlR⟩ : ∃ lR, lR = byR l := ⟨_, rfl⟩
  have hcv := hC _ _ _ (sb_ok s (by omega) lR (by rw [hlR, hl]))
  obtain ⟨W, hW⟩ : ∃ W, W = FD [] 0 l := ⟨_, rfl⟩
  obtain ⟨wl, hwl⟩ : ∃ r, r = byR W.2.1 := ⟨_, rfl⟩
  obtain ⟨wo, hwo⟩ : ∃ r, r = cR W.1 := ⟨_, rfl⟩
  obtain ⟨we, hwe⟩ : ∃ r : Int, r = (W.2.2 : Int) := ⟨_, rfl⟩
  have hf0 := hC _ _ _ (feed_any [] l 0 (by simpa using (by omega : l.length ≤ 1000000)) [] lR rfl hlR 0 rfl wl wo we (by rw [hwl, hW]) (by rw [hwo, hW]) (by rw [hwe, hW]))
  cbv
  refine ⟨_, haw, ?_⟩
  cbv
  refine cF (t2) ?_
  cbv
  rw [hsn]
  refine cF (g1) ?_
  cbv
  rw [hdn]
  refine bF (g2) ?_
  cbv
  refine ⟨_, _, _, hnew, ?_⟩
  cbv
  refine br (fun hb => ?_) (fun hb => ?_)
  · cbv
    refine ⟨{ slots := [(7, .ptr 0 0), (0, aS s), (1, .sl dR)], obs := PO [] 0, ctr := 1 }, Le.trans (le_box 1 45 _ [.sl [], aI 0] (by rfl) (fun w S xs h => nil_sl w S _ xs h)) (le_of [(0, 1)] (by simp [leSl, leOb, injK, memK, parK, noTup, lk, rn0, rnA, plain] <;> first | rfl | decide)), hD _ _ _ ?_⟩
    cbv
    refine ⟨_, _, _, hnew, ?_⟩
    cbv
    refine ⟨_, hcv, ?_⟩
    cbv
    refine ⟨_, _, hf0, ?_⟩
    cbv
    rw [hdn]
    refine ⟨Nat × Int × Nat × Int × List UInt8 × List (List AV) × Nat × Int × List (List (List UInt8)) × List (List AV), fun x => { slots := [(43, aI x.2.1), (42, aI dn), (12, aI x.2.2.2.1), (11, aI x.2.2.2.2.2.2.2.1), (10, .own 2 0), (9, aI we), (8, .sl wo), (7, .ptr 0 0), (0, aS s), (1, .sl dR)], obs := [(2, .row 22 1 x.2.2.2.2.2.2.2.2.2 0 0), (0, .box 45 [.sl x.2.2.2.2.2.1, aI x.2.2.2.2.2.2.2.1] false)], ctr := 3 },
      fun x => x.2.1 = (x.1 : Int) ∧ x.1 ≤ d.length ∧ x.2.2.2.1 = (x.2.2.1 : Int) ∧ x.2.2.1 ≤ l.length ∧ x.2.2.2.2.2.1 = byR x.2.2.2.2.1 ∧ x.2.2.2.2.2.2.2.1 = (x.2.2.2.2.2.2.1 : Int) ∧ x.2.2.2.2.2.2.2.2.1 = (P (l.take x.2.2.1)).1 ∧ x.2.2.2.2.2.2.2.2.2 = cR x.2.2.2.2.2.2.2.2.1 ∧ At (l.take x.2.2.1) x.2.2.2.2.1 x.2.2.2.2.2.2.1,
      fun x => d.length - x.1, ⟨(0, 0, 0, 0, [], [], 0, 0, [], []), ⟨rfl, Nat.zero_le _, rfl, Nat.zero_le _, rfl, rfl, rfl, rfl, at_nil⟩, Le.trans (le_nil 10 22 1 (by rfl) (by rfl)) (le_of [] (by simp [leSl, leOb, injK, memK, parK, noTup, lk, rn0, rnA, plain] <;> first | rfl | decide))⟩, fun x hx => ?_⟩
    obtain ⟨i, i', pos, pos', left, lfR, e, e', o, oR⟩ := x
    obtain ⟨ei, hi, epos, hpos, elf, ee, eo, eoR, hat⟩ := hx
    simp only at ei hi epos hpos elf ee eo eoR hat
    have edn : dn = (d.length : Int) := edn
    have tl := ltF hF i d.length i' dn ei edn
    obtain ⟨i2, hi2⟩ : ∃ i2, F .ar .add .i64 i' 1 = i2 := ⟨_, rfl⟩
    have ei2 : i2 = ((i + 1 : Nat) : Int) := hi2.symm.trans (incF hF ei (by omega))
    have hPl := P_len _ (l.take pos) (Nat.le_refl _)
    have htk : (l.take pos).length = pos := by rw [List.length_take]; omega
    rw [htk, ← eo] at hPl
    have hat3 := hat.2.2
    rw [htk] at hat3
    have piece : ∀ p2 : Nat, pos ≤ p2 → p2 ≤ l.length → ∃ (x : List UInt8) (xs : ByteArray), xs = s.extract pos p2 ∧ L xs = x ∧ l.take p2 = l.take pos ++ x ∧ x.length ≤ 3000 := fun p2 h1 h2 => by
      refine ⟨(l.drop pos).take (p2 - pos), s.extract pos p2, rfl, by rw [L_extract, hl], ?_, by rw [List.length_take, List.length_drop]; omega⟩
      rw [← List.take_append_drop pos (l.take p2), List.take_take, List.drop_take]
      congr 1
      rw [Nat.min_eq_left h1]
    cbv
    refine br (fun h => ?_) (fun h => ?_) <;> cbv
    · have hil := tl.1 h
      obtain ⟨c, hc⟩ : ∃ c, d[i]? = some c := ⟨_, List.getElem?_eq_getElem hil⟩
      obtain ⟨ci, hci⟩ : ∃ ci : Int, ci = (c.toNat : Int) := ⟨_, rfl⟩
      have hrow : dR[i]? = some [aU ci] := by rw [hdR, hci]; exact byR_get hc
      refine ⟨i, _, ei, hrow, rfl, ?_⟩
      cbv
      obtain ⟨p2, hp2⟩ : ∃ p2, p2 = min (pos + c.toNat) l.length := ⟨_, rfl⟩
      have ep2 : F .mn (F .ar .add .i64 pos' (F .wrp .i64 ci)) sn = ((p2 : Nat) : Int) := by
        have hc2 : c.toNat < 256 := c.toNat_lt
        have w1 : F .wrp .i64 ci = ((c.toNat : Nat) : Int) := by rw [hF, hci]; show IntKind.i64.wrap (c.toNat : Int) = _; exact wrap_in (by omega) (by omega)
        have w2 : F .ar .add .i64 pos' ((c.toNat : Nat) : Int) = ((pos + c.toNat : Nat) : Int) := addF hF epos rfl (by omega)
        rw [w1, w2, esn, hp2, hF]
        show (if ((l.length : Nat) : Int) < ((pos + c.toNat : Nat) : Int) then ((l.length : Nat) : Int) else ((pos + c.toNat : Nat) : Int)) = _
        split <;> omega
      have h1 : pos ≤ p2 := by rw [hp2]; omega
      have h2 : p2 ≤ l.length := by rw [hp2]; omega
      obtain ⟨x, xs, hxs, hx, htake, hxl⟩ := piece p2 h1 h2
      have hx : L xs = x := hx
      obtain ⟨xR, hxR⟩ : ∃ xR, xR = byR x := ⟨_, rfl⟩
      have hcvx := hC _ _ _ (sb_ok xs (by rw [L_size, hx]; omega) xR (by rw [hxR, hx]))
      obtain ⟨V, hV⟩ : ∃ V, V = FD left e x := ⟨_, rfl⟩
      obtain ⟨lR2, hlR2⟩ : ∃ r, r = byR V.2.1 := ⟨_, rfl⟩
      obtain ⟨oR2, hoR2⟩ : ∃ r, r = cR V.1 := ⟨_, rfl⟩
      obtain ⟨e2, he2⟩ : ∃ r : Int, r = (V.2.2 : Int) := ⟨_, rfl⟩
      have hfx := hC _ _ _ (feed_any left x e (by rw [List.length_append]; omega) lfR xR elf hxR e' ee lR2 oR2 e2 (by rw [hlR2, hV]) (by rw [hoR2, hV]) (by rw [he2, hV]))
      obtain ⟨hst1, hst2⟩ := at_step hat x
      rw [← hV] at hst1 hst2
      obtain ⟨o3, ho3⟩ : ∃ o3, F .app oR oR2 = o3 := ⟨_, rfl⟩
      have eo3 : o3 = cR (o ++ V.1) := by rw [← ho3, hF, eoR, hoR2]; simp [sy, cR]
      have hlen2 := P_len _ (l.take pos ++ x) (Nat.le_refl _)
      rw [hst1, List.length_append, ← htake, List.length_take] at hlen2
      have hrm : (F .len oR + F .len oR2) * 24 ≤ 140737488355328 := by rw [lenF hF, lenF hF, eoR, hoR2, cR_len, cR_len, eo]; omega
      have hel : ∀ r ∈ oR2, r.length = 1 := by rw [hoR2]; exact cR_one _
      rw [hsn]
      refine ⟨pos, p2, by rw [epos]; rfl, by rw [ep2]; rfl, h1, by rw [esn]; exact Int.ofNat_le.2 h2, xs, hxs, ?_⟩
      cbv
      refine ⟨_, hcvx, ?_⟩
      cbv
      refine ⟨_, _, hfx, ?_⟩
      cbv
      refine ⟨hel, hrm, ?_⟩
      cbv
      rw [ho3, hi2, ep2]
      exact ⟨(i + 1, i2, p2, (p2 : Int), V.2.1, lR2, V.2.2, e2, o ++ V.1, o3), ⟨ei2, hil, rfl, h2, hlR2, he2, by simp only; rw [htake, hst1, ← eo], eo3, by simp only; rw [htake]; exact hst2⟩, (show d.length - (i + 1) < d.length - i by omega), (le_of [(2, 3)] (by simp [leSl, leOb, injK, memK, parK, noTup, lk, rn0, rnA, plain] <;> first | rfl | decide))⟩
    · have h1 : pos ≤ l.length := hpos
      have h2 : l.length ≤ l.length := Nat.le_refl _
      obtain ⟨p2, hp2⟩ : ∃ p2, p2 = l.length := ⟨_, rfl⟩
      rw [← hp2] at h1 h2
      obtain ⟨x, xs, hxs, hx, htake, hxl⟩ := piece p2 h1 (by omega)
      have hx : L xs = x := hx
      obtain ⟨xR, hxR⟩ : ∃ xR, xR = byR x := ⟨_, rfl⟩
      have hcvx := hC _ _ _ (sb_ok xs (by rw [L_size, hx]; omega) xR (by rw [hxR, hx]))
      obtain ⟨V, hV⟩ : ∃ V, V = FD left e x := ⟨_, rfl⟩
      obtain ⟨lR2, hlR2⟩ : ∃ r, r = byR V.2.1 := ⟨_, rfl⟩
      obtain ⟨oR2, hoR2⟩ : ∃ r, r = cR V.1 := ⟨_, rfl⟩
      obtain ⟨e2, he2⟩ : ∃ r : Int, r = (V.2.2 : Int) := ⟨_, rfl⟩
      have hfx := hC _ _ _ (feed_any left x e (by rw [List.length_append]; omega) lfR xR elf hxR e' ee lR2 oR2 e2 (by rw [hlR2, hV]) (by rw [hoR2, hV]) (by rw [he2, hV]))
      obtain ⟨hst1, hst2⟩ := at_step hat x
      rw [← hV] at hst1 hst2
      obtain ⟨o3, ho3⟩ : ∃ o3, F .app oR oR2 = o3 := ⟨_, rfl⟩
      have eo3 : o3 = cR (o ++ V.1) := by rw [← ho3, hF, eoR, hoR2]; simp [sy, cR]
      have hlen2 := P_len _ (l.take pos ++ x) (Nat.le_refl _)
      rw [hst1, List.length_append, ← htake, List.length_take] at hlen2
      have hrm : (F .len oR + F .len oR2) * 24 ≤ 140737488355328 := by rw [lenF hF, lenF hF, eoR, hoR2, cR_len, cR_len, eo]; omega
      have hel : ∀ r ∈ oR2, r.length = 1 := by rw [hoR2]; exact cR_one _
      have htl : l.take p2 = l := List.take_of_length_le (by omega)
      rw [htl] at htake
      rw [← htake] at hst1 hst2
      have hWl : W = P l := by rw [hW]; rfl
      have hsm := P_small _ l (Nat.le_refl _)
      have hln := P_len _ l (Nat.le_refl _)
      have hsame := hC _ _ _ (same_ok (o ++ V.1) W.1 (by rw [eo, ← hst1]; omega) (by rw [hWl]; omega) (by rw [eo, ← hst1]; exact fun y hy => Nat.le_trans (hsm y hy) (by omega)) (by rw [hWl]; exact fun y hy => Nat.le_trans (hsm y hy) (by omega)) o3 wo eo3 hwo true (by rw [eo, ← hst1, hWl]; simp))
      have hee : F .cmp .eql e2 we = true := by rw [eqF hF, he2, hwe, hWl, hst2.1]; simp
      refine ⟨pos, p2, by rw [epos]; rfl, by rw [hsn, esn, hp2], h1, by rw [hsn, esn, hp2]; omega, xs, hxs, ?_⟩
      cbv
      refine ⟨_, hcvx, ?_⟩
      cbv
      refine ⟨_, _, hfx, ?_⟩
      cbv
      refine ⟨hel, hrm, ?_⟩
      cbv
      rw [ho3]
      refine ⟨_, hsame, ?_⟩
      cbv
      refine bT (by first | assumption | rfl) ?_
      cbv
      rw [hee]
      simp
  · cbv
    refine ⟨{ slots := [(7, .ptr 0 0), (0, aS s), (1, .sl dR)], obs := PO [] 0, ctr := 1 }, (le_of [] (by simp [leSl, leOb, injK, memK, parK, noTup, lk, rn0, rnA, plain] <;> first | rfl | decide)), hD _ _ _ ?_⟩
    cbv
    refine ⟨_, _, _, hnew, ?_⟩
    cbv
    refine ⟨_, hcv, ?_⟩
    cbv
    refine ⟨_, _, hf0, ?_⟩
    cbv
    rw [hdn]
    refine ⟨Nat × Int × Nat × Int × List UInt8 × List (List AV) × Nat × Int × List (List (List UInt8)) × List (List AV), fun x => { slots := [(43, aI x.2.1), (42, aI dn), (12, aI x.2.2.2.1), (11, aI x.2.2.2.2.2.2.2.1), (10, .own 2 0), (9, aI we), (8, .sl wo), (7, .ptr 0 0), (0, aS s), (1, .sl dR)], obs := [(2, .row 22 1 x.2.2.2.2.2.2.2.2.2 0 0), (0, .box 45 [.sl x.2.2.2.2.2.1, aI x.2.2.2.2.2.2.2.1] false)], ctr := 3 },
      fun x => x.2.1 = (x.1 : Int) ∧ x.1 ≤ d.length ∧ x.2.2.2.1 = (x.2.2.1 : Int) ∧ x.2.2.1 ≤ l.length ∧ x.2.2.2.2.2.1 = byR x.2.2.2.2.1 ∧ x.2.2.2.2.2.2.2.1 = (x.2.2.2.2.2.2.1 : Int) ∧ x.2.2.2.2.2.2.2.2.1 = (P (l.take x.2.2.1)).1 ∧ x.2.2.2.2.2.2.2.2.2 = cR x.2.2.2.2.2.2.2.2.1 ∧ At (l.take x.2.2.1) x.2.2.2.2.1 x.2.2.2.2.2.2.1,
      fun x => d.length - x.1, ⟨(0, 0, 0, 0, [], [], 0, 0, [], []), ⟨rfl, Nat.zero_le _, rfl, Nat.zero_le _, rfl, rfl, rfl, rfl, at_nil⟩, Le.trans (le_nil 10 22 1 (by rfl) (by rfl)) (le_of [] (by simp [leSl, leOb, injK, memK, parK, noTup, lk, rn0, rnA, plain] <;> first | rfl | decide))⟩, fun x hx => ?_⟩
    obtain ⟨i, i', pos, pos', left, lfR, e, e', o, oR⟩ := x
    obtain ⟨ei, hi, epos, hpos, elf, ee, eo, eoR, hat⟩ := hx
    simp only at ei hi epos hpos elf ee eo eoR hat
    have edn : dn = (d.length : Int) := edn
    have tl := ltF hF i d.length i' dn ei edn
    obtain ⟨i2, hi2⟩ : ∃ i2, F .ar .add .i64 i' 1 = i2 := ⟨_, rfl⟩
    have ei2 : i2 = ((i + 1 : Nat) : Int) := hi2.symm.trans (incF hF ei (by omega))
    have hPl := P_len _ (l.take pos) (Nat.le_refl _)
    have htk : (l.take pos).length = pos := by rw [List.length_take]; omega
    rw [htk, ← eo] at hPl
    have hat3 := hat.2.2
    rw [htk] at hat3
    have piece : ∀ p2 : Nat, pos ≤ p2 → p2 ≤ l.length → ∃ (x : List UInt8) (xs : ByteArray), xs = s.extract pos p2 ∧ L xs = x ∧ l.take p2 = l.take pos ++ x ∧ x.length ≤ 3000 := fun p2 h1 h2 => by
      refine ⟨(l.drop pos).take (p2 - pos), s.extract pos p2, rfl, by rw [L_extract, hl], ?_, by rw [List.length_take, List.length_drop]; omega⟩
      rw [← List.take_append_drop pos (l.take p2), List.take_take, List.drop_take]
      congr 1
      rw [Nat.min_eq_left h1]
    cbv
    refine br (fun h => ?_) (fun h => ?_) <;> cbv
    · have hil := tl.1 h
      obtain ⟨c, hc⟩ : ∃ c, d[i]? = some c := ⟨_, List.getElem?_eq_getElem hil⟩
      obtain ⟨ci, hci⟩ : ∃ ci : Int, ci = (c.toNat : Int) := ⟨_, rfl⟩
      have hrow : dR[i]? = some [aU ci] := by rw [hdR, hci]; exact byR_get hc
      refine ⟨i, _, ei, hrow, rfl, ?_⟩
      cbv
      obtain ⟨p2, hp2⟩ : ∃ p2, p2 = min (pos + c.toNat) l.length := ⟨_, rfl⟩
      have ep2 : F .mn (F .ar .add .i64 pos' (F .wrp .i64 ci)) sn = ((p2 : Nat) : Int) := by
        have hc2 : c.toNat < 256 := c.toNat_lt
        have w1 : F .wrp .i64 ci = ((c.toNat : Nat) : Int) := by rw [hF, hci]; show IntKind.i64.wrap (c.toNat : Int) = _; exact wrap_in (by omega) (by omega)
        have w2 : F .ar .add .i64 pos' ((c.toNat : Nat) : Int) = ((pos + c.toNat : Nat) : Int) := addF hF epos rfl (by omega)
        rw [w1, w2, esn, hp2, hF]
        show (if ((l.length : Nat) : Int) < ((pos + c.toNat : Nat) : Int) then ((l.length : Nat) : Int) else ((pos + c.toNat : Nat) : Int)) = _
        split <;> omega
      have h1 : pos ≤ p2 := by rw [hp2]; omega
      have h2 : p2 ≤ l.length := by rw [hp2]; omega
      obtain ⟨x, xs, hxs, hx, htake, hxl⟩ := piece p2 h1 h2
      have hx : L xs = x := hx
      obtain ⟨xR, hxR⟩ : ∃ xR, xR = byR x := ⟨_, rfl⟩
      have hcvx := hC _ _ _ (sb_ok xs (by rw [L_size, hx]; omega) xR (by rw [hxR, hx]))
      obtain ⟨V, hV⟩ : ∃ V, V = FD left e x := ⟨_, rfl⟩
      obtain ⟨lR2, hlR2⟩ : ∃ r, r = byR V.2.1 := ⟨_, rfl⟩
      obtain ⟨oR2, hoR2⟩ : ∃ r, r = cR V.1 := ⟨_, rfl⟩
      obtain ⟨e2, he2⟩ : ∃ r : Int, r = (V.2.2 : Int) := ⟨_, rfl⟩
      have hfx := hC _ _ _ (feed_any left x e (by rw [List.length_append]; omega) lfR xR elf hxR e' ee lR2 oR2 e2 (by rw [hlR2, hV]) (by rw [hoR2, hV]) (by rw [he2, hV]))
      obtain ⟨hst1, hst2⟩ := at_step hat x
      rw [← hV] at hst1 hst2
      obtain ⟨o3, ho3⟩ : ∃ o3, F .app oR oR2 = o3 := ⟨_, rfl⟩
      have eo3 : o3 = cR (o ++ V.1) := by rw [← ho3, hF, eoR, hoR2]; simp [sy, cR]
      have hlen2 := P_len _ (l.take pos ++ x) (Nat.le_refl _)
      rw [hst1, List.length_append, ← htake, List.length_take] at hlen2
      have hrm : (F .len oR + F .len oR2) * 24 ≤ 140737488355328 := by rw [lenF hF, lenF hF, eoR, hoR2, cR_len, cR_len, eo]; omega
      have hel : ∀ r ∈ oR2, r.length = 1 := by rw [hoR2]; exact cR_one _
      rw [hsn]
      refine ⟨pos, p2, by rw [epos]; rfl, by rw [ep2]; rfl, h1, by rw [esn]; exact Int.ofNat_le.2 h2, xs, hxs, ?_⟩
      cbv
      refine ⟨_, hcvx, ?_⟩
      cbv
      refine ⟨_, _, hfx, ?_⟩
      cbv
      refine ⟨hel, hrm, ?_⟩
      cbv
      rw [ho3, hi2, ep2]
      exact ⟨(i + 1, i2, p2, (p2 : Int), V.2.1, lR2, V.2.2, e2, o ++ V.1, o3), ⟨ei2, hil, rfl, h2, hlR2, he2, by simp only; rw [htake, hst1, ← eo], eo3, by simp only; rw [htake]; exact hst2⟩, (show d.length - (i + 1) < d.length - i by omega), (le_of [(2, 3)] (by simp [leSl, leOb, injK, memK, parK, noTup, lk, rn0, rnA, plain] <;> first | rfl | decide))⟩
    · have h1 : pos ≤ l.length := hpos
      have h2 : l.length ≤ l.length := Nat.le_refl _
      obtain ⟨p2, hp2⟩ : ∃ p2, p2 = l.length := ⟨_, rfl⟩
      rw [← hp2] at h1 h2
      obtain ⟨x, xs, hxs, hx, htake, hxl⟩ := piece p2 h1 (by omega)
      have hx : L xs = x := hx
      obtain ⟨xR, hxR⟩ : ∃ xR, xR = byR x := ⟨_, rfl⟩
      have hcvx := hC _ _ _ (sb_ok xs (by rw [L_size, hx]; omega) xR (by rw [hxR, hx]))
      obtain ⟨V, hV⟩ : ∃ V, V = FD left e x := ⟨_, rfl⟩
      obtain ⟨lR2, hlR2⟩ : ∃ r, r = byR V.2.1 := ⟨_, rfl⟩
      obtain ⟨oR2, hoR2⟩ : ∃ r, r = cR V.1 := ⟨_, rfl⟩
      obtain ⟨e2, he2⟩ : ∃ r : Int, r = (V.2.2 : Int) := ⟨_, rfl⟩
      have hfx := hC _ _ _ (feed_any left x e (by rw [List.length_append]; omega) lfR xR elf hxR e' ee lR2 oR2 e2 (by rw [hlR2, hV]) (by rw [hoR2, hV]) (by rw [he2, hV]))
      obtain ⟨hst1, hst2⟩ := at_step hat x
      rw [← hV] at hst1 hst2
      obtain ⟨o3, ho3⟩ : ∃ o3, F .app oR oR2 = o3 := ⟨_, rfl⟩
      have eo3 : o3 = cR (o ++ V.1) := by rw [← ho3, hF, eoR, hoR2]; simp [sy, cR]
      have hlen2 := P_len _ (l.take pos ++ x) (Nat.le_refl _)
      rw [hst1, List.length_append, ← htake, List.length_take] at hlen2
      have hrm : (F .len oR + F .len oR2) * 24 ≤ 140737488355328 := by rw [lenF hF, lenF hF, eoR, hoR2, cR_len, cR_len, eo]; omega
      have hel : ∀ r ∈ oR2, r.length = 1 := by rw [hoR2]; exact cR_one _
      have htl : l.take p2 = l := List.take_of_length_le (by omega)
      rw [htl] at htake
      rw [← htake] at hst1 hst2
      have hWl : W = P l := by rw [hW]; rfl
      have hsm := P_small _ l (Nat.le_refl _)
      have hln := P_len _ l (Nat.le_refl _)
      have hsame := hC _ _ _ (same_ok (o ++ V.1) W.1 (by rw [eo, ← hst1]; omega) (by rw [hWl]; omega) (by rw [eo, ← hst1]; exact fun y hy => Nat.le_trans (hsm y hy) (by omega)) (by rw [hWl]; exact fun y hy => Nat.le_trans (hsm y hy) (by omega)) o3 wo eo3 hwo true (by rw [eo, ← hst1, hWl]; simp))
      have hee : F .cmp .eql e2 we = true := by rw [eqF hF, he2, hwe, hWl, hst2.1]; simp
      refine ⟨pos, p2, by rw [epos]; rfl, by rw [hsn, esn, hp2], h1, by rw [hsn, esn, hp2]; omega, xs, hxs, ?_⟩
      cbv
      refine ⟨_, hcvx, ?_⟩
      cbv
      refine ⟨_, _, hfx, ?_⟩
      cbv
      refine ⟨hel, hrm, ?_⟩
      cbv
      rw [ho3]
      refine ⟨_, hsame, ?_⟩
      cbv
      refine bT (by first | assumption | rfl) ?_
      cbv
      rw [hee]
      simp
theorem respPieces_ok (s : ByteArray) (d : List UInt8) (dR : List (List AV)) (hdR : dR = byR d) (b : Bool) : CSem Tryd.prog (.fn 5) [aS s, .sl dR, aB b] (.pure [aB true]) := by
  by_cases hs : s.size ≤ 3000
  · by_cases hd : d.length ≤ 300
    · exact respPieces_go s hs d hd dR hdR b
    · refine of_text gam_ok mixed { n := 90, keep := [30, 33, 35, 68, 82], bxs := [30, 35], wrs := [20], cuts := [6] } Tryd.func5 (by kernel_rfl) rfl rfl (by simp) (by decide) fun F C D hF hC hD => ?_
      have haw := hC _ _ _ awake_ok
      have t2 : F .bnot true = false := by rw [bnotF hF]; rfl
      have g1 : F .cmp .gtr (F .slen s) 3000 = false := by rw [slenF hF, gtF hF]; simp; omega
      have g2 : F .cmp .gtr (F .len dR) 300 = true := by rw [lenF hF, gtF hF, hdR, byR_len]; simp; omega
      clear hdR
      cbv
      refine ⟨_, haw, ?_⟩
      cbv
      refine cF (t2) ?_
      cbv
      refine cF (g1) ?_
      cbv
      refine bT (g2) ?_
      cbv
      refine ⟨_, haw, ?_⟩
      cbv
      simp
  · refine of_text gam_ok mixed { n := 90, keep := [30, 33, 35, 68, 82], bxs := [30, 35], wrs := [20], cuts := [6] } Tryd.func5 (by kernel_rfl) rfl rfl (by simp) (by decide) fun F C D hF hC hD => ?_
    have haw := hC _ _ _ awake_ok
    have t2 : F .bnot true = false := by rw [bnotF hF]; rfl
    have g1 : F .cmp .gtr (F .slen s) 3000 = true := by rw [slenF hF, gtF hF]; simp; omega
    clear hdR
    cbv
    refine ⟨_, haw, ?_⟩
    cbv
    refine cF (t2) ?_
    cbv
    refine cT (g1) ?_
    cbv
    refine ⟨_, haw, ?_⟩
    cbv
    simp
end Go.Proofs.YtfphhpabfeepmaaDoor
