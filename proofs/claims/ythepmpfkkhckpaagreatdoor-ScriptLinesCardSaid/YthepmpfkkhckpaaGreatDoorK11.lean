import Derived.Test.YthepmpfkkhckpaaGreatDoorK10
set_option linter.unusedSimpArgs false
set_option linter.unusedVariables false
namespace Go.Proofs.YthepmpfkkhckpaaGreatDoor
open Go Go.RowKit Am

/-! ### A line -/
def kW : List ByteArray := [⟨#[63]⟩, ⟨#[99, 108, 105, 101, 110, 116]⟩, ⟨#[102, 115, 121, 110, 99]⟩, ⟨#[97, 115, 107]⟩, ⟨#[100, 101, 108, 105, 118, 101, 114]⟩, ⟨#[100, 114, 111, 112]⟩, ⟨#[100, 111, 117, 98, 108, 101]⟩, ⟨#[99, 114, 97, 115, 104]⟩, ⟨#[115, 116, 97, 114, 116]⟩, ⟨#[99, 111, 109, 112, 97, 99, 116]⟩, ⟨#[99, 111, 108, 108, 101, 99, 116]⟩, ⟨#[119, 97, 108, 108]⟩]
def eW : List ByteArray := [⟨#[111, 107]⟩, ⟨#[97, 114, 103]⟩, ⟨#[115, 104, 111, 114, 116]⟩, ⟨#[102, 111, 114, 109]⟩, ⟨#[108, 111, 110, 103]⟩, ⟨#[115, 117, 109]⟩, ⟨#[111, 118, 101, 114]⟩, ⟨#[110, 111, 110, 101]⟩, ⟨#[116, 121, 112, 101]⟩, ⟨#[102, 117, 108, 108]⟩, ⟨#[108, 111, 115, 116]⟩, ⟨#[115, 116, 97, 116, 101]⟩, ⟨#[97, 114, 105, 116, 121]⟩, ⟨#[105, 110, 116]⟩, ⟨#[117, 110, 107, 110, 111, 119, 110]⟩, ⟨#[100, 111, 119, 110]⟩]
abbrev spc : ByteArray := ⟨#[32]⟩
variable {P : Program}
theorem of_textS (hΓ : TOKs P) (hm : P.follows .mixedOrders = true) (E : En) {f : Nat} {fn : Func} {c : Code} {args : List AV} {res : Res} (hf : P.funcs[f]? = some fn) (hname : (fn.name == "runtime.NumGoroutine") = false) (hb : fn.body = some c) (hn : fn.ntmps = E.n) (ha : args.length ≤ E.n) (h4 : fn.results.toList.length ≤ 4)
    (h : ∀ (F : Sy) (C : Key → List AV → Res → Prop) (D : Code → (AE → St → Prop) → St → Prop), F = sy → (∀ k ar r, CSem P k ar r → C k ar r) → (∀ c Q s, awp F C D E c Q s → D c Q s) → (∀ c Q s, (∀ c' Q' s', D c' Q' s' → Snd P E c' Q' s') → Snd P E c Q s → D c Q s) → (∀ c' Q' s', D c' Q' s' → Snd P E c' Q' s') → awp F C D E c (fun e st => match e with | .normal => retOK fn.results.toList res st | .ret => retOK fn.results.toList res st | .exit _ => False) { slots := st0 0 args, obs := [], ctr := 0 }) : CSem P (.fn f) args res := by
  refine fsem_of (fun ar w => ?_) (acalls_of0 E hΓ hm hf hb hn ha h4 (h sy (CSem P) (Snd P E) rfl (fun _ _ _ h => h) (fun c Q s h W0 S0 R a w hr hq => awp_ok hΓ hm c Q R s a w h hr hq) (fun c Q s _ h => h) (fun _ _ _ h => h)))
  have h1 : fn.name ≠ "runtime.NumGoroutine" := by simpa using hname
  simp [callFunc, hf, h1, hb]
theorem piece {W0 : Bas} {S0 : Nat → Prop} {E : En} {c : Code} {R : Exit → Act → World → Prop} {st : St} {a : Act} {w : World} (Q : AE → St → Prop) (hr : Rel W0 S0 E.n st a w)
    (h : ∀ (F : Sy) (C : Key → List AV → Res → Prop) (D : Code → (AE → St → Prop) → St → Prop), F = sy → (∀ k ar r, CSem Tryz.prog k ar r → C k ar r) → awp F C D E c Q st)
    (k : ∀ e st' a' w', Q e st' → Rel W0 S0 E.n st' a' w' → R (toExit e) a' w') : c.wp Tryz.prog R a w :=
  awp_ok gam_ok mixed c Q R st a w (h sy (CSem Tryz.prog) (Snd Tryz.prog E) rfl (fun _ _ _ h => h)) hr k
theorem rel_fresh {W : World} {S : Nat → Prop} {a : Act} {n : Nat} {sl : List (Nat × AV)} (hS : ∀ g, S g → g < W.heap.size) (hgd : gdOK W S) (hd : a.defers = []) (hz : a.tmps.size = n) (h : ∀ t x, lk t sl = some x → t < n ∧ SRep W S (fun _ => .bool true) [] x (a.tmps.getD t undef)) :
    Rel { W := W, par := 0, M := fun _ => False, b0 := fun _ => .bool true } S n { slots := sl, obs := [], ctr := 0 } a W :=
  ⟨S, fun _ => .bool true, GrK.refl hS hgd, rfl, hd, hz, h, fun k o h => by simp [lk] at h, fun k o g h => by simp [lk] at h, fun k k' o o' h => by simp [lk] at h, fun k o h => by simp [lk] at h, Nat.le_refl _, fun k o _ h => by simp [lk] at h⟩
theorem rel_after {W : World} {S : Nat → Prop} {b0 : Nat → Value} {n : Nat} {st : St} {a : Act} {w : World} (h : Rel { W := W, par := 0, M := fun _ => False, b0 := b0 } S n st a w) : ∃ S1 β1, RelS { W := W, par := 0, M := fun _ => False, b0 := b0 } S n S1 β1 st a w ∧ Gr W S w S1 := by
  obtain ⟨S1, β1, hr⟩ := h
  exact ⟨S1, β1, hr, hr.gr.gr (fun _ h => h)⟩

def line1 (k node : Int) : ByteArray := if 4 ≤ k ∧ k ≤ 6 then wordB kW k else wordB kW k ++ (spc ++ itoaB node)
def line2 (k node err : Int) : ByteArray := line1 k node ++ (spc ++ wordB eW err)
def lineS (k node err : Int) (by_ : ByteArray) (num : Int) : ByteArray :=
  if err ≠ 0 then line2 k node err else if k = 1 ∧ by_ ≠ ⟨#[]⟩ then line2 k node err ++ (spc ++ lineB by_) else if k = 3 ∨ k = 4 ∨ k = 10 then line2 k node err ++ (spc ++ itoaB num) else line2 k node err
theorem word_size (ws : List ByteArray) (n : Int) (h : ∀ w ∈ ws, w.size ≤ 10) : (wordB ws n).size ≤ 10 := by
  unfold wordB
  split
  · decide
  · rw [List.getD_eq_getElem?_getD]
    cases hg : ws[n.toNat]? with
    | none => decide
    | some w => exact h w (List.mem_of_getElem? hg)
theorem kW_size (n : Int) : (wordB kW n).size ≤ 10 := word_size kW n (by decide)
theorem eW_size (n : Int) : (wordB eW n).size ≤ 10 := word_size eW n (by decide)
theorem itoa_size (n : Int) (h0 : -9223372036854775808 ≤ n) (h1 : n ≤ 9223372036854775807) : (itoaB n).size ≤ 21 := by rw [itoaB, BA_size]; exact dec_len n h0 h1
theorem ba_app (a b : ByteArray) : (a ++ b).size = a.size + b.size := ByteArray.size_append ..
theorem line1_size (k node : Int) (h0 : -9223372036854775808 ≤ node) (h1 : node ≤ 9223372036854775807) : (line1 k node).size ≤ 40 := by
  have e1 := kW_size k
  have e2 := itoa_size node h0 h1
  unfold line1
  split
  · omega
  · rw [ba_app, ba_app]; show _ + (1 + _) ≤ 40; omega
theorem line2_size (k node err : Int) (h0 : -9223372036854775808 ≤ node) (h1 : node ≤ 9223372036854775807) : (line2 k node err).size ≤ 60 := by
  have e1 := line1_size k node h0 h1
  have e2 := eW_size err
  unfold line2
  rw [ba_app, ba_app]; show _ + (1 + _) ≤ 60; omega
theorem catA {F : Sy} (hF : F = sy) (a b : ByteArray) : F .cat a b = a ++ b := by rw [hF]; rfl
theorem catO {F : Sy} (hF : F = sy) {a b : ByteArray} {m n : Nat} (ha : a.size ≤ m) (hb : b.size ≤ n) (h : m + n ≤ 1000000000) : F .slen a + F .slen b ≤ 9223372036854775807 := catS hF (by omega)
abbrev stepC (k node n ta turn : Int) (sb : ByteArray) : List AV := [aI k, aI node, aI n, aI ta, aI turn, aS sb]
abbrev ansC (err : Int) (by_ : ByteArray) (num : Int) : List AV := [aI err, aS by_, aI num]
set_option maxHeartbeats 8000000 in
theorem line_err (k node n ta turn : Int) (sb : ByteArray) (err : Int) (by_ : ByteArray) (num : Int) (h0 : -9223372036854775808 ≤ node) (h1 : node ≤ 9223372036854775807) (he : err ≠ 0)
    (o2 : ByteArray) (ho2 : o2 = line2 k node err) : CSem Tryz.prog (.fn 5) [.agg (stepC k node n ta turn sb), .agg (ansC err by_ num)] (.pure [aS o2]) := by
  refine of_textS gam_ok mixed { n := 69, cuts := [5] } Tryz.func5 (by kernel_rfl) rfl rfl (by simp) (by decide) fun F C D hF hC hD hS hDS => ?_
  obtain ⟨w1, hw1⟩ : ∃ w, w = wordB kW k := ⟨_, rfl⟩
  have hwd1 := hC _ _ _ (word8_ok kW (by decide) _ rfl k w1 hw1)
  obtain ⟨w2, hw2⟩ : ∃ w, w = wordB eW err := ⟨_, rfl⟩
  have hwd2 := hC _ _ _ (word8_ok eW (by decide) _ rfl err w2 hw2)
  obtain ⟨q, hq⟩ : ∃ q : Bool, q = decide (4 ≤ k ∧ k ≤ 6) := ⟨_, rfl⟩
  have hnet := hC _ _ _ (net_ok k q hq)
  obtain ⟨d1, hd1⟩ : ∃ d, d = itoaB node := ⟨_, rfl⟩
  have hit1 := hC _ _ _ (itoa_ok node h0 h1 d1 hd1)
  obtain ⟨o1, ho1⟩ : ∃ o, o = line1 k node := ⟨_, rfl⟩
  have z1 : w1.size ≤ 10 := by rw [hw1]; exact kW_size k
  have z2 : w2.size ≤ 10 := by rw [hw2]; exact eW_size err
  have z3 : d1.size ≤ 21 := by rw [hd1]; exact itoa_size node h0 h1
  have zo1 : o1.size ≤ 40 := by rw [ho1]; exact line1_size k node h0 h1
  have zo2 : o2.size ≤ 60 := by rw [ho2]; exact line2_size k node err h0 h1
  have zs : spc.size ≤ 1 := by decide
  obtain ⟨x1, hx1⟩ : ∃ x, F .cat spc d1 = x := ⟨_, rfl⟩
  have zx1 : x1.size ≤ 22 := by rw [← hx1, catA hF, ba_app]; omega
  obtain ⟨x2, hx2⟩ : ∃ x, F .cat spc w2 = x := ⟨_, rfl⟩
  have zx2 : x2.size ≤ 11 := by rw [← hx2, catA hF, ba_app]; omega
  have b1 := catO hF zs z3 (by decide)
  have b2 := catO hF zs z2 (by decide)
  have b3 := catO hF z1 zx1 (by decide)
  have b4 := catO hF zo1 zx2 (by decide)
  have e2 : F .cat o1 x2 = o2 := by rw [ho2, ← hx2, catA hF, catA hF, ho1, hw2]; rfl
  have tn : F .bnot q = !q := bnotF hF q
  have e1t : q = true → w1 = o1 := fun h => by rw [ho1, hw1]; unfold line1; rw [if_pos (of_decide_eq_true (hq.symm.trans h))]
  have e1f : q = false → F .cat w1 x1 = o1 := fun h => by rw [ho1, ← hx1, catA hF, catA hF, hw1, hd1]; unfold line1; rw [if_neg (of_decide_eq_false (hq.symm.trans h))]
  clear hw1 hw2 hd1 ho1 z1 z2 z3 zo1 zx1 zx2 hq ho2
  have te : F .cmp .neq err 0 = true := by rw [neF hF]; exact decide_eq_true he
  clear he
  cases q with
  | true =>
    have e1 := e1t rfl
    subst e1
    clear e1t e1f
    cbv
    refine ⟨_, hwd1, ?_⟩
    cbv
    refine ⟨_, hnet, ?_⟩
    cbv
    rw [tn]
    refine bF (rfl) ?_
    cbv
    refine ⟨_, hwd2, ?_⟩
    cbv
    refine ⟨b2, ?_⟩
    cbv
    rw [hx2]
    refine ⟨b4, ?_⟩
    cbv
    rw [e2]
    refine ⟨{ slots := [(5, aS o2), (3, .ept (ansC err by_ num) 0), (2, .ept (stepC k node n ta turn sb) 0)], obs := [], ctr := 0 }, (le_of [] (by simp [leSl, leOb, injK, memK, parK, noTup, lk, rn0, rnA, plain] <;> first | rfl | decide)), ?_⟩
    refine hD _ _ _ ?_
    cbv
    refine bT (te) ?_
    cbv
    simp
  | false =>
    have e1 := e1f rfl
    clear e1t e1f
    cbv
    refine ⟨_, hwd1, ?_⟩
    cbv
    refine ⟨_, hnet, ?_⟩
    cbv
    rw [tn]
    refine bT (rfl) ?_
    cbv
    refine ⟨_, hit1, ?_⟩
    cbv
    refine ⟨b1, ?_⟩
    cbv
    rw [hx1]
    refine ⟨b3, ?_⟩
    cbv
    rw [e1]
    refine ⟨_, hwd2, ?_⟩
    cbv
    refine ⟨b2, ?_⟩
    cbv
    rw [hx2]
    refine ⟨b4, ?_⟩
    cbv
    rw [e2]
    refine ⟨{ slots := [(5, aS o2), (3, .ept (ansC err by_ num) 0), (2, .ept (stepC k node n ta turn sb) 0)], obs := [], ctr := 0 }, (le_of [] (by simp [leSl, leOb, injK, memK, parK, noTup, lk, rn0, rnA, plain] <;> first | rfl | decide)), ?_⟩
    refine hD _ _ _ ?_
    cbv
    refine bT (te) ?_
    cbv
    simp
set_option maxHeartbeats 8000000 in
theorem line_none (k node n ta turn : Int) (sb : ByteArray) (err : Int) (by_ : ByteArray) (num : Int) (h0 : -9223372036854775808 ≤ node) (h1 : node ≤ 9223372036854775807) (he : err = 0) (hk1 : k ≠ 1) (hk3 : k ≠ 3) (hk4 : k ≠ 4) (hk10 : k ≠ 10)
    (o2 : ByteArray) (ho2 : o2 = line2 k node err) : CSem Tryz.prog (.fn 5) [.agg (stepC k node n ta turn sb), .agg (ansC err by_ num)] (.pure [aS o2]) := by
  refine of_textS gam_ok mixed { n := 69, cuts := [5] } Tryz.func5 (by kernel_rfl) rfl rfl (by simp) (by decide) fun F C D hF hC hD hS hDS => ?_
  obtain ⟨w1, hw1⟩ : ∃ w, w = wordB kW k := ⟨_, rfl⟩
  have hwd1 := hC _ _ _ (word8_ok kW (by decide) _ rfl k w1 hw1)
  obtain ⟨w2, hw2⟩ : ∃ w, w = wordB eW err := ⟨_, rfl⟩
  have hwd2 := hC _ _ _ (word8_ok eW (by decide) _ rfl err w2 hw2)
  obtain ⟨q, hq⟩ : ∃ q : Bool, q = decide (4 ≤ k ∧ k ≤ 6) := ⟨_, rfl⟩
  have hnet := hC _ _ _ (net_ok k q hq)
  obtain ⟨d1, hd1⟩ : ∃ d, d = itoaB node := ⟨_, rfl⟩
  have hit1 := hC _ _ _ (itoa_ok node h0 h1 d1 hd1)
  obtain ⟨o1, ho1⟩ : ∃ o, o = line1 k node := ⟨_, rfl⟩
  have z1 : w1.size ≤ 10 := by rw [hw1]; exact kW_size k
  have z2 : w2.size ≤ 10 := by rw [hw2]; exact eW_size err
  have z3 : d1.size ≤ 21 := by rw [hd1]; exact itoa_size node h0 h1
  have zo1 : o1.size ≤ 40 := by rw [ho1]; exact line1_size k node h0 h1
  have zo2 : o2.size ≤ 60 := by rw [ho2]; exact line2_size k node err h0 h1
  have zs : spc.size ≤ 1 := by decide
  obtain ⟨x1, hx1⟩ : ∃ x, F .cat spc d1 = x := ⟨_, rfl⟩
  have zx1 : x1.size ≤ 22 := by rw [← hx1, catA hF, ba_app]; omega
  obtain ⟨x2, hx2⟩ : ∃ x, F .cat spc w2 = x := ⟨_, rfl⟩
  have zx2 : x2.size ≤ 11 := by rw [← hx2, catA hF, ba_app]; omega
  have b1 := catO hF zs z3 (by decide)
  have b2 := catO hF zs z2 (by decide)
  have b3 := catO hF z1 zx1 (by decide)
  have b4 := catO hF zo1 zx2 (by decide)
  have e2 : F .cat o1 x2 = o2 := by rw [ho2, ← hx2, catA hF, catA hF, ho1, hw2]; rfl
  have tn : F .bnot q = !q := bnotF hF q
  have e1t : q = true → w1 = o1 := fun h => by rw [ho1, hw1]; unfold line1; rw [if_pos (of_decide_eq_true (hq.symm.trans h))]
  have e1f : q = false → F .cat w1 x1 = o1 := fun h => by rw [ho1, ← hx1, catA hF, catA hF, hw1, hd1]; unfold line1; rw [if_neg (of_decide_eq_false (hq.symm.trans h))]
  clear hw1 hw2 hd1 ho1 z1 z2 z3 zo1 zx1 zx2 hq ho2
  have te : F .cmp .neq err 0 = false := by rw [neF hF]; exact decide_eq_false (by omega)
  have t1 : F .cmp .eql k 1 = false := by rw [eqF hF]; exact decide_eq_false hk1
  have t3 : F .cmp .eql k 3 = false := by rw [eqF hF]; exact decide_eq_false hk3
  have t4 : F .cmp .eql k 4 = false := by rw [eqF hF]; exact decide_eq_false hk4
  have t10 : F .cmp .eql k 10 = false := by rw [eqF hF]; exact decide_eq_false hk10
  clear he hk1 hk3 hk4 hk10
  cases q with
  | true =>
    have e1 := e1t rfl
    subst e1
    clear e1t e1f
    cbv
    refine ⟨_, hwd1, ?_⟩
    cbv
    refine ⟨_, hnet, ?_⟩
    cbv
    rw [tn]
    refine bF (rfl) ?_
    cbv
    refine ⟨_, hwd2, ?_⟩
    cbv
    refine ⟨b2, ?_⟩
    cbv
    rw [hx2]
    refine ⟨b4, ?_⟩
    cbv
    rw [e2]
    refine ⟨{ slots := [(5, aS o2), (3, .ept (ansC err by_ num) 0), (2, .ept (stepC k node n ta turn sb) 0)], obs := [], ctr := 0 }, (le_of [] (by simp [leSl, leOb, injK, memK, parK, noTup, lk, rn0, rnA, plain] <;> first | rfl | decide)), ?_⟩
    refine hD _ _ _ ?_
    cbv
    refine bF (te) ?_
    cbv
    refine bF (t1) ?_
    cbv
    refine cF (t3) ?_
    cbv
    refine cF (t4) ?_
    cbv
    rw [t10]
    refine bF (rfl) ?_
    cbv
    simp
  | false =>
    have e1 := e1f rfl
    clear e1t e1f
    cbv
    refine ⟨_, hwd1, ?_⟩
    cbv
    refine ⟨_, hnet, ?_⟩
    cbv
    rw [tn]
    refine bT (rfl) ?_
    cbv
    refine ⟨_, hit1, ?_⟩
    cbv
    refine ⟨b1, ?_⟩
    cbv
    rw [hx1]
    refine ⟨b3, ?_⟩
    cbv
    rw [e1]
    refine ⟨_, hwd2, ?_⟩
    cbv
    refine ⟨b2, ?_⟩
    cbv
    rw [hx2]
    refine ⟨b4, ?_⟩
    cbv
    rw [e2]
    refine ⟨{ slots := [(5, aS o2), (3, .ept (ansC err by_ num) 0), (2, .ept (stepC k node n ta turn sb) 0)], obs := [], ctr := 0 }, (le_of [] (by simp [leSl, leOb, injK, memK, parK, noTup, lk, rn0, rnA, plain] <;> first | rfl | decide)), ?_⟩
    refine hD _ _ _ ?_
    cbv
    refine bF (te) ?_
    cbv
    refine bF (t1) ?_
    cbv
    refine cF (t3) ?_
    cbv
    refine cF (t4) ?_
    cbv
    rw [t10]
    refine bF (rfl) ?_
    cbv
    simp
set_option maxHeartbeats 8000000 in
theorem line_bare (k node n ta turn : Int) (sb : ByteArray) (err : Int) (by_ : ByteArray) (num : Int) (h0 : -9223372036854775808 ≤ node) (h1 : node ≤ 9223372036854775807) (he : err = 0) (hk1 : k = 1) (hby : by_ = ⟨⟨[]⟩⟩)
    (o2 : ByteArray) (ho2 : o2 = line2 k node err) : CSem Tryz.prog (.fn 5) [.agg (stepC k node n ta turn sb), .agg (ansC err by_ num)] (.pure [aS o2]) := by
  refine of_textS gam_ok mixed { n := 69, cuts := [5] } Tryz.func5 (by kernel_rfl) rfl rfl (by simp) (by decide) fun F C D hF hC hD hS hDS => ?_
  obtain ⟨w1, hw1⟩ : ∃ w, w = wordB kW k := ⟨_, rfl⟩
  have hwd1 := hC _ _ _ (word8_ok kW (by decide) _ rfl k w1 hw1)
  obtain ⟨w2, hw2⟩ : ∃ w, w = wordB eW err := ⟨_, rfl⟩
  have hwd2 := hC _ _ _ (word8_ok eW (by decide) _ rfl err w2 hw2)
  obtain ⟨q, hq⟩ : ∃ q : Bool, q = decide (4 ≤ k ∧ k ≤ 6) := ⟨_, rfl⟩
  have hnet := hC _ _ _ (net_ok k q hq)
  obtain ⟨d1, hd1⟩ : ∃ d, d = itoaB node := ⟨_, rfl⟩
  have hit1 := hC _ _ _ (itoa_ok node h0 h1 d1 hd1)
  obtain ⟨o1, ho1⟩ : ∃ o, o = line1 k node := ⟨_, rfl⟩
  have z1 : w1.size ≤ 10 := by rw [hw1]; exact kW_size k
  have z2 : w2.size ≤ 10 := by rw [hw2]; exact eW_size err
  have z3 : d1.size ≤ 21 := by rw [hd1]; exact itoa_size node h0 h1
  have zo1 : o1.size ≤ 40 := by rw [ho1]; exact line1_size k node h0 h1
  have zo2 : o2.size ≤ 60 := by rw [ho2]; exact line2_size k node err h0 h1
  have zs : spc.size ≤ 1 := by decide
  obtain ⟨x1, hx1⟩ : ∃ x, F .cat spc d1 = x := ⟨_, rfl⟩
  have zx1 : x1.size ≤ 22 := by rw [← hx1, catA hF, ba_app]; omega
  obtain ⟨x2, hx2⟩ : ∃ x, F .cat spc w2 = x := ⟨_, rfl⟩
  have zx2 : x2.size ≤ 11 := by rw [← hx2, catA hF, ba_app]; omega
  have b1 := catO hF zs z3 (by decide)
  have b2 := catO hF zs z2 (by decide)
  have b3 := catO hF z1 zx1 (by decide)
  have b4 := catO hF zo1 zx2 (by decide)
  have e2 : F .cat o1 x2 = o2 := by rw [ho2, ← hx2, catA hF, catA hF, ho1, hw2]; rfl
  have tn : F .bnot q = !q := bnotF hF q
  have e1t : q = true → w1 = o1 := fun h => by rw [ho1, hw1]; unfold line1; rw [if_pos (of_decide_eq_true (hq.symm.trans h))]
  have e1f : q = false → F .cat w1 x1 = o1 := fun h => by rw [ho1, ← hx1, catA hF, catA hF, hw1, hd1]; unfold line1; rw [if_neg (of_decide_eq_false (hq.symm.trans h))]
  clear hw1 hw2 hd1 ho1 z1 z2 z3 zo1 zx1 zx2 hq ho2
  have te : F .cmp .neq err 0 = false := by rw [neF hF]; exact decide_eq_false (by omega)
  have t1 : F .cmp .eql k 1 = true := by rw [eqF hF]; exact decide_eq_true hk1
  have ts : F .scmp .neq by_ ⟨⟨[]⟩⟩ = false := by rw [sneF hF]; exact decide_eq_false (fun h => h hby)
  have t3 : F .cmp .eql k 3 = false := by rw [eqF hF]; exact decide_eq_false (by omega)
  have t4 : F .cmp .eql k 4 = false := by rw [eqF hF]; exact decide_eq_false (by omega)
  have t10 : F .cmp .eql k 10 = false := by rw [eqF hF]; exact decide_eq_false (by omega)
  clear he hk1 hby
  cases q with
  | true =>
    have e1 := e1t rfl
    subst e1
    clear e1t e1f
    cbv
    refine ⟨_, hwd1, ?_⟩
    cbv
    refine ⟨_, hnet, ?_⟩
    cbv
    rw [tn]
    refine bF (rfl) ?_
    cbv
    refine ⟨_, hwd2, ?_⟩
    cbv
    refine ⟨b2, ?_⟩
    cbv
    rw [hx2]
    refine ⟨b4, ?_⟩
    cbv
    rw [e2]
    refine ⟨{ slots := [(5, aS o2), (3, .ept (ansC err by_ num) 0), (2, .ept (stepC k node n ta turn sb) 0)], obs := [], ctr := 0 }, (le_of [] (by simp [leSl, leOb, injK, memK, parK, noTup, lk, rn0, rnA, plain] <;> first | rfl | decide)), ?_⟩
    refine hD _ _ _ ?_
    cbv
    refine bF (te) ?_
    cbv
    refine bT (t1) ?_
    cbv
    rw [ts]
    refine bF (rfl) ?_
    cbv
    refine cF (t3) ?_
    cbv
    refine cF (t4) ?_
    cbv
    rw [t10]
    refine bF (rfl) ?_
    cbv
    simp
  | false =>
    have e1 := e1f rfl
    clear e1t e1f
    cbv
    refine ⟨_, hwd1, ?_⟩
    cbv
    refine ⟨_, hnet, ?_⟩
    cbv
    rw [tn]
    refine bT (rfl) ?_
    cbv
    refine ⟨_, hit1, ?_⟩
    cbv
    refine ⟨b1, ?_⟩
    cbv
    rw [hx1]
    refine ⟨b3, ?_⟩
    cbv
    rw [e1]
    refine ⟨_, hwd2, ?_⟩
    cbv
    refine ⟨b2, ?_⟩
    cbv
    rw [hx2]
    refine ⟨b4, ?_⟩
    cbv
    rw [e2]
    refine ⟨{ slots := [(5, aS o2), (3, .ept (ansC err by_ num) 0), (2, .ept (stepC k node n ta turn sb) 0)], obs := [], ctr := 0 }, (le_of [] (by simp [leSl, leOb, injK, memK, parK, noTup, lk, rn0, rnA, plain] <;> first | rfl | decide)), ?_⟩
    refine hD _ _ _ ?_
    cbv
    refine bF (te) ?_
    cbv
    refine bT (t1) ?_
    cbv
    rw [ts]
    refine bF (rfl) ?_
    cbv
    refine cF (t3) ?_
    cbv
    refine cF (t4) ?_
    cbv
    rw [t10]
    refine bF (rfl) ?_
    cbv
    simp
set_option maxHeartbeats 8000000 in
theorem line_3 (k node n ta turn : Int) (sb : ByteArray) (err : Int) (by_ : ByteArray) (num : Int) (h0 : -9223372036854775808 ≤ node) (h1 : node ≤ 9223372036854775807) (g0 : -9223372036854775808 ≤ num) (g1 : num ≤ 9223372036854775807) (he : err = 0) (hk : k = 3)
    (o2 : ByteArray) (ho2 : o2 = line2 k node err) (r : ByteArray) (hr : r = o2 ++ (spc ++ itoaB num)) : CSem Tryz.prog (.fn 5) [.agg (stepC k node n ta turn sb), .agg (ansC err by_ num)] (.pure [aS r]) := by
  refine of_textS gam_ok mixed { n := 69, cuts := [5] } Tryz.func5 (by kernel_rfl) rfl rfl (by simp) (by decide) fun F C D hF hC hD hS hDS => ?_
  obtain ⟨w1, hw1⟩ : ∃ w, w = wordB kW k := ⟨_, rfl⟩
  have hwd1 := hC _ _ _ (word8_ok kW (by decide) _ rfl k w1 hw1)
  obtain ⟨w2, hw2⟩ : ∃ w, w = wordB eW err := ⟨_, rfl⟩
  have hwd2 := hC _ _ _ (word8_ok eW (by decide) _ rfl err w2 hw2)
  obtain ⟨q, hq⟩ : ∃ q : Bool, q = decide (4 ≤ k ∧ k ≤ 6) := ⟨_, rfl⟩
  have hnet := hC _ _ _ (net_ok k q hq)
  obtain ⟨d1, hd1⟩ : ∃ d, d = itoaB node := ⟨_, rfl⟩
  have hit1 := hC _ _ _ (itoa_ok node h0 h1 d1 hd1)
  obtain ⟨o1, ho1⟩ : ∃ o, o = line1 k node := ⟨_, rfl⟩
  have z1 : w1.size ≤ 10 := by rw [hw1]; exact kW_size k
  have z2 : w2.size ≤ 10 := by rw [hw2]; exact eW_size err
  have z3 : d1.size ≤ 21 := by rw [hd1]; exact itoa_size node h0 h1
  have zo1 : o1.size ≤ 40 := by rw [ho1]; exact line1_size k node h0 h1
  have zo2 : o2.size ≤ 60 := by rw [ho2]; exact line2_size k node err h0 h1
  have zs : spc.size ≤ 1 := by decide
  obtain ⟨x1, hx1⟩ : ∃ x, F .cat spc d1 = x := ⟨_, rfl⟩
  have zx1 : x1.size ≤ 22 := by rw [← hx1, catA hF, ba_app]; omega
  obtain ⟨x2, hx2⟩ : ∃ x, F .cat spc w2 = x := ⟨_, rfl⟩
  have zx2 : x2.size ≤ 11 := by rw [← hx2, catA hF, ba_app]; omega
  have b1 := catO hF zs z3 (by decide)
  have b2 := catO hF zs z2 (by decide)
  have b3 := catO hF z1 zx1 (by decide)
  have b4 := catO hF zo1 zx2 (by decide)
  have e2 : F .cat o1 x2 = o2 := by rw [ho2, ← hx2, catA hF, catA hF, ho1, hw2]; rfl
  have tn : F .bnot q = !q := bnotF hF q
  have e1t : q = true → w1 = o1 := fun h => by rw [ho1, hw1]; unfold line1; rw [if_pos (of_decide_eq_true (hq.symm.trans h))]
  have e1f : q = false → F .cat w1 x1 = o1 := fun h => by rw [ho1, ← hx1, catA hF, catA hF, hw1, hd1]; unfold line1; rw [if_neg (of_decide_eq_false (hq.symm.trans h))]
  clear hw1 hw2 hd1 ho1 z1 z2 z3 zo1 zx1 zx2 hq ho2
  have te : F .cmp .neq err 0 = false := by rw [neF hF]; exact decide_eq_false (by omega)
  have t1 : F .cmp .eql k 1 = false := by rw [eqF hF]; exact decide_eq_false (by omega)
  obtain ⟨d2, hd2⟩ : ∃ d, d = itoaB num := ⟨_, rfl⟩
  have hit2 := hC _ _ _ (itoa_ok num g0 g1 d2 hd2)
  have z4 : d2.size ≤ 21 := by rw [hd2]; exact itoa_size num g0 g1
  obtain ⟨y1, hy1⟩ : ∃ x, F .cat spc d2 = x := ⟨_, rfl⟩
  have zy1 : y1.size ≤ 22 := by rw [← hy1, catA hF, ba_app]; omega
  have b5 := catO hF zs z4 (by decide)
  have b6 := catO hF zo2 zy1 (by decide)
  have e3 : F .cat o2 y1 = r := by rw [hr, ← hy1, catA hF, catA hF, hd2]
  clear hd2 z4 zy1 hr
  have t3 : F .cmp .eql k 3 = true := by rw [eqF hF]; exact decide_eq_true (by omega)
  clear he hk zo2 zs
  cases q with
  | true =>
    have e1 := e1t rfl
    subst e1
    clear e1t e1f
    cbv
    refine ⟨_, hwd1, ?_⟩
    cbv
    refine ⟨_, hnet, ?_⟩
    cbv
    rw [tn]
    refine bF (rfl) ?_
    cbv
    refine ⟨_, hwd2, ?_⟩
    cbv
    refine ⟨b2, ?_⟩
    cbv
    rw [hx2]
    refine ⟨b4, ?_⟩
    cbv
    rw [e2]
    refine ⟨{ slots := [(5, aS o2), (3, .ept (ansC err by_ num) 0), (2, .ept (stepC k node n ta turn sb) 0)], obs := [], ctr := 0 }, (le_of [] (by simp [leSl, leOb, injK, memK, parK, noTup, lk, rn0, rnA, plain] <;> first | rfl | decide)), ?_⟩
    refine hD _ _ _ ?_
    cbv
    refine bF (te) ?_
    cbv
    refine bF (t1) ?_
    cbv
    refine cT (t3) ?_
    cbv
    refine ⟨_, hit2, ?_⟩
    cbv
    refine ⟨b5, ?_⟩
    cbv
    rw [hy1]
    refine ⟨b6, ?_⟩
    cbv
    rw [e3]
    simp
  | false =>
    have e1 := e1f rfl
    clear e1t e1f
    cbv
    refine ⟨_, hwd1, ?_⟩
    cbv
    refine ⟨_, hnet, ?_⟩
    cbv
    rw [tn]
    refine bT (rfl) ?_
    cbv
    refine ⟨_, hit1, ?_⟩
    cbv
    refine ⟨b1, ?_⟩
    cbv
    rw [hx1]
    refine ⟨b3, ?_⟩
    cbv
    rw [e1]
    refine ⟨_, hwd2, ?_⟩
    cbv
    refine ⟨b2, ?_⟩
    cbv
    rw [hx2]
    refine ⟨b4, ?_⟩
    cbv
    rw [e2]
    refine ⟨{ slots := [(5, aS o2), (3, .ept (ansC err by_ num) 0), (2, .ept (stepC k node n ta turn sb) 0)], obs := [], ctr := 0 }, (le_of [] (by simp [leSl, leOb, injK, memK, parK, noTup, lk, rn0, rnA, plain] <;> first | rfl | decide)), ?_⟩
    refine hD _ _ _ ?_
    cbv
    refine bF (te) ?_
    cbv
    refine bF (t1) ?_
    cbv
    refine cT (t3) ?_
    cbv
    refine ⟨_, hit2, ?_⟩
    cbv
    refine ⟨b5, ?_⟩
    cbv
    rw [hy1]
    refine ⟨b6, ?_⟩
    cbv
    rw [e3]
    simp
set_option maxHeartbeats 8000000 in
theorem line_4 (k node n ta turn : Int) (sb : ByteArray) (err : Int) (by_ : ByteArray) (num : Int) (h0 : -9223372036854775808 ≤ node) (h1 : node ≤ 9223372036854775807) (g0 : -9223372036854775808 ≤ num) (g1 : num ≤ 9223372036854775807) (he : err = 0) (hk : k = 4)
    (o2 : ByteArray) (ho2 : o2 = line2 k node err) (r : ByteArray) (hr : r = o2 ++ (spc ++ itoaB num)) : CSem Tryz.prog (.fn 5) [.agg (stepC k node n ta turn sb), .agg (ansC err by_ num)] (.pure [aS r]) := by
  refine of_textS gam_ok mixed { n := 69, cuts := [5] } Tryz.func5 (by kernel_rfl) rfl rfl (by simp) (by decide) fun F C D hF hC hD hS hDS => ?_
  obtain ⟨w1, hw1⟩ : ∃ w, w = wordB kW k := ⟨_, rfl⟩
  have hwd1 := hC _ _ _ (word8_ok kW (by decide) _ rfl k w1 hw1)
  obtain ⟨w2, hw2⟩ : ∃ w, w = wordB eW err := ⟨_, rfl⟩
  have hwd2 := hC _ _ _ (word8_ok eW (by decide) _ rfl err w2 hw2)
  obtain ⟨q, hq⟩ : ∃ q : Bool, q = decide (4 ≤ k ∧ k ≤ 6) := ⟨_, rfl⟩
  have hnet := hC _ _ _ (net_ok k q hq)
  obtain ⟨d1, hd1⟩ : ∃ d, d = itoaB node := ⟨_, rfl⟩
  have hit1 := hC _ _ _ (itoa_ok node h0 h1 d1 hd1)
  obtain ⟨o1, ho1⟩ : ∃ o, o = line1 k node := ⟨_, rfl⟩
  have z1 : w1.size ≤ 10 := by rw [hw1]; exact kW_size k
  have z2 : w2.size ≤ 10 := by rw [hw2]; exact eW_size err
  have z3 : d1.size ≤ 21 := by rw [hd1]; exact itoa_size node h0 h1
  have zo1 : o1.size ≤ 40 := by rw [ho1]; exact line1_size k node h0 h1
  have zo2 : o2.size ≤ 60 := by rw [ho2]; exact line2_size k node err h0 h1
  have zs : spc.size ≤ 1 := by decide
  obtain ⟨x1, hx1⟩ : ∃ x, F .cat spc d1 = x := ⟨_, rfl⟩
  have zx1 : x1.size ≤ 22 := by rw [← hx1, catA hF, ba_app]; omega
  obtain ⟨x2, hx2⟩ : ∃ x, F .cat spc w2 = x := ⟨_, rfl⟩
  have zx2 : x2.size ≤ 11 := by rw [← hx2, catA hF, ba_app]; omega
  have b1 := catO hF zs z3 (by decide)
  have b2 := catO hF zs z2 (by decide)
  have b3 := catO hF z1 zx1 (by decide)
  have b4 := catO hF zo1 zx2 (by decide)
  have e2 : F .cat o1 x2 = o2 := by rw [ho2, ← hx2, catA hF, catA hF, ho1, hw2]; rfl
  have tn : F .bnot q = !q := bnotF hF q
  have e1t : q = true → w1 = o1 := fun h => by rw [ho1, hw1]; unfold line1; rw [if_pos (of_decide_eq_true (hq.symm.trans h))]
  have e1f : q = false → F .cat w1 x1 = o1 := fun h => by rw [ho1, ← hx1, catA hF, catA hF, hw1, hd1]; unfold line1; rw [if_neg (of_decide_eq_false (hq.symm.trans h))]
  clear hw1 hw2 hd1 ho1 z1 z2 z3 zo1 zx1 zx2 hq ho2
  have te : F .cmp .neq err 0 = false := by rw [neF hF]; exact decide_eq_false (by omega)
  have t1 : F .cmp .eql k 1 = false := by rw [eqF hF]; exact decide_eq_false (by omega)
  obtain ⟨d2, hd2⟩ : ∃ d, d = itoaB num := ⟨_, rfl⟩
  have hit2 := hC _ _ _ (itoa_ok num g0 g1 d2 hd2)
  have z4 : d2.size ≤ 21 := by rw [hd2]; exact itoa_size num g0 g1
  obtain ⟨y1, hy1⟩ : ∃ x, F .cat spc d2 = x := ⟨_, rfl⟩
  have zy1 : y1.size ≤ 22 := by rw [← hy1, catA hF, ba_app]; omega
  have b5 := catO hF zs z4 (by decide)
  have b6 := catO hF zo2 zy1 (by decide)
  have e3 : F .cat o2 y1 = r := by rw [hr, ← hy1, catA hF, catA hF, hd2]
  clear hd2 z4 zy1 hr
  have t3 : F .cmp .eql k 3 = false := by rw [eqF hF]; exact decide_eq_false (by omega)
  have t4 : F .cmp .eql k 4 = true := by rw [eqF hF]; exact decide_eq_true (by omega)
  clear he hk zo2 zs
  cases q with
  | true =>
    have e1 := e1t rfl
    subst e1
    clear e1t e1f
    cbv
    refine ⟨_, hwd1, ?_⟩
    cbv
    refine ⟨_, hnet, ?_⟩
    cbv
    rw [tn]
    refine bF (rfl) ?_
    cbv
    refine ⟨_, hwd2, ?_⟩
    cbv
    refine ⟨b2, ?_⟩
    cbv
    rw [hx2]
    refine ⟨b4, ?_⟩
    cbv
    rw [e2]
    refine ⟨{ slots := [(5, aS o2), (3, .ept (ansC err by_ num) 0), (2, .ept (stepC k node n ta turn sb) 0)], obs := [], ctr := 0 }, (le_of [] (by simp [leSl, leOb, injK, memK, parK, noTup, lk, rn0, rnA, plain] <;> first | rfl | decide)), ?_⟩
    refine hD _ _ _ ?_
    cbv
    refine bF (te) ?_
    cbv
    refine bF (t1) ?_
    cbv
    refine cF (t3) ?_
    cbv
    refine cT (t4) ?_
    cbv
    refine ⟨_, hit2, ?_⟩
    cbv
    refine ⟨b5, ?_⟩
    cbv
    rw [hy1]
    refine ⟨b6, ?_⟩
    cbv
    rw [e3]
    simp
  | false =>
    have e1 := e1f rfl
    clear e1t e1f
    cbv
    refine ⟨_, hwd1, ?_⟩
    cbv
    refine ⟨_, hnet, ?_⟩
    cbv
    rw [tn]
    refine bT (rfl) ?_
    cbv
    refine ⟨_, hit1, ?_⟩
    cbv
    refine ⟨b1, ?_⟩
    cbv
    rw [hx1]
    refine ⟨b3, ?_⟩
    cbv
    rw [e1]
    refine ⟨_, hwd2, ?_⟩
    cbv
    refine ⟨b2, ?_⟩
    cbv
    rw [hx2]
    refine ⟨b4, ?_⟩
    cbv
    rw [e2]
    refine ⟨{ slots := [(5, aS o2), (3, .ept (ansC err by_ num) 0), (2, .ept (stepC k node n ta turn sb) 0)], obs := [], ctr := 0 }, (le_of [] (by simp [leSl, leOb, injK, memK, parK, noTup, lk, rn0, rnA, plain] <;> first | rfl | decide)), ?_⟩
    refine hD _ _ _ ?_
    cbv
    refine bF (te) ?_
    cbv
    refine bF (t1) ?_
    cbv
    refine cF (t3) ?_
    cbv
    refine cT (t4) ?_
    cbv
    refine ⟨_, hit2, ?_⟩
    cbv
    refine ⟨b5, ?_⟩
    cbv
    rw [hy1]
    refine ⟨b6, ?_⟩
    cbv
    rw [e3]
    simp
set_option maxHeartbeats 8000000 in
theorem line_10 (k node n ta turn : Int) (sb : ByteArray) (err : Int) (by_ : ByteArray) (num : Int) (h0 : -9223372036854775808 ≤ node) (h1 : node ≤ 9223372036854775807) (g0 : -9223372036854775808 ≤ num) (g1 : num ≤ 9223372036854775807) (he : err = 0) (hk : k = 10)
    (o2 : ByteArray) (ho2 : o2 = line2 k node err) (r : ByteArray) (hr : r = o2 ++ (spc ++ itoaB num)) : CSem Tryz.prog (.fn 5) [.agg (stepC k node n ta turn sb), .agg (ansC err by_ num)] (.pure [aS r]) := by
  refine of_textS gam_ok mixed { n := 69, cuts := [5] } Tryz.func5 (by kernel_rfl) rfl rfl (by simp) (by decide) fun F C D hF hC hD hS hDS => ?_
  obtain ⟨w1, hw1⟩ : ∃ w, w = wordB kW k := ⟨_, rfl⟩
  have hwd1 := hC _ _ _ (word8_ok kW (by decide) _ rfl k w1 hw1)
  obtain ⟨w2, hw2⟩ : ∃ w, w = wordB eW err := ⟨_, rfl⟩
  have hwd2 := hC _ _ _ (word8_ok eW (by decide) _ rfl err w2 hw2)
  obtain ⟨q, hq⟩ : ∃ q : Bool, q = decide (4 ≤ k ∧ k ≤ 6) := ⟨_, rfl⟩
  have hnet := hC _ _ _ (net_ok k q hq)
  obtain ⟨d1, hd1⟩ : ∃ d, d = itoaB node := ⟨_, rfl⟩
  have hit1 := hC _ _ _ (itoa_ok node h0 h1 d1 hd1)
  obtain ⟨o1, ho1⟩ : ∃ o, o = line1 k node := ⟨_, rfl⟩
  have z1 : w1.size ≤ 10 := by rw [hw1]; exact kW_size k
  have z2 : w2.size ≤ 10 := by rw [hw2]; exact eW_size err
  have z3 : d1.size ≤ 21 := by rw [hd1]; exact itoa_size node h0 h1
  have zo1 : o1.size ≤ 40 := by rw [ho1]; exact line1_size k node h0 h1
  have zo2 : o2.size ≤ 60 := by rw [ho2]; exact line2_size k node err h0 h1
  have zs : spc.size ≤ 1 := by decide
  obtain ⟨x1, hx1⟩ : ∃ x, F .cat spc d1 = x := ⟨_, rfl⟩
  have zx1 : x1.size ≤ 22 := by rw [← hx1, catA hF, ba_app]; omega
  obtain ⟨x2, hx2⟩ : ∃ x, F .cat spc w2 = x := ⟨_, rfl⟩
  have zx2 : x2.size ≤ 11 := by rw [← hx2, catA hF, ba_app]; omega
  have b1 := catO hF zs z3 (by decide)
  have b2 := catO hF zs z2 (by decide)
  have b3 := catO hF z1 zx1 (by decide)
  have b4 := catO hF zo1 zx2 (by decide)
  have e2 : F .cat o1 x2 = o2 := by rw [ho2, ← hx2, catA hF, catA hF, ho1, hw2]; rfl
  have tn : F .bnot q = !q := bnotF hF q
  have e1t : q = true → w1 = o1 := fun h => by rw [ho1, hw1]; unfold line1; rw [if_pos (of_decide_eq_true (hq.symm.trans h))]
  have e1f : q = false → F .cat w1 x1 = o1 := fun h => by rw [ho1, ← hx1, catA hF, catA hF, hw1, hd1]; unfold line1; rw [if_neg (of_decide_eq_false (hq.symm.trans h))]
  clear hw1 hw2 hd1 ho1 z1 z2 z3 zo1 zx1 zx2 hq ho2
  have te : F .cmp .neq err 0 = false := by rw [neF hF]; exact decide_eq_false (by omega)
  have t1 : F .cmp .eql k 1 = false := by rw [eqF hF]; exact decide_eq_false (by omega)
  obtain ⟨d2, hd2⟩ : ∃ d, d = itoaB num := ⟨_, rfl⟩
  have hit2 := hC _ _ _ (itoa_ok num g0 g1 d2 hd2)
  have z4 : d2.size ≤ 21 := by rw [hd2]; exact itoa_size num g0 g1
  obtain ⟨y1, hy1⟩ : ∃ x, F .cat spc d2 = x := ⟨_, rfl⟩
  have zy1 : y1.size ≤ 22 := by rw [← hy1, catA hF, ba_app]; omega
  have b5 := catO hF zs z4 (by decide)
  have b6 := catO hF zo2 zy1 (by decide)
  have e3 : F .cat o2 y1 = r := by rw [hr, ← hy1, catA hF, catA hF, hd2]
  clear hd2 z4 zy1 hr
  have t3 : F .cmp .eql k 3 = false := by rw [eqF hF]; exact decide_eq_false (by omega)
  have t4 : F .cmp .eql k 4 = false := by rw [eqF hF]; exact decide_eq_false (by omega)
  have t10 : F .cmp .eql k 10 = true := by rw [eqF hF]; exact decide_eq_true (by omega)
  clear he hk zo2 zs
  cases q with
  | true =>
    have e1 := e1t rfl
    subst e1
    clear e1t e1f
    cbv
    refine ⟨_, hwd1, ?_⟩
    cbv
    refine ⟨_, hnet, ?_⟩
    cbv
    rw [tn]
    refine bF (rfl) ?_
    cbv
    refine ⟨_, hwd2, ?_⟩
    cbv
    refine ⟨b2, ?_⟩
    cbv
    rw [hx2]
    refine ⟨b4, ?_⟩
    cbv
    rw [e2]
    refine ⟨{ slots := [(5, aS o2), (3, .ept (ansC err by_ num) 0), (2, .ept (stepC k node n ta turn sb) 0)], obs := [], ctr := 0 }, (le_of [] (by simp [leSl, leOb, injK, memK, parK, noTup, lk, rn0, rnA, plain] <;> first | rfl | decide)), ?_⟩
    refine hD _ _ _ ?_
    cbv
    refine bF (te) ?_
    cbv
    refine bF (t1) ?_
    cbv
    refine cF (t3) ?_
    cbv
    refine cF (t4) ?_
    cbv
    rw [t10]
    refine bT (rfl) ?_
    cbv
    refine ⟨_, hit2, ?_⟩
    cbv
    refine ⟨b5, ?_⟩
    cbv
    rw [hy1]
    refine ⟨b6, ?_⟩
    cbv
    rw [e3]
    simp
  | false =>
    have e1 := e1f rfl
    clear e1t e1f
    cbv
    refine ⟨_, hwd1, ?_⟩
    cbv
    refine ⟨_, hnet, ?_⟩
    cbv
    rw [tn]
    refine bT (rfl) ?_
    cbv
    refine ⟨_, hit1, ?_⟩
    cbv
    refine ⟨b1, ?_⟩
    cbv
    rw [hx1]
    refine ⟨b3, ?_⟩
    cbv
    rw [e1]
    refine ⟨_, hwd2, ?_⟩
    cbv
    refine ⟨b2, ?_⟩
    cbv
    rw [hx2]
    refine ⟨b4, ?_⟩
    cbv
    rw [e2]
    refine ⟨{ slots := [(5, aS o2), (3, .ept (ansC err by_ num) 0), (2, .ept (stepC k node n ta turn sb) 0)], obs := [], ctr := 0 }, (le_of [] (by simp [leSl, leOb, injK, memK, parK, noTup, lk, rn0, rnA, plain] <;> first | rfl | decide)), ?_⟩
    refine hD _ _ _ ?_
    cbv
    refine bF (te) ?_
    cbv
    refine bF (t1) ?_
    cbv
    refine cF (t3) ?_
    cbv
    refine cF (t4) ?_
    cbv
    rw [t10]
    refine bT (rfl) ?_
    cbv
    refine ⟨_, hit2, ?_⟩
    cbv
    refine ⟨b5, ?_⟩
    cbv
    rw [hy1]
    refine ⟨b6, ?_⟩
    cbv
    rw [e3]
    simp
end Go.Proofs.YthepmpfkkhckpaaGreatDoor
