import Derived.Test.YtljpmnifkccbdaaS6b
import Derived.Test.YtljpmnifkccbdaaL2
set_option linter.unusedSimpArgs false
set_option linter.unusedVariables false
namespace Go.Proofs.Ytljpmnifkccbdaa
open Go Go.RowKit Am

noncomputable def body69 : Code := (Try.f69.body).getD .skip
abbrev E69 : En := { n := 63, wrs := [78, 79], cuts := [6, 13] }
theorem ev_stp {l l0 : List (List AV)} (h : StP ltR l l0) (hr : ∀ r ∈ l0, isEv r) : ∀ r ∈ l, isEv r := fun r hm => hr r (h.mem swo_ltR hm)
abbrev sh69 (sl : List (Nat × AV)) (n' : Int) (q : List (List AV)) : St := { slots := sl ++ [(0, .own 0 0), (1, aI n'), (2, .clo 46 [])], obs := [(0, .row 34 26 q 0 0)], ctr := 3, par := 3 }
theorem addF {F : Sy} (hF : F = sy) (i j : Nat) (i' j' : Int) (hi : i' = (i : Int)) (hj : j' = (j : Int)) (h : i + j ≤ 4000000000) : F .ar .add .i64 i' j' = ((i + j : Nat) : Int) := by rw [hF, hi, hj]; exact (wrap_in (by omega) (by omega)).trans (by omega)
theorem mulF {F : Sy} (hF : F = sy) (i j : Nat) (i' j' : Int) (hi : i' = (i : Int)) (hj : j' = (j : Int)) (h : i * j ≤ 4000000000) : F .ar .mul .i64 i' j' = ((i * j : Nat) : Int) := by
  rw [hF, hi, hj]
  have e : (i : Int) * (j : Int) = ((i * j : Nat) : Int) := by simp
  exact (by rw [show sy .ar .mul .i64 (i : Int) (j : Int) = IntKind.i64.wrap ((i : Int) * (j : Int)) from rfl, e]; exact wrap_in (by omega) (by omega))
theorem leF {F : Sy} (hF : F = sy) (i j : Nat) (i' j' : Int) (hi : i' = (i : Int)) (hj : j' = (j : Int)) : F .cmp .leq i' j' = true ↔ i ≤ j := by rw [hF, hi, hj]; simp [sy]
theorem ltF {F : Sy} (hF : F = sy) (i j : Nat) (i' j' : Int) (hi : i' = (i : Int)) (hj : j' = (j : Int)) : F .cmp .lss i' j' = true ↔ i < j := by rw [hF, hi, hj]; simp [sy]
/-- Behind the round over the pairs: the pair that is left over. -/
theorem t69_13 {F : Sy} {C : Key → List AV → Res → Prop} {D : Code → (AE → St → Prop) → St → Prop} (hF : F = sy) (hC : ∀ k l r, CSem Try.prog k l r → C k l r)
    (rows q : List (List AV)) (hr : ∀ r ∈ rows, isEv r) (hlen : rows.length ≤ 100000000) (n' : Int) (en : n' = (rows.length : Int)) (bs j a : Nat) (bs' a' : Int) (ebs : bs' = (bs : Int)) (ea : a' = (a : Int)) (haj : a = j * (2 * bs)) (hbs : 0 < bs) (hbn : bs < rows.length)
    (hq : Mrg1 ltR rows bs j q) (hn : rows.length < a + 2 * bs) (han : a ≤ rows.length) (Q : AE → St → Prop)
    (hQ : ∀ (q2 : List (List AV)) (b2 : Int) (s : St), b2 = ((bs * 2 : Nat) : Int) → Mrg1 ltR rows (bs * 2) 0 q2 → Le s (sh69 [(6, aI b2)] n' q2) → Q .normal s) :
    awp F C D E69 (nav [1, 1, 1, 1, 0, 0, 1, 0, 1, 1] body69) Q (sh69 [(7, aI a'), (6, aI bs')] n' q) := by
  have e1 := addF hF a bs a' bs' ea ebs (by omega)
  have e2 := mulF hF bs 2 bs' 2 ebs rfl (by omega)
  obtain ⟨c', hc'⟩ : ∃ c', F .ar .add .i64 a' bs' = c' := ⟨_, rfl⟩
  obtain ⟨b2, hb2⟩ : ∃ b2, F .ar .mul .i64 bs' 2 = b2 := ⟨_, rfl⟩
  have ec : c' = ((a + bs : Nat) : Int) := hc'.symm.trans e1
  have eb2 : b2 = ((bs * 2 : Nat) : Int) := hb2.symm.trans e2
  have tl := ltF hF (a + bs) rows.length c' n' ec en
  have hql := hq.len
  have hqe := ev_stp hq.stp hr
  have key : a + bs < rows.length → ∃ A L R, q = A ++ (L ++ (R ++ [])) ∧ A.length = a ∧ a + L.length = a + bs ∧ a + bs + R.length = rows.length ∧ Srt ltR L ∧ Srt ltR R ∧ Mrg1 ltR rows (bs * 2) 0 (A ++ (isort ltR (L ++ R) ++ [])) := fun h => by
    obtain ⟨A, M, B, h1, h2, h3, h4⟩ := split_at q a rows.length han (by omega)
    have hB : B = [] := List.eq_nil_of_length_eq_zero (by omega)
    subst hB
    obtain ⟨X, L, R, k1, k2, k3, k4⟩ := split_at M 0 bs (by omega) (by omega)
    have hX : X = [] := List.eq_nil_of_length_eq_zero k2
    subst hX
    simp only [List.nil_append] at k1
    have hl : q = A ++ (L ++ (R ++ [])) := by rw [h1, k1]; simp
    obtain ⟨s1, s2, s3⟩ := hq.step swo_ltR hl (by rw [h2, haj]) (by omega) (.inr ⟨by omega, rfl⟩)
    have hfl : (A ++ (isort ltR (L ++ R) ++ [])).length ≤ (j + 1) * (2 * bs) := by
      have := (isort_ok swo_ltR (L ++ R)).2.2
      rw [Nat.succ_mul]
      simp [this]; omega
    exact ⟨A, L, R, hl, h2, by omega, by omega, s1, s2, by rw [Nat.mul_comm]; exact s3.over hfl⟩
  cbv
  rw [hc']
  refine ⟨fun h => ?_, fun h => ?_⟩ <;> cbv
  · have hlt := tl.1 h
    obtain ⟨A, L, R, h1, h2, h3, h4, h5, h6, h7⟩ := key hlt
    obtain ⟨q3, hq3⟩ : ∃ q3, q3 = A ++ (isort ltR (L ++ R) ++ []) := ⟨_, rfl⟩
    rw [← hq3] at h7
    have en : n' = (rows.length : Int) := en
    have ea : a' = (a : Int) := ea
    have ec : c' = ((a + bs : Nat) : Int) := ec
    refine ⟨_, _, hC _ _ _ (symMerge_ok (rows.length - a) q a (a + bs) rows.length a' c' n' ea ec en A L R [] h1 h2 h3 h4 (by omega) (by omega) h5 h6 (by omega) (by omega) hqe q3 hq3), ?_⟩
    cbv
    rw [hb2]
    exact hQ _ b2 _ eb2 h7 (Le.trans le_fresh (le_of [] (by simp [St.fresh, freshObs, Ob.fresh, mapS, killR, relT, leSl, leOb, injK, memK, parK, noTup, lk, rn0, rnA, plain])))
  · have hlt := nfB tl h
    rw [hb2]
    exact hQ _ b2 _ eb2 (by rw [Nat.mul_comm]; exact hq.stop (by omega)) (le_of [] (by simp [leSl, leOb, injK, memK, parK, noTup, lk, rn0, rnA, plain]))
/-- The rounds of merging. -/
theorem t69_6 {F : Sy} {C : Key → List AV → Res → Prop} {D : Code → (AE → St → Prop) → St → Prop} (hF : F = sy) (hC : ∀ k l r, CSem Try.prog k l r → C k l r) (hD : ∀ c Q s, awp F C D E69 c Q s → D c Q s)
    (rows q : List (List AV)) (hr : ∀ r ∈ rows, isEv r) (hlen : rows.length ≤ 100000000) (n' : Int) (en : n' = (rows.length : Int)) (j a : Nat) (a' : Int) (ea : a' = (a : Int)) (haj : a = j * 20) (han : a ≤ rows.length) (hn : rows.length < a + 20)
    (hq : Ins1 ltR rows 20 j q) (rows' : List (List AV)) (hrows' : rows' = isort ltR rows) :
    awp F C D E69 (nav [1, 1, 1] body69) (fun e st => match e with | .normal => retOKW Try.f69.results.toList [(0, .row 34 26 rows' 0 0)] (.pure []) st | .ret => retOKW Try.f69.results.toList [(0, .row 34 26 rows' 0 0)] (.pure []) st | .exit _ => False) (sh69 [(7, aI a'), (6, aI 20)] n' q) := by
  have hql := hq.len
  have hqe := ev_stp hq.stp hr
  obtain ⟨A, M, B, h1, h2, h3, h4⟩ := split_at q a rows.length han (by omega)
  have hB : B = [] := List.eq_nil_of_length_eq_zero (by omega)
  obtain ⟨q2, hq2⟩ : ∃ q2, q2 = A ++ (isort ltR M ++ B) := ⟨_, rfl⟩
  have hi2 := hq.step swo_ltR h1 (by rw [h2, haj]) (.inr ⟨by omega, hB⟩)
  rw [← hq2] at hi2
  have hm2 := Mrg1.of hi2 (by rw [hi2.len, Nat.succ_mul]; omega)
  cbv
  refine ⟨_, _, hC _ _ _ (insertionSort_ok q a rows.length a' n' ea en A M B h1 h2 h3 (by omega) hqe q2 hq2), ?_⟩
  cbv
  refine ⟨Nat × Int × List (List AV), fun y => sh69 [(6, aI y.2.1)] n' y.2.2, fun y => y.2.1 = (y.1 : Int) ∧ 0 < y.1 ∧ y.1 ≤ 2 * rows.length + 20 ∧ Mrg1 ltR rows y.1 0 y.2.2, fun y => 2 * rows.length + 20 - y.1, ⟨(20, 20, q2), ⟨rfl, (show 0 < 20 by omega), (show 20 ≤ 2 * rows.length + 20 by omega), hm2⟩, Le.trans le_fresh (le_of [] (by simp [St.fresh, freshObs, Ob.fresh, mapS, killR, relT, leSl, leOb, injK, memK, parK, noTup, lk, rn0, rnA, plain, aI]))⟩, fun y hy => ?_⟩
  obtain ⟨bs, bs', r⟩ := y
  obtain ⟨ebs, hb0, hb1, hr1⟩ := hy
  simp only at ebs hb0 hb1 hr1
  have en : n' = (rows.length : Int) := en
  have tl := ltF hF bs rows.length bs' n' ebs en
  have e2 := mulF hF 2 bs 2 bs' rfl ebs (by omega)
  obtain ⟨b2, hb2⟩ : ∃ b2, F .ar .mul .i64 2 bs' = b2 := ⟨_, rfl⟩
  have eb2 : b2 = ((2 * bs : Nat) : Int) := hb2.symm.trans e2
  cbv
  refine ⟨fun h => ?_, fun h => ?_⟩ <;> cbv
  · have hbn := tl.1 h
    rw [hb2]
    refine ⟨Nat × Nat × Int × Int × List (List AV), fun y => sh69 [(7, aI y.2.2.1), (8, aI y.2.2.2.1), (6, aI bs')] n' y.2.2.2.2, fun y => y.2.1 = y.1 * (2 * bs) ∧ y.2.2.1 = (y.2.1 : Int) ∧ y.2.2.2.1 = ((y.2.1 + 2 * bs : Nat) : Int) ∧ y.2.1 ≤ rows.length ∧ Mrg1 ltR rows bs y.1 y.2.2.2.2, fun y => rows.length - y.2.1, ⟨(0, 0, 0, b2, r), ⟨by simp, rfl, by simp [eb2], Nat.zero_le _, hr1⟩, le_of [] (by simp [leSl, leOb, injK, memK, parK, noTup, lk, rn0, rnA, plain, aI])⟩, fun y hy => ?_⟩
    obtain ⟨k, c, c', d', p⟩ := y
    obtain ⟨hck, ec, ed, hcn, hp⟩ := hy
    simp only at hck ec ed hcn hp
    have ebs : bs' = (bs : Int) := ebs
    have en : n' = (rows.length : Int) := en
    have eb2 : b2 = ((2 * bs : Nat) : Int) := eb2
    have tl2 := leF hF (c + 2 * bs) rows.length d' n' ed en
    have e3 := addF hF c bs c' bs' ec ebs (by omega)
    have hpl := hp.len
    have hpe := ev_stp hp.stp hr
    obtain ⟨m', hm'⟩ : ∃ m', F .ar .add .i64 c' bs' = m' := ⟨_, rfl⟩
    have em : m' = ((c + bs : Nat) : Int) := hm'.symm.trans e3
    have e4 : c + 2 * bs ≤ rows.length → F .ar .add .i64 d' b2 = ((c + 2 * bs + 2 * bs : Nat) : Int) := fun h => addF hF (c + 2 * bs) (2 * bs) d' b2 ed eb2 (by omega)
    have hk2 : c + 2 * bs = (k + 1) * (2 * bs) := (congrArg (· + 2 * bs) (show c = k * (2 * bs) from hck)).trans (Nat.succ_mul k (2 * bs)).symm
    have key : c + 2 * bs ≤ rows.length → ∃ A L R B, p = A ++ (L ++ (R ++ B)) ∧ A.length = c ∧ c + L.length = c + bs ∧ c + bs + R.length = c + 2 * bs ∧ Srt ltR L ∧ Srt ltR R ∧ Mrg1 ltR rows bs (k + 1) (A ++ (isort ltR (L ++ R) ++ B)) := fun h => by
      obtain ⟨A, M, B, h1, h2, h3, h4⟩ := split_at p c (c + 2 * bs) (by omega) (by omega)
      obtain ⟨X, L, R, k1, k2, k3, k4⟩ := split_at M 0 bs (by omega) (by omega)
      have hX : X = [] := List.eq_nil_of_length_eq_zero k2
      subst hX
      simp only [List.nil_append] at k1
      have hl : p = A ++ (L ++ (R ++ B)) := by rw [h1, k1]; simp
      obtain ⟨s1, s2, s3⟩ := hp.step swo_ltR hl (by rw [h2, hck]) (by omega) (.inl (by omega))
      exact ⟨A, L, R, B, hl, h2, by omega, by omega, s1, s2, s3⟩
    cbv
    refine ⟨fun g => ?_, fun g => ?_⟩ <;> cbv
    · have hle := tl2.1 g
      obtain ⟨A, L, R, B, h1, h2, h3, h4, h5, h6, h7⟩ := key hle
      obtain ⟨q3, hq3⟩ : ∃ q3, q3 = A ++ (isort ltR (L ++ R) ++ B) := ⟨_, rfl⟩
      rw [← hq3] at h7
      have ec : c' = (c : Int) := ec
      have ed : d' = ((c + 2 * bs : Nat) : Int) := ed
      have em : m' = ((c + bs : Nat) : Int) := em
      obtain ⟨d2, hd2⟩ : ∃ d2, F .ar .add .i64 d' b2 = d2 := ⟨_, rfl⟩
      have ed2 : d2 = ((c + 2 * bs + 2 * bs : Nat) : Int) := hd2.symm.trans (e4 hle)
      rw [hm']
      refine ⟨_, _, hC _ _ _ (symMerge_ok (2 * bs) p c (c + bs) (c + 2 * bs) c' m' d' ec em ed A L R B h1 h2 h3 h4 (by omega) (by omega) h5 h6 (by omega) (by omega) hpe q3 hq3), ?_⟩
      cbv
      rw [hb2, hd2]
      exact ⟨(k + 1, c + 2 * bs, d', d2, q3), ⟨hk2, ed, ed2, hle, h7⟩, (show rows.length - (c + 2 * bs) < rows.length - c by omega), Le.trans le_fresh (le_of [] (by simp [St.fresh, freshObs, Ob.fresh, mapS, killR, relT, leSl, leOb, injK, memK, parK, noTup, lk, rn0, rnA, plain]))⟩
    · have hle := nfB tl2 g
      have ec : c' = (c : Int) := ec
      refine ⟨_, le_of [] (by simp [leSl, leOb, injK, memK, parK, noTup, lk, rn0, rnA, plain]), hD _ _ _ (t69_13 hF hC rows p hr hlen n' en bs k c bs' c' ebs ec hck hb0 hbn hp (by omega) hcn _ (fun q4 b4 s eb4 hq4 hs => ?_))⟩
      exact ⟨(bs * 2, b4, q4), ⟨eb4, (show 0 < bs * 2 by omega), (show bs * 2 ≤ 2 * rows.length + 20 by omega), hq4⟩, (show 2 * rows.length + 20 - bs * 2 < 2 * rows.length + 20 - bs by omega), hs⟩
  · have hbn := nfB tl h
    have := hr1.done swo_ltR (by have := hr1.len; omega)
    exact ⟨⟨this.trans hrows'.symm, trivial⟩, trivial⟩
/-- **A list, sorted, those that are alike in their order.** -/
theorem stable_ok (rows : List (List AV)) (n' : Int) (en : n' = (rows.length : Int)) (hlen : rows.length ≤ 100000000) (hr : ∀ r ∈ rows, isEv r) (rows' : List (List AV)) (hrows' : rows' = isort ltR rows) :
    CSem Try.prog (.wr 69 [(0, .row 34 26 rows 0 0)] [(0, .row 34 26 rows' 0 0)]) [.own 0 0, aI n', .clo 46 []] (.pure []) := by
  refine of_textW gam_ok mixed E69 Try.func69 (by kernel_rfl) rfl rfl (by simp) (by decide) rfl fun F C D hF hC hD => ?_
  cbv
  refine ⟨Nat × Nat × Int × Int × List (List AV), fun y => sh69 [(7, aI y.2.2.1), (8, aI y.2.2.2.1), (6, aI 20)] n' y.2.2.2.2, fun y => y.2.1 = y.1 * 20 ∧ y.2.2.1 = (y.2.1 : Int) ∧ y.2.2.2.1 = ((y.2.1 + 20 : Nat) : Int) ∧ y.2.1 ≤ rows.length ∧ Ins1 ltR rows 20 y.1 y.2.2.2.2, fun y => rows.length - y.2.1, ⟨(0, 0, 0, 20, rows), ⟨by simp, rfl, by simp, Nat.zero_le _, Ins1.start rows 20⟩, le_of [] (by simp [leSl, leOb, injK, memK, parK, noTup, lk, rn0, rnA, plain, aI])⟩, fun y hy => ?_⟩
  obtain ⟨k, c, c', d', p⟩ := y
  obtain ⟨hck, ec, ed, hcn, hp⟩ := hy
  simp only at hck ec ed hcn hp
  have en : n' = (rows.length : Int) := en
  have tl2 := leF hF (c + 20) rows.length d' n' ed en
  have hpl := hp.len
  have hpe := ev_stp hp.stp hr
  have e4 : c + 20 ≤ rows.length → F .ar .add .i64 d' 20 = ((c + 20 + 20 : Nat) : Int) := fun h => addF hF (c + 20) 20 d' 20 ed rfl (by omega)
  cbv
  refine ⟨fun g => ?_, fun g => ?_⟩ <;> cbv
  · have hle := tl2.1 g
    obtain ⟨A, M, B, h1, h2, h3, h4⟩ := split_at p c (c + 20) (by omega) (by omega)
    obtain ⟨q2, hq2⟩ : ∃ q2, q2 = A ++ (isort ltR M ++ B) := ⟨_, rfl⟩
    have hi2 := hp.step swo_ltR h1 (by rw [h2, hck]) (.inl (by omega))
    rw [← hq2] at hi2
    have ec : c' = (c : Int) := ec
    have ed : d' = ((c + 20 : Nat) : Int) := ed
    obtain ⟨d2, hd2⟩ : ∃ d2, F .ar .add .i64 d' 20 = d2 := ⟨_, rfl⟩
    have ed2 : d2 = ((c + 20 + 20 : Nat) : Int) := hd2.symm.trans (e4 hle)
    refine ⟨_, _, hC _ _ _ (insertionSort_ok p c (c + 20) c' d' ec ed A M B h1 h2 h3 (by omega) hpe q2 hq2), ?_⟩
    cbv
    rw [hd2]
    exact ⟨(k + 1, c + 20, d', d2, q2), ⟨(by rw [Nat.succ_mul, ← hck]), ed, ed2, hle, hi2⟩, (show rows.length - (c + 20) < rows.length - c by omega), Le.trans le_fresh (le_of [] (by simp [St.fresh, freshObs, Ob.fresh, mapS, killR, relT, leSl, leOb, injK, memK, parK, noTup, lk, rn0, rnA, plain]))⟩
  · have hle := nfB tl2 g
    have ec : c' = (c : Int) := ec
    exact ⟨_, le_of [] (by simp [leSl, leOb, injK, memK, parK, noTup, lk, rn0, rnA, plain]), hD _ _ _ (t69_6 hF hC hD rows p hr hlen n' en k c c' ec hck hcn (by omega) hp rows' hrows')⟩
theorem sortStable_ok (rows : List (List AV)) (hlen : rows.length ≤ 100000000) (hr : ∀ r ∈ rows, isEv r) (rows' : List (List AV)) (hrows' : rows' = isort ltR rows) :
    CSem Try.prog (.wr 45 [(0, .row 34 26 rows 0 0)] [(0, .row 34 26 rows' 0 0)]) [.own 0 0, .clo 46 []] (.pure []) := by
  refine of_textW gam_ok mixed { n := 9, wrs := [69] } Try.func45 (by kernel_rfl) rfl rfl (by simp) (by decide) rfl fun F C D hF hC hD => ?_
  have hl : F .len rows = (rows.length : Int) := by rw [hF]; rfl
  obtain ⟨n', hn'⟩ : ∃ n', F .len rows = n' := ⟨_, rfl⟩
  have en : n' = (rows.length : Int) := hn'.symm.trans hl
  cbv
  rw [hn']
  refine ⟨_, _, hC _ _ _ (stable_ok rows n' en hlen hr rows' hrows'), ?_⟩
  cbv
end Go.Proofs.Ytljpmnifkccbdaa
