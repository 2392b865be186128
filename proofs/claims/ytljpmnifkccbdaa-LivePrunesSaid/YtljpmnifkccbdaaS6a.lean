import Derived.Test.YtljpmnifkccbdaaS5
set_option linter.unusedSimpArgs false
set_option linter.unusedVariables false
namespace Go.Proofs.Ytljpmnifkccbdaa
open Go Go.RowKit Am

def dropSeq : Nat → Code → Code
  | 0, c => c
  | n + 1, .seq _ y => dropSeq n y
  | _, c => c
noncomputable def body79 : Code := (Try.f79.body).getD .skip
abbrev E79 : En := { n := 220, wrs := [79, 100], cuts := [2, 14, 32, 38, 41, 43] }
/-- What symMerge promises of spans up to d. -/
def Mrg (d : Nat) : Prop :=
  ∀ (rows : List (List AV)) (a m b : Nat) (a' m' b' : Int) (ea : a' = (a : Int)) (em : m' = (m : Int)) (eb : b' = (b : Int)) (A L R B : List (List AV)) (hrows : rows = A ++ (L ++ (R ++ B))) (hA : A.length = a) (hL : a + L.length = m) (hR : m + R.length = b) (h0 : 0 < L.length) (h1 : 0 < R.length) (hsL : Srt ltR L) (hsR : Srt ltR R) (hd : b - a ≤ d) (hlen : rows.length ≤ 500000000) (hr : ∀ r ∈ rows, isEv r) (rows' : List (List AV)) (hrows' : rows' = A ++ (isort ltR (L ++ R) ++ B)),
    CSem Try.prog (.wr 79 [(0, .row 34 26 rows 0 0)] [(0, .row 34 26 rows' 0 0)]) [.own 0 0, aI a', aI m', aI b', .clo 46 []] (.pure [])
theorem lt_iffF {F : Sy} (hF : F = sy) (i j : Nat) (i' j' : Int) (hi : i' = (i : Int)) (hj : j' = (j : Int)) : (F .cmp .lss i' j' = true ↔ i < j) ∧ (F .cmp .gtr i' j' = true ↔ j < i) := by rw [hF, hi, hj]; simp [sy]
theorem nfB {c : Bool} {p : Prop} (h : c = true ↔ p) (h2 : c = false) : ¬ p := fun hp => by have := h.2 hp; rw [h2] at this; simp at this
theorem isort_one {X Y : List (List AV)} (hX : Srt ltR X) (hY : Srt ltR Y) (h : X.length = 0 ∨ Y.length = 0) : isort ltR (X ++ Y) = X ++ Y := by
  rcases h with h | h
  · have := List.eq_nil_of_length_eq_zero h
    subst this
    exact (isort_unique swo_ltR hY (StP.refl _)).symm
  · have := List.eq_nil_of_length_eq_zero h
    subst this
    simp only [List.append_nil]
    exact (isort_unique swo_ltR hX (StP.refl _)).symm
theorem t43 {F : Sy} {C : Key → List AV → Res → Prop} {D : Code → (AE → St → Prop) → St → Prop} (hF : F = sy) (hC : ∀ k l r, CSem Try.prog k l r → C k l r) (hD : ∀ c Q s, awp F C D E79 c Q s → D c Q s)
    (d : Nat) (ih : Mrg d) (z rows' : List (List AV)) (a' m' : Int) (mid e b : Nat) (c' e' b' : Int) (ec : c' = (mid : Int)) (ee : e' = (e : Int)) (eb : b' = (b : Int)) (A L2 R2 B : List (List AV)) (hz : z = A ++ (L2 ++ (R2 ++ B))) (hA : A.length = mid) (lL : mid + L2.length = e) (lR : e + R2.length = b) (sL : Srt ltR L2) (sR : Srt ltR R2) (hd : b - mid ≤ d) (hlen : z.length ≤ 500000000) (hr : ∀ r ∈ z, isEv r)
    (hfin : rows' = A ++ (isort ltR (L2 ++ R2) ++ B)) :
    awp F C D E79 (dropSeq 11 body79) (fun e st => match e with | .normal => retOKW Try.f79.results.toList [(0, .row 34 26 rows' 0 0)] (.pure []) st | .ret => retOKW Try.f79.results.toList [(0, .row 34 26 rows' 0 0)] (.pure []) st | .exit _ => False)
      { slots := [(18, aI c'), (24, aI e'), (0, .own 0 0), (1, aI a'), (2, aI m'), (3, aI b'), (4, .clo 46 [])], obs := [(0, .row 34 26 z 0 0)], ctr := 5, par := 5 } := by
  have tce := (lt_iffF hF mid e c' e' ec ee).1
  have teb := (lt_iffF hF e b e' b' ee eb).1
  cbv
  refine ⟨fun y1 => ?_, fun y1 => ?_⟩ <;> cbv
  · refine ⟨fun y2 => ?_, fun y2 => ?_⟩ <;> cbv
    · have v3 := tce.1 y1
      have v4 := teb.1 y2
      refine ⟨_, _, hC _ _ _ (ih z mid e b c' e' b' ec ee eb A L2 R2 B hz hA lL lR (by omega) (by omega) sL sR hd hlen hr rows' hfin), ?_⟩
      cbv
    · have v5 := nfB teb y2
      have hk2 := isort_one sL sR (by omega)
      exact ⟨⟨by rw [hfin, hz, hk2]; simp, trivial⟩, trivial⟩
  · have v5 := nfB tce y1
    have hk2 := isort_one sL sR (by omega)
    exact ⟨⟨by rw [hfin, hz, hk2]; simp, trivial⟩, trivial⟩
theorem t41 {F : Sy} {C : Key → List AV → Res → Prop} {D : Code → (AE → St → Prop) → St → Prop} (hF : F = sy) (hC : ∀ k l r, CSem Try.prog k l r → C k l r) (hD : ∀ c Q s, awp F C D E79 c Q s → D c Q s)
    (d : Nat) (ih : Mrg d) (z rows' : List (List AV)) (a i m mid e b : Nat) (a' i' m' c' e' b' : Int) (ea : a' = (a : Int)) (ei : i' = (i : Int)) (ec : c' = (mid : Int)) (ee : e' = (e : Int)) (eb : b' = (b : Int)) (A L1 R1 L2 R2 B : List (List AV)) (hz : z = A ++ (L1 ++ (R1 ++ (L2 ++ (R2 ++ B))))) (hA : A.length = a) (lL1 : a + L1.length = i) (lR1 : i + R1.length = mid) (lL : mid + L2.length = e) (lR : e + R2.length = b)
    (sL1 : Srt ltR L1) (sR1 : Srt ltR R1) (sL : Srt ltR L2) (sR : Srt ltR R2) (hd1 : mid - a ≤ d) (hd : b - mid ≤ d) (hlen : z.length ≤ 500000000) (hr : ∀ r ∈ z, isEv r)
    (hfin : rows' = (A ++ isort ltR (L1 ++ R1)) ++ (isort ltR (L2 ++ R2) ++ B)) :
    awp F C D E79 (dropSeq 10 body79) (fun e st => match e with | .normal => retOKW Try.f79.results.toList [(0, .row 34 26 rows' 0 0)] (.pure []) st | .ret => retOKW Try.f79.results.toList [(0, .row 34 26 rows' 0 0)] (.pure []) st | .exit _ => False)
      { slots := [(20, aI i'), (18, aI c'), (24, aI e'), (0, .own 0 0), (1, aI a'), (2, aI m'), (3, aI b'), (4, .clo 46 [])], obs := [(0, .row 34 26 z 0 0)], ctr := 5, par := 5 } := by
  have tai := (lt_iffF hF a i a' i' ea ei).1
  have tic := (lt_iffF hF i mid i' c' ei ec).1
  have len1 := (isort_ok swo_ltR (L1 ++ R1)).2.2
  have mem1 : ∀ q, q ∈ isort ltR (L1 ++ R1) → q ∈ L1 ++ R1 := fun q hq => isort_mem swo_ltR hq
  have hA2 : (A ++ isort ltR (L1 ++ R1)).length = mid := by rw [List.length_append, len1, List.length_append]; omega
  obtain ⟨z2, hz2⟩ : ∃ z2, z2 = (A ++ isort ltR (L1 ++ R1)) ++ (L2 ++ (R2 ++ B)) := ⟨_, rfl⟩
  have hl2 : z2.length = z.length := by rw [hz2, hz]; simp only [List.length_append, len1]; omega
  have hr2 : ∀ r ∈ z2, isEv r := fun r h => hr r (by
    rw [hz2] at h
    rw [hz]
    simp only [List.mem_append] at h ⊢
    rcases h with (h | h) | h | h | h
    · simp [h]
    · have := mem1 r h
      simp only [List.mem_append] at this
      rcases this with h | h <;> simp [h]
    all_goals simp [h])
  have tail := t43 hF hC hD d ih z2 rows' a' m' mid e b c' e' b' ec ee eb (A ++ isort ltR (L1 ++ R1)) L2 R2 B hz2 hA2 lL lR sL sR hd (by omega) hr2 hfin
  have skip : (L1.length = 0 ∨ R1.length = 0) → z = z2 := fun h => by rw [hz2, isort_one sL1 sR1 h, hz]; simp
  cbv
  refine ⟨fun y1 => ?_, fun y1 => ?_⟩ <;> cbv
  · refine ⟨fun y2 => ?_, fun y2 => ?_⟩ <;> cbv
    · have v3 := tai.1 y1
      have v4 := tic.1 y2
      refine ⟨_, _, hC _ _ _ (ih z a i mid a' i' c' ea ei ec A L1 R1 (L2 ++ (R2 ++ B)) hz hA lL1 lR1 (by omega) (by omega) sL1 sR1 hd1 hlen hr z2 (by rw [hz2]; simp)), ?_⟩
      cbv
      exact ⟨_, Le.trans le_fresh (le_of [] (by simp [St.fresh, freshObs, Ob.fresh, mapS, killR, relT, leSl, leOb, injK, memK, parK, noTup, lk, rn0, rnA, plain, aI])), hD _ _ _ tail⟩
    · have v5 := nfB tic y2
      have hq := skip (by omega)
      subst hq
      exact ⟨_, Le.trans le_fresh (le_of [] (by simp [St.fresh, freshObs, Ob.fresh, mapS, killR, relT, leSl, leOb, injK, memK, parK, noTup, lk, rn0, rnA, plain, aI])), hD _ _ _ tail⟩
  · have v5 := nfB tai y1
    have hq := skip (by omega)
    subst hq
    exact ⟨_, Le.trans le_fresh (le_of [] (by simp [St.fresh, freshObs, Ob.fresh, mapS, killR, relT, leSl, leOb, injK, memK, parK, noTup, lk, rn0, rnA, plain, aI])), hD _ _ _ tail⟩
theorem t38 {F : Sy} {C : Key → List AV → Res → Prop} {D : Code → (AE → St → Prop) → St → Prop} (hF : F = sy) (hC : ∀ k l r, CSem Try.prog k l r → C k l r) (hD : ∀ c Q s, awp F C D E79 c Q s → D c Q s)
    (d : Nat) (ih : Mrg d) (z rows' : List (List AV)) (a i m mid n e b : Nat) (a' i' m' c' n' b' : Int) (ea : a' = (a : Int)) (ei : i' = (i : Int)) (em : m' = (m : Int)) (ec : c' = (mid : Int)) (en : n' = (n : Int)) (eb : b' = (b : Int)) (hn : n = mid + m) (hie : i + e = n) (A L1 R1 L2 R2 B : List (List AV)) (hz : z = A ++ (L1 ++ (L2 ++ (R1 ++ (R2 ++ B))))) (hA : A.length = a) (lL1 : a + L1.length = i) (lL2 : i + L2.length = m) (lR1 : m + R1.length = e) (lR : e + R2.length = b)
    (sL1 : Srt ltR L1) (sR1 : Srt ltR R1) (sL : Srt ltR L2) (sR : Srt ltR R2) (hd1 : mid - a ≤ d) (hd : b - mid ≤ d) (hlen : z.length ≤ 500000000) (hr : ∀ r ∈ z, isEv r)
    (hfin : rows' = (A ++ isort ltR (L1 ++ R1)) ++ (isort ltR (L2 ++ R2) ++ B)) :
    awp F C D E79 (dropSeq 8 body79) (fun e st => match e with | .normal => retOKW Try.f79.results.toList [(0, .row 34 26 rows' 0 0)] (.pure []) st | .ret => retOKW Try.f79.results.toList [(0, .row 34 26 rows' 0 0)] (.pure []) st | .exit _ => False)
      { slots := [(20, aI i'), (19, aI n'), (18, aI c'), (0, .own 0 0), (1, aI a'), (2, aI m'), (3, aI b'), (4, .clo 46 [])], obs := [(0, .row 34 26 z 0 0)], ctr := 5, par := 5 } := by
  have hzl : z.length = b + B.length := by rw [hz]; simp only [List.length_append]; omega
  have ee0 : F .ar .sub .i64 n' i' = (e : Int) := by rw [en, ei, hF]; exact (wrap_in (by omega) (by omega)).trans (by omega)
  obtain ⟨e', he'⟩ : ∃ e', F .ar .sub .i64 n' i' = e' := ⟨_, rfl⟩
  have ee : e' = (e : Int) := he'.symm.trans ee0
  have tls := (lt_iffF hF i m i' m' ei em).1
  have tme := (lt_iffF hF m e m' e' em ee).1
  obtain ⟨z2, hz2⟩ : ∃ z2, z2 = A ++ (L1 ++ (R1 ++ (L2 ++ (R2 ++ B)))) := ⟨_, rfl⟩
  have hl2 : z2.length = z.length := by rw [hz2, hz]; simp only [List.length_append]; omega
  have hr2 : ∀ r ∈ z2, isEv r := fun r h => hr r (by
    rw [hz2] at h
    rw [hz]
    simp only [List.mem_append] at h ⊢
    rcases h with h | h | h | h | h | h <;> simp [h])
  have tail := t41 hF hC hD d ih z2 rows' a i m mid e b a' i' m' c' e' b' ea ei ec ee eb A L1 R1 L2 R2 B hz2 hA lL1 (by omega) (by omega) lR sL1 sR1 sL sR hd1 hd (by omega) hr2 hfin
  have skip : (L2.length = 0 ∨ R1.length = 0) → z = z2 := fun h => by
    rw [hz2, hz]
    rcases h with h | h
    · have := List.eq_nil_of_length_eq_zero h
      subst this; simp
    · have := List.eq_nil_of_length_eq_zero h
      subst this; simp
  cbv
  rw [he']
  refine ⟨fun y1 => ?_, fun y1 => ?_⟩ <;> cbv
  · refine ⟨fun y2 => ?_, fun y2 => ?_⟩ <;> cbv
    · have v3 := tls.1 y1
      have v4 := tme.1 y2
      refine ⟨_, _, hC _ _ _ (rotate_ok z i m e i' m' e' ei em ee (A ++ L1) L2 R1 (R2 ++ B) (by rw [hz]; simp) (by rw [List.length_append]; omega) lL2 lR1 (by omega) (by omega) (by omega) (fun r h => (hr r h).len) z2 (by rw [hz2]; simp)), ?_⟩
      cbv
      exact ⟨_, Le.trans le_fresh (le_of [] (by simp [St.fresh, freshObs, Ob.fresh, mapS, killR, relT, leSl, leOb, injK, memK, parK, noTup, lk, rn0, rnA, plain, aI])), hD _ _ _ tail⟩
    · have v5 := nfB tme y2
      have hq := skip (by omega)
      subst hq
      exact ⟨_, Le.trans le_fresh (le_of [] (by simp [St.fresh, freshObs, Ob.fresh, mapS, killR, relT, leSl, leOb, injK, memK, parK, noTup, lk, rn0, rnA, plain, aI])), hD _ _ _ tail⟩
  · have v5 := nfB tls y1
    have hq := skip (by omega)
    subst hq
    exact ⟨_, Le.trans le_fresh (le_of [] (by simp [St.fresh, freshObs, Ob.fresh, mapS, killR, relT, leSl, leOb, injK, memK, parK, noTup, lk, rn0, rnA, plain, aI])), hD _ _ _ tail⟩
end Go.Proofs.Ytljpmnifkccbdaa
