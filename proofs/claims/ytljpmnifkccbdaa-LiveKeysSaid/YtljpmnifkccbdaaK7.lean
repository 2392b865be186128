import Derived.Test.YtljpmnifkccbdaaK6
set_option linter.unusedSimpArgs false
set_option linter.unusedVariables false
namespace Go.Proofs.Ytljpmnifkccbdaa
open Go Go.RowKit Am Go.Sort

abbrev sh22 (i' n' : Int) (rows out : List (List AV)) : St := { slots := [(11, aI i'), (10, aI n'), (0, .sl rows), (3, .sl out)], obs := [], ctr := 0 }
abbrev sh22a (k' i' n' : Int) (b : Bool) (rows out : List (List AV)) : St := { slots := [(24, aI k'), (23, aI n'), (5, aB b), (4, aI i'), (11, aI i'), (10, aI n'), (0, .sl rows), (3, .sl out)], obs := [], ctr := 0 }
abbrev sh22b (c' i' n' : Int) (rows out : List (List AV)) : St := { slots := [(7, aI c'), (4, aI i'), (11, aI i'), (10, aI n'), (0, .sl rows), (3, .sl out)], obs := [], ctr := 0 }
theorem ins_at {L : List Ev} (hs : Srt ltE L) (e : Ev) (c : Nat) (hc : c ≤ L.length) (h1 : ∀ y ∈ L.drop c, ltE e y = true) (h2 : ∀ p, 0 < c → L[c - 1]? = some p → ltE e p = false) : ins ltE e L = L.take c ++ e :: L.drop c := by
  have hL : L = L.take c ++ L.drop c := (List.take_append_drop c L).symm
  have := ins_split swo_ltE e (L.take c) (L.drop c) (fun z hz => ?_) h1
  · rw [← hL] at this; exact this
  · rcases Nat.eq_zero_or_pos c with h0 | h0
    · rw [h0] at hz; simp at hz
    · obtain ⟨p, hp⟩ : ∃ p, L[c - 1]? = some p := ⟨_, List.getElem?_eq_getElem (by omega)⟩
      have hep := h2 p h0 hp
      obtain ⟨m, hm, hmz⟩ := List.getElem_of_mem hz
      have hm2 : m < c := by simp at hm; omega
      rw [List.getElem_take] at hmz
      obtain ⟨hpl, hpe⟩ := List.getElem?_eq_some_iff.1 hp
      cases hz2 : ltE e z with
      | false => rfl
      | true =>
        rcases swo_ltE.ntr e p z hz2 with h | h
        · rw [hep] at h; cases h
        · by_cases hmc : m = c - 1
          · subst hmc
            rw [← hmz, hpe, swo_ltE.irr] at h; cases h
          · have := List.pairwise_iff_getElem.1 hs m (c - 1) (by omega) hpl (by omega)
            rw [hmz, hpe, h] at this
            cases this
theorem refAll_take {l : List Ev} {p : Ev → Bool} {i : Nat} {e : Ev} (he : l[i]? = some e) : isort ltE ((l.take (i + 1)).filter p) = if p e = true then ins ltE e (isort ltE ((l.take i).filter p)) else isort ltE ((l.take i).filter p) := by
  have htake : l.take (i + 1) = l.take i ++ [e] := by rw [List.take_add_one, he]; rfl
  rw [htake, List.filter_append]
  by_cases h : p e = true
  · rw [if_pos h]; simp only [h, List.filter_cons_of_pos, List.filter_nil]; rw [isort_snoc]
  · rw [if_neg h]; simp [h]
set_option maxHeartbeats 2000000 in
theorem refAll_ok (l : List Ev) (hl : l.length ≤ 100000000) (rows : List (List AV)) (hrows : rows = evR l) (out : List (List AV)) (hout : out = evR (refAll l)) : CSem Try.prog (.fn 22) [.sl rows] (.pure [.sl out]) := by
  refine of_text gam_ok mixed { n := 78, keep := [63, 70] } Try.func22 (by kernel_rfl) rfl rfl (by simp) (by decide) fun F C D hF hC hD => ?_
  obtain ⟨n', hn'⟩ : ∃ n', F .len rows = n' := ⟨_, rfl⟩
  have en : n' = (l.length : Int) := by rw [← hn', lenF hF, hrows, evR_len]
  obtain ⟨p, hp⟩ : ∃ p, p = refP l := ⟨_, rfl⟩
  have hout : out = evR (isort ltE (l.filter p)) := by rw [hout, refAll, hp]
  cbv
  rw [hn']
  refine ⟨Nat × Int × List Ev × List (List AV), fun x => sh22 x.2.1 n' rows x.2.2.2, fun x => x.2.1 = (x.1 : Int) ∧ x.1 ≤ l.length ∧ x.2.2.1 = isort ltE ((l.take x.1).filter p) ∧ x.2.2.2 = evR x.2.2.1, fun x => l.length - x.1, ⟨(0, 0, [], []), ⟨rfl, Nat.zero_le _, by simp [isort], rfl⟩, Le.trans (le_nilS 3 (by rfl)) (le_of [] (by simp [leSl, leOb, injK, memK, parK, noTup, lk, rn0, rnA, plain, aI]))⟩, fun x hx => ?_⟩
  obtain ⟨i, i', L, o⟩ := x
  obtain ⟨ei, hi, hL, ho⟩ := hx
  simp only at ei hi hL ho
  have hLl : L.length ≤ l.length := by
    rw [hL, (isort_perm _).length_eq]
    exact Nat.le_trans (List.length_filter_le _ _) (by simp; omega)
  have hLs : Srt ltE L := by rw [hL]; exact (isort_ok swo_ltE _).1
  have en : n' = (l.length : Int) := en
  have tl := ltF hF i l.length i' n' ei en
  have ep := incF hF ei (by omega)
  have hoL : o.length = L.length := by rw [ho, evR_len]
  obtain ⟨no, hno⟩ : ∃ no, F .len o = no := ⟨_, rfl⟩
  have eno : no = (L.length : Int) := by rw [← hno, lenF hF, hoL]
  obtain ⟨j, hj⟩ : ∃ j, F .ar .add .i64 i' 1 = j := ⟨_, rfl⟩
  have ej : j = ((i + 1 : Nat) : Int) := hj.symm.trans ep
  have hev : ∀ r ∈ o, r.length = 26 := fun r h => by rw [ho] at h; exact (evR_ev _ r h).len
  cbv
  refine br (fun h => ?_) (fun h => ?_) <;> cbv
  · have hil := tl.1 h
    obtain ⟨e, he⟩ : ∃ e, l[i]? = some e := ⟨_, List.getElem?_eq_getElem hil⟩
    have hrow : rows[i]? = some e.ac := by rw [hrows]; exact evR_get he
    have hstep := refAll_take (p := p) he
    rw [← hL] at hstep
    obtain ⟨ty, hty⟩ : ∃ ty, ty = typI e.op.kind := ⟨_, rfl⟩
    have htyp := hC _ _ _ (typR_ok e.op.kind ty hty)
    obtain ⟨b0, hb0⟩ : ∃ b0, F .cmp .eql ty 0 = b0 := ⟨_, rfl⟩
    have eb0 : b0 = (typI e.op.kind == 0) := by rw [← hb0, hF, hty]; rfl
    refine ⟨i, e.ac, ei, hrow, rfl, ?_⟩
    cbv
    refine ⟨_, htyp, ?_⟩
    cbv
    rw [hb0, hn']
    refine ⟨Nat × Int × Bool, fun x => sh22a x.2.1 i' n' x.2.2 rows o, fun x => x.2.1 = (x.1 : Int) ∧ x.1 ≤ l.length ∧ x.2.2 = (b0 || (l.take x.1).any fun b => endsR b e), fun x => l.length - x.1, ⟨(0, 0, b0), ⟨rfl, Nat.zero_le _, by simp⟩, le_of [] (by simp [leSl, leOb, injK, memK, parK, noTup, lk, rn0, rnA, plain, aI])⟩, fun x hx => ?_⟩
    obtain ⟨k, k', b5⟩ := x
    obtain ⟨ek, hk, hb5⟩ := hx
    simp only at ek hk hb5
    have en : n' = (l.length : Int) := en
    have tl2 := ltF hF k l.length k' n' ek en
    have ep2 := incF hF ek (by omega)
    obtain ⟨k2, hk2⟩ : ∃ k2, F .ar .add .i64 k' 1 = k2 := ⟨_, rfl⟩
    have ek2 : k2 = ((k + 1 : Nat) : Int) := hk2.symm.trans ep2
    cbv
    refine br (fun g => ?_) (fun g => ?_) <;> cbv
    · have hkl := tl2.1 g
      obtain ⟨f, hf⟩ : ∃ f, l[k]? = some f := ⟨_, List.getElem?_eq_getElem hkl⟩
      have hrowf : rows[k]? = some f.ac := by rw [hrows]; exact evR_get hf
      have htk : l.take (k + 1) = l.take k ++ [f] := by rw [List.take_add_one, hf]; rfl
      obtain ⟨q, hq⟩ : ∃ q, q = endsR f e := ⟨_, rfl⟩
      have hends := hC _ _ _ (endsR_ok f e q hq)
      have hnext : (b0 || (l.take (k + 1)).any fun b => endsR b e) = (b5 || q) := by rw [htk, List.any_append, hb5, hq]; simp [Bool.or_assoc]
      refine ⟨hC _ _ _ (ben_ok (by kernel_rfl)), ?_⟩
      cbv
      refine brf (fun g2 => ?_) (fun g2 => ?_) <;> cbv
      · refine ⟨k, f.ac, ek, hrowf, rfl, ?_⟩
        cbv
        refine ⟨i, e.ac, ei, hrow, rfl, ?_⟩
        cbv
        refine ⟨_, hends, ?_⟩
        cbv
        rw [hk2]
        exact ⟨(k + 1, k2, q), ⟨ek2, hkl, (by rw [hnext, g2]; rfl)⟩, (show l.length - (k + 1) < l.length - k by omega), le_of [] (by simp [leSl, leOb, injK, memK, parK, noTup, lk, rn0, rnA, plain])⟩
      · rw [hk2]
        exact ⟨(k + 1, k2, true), ⟨ek2, hkl, (by rw [hnext, g2]; rfl)⟩, (show l.length - (k + 1) < l.length - k by omega), le_of [] (by simp [leSl, leOb, injK, memK, parK, noTup, lk, rn0, rnA, plain])⟩
    · have hge : l.length ≤ k := by have := nfB tl2 g; omega
      rw [List.take_of_length_le hge] at hb5
      have hpe : p e = !b5 := by rw [hp, refP, hb5, eb0, Bool.not_or]
      refine br (fun g2 => ?_) (fun g2 => ?_) <;> cbv
      · rw [hj]
        exact ⟨(i + 1, j, L, o), ⟨ej, hil, (show L = _ by rw [hstep, hpe, g2]; rfl), ho⟩, (show l.length - (i + 1) < l.length - i by omega), le_of [] (by simp [leSl, leOb, injK, memK, parK, noTup, lk, rn0, rnA, plain])⟩
      · rw [hno]
        refine ⟨Nat × Int, fun x => sh22b x.2 i' n' rows o, fun x => x.2 = (x.1 : Int) ∧ x.1 ≤ L.length ∧ ∀ y ∈ L.drop x.1, ltE e y = true, fun x => x.1, ⟨(L.length, no), ⟨eno, Nat.le_refl _, by simp⟩, le_of [] (by simp [leSl, leOb, injK, memK, parK, noTup, lk, rn0, rnA, plain, aI])⟩, fun x hx => ?_⟩
        obtain ⟨c, c'⟩ := x
        obtain ⟨ec, hc, hgt⟩ := hx
        simp only at ec hc hgt
        have tg : F .cmp .gtr c' 0 = decide (0 < c) := by rw [hF, ec]; simp [sy]
        obtain ⟨c2, hc2⟩ : ∃ c2, F .ar .sub .i64 c' 1 = c2 := ⟨_, rfl⟩
        have ec2 : 0 < c → c2 = ((c - 1 : Nat) : Int) := fun h => by rw [← hc2, hF]; exact (wrap_in (by omega) (by omega)).trans (by omega)
        -- what stands behind the search
        have fin : (∀ q, 0 < c → L[c - 1]? = some q → ltE e q = false) → isort ltE ((l.take (i + 1)).filter p) = L.take c ++ e :: L.drop c := fun h2 => by
          rw [hstep, hpe, g2]
          exact ins_at hLs e c hc hgt h2
        cbv
        refine ⟨hC _ _ _ (ben_ok (by kernel_rfl)), ?_⟩
        cbv
        refine br (fun g3 => ?_) (fun g3 => ?_) <;> cbv
        · have hc0 : 0 < c := of_decide_eq_true (tg.symm.trans g3)
          have ec2 := ec2 hc0
          obtain ⟨pe, hpe⟩ : ∃ pe, L[c - 1]? = some pe := ⟨_, List.getElem?_eq_getElem (by omega)⟩
          have hrowp : o[c - 1]? = some pe.ac := by rw [ho]; exact evR_get hpe
          obtain ⟨lb, hlb⟩ : ∃ lb, lb = laterB pe e := ⟨_, rfl⟩
          have hlat := hC _ _ _ (laterRef_ok pe e lb hlb)
          refine ⟨c - 1, pe.ac, hc2.trans ec2, hrowp, rfl, ?_⟩
          cbv
          refine ⟨i, e.ac, ei, hrow, rfl, ?_⟩
          cbv
          refine ⟨_, hlat, ?_⟩
          cbv
          refine br (fun g4 => ?_) (fun g4 => ?_) <;> cbv
          · rw [hc2]
            refine ⟨(c - 1, c2), ⟨ec2, (show c - 1 ≤ L.length by omega), fun y hy => ?_⟩, (show c - 1 < c by omega), le_of [] (by simp [leSl, leOb, injK, memK, parK, noTup, lk, rn0, rnA, plain])⟩
            obtain ⟨hlt, hpe2⟩ := List.getElem?_eq_some_iff.1 hpe
            have hd : L.drop (c - 1) = pe :: L.drop c := by
              rw [← hpe2, List.drop_eq_getElem_cons hlt, show c - 1 + 1 = c by omega]
            rw [show ((c - 1, c2) : Nat × Int).1 = c - 1 from rfl, hd] at hy
            rcases List.mem_cons.1 hy with h | h
            · rw [h]; exact hlb.symm.trans g4
            · exact hgt y h
          · have hfin := fin (fun q _ hq => by rw [hpe] at hq; injection hq with hq; rw [← hq]; exact hlb.symm.trans g4)
            have ec : c' = (c : Int) := ec
            have eno : no = (L.length : Int) := eno
            have ei : i' = (i : Int) := ei
            obtain ⟨r1, hr1⟩ : ∃ r1, r1 = (o.drop 0).take (c - 0) := ⟨_, rfl⟩
            obtain ⟨r2, hr2⟩ : ∃ r2, r2 = (o.drop c).take (L.length - c) := ⟨_, rfl⟩
            have q1 : r1 = evR (L.take c) := by rw [hr1, ho]; simp [evR, List.map_take]
            have q2 : r2 = evR (L.drop c) := by rw [hr2, ho, List.take_of_length_le (by simp [evR])]; simp [evR, List.map_drop]
            have l1 : ∀ r ∈ r1, r.length = 26 := fun r h => by rw [q1] at h; exact (evR_ev _ r h).len
            have l2 : ∀ r ∈ r2, r.length = 26 := fun r h => by rw [q2] at h; exact (evR_ev _ r h).len
            have le : ∀ r ∈ [e.ac], r.length = 26 := fun r h => by rw [List.mem_singleton.1 h]; rfl
            have f1 : (F .app [] r1).length = c := by rw [hF, q1]; simp [sy, evR]; omega
            have f2 : (F .app (F .app [] r1) [e.ac]).length = c + 1 := by rw [hF, q1]; simp [sy, evR]; omega
            have g1 : r1.length = c := by rw [q1, evR_len]; simp; omega
            have g2 : r2.length = L.length - c := by rw [q2, evR_len]; simp
            have b1 : (F .len [] + F .len r1) * 232 ≤ 140737488355328 := by rw [lenF hF, lenF hF, g1]; simp; omega
            have b2 : (F .len (F .app [] r1) + F .len [e.ac]) * 232 ≤ 140737488355328 := by rw [lenF hF, lenF hF, f1]; simp; omega
            have b3 : (F .len (F .app (F .app [] r1) [e.ac]) + F .len r2) * 232 ≤ 140737488355328 := by rw [lenF hF, lenF hF, f2, g2]; omega
            obtain ⟨o2, ho2⟩ : ∃ o2, o2 = F .app (F .app (F .app [] r1) [e.ac]) r2 := ⟨_, rfl⟩
            have eo2 : o2 = evR (L.take c ++ e :: L.drop c) := by rw [ho2, hF, q1, q2]; simp [evR, sy]
            have hcn : (c : Int) ≤ no := by omega
            refine ⟨0, c, rfl, by rw [ec]; rfl, Nat.zero_le _, by rw [hno]; exact hcn, hev, r1, hr1, ?_⟩
            cbv
            refine ⟨l1, b1, ?_⟩
            refine ⟨i, e.ac, ei, hrow, rfl, ?_⟩
            cbv
            refine ⟨le, b2, ?_⟩
            have e1 : (L.length : Int) = F .len o := by rw [hno, eno]
            have e2 : (L.length : Int) ≤ F .len o := by rw [hno]; omega
            refine ⟨c, L.length, by rw [ec]; rfl, e1, hc, e2, hev, r2, hr2, ?_⟩
            cbv
            refine ⟨l2, b3, ?_⟩
            rw [hj]
            exact ⟨(i + 1, j, L.take c ++ e :: L.drop c, o2), ⟨ej, hil, hfin.symm, eo2⟩, (show l.length - (i + 1) < l.length - i by omega), le_of [] (by simp [leSl, leOb, injK, memK, parK, noTup, lk, rn0, rnA, plain]; exact ho2.symm)⟩
        · have hc0 : c = 0 := by have := tg.symm.trans g3; simpa using this
          have hfin := fin (fun q h _ => by omega)
          have ec : c' = (c : Int) := ec
          have eno : no = (L.length : Int) := eno
          have ei : i' = (i : Int) := ei
          obtain ⟨r1, hr1⟩ : ∃ r1, r1 = (o.drop 0).take (c - 0) := ⟨_, rfl⟩
          obtain ⟨r2, hr2⟩ : ∃ r2, r2 = (o.drop c).take (L.length - c) := ⟨_, rfl⟩
          have q1 : r1 = evR (L.take c) := by rw [hr1, ho]; simp [evR, List.map_take]
          have q2 : r2 = evR (L.drop c) := by rw [hr2, ho, List.take_of_length_le (by simp [evR])]; simp [evR, List.map_drop]
          have l1 : ∀ r ∈ r1, r.length = 26 := fun r h => by rw [q1] at h; exact (evR_ev _ r h).len
          have l2 : ∀ r ∈ r2, r.length = 26 := fun r h => by rw [q2] at h; exact (evR_ev _ r h).len
          have le : ∀ r ∈ [e.ac], r.length = 26 := fun r h => by rw [List.mem_singleton.1 h]; rfl
          have f1 : (F .app [] r1).length = c := by rw [hF, q1]; simp [sy, evR]; omega
          have f2 : (F .app (F .app [] r1) [e.ac]).length = c + 1 := by rw [hF, q1]; simp [sy, evR]; omega
          have g1 : r1.length = c := by rw [q1, evR_len]; simp; omega
          have g2 : r2.length = L.length - c := by rw [q2, evR_len]; simp
          have b1 : (F .len [] + F .len r1) * 232 ≤ 140737488355328 := by rw [lenF hF, lenF hF, g1]; simp; omega
          have b2 : (F .len (F .app [] r1) + F .len [e.ac]) * 232 ≤ 140737488355328 := by rw [lenF hF, lenF hF, f1]; simp; omega
          have b3 : (F .len (F .app (F .app [] r1) [e.ac]) + F .len r2) * 232 ≤ 140737488355328 := by rw [lenF hF, lenF hF, f2, g2]; omega
          obtain ⟨o2, ho2⟩ : ∃ o2, o2 = F .app (F .app (F .app [] r1) [e.ac]) r2 := ⟨_, rfl⟩
          have eo2 : o2 = evR (L.take c ++ e :: L.drop c) := by rw [ho2, hF, q1, q2]; simp [evR, sy]
          have hcn : (c : Int) ≤ no := by omega
          refine ⟨0, c, rfl, by rw [ec]; rfl, Nat.zero_le _, by rw [hno]; exact hcn, hev, r1, hr1, ?_⟩
          cbv
          refine ⟨l1, b1, ?_⟩
          refine ⟨i, e.ac, ei, hrow, rfl, ?_⟩
          cbv
          refine ⟨le, b2, ?_⟩
          have e1 : (L.length : Int) = F .len o := by rw [hno, eno]
          have e2 : (L.length : Int) ≤ F .len o := by rw [hno]; omega
          refine ⟨c, L.length, by rw [ec]; rfl, e1, hc, e2, hev, r2, hr2, ?_⟩
          cbv
          refine ⟨l2, b3, ?_⟩
          rw [hj]
          exact ⟨(i + 1, j, L.take c ++ e :: L.drop c, o2), ⟨ej, hil, hfin.symm, eo2⟩, (show l.length - (i + 1) < l.length - i by omega), le_of [] (by simp [leSl, leOb, injK, memK, parK, noTup, lk, rn0, rnA, plain]; exact ho2.symm)⟩
  · have hge : l.length ≤ i := by have := nfB tl h; omega
    have hfin : o = out := by rw [ho, hL, List.take_of_length_le hge, hout]
    rw [hfin]; exact ⟨rfl, trivial⟩
end Go.Proofs.Ytljpmnifkccbdaa
