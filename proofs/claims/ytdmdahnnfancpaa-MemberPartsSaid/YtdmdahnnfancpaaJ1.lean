import Derived.Test.YtdmdahnnfancpaaH8
set_option linter.unusedSimpArgs false
set_option linter.unusedVariables false
namespace Go.Proofs.Ytdmdahnnfancpaa
open Go Go.RowKit Am

/-! ### The members, in their first order -/
def keyM (ks : List ByteArray) (e : Ev) : List ByteArray := if e.op.kind = 3 then mputK ks e.op.fld else ks
def keysM (l : List Ev) : List ByteArray := l.foldl keyM []
theorem keysM_step {l : List Ev} {i : Nat} {e : Ev} (h : l[i]? = some e) : keysM (l.take (i + 1)) = keyM (keysM (l.take i)) e := by
  unfold keysM
  rw [List.take_add_one, h, List.foldl_append]; rfl
theorem keysM_mem (l : List Ev) (s : ByteArray) : s ∈ keysM l ↔ ∃ e ∈ l, e.op.kind = 3 ∧ e.op.fld = s := by
  have key : ∀ (l : List Ev) (ks : List ByteArray), s ∈ l.foldl keyM ks ↔ s ∈ ks ∨ ∃ e ∈ l, e.op.kind = 3 ∧ e.op.fld = s := by
    intro l
    induction l with
    | nil => intro ks; simp
    | cons e l ih =>
      intro ks
      rw [List.foldl_cons, ih]
      unfold keyM
      by_cases h : e.op.kind = 3
      · rw [if_pos h, mputK_memG]
        constructor
        · rintro ((h1 | h1) | ⟨e', h1, h2⟩)
          · exact .inl h1
          · exact .inr ⟨e, List.mem_cons_self, h, h1.symm⟩
          · exact .inr ⟨e', List.mem_cons_of_mem _ h1, h2⟩
        · rintro (h1 | ⟨e', h1, h2⟩)
          · exact .inl (.inl h1)
          · rcases List.mem_cons.1 h1 with h3 | h3
            · subst h3; exact .inl (.inr h2.2.symm)
            · exact .inr ⟨e', h3, h2⟩
      · rw [if_neg h]
        constructor
        · rintro (h1 | ⟨e', h1, h2⟩)
          · exact .inl h1
          · exact .inr ⟨e', List.mem_cons_of_mem _ h1, h2⟩
        · rintro (h1 | ⟨e', h1, h2⟩)
          · exact .inl h1
          · rcases List.mem_cons.1 h1 with h3 | h3
            · subst h3; exact absurd h2.1 h
            · exact .inr ⟨e', h3, h2⟩
  have := key l []
  simpa [keysM] using this
theorem keysM_nd (l : List Ev) : (keysM l).Nodup := by
  have key : ∀ (l : List Ev) (ks : List ByteArray), ks.Nodup → (l.foldl keyM ks).Nodup := by
    intro l
    induction l with
    | nil => intro ks h; exact h
    | cons e l ih =>
      intro ks h
      rw [List.foldl_cons]
      refine ih _ ?_
      unfold keyM
      split
      · exact mputK_ndG h _
      · exact h
  exact key l [] List.nodup_nil
theorem keysM_le (l : List Ev) : (keysM l).length ≤ l.length := by
  have hk : ∀ (ks : List ByteArray) (s : ByteArray), (mputK ks s).length ≤ ks.length + 1 := fun ks s => by
    by_cases h : s ∈ ks
    · rw [mputK_in ks s h]; omega
    · rw [mputK_out ks s h]; simp
  have key : ∀ (l : List Ev) (ks : List ByteArray), (l.foldl keyM ks).length ≤ ks.length + l.length := by
    intro l
    induction l with
    | nil => intro ks; simp
    | cons e l ih =>
      intro ks
      rw [List.foldl_cons]
      have h1 := ih (keyM ks e)
      have h2 : (keyM ks e).length ≤ ks.length + 1 := by
        unfold keyM
        split
        · exact hk _ _
        · omega
      simp only [List.length_cons]
      omega
  have := key l []
  simpa [keysM] using this
theorem namesM_eq (l : List Ev) : nameF 3 l = srtK (keysM l) := by
  refine rise_ext (nameF_rise 3 l) (srtK_rise (keysM_nd l)) fun x => ?_
  rw [nameF_mem, srtK_mem, keysM_mem]
  constructor
  · rintro ⟨e, h1, h2, h3⟩; exact ⟨e, h1, h2, by rw [← h3]; exact (BA_L _).symm⟩
  · rintro ⟨e, h1, h2, h3⟩; exact ⟨e, h1, h2, by rw [h3]; rfl⟩
/-! ### member.All -/
theorem snd_seq2 {P : Program} {E : En} {x Cc : Code} {Q : AE → St → Prop} {s : St} (s1 : St) (hx : ∀ (W0 : Bas) (S0 : Nat → Prop) (a : Act) (w : World) (R : Exit → Act → World → Prop), Rel W0 S0 E.n s a w → (∀ a' w', Rel W0 S0 E.n s1 a' w' → R .normal a' w') → x.wp P R a w)
    (hC : Snd P E Cc Q s1) : Snd P E (x.seq Cc) Q s := by
  intro W0 S0 R a w hr hq
  exact wp_seq (hx W0 S0 a w _ hr fun a' w' hr' => hC W0 S0 R a' w' hr' hq)
set_option maxHeartbeats 8000000 in
theorem memAll_ok (l : List Ev) (hl : l.length ≤ 1000000) (hz : ∀ e ∈ l, e.op.fld.size ≤ maxLen) (rows : List (List AV)) (hrows : rows = evR l) (out : List (List AV)) (hout : out = sR (nameF 3 l)) : CSem Try.prog (.fn 34) [.sl rows] (.pure [.sl out]) := by
  refine of_textH gam_ok mixed { n := 26, cuts := [8] } Try.func34 (by kernel_rfl) rfl rfl (by simp) (by decide) fun F C D hF hC hS hA => ?_
  obtain ⟨n', hn'⟩ : ∃ n' : Int, F .len rows = n' := ⟨_, rfl⟩
  have en : n' = (l.length : Int) := by rw [← hn', lenF hF, hrows, evR_len]
  cbv
  rw [hn']
  refine ⟨Nat × Int × List ByteArray × List AV, fun x => { slots := [(9, aI x.2.1), (8, aI n'), (7, .sl rows), (3, .mo 0), (2, .v (.slice none 0 0)), (0, .sl rows)], obs := [(0, .mp x.2.2.1 x.2.2.2)], ctr := 1 }, fun x => x.2.1 = (x.1 : Int) ∧ x.1 ≤ l.length ∧ x.2.2.1 = keysM (l.take x.1), fun x => l.length - x.1, ⟨(0, 0, [], []), ⟨rfl, Nat.zero_le _, rfl⟩, (le_of [] (by simp [leSl, leOb, injK, memK, parK, noTup, lk, rn0, rnA, plain] <;> first | rfl | decide))⟩, fun x hx => ?_⟩
  obtain ⟨i, i', ks, vs⟩ := x
  obtain ⟨ei, hi, hks⟩ := hx
  simp only at ei hi hks
  have en : n' = (l.length : Int) := en
  have tl := ltF hF i l.length i' n' ei en
  obtain ⟨i2, hi2⟩ : ∃ i2, F .ar .add .i64 i' 1 = i2 := ⟨_, rfl⟩
  have ei2 : i2 = ((i + 1 : Nat) : Int) := hi2.symm.trans (incF hF ei (by omega))
  by_cases hil : i < l.length
  · have tl : F .cmp .lss i' n' = true := tl.2 hil
    obtain ⟨e, he⟩ : ∃ s, l[i]? = some s := ⟨_, List.getElem?_eq_getElem hil⟩
    have hrow : rows[i]? = some e.ac := by rw [hrows]; exact evR_get he
    have hmu : l.length - (i + 1) < l.length - i := by omega
    have t3 : F .cmp .eql e.op.kind 3 = decide (e.op.kind = 3) := eqF hF _ _
    have hst := keysM_step he
    unfold keyM at hst
    by_cases h3 : e.op.kind = 3
    · have t3 : F .cmp .eql e.op.kind 3 = true := by rw [t3]; exact decide_eq_true h3
      rw [if_pos h3] at hst
      obtain ⟨ks2, hks2⟩ : ∃ k, k = mputK ks e.op.fld := ⟨_, rfl⟩
      obtain ⟨vs2, hvs2⟩ : ∃ k, k = mputV ks vs e.op.fld (.agg []) := ⟨_, rfl⟩
      have hks3 : ks2 = keysM (l.take (i + 1)) := by rw [hks2, hst, hks]
      clear hst hks hA hS
      cbv
      refine bT (tl) ?_
      cbv
      refine ⟨i, _, ei, hrow, rfl, ?_⟩
      cbv
      refine bT (t3) ?_
      cbv
      refine ⟨ks2, vs2, .mk hks2 hvs2, ?_⟩
      cbv
      rw [hi2]
      exact ⟨(i + 1, i2, ks2, vs2), ⟨ei2, hil, hks3⟩, hmu, (le_of [] (by simp [leSl, leOb, injK, memK, parK, noTup, lk, rn0, rnA, plain] <;> first | rfl | decide))⟩
    · have t3 : F .cmp .eql e.op.kind 3 = false := by rw [t3]; exact decide_eq_false h3
      rw [if_neg h3] at hst
      have hks3 : ks = keysM (l.take (i + 1)) := by rw [hst, hks]
      clear hst hks hA hS
      cbv
      refine bT (tl) ?_
      cbv
      refine ⟨i, _, ei, hrow, rfl, ?_⟩
      cbv
      refine bF (t3) ?_
      cbv
      rw [hi2]
      exact ⟨(i + 1, i2, ks, vs), ⟨ei2, hil, hks3⟩, hmu, (le_of [] (by simp [leSl, leOb, injK, memK, parK, noTup, lk, rn0, rnA, plain] <;> first | rfl | decide))⟩
  · have tl : F .cmp .lss i' n' = false := by cases h : F .cmp .lss i' n' with | true => exact absurd (tl.1 h) hil | false => rfl
    rw [List.take_of_length_le (by omega)] at hks
    have hkl : ks.length ≤ 1000000 := by rw [hks]; exact Nat.le_trans (keysM_le l) hl
    have hknd : ks.Nodup := by rw [hks]; exact keysM_nd l
    have hkz : ∀ k ∈ ks, k.size ≤ maxLen := fun k hk => by
      rw [hks] at hk
      obtain ⟨e, he, _, h2⟩ := (keysM_mem l k).1 hk
      rw [← h2]; exact hz e he
    have hout2 : out = sR (srtK ks) := by rw [hout, hks, namesM_eq]
    clear hout hks hz
    cbv
    refine bF (tl) ?_
    cbv
    refine ⟨{ slots := [(3, .mp ks vs)], obs := [], ctr := 1 }, Le.trans (le_frzS _ [.tmp 3]) (le_of [] (by simp [frzArgs, ev, St.freeze, mapS, frz0, frzAV, frzMp, tupMap, leSl, leOb, injK, memK, parK, noTup, lk, rn0, rnA, plain] <;> first | rfl | decide)), hS _ _ _ ?_⟩
    refine snd_seq2 { slots := [(2, .sl out)], obs := [], ctr := 1 } (fun W0 S0 a w R hr k => ?_) (hA _ _ _ ?_)
    · refine wp_region_list ?_
      refine list_keys (tm := 3) (d0 := 23) (d1 := 24) (d2 := 25) (f := 54) (g := 71) (ty := 83) (vs := vs) hr rfl rfl rfl rfl rfl rfl rfl rfl rfl rfl rfl (by decide) (by decide) (by decide) rfl rfl hknd hkl hkz (enterT Try.func54 (by kernel_rfl) rfl) (enterT Try.func51 (by kernel_rfl) rfl) keys_calls54 (fun b nn D0 w h1 h2 h3 => sorted_calls54 b nn D0 anyR w h1 h2 h3) fun a' w' hr' => ?_
      rw [← hout2] at hr'
      refine pieceL (E := { n := 26, cuts := [8] }) (fun s => Le s { slots := [(2, .sl out)], obs := [], ctr := 1 }) hr' (fun F' C' hF' hC' => ?_) (fun s a2 w2 hle hr2 => k _ _ (hle _ _ _ _ _ hr2))
      clear hA hS hout2 hknd hkz
      cbv
      exact (le_of [] (by simp [leSl, leOb, injK, memK, parK, noTup, lk, rn0, rnA, plain] <;> first | rfl | decide))
    · clear hA hS hout2 hknd hkz
      cbv
      try simp
/-! ### few, the reference's All -/
def fewM (l : List Ev) : Bool := decide (l.length ≤ 300) && l.all fun e => decide (e.op.fld.size ≤ 1000)
theorem fewM_ok (l : List Ev) (rows : List (List AV)) (hrows : rows = evR l) (r : Bool) (hr : r = fewM l) : CSem Try.prog (.fn 31) [.sl rows] (.pure [aB r]) := by
  refine of_text gam_ok mixed { n := 21 } Try.func31 (by kernel_rfl) rfl rfl (by simp) (by decide) fun F C D hF hC hD => ?_
  obtain ⟨n', hn'⟩ : ∃ n' : Int, F .len rows = n' := ⟨_, rfl⟩
  have en : n' = (l.length : Int) := by rw [← hn', lenF hF, hrows, evR_len]
  have tg : F .cmp .gtr n' 300 = decide (n' > 300) := gtF hF _ _
  by_cases h300 : l.length ≤ 300
  · have tg : F .cmp .gtr n' 300 = false := by rw [tg]; exact decide_eq_false (by omega)
    have hr : r = l.all fun e => decide (e.op.fld.size ≤ 1000) := by rw [hr]; unfold fewM; rw [decide_eq_true h300]; rfl
    cbv
    rw [hn']
    refine bF (tg) ?_
    cbv
    rw [hn']
    refine ⟨Nat × Int, fun x => { slots := [(9, aI x.2), (8, aI n'), (2, aB false), (0, .sl rows)], obs := [], ctr := 0 }, fun x => x.2 = (x.1 : Int) ∧ x.1 ≤ l.length ∧ (l.take x.1).all (fun e => decide (e.op.fld.size ≤ 1000)) = true, fun x => l.length - x.1, ⟨(0, 0), ⟨rfl, Nat.zero_le _, rfl⟩, (le_of [] (by simp [leSl, leOb, injK, memK, parK, noTup, lk, rn0, rnA, plain] <;> first | rfl | decide))⟩, fun x hx => ?_⟩
    obtain ⟨i, i'⟩ := x
    obtain ⟨ei, hi, hall⟩ := hx
    simp only at ei hi hall
    have en : n' = (l.length : Int) := en
    have tl := ltF hF i l.length i' n' ei en
    obtain ⟨i2, hi2⟩ : ∃ i2, F .ar .add .i64 i' 1 = i2 := ⟨_, rfl⟩
    have ei2 : i2 = ((i + 1 : Nat) : Int) := hi2.symm.trans (incF hF ei (by omega))
    by_cases hil : i < l.length
    · have tl : F .cmp .lss i' n' = true := tl.2 hil
      obtain ⟨e, he⟩ : ∃ s, l[i]? = some s := ⟨_, List.getElem?_eq_getElem hil⟩
      have hrow : rows[i]? = some e.ac := by rw [hrows]; exact evR_get he
      have hmu : l.length - (i + 1) < l.length - i := by omega
      obtain ⟨z, hz⟩ : ∃ z : Int, F .slen e.op.fld = z := ⟨_, rfl⟩
      have ez : z = (e.op.fld.size : Int) := by rw [← hz, slenF hF]
      have t1 : F .cmp .gtr z 1000 = decide (z > 1000) := gtF hF _ _
      by_cases hsz : e.op.fld.size ≤ 1000
      · have t1 : F .cmp .gtr z 1000 = false := by rw [t1]; exact decide_eq_false (by omega)
        have hall2 : (l.take (i + 1)).all (fun e => decide (e.op.fld.size ≤ 1000)) = true := by
          rw [List.take_add_one, he, List.all_append, hall]; simp [hsz]
        clear hr
        cbv
        refine bT (tl) ?_
        cbv
        refine ⟨i, _, ei, hrow, rfl, ?_⟩
        cbv
        have hz : F .slen e.4.3 = z := hz
        rw [hz]
        refine bF (t1) ?_
        cbv
        rw [hi2]
        exact ⟨(i + 1, i2), ⟨ei2, hil, hall2⟩, hmu, (le_of [] (by simp [leSl, leOb, injK, memK, parK, noTup, lk, rn0, rnA, plain] <;> first | rfl | decide))⟩
      · have t1 : F .cmp .gtr z 1000 = true := by rw [t1]; exact decide_eq_true (by omega)
        have hr : r = false := by
          rw [hr, List.all_eq_false]
          exact ⟨e, List.mem_of_getElem? he, by simpa using hsz⟩
        subst hr
        cbv
        refine bT (tl) ?_
        cbv
        refine ⟨i, _, ei, hrow, rfl, ?_⟩
        cbv
        have hz : F .slen e.4.3 = z := hz
        rw [hz]
        refine bT (t1) ?_
        cbv
        try simp
    · have tl : F .cmp .lss i' n' = false := by cases h : F .cmp .lss i' n' with | true => exact absurd (tl.1 h) hil | false => rfl
      have hr : r = true := by rw [hr, ← hall, List.take_of_length_le (by omega)]
      subst hr
      cbv
      refine bF (tl) ?_
      cbv
      try simp
  · have tg : F .cmp .gtr n' 300 = true := by rw [tg]; exact decide_eq_true (by omega)
    have hr : r = false := by rw [hr]; unfold fewM; rw [decide_eq_false h300]; rfl
    subst hr
    cbv
    rw [hn']
    refine bT (tg) ?_
    cbv
    try simp
set_option maxHeartbeats 8000000 in
theorem rallM_ok (l : List Ev) (hl : l.length ≤ 1000) (rows : List (List AV)) (hrows : rows = evR l) (out : List (List AV)) (hout : out = sR (nameF 3 l)) : CSem Try.prog (.fn 32) [.sl rows] (.pure [.sl out]) := by
  refine of_text gam_ok mixed { n := 27 } Try.func32 (by kernel_rfl) rfl rfl (by simp) (by decide) fun F C D hF hC hD => ?_
  obtain ⟨n', hn'⟩ : ∃ n' : Int, F .len rows = n' := ⟨_, rfl⟩
  have en : n' = (l.length : Int) := by rw [← hn', lenF hF, hrows, evR_len]
  cbv
  rw [hn']
  refine ⟨Nat × Int × List (List AV), fun x => { slots := [(7, aI x.2.1), (6, aI n'), (3, .sl x.2.2), (2, .v (.slice none 0 0)), (0, .sl rows)], obs := [], ctr := 0 }, fun x => x.2.1 = (x.1 : Int) ∧ x.1 ≤ l.length ∧ x.2.2 = sR (nameF 3 (l.take x.1)), fun x => l.length - x.1, ⟨(0, 0, []), ⟨rfl, Nat.zero_le _, rfl⟩, Le.trans (le_nilS 3 (by rfl)) (le_of [] (by simp [leSl, leOb, injK, memK, parK, noTup, lk, rn0, rnA, plain] <;> first | rfl | decide))⟩, fun x hx => ?_⟩
  obtain ⟨i, i', N⟩ := x
  obtain ⟨ei, hi, hN⟩ := hx
  simp only at ei hi hN
  have en : n' = (l.length : Int) := en
  have tl := ltF hF i l.length i' n' ei en
  obtain ⟨i2, hi2⟩ : ∃ i2, F .ar .add .i64 i' 1 = i2 := ⟨_, rfl⟩
  have ei2 : i2 = ((i + 1 : Nat) : Int) := hi2.symm.trans (incF hF ei (by omega))
  by_cases hil : i < l.length
  · have tl : F .cmp .lss i' n' = true := tl.2 hil
    obtain ⟨e, he⟩ : ∃ s, l[i]? = some s := ⟨_, List.getElem?_eq_getElem hil⟩
    have hrow : rows[i]? = some e.ac := by rw [hrows]; exact evR_get he
    have hmu : l.length - (i + 1) < l.length - i := by omega
    have t3 : F .cmp .eql e.op.kind 3 = decide (e.op.kind = 3) := eqF hF _ _
    have hst := nameF_step (k5 := 3) he
    by_cases h3 : e.op.kind = 3
    · have t3 : F .cmp .eql e.op.kind 3 = true := by rw [t3]; exact decide_eq_true h3
      rw [if_pos h3] at hst
      obtain ⟨N2, hN2⟩ : ∃ x, x = sR (withS (nameF 3 (l.take i)) (kOf e.op.fld)) := ⟨_, rfl⟩
      have hw := hC _ _ _ (with_ok (nameF 3 (l.take i)) (by have := nameF_le 3 (l.take i); rw [List.length_take] at this; omega) e.op.fld N hN N2 hN2)
      have hN3 : N2 = sR (nameF 3 (l.take (i + 1))) := by rw [hst]; exact hN2
      clear hst hN2 hN
      cbv
      refine bT (tl) ?_
      cbv
      refine ⟨i, _, ei, hrow, rfl, ?_⟩
      cbv
      refine bT (t3) ?_
      cbv
      refine ⟨i, _, ei, hrow, rfl, ?_⟩
      cbv
      refine ⟨_, hw, ?_⟩
      cbv
      rw [hi2]
      exact ⟨(i + 1, i2, N2), ⟨ei2, hil, hN3⟩, hmu, (le_of [] (by simp [leSl, leOb, injK, memK, parK, noTup, lk, rn0, rnA, plain] <;> first | rfl | decide))⟩
    · have t3 : F .cmp .eql e.op.kind 3 = false := by rw [t3]; exact decide_eq_false h3
      rw [if_neg h3] at hst
      have hN3 : N = sR (nameF 3 (l.take (i + 1))) := by rw [hst]; exact hN
      clear hst hN
      cbv
      refine bT (tl) ?_
      cbv
      refine ⟨i, _, ei, hrow, rfl, ?_⟩
      cbv
      refine bF (t3) ?_
      cbv
      rw [hi2]
      exact ⟨(i + 1, i2, N), ⟨ei2, hil, hN3⟩, hmu, (le_of [] (by simp [leSl, leOb, injK, memK, parK, noTup, lk, rn0, rnA, plain] <;> first | rfl | decide))⟩
  · have tl : F .cmp .lss i' n' = false := by cases h : F .cmp .lss i' n' with | true => exact absurd (tl.1 h) hil | false => rfl
    rw [List.take_of_length_le (by omega), ← hout] at hN
    subst hN
    clear hout
    cbv
    refine bF (tl) ?_
    cbv
    try simp
end Go.Proofs.Ytdmdahnnfancpaa
