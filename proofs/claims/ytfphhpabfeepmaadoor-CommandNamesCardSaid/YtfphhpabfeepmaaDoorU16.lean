import Derived.Test.YtfphhpabfeepmaaDoorAmX
import Derived.Test.YtfphhpabfeepmaaDoorU15
set_option linter.unusedSimpArgs false
set_option linter.unusedVariables false
namespace Go.Proofs.YtfphhpabfeepmaaDoor
open Go Go.RowKit Am

/-! ### Small letters and capitals name the same command -/
theorem parseE_up {a b : List UInt8} (h : upL a = upL b) (rest : List (List UInt8)) : parseE (a :: rest) = parseE (b :: rest) := by
  cases hf : formR (upL b) with
  | none => rw [parseE_none hf, parseE_none (h ▸ hf)]
  | some x =>
    obtain ⟨f, k⟩ := x
    rw [parseE_some hf, parseE_some (h ▸ hf)]
    have : cl0 a = cl0 b := by unfold cl0; rw [h]
    rw [this]
def letter (c : UInt8) : Bool := decide ((97 ≤ c.toNat ∧ c.toNat ≤ 122) ∨ (65 ≤ c.toNat ∧ c.toNat ≤ 90))
set_option maxRecDepth 100000 in
theorem flip_up (c : UInt8) (h : letter c = true) : upc (c ^^^ 32) = upc c := by
  have key : ∀ c : Fin 256, letter (UInt8.ofNat c.val) = true → upc (UInt8.ofNat c.val ^^^ 32) = upc (UInt8.ofNat c.val) := by decide
  have := key ⟨c.toNat, c.toNat_lt⟩
  simp only [UInt8.ofNat_toNat] at this
  exact this h
set_option maxRecDepth 100000 in
theorem xor_val {F : Sy} (hF : F = sy) (c : UInt8) : F .ar .xor .u8 (c.toNat : Int) 32 = ((c ^^^ 32).toNat : Int) := by
  rw [hF]
  have key : ∀ c : Fin 256, sy .ar .xor .u8 ((c.val : Nat) : Int) 32 = ((UInt8.ofNat c.val ^^^ 32).toNat : Int) := by decide
  have := key ⟨c.toNat, c.toNat_lt⟩
  simp only [UInt8.ofNat_toNat] at this
  exact this
theorem upL_set (l : List UInt8) (i : Nat) (c : UInt8) (hc : l[i]? = some c) (h : letter c = true) : upL (l.set i (c ^^^ 32)) = upL l := by
  unfold upL
  rw [List.map_set, flip_up c h]
  apply List.ext_getElem?
  intro j
  rw [List.getElem?_set]
  split
  · rename_i e
    subst e
    split
    · rw [List.getElem?_map, hc]; rfl
    · rename_i h2; rw [List.length_map] at h2; rw [List.getElem?_eq_none (by rw [List.length_map]; omega)]
  · rfl
theorem wrp_nn {F : Sy} (hF : F = sy) (x : Int) : 0 ≤ F .wrp .u64 x := by
  rw [hF]
  show 0 ≤ IntKind.u64.wrap x
  simp [IntKind.wrap, IntKind.signed, IntKind.bits]
  omega
theorem le_frzS (s : St) (l : List Operand) : Le s (frzArgs s l) := by
  rintro W0 S0 n a w ⟨S, β, h⟩
  obtain ⟨S', h'⟩ := rel_frzArgs l h
  exact ⟨S', β, h'⟩
set_option maxHeartbeats 4000000 in
theorem commandNames_ok (ags : List (List UInt8)) (rows : List (List AV)) (hrows : rows = sR ags) (turn : Int) : CSem Tryd.prog (.fn 12) [.sl rows, .v (.int .u16 turn)] (.pure [aB true]) := by
  refine of_textX gam_ok mixed { n := 90, keep := [28, 75, 10], cuts := [12] } Tryd.func12 (by kernel_rfl) rfl rfl (by simp) (by decide) fun F C D hF hC hD hX => ?_
  have haw := hC _ _ _ awake22_ok
  have tn : F .bnot true = false := by rw [bnotF hF]; rfl
  have tm : F .bnot false = true := by rw [bnotF hF]; rfl
  obtain ⟨n', hn'⟩ : ∃ n' : Int, F .len rows = n' := ⟨_, rfl⟩
  have en : n' = (ags.length : Int) := by rw [← hn', lenF hF, hrows, sR_len]
  have t0 : F .cmp .eql n' 0 = decide (ags.length = 0) := by rw [eqF hF, en]; congr 1; exact propext ⟨fun h => by omega, fun h => by omega⟩
  by_cases hsm : ags.length ≤ 20 ∧ ∀ a ∈ ags, a.length ≤ 1000
  · have hs := hC _ _ _ (small_ok ags rows hrows true ⟨fun _ => hsm, fun _ => rfl⟩)
    cases ags with
    | nil =>
      have t0 : F .cmp .eql n' 0 = true := t0
      clear hrows hsm en
      cbv
      refine ⟨_, haw, ?_⟩
      cbv
      refine cF (tn) ?_
      cbv
      refine ⟨_, hs, ?_⟩
      cbv
      refine cF (tn) ?_
      cbv
      rw [hn']
      refine bT (t0) ?_
      cbv
      refine ⟨_, haw, ?_⟩
      cbv
      simp
    | cons a rest =>
      have t0 : F .cmp .eql n' 0 = false := by rw [t0]; rfl
      obtain ⟨r, hr⟩ : ∃ r, r = (parseE (a :: rest)).1 := ⟨_, rfl⟩
      obtain ⟨y, hy⟩ : ∃ y, y = (parseE (a :: rest)).2 := ⟨_, rfl⟩
      have h20 : (a :: rest).length ≤ 1000 := by omega
      have hp := hC _ _ _ (parse_ok (a :: rest) rows hrows h20 hsm.2 r hr y hy)
      obtain ⟨sa, has⟩ : ∃ s, s = BA a := ⟨_, rfl⟩
      have hrow : rows[0]? = some [aS sa] := by rw [hrows, has]; rfl
      obtain ⟨r0, hr0⟩ : ∃ r, r = byR a := ⟨_, rfl⟩
      have hal : a.length ≤ 1000 := hsm.2 a List.mem_cons_self
      have hcv := hC _ _ _ (sb_own sa (by rw [L_size, has]; show a.length ≤ _; omega) r0 (by rw [hr0, has]; rfl))
      obtain ⟨m', hm'⟩ : ∃ n' : Int, F .len r0 = n' := ⟨_, rfl⟩
      have em : m' = (a.length : Int) := by rw [← hm', lenF hF, hr0, byR_len]
      cbv
      refine ⟨_, haw, ?_⟩
      cbv
      refine cF (tn) ?_
      cbv
      refine ⟨_, hs, ?_⟩
      cbv
      refine cF (tn) ?_
      cbv
      rw [hn']
      refine bF (t0) ?_
      cbv
      refine ⟨0, _, rfl, hrow, rfl, ?_⟩
      cbv
      refine ⟨_, _, _, hcv, ?_⟩
      cbv
      rw [hm']
      refine ⟨Nat × Int × List UInt8 × List (List AV) × Nat, fun x => { slots := [(31, aI x.2.1), (30, aI m'), (5, .own 0 0), (0, .sl rows), (1, .v (.int .u16 turn))], obs := [(0, .row 5 1 x.2.2.2.1 0 x.2.2.2.2)], ctr := 1 }, fun x => x.2.1 = (x.1 : Int) ∧ x.1 ≤ a.length ∧ x.2.2.2.1 = byR x.2.2.1 ∧ x.2.2.1.length = a.length ∧ upL x.2.2.1 = upL a, fun x => a.length - x.1, ⟨(0, 0, a, r0, 0), ⟨rfl, Nat.zero_le _, hr0, rfl, rfl⟩, (le_of [] (by simp [leSl, leOb, injK, memK, parK, noTup, lk, rn0, rnA, plain] <;> first | rfl | decide))⟩, fun x hx => ?_⟩
      obtain ⟨i, i', cur, rr, mv⟩ := x
      obtain ⟨ei, hi, eo, hcl, hup⟩ := hx
      simp only at ei hi eo hcl hup
      have em : m' = (a.length : Int) := em
      have tl := ltF hF i a.length i' m' ei em
      obtain ⟨i2, hi2⟩ : ∃ i2, F .ar .add .i64 i' 1 = i2 := ⟨_, rfl⟩
      have ei2 : i2 = ((i + 1 : Nat) : Int) := hi2.symm.trans (incF hF ei (by omega))
      by_cases hil : i < a.length
      · have tl : F .cmp .lss i' m' = true := tl.2 hil
        obtain ⟨c, hc⟩ : ∃ c, cur[i]? = some c := ⟨_, List.getElem?_eq_getElem (by omega)⟩
        obtain ⟨b, hb⟩ : ∃ b : Int, b = (c.toNat : Int) := ⟨_, rfl⟩
        have hrw : rr[i]? = some [aU b] := by rw [eo, hb]; exact byR_get hc
        have hsh := wrp_nn hF (F .ar .rem .i64 i' 16)
        have g1 : F .cmp .geq b 97 = true → 97 ≤ c.toNat := fun h => by rw [geF hF, hb] at h; have := of_decide_eq_true h; omega
        have g2 : F .cmp .leq b 122 = true → c.toNat ≤ 122 := fun h => by rw [leF hF, hb] at h; have := of_decide_eq_true h; omega
        have g3 : F .cmp .geq b 65 = true → 65 ≤ c.toNat := fun h => by rw [geF hF, hb] at h; have := of_decide_eq_true h; omega
        have g4 : F .cmp .leq b 90 = true → c.toNat ≤ 90 := fun h => by rw [leF hF, hb] at h; have := of_decide_eq_true h; omega
        obtain ⟨o2, ho2⟩ : ∃ o2, F .set rr i [.v (.int .u8 (F .ar .xor .u8 b 32))] = o2 := ⟨_, rfl⟩
        have eo2 : o2 = byR (cur.set i (c ^^^ 32)) := by
          rw [← ho2, hb, xor_val hF, hF, eo]
          show List.set _ _ _ = _
          rw [byR, byR, List.map_set]
        have hcl2 : (cur.set i (c ^^^ 32)).length = a.length := by rw [List.length_set]; exact hcl
        have hup2 : letter c = true → upL (cur.set i (c ^^^ 32)) = upL a := fun h => (upL_set cur i c hc h).trans hup
        have l1 : 97 ≤ c.toNat → c.toNat ≤ 122 → letter c = true := fun h1 h2 => decide_eq_true (.inl ⟨h1, h2⟩)
        have l2 : 65 ≤ c.toNat → c.toNat ≤ 90 → letter c = true := fun h1 h2 => decide_eq_true (.inr ⟨h1, h2⟩)
        have hmu : a.length - (i + 1) < a.length - i := by omega
        clear hr hy hp
        cbv
        refine bT (tl) ?_
        cbv
        refine ⟨i, _, ei, hrw, ?_⟩
        cbv
        refine ⟨hsh, ?_⟩
        cbv
        refine br (fun hq => ?_) (fun hq => ?_) <;> cbv
        · refine br (fun h1 => ?_) (fun h1 => ?_) <;> cbv
          · refine brf (fun h2 => ?_) (fun h2 => ?_) <;> cbv
            · refine br (fun h3 => ?_) (fun h3 => ?_) <;> cbv
              · refine br (fun h4 => ?_) (fun h4 => ?_) <;> cbv
                · refine ⟨i, _, ei, hrw, ?_⟩
                  cbv
                  rw [ho2, hi2]
                  exact ⟨by first | rfl | trivial | exact ⟨rfl⟩, (i + 1, i2, cur.set i (c ^^^ 32), o2, mv + 1), ⟨ei2, hil, eo2, hcl2, hup2 (l2 (g3 h3) (g4 h4))⟩, hmu, (le_of [] (by simp [leSl, leOb, injK, memK, parK, noTup, lk, rn0, rnA, plain] <;> first | rfl | decide))⟩
                · rw [hi2]
                  exact ⟨(i + 1, i2, cur, rr, mv), ⟨ei2, hil, eo, hcl, hup⟩, hmu, (le_of [] (by simp [leSl, leOb, injK, memK, parK, noTup, lk, rn0, rnA, plain] <;> first | rfl | decide))⟩
              · rw [hi2]
                exact ⟨(i + 1, i2, cur, rr, mv), ⟨ei2, hil, eo, hcl, hup⟩, hmu, (le_of [] (by simp [leSl, leOb, injK, memK, parK, noTup, lk, rn0, rnA, plain] <;> first | rfl | decide))⟩
            · refine ⟨i, _, ei, hrw, ?_⟩
              cbv
              rw [ho2, hi2]
              exact ⟨by first | rfl | trivial | exact ⟨rfl⟩, (i + 1, i2, cur.set i (c ^^^ 32), o2, mv + 1), ⟨ei2, hil, eo2, hcl2, hup2 (l1 (g1 h1) (g2 h2))⟩, hmu, (le_of [] (by simp [leSl, leOb, injK, memK, parK, noTup, lk, rn0, rnA, plain] <;> first | rfl | decide))⟩
          · refine br (fun h3 => ?_) (fun h3 => ?_) <;> cbv
            · refine br (fun h4 => ?_) (fun h4 => ?_) <;> cbv
              · refine ⟨i, _, ei, hrw, ?_⟩
                cbv
                rw [ho2, hi2]
                exact ⟨by first | rfl | trivial | exact ⟨rfl⟩, (i + 1, i2, cur.set i (c ^^^ 32), o2, mv + 1), ⟨ei2, hil, eo2, hcl2, hup2 (l2 (g3 h3) (g4 h4))⟩, hmu, (le_of [] (by simp [leSl, leOb, injK, memK, parK, noTup, lk, rn0, rnA, plain] <;> first | rfl | decide))⟩
              · rw [hi2]
                exact ⟨(i + 1, i2, cur, rr, mv), ⟨ei2, hil, eo, hcl, hup⟩, hmu, (le_of [] (by simp [leSl, leOb, injK, memK, parK, noTup, lk, rn0, rnA, plain] <;> first | rfl | decide))⟩
            · rw [hi2]
              exact ⟨(i + 1, i2, cur, rr, mv), ⟨ei2, hil, eo, hcl, hup⟩, hmu, (le_of [] (by simp [leSl, leOb, injK, memK, parK, noTup, lk, rn0, rnA, plain] <;> first | rfl | decide))⟩
        · rw [hi2]
          exact ⟨(i + 1, i2, cur, rr, mv), ⟨ei2, hil, eo, hcl, hup⟩, hmu, (le_of [] (by simp [leSl, leOb, injK, memK, parK, noTup, lk, rn0, rnA, plain] <;> first | rfl | decide))⟩
      · have tl : F .cmp .lss i' m' = false := by cases h : F .cmp .lss i' m' with | true => exact absurd (tl.1 h) hil | false => rfl
        obtain ⟨nm, hnm⟩ : ∃ s, s = BA cur := ⟨_, rfl⟩
        have hbs := hC _ _ _ (bs_ok cur rr eo nm hnm)
        obtain ⟨rs, hrs⟩ : ∃ rs, rs = (rows.drop 1).take (rest.length + 1 - 1) := ⟨_, rfl⟩
        have ers : rs = sR rest := by rw [hrs, hrows]; show (sR rest).take rest.length = sR rest; exact List.take_of_length_le (by rw [sR_len]; exact Nat.le_refl _)
        have en : n' = ((rest.length + 1 : Nat) : Int) := en
        have hsl1 : ((rest.length + 1 : Nat) : Int) = F .len rows := by rw [hn', en]
        have hsl2 : ((rest.length + 1 : Nat) : Int) ≤ F .len rows := by rw [hn', en]; exact Int.le_refl _
        have hone : ∀ r ∈ rows, r.length = 1 := by rw [hrows]; exact sR_one _
        have hone2 : ∀ r ∈ rs, r.length = 1 := by rw [ers]; exact sR_one _
        have hone1 : ∀ r ∈ [[aS nm]], r.length = 1 := fun r h => by rw [List.mem_singleton.1 h]; rfl
        obtain ⟨rows2, happ⟩ : ∃ o, F .app [[aS nm]] rs = o := ⟨_, rfl⟩
        have er2 : rows2 = sR (cur :: rest) := by rw [← happ, hF, ers, hnm]; rfl
        have hrm : (F .len [[aS nm]] + F .len rs) * 16 ≤ 140737488355328 := by
          rw [lenF hF, lenF hF, ers, sR_len]
          have := hsm.1
          simp only [List.length_cons, List.length_nil] at this ⊢
          omega
        have hpe : parseE (cur :: rest) = parseE (a :: rest) := parseE_up hup rest
        have hp2 := hC _ _ _ (parse_ok (cur :: rest) rows2 er2 (by simpa using h20) (fun x hx => by
          rcases List.mem_cons.1 hx with h | h
          · rw [h, hcl]; exact hal
          · exact hsm.2 x (List.mem_cons_of_mem _ h)) r (by rw [hpe]; exact hr) y (by rw [hpe]; exact hy))
        have he := hC _ _ _ (eqC61_ok y)
        have hne : [[aS nm]] ≠ [] := List.cons_ne_nil _ _
        have tr : F .cmp .eql r r = true := by rw [eqF hF]; exact decide_eq_true rfl
        obtain ⟨ynm, yky, yfv, yvl, ynn, ymm⟩ := y
        clear hr hy er2 ers hpe hsm
        cbv
        refine bF (tl) ?_
        cbv
        refine ⟨_, hp, ?_⟩
        cbv
        refine ⟨{ slots := [(9, aI r), (8, .ept [aS ynm, aS yky, aS yfv, aS yvl, aI ynn, aI ymm] 0), (5, .sl rr), (0, .sl rows)], obs := [], ctr := 0 }, Le.trans (le_frzS _ [.tmp 5]) (le_of [] (by simp [frzArgs, ev, St.freeze, mapS, frz0, frzAV, tupMap, leSl, leOb, injK, memK, parK, noTup, lk, rn0, rnA, plain] <;> first | rfl | decide)), hX _ _ _ _ _ (by kernel_rfl) (by rfl) ?_⟩
        cbv
        refine ⟨_, hbs, ?_⟩
        cbv
        refine ⟨1, rest.length + 1, rfl, hsl1, Nat.succ_le_succ (Nat.zero_le _), hsl2, hone, rs, hrs, ?_⟩
        cbv
        refine ⟨hne, hone1, hone2, hrm, ?_⟩
        cbv
        rw [happ]
        refine ⟨_, hp2, ?_⟩
        cbv
        refine hD _ _ _ ?_
        cbv
        refine ⟨_, he, ?_⟩
        cbv
        refine bT (rfl) ?_
        cbv
        rw [tr]
        simp
  · have hs := hC _ _ _ (small_ok ags rows hrows false ⟨fun h => (by cases h), fun h => absurd h hsm⟩)
    clear hrows hsm
    cbv
    refine ⟨_, haw, ?_⟩
    cbv
    refine cF (tn) ?_
    cbv
    refine ⟨_, hs, ?_⟩
    cbv
    refine cT (tm) ?_
    cbv
    refine ⟨_, haw, ?_⟩
    cbv
    simp
end Go.Proofs.YtfphhpabfeepmaaDoor
