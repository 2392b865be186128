import Derived.Test.YtdmdahnnfancpaaH4
import Derived.Test.YtdmdahnnfancpaaH1
set_option linter.unusedSimpArgs false
set_option linter.unusedVariables false
namespace Go.Proofs.Ytdmdahnnfancpaa
open Go Go.RowKit Am

/-! ### field.All -/
variable {P : Program}
theorem of_textH (hΓ : TOKs P) (hm : P.follows .mixedOrders = true) (E : En) {f : Nat} {fn : Func} {c : Code} {args : List AV} {res : Res} (hf : P.funcs[f]? = some fn) (hname : (fn.name == "runtime.NumGoroutine") = false) (hb : fn.body = some c) (hn : fn.ntmps = E.n) (ha : args.length ≤ E.n) (h4 : fn.results.toList.length ≤ 4)
    (h : ∀ (F : Sy) (C : Key → List AV → Res → Prop) (D : Code → (AE → St → Prop) → St → Prop), F = sy → (∀ k ar r, CSem P k ar r → C k ar r) → (∀ c Q s, Snd P E c Q s → D c Q s) → (∀ c Q s, awp F C D E c Q s → Snd P E c Q s) → awp F C D E c (fun e st => match e with | .normal => retOK fn.results.toList res st | .ret => retOK fn.results.toList res st | .exit _ => False) { slots := st0 0 args, obs := [], ctr := 0 }) : CSem P (.fn f) args res := by
  refine fsem_of (fun ar w => ?_) (acalls_of0 E hΓ hm hf hb hn ha h4 (h sy (CSem P) (Snd P E) rfl (fun _ _ _ h => h) (fun _ _ _ h => h) (fun c Q s h W0 S0 R a w hr hq => awp_ok hΓ hm c Q R s a w h hr hq)))
  have h1 : fn.name ≠ "runtime.NumGoroutine" := by simpa using hname
  simp [callFunc, hf, h1, hb]
theorem snd_seq3 {E : En} {x B Cc : Code} {Q : AE → St → Prop} {s : St} (s1 : St) (QC : St → Prop) (hx : ∀ (W0 : Bas) (S0 : Nat → Prop) (a : Act) (w : World) (R : Exit → Act → World → Prop), Rel W0 S0 E.n s a w → (∀ a' w', Rel W0 S0 E.n s1 a' w' → R .normal a' w') → x.wp P R a w)
    (hB : Snd P E B (fun e s' => match e with | .normal => QC s' | .ret => Q .ret s' | .exit i => Q (.exit i) s') s1) (hC : ∀ s', QC s' → Snd P E Cc Q s') : Snd P E ((x.seq B).seq Cc) Q s := by
  intro W0 S0 R a w hr hq
  refine wp_seq (wp_seq (hx W0 S0 a w _ hr fun a' w' hr' => ?_))
  refine hB W0 S0 _ a' w' hr' fun e st' a2 w2 hk hr2 => ?_
  cases e with
  | normal => exact hC st' hk W0 S0 _ a2 w2 hr2 hq
  | ret => exact hq .ret _ _ _ hk hr2
  | exit i => exact hq (.exit i) _ _ _ hk hr2
theorem pieceL {W0 : Bas} {S0 : Nat → Prop} {E : En} {ops : Array Oper} {rest : List Oper} {R : Exit → Act → World → Prop} {st : St} {a : Act} {w : World} (K : St → Prop) (hr : Rel W0 S0 E.n st a w)
    (h : ∀ (F : Sy) (C : Key → List AV → Res → Prop), F = sy → (∀ k ar r, CSem Try.prog k ar r → C k ar r) → aops F C E ops.toList rest K st)
    (k : ∀ s a' w', K s → Rel W0 S0 E.n s a' w' → R .normal a' w') : wpList Try.prog ops R rest a w :=
  aops_ok gam_ok (fun st' a' w' hk hr' => k _ _ _ hk hr') rest st a w (h sy (CSem Try.prog) rfl (fun _ _ _ h => h)) hr
def valH (l : List Ev) (s : ByteArray) : ByteArray := match getH l s with | some e => e.op.val | none => BA []
abbrev Pf := ByteArray × ByteArray
def pfR (P : List Pf) : List (List AV) := P.map fun p => [aS p.1, aS p.2]
theorem pfR_len (l : List Pf) : (pfR l).length = l.length := by simp [pfR]
theorem pfR_get {l : List Pf} {i : Nat} {p : Pf} (h : l[i]? = some p) : (pfR l)[i]? = some [aS p.1, aS p.2] := by simp [pfR, h]
theorem pfR_snoc (o : List Pf) (p : Pf) : pfR (o ++ [p]) = pfR o ++ [[aS p.1, aS p.2]] := by simp [pfR]
def allH (l : List Ev) : List Pf := (srtK (keysH l)).map fun k => (BA k, valH l (BA k))
theorem allH_len (l : List Ev) : (allH l).length = (keysH l).length := by unfold allH; rw [List.length_map, (srtK_perm _).length_eq, List.length_map]
theorem srtK_in {ks : List ByteArray} {j : Nat} {k : List UInt8} (h : (srtK ks)[j]? = some k) : BA k ∈ ks := by
  have h1 := (srtK_perm ks).mem_iff.1 (List.mem_of_getElem? h)
  obtain ⟨x, hx, rfl⟩ := List.mem_map.1 h1
  rw [BA_L]; exact hx
set_option maxHeartbeats 8000000 in
theorem allF_ok (l : List Ev) (hl : l.length ≤ 1000000) (hz : ∀ e ∈ l, e.op.fld.size ≤ maxLen) (rows : List (List AV)) (hrows : rows = evR l) (out : List (List AV)) (hout : out = pfR (allH l)) : CSem Try.prog (.fn 28) [.sl rows] (.own 54 2 out []) := by
  refine of_textH gam_ok mixed { n := 36, keep := [33], cuts := [3] } Try.func28 (by kernel_rfl) rfl rfl (by simp) (by decide) fun F C D hF hC hS hA => ?_
  obtain ⟨ks, hks⟩ : ∃ k, k = keysH l := ⟨_, rfl⟩
  obtain ⟨vs, hvs⟩ : ∃ k, k = mapH l := ⟨_, rfl⟩
  have hby := hC _ _ _ (by_ok l hl rows hrows ks vs hks hvs)
  have hkl : ks.length ≤ 1000000 := by rw [hks]; exact Nat.le_trans (keysH_le l) hl
  have hknd : ks.Nodup := by rw [hks]; exact keysH_nd l
  have hkz : ∀ k ∈ ks, k.size ≤ maxLen := fun k hk => by
    rw [hks] at hk
    obtain ⟨e, he, _, h2⟩ := (keysH_mem l k).1 hk
    rw [← h2]; exact hz e he
  obtain ⟨KR, hKR⟩ : ∃ k, k = sR (srtK ks) := ⟨_, rfl⟩
  obtain ⟨m, hm⟩ : ∃ n' : Int, F .len KR = n' := ⟨_, rfl⟩
  have em : m = ((srtK ks).length : Int) := by rw [← hm, lenF hF, hKR, sR_len]
  clear hz
  cbv
  refine ⟨_, hby, ?_⟩
  cbv
  refine ⟨{ slots := [(4, .v (.slice none 0 0)), (3, .mp ks vs), (2, .v (.slice none 0 0)), (0, .sl rows)], obs := [], ctr := 0 }, (le_of [] (by simp [leSl, leOb, injK, memK, parK, noTup, lk, rn0, rnA, plain] <;> first | rfl | decide)), hS _ _ _ ?_⟩
  refine snd_seq3 { slots := [(15, aI 0), (14, aI m), (13, .sl KR), (4, .v (.slice none 0 0)), (3, .mp ks vs), (2, .v (.slice none 0 0)), (0, .sl rows)], obs := [], ctr := 0 } _ (fun W0 S0 a w R hr k => ?_) (hA _ _ _ ?_) (fun s' h => hA _ _ _ h)
  · refine wp_region_list ?_
    refine list_keys (tm := 3) (d0 := 11) (d1 := 12) (d2 := 13) (f := 52) (g := 70) (ty := 75) (vs := vs) hr rfl rfl rfl rfl rfl rfl rfl rfl rfl rfl rfl (by decide) (by decide) (by decide) rfl rfl hknd hkl hkz (enterT Try.func52 (by kernel_rfl) rfl) (enterT Try.func51 (by kernel_rfl) rfl) keys_calls52 (fun b nn D0 w h1 h2 h3 => sorted_calls52 b nn D0 anyR w h1 h2 h3) fun a' w' hr' => ?_
    rw [← hKR] at hr'
    refine pieceL (E := { n := 36, keep := [33], cuts := [3] }) (fun s => Le s { slots := [(15, aI 0), (14, aI m), (13, .sl KR), (4, .v (.slice none 0 0)), (3, .mp ks vs), (2, .v (.slice none 0 0)), (0, .sl rows)], obs := [], ctr := 0 }) hr' (fun F' C' hF' hC' => ?_) (fun s a2 w2 hle hr2 => k _ _ (hle _ _ _ _ _ hr2))
    have hm' : F' .len KR = m := by rw [lenF hF', ← hm, lenF hF]
    clear hby hA hS em hKR hks hvs hknd hkz
    cbv
    rw [hm']
    exact (le_of [] (by simp [leSl, leOb, injK, memK, parK, noTup, lk, rn0, rnA, plain] <;> first | rfl | decide))
  · have hKl : (srtK ks).length = (allH l).length := by rw [allH_len, (srtK_perm ks).length_eq, List.length_map, hks]
    have hKn : (srtK ks).length ≤ 1000000 := by rw [(srtK_perm ks).length_eq, List.length_map]; exact hkl
    have hat : ∀ (j : Nat) (k : List UInt8), (srtK ks)[j]? = some k → (allH l)[j]? = some (BA k, valH l (BA k)) ∧ BA k ∈ keysH l ∧ mget ks vs (BA k) = some (.sl (evR (ownH l (BA k)))) := fun j k hk => by
      have h1 := srtK_in hk
      refine ⟨?_, by rw [← hks]; exact h1, by rw [hks, hvs]; exact mapH_hit l _ (by rw [← hks]; exact h1)⟩
      unfold allH
      rw [List.getElem?_map, ← hks, hk]; rfl
    have hgetK : ∀ (j : Nat) (k : List UInt8), (srtK ks)[j]? = some k → KR[j]? = some [aS (BA k)] := fun j k hk => by rw [hKR]; exact sR_get hk
    obtain ⟨KS, hKS⟩ : ∃ K, K = srtK ks := ⟨_, rfl⟩
    rw [← hKS] at hKl hKn hat hgetK em
    obtain ⟨T, hT⟩ : ∃ T, T = allH l := ⟨_, rfl⟩
    rw [← hT] at hKl hat hout
    clear hby hA hS hKS hKR hkz hknd hks hvs hT
    cbv
    refine ⟨Nat × Int × List (List AV), fun x => { slots := [(15, aI x.2.1), (14, aI m), (13, .sl KR), (4, .own 0 0), (3, .mp ks vs), (2, .v (.slice none 0 0)), (0, .sl rows)], obs := [(0, .row 54 2 x.2.2 0 0)], ctr := 1 }, fun x => x.2.1 = (x.1 : Int) ∧ x.1 ≤ KS.length ∧ x.2.2 = pfR (T.take x.1), fun x => KS.length - x.1, ⟨(0, 0, []), ⟨rfl, Nat.zero_le _, rfl⟩, Le.trans (le_nil 4 54 2 (by rfl) (by rfl)) (le_of [] (by simp [leSl, leOb, injK, memK, parK, noTup, lk, rn0, rnA, plain] <;> first | rfl | decide))⟩, fun x hx => ?_⟩
    obtain ⟨j, j', ow⟩ := x
    obtain ⟨ej, hj, how⟩ := hx
    simp only at ej hj how
    have em : m = (KS.length : Int) := em
    have tl := ltF hF j KS.length j' m ej em
    obtain ⟨j2, hj2⟩ : ∃ i2, F .ar .add .i64 j' 1 = i2 := ⟨_, rfl⟩
    have ej2 : j2 = ((j + 1 : Nat) : Int) := hj2.symm.trans (incF hF ej (by omega))
    by_cases hjl : j < KS.length
    · have tl : F .cmp .lss j' m = true := tl.2 hjl
      obtain ⟨k, hk⟩ : ∃ s, KS[j]? = some s := ⟨_, List.getElem?_eq_getElem hjl⟩
      have hrow := hgetK j k hk
      obtain ⟨hTj, hin, hmg⟩ := hat j k hk
      obtain ⟨s, hs⟩ : ∃ s, s = BA k := ⟨_, rfl⟩
      rw [← hs] at hrow hTj hin hmg
      obtain ⟨r2, hr2⟩ : ∃ r, r = evR (ownH l s) := ⟨_, rfl⟩
      rw [← hr2] at hmg
      have hne : ownH l s ≠ [] := fun h => (ownH_nil l s).2 h hin
      obtain ⟨e, he⟩ := latR_some _ hne
      have hol : (ownH l s).length ≤ l.length := List.length_filter_le _ _
      have hlat := hC _ _ _ (latest2_ok (ownH l s) (by omega) r2 hr2 e true (fun e' h => by rw [he] at h; injection h with h; exact ⟨h, rfl⟩) (fun h => by rw [he] at h; cases h))
      obtain ⟨v, hv⟩ : ∃ v, v = e.op.val := ⟨_, rfl⟩
      have hval : valH l s = v := by unfold valH getH; rw [he, hv]
      rw [hval] at hTj
      have hmu : KS.length - (j + 1) < KS.length - j := by omega
      obtain ⟨o2, ho2⟩ : ∃ x, x = F .app ow [[aS s, aS v]] := ⟨_, rfl⟩
      have how2 : o2 = pfR (T.take (j + 1)) := by rw [ho2, List.take_add_one, hTj, hF, how]; show pfR _ ++ _ = _; rw [show (some (s, v)).toList = [(s, v)] from rfl, pfR_snoc]
      have hrm : (F .len ow + F .len [[aS s, aS v]]) * 32 ≤ 140737488355328 := by rw [lenF hF, lenF hF, how, pfR_len, List.length_take]; simp only [List.length_singleton]; omega
      have hel : ∀ r ∈ [[aS s, aS v]], r.length = 2 := fun r h => by rw [List.mem_singleton.1 h]; rfl
      rw [hv] at ho2 hrm hel
      clear hat hgetK hs how hTj hin he hval hr2 hv
      cbv
      refine bT (tl) ?_
      cbv
      refine ⟨j, _, ej, hrow, rfl, ?_⟩
      cbv
      refine ⟨_, .hit1 hmg, fun _ => trivial, ?_⟩
      cbv
      refine ⟨_, hlat, ?_⟩
      cbv
      rw [hj2]
      exact ⟨hel, hrm, (j + 1, j2, o2), ⟨ej2, hjl, how2⟩, hmu, le_of [(0, 2)] (by simp [leSl, leOb, injK, memK, parK, noTup, lk, rn0, rnA, plain]; repeat (first | exact ho2.symm | refine And.intro ?_ ?_ | rfl | trivial))⟩
    · have tl : F .cmp .lss j' m = false := by cases h : F .cmp .lss j' m with | true => exact absurd (tl.1 h) hjl | false => rfl
      have how : ow = out := by rw [how, hout, List.take_of_length_le (by omega)]
      subst how
      clear hat hgetK hout
      cbv
      refine bF (tl) ?_
      cbv
      try simp
end Go.Proofs.Ytdmdahnnfancpaa
