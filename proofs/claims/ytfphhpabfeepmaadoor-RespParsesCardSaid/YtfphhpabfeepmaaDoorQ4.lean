import Derived.Test.YtfphhpabfeepmaaDoorQ3
set_option linter.unusedSimpArgs false
set_option linter.unusedVariables false
namespace Go.Proofs.YtfphhpabfeepmaaDoor
open Go Go.RowKit Am

theorem le_frz (s : St) (l : List Operand) : Le s (frzArgs s l) := by
  rintro W0 S0 n a w ⟨S, β, h⟩
  obtain ⟨S', h'⟩ := rel_frzArgs l h
  exact ⟨S', β, h'⟩
def glue (o : List (List UInt8)) (d : Nat) : R (List (List UInt8)) → R (List (List UInt8))
  | .more => .more
  | .err e => .err e
  | .ok ts k => .ok (o ++ ts) (d + k)
theorem cnt_err {r : List UInt8} {s lo hi e : Nat} (h : cnt r s lo hi = .err e) : e = 3 ∨ e = 4 := by
  cases r with
  | nil => cases h
  | cons c r1 =>
    simp only [cnt] at h
    split at h
    · injection h with h; omega
    · split at h
      · cases h
      · split at h
        · injection h with h; omega
        · split at h
          · cases h
          · split at h
            · injection h with h; omega
            · split at h
              · injection h with h; omega
              · cases h
theorem txt_ok {l : List UInt8} {q n : Nat} {c d : UInt8} (h1 : l[q + n]? = some c) (h2 : c.toNat = 13) (h3 : l[q + n + 1]? = some d) (h4 : d.toNat = 10) : txt (l.drop q) n = .ok ((l.drop q).take n) (n + 2) := by
  have := (List.getElem?_eq_some_iff.1 h1).1
  unfold txt
  rw [if_neg (by rw [List.length_drop]; omega), List.getElem?_drop, h1]
  simp only
  rw [if_neg (by omega), List.getElem?_drop, show q + (n + 1) = q + n + 1 by omega, h3]
  simp only
  rw [if_neg (by omega)]
theorem txt_e1 {l : List UInt8} {q n : Nat} {c : UInt8} (h1 : l[q + n]? = some c) (h2 : c.toNat ≠ 13) : txt (l.drop q) n = .err 3 := by
  have := (List.getElem?_eq_some_iff.1 h1).1
  unfold txt
  rw [if_neg (by rw [List.length_drop]; omega), List.getElem?_drop, h1]
  simp only
  rw [if_pos h2]
theorem txt_e2 {l : List UInt8} {q n : Nat} {c d : UInt8} (h1 : l[q + n]? = some c) (h2 : c.toNat = 13) (h3 : l[q + n + 1]? = some d) (h4 : d.toNat ≠ 10) : txt (l.drop q) n = .err 3 := by
  have := (List.getElem?_eq_some_iff.1 h1).1
  unfold txt
  rw [if_neg (by rw [List.length_drop]; omega), List.getElem?_drop, h1]
  simp only
  rw [if_neg (by omega), List.getElem?_drop, show q + (n + 1) = q + n + 1 by omega, h3]
  simp only
  rw [if_pos h4]
theorem txt_m {l : List UInt8} {q n : Nat} (hq : q ≤ l.length) (h : l.length ≤ q + n + 1) (h1 : ∀ c, l[q + n]? = some c → c.toNat = 13) : txt (l.drop q) n = .more := by
  unfold txt
  split
  · rfl
  · rw [List.getElem?_drop]
    cases hb : l[q + n]? with
    | none => rfl
    | some c =>
      simp only
      rw [if_neg (by have := h1 c hb; omega), List.getElem?_drop, List.getElem?_eq_none (by omega)]
theorem ar1 {x q n : Nat} (h : q + n + 1 < x) : ¬ (x - q < n + 2) := by omega
theorem ar2 {x q n j : Nat} (h : ¬ (q + n + j < x)) (h2 : j < 2) : x - q < n + 2 := by omega
theorem ar6 {N i m : Nat} (h : N - i = m + 1) : N - (i + 1) = m := by omega
theorem ar7 {p p0 k q n k3 : Nat} (hq : q = p + k) (hpp : p0 ≤ p) : q + n + 2 - p0 + k3 = p - p0 + (k + (n + 2) + k3) := by omega
theorem ar3 {j : Nat} (h : j = 1) : ¬ (j = 0) := by omega
set_option maxHeartbeats 20000000 in
theorem rone_ok (s : ByteArray) (l : List UInt8) (hs : l = L s) (hl : l.length ≤ 1000000) (a : Nat) (a' : Int) (ha : a' = (a : Int)) (hle : a ≤ l.length) (tsR : List (List AV)) (a2 c2 : Int)
    (hmore : one (l.drop a) = .more → tsR = [] ∧ a2 = 0 ∧ c2 = 1) (herr : ∀ e, one (l.drop a) = .err e → tsR = [] ∧ a2 = 0 ∧ c2 = (e : Int)) (hok : ∀ ts k, one (l.drop a) = .ok ts k → tsR = sR ts ∧ a2 = ((a + k : Nat) : Int) ∧ c2 = 0) :
    CSem Tryd.prog (.fn 43) [aS s, aI a'] (.pure [.sl tsR, aI a2, aI c2]) := by
  refine of_text gam_ok mixed { n := 89, keep := [82], cuts := [20] } Tryd.func43 (by kernel_rfl) rfl rfl (by simp) (by decide) fun F C D hF hC hD => ?_
  obtain ⟨sn, hsn⟩ : ∃ sn : Int, F .slen s = sn := ⟨_, rfl⟩
  have esn : sn = (l.length : Int) := by rw [← hsn, slenF hF, L_size, hs]
  unfold one at hmore herr hok
  cases hc0 : cnt (l.drop a) 42 1 8 with
  | more =>
    have hcn := hC _ _ _ (rcount_ok s l hs hl a a' ha hle 42 1 8 42 1 8 rfl rfl rfl 0 0 1 (fun _ => ⟨rfl, rfl, rfl⟩) (fun e h => by rw [hc0] at h; cases h) (fun n k h => by rw [hc0] at h; cases h))
    rw [hc0] at hmore
    obtain ⟨f1, f2, f3⟩ := hmore rfl
    subst f1 f2 f3
    have t1 : F .cmp .neq 1 0 = true := by rw [neF hF]; rfl
    clear herr hok
    cbv
    refine ⟨_, hcn, ?_⟩
    cbv
    refine bT (t1) ?_
    cbv
    simp
  | err e =>
    rw [hc0] at herr
    obtain ⟨f1, f2, f3⟩ := herr e rfl
    have hcn := hC _ _ _ (rcount_ok s l hs hl a a' ha hle 42 1 8 42 1 8 rfl rfl rfl 0 0 c2 (fun h => by rw [hc0] at h; cases h) (fun e2 h => by rw [hc0] at h; injection h with h; subst h; exact ⟨rfl, rfl, f3⟩) (fun n k h => by rw [hc0] at h; cases h))
    have he := cnt_err hc0
    subst f1 f2
    have t1 : F .cmp .neq c2 0 = true := by rw [neF hF, f3]; simp; omega
    clear hmore hok herr f3
    cbv
    refine ⟨_, hcn, ?_⟩
    cbv
    refine bT (t1) ?_
    cbv
    simp
  | ok N k0 =>
    have hk0 := cnt_le hc0
    rw [List.length_drop] at hk0
    have hhi0 := cnt_hi hc0
    obtain ⟨N', hN'⟩ : ∃ N' : Int, N' = (N : Int) := ⟨_, rfl⟩
    obtain ⟨p0, hp0⟩ : ∃ p0 : Nat, p0 = a + k0 := ⟨_, rfl⟩
    obtain ⟨p0', hp0'⟩ : ∃ p0' : Int, p0' = (p0 : Int) := ⟨_, rfl⟩
    have hcn := hC _ _ _ (rcount_ok s l hs hl a a' ha hle 42 1 8 42 1 8 rfl rfl rfl N' p0' 0 (fun h => by rw [hc0] at h; cases h) (fun e2 h => by rw [hc0] at h; cases h) (fun n k h => by rw [hc0] at h; injection h with h1 h2; subst h1 h2; exact ⟨hN', by rw [hp0', hp0], rfl⟩))
    rw [hc0] at hmore herr hok
    simp only at hmore herr hok
    rw [List.drop_drop, ← hp0] at hmore herr hok
    obtain ⟨RES, hRES⟩ : ∃ r, argsR N (l.drop p0) = r := ⟨_, rfl⟩
    rw [hRES] at hmore herr hok
    have hmore : RES = .more → tsR = [] ∧ a2 = 0 ∧ c2 = 1 := fun h => hmore (by rw [h])
    have herr : ∀ e, RES = .err e → tsR = [] ∧ a2 = 0 ∧ c2 = (e : Int) := fun e h => herr e (by rw [h])
    have hok : ∀ ts k2, RES = .ok ts k2 → tsR = sR ts ∧ a2 = ((a + (k0 + k2) : Nat) : Int) ∧ c2 = 0 := fun ts k2 h => hok ts (k0 + k2) (by rw [h])
    have t0 : F .cmp .neq 0 0 = false := by rw [neF hF]; rfl
    cbv
    refine ⟨_, hcn, ?_⟩
    cbv
    refine bF (t0) ?_
    cbv
    refine ⟨Nat × Int × Nat × Int × List (List UInt8) × List (List AV), fun x => { slots := [(10, aI x.2.1), (9, .own 0 0), (7, aI N'), (1, aI x.2.2.2.1), (0, aS s)], obs := [(0, .row 9 1 x.2.2.2.2.2 0 0)], ctr := 1 },
      fun x => x.2.1 = (x.1 : Int) ∧ x.1 ≤ N ∧ x.2.2.2.1 = (x.2.2.1 : Int) ∧ x.2.2.1 ≤ l.length ∧ x.2.2.2.2.2 = sR x.2.2.2.2.1 ∧ x.2.2.2.2.1.length = x.1 ∧ p0 ≤ x.2.2.1 ∧ glue x.2.2.2.2.1 (x.2.2.1 - p0) (argsR (N - x.1) (l.drop x.2.2.1)) = RES,
      fun x => N - x.1, ⟨(0, 0, p0, p0', [], []), ⟨rfl, Nat.zero_le _, hp0', by simp only; omega, rfl, rfl, Nat.le_refl _, by simp only [Nat.sub_zero]; rw [hRES, Nat.sub_self]; cases RES <;> simp [glue]⟩, Le.trans (le_nil 9 9 1 (by rfl) (by rfl)) (le_of [] (by simp [leSl, leOb, injK, memK, parK, noTup, lk, rn0, rnA, plain] <;> first | rfl | decide))⟩, fun x hx => ?_⟩
    obtain ⟨i, i', p, p', o, oR⟩ := x
    obtain ⟨ei, hi, ep, hp, eoR, hol, hpp, hrec⟩ := hx
    simp only at ei hi ep hp eoR hol hpp hrec
    have esn : sn = (l.length : Int) := esn
    have hs : l = L s := hs
    have hN' : N' = (N : Int) := hN'
    have tl := ltF hF i N i' N' ei hN'
    obtain ⟨i2, hi2⟩ : ∃ i2, F .ar .add .i64 i' 1 = i2 := ⟨_, rfl⟩
    have ei2 : i2 = ((i + 1 : Nat) : Int) := hi2.symm.trans (incF hF ei (by omega))
    by_cases hiN : i < N
    · have tl : F .cmp .lss i' N' = true := tl.2 hiN
      obtain ⟨m, hm⟩ : ∃ m, N - i = m + 1 := ⟨N - i - 1, by omega⟩
      rw [hm] at hrec
      simp only [argsR] at hrec
      cases hc1 : cnt (l.drop p) 36 0 64 with
      | more =>
        have hcn2 := hC _ _ _ (rcount_ok s l hs hl p p' ep hp 36 0 64 36 0 64 rfl rfl rfl 0 0 1 (fun _ => ⟨rfl, rfl, rfl⟩) (fun e h => by rw [hc1] at h; cases h) (fun n k h => by rw [hc1] at h; cases h))
        rw [hc1] at hrec
        rw [← hrec] at hmore
        obtain ⟨f1, f2, f3⟩ := hmore rfl
        subst f1 f2 f3
        have t1 : F .cmp .neq 1 0 = true := by rw [neF hF]; rfl
        clear herr hok
        cbv
        refine bT (tl) ?_
        cbv
        refine ⟨_, hcn2, ?_⟩
        cbv
        refine bT (t1) ?_
        cbv
        simp
      | err e =>
        rw [hc1] at hrec
        rw [← hrec] at herr
        obtain ⟨f1, f2, f3⟩ := herr e rfl
        have hcn2 := hC _ _ _ (rcount_ok s l hs hl p p' ep hp 36 0 64 36 0 64 rfl rfl rfl 0 0 c2 (fun h => by rw [hc1] at h; cases h) (fun e2 h => by rw [hc1] at h; injection h with h; subst h; exact ⟨rfl, rfl, f3⟩) (fun n k h => by rw [hc1] at h; cases h))
        have he := cnt_err hc1
        subst f1 f2
        have t1 : F .cmp .neq c2 0 = true := by rw [neF hF, f3]; simp; omega
        clear hmore hok herr f3
        cbv
        refine bT (tl) ?_
        cbv
        refine ⟨_, hcn2, ?_⟩
        cbv
        refine bT (t1) ?_
        cbv
        simp
      | ok n k =>
        have hk := cnt_le hc1
        rw [List.length_drop] at hk
        have hhi1 := cnt_hi hc1
        obtain ⟨n', hn'⟩ : ∃ n' : Int, n' = (n : Int) := ⟨_, rfl⟩
        obtain ⟨q, hq⟩ : ∃ q : Nat, q = p + k := ⟨_, rfl⟩
        obtain ⟨q', hq'⟩ : ∃ q' : Int, q' = (q : Int) := ⟨_, rfl⟩
        have hcn2 := hC _ _ _ (rcount_ok s l hs hl p p' ep hp 36 0 64 36 0 64 rfl rfl rfl n' q' 0 (fun h => by rw [hc1] at h; cases h) (fun e2 h => by rw [hc1] at h; cases h) (fun n2 k2 h => by rw [hc1] at h; injection h with h1 h2; subst h1 h2; exact ⟨hn', by rw [hq', hq], rfl⟩))
        rw [hc1] at hrec
        simp only at hrec
        rw [List.drop_drop, ← hq] at hrec
        have hql : q ≤ l.length := by omega
        obtain ⟨b1, hb1⟩ : ∃ b : Int, F .ar .add .i64 q' n' = b := ⟨_, rfl⟩
        have eb1 : b1 = ((q + n : Nat) : Int) := hb1.symm.trans (addF hF hq' hn' (by omega))
        obtain ⟨b2, hb2⟩ : ∃ b : Int, F .ar .add .i64 b1 2 = b := ⟨_, rfl⟩
        have eb2 : b2 = ((q + n + 2 : Nat) : Int) := hb2.symm.trans (addF hF eb1 (j := 2) rfl (by omega))
        have herr3 : txt (l.drop q) n = .err 3 → tsR = [] ∧ a2 = 0 ∧ c2 = 3 := fun h => by
          rw [h] at hrec
          simp only [glue] at hrec
          exact herr 3 hrec.symm
        have hmore3 : txt (l.drop q) n = .more → tsR = [] ∧ a2 = 0 ∧ c2 = 1 := fun h => by
          rw [h] at hrec
          simp only [glue] at hrec
          exact hmore hrec.symm
        cbv
        refine bT (tl) ?_
        cbv
        refine ⟨_, hcn2, ?_⟩
        cbv
        refine bF (t0) ?_
        cbv
        rw [hb1]
        refine ⟨Nat × Int, fun x => { slots := [(14, aI x.2), (12, aI q'), (11, aI n'), (10, aI i'), (9, .own 0 0), (7, aI N'), (0, aS s)], obs := [(0, .row 9 1 oR 0 0)], ctr := 1 }, fun x => x.2 = ((q + n + x.1 : Nat) : Int) ∧ x.1 ≤ 2 ∧ (1 ≤ x.1 → ∃ c, l[q + n]? = some c ∧ c.toNat = 13) ∧ (2 ≤ x.1 → ∃ d, l[q + n + 1]? = some d ∧ d.toNat = 10), fun x => 2 - x.1, ⟨(0, b1), ⟨eb1, by omega, fun h => by simp at h, fun h => by simp at h⟩, (le_of [] (by simp [leSl, leOb, injK, memK, parK, noTup, lk, rn0, rnA, plain] <;> first | rfl | decide))⟩, fun x hx => ?_⟩
        obtain ⟨j, e'⟩ := x
        obtain ⟨ee, hj, hj1, hj2⟩ := hx
        simp only at ee hj hj1 hj2
        have u1 : F .cmp .lss e' b2 = decide (j < 2) := by rw [lsF hF, ee, eb2]; congr 1; exact propext ⟨fun h => by have := Int.ofNat_lt.1 h; omega, fun h => Int.ofNat_lt.2 (by omega)⟩
        have u2 : F .cmp .lss e' sn = decide (q + n + j < l.length) := by rw [lsF hF, ee, esn]; congr 1; exact propext ⟨fun h => Int.ofNat_lt.1 h, fun h => Int.ofNat_lt.2 h⟩
        obtain ⟨b3, hb3⟩ : ∃ b : Int, F .ar .add .i64 n' 2 = b := ⟨_, rfl⟩
        have eb3 : b3 = ((n + 2 : Nat) : Int) := hb3.symm.trans (addF hF hn' (j := 2) rfl (by omega))
        have u3 : F .cmp .lss (F .ar .sub .i64 sn q') b3 = decide (l.length - q < n + 2) := by rw [lsF hF, subF hF esn hq' (by omega) (by omega), eb3]; congr 1; exact propext ⟨fun h => Int.ofNat_lt.1 h, fun h => Int.ofNat_lt.2 h⟩
        by_cases hj3 : j < 2
        · have u1 : F .cmp .lss e' b2 = true := by rw [u1]; simp [hj3]
          by_cases hin : q + n + j < l.length
          · have u2 : F .cmp .lss e' sn = true := by rw [u2]; simp [hin]
            obtain ⟨c, hc⟩ : ∃ c, l[q + n + j]? = some c := ⟨_, List.getElem?_eq_getElem hin⟩
            obtain ⟨bb, hbb⟩ : ∃ b : Int, F .bt s e' = b := ⟨_, rfl⟩
            have hs : l = L s := hs
            have ebb : bb = (c.toNat : Int) := by rw [← hbb, ee]; exact btF hF (by rw [← hs]; exact hc)
            have hlo0 : 0 ≤ e' := by rw [ee]; omega
            have hlo1 : e' < F .slen s := by rw [hsn, ee, esn]; exact Int.ofNat_lt.2 hin
            obtain ⟨z1, hz1⟩ : ∃ b : Int, F .ar .sub .i64 e' q' = b := ⟨_, rfl⟩
            have ez1 : z1 = ((n + j : Nat) : Int) := by rw [← hz1, subF hF ee hq' (by omega) (by omega)]; congr 1; omega
            obtain ⟨z2, hz2⟩ : ∃ b : Int, F .ar .sub .i64 z1 n' = b := ⟨_, rfl⟩
            have ez2 : z2 = ((j : Nat) : Int) := by rw [← hz2, subF hF ez1 hn' (by omega) (by omega)]; congr 1; omega
            have hz0 : 0 ≤ z2 := by rw [ez2]; omega
            have hzl : z2 < F .slen (BA [13, 10]) := by rw [slenF hF, sz2, ez2]; omega
            obtain ⟨cr, hcr⟩ : ∃ b : Int, F .bt (BA [13, 10]) z2 = b := ⟨_, rfl⟩
            have ecr : cr = if j = 0 then 13 else 10 := by
              rw [← hcr, ez2]
              by_cases h0 : j = 0
              · rw [if_pos h0, h0]; exact btF hF (b := 13) rfl
              · rw [if_neg h0, show j = 1 by omega]; exact btF hF (b := 10) rfl
            obtain ⟨e2, he2⟩ : ∃ b : Int, F .ar .add .i64 e' 1 = b := ⟨_, rfl⟩
            have ee2 : e2 = ((q + n + (j + 1) : Nat) : Int) := by rw [← he2, incF hF ee (by omega)]; rfl
            have u4 := neF hF bb cr
            unfold BA at hzl hcr
            by_cases hm4 : bb = cr
            · have u4 : F .cmp .neq bb cr = false := by rw [u4]; simp [hm4]
              have hn1 : 1 ≤ j + 1 → ∃ c, l[q + n]? = some c ∧ c.toNat = 13 := fun _ => by
                by_cases h0 : j = 0
                · refine ⟨c, by rw [← hc, h0]; rfl, ?_⟩
                  rw [ebb, ecr, if_pos h0] at hm4
                  exact Int.ofNat.inj hm4
                · exact hj1 (by omega)
              have hn2 : 2 ≤ j + 1 → ∃ d, l[q + n + 1]? = some d ∧ d.toNat = 10 := fun _ => by
                have h1 : j = 1 := by omega
                refine ⟨c, by rw [← hc, h1], ?_⟩
                rw [ebb, ecr, if_neg (ar3 h1)] at hm4
                exact Int.ofNat.inj hm4
              cbv
              rw [hb1, hb2]
              refine bT (u1) ?_
              cbv
              rw [hsn]
              refine bT (u2) ?_
              cbv
              refine ⟨hC _ _ _ (ben_ok (by kernel_rfl)), ?_⟩
              cbv
              refine ⟨hlo0, hlo1, ?_⟩
              cbv
              rw [hbb, hz1, hz2]
              refine ⟨hz0, hzl, ?_⟩
              cbv
              rw [hcr]
              refine bF (u4) ?_
              cbv
              rw [he2]
              exact ⟨(j + 1, e2), ⟨ee2, by simp only; omega, hn1, hn2⟩, (show 2 - (j + 1) < 2 - j by omega), (le_of [] (by simp [leSl, leOb, injK, memK, parK, noTup, lk, rn0, rnA, plain] <;> first | rfl | decide))⟩
            · have u4 : F .cmp .neq bb cr = true := by rw [u4]; simp [hm4]
              have ht : txt (l.drop q) n = .err 3 := by
                by_cases h0 : j = 0
                · subst h0
                  refine txt_e1 hc ?_
                  intro h13
                  rw [ebb, ecr, if_pos rfl] at hm4
                  exact hm4 (by rw [h13]; rfl)
                · have h1 : j = 1 := by omega
                  subst h1
                  obtain ⟨c1, h1, h2⟩ := hj1 (by omega)
                  refine txt_e2 h1 h2 hc ?_
                  intro h10
                  rw [ebb, ecr, if_neg h0] at hm4
                  exact hm4 (by rw [h10]; rfl)
              obtain ⟨f1, f2, f3⟩ := herr3 ht
              subst f1 f2 f3
              clear hmore herr hok hrec herr3 hmore3
              cbv
              rw [hb1, hb2]
              refine bT (u1) ?_
              cbv
              rw [hsn]
              refine bT (u2) ?_
              cbv
              refine ⟨hC _ _ _ (ben_ok (by kernel_rfl)), ?_⟩
              cbv
              refine ⟨hlo0, hlo1, ?_⟩
              cbv
              rw [hbb, hz1, hz2]
              refine ⟨hz0, hzl, ?_⟩
              cbv
              rw [hcr]
              refine bT (u4) ?_
              cbv
              simp
          · have u2 : F .cmp .lss e' sn = false := by rw [u2]; simp [hin]
            have u3 : F .cmp .lss (F .ar .sub .i64 sn q') b3 = true := by rw [u3]; exact decide_eq_true (ar2 hin hj3)
            have ht : txt (l.drop q) n = .more := by
              refine txt_m hql (by omega) fun c hc => ?_
              by_cases h0 : j = 0
              · have := (List.getElem?_eq_some_iff.1 hc).1; omega
              · obtain ⟨c1, h1, h2⟩ := hj1 (by omega)
                rw [hc] at h1; injection h1 with h1; rw [h1]; exact h2
            obtain ⟨f1, f2, f3⟩ := hmore3 ht
            subst f1 f2 f3
            clear hmore herr hok hrec herr3 hmore3
            cbv
            rw [hb1, hb2]
            refine bT (u1) ?_
            cbv
            rw [hsn]
            refine bF (u2) ?_
            cbv
            rw [hsn, hb3]
            refine bT (u3) ?_
            cbv
            simp
        · have u1 : F .cmp .lss e' b2 = false := by rw [u1]; simp [hj3]
          obtain ⟨c, hc1', hc2'⟩ := hj1 (by omega)
          obtain ⟨d, hd1, hd2⟩ := hj2 (by omega)
          have hlend := (List.getElem?_eq_some_iff.1 hd1).1
          have u3 : F .cmp .lss (F .ar .sub .i64 sn q') b3 = false := by rw [u3]; exact decide_eq_false (ar1 hlend)
          have ht := txt_ok hc1' hc2' hd1 hd2
          obtain ⟨t, ht2⟩ : ∃ t, t = (l.drop q).take n := ⟨_, rfl⟩
          rw [← ht2] at ht
          rw [ht] at hrec
          simp only [List.drop_drop] at hrec
          rw [show p + (k + (n + 2)) = q + n + 2 by omega] at hrec
          obtain ⟨xs, hxs⟩ : ∃ xs, xs = s.extract q (q + n) := ⟨_, rfl⟩
          have hs2 : l = L s := hs
          have hxt : xs = BA t := by rw [hxs, ht2, ← BA_L (s.extract q (q + n)), L_extract, ← hs2, show q + n - q = n by omega]
          obtain ⟨o2, ho2⟩ : ∃ o2, F .app oR [[aS xs]] = o2 := ⟨_, rfl⟩
          have eo2 : o2 = sR (o ++ [t]) := by rw [← ho2, hF, eoR, hxt]; simp [sy, sR]
          have hrm : (F .len oR + F .len [[aS xs]]) * 16 ≤ 140737488355328 := by rw [lenF hF, lenF hF, eoR, sR_len, hol]; simp; omega
          have hel : ∀ r ∈ [[aS xs]], r.length = 1 := fun r h => by rw [List.mem_singleton.1 h]; rfl
          have hrec2 : glue (o ++ [t]) (q + n + 2 - p0) (argsR (N - (i + 1)) (l.drop (q + n + 2))) = RES := by
            rw [← hrec, ar6 hm]
            cases argsR m (l.drop (q + n + 2)) with
            | more => rfl
            | err e => rfl
            | ok ts k3 => simp only [glue, List.append_assoc, List.singleton_append]; congr 1; exact ar7 hq hpp
          have hqq : q' = (q : Int) := hq'
          cbv
          rw [hb1, hb2]
          refine bF (u1) ?_
          cbv
          rw [hsn, hb3]
          refine bF (u3) ?_
          cbv
          rw [hb1]
          refine ⟨q, q + n, by rw [hqq]; rfl, by rw [eb1]; rfl, by omega, by rw [hsn, esn]; exact Int.ofNat_le.2 (by omega), xs, hxs, ?_⟩
          cbv
          refine ⟨hel, hrm, ?_⟩
          cbv
          rw [ho2, hi2, hb1, hb2]
          exact ⟨(i + 1, i2, q + n + 2, b2, o ++ [t], o2), ⟨ei2, hiN, eb2, by simp only; omega, eo2, by simp [hol], by simp only; omega, hrec2⟩, (show N - (i + 1) < N - i by omega), (le_of [(0, 1)] (by simp [leSl, leOb, injK, memK, parK, noTup, lk, rn0, rnA, plain] <;> first | rfl | decide))⟩
    · have tl : F .cmp .lss i' N' = false := by cases h : F .cmp .lss i' N' with | true => exact absurd (tl.1 h) hiN | false => rfl
      rw [show N - i = 0 by omega] at hrec
      simp only [argsR, glue, List.append_nil] at hrec
      obtain ⟨f1, f2, f3⟩ := hok _ _ hrec.symm
      have g1 : tsR = oR := by rw [f1, eoR]
      have g2 : p' = a2 := by rw [f2, ep]; congr 1; omega
      subst g1 g2 f3
      clear hmore herr hok hrec f1 f2
      cbv
      refine bF (tl) ?_
      cbv
      refine ⟨_, le_frz _ [.tmp 9], hD _ _ _ ?_⟩
      cbv
      simp
end Go.Proofs.YtfphhpabfeepmaaDoor
