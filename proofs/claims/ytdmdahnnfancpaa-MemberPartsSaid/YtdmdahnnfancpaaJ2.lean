import Derived.Test.YtdmdahnnfancpaaJ1
set_option linter.unusedSimpArgs false
set_option linter.unusedVariables false
namespace Go.Proofs.Ytdmdahnnfancpaa
open Go Go.RowKit Am

/-! ### member.Has -/
def telB (e : Ev) (s : ByteArray) : Bool := decide (e.op.kind = 3) && decide (e.op.fld = s)
theorem tellsM_ok (e : Ev) (s : ByteArray) (r : Bool) (hr : r = telB e s) : CSem Try.prog (.fn 55) [aE e, aS s] (.pure [aB r]) := by
  refine of_text gam_ok mixed { n := 16 } Try.func55 (by kernel_rfl) rfl rfl (by simp) (by decide) fun F C D hF hC hD => ?_
  have t1 : F .cmp .eql e.op.kind 3 = decide (e.op.kind = 3) := eqF hF _ _
  have t2 : F .scmp .eql e.op.fld s = decide (e.op.fld = s) := seqF hF _ _
  unfold telB at hr
  by_cases h1 : e.op.kind = 3
  · rw [decide_eq_true h1] at hr t1
    rw [Bool.true_and] at hr
    rw [← hr] at t2
    clear hr
    cbv
    refine bT (t1) ?_
    cbv
    have t2 : F .scmp .eql e.4.3 s = r := t2
    rw [t2]
    try simp
  · rw [decide_eq_false h1] at hr t1
    rw [Bool.false_and] at hr
    subst hr
    clear t2
    cbv
    refine bF (t1) ?_
    cbv
    try simp
theorem has1_ok (e : Ev) (s : ByteArray) (r : Bool) (hr : r = telB e s) : CSem Try.prog (.fn 61) [aE e, .ept [aS s] 0] (.pure [aB r]) := by
  refine of_text gam_ok mixed { n := 7 } Try.func61 (by kernel_rfl) rfl rfl (by simp) (by decide) fun F C D hF hC hD => ?_
  have h := hC _ _ _ (tellsM_ok e s r hr)
  clear hr
  cbv
  refine ⟨_, h, ?_⟩
  cbv
  try simp
def hasB (l : List Ev) (s : ByteArray) : Bool := l.any fun e => telB e s
theorem idxM_ok (l : List Ev) (hl : l.length ≤ 1000000) (rows : List (List AV)) (hrows : rows = evR l) (s : ByteArray) : ∃ r : Int, CSem Try.prog (.fn 75) [.sl rows, .clo 61 [.ept [aS s] 0]] (.pure [aI r]) ∧ (decide (r ≥ 0) = hasB l s) := by
  obtain ⟨r, hr1, hr2, hrh⟩ : ∃ r : Int, (∀ (i : Nat) (e : Ev), l[i]? = some e → telB e s = true → (∀ (j : Nat) (e' : Ev), j < i → l[j]? = some e' → telB e' s = false) → r = (i : Int)) ∧ ((∀ e ∈ l, telB e s = false) → r = -1) ∧ decide (r ≥ 0) = hasB l s := by
    unfold hasB
    cases h : l.findIdx? fun e => telB e s with
    | none =>
      have h1 := List.findIdx?_eq_none_iff.1 h
      refine ⟨-1, fun i e he ht _ => ?_, fun _ => rfl, ?_⟩
      · have := h1 e (List.mem_of_getElem? he); rw [ht] at this; cases this
      · rw [show decide ((-1 : Int) ≥ 0) = false from rfl]
        symm
        rw [List.any_eq_false]
        exact fun e he => by rw [h1 e he]; simp
    | some i =>
      obtain ⟨g1, g2, g3⟩ := List.findIdx?_eq_some_iff_getElem.1 h
      refine ⟨(i : Int), fun j e he ht hn => ?_, fun hn => ?_, ?_⟩
      · rcases Nat.lt_trichotomy i j with hij | hij | hij
        · have := hn i _ hij (List.getElem?_eq_getElem g1); rw [g2] at this; cases this
        · rw [hij]
        · have h3 := g3 j hij
          obtain ⟨u1, u2⟩ := List.getElem?_eq_some_iff.1 he
          rw [u2, ht] at h3
          simp at h3
      · have := hn _ (List.getElem_mem g1); rw [g2] at this; cases this
      · rw [decide_eq_true (by omega : (i : Int) ≥ 0)]
        symm
        rw [List.any_eq_true]
        exact ⟨_, List.getElem_mem g1, g2⟩
  refine ⟨r, ?_, hrh⟩
  clear hrh
  refine of_text gam_ok mixed { n := 19 } Try.func75 (by kernel_rfl) rfl rfl (by simp) (by decide) fun F C D hF hC hD => ?_
  obtain ⟨n', hn'⟩ : ∃ n' : Int, F .len rows = n' := ⟨_, rfl⟩
  have en : n' = (l.length : Int) := by rw [← hn', lenF hF, hrows, evR_len]
  cbv
  rw [hn']
  refine ⟨Nat × Int, fun x => { slots := [(8, aI x.2), (7, aI n'), (4, aI 0), (1, .clo 61 [.ept [aS s] 0]), (0, .sl rows)], obs := [], ctr := 0 }, fun x => x.2 = (x.1 : Int) ∧ x.1 ≤ l.length ∧ ∀ j e, j < x.1 → l[j]? = some e → telB e s = false, fun x => l.length - x.1, ⟨(0, 0), ⟨rfl, Nat.zero_le _, fun j p h => absurd h (Nat.not_lt_zero _)⟩, (le_of [] (by simp [leSl, leOb, injK, memK, parK, noTup, lk, rn0, rnA, plain] <;> first | rfl | decide))⟩, fun x hx => ?_⟩
  obtain ⟨i, i'⟩ := x
  obtain ⟨ei, hi, hno⟩ := hx
  simp only at ei hi hno
  have en : n' = (l.length : Int) := en
  have tlI := ltF hF i l.length i' n' ei en
  obtain ⟨i2, hi2⟩ : ∃ i2, F .ar .add .i64 i' 1 = i2 := ⟨_, rfl⟩
  have ei2 : i2 = ((i + 1 : Nat) : Int) := hi2.symm.trans (incF hF ei (by omega))
  by_cases hil : i < l.length
  · have tl : F .cmp .lss i' n' = true := tlI.2 hil
    obtain ⟨e, he⟩ : ∃ s, l[i]? = some s := ⟨_, List.getElem?_eq_getElem hil⟩
    have hrow : rows[i]? = some e.ac := by rw [hrows]; exact evR_get he
    have hmu : l.length - (i + 1) < l.length - i := by omega
    obtain ⟨q, hq⟩ : ∃ q, q = telB e s := ⟨_, rfl⟩
    have hc := hC _ _ _ (has1_ok e s q hq)
    cases q with
    | true =>
      have hr : r = i' := by rw [ei]; exact hr1 i e he hq.symm hno
      subst hr
      clear hr1 hr2 hno tlI hq
      cbv
      refine bT (tl) ?_
      cbv
      refine ⟨i, _, ei, hrow, rfl, ?_⟩
      cbv
      refine ⟨_, hc, ?_⟩
      cbv
      refine bT (rfl) ?_
      cbv
      try simp
    | false =>
      have hno2 : ∀ j e, j < i + 1 → l[j]? = some e → telB e s = false := fun j e' hj h => by
        by_cases hji : j < i
        · exact hno j e' hji h
        · have : j = i := by omega
          rw [this, he] at h; injection h with h; rw [← h]; exact hq.symm
      clear hr1 hr2 hno tlI hq
      cbv
      refine bT (tl) ?_
      cbv
      refine ⟨i, _, ei, hrow, rfl, ?_⟩
      cbv
      refine ⟨_, hc, ?_⟩
      cbv
      refine bF (rfl) ?_
      cbv
      rw [hi2]
      exact ⟨(i + 1, i2), ⟨ei2, hil, hno2⟩, hmu, (le_of [] (by simp [leSl, leOb, injK, memK, parK, noTup, lk, rn0, rnA, plain] <;> first | rfl | decide))⟩
  · have tl : F .cmp .lss i' n' = false := by cases h : F .cmp .lss i' n' with | true => exact absurd (tlI.1 h) hil | false => rfl
    have hr : r = -1 := hr2 fun e he => by
      obtain ⟨j, hj, hje⟩ := List.getElem_of_mem he
      exact hno j e (by omega) (by rw [List.getElem?_eq_getElem hj, hje])
    subst hr
    clear hr1 hr2 hno tlI
    cbv
    refine bF (tl) ?_
    cbv
    try simp
theorem hasM_ok (l : List Ev) (hl : l.length ≤ 1000000) (rows : List (List AV)) (hrows : rows = evR l) (s : ByteArray) (q : Bool) (hq : q = hasB l s) : CSem Try.prog (.fn 38) [.sl rows, aS s] (.pure [aB q]) := by
  obtain ⟨r, hr, hd⟩ := idxM_ok l hl rows hrows s
  have hcont : CSem Try.prog (.fn 60) [.sl rows, .clo 61 [.ept [aS s] 0]] (.pure [aB q]) := by
    refine of_text gam_ok mixed { n := 9 } Try.func60 (by kernel_rfl) rfl rfl (by simp) (by decide) fun F C D hF hC hD => ?_
    have h := hC _ _ _ hr
    have t1 : F .cmp .geq r 0 = q := by rw [geF hF, hd, hq]
    clear hr hd hq
    cbv
    refine ⟨_, h, ?_⟩
    cbv
    rw [t1]
    try simp
  refine of_text gam_ok mixed { n := 8 } Try.func38 (by kernel_rfl) rfl rfl (by simp) (by decide) fun F C D hF hC hD => ?_
  have h := hC _ _ _ hcont
  clear hcont hr hd hq
  cbv
  refine ⟨_, h, ?_⟩
  cbv
  try simp
def aw1 : Ev := ⟨⟨0, 0⟩, 0, fun _ => 0, ⟨3, BA [], BA [98], BA [], 0, ⟨0, 0⟩⟩⟩
def aw2 : Ev := ⟨⟨0, 0⟩, 0, fun _ => 0, ⟨3, BA [], BA [97], BA [], 0, ⟨0, 0⟩⟩⟩
theorem aw_names : nameF 3 [aw1, aw2] = [[97], [98]] := by
  unfold nameF
  simp [aw1, aw2, kOf, BA]
  decide
theorem aw_has : hasB [aw1, aw2] (BA [97]) = true := by
  unfold hasB telB
  simp [aw1, aw2]
theorem awakeM_ok : CSem Try.prog (.fn 30) [] (.pure [aB true]) := by
  refine of_text gam_ok mixed { n := 15 } Try.func30 (by kernel_rfl) rfl rfl (by simp) (by decide) fun F C D hF hC hD => ?_
  have hz : ∀ e ∈ [aw1, aw2], e.op.fld.size ≤ maxLen := fun e he => by
    simp at he
    rcases he with rfl | rfl <;> decide
  have h1 := hC _ _ _ (memAll_ok [aw1, aw2] (by decide) hz [aw1.ac, aw2.ac] rfl (sR [[97], [98]]) (by rw [aw_names]))
  have h2 := hC _ _ _ (texts_ok [[97], [98]] [[97], [98]] (by decide) (by decide) (sR [[97], [98]]) [[aS (BA [97])], [aS (BA [98])]] rfl rfl true (by simp))
  have h3 := hC _ _ _ (hasM_ok [aw1, aw2] (by decide) [aw1.ac, aw2.ac] rfl (BA [97]) true aw_has.symm)
  obtain ⟨K, hK⟩ : ∃ K, K = sR [[97], [98]] := ⟨_, rfl⟩
  rw [← hK] at h1 h2
  clear hK
  unfold aw1 aw2 Ev.ac BA at h1 h3
  unfold BA at h2
  cbv
  refine ⟨_, h1, ?_⟩
  cbv
  refine ⟨_, h2, ?_⟩
  cbv
  refine bT (rfl) ?_
  cbv
  refine ⟨_, h3, ?_⟩
  cbv
  try simp
end Go.Proofs.Ytdmdahnnfancpaa
