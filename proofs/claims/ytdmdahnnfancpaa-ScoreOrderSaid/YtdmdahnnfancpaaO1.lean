import Derived.Test.YtdmdahnnfancpaaN4
set_option linter.unusedSimpArgs false
set_option linter.unusedVariables false
namespace Go.Proofs.Ytdmdahnnfancpaa
open Go Go.RowKit Am

/-! ### score.All -/
def prs : List ByteArray → List Ev → List Pr
  | k :: ks, e :: es => ⟨k, e.op.num⟩ :: prs ks es
  | _, _ => []
def allS (l : List Ev) : List Pr := srtP (prs (latS l).1 (latS l).2)
theorem prs_len : ∀ (ks : List ByteArray) (es : List Ev), ks.length = es.length → (prs ks es).length = ks.length
  | [], [], _ => rfl
  | [], _ :: _, h => by simp at h
  | _ :: _, [], h => by simp at h
  | k :: ks, e :: es, h => by simp [prs, prs_len ks es (by simpa using h)]
theorem prs_at : ∀ (ks : List ByteArray) (es : List Ev) (j : Nat) (k : ByteArray) (e : Ev), ks[j]? = some k → es[j]? = some e → (prs ks es)[j]? = some ⟨k, e.op.num⟩
  | [], _, j, k, e, h, _ => by simp at h
  | _ :: _, [], j, k, e, _, h => by simp at h
  | a :: ks, b :: es, 0, k, e, h1, h2 => by simp at h1 h2; subst h1 h2; rfl
  | a :: ks, b :: es, j + 1, k, e, h1, h2 => by
    simp only [prs, List.getElem?_cons_succ]
    exact prs_at ks es j k e (by simpa using h1) (by simpa using h2)
theorem prs_erase : ∀ (ks : List ByteArray) (es : List Ev) (j : Nat), ks.length = es.length → prs (ks.eraseIdx j) (es.eraseIdx j) = (prs ks es).eraseIdx j
  | [], [], j, _ => by simp [prs]
  | [], _ :: _, _, h => by simp at h
  | _ :: _, [], _, h => by simp at h
  | a :: ks, b :: es, 0, _ => rfl
  | a :: ks, b :: es, j + 1, h => by
    simp only [List.eraseIdx_cons_succ, prs]
    rw [prs_erase ks es j (by simpa using h)]
theorem erase_perm {α : Type} : ∀ (l : List α) (j : Nat) (x : α), l[j]? = some x → ([x] ++ l.eraseIdx j).Perm l
  | [], j, x, h => by simp at h
  | a :: l, 0, x, h => by simp at h; subst h; exact List.Perm.refl _
  | a :: l, j + 1, x, h => by
    have := erase_perm l j x (by simpa using h)
    simp only [List.eraseIdx_cons_succ]
    exact (List.Perm.swap a x _).trans (this.cons a)
theorem prs_take {ks : List ByteArray} {es : List Ev} {j : Nat} {k : ByteArray} {e : Ev} {o t : List Pr} (hl : ks.length = es.length) (hk : ks[j]? = some k) (he : es[j]? = some e) (h : (o ++ prs ks es).Perm t) : ((o ++ [(⟨k, e.op.num⟩ : Pr)]) ++ prs (ks.eraseIdx j) (es.eraseIdx j)).Perm t := by
  refine List.Perm.trans ?_ h
  rw [List.append_assoc, prs_erase ks es j hl]
  refine List.Perm.append_left o ?_
  have hp := prs_at ks es j k e hk he
  exact erase_perm _ j _ hp
theorem mputK_len : ∀ (ks : List ByteArray) (s : ByteArray), (mputK ks s).length ≤ ks.length + 1
  | [], s => by simp [mputK]
  | k :: ks, s => by
    unfold mputK
    split
    · simp
    · have := mputK_len ks s; simp; omega
theorem latF_le (m : LM) (e : Ev) : (latF m e).1.length ≤ m.1.length + 1 := by
  unfold latF
  split
  · split
    · exact mputK_len _ _
    · split
      · exact mputK_len _ _
      · omega
  · omega
theorem latS_le (l : List Ev) : (latS l).1.length ≤ l.length := by
  have key : ∀ (l : List Ev) (m : LM), (l.foldl latF m).1.length ≤ m.1.length + l.length := by
    intro l
    induction l with
    | nil => intro m; simp
    | cons e l ih => intro m; rw [List.foldl_cons]; have := ih (latF m e); have := latF_le m e; simp; omega
  have := key l ([], [])
  simpa [latS] using this
theorem latS_len (l : List Ev) : (latS l).1.length = (latS l).2.length := by
  have key : ∀ (l : List Ev) (m : LM), m.1.length = m.2.length → (l.foldl latF m).1.length = (l.foldl latF m).2.length := by
    intro l
    induction l with
    | nil => intro m h; exact h
    | cons e l ih => intro m h; rw [List.foldl_cons]; exact ih _ (latF_len m e h)
  exact key l ([], []) rfl
theorem pR_snoc (o : List Pr) (p : Pr) : pR (o ++ [p]) = pR o ++ [[aS p.m, aI p.n]] := by simp [pR]
abbrev AL := List ByteArray × List Ev × Option (ByteArray × AV) × List Pr × List AV × List (List AV)
set_option maxHeartbeats 4000000 in
theorem all_ok (l : List Ev) (hl : l.length ≤ 1000000) (rows : List (List AV)) (hrows : rows = evR l) (out : List (List AV)) (hout : out = pR (allS l)) : CSem Try.prog (.fn 17) [.sl rows] (.own 41 2 out []) := by
  refine of_text gam_ok mixed { n := 25, keep := [21], wrs := [40] } Try.func17 (by kernel_rfl) rfl rfl (by simp) (by decide) fun F C D hF hC hD => ?_
  obtain ⟨ks0, hks0⟩ : ∃ k, k = (latS l).1 := ⟨_, rfl⟩
  obtain ⟨vs0, hvs0⟩ : ∃ k, k = (latS l).2.map aE := ⟨_, rfl⟩
  have hlat := hC _ _ _ (latest_ok l hl rows hrows ks0 vs0 hks0 hvs0)
  have hle := latS_le l
  have hpl := prs_len (latS l).1 (latS l).2 (latS_len l)
  obtain ⟨T, hT⟩ : ∃ T, T = prs (latS l).1 (latS l).2 := ⟨_, rfl⟩
  rw [← hT] at hpl
  have hout : out = pR (srtP T) := by rw [hout, hT]; rfl
  have hs0 : (latS l).1.length = (latS l).2.length := latS_len l
  cbv
  refine ⟨_, hlat, ?_⟩
  cbv
  refine ⟨AL, fun x => { slots := [(8, .ptr 0 0), (3, .own 1 0)], obs := [(0, .it x.1 x.2.2.2.2.1 x.2.2.1), (1, .row 41 2 x.2.2.2.2.2 0 0)], ctr := 2 }, fun x => x.2.2.2.2.1 = x.2.1.map aE ∧ x.1.length = x.2.1.length ∧ x.2.2.2.2.2 = pR x.2.2.2.1 ∧ (x.2.2.2.1 ++ prs x.1 x.2.1).Perm T, fun x => x.1.length, ⟨(ks0, (latS l).2, none, [], vs0, []), ⟨hvs0, by rw [hks0]; exact hs0, rfl, by rw [hks0, hT]; exact List.Perm.refl _⟩, Le.trans (le_nil 3 41 2 (by rfl) (by rfl)) (le_of [] (by simp [leSl, leOb, injK, memK, parK, noTup, lk, rn0, rnA, plain] <;> first | rfl | decide))⟩, fun x hx => ?_⟩
  obtain ⟨ks, es, cur, o, vs, ow⟩ := x
  obtain ⟨hvs, hlen, how, hperm⟩ := hx
  simp only at hvs hlen how hperm
  have hol : o.length + ks.length = T.length := by rw [← hperm.length_eq, List.length_append, prs_len ks es hlen]
  cbv
  refine ⟨fun h => ?_, fun s v ks' vs' h => ?_⟩
  · obtain ⟨h⟩ := h
    have hT2 : o.Perm T := by
      rw [h] at hperm
      cases es with
      | nil => simpa [prs] using hperm
      | cons _ _ => simpa [prs] using hperm
    have hsrt : srtP T = srtP o := srtP_ext hT2.symm
    rw [hsrt] at hout
    have hso := hC _ _ _ (sortP o (by omega) ow how out hout)
    clear hperm hT2 hsrt
    cbv
    refine ⟨_, _, hso, ?_⟩
    cbv
    try simp
  · obtain ⟨j, h1, h2, h3, h4⟩ := h
    obtain ⟨e, he, rfl⟩ : ∃ e, es[j]? = some e ∧ aE e = v := by
      rw [hvs, List.getElem?_map] at h2
      cases hes : es[j]? with
      | none => rw [hes] at h2; cases h2
      | some e => rw [hes] at h2; injection h2 with h2; exact ⟨e, rfl, h2⟩
    have hperm2 := prs_take hlen h1 he hperm
    have hvs2 : vs' = (es.eraseIdx j).map aE := by rw [h4, hvs, Go.ChangeMaps.map_eraseIdx]
    have hjl : j < ks.length := (List.getElem?_eq_some_iff.1 h1).1
    have hlen2 : ks'.length = (es.eraseIdx j).length := by rw [h3, List.length_eraseIdx, List.length_eraseIdx, hlen]
    have hmu : ks'.length < ks.length := by rw [h3, List.length_eraseIdx, if_pos hjl]; omega
    rw [← h3] at hperm2
    obtain ⟨es', hes'⟩ : ∃ x, x = es.eraseIdx j := ⟨_, rfl⟩
    rw [← hes'] at hperm2 hvs2 hlen2
    obtain ⟨o2, ho2⟩ : ∃ x, x = F .app ow [[aS s, aI e.op.num]] := ⟨_, rfl⟩
    have how2 : o2 = pR (o ++ [⟨s, e.op.num⟩]) := by rw [ho2, pR_snoc, how, hF]; rfl
    have hrm : (F .len ow + F .len [[aS s, aI e.op.num]]) * 24 ≤ 140737488355328 := by rw [lenF hF, lenF hF, how, pR_len]; simp only [List.length_singleton]; omega
    have hel : ∀ r ∈ [[aS s, aI e.op.num]], r.length = 2 := fun r h => by rw [List.mem_singleton.1 h]; rfl
    obtain ⟨p2, hp2⟩ : ∃ x, x = o ++ [(⟨s, e.op.num⟩ : Pr)] := ⟨_, rfl⟩
    rw [← hp2] at how2 hperm2
    clear h1 h2 h3 h4 he hperm hout
    cbv
    refine ⟨hel, hrm, ?_⟩
    cbv
    exact ⟨(ks', es', some (s, aE e), p2, vs', o2), ⟨hvs2, hlen2, how2, hperm2⟩, hmu, le_of [(0, 0), (1, 3)] (by simp [leSl, leOb, injK, memK, parK, noTup, lk, rn0, rnA, plain]; repeat (first | exact ho2.symm | refine And.intro ?_ ?_ | rfl | trivial))⟩
end Go.Proofs.Ytdmdahnnfancpaa
