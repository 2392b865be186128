import Derived.Test.YtdmdahnnfancpaaG5
import Derived.Test.YtdmdahnnfancpaaE0
set_option linter.unusedSimpArgs false
set_option linter.unusedVariables false
namespace Go.Proofs.Ytdmdahnnfancpaa
open Go Go.RowKit Am

theorem fnd_mget {s : ByteArray} : ∀ (ks : List ByteArray) (vs : List AV) (es : List MapEntry) (i j : Nat) (y : Value), es.map (·.key) = ks.map Value.string → vs.length = ks.length → fnd ks es s i = some (j, y) → ∃ n, (∃ e, es[n]? = some e ∧ e.val = y) ∧ mget ks vs s = vs[n]? ∧ n < vs.length
  | [], _, _, _, _, _, _, _, h => by simp [fnd] at h
  | _ :: _, [], _, _, _, _, _, h, _ => by simp at h
  | _ :: _, _ :: _, [], _, _, _, h, _, _ => by cases h
  | k :: ks, v :: vs, e :: es, i, j, y, hk, hl, hf => by
    simp only [List.map_cons, List.cons.injEq] at hk
    unfold fnd at hf
    unfold mget
    by_cases hks : k = s
    · rw [if_pos hks] at hf ⊢
      injection hf with hf
      injection hf with hf1 hf2
      exact ⟨0, ⟨e, rfl, hf2⟩, rfl, by simp⟩
    · rw [if_neg hks] at hf ⊢
      obtain ⟨n, h1, h2, h3⟩ := fnd_mget ks vs es (i + 1) j y hk.2 (by simpa using hl) hf
      exact ⟨n + 1, by simpa using h1, by simpa using h2, by simp; omega⟩
theorem run_loadStr {w : World} {ad : Addr} {s : ByteArray} (h : w.cell? ad = some (.string s)) : (Instr.loadAt 9 (.pointer (some ad))).run Try.prog w = .ok (.string s) w := by
  have h9 := (gam_ok 9 _ rfl).agg
  simp [Instr.loadAt, Instr.sureAddr, loadVar, h9, show ti9.agg = false from rfl, load, Sem.run, h]
theorem run_loadEv {w : World} {ad : Addr} {xs : List Value} (hl : xs.length = 26) (h : ∀ (j : Nat) (x : Value), xs[j]? = some x → w.cell? (ad.add j) = some x) : (Instr.loadAt 35 (.pointer (some ad))).run Try.prog w = .ok (.agg xs.toArray) w := by
  have h9 := (gam_ok 35 _ rfl).agg
  have hs := (gam_ok 35 _ rfl).size
  have h1 := run_loadCells_ok (P := Try.prog) (w := w) (b := ad) (xs := xs) h
  rw [hl] at h1
  simp [Instr.loadAt, Instr.sureAddr, loadVar, h9, hs, show ti35.agg = true from rfl, show ti35.size = 26 from rfl, h1]
theorem cell_same {S : Nat → Prop} {w w' : World} (h : SameOn S w w') {ad : Addr} (ha : S ad.block) (j : Nat) : w'.cell? (ad.add j) = w.cell? (ad.add j) := by
  have hb : (ad.add j).block = ad.block := by unfold Addr.add; split <;> rfl
  exact World.cell?_of_block (by rw [hb]; exact h _ ha)
set_option maxHeartbeats 4000000 in
set_option maxRecDepth 100000 in
/-- The region, whole: the event stands at the end of its field's row. -/
theorem by_whole {id : Nat} {ops : List Oper} {Q : Exit → Act → World → Prop} {a0 : Act} {w : World} (hops : ops.map (fun o => (o.dst, o.op)) = shapeR) (hdep : depsR ops = true) (hty : ∀ o, ops[11]? = some o → o.type = 26) (hz : a0.tmps.size = 31)
    {S U : Nat → Prop} {b : Nat} {ks : List ByteArray} {vs : List AV} {es : Array MapEntry} {clock : Nat} (hgrp : Grp w S U b ks vs es clock) (hS : ∀ g, S g → g < w.heap.size) (hU : ∀ g, w.heap.size ≤ g → U g)
    (h3 : a0.tmps.getD 3 undef = .map (some b)) (e : Ev) (h5 : Rep w S (.ept e.ac 0) (a0.tmps.getD 5 undef)) (rows : List (List AV)) (hm1 : e.op.fld ∈ ks → mget ks vs e.op.fld = some (.sl rows)) (hm2 : e.op.fld ∉ ks → rows = []) (hrl : rows.length ≤ 1000000)
    (hQ : ∀ a' w' es' clock', a'.tmps.size = 31 → a'.defers = a0.defers → (∀ t, t < 10 → a'.tmps.getD t undef = a0.tmps.getD t undef) → Grp w' S U b (mputK ks e.op.fld) (mputV ks vs e.op.fld (.sl (rows ++ [e.ac]))) es' clock' →
      w'.os = w.os → w'.tape = w.tape → w'.output = w.output → w.heap.size ≤ w'.heap.size → (∀ g, g < w.heap.size → ¬ U g → w'.heap[g]? = w.heap[g]?) → SameOn S w w' → Q .normal a' w') : (Code.region id ops.toArray true).wp Try.prog Q a0 w := by
  obtain ⟨W, hW⟩ : ∃ W, W = { w with drawn := w.drawn + 1 } := ⟨_, rfl⟩
  have hheap : W.heap = w.heap := by rw [hW]
  have hgrW : Gr w S W S := ⟨⟨by rw [hW], by rw [hW], by rw [hW], by rw [hheap]; exact Nat.le_refl _, fun k _ => by rw [hheap]⟩, fun _ h => h, fun _ h => .inl h, fun g hg => by rw [hheap]; exact hS g hg⟩
  have hG := hgrp.grow hgrW hS
  have hSW : ∀ g, S g → g < W.heap.size := fun g hg => by rw [hheap]; exact hS g hg
  obtain ⟨s, hs⟩ : ∃ s, s = e.op.fld := ⟨_, rfl⟩
  rw [← hs] at hm1 hm2 hQ
  -- the event's cells
  obtain ⟨ad, h5a, h5S, h5c⟩ : ∃ ad : Addr, a0.tmps.getD 5 undef = .pointer (some (ad.add 0)) ∧ S ad.block ∧ ∀ (j : Nat) (u : AV), e.ac[j]? = some u → ∃ y, W.cell? (ad.add j) = some y ∧ RepC W S u y := by
    have h := h5.mono (hgrW.same hS) (fun _ h => h)
    generalize a0.tmps.getD 5 undef = y at h
    cases h with
    | c h => cases h
    | ept h => exact ⟨_, rfl, h.1, h.2⟩
  obtain ⟨xs, hxr, hxc⟩ := choose_cells (f := fun j => ad.add j) h5c
  have hxl : xs.length = 26 := hxr.1.symm
  have hx21 : W.cell? (ad.add 21) = some (.string s) := by
    obtain ⟨y, hy1, hy2⟩ := h5c 21 (.v (.string s)) (by rw [hs]; rfl)
    cases hy2
    exact hy1
  have hx1 : ∀ x ∈ xs, x.oneCell' = true := fun x hx => by
    obtain ⟨i, hi, rfl⟩ := List.getElem_of_mem hx
    have hi2 : i < e.ac.length := by rw [hxr.1]; exact hi
    exact (hxr.2 i _ _ (List.getElem?_eq_getElem hi2) (List.getElem?_eq_getElem hi)).one
  -- the row that stands in the map
  obtain ⟨v0, hv0⟩ : ∃ v0, v0 = match fnd ks es.toList s 0 with | some (_, y) => y | none => .slice none 0 0 := ⟨_, rfl⟩
  have hmf := fnd_miss (s := s) ks es.toList 0 hG.keys
  have hrow0 : GRow W S U b rows v0 := by
    rw [hv0]
    cases hfd : fnd ks es.toList s 0 with
    | none =>
      rw [hm2 (hmf.1 hfd)]
      exact ⟨⟨[], OwnR.nil _ _ _ _, RepL.nil _ _⟩, fun r h => by simp at h, fun g h => by simp [Value.ownBlock] at h⟩
    | some jy =>
      obtain ⟨j, y⟩ := jy
      have hin : s ∈ ks := by
        by_cases h : s ∈ ks
        · exact h
        · rw [hmf.2 h] at hfd; cases hfd
      obtain ⟨n, ⟨e0, q1, q2⟩, q3, q4⟩ := fnd_mget ks vs es.toList 0 j y hG.keys hG.len hfd
      rw [hm1 hin] at q3
      obtain ⟨r, g1, g2⟩ := hG.rows n _ e0 q3.symm q1
      injection g1 with g1
      subst g1
      simp only
      rw [← q2]
      exact g2
  obtain ⟨xs0, o1, o2⟩ := hrow0.ex
  -- the literal
  obtain ⟨W1, hW1⟩ : ∃ W1, W1 = W.alloc (.cells xs.toArray 35 (0, 0)) := ⟨_, rfl⟩
  have hsz1 : W1.heap.size = W.heap.size + 1 := by rw [hW1]; simp
  have hold1 : ∀ g, g < W.heap.size → W1.heap[g]? = W.heap[g]? := fun g hg => by rw [hW1]; exact ((Below.refl W.heap.size W).alloc (Nat.le_refl _) _).block g hg
  have hnew1 : W1.heap[W.heap.size]? = some (.cells xs.toArray 35 (0, 0)) := by rw [hW1]; exact heap_alloc_new W _
  have hS1 : SameOn S W W1 := fun g hg => hold1 g (hSW g hg)
  -- the append
  have hk26 := (gam_ok 26 _ rfl).kind
  obtain ⟨hu, ⟨hpos, hposb⟩, inf, z, hinf, hz', hsz, hby, hzs⟩ := hk26
  have o1' : OwnR W1 0 35 26 v0 rows.length xs0 := OwnR.keep o1 fun g hg => hold1 g (hrow0.lt g hg)
  obtain ⟨v', W2, hrun, hown, hgrow, hblk⟩ := run_append_at (P := Try.prog) W1 26 26 35 inf z 26 232 hu hinf hz' hsz hby hzs hpos v0 rows.length xs0 o1' ⟨W.heap.size, 0, none⟩ 1 1 xs (by rw [hxl]) (fun j u hu => by rw [add_mk, cell_of_row W1 _ _ _ _ _ hnew1]; simpa using hu) hx1 (by unfold maxLen; omega) (by omega)
  have hold2 : ∀ g, g < W.heap.size → v0.ownBlock ≠ some g → W2.heap[g]? = W.heap[g]? := fun g hg hne => (hgrow.block g (by omega) (fun h => hne h.symm)).trans (hold1 g hg)
  have hS2 : SameOn S W W2 := fun g hg => hold2 g (hSW g hg) fun h => (hrow0.blk g h).1 hg
  have hrow2 : GRow W2 S U b (rows ++ [e.ac]) v' := by
    refine ⟨⟨xs0 ++ xs, by rw [List.length_append]; exact hown, ?_⟩, fun r hr => ?_, fun g hg => ?_⟩
    · rw [List.flatten_append]
      refine (o2.mono hS2 fun _ h => h).append ?_
      simp only [List.flatten_cons, List.flatten_nil, List.append_nil]
      exact hxr.mono hS2 fun _ h => h
    · rcases List.mem_append.1 hr with h | h
      · exact hrow0.len r h
      · rw [List.mem_singleton.1 h]; rfl
    · rcases hblk with h | h
      · rw [h] at hg; exact hrow0.blk g hg
      · rw [h] at hg
        injection hg with hg
        have hbl : b < W.heap.size := (Array.getElem?_eq_some_iff.1 hG.at').1
        exact ⟨fun hs => by have := hSW g hs; omega, by omega, hU g (by rw [← hheap]; omega)⟩
  -- the store into the map
  obtain ⟨hu75, hk75⟩ := (gam_ok 75 _ rfl).kind
  obtain ⟨es', clock', hup, hG3⟩ := hG.put hSW hu75 hk75 s v0 v' (rows ++ [e.ac]) hv0 hrow2 hold2 (by
    rcases hblk with h | h
    · exact .inl h
    · exact .inr fun g hg => by rw [h] at hg; injection hg with hg; omega)
  have hbl : b < W.heap.size := (Array.getElem?_eq_some_iff.1 hG.at').1
  have f35 := (gam_ok 35 _ rfl).offs 3 19 _ rfl
  have f31 := (gam_ok 31 _ rfl).offs 2 2 _ rfl
  have hcs : ∀ w', w' = W ∨ w' = W1 ∨ w' = W2 → SameOn S W w' := fun w' h => by
    rcases h with rfl | rfl | rfl
    · exact fun _ _ => rfl
    · exact hS1
    · exact hS2
  refine by_region hops hdep (fun i => match i with | 0 => .map (some b) | 1 => .pointer (some ((ad.add 0).add 19)) | 2 => .pointer (some (((ad.add 0).add 19).add 2)) | 3 => .string s | 4 => .map (some b) | 5 => .pointer (some ((ad.add 0).add 19)) | 6 => .pointer (some (((ad.add 0).add 19).add 2)) | 7 => .string s | 8 => v0 | 9 => .agg xs.toArray | 10 => .slice (some ⟨W.heap.size, 0, none⟩) 1 1 | _ => v') W W1 W2 _ hW hz h3 h5a ⟨rfl, rfl, rfl, rfl, rfl⟩ (fun w' => f35 _ w') (fun w' => f31 _ w') (fun w' h => ?_) (fun w' h => ?_) (fun w' h => ?_) (fun a o hop ha => ?_) hty hrun hup (fun a' q1 q2 q3 => ?_)
  · refine run_loadStr ?_
    rw [add_add, add_add, cell_same (hcs w' h) h5S]
    exact hx21
  · have hbat : w'.heap[b]? = some (.map es clock) := by
      rcases h with rfl | rfl
      · exact hG.at'
      · exact (hold1 b hbl).trans hG.at'
    have hg := getObj_map (P := Try.prog) hbat
    have hf := findKey_str (P := Try.prog) hk75 s ks es.toList hG.keys w'
    have hzv : (zeroValue 26).run Try.prog w' = .ok (.slice none 0 0) w' := by kernel_rfl
    show (Instr.lookup 75 (.map (some b)) (.string s) false).run Try.prog w' = .ok v0 w'
    cases hfd : fnd ks es.toList s 0 with
    | none =>
      rw [hfd] at hv0
      rw [hv0]
      simp [Instr.lookup, run_underlying hu75, hg, checkKey_str _ 9999 hk75, hf, hfd, hzv]
    | some jy =>
      obtain ⟨j, y⟩ := jy
      rw [hfd] at hv0
      rw [hv0]
      simp [Instr.lookup, run_underlying hu75, hg, checkKey_str _ 9999 hk75, hf, hfd, hzv]
  · refine run_loadEv hxl fun j x hx => ?_
    rw [add_add, cell_same (hcs w' h) h5S, Nat.zero_add]
    exact hxc j x hx
  · have hev : ∀ o' ∈ (Op.buildSlice 26 1 #[(0, .tmp 26)]).operands, ∀ u, (fun o' : Operand => match o' with | .tmp 26 => some (AV.agg (xs.map AV.v)) | _ => none) o' = some u → SRep W S (fun _ => .bool true) [] u (a.eval o') := fun o' ho' u hu => by
      have : o' = .tmp 26 := by simpa [Op.operands] using ho'
      subst this
      injection hu with hu
      subst hu
      show SRep W S _ [] _ (a.tmps.getD 26 undef)
      rw [ha]
      exact srep_of_rep (.agg ⟨by simp, fun i u x hu hx => by
        rw [List.getElem?_map, hx] at hu
        injection hu with hu
        subst hu
        exact .v x (hx1 x (List.mem_of_getElem? hx))⟩)
    obtain ⟨ys, y1, y2, _⟩ := run_buildSlice (P := Try.prog) (obs := []) (S := S) (β := fun _ => .bool true) (a := a) (w := W) (gam_ok 26 _ rfl) rfl (n := 1) (rows := [xs.map AV.v]) (by simp [partRows, cellsOf, hxl]) rfl (by show 1 * 26 ≤ 16777216; omega) hev hop
    have hy : ys = xs := repl_v xs ys (by simpa using y2)
    rw [hy, ← hW1] at y1
    exact y1
  · refine hQ a' _ es' clock' q1 q2 q3 hG3 ?_ ?_ ?_ ?_ ?_ ?_
    · show W2.os = w.os
      rw [hgrow.os, hW1, hW]; rfl
    · show W2.tape = w.tape
      rw [hgrow.tape, hW1, hW]; rfl
    · show W2.output = w.output
      rw [hgrow.output, hW1, hW]; rfl
    · show w.heap.size ≤ (W2.heap.setIfInBounds b (.map es' clock')).size
      rw [Array.size_setIfInBounds]
      have h1 := hgrow.size
      have h2 := congrArg Array.size hheap
      omega
    · intro g hg hnu
      show (W2.heap.setIfInBounds b (.map es' clock'))[g]? = _
      rw [Array.getElem?_setIfInBounds_ne (fun e => hnu (by rw [← e]; exact hG.base)), hold2 g (by rw [hheap]; exact hg) (fun h => hnu (hrow0.blk g h).2.2), hheap]
    · intro g hg
      show (W2.heap.setIfInBounds b (.map es' clock'))[g]? = _
      rw [Array.getElem?_setIfInBounds_ne (fun e => hG.out (by rw [e]; exact hg)), hS2 g hg, hheap]
end Go.Proofs.Ytdmdahnnfancpaa
