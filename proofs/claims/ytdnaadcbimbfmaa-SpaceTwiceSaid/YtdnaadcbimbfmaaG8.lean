import Derived.Lib.SliceRun
import Derived.WalkKit
import Derived.Handy
import Derived.LoopTactic
import Derived.Deep.WholeRow
import Derived.Test.YtdnaadcbimbfmaaG6
import Derived.Test.YtdnaadcbimbfmaaG7
set_option linter.unusedSimpArgs false
set_option linter.unusedVariables false
namespace Go.Proofs.Ytdnaadcbimbfmaa
open Go Go.RowKit Am
set_option maxHeartbeats 4000000 in
set_option maxRecDepth 100000 in
theorem putRoadE (w : World) (b off i : Nat) (v : Value) (e : ElE) (R N : Int) (xs : List Value) (K : World→Prop) (J : World→Value→World→Prop) (hR : (dE e).vs = #[.int .i64 R,.int .i64 N]) (hX : xvE e = xs.toArray)
  (hpl : Hid (Calls Try.prog 53 #[.pointer (some ⟨b,off,none⟩),.agg #[.int .i64 R,.int .i64 N]] ((w.alloc (.cells #[.int .i64 R,.int .i64 N] 33)).alloc (.cells xs.toArray 37)) fun r w1=>r = .returned (.tuple #[.int .i64 i,.bool false])∧K w1))
  (hreg : Hid (∀ (w1 : World) (Q : Exit→Act→World→Prop) (a0 : Act) (id : Nat) (ops : List Oper),K w1→ops.map (fun o=>(o.dst,o.op)) = putShapeE→depsC putNeedE ops = true→a0.tmps.size = 38→a0.eval (.tmp 0) = .pointer (some ⟨b,off,none⟩)→a0.eval (.tmp 4) = .pointer (some ⟨w.heap.size,0,none⟩)→a0.eval (.tmp 5) = .pointer (some ⟨w.heap.size + 1,0,none⟩)→a0.eval (.tmp 6) = .int .i64 i →
   (∀ a' v' w2,a'.tmps.size = 38→a'.defers = a0.defers→J w1 v' w2→Q .normal a' (w2.setCell ⟨b,off,none⟩ v'))→(Code.region id ops.toArray true).wp Try.prog Q a0 w1)) :
  Calls Try.prog 32 #[.pointer (some ⟨b,off,none⟩),.agg (dE e).vs,.agg (xvE e)] w fun r w'=>r = .returned (.tuple #[])∧∃ w1 v' w2,K w1∧J w1 v' w2∧w' = w2.setCell ⟨b,off,none⟩ v':=by
 rw [hR,hX]
 clear hR hX
 go_enter Try.func32,Try.ntmps32
 go_wp2_with (first | (go_at_call 53; refine Calls.mono hpl ?_; rintro e' w1 ⟨rfl,hK⟩))
 refine hreg w1 _ _ _ _ hK (by rfl) (by kernel_rfl) (by rfl) (by rfl) (by rfl) (by rfl) (by rfl) ?_
 intro a' v' w2 hz hd hj
 clear hpl hreg
 refine bodyPost_end (v:=.tuple #[]) ?_ hd ⟨rfl,w1,v',w2,hK,hj,rfl⟩
 simp [results,Try.results32]
theorem putE (w : World) (b off : Nat) (v : Value) (l : List ElE) (e : ElE) (h : BagAt w 65 28 b off v l.length (l.map itvE).flatten) (hfz : w.frozen? ⟨b,off,none⟩ = false) (hs : Rise dE l) (hne : ∀ a ∈ l,dE a ≠ dE e) (hl : l.length ≤ 1000000) :
  Calls Try.prog 32 #[.pointer (some ⟨b,off,none⟩),.agg (dE e).vs,.agg (xvE e)] w fun r w'=>r = .returned (.tuple #[])∧∃ v',BagAt w' 65 28 b off v' (insD dE l e).length ((insD dE l e).map itvE).flatten∧BagK b off v v' w w':=by
 have hf : decide (∃ a ∈ l,dE a = dE e) = false:=decide_eq_false fun ⟨a,ha,hd⟩=>hne a ha hd
 obtain ⟨i,hi⟩ : ∃ i,i = cntD dE l (dE e):=⟨_,rfl⟩
 have hil : i ≤ l.length:=by rw [hi]; exact cntD_le _ _ _
 have hbl:=h.lt
 have hbk:=h.blk
 obtain ⟨W0,hW0⟩ : ∃ W0,W0 = (w.alloc (.cells (dE e).vs 33)).alloc (.cells (xvE e) 37):=⟨_,rfl⟩
 have hB0 : Below w.heap.size w W0:=by rw [hW0]; exact ((Below.refl _ _).alloc (Nat.le_refl _) _).alloc (by simp) _
 have hz0 : W0.heap.size = w.heap.size + 2:=by rw [hW0]; simp
 have hx1 : W0.heap[w.heap.size]? = some (.cells (dE e).vs 33 (0,0)):=by
  rw [hW0]
  exact (((Below.refl (w.heap.size + 1) (w.alloc (.cells (dE e).vs 33))).alloc (by simp) (.cells (xvE e) 37)).block w.heap.size (by omega)).trans (heap_alloc_new w _)
 have hx2 : W0.heap[w.heap.size + 1]? = some (.cells (xvE e) 37 (0,0)):=by
  rw [hW0]
  have:=heap_alloc_new (w.alloc (.cells (dE e).vs 33)) (.cells (xvE e) 37)
  simpa using this
 have hbag0 : BagAt W0 65 28 b off v l.length (l.map itvE).flatten:=h.keep (hB0.block b hbl) fun g hg=>hB0.block g (hbk g hg)
 have hpl:=placeWE W0 b off v l (dE e) hbag0 hs hl false hf.symm
 rw [← hi,hW0] at hpl
 have hlen : ((l.map itvE).flatten).length = l.length * 28:=by
  rw [flat_len (sz:=28) _ fun r hr=>by obtain ⟨a,_,rfl⟩:=List.mem_map.1 hr; rfl,List.length_map]
 refine (putRoadE w b off i v e (dE e).R (dE e).N (xvE e).toList (fun w1=>Below W0.heap.size W0 w1) (fun w1 v' w2=>w2.ownsRow 0 65 28 v' (insD dE l e).length ((insD dE l e).map itvE).flatten∧(w1.drew.alloc (.cells (itvE e).toArray 65)).grownBy w2 v.ownBlock∧(v'.ownBlock = v.ownBlock ∨ v'.ownBlock = some (w1.heap.size + 1))) rfl rfl ?_ ?_).mono ?_
 ·have : #[Value.int IntKind.i64 (dE e).R,Value.int IntKind.i64 (dE e).N] = (dE e).vs:=rfl
  rw [this,hW0]
  exact hpl
 ·intro w1 Q a0 id ops hK hops hdep hz e0 e4 e5 e6 hQ
  have hB1 : Below w.heap.size w w1:=hB0.trans (hK.mono (by omega))
  have hbag1 : BagAt w1 65 28 b off v l.length (l.map itvE).flatten:=h.keep (hB1.block b hbl) fun g hg=>hB1.block g (hbk g hg)
  refine putRegionE hops hdep hz b off w.heap.size (w.heap.size + 1) i v e _ e0 e4 e5 e6 hbag1.cell (fun j u hj=>?_) (fun j u hj=>?_) ?_ (fun v' w2 hj=>?_) hQ
  ·rw [cell_of_row _ _ (0 + j) _ _ _ ((hK.block w.heap.size (by omega)).trans hx1),Nat.zero_add]
   simpa using hj
  ·rw [cell_of_row _ _ (0 + j) _ _ _ ((hK.block (w.heap.size + 1) (by omega)).trans hx2),Nat.zero_add]
   simpa using hj
  ·have hW : (w1.drew.alloc (.cells (itvE e).toArray 65)).heap[w1.heap.size]? = some (.cells (itvE e).toArray 65 (0,0)):=heap_alloc_new w1.drew _
   have hB2 : Below w1.heap.size w1 (w1.drew.alloc (.cells (itvE e).toArray 65)):=(Below.refl _ _).drew.alloc (Nat.le_refl _) _
   have hbag2 : BagAt (w1.drew.alloc (.cells (itvE e).toArray 65)) 65 28 b off v l.length (l.map itvE).flatten:=hbag1.keep (hB2.block b hbag1.lt) fun g hg=>hB2.block g (hbag1.blk g hg)
   refine (insertE _ v l.length i _ w1.heap.size (itvE e) hil hbag2.own (flat_one itvE_one l) hW (fun hg=>?_) (itvE_len e) (itvE_one e) hl).mono ?_
   ·have:=hbag1.blk _ hg; omega
   ·rintro r w2 ⟨v',rfl,q1,q2,q3⟩
    refine ⟨v',rfl,?_,q2,?_⟩
    ·rw [insD_len,insD_flat itvE_len,← hi]; exact q1
    ·rcases q3 with h | h
     ·exact .inl h
     ·refine .inr (h.trans ?_)
      simp
  ·obtain ⟨hown,hgr,_⟩:=hj
   have hB2 : Below w1.heap.size w1 (w1.drew.alloc (.cells (itvE e).toArray 65)):=(Below.refl _ _).drew.alloc (Nat.le_refl _) _
   have hb2 : w2.heap[b]? = w.heap[b]?:=((hgr.block b (by have:=hbag1.lt; simp; omega) (fun e=>h.ne e.symm)).trans (hB2.block b hbag1.lt)).trans (hB1.block b hbl)
   refine ⟨⟨v,(World.cell?_of_block (a:=⟨b,off,none⟩) hb2).trans h.cell⟩,(World.frozen?_of_block (a:=⟨b,off,none⟩) hb2).trans hfz,?_⟩
   rcases hown.2 with ⟨e1,_⟩ | ⟨g,cap,cur,e1,_⟩ <;> (rw [e1]; exact ⟨rfl,rfl⟩)
 ·rintro r w' ⟨rfl,w1,v',w2,hK,⟨hown,hgr,hnew⟩,rfl⟩
  have hB1 : Below w.heap.size w w1:=hB0.trans (hK.mono (by omega))
  have hz1:=hB1.size
  have hB2 : Below w1.heap.size w1 (w1.drew.alloc (.cells (itvE e).toArray 65)):=(Below.refl _ _).drew.alloc (Nat.le_refl _) _
  have hz2 : (w1.drew.alloc (.cells (itvE e).toArray 65)).heap.size = w1.heap.size + 1:=by simp
  have hgz:=hgr.size
  have hold : ∀ g,g < w.heap.size→v.ownBlock ≠ some g→w2.heap[g]? = w.heap[g]?:=fun g hg hne=>((hgr.block g (by omega) (fun e=>hne e.symm)).trans (hB2.block g (by omega))).trans (hB1.block g hg)
  have hb2:=hold b hbl h.ne
  have hvb : v'.ownBlock ≠ some b:=fun hg=>by
   rcases hnew with e | e
   ·exact h.ne (e ▸ hg)
   ·rw [e] at hg; injection hg with hg; omega
  refine ⟨rfl,v',⟨World.cell?_setCell_same w2 ⟨b,off,none⟩ _ ((World.cell?_of_block (a:=⟨b,off,none⟩) hb2).trans h.cell),⟨hown.1,?_⟩,hvb⟩,⟨hgr.os.trans hB1.os,hgr.tape.trans hB1.tape,hgr.output.trans hB1.output,by rw [World.size_setCell]; omega,fun g hg hgb hgv=>?_,fun A t fz hA=>?_,?_⟩⟩
  ·rcases hown.2 with h1 | ⟨g,cap,cur,h1,h2,h3,r⟩
   ·exact .inl h1
   ·exact .inr ⟨g,cap,cur,h1,h2,(heap_setCell_other _ _ _ _ (fun e=>hvb (by rw [h1]; exact congrArg some e))).trans h3,r⟩
  ·exact (heap_setCell_other _ _ _ _ (by simpa using hgb)).trans (hold g hg hgv)
  ·rw [setCell_eq_setRow w2 b off A t fz v' (hb2.trans hA)]
   exact setRow_heap w2 b A _ t _ (hb2.trans hA)
  ·rcases hnew with e | e
   ·exact .inl e
   ·exact .inr fun g hg=>by rw [e] at hg; injection hg with hg; omega
end Go.Proofs.Ytdnaadcbimbfmaa
namespace Go.Proofs.Ytdnaadcbimbfmaa
open Go Go.RowKit Am
set_option maxHeartbeats 4000000 in
set_option maxRecDepth 100000 in
theorem remRoadE (w : World) (b off i : Nat) (v v0 : Value) (R N : Int) (K : World→Prop) (J : World→Value→World→Prop)
  (hpl : Hid (Calls Try.prog 53 #[.pointer (some ⟨b,off,none⟩),.agg #[.int .i64 R,.int .i64 N]] (w.alloc (.cells #[.int .i64 R,.int .i64 N] 33)) fun r w1=>r = .returned (.tuple #[.int .i64 i,.bool true])∧K w1))
  (hi : IntKind.i64.wrap ((i : Int) + 1) = (i : Int) + 1)
  (hK : Hid (∀ w1,K w1→w1.cell? ⟨b,off,none⟩ = some v∧Calls Try.prog 54 #[v,.int .i64 i,.int .i64 ((i : Int) + 1)] w1 fun r w2=>∃ v',r = .returned v'∧J w1 v' w2))
  (hJ : Hid (∀ w1 v' w2,K w1→J w1 v' w2→w2.cell? ⟨b,off,none⟩ = some v∧w2.frozen? ⟨b,off,none⟩ = false∧∃ a n c,v' = .slice a n c)) :
  Calls Try.prog 29 #[.pointer (some ⟨b,off,none⟩),.agg #[.int .i64 R,.int .i64 N]] w fun r w'=>r = .returned (.bool true)∧∃ w1 v' w2,K w1∧J w1 v' w2∧w' = w2.setCell ⟨b,off,none⟩ v':=by
 go_enter Try.func29,Try.ntmps29
 go_wp2_with (first | (go_at_call 53; refine Calls.mono hpl ?_; rintro e' w1 ⟨rfl,hk⟩; have hc:=(hK w1 hk).1; have hd : Hid _:=(hK w1 hk).2) | (go_at_call 54; refine Calls.mono hd ?_; rintro e' w2 ⟨v',rfl,hj⟩; obtain ⟨hc2,hf2,a,n,c,rfl⟩:=hJ w1 v' w2 hk hj))
 go_ret
 exact ⟨rfl,w1,_,w2,hk,hj,rfl⟩
theorem removeE (w : World) (b off : Nat) (v : Value) (l : List ElE) (x : Dt) (h : BagAt w 65 28 b off v l.length (l.map itvE).flatten) (hfz : w.frozen? ⟨b,off,none⟩ = false) (hs : Rise dE l) (hin : ∃ a ∈ l,dE a = x) (hl : l.length ≤ 1000000) :
  Calls Try.prog 29 #[.pointer (some ⟨b,off,none⟩),.agg x.vs] w fun r w'=>r = .returned (.bool true)∧∃ v',BagAt w' 65 28 b off v' (delD dE l x).length ((delD dE l x).map itvE).flatten∧BagK b off v v' w w':=by
 have ht : decide (∃ a ∈ l,dE a = x) = true:=decide_eq_true hin
 obtain ⟨c,hc,hcx⟩:=hin
 obtain ⟨i,hi⟩:=List.getElem?_of_mem hc
 have hci : cntD dE l x = i:=cntD_at hs hi hcx
 have hil : i < l.length:=(List.getElem?_eq_some_iff.1 hi).1
 have hbl:=h.lt
 have hbk:=h.blk
 obtain ⟨W0,hW0⟩ : ∃ W0,W0 = w.alloc (.cells x.vs 33):=⟨_,rfl⟩
 have hB0 : Below w.heap.size w W0:=by rw [hW0]; exact (Below.refl _ _).alloc (Nat.le_refl _) _
 have hz0 : W0.heap.size = w.heap.size + 1:=by rw [hW0]; simp
 have hbag0 : BagAt W0 65 28 b off v l.length (l.map itvE).flatten:=h.keep (hB0.block b hbl) fun g hg=>hB0.block g (hbk g hg)
 have hpl:=placeWE W0 b off v l x hbag0 hs hl true ht.symm
 rw [hci,hW0] at hpl
 have hr : ∀ r ∈ l.map itvE,r.length = 28:=fun r hr=>by obtain ⟨a,_,rfl⟩:=List.mem_map.1 hr; rfl
 have hfl : ((delD dE l x).map itvE).flatten = (l.map itvE).flatten.take (i * 28) ++ (l.map itvE).flatten.drop ((i + 1) * 28):=by
  rw [delD_at hs hi hcx,take_flat _ hr,drop_flat _ hr,List.map_append,List.flatten_append,List.map_take,List.map_drop]
 have hdl : (delD dE l x).length = l.length - 1:=by
  rw [delD_at hs hi hcx,List.length_append,List.length_take,List.length_drop]; omega
 refine (remRoadE w b off i v v x.R x.N (fun w1=>Below W0.heap.size W0 w1) (fun w1 v' w2=>w2.ownsRow 0 65 28 v' (delD dE l x).length ((delD dE l x).map itvE).flatten∧w1.grownBy w2 v.ownBlock∧v'.ownBlock = v.ownBlock) ?_ (by rw [IntKind.wrap_i64]; omega) ?_ ?_).mono ?_
 ·have : #[Value.int IntKind.i64 x.R,Value.int IntKind.i64 x.N] = x.vs:=rfl
  rw [this,hW0]
  exact hpl
 ·intro w1 hK
  have hB1 : Below w.heap.size w w1:=hB0.trans (hK.mono (by omega))
  have hbag1 : BagAt w1 65 28 b off v l.length (l.map itvE).flatten:=h.keep (hB1.block b hbl) fun g hg=>hB1.block g (hbk g hg)
  refine ⟨hbag1.cell,(deleteE w1 v l.length i _ hil hbag1.own (flat_one itvE_one l) hl).mono ?_⟩
  rintro r w2 ⟨v',rfl,q1,q2,q3⟩
  refine ⟨v',rfl,?_,q2,q3⟩
  rw [hdl,hfl]; exact q1
 ·rintro w1 v' w2 hK ⟨hown,hgr,hnew⟩
  have hB1 : Below w.heap.size w w1:=hB0.trans (hK.mono (by omega))
  have hz1:=hB1.size
  have hb2 : w2.heap[b]? = w.heap[b]?:=(hgr.block b (by omega) (fun e=>h.ne e.symm)).trans (hB1.block b hbl)
  refine ⟨(World.cell?_of_block (a:=⟨b,off,none⟩) hb2).trans h.cell,(World.frozen?_of_block (a:=⟨b,off,none⟩) hb2).trans hfz,?_⟩
  rcases hown.2 with ⟨e1,_⟩ | ⟨g,cap,cur,e1,_⟩ <;> exact ⟨_,_,_,e1⟩
 ·rintro r w' ⟨rfl,w1,v',w2,hK,⟨hown,hgr,hnew⟩,rfl⟩
  have hB1 : Below w.heap.size w w1:=hB0.trans (hK.mono (by omega))
  have hz1:=hB1.size
  have hgz:=hgr.size
  have hold : ∀ g,g < w.heap.size→v.ownBlock ≠ some g→w2.heap[g]? = w.heap[g]?:=fun g hg hne=>(hgr.block g (by omega) (fun e=>hne e.symm)).trans (hB1.block g hg)
  have hb2:=hold b hbl h.ne
  have hvb : v'.ownBlock ≠ some b:=by rw [hnew]; exact h.ne
  refine ⟨rfl,v',⟨World.cell?_setCell_same w2 ⟨b,off,none⟩ _ ((World.cell?_of_block (a:=⟨b,off,none⟩) hb2).trans h.cell),⟨hown.1,?_⟩,hvb⟩,⟨hgr.os.trans hB1.os,hgr.tape.trans hB1.tape,hgr.output.trans hB1.output,by rw [World.size_setCell]; omega,fun g hg hgb hgv=>?_,fun A t fz hA=>?_,.inl hnew⟩⟩
  ·rcases hown.2 with h1 | ⟨g,cap,cur,h1,h2,h3,r⟩
   ·exact .inl h1
   ·exact .inr ⟨g,cap,cur,h1,h2,(heap_setCell_other _ _ _ _ (fun e=>hvb (by rw [h1]; exact congrArg some e))).trans h3,r⟩
  ·exact (heap_setCell_other _ _ _ _ (by simpa using hgb)).trans (hold g hg hgv)
  ·rw [setCell_eq_setRow w2 b off A t fz v' (hb2.trans hA)]
   exact setRow_heap w2 b A _ t _ (hb2.trans hA)
end Go.Proofs.Ytdnaadcbimbfmaa
namespace Go.Proofs.Ytdnaadcbimbfmaa
open Go Go.RowKit Am
theorem placeWT (w : World) (b off : Nat) (v : Value) (l : List ElT) (x : Dt) (h : BagAt w 72 30 b off v l.length (l.map itvT).flatten) (hs : Rise dT l) (hl : l.length ≤ 1000000) (t : Bool) (ht : t = decide (∃ a ∈ l,dT a = x)) :
  Calls Try.prog 55 #[.pointer (some ⟨b,off,none⟩),.agg x.vs] w fun e w'=>e = .returned (.tuple #[.int .i64 (cntD dT l x : Nat),.bool t])∧Below w.heap.size w w':=by
 have hp:=placeT_ok l hl hs x _ rfl _ _ rfl rfl t ht
 have hx : Reps w (fun g=>g = b ∨ v.ownBlock = some g) [.ept [.sl (l.map itT)] 0,.agg x.ac] [.pointer (some ⟨b,off,none⟩),.agg x.vs] :=
  Reps.cons (h.rep itvT_ac itvT_one itT_len (.inl rfl) fun g hg=>.inr hg) (Reps.cons (.agg (xs:=[vI x.R,vI x.N]) (repl_map_v [vI x.R,vI x.N] (by simp [Value.oneCell']))) (Reps.nil _ _))
 refine (hp.2 w _ _ (fun g hg=>?_) (gd_all _ _) hx).mono fun e w' hh=>?_
 ·rcases hg with rfl | hg
  ·exact h.lt
  ·exact h.blk g hg
 obtain ⟨y,S',rfl,hg,ys,rfl,hys⟩:=hh
 obtain ⟨z,zs,rfl,h1,hys⟩:=hys.uncons
 obtain ⟨z2,zs,rfl,h2,hys⟩:=hys.uncons
 have:=hys.unnil
 subst this
 rw [rep_v h1,rep_v h2]
 exact ⟨rfl,hg.below⟩
def putShapeT : List (Option Nat × Op):=[(some 25,.move (.tmp 0)),(some 26,.move (.tmp 0)),(some 27,.nilCheck (.tmp 26)),(some 28,.fieldAddr 79 (.tmp 27) 0),(some 29,.load 69 (.tmp 28)),(some 30,.move (.tmp 6)),(some 31,.load 33 (.tmp 4)),(some 32,.load 68 (.tmp 5)),(some 33,.build 72 #[(0,.tmp 31),(1,.tmp 32)]),(some 34,.buildSlice 69 1 #[(0,.tmp 33)]),
 (some 35,.call { callee:=.value (.func 56),args:=#[.tmp 29,.tmp 30,.tmp 34],argTypes:=#[69,3,69] }),(some 36,.nilCheck (.tmp 25)),(some 37,.fieldAddr 79 (.tmp 36) 0),(none,.store 69 (.tmp 37) (.tmp 35))]
def putNeedT : Nat→List Nat
 | 2=>[1] | 3=>[2] | 4=>[3] | 8=>[6,7] | 9=>[8] | 10=>[4,5,9] | 11=>[0,10] | 12=>[11] | 13=>[12,10] | _=>[]
def putTT (W : World) (b off : Nat) (cs : List Value) (J : Value→World→Prop) (k : Nat) (f : Nat→Value) (w : World) : Prop :=
 match k with
 | 0=>w = W
 | 1=>w = W.alloc (.cells cs.toArray 72)∧f 34 = .slice (some ⟨W.heap.size,0,none⟩) 1 1
 | 2=>J (f 35) w
 | _=>∃ v w2,J v w2∧w = w2.setCell ⟨b,off,none⟩ v
def putValT (b off i : Nat) (v : Value) (e : ElT) (q : Nat) : Option Value :=
 match q with
 | 0=>some (.pointer (some ⟨b,off,none⟩)) | 1=>some (.pointer (some ⟨b,off,none⟩)) | 2=>some (.pointer (some ⟨b,off,none⟩)) | 3=>some (.pointer (some ⟨b,off,none⟩)) | 4=>some v | 5=>some (.int .i64 i) | 6=>some (.agg (dT e).vs) | 7=>some (.agg (xvT e)) | 8=>some (.agg (itvT e).toArray) | 11=>some (.pointer (some ⟨b,off,none⟩)) | 12=>some (.pointer (some ⟨b,off,none⟩)) | _=>none
theorem buildItT (e : ElT) (w : World) : (Instr.build 72 #[(0,.agg (dT e).vs),(1,.agg (xvT e))]).run Try.prog w = .ok (.agg (itvT e).toArray) w:=by kernel_rfl
theorem buildSlT (e : ElT) (w : World) : (Instr.buildSlice 69 1 #[(0,.agg (itvT e).toArray)]).run Try.prog w = .ok (.slice (some ⟨w.heap.size,0,none⟩) 1 1) (w.alloc (.cells (itvT e).toArray 72)):=by kernel_rfl
set_option maxHeartbeats 4000000 in
set_option maxRecDepth 100000 in
theorem putRegionT {id : Nat} {ops : List Oper} {Q : Exit→Act→World→Prop} {a0 : Act} {w : World} (hops : ops.map (fun o=>(o.dst,o.op)) = putShapeT) (hdep : depsC putNeedT ops = true) (hz : a0.tmps.size = 38)
  (b off h1 h2 i : Nat) (v : Value) (e : ElT) (J : Value→World→Prop) (t0 : a0.eval (.tmp 0) = .pointer (some ⟨b,off,none⟩)) (t4 : a0.eval (.tmp 4) = .pointer (some ⟨h1,0,none⟩)) (t5 : a0.eval (.tmp 5) = .pointer (some ⟨h2,0,none⟩)) (t6 : a0.eval (.tmp 6) = .int .i64 i)
  (c0 : w.cell? ⟨b,off,none⟩ = some v) (c1 : ∀ j u,(dT e).vs.toList[j]? = some u→w.cell? ⟨h1,0 + j,none⟩ = some u) (c2 : ∀ j u,(xvT e).toList[j]? = some u→w.cell? ⟨h2,0 + j,none⟩ = some u)
  (hin : Calls Try.prog 56 #[v,.int .i64 i,.slice (some ⟨w.heap.size,0,none⟩) 1 1] (w.drew.alloc (.cells (itvT e).toArray 72)) fun r w2=>∃ v',r = .returned v'∧J v' w2)
  (hJ : ∀ v' w2,J v' w2→(∃ u,w2.cell? ⟨b,off,none⟩ = some u)∧w2.frozen? ⟨b,off,none⟩ = false∧v'.oneCell' = true∧v'.cells = #[v'])
  (hQ : ∀ a' v' w2,a'.tmps.size = 38→a'.defers = a0.defers→J v' w2→Q .normal a' (w2.setCell ⟨b,off,none⟩ v')) : (Code.region id ops.toArray true).wp Try.prog Q a0 w:=by
 refine region_chain mixed 38 hz putShapeT hops putNeedT hdep (by decide) (putValT b off i v e) [9,10,13] (putTT w.drew b off (itvT e) J) (fun k f f' w1 hT hk=>?_) (by decide) (fun q hq=>?_) (fun m hm=>?_) (by decide) (fun p m m' h1 h2=>?_) rfl ?_ ?_ (fun a' w' hs hd hT _ _=>?_)
 ·match k,hT with
  | 0,hT=>exact hT
  | 1,hT=>exact ⟨hT.1,(hk 9 (by simp) 34 _ rfl).trans hT.2⟩
  | 2,hT=>show J (f' 35) w1; rw [hk 10 (by simp) 35 _ rfl]; exact hT
  | _ + 3,hT=>exact hT
 ·have hq : q < 14:=hq
  obtain rfl | rfl | rfl | rfl | rfl | rfl | rfl | rfl | rfl | rfl | rfl | rfl | rfl | rfl : q = 0 ∨ q = 1 ∨ q = 2 ∨ q = 3 ∨ q = 4 ∨ q = 5 ∨ q = 6 ∨ q = 7 ∨ q = 8 ∨ q = 9 ∨ q = 10 ∨ q = 11 ∨ q = 12 ∨ q = 13:=by omega
  all_goals first | exact .inl rfl | exact .inr (by simp)
 ·simp only [List.mem_cons,List.not_mem_nil,or_false] at hm
  rcases hm with rfl | rfl | rfl <;> rfl
 ·match p with
  | 0=>injection h1 with h1; injection h2 with h2; subst h1; subst h2; decide
  | 1=>injection h1 with h1; injection h2 with h2; subst h1; subst h2; decide
  | _ + 2=>simp at h2
 ·intro q d op u hsh hv k a w' hT hlim hn hp hk o ho
  have hq : q < 14:=(List.getElem?_eq_some_iff.1 hsh).1
  have e0:=(hk 0 (notD (by rfl))).trans t0
  have e4:=(hk 4 (notD (by rfl))).trans t4
  have e5:=(hk 5 (notD (by rfl))).trans t5
  have e6:=(hk 6 (notD (by rfl))).trans t6
  obtain rfl | rfl | rfl | rfl | rfl | rfl | rfl | rfl | rfl | rfl | rfl | rfl | rfl | rfl : q = 0 ∨ q = 1 ∨ q = 2 ∨ q = 3 ∨ q = 4 ∨ q = 5 ∨ q = 6 ∨ q = 7 ∨ q = 8 ∨ q = 9 ∨ q = 10 ∨ q = 11 ∨ q = 12 ∨ q = 13:=by omega
  all_goals first | (cases hv; done) | (injection hsh with hsh; obtain ⟨rfl,rfl⟩:=Prod.mk.inj hsh; injection hv with hv; subst hv)
  ·exact q_move ho e0
  ·exact q_move ho e0
  ·exact q_nil ho (hn 1 (by decide) _ 26 _ rfl rfl)
  ·have:=q_fld (w:=w') (ti:=ti79) (off:=0) (sz:=1) rfl rfl ho (hn 2 (by decide) _ 27 _ rfl rfl)
   rw [Addr.add_lit] at this
   exact this
  ·refine q_load1 (ti:=ti69) rfl rfl ho (hn 3 (by decide) _ 28 _ rfl rfl) ?_
   have hk1:=hlim 1 10 rfl (by decide)
   match k,hT with
   | 0,hT=>rw [show w' = w.drew from hT]; exact c0
   | 1,hT=>rw [hT.1]; exact Lib.cell?_alloc_some _ c0
   | _ + 2,_=>omega
  ·exact q_move ho e6
  ·have hk1:=hlim 0 9 rfl (by decide)
   obtain rfl : k = 0:=by omega
   rw [show w' = w.drew from hT]
   exact q_loadN (w:=w.drew) (ti:=ti33) rfl rfl rfl ho e4 c1
  ·have hk1:=hlim 0 9 rfl (by decide)
   obtain rfl : k = 0:=by omega
   rw [show w' = w.drew from hT]
   exact q_loadN (w:=w.drew) (ti:=ti68) rfl rfl rfl ho e5 c2
  ·have e31:=hn 6 (by decide) _ 31 _ rfl rfl
   have e32:=hn 7 (by decide) _ 32 _ rfl rfl
   have hb:=buildItT e w'
   simp [execOp,ho,e31,e32,hb]
  ·exact q_nil ho (hn 0 (by decide) _ 25 _ rfl rfl)
  ·have:=q_fld (w:=w') (ti:=ti79) (off:=0) (sz:=1) rfl rfl ho (hn 11 (by decide) _ 36 _ rfl rfl)
   rw [Addr.add_lit] at this
   exact this
 ·intro k m d op hkm hsh a w' hza hT hn hk o hd ho
  match k with
  | 0 =>
   injection hkm with hkm; subst hkm; injection hsh with hsh; obtain ⟨rfl,rfl⟩:=Prod.mk.inj hsh
   have e33:=hn 8 (by decide) _ 33 _ rfl rfl
   have hT : w' = w.drew:=hT
   subst hT
   have hb:=buildSlT e w.drew
   refine exec_val (by simp [execOp,ho,e33,hb]; rfl) ⟨_,by rw [hd],rfl,?_⟩
   rw [hd]
   exact put_eq (by rw [hza]; decide)
  | 1 =>
   injection hkm with hkm; subst hkm; injection hsh with hsh; obtain ⟨rfl,rfl⟩:=Prod.mk.inj hsh
   have e29:=hn 4 (by decide) _ 29 _ rfl rfl
   have e30:=hn 5 (by decide) _ 30 _ rfl rfl
   have e34 : a.eval (.tmp 34) = .slice (some ⟨w.heap.size,0,none⟩) 1 1:=hT.2
   have hen:=run_call (P:=Try.prog) (a:=a) (w:=w') (g:=56) (caps:=[]) ho rfl (enterT Try.func56 (by kernel_rfl) rfl)
   simp only [List.map_cons,List.map_nil,List.append_nil,e29,e30,e34] at hen
   refine wp_enter hen ?_
   rw [hT.1]
   refine hin.mono ?_
   rintro r w2 ⟨v',rfl,hj⟩
   refine ⟨_,rfl,v',by rw [hd],?_⟩
   show J _ w2
   rw [hd,tf,put_eq (by rw [hza]; decide)]
   exact hj
  | 2 =>
   injection hkm with hkm; subst hkm; injection hsh with hsh; obtain ⟨rfl,rfl⟩:=Prod.mk.inj hsh
   have e37:=hn 12 (by decide) _ 37 _ rfl rfl
   have hT : J (a.eval (.tmp 35)) w':=hT
   obtain ⟨⟨u,hu⟩,hf,h1,hcs⟩:=hJ _ _ hT
   refine exec_skip (q_store1 (ti:=ti69) rfl rfl ho e37 rfl h1 hcs hu hf) ⟨undef,by rw [hd],_,_,hT,rfl⟩
  | _ + 3=>simp at hkm
 ·obtain ⟨v',w2,hj,rfl⟩:=hT
  exact hQ a' v' w2 hs hd hj
end Go.Proofs.Ytdnaadcbimbfmaa
namespace Go.Proofs.Ytdnaadcbimbfmaa
open Go Go.RowKit Am
set_option maxHeartbeats 4000000 in
set_option maxRecDepth 100000 in
theorem putRoadT (w : World) (b off i : Nat) (v : Value) (e : ElT) (R N : Int) (xs : List Value) (K : World→Prop) (J : World→Value→World→Prop) (hR : (dT e).vs = #[.int .i64 R,.int .i64 N]) (hX : xvT e = xs.toArray)
  (hpl : Hid (Calls Try.prog 55 #[.pointer (some ⟨b,off,none⟩),.agg #[.int .i64 R,.int .i64 N]] ((w.alloc (.cells #[.int .i64 R,.int .i64 N] 33)).alloc (.cells xs.toArray 68)) fun r w1=>r = .returned (.tuple #[.int .i64 i,.bool false])∧K w1))
  (hreg : Hid (∀ (w1 : World) (Q : Exit→Act→World→Prop) (a0 : Act) (id : Nat) (ops : List Oper),K w1→ops.map (fun o=>(o.dst,o.op)) = putShapeT→depsC putNeedT ops = true→a0.tmps.size = 38→a0.eval (.tmp 0) = .pointer (some ⟨b,off,none⟩)→a0.eval (.tmp 4) = .pointer (some ⟨w.heap.size,0,none⟩)→a0.eval (.tmp 5) = .pointer (some ⟨w.heap.size + 1,0,none⟩)→a0.eval (.tmp 6) = .int .i64 i →
   (∀ a' v' w2,a'.tmps.size = 38→a'.defers = a0.defers→J w1 v' w2→Q .normal a' (w2.setCell ⟨b,off,none⟩ v'))→(Code.region id ops.toArray true).wp Try.prog Q a0 w1)) :
  Calls Try.prog 30 #[.pointer (some ⟨b,off,none⟩),.agg (dT e).vs,.agg (xvT e)] w fun r w'=>r = .returned (.tuple #[])∧∃ w1 v' w2,K w1∧J w1 v' w2∧w' = w2.setCell ⟨b,off,none⟩ v':=by
 rw [hR,hX]
 clear hR hX
 go_enter Try.func30,Try.ntmps30
 go_wp2_with (first | (go_at_call 55; refine Calls.mono hpl ?_; rintro e' w1 ⟨rfl,hK⟩))
 refine hreg w1 _ _ _ _ hK (by rfl) (by kernel_rfl) (by rfl) (by rfl) (by rfl) (by rfl) (by rfl) ?_
 intro a' v' w2 hz hd hj
 clear hpl hreg
 refine bodyPost_end (v:=.tuple #[]) ?_ hd ⟨rfl,w1,v',w2,hK,hj,rfl⟩
 simp [results,Try.results30]
theorem putT (w : World) (b off : Nat) (v : Value) (l : List ElT) (e : ElT) (h : BagAt w 72 30 b off v l.length (l.map itvT).flatten) (hfz : w.frozen? ⟨b,off,none⟩ = false) (hs : Rise dT l) (hne : ∀ a ∈ l,dT a ≠ dT e) (hl : l.length ≤ 1000000) :
  Calls Try.prog 30 #[.pointer (some ⟨b,off,none⟩),.agg (dT e).vs,.agg (xvT e)] w fun r w'=>r = .returned (.tuple #[])∧∃ v',BagAt w' 72 30 b off v' (insD dT l e).length ((insD dT l e).map itvT).flatten∧BagK b off v v' w w':=by
 have hf : decide (∃ a ∈ l,dT a = dT e) = false:=decide_eq_false fun ⟨a,ha,hd⟩=>hne a ha hd
 obtain ⟨i,hi⟩ : ∃ i,i = cntD dT l (dT e):=⟨_,rfl⟩
 have hil : i ≤ l.length:=by rw [hi]; exact cntD_le _ _ _
 have hbl:=h.lt
 have hbk:=h.blk
 obtain ⟨W0,hW0⟩ : ∃ W0,W0 = (w.alloc (.cells (dT e).vs 33)).alloc (.cells (xvT e) 68):=⟨_,rfl⟩
 have hB0 : Below w.heap.size w W0:=by rw [hW0]; exact ((Below.refl _ _).alloc (Nat.le_refl _) _).alloc (by simp) _
 have hz0 : W0.heap.size = w.heap.size + 2:=by rw [hW0]; simp
 have hx1 : W0.heap[w.heap.size]? = some (.cells (dT e).vs 33 (0,0)):=by
  rw [hW0]
  exact (((Below.refl (w.heap.size + 1) (w.alloc (.cells (dT e).vs 33))).alloc (by simp) (.cells (xvT e) 68)).block w.heap.size (by omega)).trans (heap_alloc_new w _)
 have hx2 : W0.heap[w.heap.size + 1]? = some (.cells (xvT e) 68 (0,0)):=by
  rw [hW0]
  have:=heap_alloc_new (w.alloc (.cells (dT e).vs 33)) (.cells (xvT e) 68)
  simpa using this
 have hbag0 : BagAt W0 72 30 b off v l.length (l.map itvT).flatten:=h.keep (hB0.block b hbl) fun g hg=>hB0.block g (hbk g hg)
 have hpl:=placeWT W0 b off v l (dT e) hbag0 hs hl false hf.symm
 rw [← hi,hW0] at hpl
 have hlen : ((l.map itvT).flatten).length = l.length * 30:=by
  rw [flat_len (sz:=30) _ fun r hr=>by obtain ⟨a,_,rfl⟩:=List.mem_map.1 hr; rfl,List.length_map]
 refine (putRoadT w b off i v e (dT e).R (dT e).N (xvT e).toList (fun w1=>Below W0.heap.size W0 w1) (fun w1 v' w2=>w2.ownsRow 0 72 30 v' (insD dT l e).length ((insD dT l e).map itvT).flatten∧(w1.drew.alloc (.cells (itvT e).toArray 72)).grownBy w2 v.ownBlock∧(v'.ownBlock = v.ownBlock ∨ v'.ownBlock = some (w1.heap.size + 1))) rfl rfl ?_ ?_).mono ?_
 ·have : #[Value.int IntKind.i64 (dT e).R,Value.int IntKind.i64 (dT e).N] = (dT e).vs:=rfl
  rw [this,hW0]
  exact hpl
 ·intro w1 Q a0 id ops hK hops hdep hz e0 e4 e5 e6 hQ
  have hB1 : Below w.heap.size w w1:=hB0.trans (hK.mono (by omega))
  have hbag1 : BagAt w1 72 30 b off v l.length (l.map itvT).flatten:=h.keep (hB1.block b hbl) fun g hg=>hB1.block g (hbk g hg)
  refine putRegionT hops hdep hz b off w.heap.size (w.heap.size + 1) i v e _ e0 e4 e5 e6 hbag1.cell (fun j u hj=>?_) (fun j u hj=>?_) ?_ (fun v' w2 hj=>?_) hQ
  ·rw [cell_of_row _ _ (0 + j) _ _ _ ((hK.block w.heap.size (by omega)).trans hx1),Nat.zero_add]
   simpa using hj
  ·rw [cell_of_row _ _ (0 + j) _ _ _ ((hK.block (w.heap.size + 1) (by omega)).trans hx2),Nat.zero_add]
   simpa using hj
  ·have hW : (w1.drew.alloc (.cells (itvT e).toArray 72)).heap[w1.heap.size]? = some (.cells (itvT e).toArray 72 (0,0)):=heap_alloc_new w1.drew _
   have hB2 : Below w1.heap.size w1 (w1.drew.alloc (.cells (itvT e).toArray 72)):=(Below.refl _ _).drew.alloc (Nat.le_refl _) _
   have hbag2 : BagAt (w1.drew.alloc (.cells (itvT e).toArray 72)) 72 30 b off v l.length (l.map itvT).flatten:=hbag1.keep (hB2.block b hbag1.lt) fun g hg=>hB2.block g (hbag1.blk g hg)
   refine (insertT _ v l.length i _ w1.heap.size (itvT e) hil hbag2.own (flat_one itvT_one l) hW (fun hg=>?_) (itvT_len e) (itvT_one e) hl).mono ?_
   ·have:=hbag1.blk _ hg; omega
   ·rintro r w2 ⟨v',rfl,q1,q2,q3⟩
    refine ⟨v',rfl,?_,q2,?_⟩
    ·rw [insD_len,insD_flat itvT_len,← hi]; exact q1
    ·rcases q3 with h | h
     ·exact .inl h
     ·refine .inr (h.trans ?_)
      simp
  ·obtain ⟨hown,hgr,_⟩:=hj
   have hB2 : Below w1.heap.size w1 (w1.drew.alloc (.cells (itvT e).toArray 72)):=(Below.refl _ _).drew.alloc (Nat.le_refl _) _
   have hb2 : w2.heap[b]? = w.heap[b]?:=((hgr.block b (by have:=hbag1.lt; simp; omega) (fun e=>h.ne e.symm)).trans (hB2.block b hbag1.lt)).trans (hB1.block b hbl)
   refine ⟨⟨v,(World.cell?_of_block (a:=⟨b,off,none⟩) hb2).trans h.cell⟩,(World.frozen?_of_block (a:=⟨b,off,none⟩) hb2).trans hfz,?_⟩
   rcases hown.2 with ⟨e1,_⟩ | ⟨g,cap,cur,e1,_⟩ <;> (rw [e1]; exact ⟨rfl,rfl⟩)
 ·rintro r w' ⟨rfl,w1,v',w2,hK,⟨hown,hgr,hnew⟩,rfl⟩
  have hB1 : Below w.heap.size w w1:=hB0.trans (hK.mono (by omega))
  have hz1:=hB1.size
  have hB2 : Below w1.heap.size w1 (w1.drew.alloc (.cells (itvT e).toArray 72)):=(Below.refl _ _).drew.alloc (Nat.le_refl _) _
  have hz2 : (w1.drew.alloc (.cells (itvT e).toArray 72)).heap.size = w1.heap.size + 1:=by simp
  have hgz:=hgr.size
  have hold : ∀ g,g < w.heap.size→v.ownBlock ≠ some g→w2.heap[g]? = w.heap[g]?:=fun g hg hne=>((hgr.block g (by omega) (fun e=>hne e.symm)).trans (hB2.block g (by omega))).trans (hB1.block g hg)
  have hb2:=hold b hbl h.ne
  have hvb : v'.ownBlock ≠ some b:=fun hg=>by
   rcases hnew with e | e
   ·exact h.ne (e ▸ hg)
   ·rw [e] at hg; injection hg with hg; omega
  refine ⟨rfl,v',⟨World.cell?_setCell_same w2 ⟨b,off,none⟩ _ ((World.cell?_of_block (a:=⟨b,off,none⟩) hb2).trans h.cell),⟨hown.1,?_⟩,hvb⟩,⟨hgr.os.trans hB1.os,hgr.tape.trans hB1.tape,hgr.output.trans hB1.output,by rw [World.size_setCell]; omega,fun g hg hgb hgv=>?_,fun A t fz hA=>?_,?_⟩⟩
  ·rcases hown.2 with h1 | ⟨g,cap,cur,h1,h2,h3,r⟩
   ·exact .inl h1
   ·exact .inr ⟨g,cap,cur,h1,h2,(heap_setCell_other _ _ _ _ (fun e=>hvb (by rw [h1]; exact congrArg some e))).trans h3,r⟩
  ·exact (heap_setCell_other _ _ _ _ (by simpa using hgb)).trans (hold g hg hgv)
  ·rw [setCell_eq_setRow w2 b off A t fz v' (hb2.trans hA)]
   exact setRow_heap w2 b A _ t _ (hb2.trans hA)
  ·rcases hnew with e | e
   ·exact .inl e
   ·exact .inr fun g hg=>by rw [e] at hg; injection hg with hg; omega
end Go.Proofs.Ytdnaadcbimbfmaa
namespace Go.Proofs.Ytdnaadcbimbfmaa
open Go Go.RowKit Am
set_option maxHeartbeats 4000000 in
set_option maxRecDepth 100000 in
theorem remRoadT (w : World) (b off i : Nat) (v v0 : Value) (R N : Int) (K : World→Prop) (J : World→Value→World→Prop)
  (hpl : Hid (Calls Try.prog 55 #[.pointer (some ⟨b,off,none⟩),.agg #[.int .i64 R,.int .i64 N]] (w.alloc (.cells #[.int .i64 R,.int .i64 N] 33)) fun r w1=>r = .returned (.tuple #[.int .i64 i,.bool true])∧K w1))
  (hi : IntKind.i64.wrap ((i : Int) + 1) = (i : Int) + 1)
  (hK : Hid (∀ w1,K w1→w1.cell? ⟨b,off,none⟩ = some v∧Calls Try.prog 85 #[v,.int .i64 i,.int .i64 ((i : Int) + 1)] w1 fun r w2=>∃ v',r = .returned v'∧J w1 v' w2))
  (hJ : Hid (∀ w1 v' w2,K w1→J w1 v' w2→w2.cell? ⟨b,off,none⟩ = some v∧w2.frozen? ⟨b,off,none⟩ = false∧∃ a n c,v' = .slice a n c)) :
  Calls Try.prog 60 #[.pointer (some ⟨b,off,none⟩),.agg #[.int .i64 R,.int .i64 N]] w fun r w'=>r = .returned (.bool true)∧∃ w1 v' w2,K w1∧J w1 v' w2∧w' = w2.setCell ⟨b,off,none⟩ v':=by
 go_enter Try.func60,Try.ntmps60
 go_wp2_with (first | (go_at_call 55; refine Calls.mono hpl ?_; rintro e' w1 ⟨rfl,hk⟩; have hc:=(hK w1 hk).1; have hd : Hid _:=(hK w1 hk).2) | (go_at_call 85; refine Calls.mono hd ?_; rintro e' w2 ⟨v',rfl,hj⟩; obtain ⟨hc2,hf2,a,n,c,rfl⟩:=hJ w1 v' w2 hk hj))
 go_ret
 exact ⟨rfl,w1,_,w2,hk,hj,rfl⟩
theorem removeT (w : World) (b off : Nat) (v : Value) (l : List ElT) (x : Dt) (h : BagAt w 72 30 b off v l.length (l.map itvT).flatten) (hfz : w.frozen? ⟨b,off,none⟩ = false) (hs : Rise dT l) (hin : ∃ a ∈ l,dT a = x) (hl : l.length ≤ 1000000) :
  Calls Try.prog 60 #[.pointer (some ⟨b,off,none⟩),.agg x.vs] w fun r w'=>r = .returned (.bool true)∧∃ v',BagAt w' 72 30 b off v' (delD dT l x).length ((delD dT l x).map itvT).flatten∧BagK b off v v' w w':=by
 have ht : decide (∃ a ∈ l,dT a = x) = true:=decide_eq_true hin
 obtain ⟨c,hc,hcx⟩:=hin
 obtain ⟨i,hi⟩:=List.getElem?_of_mem hc
 have hci : cntD dT l x = i:=cntD_at hs hi hcx
 have hil : i < l.length:=(List.getElem?_eq_some_iff.1 hi).1
 have hbl:=h.lt
 have hbk:=h.blk
 obtain ⟨W0,hW0⟩ : ∃ W0,W0 = w.alloc (.cells x.vs 33):=⟨_,rfl⟩
 have hB0 : Below w.heap.size w W0:=by rw [hW0]; exact (Below.refl _ _).alloc (Nat.le_refl _) _
 have hz0 : W0.heap.size = w.heap.size + 1:=by rw [hW0]; simp
 have hbag0 : BagAt W0 72 30 b off v l.length (l.map itvT).flatten:=h.keep (hB0.block b hbl) fun g hg=>hB0.block g (hbk g hg)
 have hpl:=placeWT W0 b off v l x hbag0 hs hl true ht.symm
 rw [hci,hW0] at hpl
 have hr : ∀ r ∈ l.map itvT,r.length = 30:=fun r hr=>by obtain ⟨a,_,rfl⟩:=List.mem_map.1 hr; rfl
 have hfl : ((delD dT l x).map itvT).flatten = (l.map itvT).flatten.take (i * 30) ++ (l.map itvT).flatten.drop ((i + 1) * 30):=by
  rw [delD_at hs hi hcx,take_flat _ hr,drop_flat _ hr,List.map_append,List.flatten_append,List.map_take,List.map_drop]
 have hdl : (delD dT l x).length = l.length - 1:=by
  rw [delD_at hs hi hcx,List.length_append,List.length_take,List.length_drop]; omega
 refine (remRoadT w b off i v v x.R x.N (fun w1=>Below W0.heap.size W0 w1) (fun w1 v' w2=>w2.ownsRow 0 72 30 v' (delD dT l x).length ((delD dT l x).map itvT).flatten∧w1.grownBy w2 v.ownBlock∧v'.ownBlock = v.ownBlock) ?_ (by rw [IntKind.wrap_i64]; omega) ?_ ?_).mono ?_
 ·have : #[Value.int IntKind.i64 x.R,Value.int IntKind.i64 x.N] = x.vs:=rfl
  rw [this,hW0]
  exact hpl
 ·intro w1 hK
  have hB1 : Below w.heap.size w w1:=hB0.trans (hK.mono (by omega))
  have hbag1 : BagAt w1 72 30 b off v l.length (l.map itvT).flatten:=h.keep (hB1.block b hbl) fun g hg=>hB1.block g (hbk g hg)
  refine ⟨hbag1.cell,(deleteT w1 v l.length i _ hil hbag1.own (flat_one itvT_one l) hl).mono ?_⟩
  rintro r w2 ⟨v',rfl,q1,q2,q3⟩
  refine ⟨v',rfl,?_,q2,q3⟩
  rw [hdl,hfl]; exact q1
 ·rintro w1 v' w2 hK ⟨hown,hgr,hnew⟩
  have hB1 : Below w.heap.size w w1:=hB0.trans (hK.mono (by omega))
  have hz1:=hB1.size
  have hb2 : w2.heap[b]? = w.heap[b]?:=(hgr.block b (by omega) (fun e=>h.ne e.symm)).trans (hB1.block b hbl)
  refine ⟨(World.cell?_of_block (a:=⟨b,off,none⟩) hb2).trans h.cell,(World.frozen?_of_block (a:=⟨b,off,none⟩) hb2).trans hfz,?_⟩
  rcases hown.2 with ⟨e1,_⟩ | ⟨g,cap,cur,e1,_⟩ <;> exact ⟨_,_,_,e1⟩
 ·rintro r w' ⟨rfl,w1,v',w2,hK,⟨hown,hgr,hnew⟩,rfl⟩
  have hB1 : Below w.heap.size w w1:=hB0.trans (hK.mono (by omega))
  have hz1:=hB1.size
  have hgz:=hgr.size
  have hold : ∀ g,g < w.heap.size→v.ownBlock ≠ some g→w2.heap[g]? = w.heap[g]?:=fun g hg hne=>(hgr.block g (by omega) (fun e=>hne e.symm)).trans (hB1.block g hg)
  have hb2:=hold b hbl h.ne
  have hvb : v'.ownBlock ≠ some b:=by rw [hnew]; exact h.ne
  refine ⟨rfl,v',⟨World.cell?_setCell_same w2 ⟨b,off,none⟩ _ ((World.cell?_of_block (a:=⟨b,off,none⟩) hb2).trans h.cell),⟨hown.1,?_⟩,hvb⟩,⟨hgr.os.trans hB1.os,hgr.tape.trans hB1.tape,hgr.output.trans hB1.output,by rw [World.size_setCell]; omega,fun g hg hgb hgv=>?_,fun A t fz hA=>?_,.inl hnew⟩⟩
  ·rcases hown.2 with h1 | ⟨g,cap,cur,h1,h2,h3,r⟩
   ·exact .inl h1
   ·exact .inr ⟨g,cap,cur,h1,h2,(heap_setCell_other _ _ _ _ (fun e=>hvb (by rw [h1]; exact congrArg some e))).trans h3,r⟩
  ·exact (heap_setCell_other _ _ _ _ (by simpa using hgb)).trans (hold g hg hgv)
  ·rw [setCell_eq_setRow w2 b off A t fz v' (hb2.trans hA)]
   exact setRow_heap w2 b A _ t _ (hb2.trans hA)
end Go.Proofs.Ytdnaadcbimbfmaa
namespace Go.Proofs.Ytdnaadcbimbfmaa
open Go Go.RowKit Am
structure Ent where
 lv : List ElE
 dd : List ElT
structure Sp where
 ks : List ByteArray
 es : List Ent
 vv : VV
 tm : Int
inductive Tag
 | sp | mp | en (i : Nat) | lv (i : Nat) | dd (i : Nat)
 deriving DecidableEq
structure EntAt (w : World) (o : Nat→Option Tag) (i : Nat) (en : Ent) (a : Nat) (v u : Value) : Prop where
 at' : w.heap[a]? = some (.cells #[v,u] 81 (0,0))
 lv : w.ownsRow 0 65 28 v en.lv.length (en.lv.map itvE).flatten
 dd : w.ownsRow 0 72 30 u en.dd.length (en.dd.map itvT).flatten
 oa : o a = some (.en i)
 ol : ∀ g,v.ownBlock = some g→o g = some (.lv i)
 od : ∀ g,u.ownBlock = some g→o g = some (.dd i)
def spV (mv : Value) (x : VV) (t : Int) : Array Value:=#[mv,vI (x 0),vI (x 1),vI (x 2),vI (x 3),vI (x 4),vI (x 5),vI (x 6),vI (x 7),vI (x 8),vI (x 9),vI (x 10),vI (x 11),vI (x 12),vI (x 13),vI (x 14),vI (x 15),vI t]
structure Lay where
 o : Nat→Option Tag
 pt : Nat→Nat
structure MapAt (w : World) (L : Lay) (σ : Sp) (m : Nat) (es : Array MapEntry) (clock : Nat) : Prop where
 om : L.o m = some .mp
 at' : w.heap[m]? = some (.map es clock)
 keys : es.toList.map (·.key) = σ.ks.map Value.string
 nd : (es.toList.map (·.born)).Nodup
 bd : ∀ x ∈ es.toList,x.born < clock
 ents : ∀ (i : Nat) (e : MapEntry) (en : Ent),es.toList[i]? = some e→σ.es[i]? = some en→e.val = .pointer (some ⟨L.pt i,0,none⟩)∧∃ v u,EntAt w L.o i en (L.pt i) v u
structure SpAt (w : World) (L : Lay) (p : Nat) (σ : Sp) (mv : Value) : Prop where
 at' : w.heap[p]? = some (.cells (spV mv σ.vv σ.tm) 52 (0,0))
 op : L.o p = some .sp
 dom : ∀ g t,L.o g = some t→g < w.heap.size
 len : σ.es.length = σ.ks.length
 nd : σ.ks.Nodup
 mp : (mv = .map none∧σ.ks = []) ∨ (σ.ks ≠ []∧∃ m es clock,mv = .map (some m)∧MapAt w L σ m es clock)
theorem ownsRow.keep {w w' : World} {e sz n : Nat} {v : Value} {xs : List Value} (h : w.ownsRow 0 e sz v n xs) (hb : ∀ g,v.ownBlock = some g→w'.heap[g]? = w.heap[g]?) : w'.ownsRow 0 e sz v n xs:=by
 refine ⟨h.1,?_⟩
 rcases h.2 with h | ⟨g,cap,cur,h1,h2,h3,r⟩
 ·exact .inl h
 ·exact .inr ⟨g,cap,cur,h1,h2,by rw [hb g (by rw [h1]; rfl)]; exact h3,r⟩
def tagOf (i : Nat) (t : Tag) : Prop:=t = .en i ∨ t = .lv i ∨ t = .dd i
theorem EntAt.keep {w w' : World} {o o' : Nat→Option Tag} {i : Nat} {en : Ent} {a : Nat} {v u : Value} (h : EntAt w o i en a v u) (hw : ∀ g t,o g = some t→tagOf i t→w'.heap[g]? = w.heap[g]?∧o' g = some t) : EntAt w' o' i en a v u :=
 ⟨(hw a _ h.oa (.inl rfl)).1.trans h.at',ownsRow.keep h.lv fun g hg=>(hw g _ (h.ol g hg) (.inr (.inl rfl))).1,ownsRow.keep h.dd fun g hg=>(hw g _ (h.od g hg) (.inr (.inr rfl))).1,
  (hw a _ h.oa (.inl rfl)).2,fun g hg=>(hw g _ (h.ol g hg) (.inr (.inl rfl))).2,fun g hg=>(hw g _ (h.od g hg) (.inr (.inr rfl))).2⟩
theorem SpAt.keep {w w' : World} {L : Lay} {p : Nat} {σ : Sp} {mv : Value} (h : SpAt w L p σ mv) (hw : ∀ g t,L.o g = some t→w'.heap[g]? = w.heap[g]?) (hz : w.heap.size ≤ w'.heap.size) : SpAt w' L p σ mv:=by
 refine ⟨(hw p _ h.op).trans h.at',h.op,fun g t hg=>Nat.lt_of_lt_of_le (h.dom g t hg) hz,h.len,h.nd,?_⟩
 rcases h.mp with h1 | ⟨h0,m,es,clock,h1,hm⟩
 ·exact .inl h1
 ·refine .inr ⟨h0,m,es,clock,h1,hm.om,(hw m _ hm.om).trans hm.at',hm.keys,hm.nd,hm.bd,fun i e en he hen=>?_⟩
  obtain ⟨q1,v,u,q2⟩:=hm.ents i e en he hen
  exact ⟨q1,v,u,q2.keep fun g t hg _=>⟨hw g t hg,hg⟩⟩
theorem SpAt.below {w w' : World} {L : Lay} {p : Nat} {σ : Sp} {mv : Value} (h : SpAt w L p σ mv) (hw : Below w.heap.size w w') : SpAt w' L p σ mv:=h.keep (fun g t hg=>hw.block g (h.dom g t hg)) hw.size
theorem MapAt.ent {w : World} {L : Lay} {σ : Sp} {m : Nat} {es : Array MapEntry} {clock : Nat} (h : MapAt w L σ m es clock) (hl : σ.es.length = σ.ks.length) {i : Nat} {k : ByteArray} (hk : σ.ks[i]? = some k) : ∃ e en v u,es.toList[i]? = some e∧σ.es[i]? = some en∧e.key = .string k∧e.val = .pointer (some ⟨L.pt i,0,none⟩)∧EntAt w L.o i en (L.pt i) v u:=by
 have hi:=(List.getElem?_eq_some_iff.1 hk).1
 have hel : es.toList.length = σ.ks.length:=by have:=congrArg List.length h.keys; simpa using this
 have h1 : es.toList[i]? = some es.toList[i]:=List.getElem?_eq_getElem (by omega)
 have h2 : σ.es[i]? = some σ.es[i]:=List.getElem?_eq_getElem (by omega)
 obtain ⟨q1,v,u,q2⟩:=h.ents i _ _ h1 h2
 refine ⟨_,_,v,u,h1,h2,?_,q1,q2⟩
 have:=congrArg (·[i]?) h.keys
 simp only [List.getElem?_map,h1,hk,Option.map_some] at this
 injection this
theorem SpAt.ent {w : World} {L : Lay} {p : Nat} {σ : Sp} {mv : Value} (h : SpAt w L p σ mv) {i : Nat} {en : Ent} (hen : σ.es[i]? = some en) : ∃ v u,EntAt w L.o i en (L.pt i) v u:=by
 have hi:=(List.getElem?_eq_some_iff.1 hen).1
 rcases h.mp with ⟨_,h1⟩ | ⟨_,m,es,clock,_,hm⟩
 ·have:=h.len; rw [h1] at this; simp at this; rw [this] at hen; simp at hen
 ·obtain ⟨e,en',v,u,_,h2,_,_,h5⟩:=hm.ent h.len (List.getElem?_eq_getElem (by rw [← h.len]; exact hi))
  rw [hen] at h2
  injection h2 with h2
  exact ⟨v,u,by rw [h2]; exact h5⟩
open Classical in
noncomputable def Sp.at (σ : Sp) (key : ByteArray) : Sp:=if key ∈ σ.ks then σ else { σ with ks:=σ.ks ++ [key],es:=σ.es ++ [⟨[],[]⟩] }
theorem fnd_some {s : ByteArray} : ∀ (ks : List ByteArray) (es : List MapEntry) (i n : Nat) (e : MapEntry),es.map (·.key) = ks.map Value.string→ks.Nodup→ks[n]? = some s→es[n]? = some e→fnd ks es s i = some (i + n,e.val)
 | [],_,_,_,_,_,_,h,_=>by simp at h
 | _ :: _,[],_,_,_,h,_,_,_=>by cases h
 | k :: ks,x :: es,i,n,e,hk,hnd,h1,h2=>by
  simp only [List.map_cons,List.cons.injEq] at hk
  rw [List.nodup_cons] at hnd
  unfold fnd
  cases n with
  | zero =>
   have e1 : k = s:=by simpa using h1
   have e2 : x = e:=by simpa using h2
   rw [if_pos e1,e2]; rfl
  | succ n =>
   have h1' : ks[n]? = some s:=by simpa using h1
   rw [if_neg (show ¬ k = s from fun e=>hnd.1 (e ▸ List.mem_of_getElem? h1')),fnd_some ks es (i + 1) n e hk.2 hnd.2 h1' (by simpa using h2)]
   congr 2
   omega
theorem fnd_none {s : ByteArray} : ∀ (ks : List ByteArray) (es : List MapEntry) (i : Nat),s ∉ ks→fnd ks es s i = none
 | [],_,_,_=>by cases ‹List MapEntry› <;> rfl
 | _ :: _,[],_,_=>rfl
 | k :: ks,x :: es,i,h=>by
  unfold fnd
  rw [if_neg (show ¬ k = s from fun e=>h (e ▸ List.mem_cons_self)),fnd_none ks es (i + 1) fun hm=>h (List.mem_cons_of_mem _ hm)]
set_option maxRecDepth 100000 in
theorem lookW {w w' : World} {o : Lay} {σ : Sp} {m : Nat} {es : Array MapEntry} {clock : Nat} (h : MapAt w o σ m es clock) (hm : w'.heap[m]? = w.heap[m]?) (key : ByteArray) (v : Value) (hv : (fnd σ.ks es.toList key 0).map (·.2) = some v ∨ (fnd σ.ks es.toList key 0 = none∧v = .pointer none)) :
  (Instr.lookup 50 (.map (some m)) (.string key) false).run Try.prog w' = .ok v w':=by
 obtain ⟨hu,hk⟩:=(gam_ok 50 _ rfl).kind
 have hg:=getObj_map (P:=Try.prog) (hm.trans h.at')
 have hf:=findKey_str (P:=Try.prog) hk key σ.ks es.toList h.keys w'
 have hzv : (zeroValue 74).run Try.prog w' = .ok (.pointer none) w':=by kernel_rfl
 cases hfd : fnd σ.ks es.toList key 0 with
 | none =>
  rcases hv with hv | ⟨_,rfl⟩
  ·rw [hfd] at hv; cases hv
  ·simp [Instr.lookup,run_underlying hu,hg,checkKey_str _ 9999 hk,hf,hfd,hzv]
 | some jy =>
  obtain ⟨j,y⟩:=jy
  rcases hv with hv | ⟨hv,_⟩
  ·rw [hfd] at hv
   injection hv with hv
   simp only at hv
   subst hv
   simp [Instr.lookup,run_underlying hu,hg,checkKey_str _ 9999 hk,hf,hfd,hzv]
  ·rw [hfd] at hv; cases hv
end Go.Proofs.Ytdnaadcbimbfmaa
namespace Go.Proofs.Ytdnaadcbimbfmaa
open Go Go.RowKit Am
theorem updW {w : World} {ks : List ByteArray} {m : Nat} {es : Array MapEntry} {clock : Nat} (hm : w.heap[m]? = some (.map es clock)) (hks : es.toList.map (·.key) = ks.map Value.string) (key : ByteArray) (v : Value) (hn : key ∉ ks) :
  (Instr.mapUpdate 50 (.map (some m)) (.string key) v).run Try.prog w = .ok () { w with heap:=w.heap.setIfInBounds m (.map (es.push { key:=.string key,val:=v,born:=clock }) (clock + 1)) }:=by
 obtain ⟨hu,hk⟩:=(gam_ok 50 _ rfl).kind
 have hg:=getObj_map (P:=Try.prog) hm
 have hf:=findKey_str (P:=Try.prog) hk key ks es.toList hks w
 have hfd:=fnd_none (s:=key) ks es.toList 0 hn
 have hso:=setObj_map (P:=Try.prog) (Obj.map (es.push { key:=.string key,val:=v,born:=clock }) (clock + 1)) hm
 simp [Instr.mapUpdate,run_underlying hu,hg,checkKey_str _ 9999 hk,hf,hfd,hso]
theorem eqMapIn (d : Nat) (a : Option Nat) (w : World) : (Op.equalIn (d + 1) 50 (.map a) (.map none)).run Try.prog w = .ok a.isNone w:=by
 obtain ⟨hu,_⟩:=(gam_ok 50 _ rfl).kind
 cases a <;> simp [Op.equalIn,run_underlying hu]
theorem eqMapNil (a : Option Nat) (w : World) : (binOp .eql 50 (.map a) (.map none)).run Try.prog w = .ok (.bool a.isNone) w:=by
 simp only [binOp]
 simp [Op.equal,Op.maxDepth,eqMapIn 9999 a w]
set_option maxHeartbeats 4000000 in
set_option maxRecDepth 100000 in
theorem atHit (w : World) (p m a : Nat) (key : ByteArray) (hc : w.cell? ⟨p,0,none⟩ = some (.map (some m))) (hl : (Instr.lookup 50 (.map (some m)) (.string key) false).run Try.prog w = .ok (.pointer (some ⟨a,0,none⟩)) w) :
  Calls Try.prog 27 #[.pointer (some ⟨p,0,none⟩),.string key] w fun e w'=>e = .returned (.pointer (some ⟨a,0,none⟩))∧w' = w:=by
 have hnil:=eqMapNil (some m) w
 go_enter Try.func27,Try.ntmps27
 go_wp2
 go_ret
 exact ⟨rfl,rfl⟩
def setMap (w : World) (m : Nat) (es : Array MapEntry) (clock : Nat) : World:={ w with heap:=w.heap.setIfInBounds m (.map es clock) }
set_option maxHeartbeats 4000000 in
set_option maxRecDepth 100000 in
theorem atMiss (w : World) (p m : Nat) (key : ByteArray) (es' : Array MapEntry) (c' : Nat) (hc : w.cell? ⟨p,0,none⟩ = some (.map (some m))) (hp : p ≠ m) (hpl : p < w.heap.size)
  (hl : (Instr.lookup 50 (.map (some m)) (.string key) false).run Try.prog w = .ok (.pointer none) w)
  (hu : (Instr.mapUpdate 50 (.map (some m)) (.string key) (.pointer (some ⟨w.heap.size,0,none⟩))).run Try.prog (w.alloc (.cells #[.slice none 0 0,.slice none 0 0] 81)) = .ok () (setMap (w.alloc (.cells #[.slice none 0 0,.slice none 0 0] 81)) m es' c'))
  (hl2 : (Instr.lookup 50 (.map (some m)) (.string key) false).run Try.prog (setMap (w.alloc (.cells #[.slice none 0 0,.slice none 0 0] 81)) m es' c') = .ok (.pointer (some ⟨w.heap.size,0,none⟩)) (setMap (w.alloc (.cells #[.slice none 0 0,.slice none 0 0] 81)) m es' c')) :
  Calls Try.prog 27 #[.pointer (some ⟨p,0,none⟩),.string key] w fun e w'=>e = .returned (.pointer (some ⟨w.heap.size,0,none⟩))∧w' = setMap (w.alloc (.cells #[.slice none 0 0,.slice none 0 0] 81)) m es' c':=by
 have hnil:=eqMapNil (some m) w
 have hc2 : (w.alloc (.cells #[.slice none 0 0,.slice none 0 0] 81)).cell? ⟨p,0,none⟩ = some (.map (some m)):=Lib.cell?_alloc_some _ hc
 have hc3 : (setMap (w.alloc (.cells #[.slice none 0 0,.slice none 0 0] 81)) m es' c').cell? ⟨p,0,none⟩ = some (.map (some m)):=by
  rw [← hc2]
  refine World.cell?_of_block (a:=⟨p,0,none⟩) ?_
  show (Array.setIfInBounds _ m _)[p]? = _
  rw [Array.getElem?_setIfInBounds_ne (fun e=>hp e.symm)]
 go_enter Try.func27,Try.ntmps27
 go_wp2
 go_ret
 exact ⟨rfl,rfl⟩
def newW (w : World) (p : Nat) : World:=(w.setCell ⟨p,0,none⟩ (.map (some w.heap.size))).alloc (.map #[] 0)
set_option maxHeartbeats 4000000 in
set_option maxRecDepth 100000 in
theorem atNew (w : World) (p : Nat) (key : ByteArray) (es' : Array MapEntry) (c' : Nat) (hc : w.cell? ⟨p,0,none⟩ = some (.map none)) (hf : w.frozen? ⟨p,0,none⟩ = false) (hpl : p < w.heap.size)
  (hl : (Instr.lookup 50 (.map (some w.heap.size)) (.string key) false).run Try.prog (newW w p) = .ok (.pointer none) (newW w p))
  (hu : (Instr.mapUpdate 50 (.map (some w.heap.size)) (.string key) (.pointer (some ⟨w.heap.size + 1,0,none⟩))).run Try.prog ((newW w p).alloc (.cells #[.slice none 0 0,.slice none 0 0] 81)) = .ok () (setMap ((newW w p).alloc (.cells #[.slice none 0 0,.slice none 0 0] 81)) w.heap.size es' c'))
  (hl2 : (Instr.lookup 50 (.map (some w.heap.size)) (.string key) false).run Try.prog (setMap ((newW w p).alloc (.cells #[.slice none 0 0,.slice none 0 0] 81)) w.heap.size es' c') = .ok (.pointer (some ⟨w.heap.size + 1,0,none⟩)) (setMap ((newW w p).alloc (.cells #[.slice none 0 0,.slice none 0 0] 81)) w.heap.size es' c')) :
  Calls Try.prog 27 #[.pointer (some ⟨p,0,none⟩),.string key] w fun e w'=>e = .returned (.pointer (some ⟨w.heap.size + 1,0,none⟩))∧w' = setMap ((newW w p).alloc (.cells #[.slice none 0 0,.slice none 0 0] 81)) w.heap.size es' c':=by
 have hnil:=eqMapNil none w
 have hmk : (Instr.makeMap 50 none).run Try.prog w = .ok (.map (some w.heap.size)) (w.alloc (.map #[] 0)):=by kernel_rfl
 have hc2 : (w.alloc (.map #[] 0)).cell? ⟨p,0,none⟩ = some (.map none):=Lib.cell?_alloc_some _ hc
 have hc3 : (setMap ((newW w p).alloc (.cells #[.slice none 0 0,.slice none 0 0] 81)) w.heap.size es' c').cell? ⟨p,0,none⟩ = some (.map (some w.heap.size)):=by
  have h1 : ((newW w p).alloc (.cells #[.slice none 0 0,.slice none 0 0] 81)).cell? ⟨p,0,none⟩ = some (.map (some w.heap.size)):=Lib.cell?_alloc_some _ (Lib.cell?_alloc_some _ (World.cell?_setCell_same w ⟨p,0,none⟩ _ hc))
  rw [← h1]
  refine World.cell?_of_block (a:=⟨p,0,none⟩) ?_
  show (Array.setIfInBounds _ w.heap.size _)[p]? = _
  rw [Array.getElem?_setIfInBounds_ne (by omega)]
 unfold newW at hl hu hl2 hc3 ⊢
 go_enter Try.func27,Try.ntmps27
 go_wp2
 go_ret
 exact ⟨rfl,rfl⟩
end Go.Proofs.Ytdnaadcbimbfmaa
namespace Go.Proofs.Ytdnaadcbimbfmaa
open Go Go.RowKit Am
structure Ext (L L' : Lay) (n : Nat) : Prop where
 o : ∀ g t,L.o g = some t→L'.o g = some t
 new : ∀ g,L'.o g ≠ none→L.o g ≠ none ∨ n ≤ g
theorem Ext.refl (L : Lay) (n : Nat) : Ext L L n:=⟨fun _ _ h=>h,fun _ h=>.inl h⟩
theorem Ext.trans {L L1 L2 : Lay} {n n' : Nat} (h : Ext L L1 n) (k : Ext L1 L2 n') (hn : n ≤ n') : Ext L L2 n :=
 ⟨fun g t hg=>k.o g t (h.o g t hg),fun g hg=>(k.new g hg).elim (h.new g) fun h'=>.inr (Nat.le_trans hn h')⟩
abbrev Lay.dom (L : Lay) (g : Nat) : Prop:=L.o g ≠ none
def Sp.set (σ : Sp) (i : Nat) (en : Ent) : Sp:={ σ with es:=σ.es.set i en }
theorem SpAt.chg {w w' : World} {L L' : Lay} {p n : Nat} {σ : Sp} {mv : Value} (h : SpAt w L p σ mv) {i : Nat} {en' : Ent} (hx : Ext L L' n) (hpt : L'.pt = L.pt) (hold : ∀ g t,L.o g = some t→¬ tagOf i t→w'.heap[g]? = w.heap[g]?) (hdom : ∀ g t,L'.o g = some t→g < w'.heap.size) (he : ∃ v u,EntAt w' L'.o i en' (L'.pt i) v u) : SpAt w' L' p (σ.set i en') mv:=by
 refine ⟨(hold p _ h.op (by simp [tagOf])).trans h.at',hx.o p _ h.op,hdom,by rw [Sp.set,List.length_set]; exact h.len,h.nd,?_⟩
 rcases h.mp with h1 | ⟨h0,m,es,clock,h1,hm⟩
 ·exact .inl h1
 ·refine .inr ⟨h0,m,es,clock,h1,hx.o m _ hm.om,(hold m _ hm.om (by simp [tagOf])).trans hm.at',hm.keys,hm.nd,hm.bd,fun j e en hje hen=>?_⟩
  have hjl : j < σ.es.length:=by have:=(List.getElem?_eq_some_iff.1 hen).1; rwa [Sp.set,List.length_set] at this
  obtain ⟨q1,v,u,q2⟩:=hm.ents j e _ hje (List.getElem?_eq_getElem hjl)
  refine ⟨by rw [hpt]; exact q1,?_⟩
  by_cases hij : i = j
  ·subst hij
   have : en' = en:=by
    simp only [Sp.set,List.getElem?_set_self hjl] at hen
    injection hen
   rw [← this]; exact he
  ·have : en = σ.es[j]:=by
    simp only [Sp.set,List.getElem?_set_ne hij,List.getElem?_eq_getElem hjl] at hen
    injection hen with hen; exact hen.symm
   rw [this,hpt]
   refine ⟨v,u,q2.keep fun g t hg ht=>⟨hold g t hg ?_,hx.o g t hg⟩⟩
   rcases ht with rfl | rfl | rfl <;> simp [tagOf] <;> exact fun e=>hij e.symm
theorem SpAt.putLv {w w' : World} {L : Lay} {p : Nat} {σ : Sp} {mv : Value} (h : SpAt w L p σ mv) {i : Nat} {en : Ent} {v u v' : Value} (he : EntAt w L.o i en (L.pt i) v u) {l : List ElE} (hb : BagAt w' 65 28 (L.pt i) 0 v' l.length (l.map itvE).flatten) (hk : BagK (L.pt i) 0 v v' w w') :
  ∃ L',SpAt w' L' p (σ.set i { en with lv:=l }) mv∧EntAt w' L'.o i { en with lv:=l } (L'.pt i) v' u∧Ext L L' w.heap.size∧L'.pt = L.pt∧Kp L.dom w w':=by
 have hnb : ∀ g,v'.ownBlock = some g→L.o g = some (.lv i) ∨ (L.o g = none∧w.heap.size ≤ g):=fun g hg=>by
  rcases hk.own with e | e
  ·exact .inl (he.ol g (e ▸ hg))
  ·have:=e g hg
   refine .inr ⟨?_,this⟩
   cases hog : L.o g with
   | none=>rfl
   | some t=>have:=h.dom g t hog; omega
 have hold : ∀ g t,L.o g = some t→t ≠ .en i→t ≠ .lv i→w'.heap[g]? = w.heap[g]?:=fun g t hg h1 h2=>hk.block g (h.dom g t hg) (fun e=>h1 (by rw [e,he.oa] at hg; injection hg with hg; exact hg.symm)) (fun e=>h2 (by rw [he.ol g e] at hg; injection hg with hg; exact hg.symm))
 have hx : Ext L ⟨fun g=>if v'.ownBlock = some g then some (.lv i) else L.o g,L.pt⟩ w.heap.size:=⟨fun g t hg=>by
   show (if v'.ownBlock = some g then some (Tag.lv i) else L.o g) = some t
   split
   ·rename_i e
    rcases hnb g e with h1 | ⟨h1,_⟩
    ·rw [h1] at hg; exact hg
    ·rw [h1] at hg; cases hg
   ·exact hg,fun g hg=>by
   have hg : (if v'.ownBlock = some g then some (Tag.lv i) else L.o g) ≠ none:=hg
   split at hg
   ·rename_i e
    rcases hnb g e with h1 | ⟨_,h1⟩
    ·exact .inl (by rw [h1]; simp)
    ·exact .inr h1
   ·exact .inl hg⟩
 have hent : EntAt w' (fun g=>if v'.ownBlock = some g then some (.lv i) else L.o g) i { en with lv:=l } (L.pt i) v' u:=by
  refine ⟨hk.blk _ _ _ he.at',hb.own,ownsRow.keep he.dd fun g hg=>hold g _ (he.od g hg) (by simp) (by simp),hx.o _ _ he.oa,fun g hg=>if_pos hg,fun g hg=>hx.o _ _ (he.od g hg)⟩
 refine ⟨_,h.chg hx rfl (fun g t hg ht=>hold g t hg (fun e=>ht (.inl e)) (fun e=>ht (.inr (.inl e)))) (fun g t hg=>?_) ⟨_,_,hent⟩,hent,hx,rfl,⟨hk.os,hk.tape,hk.output,hk.size,fun g hg hd=>hk.block g hg (fun e=>hd (by rw [e]; show L.o _ ≠ none; rw [he.oa]; simp)) (fun e=>hd (by show L.o _ ≠ none; rw [he.ol g e]; simp))⟩⟩
 have hg : (if v'.ownBlock = some g then some (Tag.lv i) else L.o g) = some t:=hg
 split at hg
 ·rename_i e; exact hb.blk g e
 ·exact Nat.lt_of_lt_of_le (h.dom g t hg) hk.size
theorem SpAt.putDd {w w' : World} {L : Lay} {p : Nat} {σ : Sp} {mv : Value} (h : SpAt w L p σ mv) {i : Nat} {en : Ent} {v u u' : Value} (he : EntAt w L.o i en (L.pt i) v u) {l : List ElT} (hb : BagAt w' 72 30 (L.pt i) 1 u' l.length (l.map itvT).flatten) (hk : BagK (L.pt i) 1 u u' w w') :
  ∃ L',SpAt w' L' p (σ.set i { en with dd:=l }) mv∧EntAt w' L'.o i { en with dd:=l } (L'.pt i) v u'∧Ext L L' w.heap.size∧L'.pt = L.pt∧Kp L.dom w w':=by
 have hnb : ∀ g,u'.ownBlock = some g→L.o g = some (.dd i) ∨ (L.o g = none∧w.heap.size ≤ g):=fun g hg=>by
  rcases hk.own with e | e
  ·exact .inl (he.od g (e ▸ hg))
  ·have:=e g hg
   refine .inr ⟨?_,this⟩
   cases hog : L.o g with
   | none=>rfl
   | some t=>have:=h.dom g t hog; omega
 have hold : ∀ g t,L.o g = some t→t ≠ .en i→t ≠ .dd i→w'.heap[g]? = w.heap[g]?:=fun g t hg h1 h2=>hk.block g (h.dom g t hg) (fun e=>h1 (by rw [e,he.oa] at hg; injection hg with hg; exact hg.symm)) (fun e=>h2 (by rw [he.od g e] at hg; injection hg with hg; exact hg.symm))
 have hx : Ext L ⟨fun g=>if u'.ownBlock = some g then some (.dd i) else L.o g,L.pt⟩ w.heap.size:=⟨fun g t hg=>by
   show (if u'.ownBlock = some g then some (Tag.dd i) else L.o g) = some t
   split
   ·rename_i e
    rcases hnb g e with h1 | ⟨h1,_⟩
    ·rw [h1] at hg; exact hg
    ·rw [h1] at hg; cases hg
   ·exact hg,fun g hg=>by
   have hg : (if u'.ownBlock = some g then some (Tag.dd i) else L.o g) ≠ none:=hg
   split at hg
   ·rename_i e
    rcases hnb g e with h1 | ⟨_,h1⟩
    ·exact .inl (by rw [h1]; simp)
    ·exact .inr h1
   ·exact .inl hg⟩
 have hent : EntAt w' (fun g=>if u'.ownBlock = some g then some (.dd i) else L.o g) i { en with dd:=l } (L.pt i) v u':=by
  refine ⟨hk.blk _ _ _ he.at',ownsRow.keep he.lv fun g hg=>hold g _ (he.ol g hg) (by simp) (by simp),hb.own,hx.o _ _ he.oa,fun g hg=>hx.o _ _ (he.ol g hg),fun g hg=>if_pos hg⟩
 refine ⟨_,h.chg hx rfl (fun g t hg ht=>hold g t hg (fun e=>ht (.inl e)) (fun e=>ht (.inr (.inr e)))) (fun g t hg=>?_) ⟨_,_,hent⟩,hent,hx,rfl,⟨hk.os,hk.tape,hk.output,hk.size,fun g hg hd=>hk.block g hg (fun e=>hd (by rw [e]; show L.o _ ≠ none; rw [he.oa]; simp)) (fun e=>hd (by show L.o _ ≠ none; rw [he.od g e]; simp))⟩⟩
 have hg : (if u'.ownBlock = some g then some (Tag.dd i) else L.o g) = some t:=hg
 split at hg
 ·rename_i e; exact hb.blk g e
 ·exact Nat.lt_of_lt_of_le (h.dom g t hg) hk.size
theorem EntAt.bagLv {w : World} {o : Nat→Option Tag} {i : Nat} {en : Ent} {a : Nat} {v u : Value} (h : EntAt w o i en a v u) : BagAt w 65 28 a 0 v en.lv.length (en.lv.map itvE).flatten∧w.frozen? ⟨a,0,none⟩ = false:=by
 refine ⟨⟨by rw [cell_of_row _ _ 0 _ _ _ h.at']; rfl,h.lv,fun e=>?_⟩,by simp [World.frozen?,h.at']⟩
 have:=h.ol a e
 rw [h.oa] at this; injection this with this; cases this
theorem EntAt.bagDd {w : World} {o : Nat→Option Tag} {i : Nat} {en : Ent} {a : Nat} {v u : Value} (h : EntAt w o i en a v u) : BagAt w 72 30 a 1 u en.dd.length (en.dd.map itvT).flatten∧w.frozen? ⟨a,1,none⟩ = false:=by
 refine ⟨⟨by rw [cell_of_row _ _ 1 _ _ _ h.at']; rfl,h.dd,fun e=>?_⟩,by simp [World.frozen?,h.at']⟩
 have:=h.od a e
 rw [h.oa] at this; injection this with this; cases this
end Go.Proofs.Ytdnaadcbimbfmaa
namespace Go.Proofs.Ytdnaadcbimbfmaa
open Go Go.RowKit Am
theorem setMap_at {w : World} {m : Nat} {es : Array MapEntry} {clock : Nat} (hm : m < w.heap.size) : (setMap w m es clock).heap[m]? = some (.map es clock):=by
 show (w.heap.setIfInBounds m _)[m]? = _
 rw [Array.getElem?_setIfInBounds_self_of_lt hm]
theorem setMap_ne {w : World} {m g : Nat} {es : Array MapEntry} {clock : Nat} (hg : g ≠ m) : (setMap w m es clock).heap[g]? = w.heap[g]?:=by
 show (w.heap.setIfInBounds m _)[g]? = _
 rw [Array.getElem?_setIfInBounds_ne (fun e=>hg e.symm)]
theorem setMap_size {w : World} {m : Nat} {es : Array MapEntry} {clock : Nat} : (setMap w m es clock).heap.size = w.heap.size:=by
 show (w.heap.setIfInBounds m _).size = _
 rw [Array.size_setIfInBounds]
theorem Sp.at_hit {σ : Sp} {key : ByteArray} (h : key ∈ σ.ks) : σ.at key = σ:=by unfold Sp.at; rw [if_pos h]
theorem Sp.at_miss {σ : Sp} {key : ByteArray} (h : key ∉ σ.ks) : σ.at key = { σ with ks:=σ.ks ++ [key],es:=σ.es ++ [⟨[],[]⟩] }:=by unfold Sp.at; rw [if_neg h]
theorem mapAdd {w w' : World} {L : Lay} {σ : Sp} {m n : Nat} {es : Array MapEntry} {clock : Nat} {key : ByteArray} (hn : σ.ks.length = n) (hl : σ.es.length = n) (hm : MapAt w L σ m es clock) (g : Nat) (hold : ∀ g' t,L.o g' = some t→g' ≠ m→w'.heap[g']? = w.heap[g']?) (hg : L.o g = none)
  (hat : w'.heap[m]? = some (.map (es.push { key:=.string key,val:=.pointer (some ⟨g,0,none⟩),born:=clock }) (clock + 1))) (hent : w'.heap[g]? = some (.cells #[.slice none 0 0,.slice none 0 0] 81 (0,0))) :
  MapAt w' ⟨fun g'=>if g' = g then some (.en n) else L.o g',fun j=>if j = n then g else L.pt j⟩ { σ with ks:=σ.ks ++ [key],es:=σ.es ++ [⟨[],[]⟩] } m (es.push { key:=.string key,val:=.pointer (some ⟨g,0,none⟩),born:=clock }) (clock + 1):=by
 have hel : es.toList.length = n:=by have:=congrArg List.length hm.keys; simpa [hn] using this
 have hmg : m ≠ g:=fun e=>by have:=hm.om; rw [e,hg] at this; cases this
 refine ⟨?_,hat,?_,births_push hm.nd hm.bd _ rfl,born_push hm.bd _ rfl,fun j e en hje hen=>?_⟩
 ·show (if m = g then _ else L.o m) = _
  rw [if_neg hmg]; exact hm.om
 ·simp [hm.keys]
 ·rw [Array.toList_push] at hje
  have hen : (σ.es ++ [⟨[],[]⟩])[j]? = some en:=hen
  rcases Nat.lt_or_ge j n with hj | hj
  ·rw [List.getElem?_append_left (by omega)] at hje hen
   obtain ⟨q1,v,u,q2⟩:=hm.ents j e en hje hen
   refine ⟨?_,v,u,?_⟩
   ·show _ = Value.pointer (some ⟨if j = n then g else L.pt j,0,none⟩)
    rw [if_neg (by omega)]; exact q1
   ·show EntAt w' _ j en (if j = n then g else L.pt j) v u
    rw [if_neg (by omega)]
    refine q2.keep fun g' t hg' ht=>⟨hold g' t hg' (fun e=>?_),?_⟩
    ·rw [e,hm.om] at hg'
     injection hg' with hg'
     subst hg'
     simp [tagOf] at ht
    ·show (if g' = g then _ else L.o g') = _
     rw [if_neg (fun e=>by rw [e,hg] at hg'; cases hg')]; exact hg'
  ·rw [List.getElem?_append_right (by omega)] at hje hen
   have hj0 : j - es.toList.length = 0:=by
    have:=(List.getElem?_eq_some_iff.1 hje).1
    simp at this; omega
   have hjn : j = n:=by omega
   subst hjn
   rw [hj0] at hje
   rw [show j - σ.es.length = 0 by omega] at hen
   injection hje with hje
   injection hen with hen
   subst hje; subst hen
   refine ⟨?_,.slice none 0 0,.slice none 0 0,?_⟩
   ·show _ = Value.pointer (some ⟨if j = j then g else L.pt j,0,none⟩)
    rw [if_pos rfl]
   ·show EntAt w' _ j _ (if j = j then g else L.pt j) _ _
    rw [if_pos rfl]
    exact ⟨hent,⟨rfl,.inl ⟨rfl,rfl⟩⟩,⟨rfl,.inl ⟨rfl,rfl⟩⟩,if_pos rfl,fun g' hg'=>by simp [Value.ownBlock] at hg',fun g' hg'=>by simp [Value.ownBlock] at hg'⟩
set_option maxHeartbeats 1000000 in
theorem at_ok (w : World) (L : Lay) (p : Nat) (σ : Sp) (mv : Value) (key : ByteArray) (h : SpAt w L p σ mv) :
  Calls Try.prog 27 #[.pointer (some ⟨p,0,none⟩),.string key] w fun e w'=>∃ L' mv' i,e = .returned (.pointer (some ⟨L'.pt i,0,none⟩))∧SpAt w' L' p (σ.at key) mv'∧(σ.at key).ks[i]? = some key∧Ext L L' w.heap.size∧Kp L.dom w w':=by
 have hpl : p < w.heap.size:=h.dom p _ h.op
 have hc : w.cell? ⟨p,0,none⟩ = some mv:=by rw [cell_of_row _ _ 0 _ _ _ h.at']; rfl
 have hfz : w.frozen? ⟨p,0,none⟩ = false:=by simp [World.frozen?,h.at']
 have hnew : ∀ g,w.heap.size ≤ g→L.o g = none:=fun g hg=>by
  cases ho : L.o g with
  | none=>rfl
  | some t=>have:=h.dom g t ho; omega
 rcases h.mp with ⟨rfl,hk0⟩ | ⟨hk0,m,es,clock,rfl,hm⟩
 ·
  have he0 : σ.es = []:=List.eq_nil_of_length_eq_zero (by rw [h.len,hk0]; rfl)
  obtain ⟨E,hE⟩ : ∃ E : Obj,E = .cells #[.slice none 0 0,.slice none 0 0] 81:=⟨_,rfl⟩
  have z1 : (newW w p).heap.size = w.heap.size + 1:=by unfold newW; simp
  have z2 : ((newW w p).alloc E).heap.size = w.heap.size + 2:=by simp [z1]
  have o1 : ∀ g,g < w.heap.size→g ≠ p→(newW w p).heap[g]? = w.heap[g]?:=fun g hg hgp=>(((Below.refl _ _).alloc (Nat.le_refl _) (.map #[] 0)).block g (by simpa using hg)).trans (heap_setCell_other _ _ _ _ (by simpa using hgp))
  have o2 : ∀ g,g < w.heap.size + 1→((newW w p).alloc E).heap[g]? = (newW w p).heap[g]?:=fun g hg=>((Below.refl _ (newW w p)).alloc (Nat.le_refl _) E).block g (by rw [z1]; exact hg)
  have m1 : (newW w p).heap[w.heap.size]? = some (.map #[] 0):=by
   have:=heap_alloc_new (w.setCell ⟨p,0,none⟩ (.map (some w.heap.size))) (.map #[] 0)
   simpa [newW] using this
  have p1 : (newW w p).heap[p]? = some (.cells (spV (.map (some w.heap.size)) σ.vv σ.tm) 52 (0,0)):=by
   refine (((Below.refl _ _).alloc (Nat.le_refl _) (.map #[] 0)).block p (by simpa using hpl)).trans ?_
   rw [setCell_eq_setRow w p 0 _ _ _ _ h.at']
   exact setRow_heap w p _ _ _ _ h.at'
  obtain ⟨es',hes'⟩ : ∃ es' : Array MapEntry,es' = (#[] : Array MapEntry).push { key:=.string key,val:=.pointer (some ⟨w.heap.size + 1,0,none⟩),born:=0 }:=⟨_,rfl⟩
  have hm0 : MapAt (newW w p) ⟨fun g=>if g = w.heap.size then some .mp else L.o g,L.pt⟩ σ w.heap.size #[] 0:=⟨if_pos rfl,m1,by rw [hk0]; rfl,List.nodup_nil,fun x hx=>by simp at hx,fun i e en he _=>by simp at he⟩
  have hup:=updW (w:=(newW w p).alloc E) ((o2 _ (by omega)).trans m1) hm0.keys key (.pointer (some ⟨w.heap.size + 1,0,none⟩)) (by rw [hk0]; simp)
  rw [← hes'] at hup
  obtain ⟨W3,hW3⟩ : ∃ W3,W3 = setMap ((newW w p).alloc E) w.heap.size es' 1:=⟨_,rfl⟩
  have a3 : W3.heap[w.heap.size]? = some (.map es' 1):=by rw [hW3]; exact setMap_at (by omega)
  have n3 : ∀ g,g ≠ w.heap.size→W3.heap[g]? = ((newW w p).alloc E).heap[g]?:=fun g hg=>by rw [hW3]; exact setMap_ne hg
  have e3 : W3.heap[w.heap.size + 1]? = some (.cells #[.slice none 0 0,.slice none 0 0] 81 (0,0)):=by
   rw [n3 _ (by omega),hE]
   have:=heap_alloc_new (newW w p) (.cells #[.slice none 0 0,.slice none 0 0] 81)
   rw [z1] at this; exact this
  have hadd:=mapAdd (w':=W3) (n:=0) (key:=key) (by rw [hk0]; rfl) (by rw [he0]; rfl) hm0 (w.heap.size + 1) (fun g t hg hgm=>?_) ?_ (by rw [← hes']; exact a3) e3
  ·refine (atNew w p key es' 1 hc hfz hpl (lookW hm0 rfl key _ (.inr ⟨fnd_none _ _ _ (by rw [hk0]; simp),rfl⟩)) (by rw [← hE]; exact hup) ?_).mono ?_
   ·rw [← hE,← hW3]
    refine lookW hadd rfl key _ (.inl ?_)
    rw [hk0]
    have:=fnd_some (s:=key) [key] (es'.toList) 0 0 { key:=.string key,val:=.pointer (some ⟨w.heap.size + 1,0,none⟩),born:=0 } (by rw [hes']; rfl) (by simp) rfl (by rw [hes']; rfl)
    rw [show ([] ++ [key] : List ByteArray) = [key] from rfl,← hes',this]; rfl
   ·rintro r w' ⟨rfl,rfl⟩
    rw [← hE,← hW3,Sp.at_miss (by rw [hk0]; simp)]
    refine ⟨_,.map (some w.heap.size),0,?_,⟨?_,?_,fun g t hg=>?_,by rw [he0,hk0]; rfl,by rw [hk0]; simp,.inr ⟨by simp,w.heap.size,_,_,rfl,hadd⟩⟩,by rw [hk0]; rfl,⟨fun g t hg=>?_,fun g hg=>?_⟩,?_⟩
    ·rfl
    ·rw [n3 p (by omega),o2 p (by omega)]; exact p1
    ·have h1 : p ≠ w.heap.size + 1:=by omega
     have h2 : p ≠ w.heap.size:=by omega
     show (if p = w.heap.size + 1 then some (Tag.en 0) else if p = w.heap.size then some Tag.mp else L.o p) = _
     rw [if_neg h1,if_neg h2]; exact h.op
    ·have hz3 : W3.heap.size = w.heap.size + 2:=by rw [hW3,setMap_size]; exact z2
     have hg : (if g = w.heap.size + 1 then some (Tag.en 0) else if g = w.heap.size then some Tag.mp else L.o g) = some t:=hg
     rw [hz3]
     split at hg
     ·omega
     ·split at hg
      ·omega
      ·have:=h.dom g t hg; omega
    ·have:=h.dom g t hg
     show (if g = w.heap.size + 1 then some (Tag.en 0) else if g = w.heap.size then some Tag.mp else L.o g) = some t
     rw [if_neg (by omega),if_neg (by omega)]; exact hg
    ·have hg : (if g = w.heap.size + 1 then some (Tag.en 0) else if g = w.heap.size then some Tag.mp else L.o g) ≠ none:=hg
     split at hg
     ·exact .inr (by omega)
     ·split at hg
      ·exact .inr (by omega)
      ·exact .inl hg
    ·refine ⟨by rw [hW3]; rfl,by rw [hW3]; rfl,by rw [hW3]; rfl,by rw [hW3,setMap_size,z2]; omega,fun g hg hd=>?_⟩
     have hgp : g ≠ p:=fun e=>hd (by rw [e]; show L.o p ≠ none; rw [h.op]; simp)
     rw [n3 g (by omega),o2 g (by omega),o1 g hg hgp]
  ·have hg : (if g = w.heap.size then some Tag.mp else L.o g) = some t:=hg
   rw [if_neg hgm] at hg
   have:=h.dom g t hg
   rw [n3 g hgm,o2 g (by omega)]
  ·show (if w.heap.size + 1 = w.heap.size then some Tag.mp else L.o (w.heap.size + 1)) = none
   rw [if_neg (by omega)]; exact hnew _ (by omega)
 ·by_cases hin : key ∈ σ.ks
  ·obtain ⟨i,hi⟩:=List.getElem?_of_mem hin
   obtain ⟨e,en,v,u,h1,h2,h3,h4,h5⟩:=hm.ent h.len hi
   refine (atHit w p m (L.pt i) key hc (lookW hm rfl key _ (.inl ?_))).mono ?_
   ·rw [fnd_some σ.ks es.toList 0 i e hm.keys h.nd hi h1,← h4]; rfl
   ·rintro r w' ⟨rfl,rfl⟩
    rw [Sp.at_hit hin]
    exact ⟨L,_,i,rfl,h,hi,Ext.refl _ _,Kp.refl _ _⟩
  ·have hmw : m < w.heap.size:=h.dom m _ hm.om
   have hpm : p ≠ m:=fun e=>by have:=hm.om; rw [← e,h.op] at this; cases this
   obtain ⟨n,hn⟩ : ∃ n,σ.ks.length = n:=⟨_,rfl⟩
   have hel : es.toList.length = n:=by have:=congrArg List.length hm.keys; simpa [hn] using this
   obtain ⟨E,hE⟩ : ∃ E : Obj,E = .cells #[.slice none 0 0,.slice none 0 0] 81:=⟨_,rfl⟩
   have z2 : (w.alloc E).heap.size = w.heap.size + 1:=by simp
   have o2 : ∀ g,g < w.heap.size→(w.alloc E).heap[g]? = w.heap[g]?:=fun g hg=>((Below.refl _ w).alloc (Nat.le_refl _) E).block g hg
   obtain ⟨es',hes'⟩ : ∃ es' : Array MapEntry,es' = es.push { key:=.string key,val:=.pointer (some ⟨w.heap.size,0,none⟩),born:=clock }:=⟨_,rfl⟩
   have hup:=updW (w:=w.alloc E) ((o2 _ hmw).trans hm.at') hm.keys key (.pointer (some ⟨w.heap.size,0,none⟩)) hin
   rw [← hes'] at hup
   obtain ⟨W3,hW3⟩ : ∃ W3,W3 = setMap (w.alloc E) m es' (clock + 1):=⟨_,rfl⟩
   have a3 : W3.heap[m]? = some (.map es' (clock + 1)):=by rw [hW3]; exact setMap_at (by omega)
   have n3 : ∀ g,g ≠ m→W3.heap[g]? = (w.alloc E).heap[g]?:=fun g hg=>by rw [hW3]; exact setMap_ne hg
   have e3 : W3.heap[w.heap.size]? = some (.cells #[.slice none 0 0,.slice none 0 0] 81 (0,0)):=by
    rw [n3 _ (by omega),hE]
    exact heap_alloc_new w _
   have hadd:=mapAdd (w':=W3) (key:=key) hn (by rw [h.len]; exact hn) hm w.heap.size (fun g t hg hgm=>by rw [n3 g hgm]; exact o2 g (h.dom g t hg)) (hnew _ (Nat.le_refl _)) (by rw [← hes']; exact a3) e3
   refine (atMiss w p m key es' (clock + 1) hc hpm hpl (lookW hm rfl key _ (.inr ⟨fnd_none _ _ _ hin,rfl⟩)) (by rw [← hE]; exact hup) ?_).mono ?_
   ·rw [← hE,← hW3]
    refine lookW hadd rfl key _ (.inl ?_)
    have:=fnd_some (s:=key) (σ.ks ++ [key]) (es'.toList) 0 n { key:=.string key,val:=.pointer (some ⟨w.heap.size,0,none⟩),born:=clock } (by rw [hes']; simp [hm.keys]) (by rw [List.nodup_append]; exact ⟨h.nd,by simp,fun a ha b hb e=>hin (by simp at hb; rw [← hb,← e]; exact ha)⟩) (by rw [← hn]; simp) (by rw [hes',Array.toList_push,← hel]; simp)
    rw [← hes',this]; rfl
   ·rintro r w' ⟨rfl,rfl⟩
    rw [← hE,← hW3,Sp.at_miss hin]
    refine ⟨_,.map (some m),n,?_,⟨?_,?_,fun g t hg=>?_,by simp [h.len],by rw [List.nodup_append]; exact ⟨h.nd,by simp,fun a ha b hb e=>hin (by simp at hb; rw [← hb,← e]; exact ha)⟩,.inr ⟨by simp,m,_,_,rfl,hadd⟩⟩,by rw [← hn]; simp,⟨fun g t hg=>?_,fun g hg=>?_⟩,?_⟩
    ·show _ = Ending.returned (.pointer (some ⟨if n = n then w.heap.size else L.pt n,0,none⟩))
     rw [if_pos rfl]
    ·rw [n3 p hpm,o2 p hpl]; exact h.at'
    ·show (if p = w.heap.size then some (Tag.en n) else L.o p) = _
     rw [if_neg (by omega)]; exact h.op
    ·have hg : (if g = w.heap.size then some (Tag.en n) else L.o g) = some t:=hg
     have hz3 : W3.heap.size = w.heap.size + 1:=by rw [hW3,setMap_size]; exact z2
     rw [hz3]
     split at hg
     ·omega
     ·have:=h.dom g t hg; omega
    ·have:=h.dom g t hg
     show (if g = w.heap.size then some (Tag.en n) else L.o g) = some t
     rw [if_neg (by omega)]; exact hg
    ·have hg : (if g = w.heap.size then some (Tag.en n) else L.o g) ≠ none:=hg
     split at hg
     ·exact .inr (by omega)
     ·exact .inl hg
    ·refine ⟨by rw [hW3]; rfl,by rw [hW3]; rfl,by rw [hW3]; rfl,by rw [hW3,setMap_size,z2]; omega,fun g hg hd=>?_⟩
     have hgm : g ≠ m:=fun e=>hd (by rw [e]; show L.o m ≠ none; rw [hm.om]; simp)
     rw [n3 g hgm,o2 g hg]
end Go.Proofs.Ytdnaadcbimbfmaa
namespace Go.Proofs.Ytdnaadcbimbfmaa
open Go Go.RowKit Am
def inS (n : Int) : Prop:=0 ≤ n∧n ≤ 1048576
def vrightP (v : VV) : Prop:=∀ i : Fin 16,inS (v i)
theorem idxVV (v : VV) (w : World) : ∀ (i : Nat) (h : i < 16),(Instr.index 29 (.agg (vvs v)) (.int .i64 (i : Int))).run Try.prog w = .ok (.int .i64 (v ⟨i,h⟩)) w
 | 0,_=>by kernel_rfl
 | 1,_=>by kernel_rfl
 | 2,_=>by kernel_rfl
 | 3,_=>by kernel_rfl
 | 4,_=>by kernel_rfl
 | 5,_=>by kernel_rfl
 | 6,_=>by kernel_rfl
 | 7,_=>by kernel_rfl
 | 8,_=>by kernel_rfl
 | 9,_=>by kernel_rfl
 | 10,_=>by kernel_rfl
 | 11,_=>by kernel_rfl
 | 12,_=>by kernel_rfl
 | 13,_=>by kernel_rfl
 | 14,_=>by kernel_rfl
 | 15,_=>by kernel_rfl
 | n+16,h=>absurd h (by omega)
set_option maxRecDepth 100000 in
set_option maxHeartbeats 1600000 in
theorem vRightW (v : VV) (r : Bool) (hr : Hid (r = true ↔ vrightP v)) (w : World) : Calls Try.prog 49 #[.agg (vvs v)] w fun e w'=>e = .returned (.bool r)∧w' = w.alloc (.cells (vvs v) 29):=by
 have hbad : Hid (∀ (k : Nat) (h : k < 16),¬ inS (v ⟨k,h⟩)→r = false):=fun k h hn=>by
  cases hrr : r with
  | false=>rfl
  | true=>exact absurd ((show r = true ↔ vrightP v from hr).1 hrr ⟨k,h⟩) hn
 have hgood : Hid ((∀ (k : Nat) (h : k < 16),inS (v ⟨k,h⟩))→r = true):=fun h=>(show r = true ↔ vrightP v from hr).2 fun i=>h i.1 i.2
 clear hr
 have hix:=idxVV v
 unfold vvs at hix ⊢
 go_enter Try.func49,Try.ntmps49
 go_wp2
 go_loopw [6] (fun i wr=>∃ k : Nat,k ≤ 16∧i = .int .i64 (k : Int)∧wr = w.alloc (.cells #[vI (v 0),vI (v 1),vI (v 2),vI (v 3),vI (v 4),vI (v 5),vI (v 6),vI (v 7),vI (v 8),vI (v 9),vI (v 10),vI (v 11),vI (v 12),vI (v 13),vI (v 14),vI (v 15)] 29)∧Hid (∀ (j : Nat) (h : j < 16),j < k→inS (v ⟨j,h⟩))) (fun i _=>16 - (intOf i).toNat)
 case atStart=>exact ⟨0,by omega,rfl,rfl,fun j _ h=>by omega⟩
 case round =>
  obtain ⟨k,hk,rfl,rfl,hall⟩:=hrel
  by_cases hk2 : k < 16
  ·have hx:=hix (w.alloc (.cells #[vI (v 0),vI (v 1),vI (v 2),vI (v 3),vI (v 4),vI (v 5),vI (v 6),vI (v 7),vI (v 8),vI (v 9),vI (v 10),vI (v 11),vI (v 12),vI (v 13),vI (v 14),vI (v 15)] 29)) k hk2
   obtain ⟨x,hxx⟩ : ∃ x,x = v ⟨k,hk2⟩:=⟨_,rfl⟩
   rw [← hxx] at hx
   have hb : Hid (¬ inS x→r = false):=by rw [hxx]; exact (show ∀ (k : Nat) (h : k < 16),¬ inS (v ⟨k,h⟩)→r = false from hbad) k hk2
   have hn : Hid (inS x→∀ (j : Nat) (h : j < 16),j < k + 1→inS (v ⟨j,h⟩)):=fun hin j h hj=>by
    rcases Nat.lt_or_ge j k with h1 | h1
    ·exact (show ∀ (j : Nat) (h : j < 16),j < k→inS (v ⟨j,h⟩) from hall) j h h1
    ·obtain rfl : j = k:=by omega
     rw [← hxx]; exact hin
   clear hxx hall hix hbad hgood
   by_cases h1 : x < 0
   ·obtain rfl : r = false:=(show ¬ inS x→r = false from hb) (by unfold inS; omega)
    go_wp2
    go_ret
    exact ⟨rfl,rfl⟩
   ·by_cases h2 : 1048576 < x
    ·obtain rfl : r = false:=(show ¬ inS x→r = false from hb) (by unfold inS; omega)
     go_wp2
     go_ret
     exact ⟨rfl,rfl⟩
    ·have hn : Hid (∀ (j : Nat) (h : j < 16),j < k + 1→inS (v ⟨j,h⟩)):=(show inS x→∀ (j : Nat) (h : j < 16),j < k + 1→inS (v ⟨j,h⟩) from hn) (by unfold inS; omega)
     go_wp2
     exact ⟨⟨k + 1,by omega,by simp,by first | trivial | rfl,hn⟩,by simp [intOf]; omega⟩
  ·obtain rfl : k = 16:=by omega
   obtain rfl : r = true:=(show (∀ (k : Nat) (h : k < 16),inS (v ⟨k,h⟩))→r = true from hgood) fun j h=>(show ∀ (j : Nat) (h : j < 16),j < 16→inS (v ⟨j,h⟩) from hall) j h h
   clear hall hix hbad hgood
   go_wp2
   go_ret
   exact ⟨rfl,rfl⟩
end Go.Proofs.Ytdnaadcbimbfmaa
namespace Go.Proofs.Ytdnaadcbimbfmaa
open Go Go.RowKit Am
theorem lss16 {F : Sy} (hF : F = sy) {i : Nat} {i' : Int} (h : i' = (i : Int)) : (F .cmp .lss i' 16 = true ↔ i < 16):=by rw [lsF hF,h]; simp; omega
def vset (v : VV) (i : Nat) (x : Int) : VV:=fun k=>if k.1 = i then x else v k
theorem vidx_ok (v : VV) (i : Nat) (i' : Int) (hi : i' = (i : Int)) (h : i < 16) (x : Int) (hx : x = v ⟨i,h⟩) : CSem Try.prog (.idx 29) [.agg (vac v),aI i'] (.pure [aI x]):=by
 refine ⟨_,_,_,rfl,rfl,fun w S y hy=>⟨_,?_,.c (.v _ rfl)⟩⟩
 rw [rep_agg_v (xs:=(vvs v).toList) hy,hx,hi]
 exact idxVV v w i h
def joinV (a b : VV) : VV:=fun k=>max (a k) (b k)
def joinAt (a b : VV) (i : Nat) : VV:=fun k=>if k.1 < i then max (a k) (b k) else a k
theorem joinAt_step (a b : VV) (i : Nat) (h : i < 16) : vset (joinAt a b i) i (max (joinAt a b i ⟨i,h⟩) (b ⟨i,h⟩)) = joinAt a b (i + 1):=by
 funext k
 unfold vset joinAt
 by_cases hk : k.1 = i
 ·have : k = ⟨i,h⟩:=Fin.ext hk
  subst this
  simp
 ·rw [if_neg hk]
  by_cases h1 : k.1 < i
  ·rw [if_pos h1,if_pos (by omega)]
  ·rw [if_neg h1,if_neg (by omega)]
set_option maxRecDepth 100000 in
set_option maxHeartbeats 8000000 in
theorem join_ok (a b : VV) (r : VV) (hr : r = joinV a b) : CSem Try.prog (.fn 26) [.agg (vac a),.agg (vac b)] (.pure [.agg (vac r)]):=by
 refine of_text gam_ok mixed { n:=21,keep:=[2] } Try.func26 (by kernel_rfl) rfl rfl (by simp) (by decide) fun F C D hF hC hD=>?_
 have hmx : ∀ x y : Int,F .mx x y = max x y:=fun x y=>by rw [hF]; show (if x < y then y else x) = max x y; omega
 cbv
 refine ⟨Nat × Int × VV,fun y=>{ slots:=[(8,aI y.2.1),(7,.agg (vac b)),(2,.ptr 0 0),(4,.ptr 1 0)],obs:=[(0,.box 29 (vac y.2.2) false),(1,.box 29 (vac fun _=>0) true)],ctr:=2 },fun y=>y.2.1 = (y.1 : Int)∧y.1 ≤ 16∧y.2.2 = joinAt a b y.1,fun y=>16 - y.1,⟨(0,0,a),⟨rfl,Nat.zero_le _,rfl⟩,(le_of [(0,0),(1,1)] (by simp [leSl,leOb,injK,memK,parK,noTup,lk,rn0,rnA,plain] <;> exact ⟨rfl,rfl,rfl⟩))⟩,fun y hy=>?_⟩
 obtain ⟨i,i',u⟩:=y
 obtain ⟨ei,h16,hu⟩:=hy
 simp only at ei h16 hu
 have tl:=lss16 hF ei
 obtain ⟨i2,hi2⟩ : ∃ i2,F .ar .add .i64 i' 1 = i2:=⟨_,rfl⟩
 by_cases hi : i < 16
 ·have tt : F .cmp .lss i' 16 = true:=tl.2 hi
  have ei2 : i2 = ((i + 1 : Nat) : Int):=hi2.symm.trans (incF hF ei (by omega))
  obtain ⟨u',hu'⟩ : ∃ u',u' = joinAt a b (i + 1):=⟨_,rfl⟩
  have hst : ∀ (h : i < 16),u' = vset u i (max (u ⟨i,h⟩) (b ⟨i,h⟩)):=fun h=>by rw [hu',hu]; exact (joinAt_step a b i h).symm
  have hidx : ∀ (h : i < 16),C (.idx 29) [.agg (vac b),aI i'] (.pure [aI (b ⟨i,h⟩)]):=fun h=>hC _ _ _ (vidx_ok b i i' ei h _ rfl)
  clear hu tl
  obtain rfl | rfl | rfl | rfl | rfl | rfl | rfl | rfl | rfl | rfl | rfl | rfl | rfl | rfl | rfl | rfl : i = 0 ∨ i = 1 ∨ i = 2 ∨ i = 3 ∨ i = 4 ∨ i = 5 ∨ i = 6 ∨ i = 7 ∨ i = 8 ∨ i = 9 ∨ i = 10 ∨ i = 11 ∨ i = 12 ∨ i = 13 ∨ i = 14 ∨ i = 15:=by omega
  ·obtain ⟨x,hx⟩ : ∃ x,x = b 0:=⟨_,rfl⟩
   have hix : C (.idx 29) [.agg (vac b),aI i'] (.pure [aI x]):=by rw [hx]; exact hidx (by decide)
   obtain ⟨z,hz⟩ : ∃ z,F .mx (u 0) x = z:=⟨_,rfl⟩
   have hv : vac u' = [aI z,aI (u 1),aI (u 2),aI (u 3),aI (u 4),aI (u 5),aI (u 6),aI (u 7),aI (u 8),aI (u 9),aI (u 10),aI (u 11),aI (u 12),aI (u 13),aI (u 14),aI (u 15)]:=by rw [hst (by decide),← hz,hmx,hx]; rfl
   clear hmx hx hst hidx hr
   cbv
   refine bT (tt) ?_
   cbv
   refine ⟨_,hix,?_⟩
   cbv
   refine ⟨0,ei,by decide,?_⟩
   cbv
   rw [hz]
   refine ⟨0,ei,by decide,?_⟩
   cbv
   rw [hi2]
   exact ⟨(1,i2,u'),⟨ei2,Nat.le_of_ble_eq_true rfl,hu'⟩,(show 16 - 1 < 16 - 0 by decide),le_of [(0,0),(1,1)] (by simp [leSl,leOb,injK,memK,parK,noTup,lk,rn0,rnA,plain,hv] <;> exact ⟨rfl,rfl⟩)⟩
  ·obtain ⟨x,hx⟩ : ∃ x,x = b 1:=⟨_,rfl⟩
   have hix : C (.idx 29) [.agg (vac b),aI i'] (.pure [aI x]):=by rw [hx]; exact hidx (by decide)
   obtain ⟨z,hz⟩ : ∃ z,F .mx (u 1) x = z:=⟨_,rfl⟩
   have hv : vac u' = [aI (u 0),aI z,aI (u 2),aI (u 3),aI (u 4),aI (u 5),aI (u 6),aI (u 7),aI (u 8),aI (u 9),aI (u 10),aI (u 11),aI (u 12),aI (u 13),aI (u 14),aI (u 15)]:=by rw [hst (by decide),← hz,hmx,hx]; rfl
   clear hmx hx hst hidx hr
   cbv
   refine bT (tt) ?_
   cbv
   refine ⟨_,hix,?_⟩
   cbv
   refine ⟨1,ei,by decide,?_⟩
   cbv
   rw [hz]
   refine ⟨1,ei,by decide,?_⟩
   cbv
   rw [hi2]
   exact ⟨(2,i2,u'),⟨ei2,Nat.le_of_ble_eq_true rfl,hu'⟩,(show 16 - 2 < 16 - 1 by decide),le_of [(0,0),(1,1)] (by simp [leSl,leOb,injK,memK,parK,noTup,lk,rn0,rnA,plain,hv] <;> exact ⟨rfl,rfl⟩)⟩
  ·obtain ⟨x,hx⟩ : ∃ x,x = b 2:=⟨_,rfl⟩
   have hix : C (.idx 29) [.agg (vac b),aI i'] (.pure [aI x]):=by rw [hx]; exact hidx (by decide)
   obtain ⟨z,hz⟩ : ∃ z,F .mx (u 2) x = z:=⟨_,rfl⟩
   have hv : vac u' = [aI (u 0),aI (u 1),aI z,aI (u 3),aI (u 4),aI (u 5),aI (u 6),aI (u 7),aI (u 8),aI (u 9),aI (u 10),aI (u 11),aI (u 12),aI (u 13),aI (u 14),aI (u 15)]:=by rw [hst (by decide),← hz,hmx,hx]; rfl
   clear hmx hx hst hidx hr
   cbv
   refine bT (tt) ?_
   cbv
   refine ⟨_,hix,?_⟩
   cbv
   refine ⟨2,ei,by decide,?_⟩
   cbv
   rw [hz]
   refine ⟨2,ei,by decide,?_⟩
   cbv
   rw [hi2]
   exact ⟨(3,i2,u'),⟨ei2,Nat.le_of_ble_eq_true rfl,hu'⟩,(show 16 - 3 < 16 - 2 by decide),le_of [(0,0),(1,1)] (by simp [leSl,leOb,injK,memK,parK,noTup,lk,rn0,rnA,plain,hv] <;> exact ⟨rfl,rfl⟩)⟩
  ·obtain ⟨x,hx⟩ : ∃ x,x = b 3:=⟨_,rfl⟩
   have hix : C (.idx 29) [.agg (vac b),aI i'] (.pure [aI x]):=by rw [hx]; exact hidx (by decide)
   obtain ⟨z,hz⟩ : ∃ z,F .mx (u 3) x = z:=⟨_,rfl⟩
   have hv : vac u' = [aI (u 0),aI (u 1),aI (u 2),aI z,aI (u 4),aI (u 5),aI (u 6),aI (u 7),aI (u 8),aI (u 9),aI (u 10),aI (u 11),aI (u 12),aI (u 13),aI (u 14),aI (u 15)]:=by rw [hst (by decide),← hz,hmx,hx]; rfl
   clear hmx hx hst hidx hr
   cbv
   refine bT (tt) ?_
   cbv
   refine ⟨_,hix,?_⟩
   cbv
   refine ⟨3,ei,by decide,?_⟩
   cbv
   rw [hz]
   refine ⟨3,ei,by decide,?_⟩
   cbv
   rw [hi2]
   exact ⟨(4,i2,u'),⟨ei2,Nat.le_of_ble_eq_true rfl,hu'⟩,(show 16 - 4 < 16 - 3 by decide),le_of [(0,0),(1,1)] (by simp [leSl,leOb,injK,memK,parK,noTup,lk,rn0,rnA,plain,hv] <;> exact ⟨rfl,rfl⟩)⟩
  ·obtain ⟨x,hx⟩ : ∃ x,x = b 4:=⟨_,rfl⟩
   have hix : C (.idx 29) [.agg (vac b),aI i'] (.pure [aI x]):=by rw [hx]; exact hidx (by decide)
   obtain ⟨z,hz⟩ : ∃ z,F .mx (u 4) x = z:=⟨_,rfl⟩
   have hv : vac u' = [aI (u 0),aI (u 1),aI (u 2),aI (u 3),aI z,aI (u 5),aI (u 6),aI (u 7),aI (u 8),aI (u 9),aI (u 10),aI (u 11),aI (u 12),aI (u 13),aI (u 14),aI (u 15)]:=by rw [hst (by decide),← hz,hmx,hx]; rfl
   clear hmx hx hst hidx hr
   cbv
   refine bT (tt) ?_
   cbv
   refine ⟨_,hix,?_⟩
   cbv
   refine ⟨4,ei,by decide,?_⟩
   cbv
   rw [hz]
   refine ⟨4,ei,by decide,?_⟩
   cbv
   rw [hi2]
   exact ⟨(5,i2,u'),⟨ei2,Nat.le_of_ble_eq_true rfl,hu'⟩,(show 16 - 5 < 16 - 4 by decide),le_of [(0,0),(1,1)] (by simp [leSl,leOb,injK,memK,parK,noTup,lk,rn0,rnA,plain,hv] <;> exact ⟨rfl,rfl⟩)⟩
  ·obtain ⟨x,hx⟩ : ∃ x,x = b 5:=⟨_,rfl⟩
   have hix : C (.idx 29) [.agg (vac b),aI i'] (.pure [aI x]):=by rw [hx]; exact hidx (by decide)
   obtain ⟨z,hz⟩ : ∃ z,F .mx (u 5) x = z:=⟨_,rfl⟩
   have hv : vac u' = [aI (u 0),aI (u 1),aI (u 2),aI (u 3),aI (u 4),aI z,aI (u 6),aI (u 7),aI (u 8),aI (u 9),aI (u 10),aI (u 11),aI (u 12),aI (u 13),aI (u 14),aI (u 15)]:=by rw [hst (by decide),← hz,hmx,hx]; rfl
   clear hmx hx hst hidx hr
   cbv
   refine bT (tt) ?_
   cbv
   refine ⟨_,hix,?_⟩
   cbv
   refine ⟨5,ei,by decide,?_⟩
   cbv
   rw [hz]
   refine ⟨5,ei,by decide,?_⟩
   cbv
   rw [hi2]
   exact ⟨(6,i2,u'),⟨ei2,Nat.le_of_ble_eq_true rfl,hu'⟩,(show 16 - 6 < 16 - 5 by decide),le_of [(0,0),(1,1)] (by simp [leSl,leOb,injK,memK,parK,noTup,lk,rn0,rnA,plain,hv] <;> exact ⟨rfl,rfl⟩)⟩
  ·obtain ⟨x,hx⟩ : ∃ x,x = b 6:=⟨_,rfl⟩
   have hix : C (.idx 29) [.agg (vac b),aI i'] (.pure [aI x]):=by rw [hx]; exact hidx (by decide)
   obtain ⟨z,hz⟩ : ∃ z,F .mx (u 6) x = z:=⟨_,rfl⟩
   have hv : vac u' = [aI (u 0),aI (u 1),aI (u 2),aI (u 3),aI (u 4),aI (u 5),aI z,aI (u 7),aI (u 8),aI (u 9),aI (u 10),aI (u 11),aI (u 12),aI (u 13),aI (u 14),aI (u 15)]:=by rw [hst (by decide),← hz,hmx,hx]; rfl
   clear hmx hx hst hidx hr
   cbv
   refine bT (tt) ?_
   cbv
   refine ⟨_,hix,?_⟩
   cbv
   refine ⟨6,ei,by decide,?_⟩
   cbv
   rw [hz]
   refine ⟨6,ei,by decide,?_⟩
   cbv
   rw [hi2]
   exact ⟨(7,i2,u'),⟨ei2,Nat.le_of_ble_eq_true rfl,hu'⟩,(show 16 - 7 < 16 - 6 by decide),le_of [(0,0),(1,1)] (by simp [leSl,leOb,injK,memK,parK,noTup,lk,rn0,rnA,plain,hv] <;> exact ⟨rfl,rfl⟩)⟩
  ·obtain ⟨x,hx⟩ : ∃ x,x = b 7:=⟨_,rfl⟩
   have hix : C (.idx 29) [.agg (vac b),aI i'] (.pure [aI x]):=by rw [hx]; exact hidx (by decide)
   obtain ⟨z,hz⟩ : ∃ z,F .mx (u 7) x = z:=⟨_,rfl⟩
   have hv : vac u' = [aI (u 0),aI (u 1),aI (u 2),aI (u 3),aI (u 4),aI (u 5),aI (u 6),aI z,aI (u 8),aI (u 9),aI (u 10),aI (u 11),aI (u 12),aI (u 13),aI (u 14),aI (u 15)]:=by rw [hst (by decide),← hz,hmx,hx]; rfl
   clear hmx hx hst hidx hr
   cbv
   refine bT (tt) ?_
   cbv
   refine ⟨_,hix,?_⟩
   cbv
   refine ⟨7,ei,by decide,?_⟩
   cbv
   rw [hz]
   refine ⟨7,ei,by decide,?_⟩
   cbv
   rw [hi2]
   exact ⟨(8,i2,u'),⟨ei2,Nat.le_of_ble_eq_true rfl,hu'⟩,(show 16 - 8 < 16 - 7 by decide),le_of [(0,0),(1,1)] (by simp [leSl,leOb,injK,memK,parK,noTup,lk,rn0,rnA,plain,hv] <;> exact ⟨rfl,rfl⟩)⟩
  ·obtain ⟨x,hx⟩ : ∃ x,x = b 8:=⟨_,rfl⟩
   have hix : C (.idx 29) [.agg (vac b),aI i'] (.pure [aI x]):=by rw [hx]; exact hidx (by decide)
   obtain ⟨z,hz⟩ : ∃ z,F .mx (u 8) x = z:=⟨_,rfl⟩
   have hv : vac u' = [aI (u 0),aI (u 1),aI (u 2),aI (u 3),aI (u 4),aI (u 5),aI (u 6),aI (u 7),aI z,aI (u 9),aI (u 10),aI (u 11),aI (u 12),aI (u 13),aI (u 14),aI (u 15)]:=by rw [hst (by decide),← hz,hmx,hx]; rfl
   clear hmx hx hst hidx hr
   cbv
   refine bT (tt) ?_
   cbv
   refine ⟨_,hix,?_⟩
   cbv
   refine ⟨8,ei,by decide,?_⟩
   cbv
   rw [hz]
   refine ⟨8,ei,by decide,?_⟩
   cbv
   rw [hi2]
   exact ⟨(9,i2,u'),⟨ei2,Nat.le_of_ble_eq_true rfl,hu'⟩,(show 16 - 9 < 16 - 8 by decide),le_of [(0,0),(1,1)] (by simp [leSl,leOb,injK,memK,parK,noTup,lk,rn0,rnA,plain,hv] <;> exact ⟨rfl,rfl⟩)⟩
  ·obtain ⟨x,hx⟩ : ∃ x,x = b 9:=⟨_,rfl⟩
   have hix : C (.idx 29) [.agg (vac b),aI i'] (.pure [aI x]):=by rw [hx]; exact hidx (by decide)
   obtain ⟨z,hz⟩ : ∃ z,F .mx (u 9) x = z:=⟨_,rfl⟩
   have hv : vac u' = [aI (u 0),aI (u 1),aI (u 2),aI (u 3),aI (u 4),aI (u 5),aI (u 6),aI (u 7),aI (u 8),aI z,aI (u 10),aI (u 11),aI (u 12),aI (u 13),aI (u 14),aI (u 15)]:=by rw [hst (by decide),← hz,hmx,hx]; rfl
   clear hmx hx hst hidx hr
   cbv
   refine bT (tt) ?_
   cbv
   refine ⟨_,hix,?_⟩
   cbv
   refine ⟨9,ei,by decide,?_⟩
   cbv
   rw [hz]
   refine ⟨9,ei,by decide,?_⟩
   cbv
   rw [hi2]
   exact ⟨(10,i2,u'),⟨ei2,Nat.le_of_ble_eq_true rfl,hu'⟩,(show 16 - 10 < 16 - 9 by decide),le_of [(0,0),(1,1)] (by simp [leSl,leOb,injK,memK,parK,noTup,lk,rn0,rnA,plain,hv] <;> exact ⟨rfl,rfl⟩)⟩
  ·obtain ⟨x,hx⟩ : ∃ x,x = b 10:=⟨_,rfl⟩
   have hix : C (.idx 29) [.agg (vac b),aI i'] (.pure [aI x]):=by rw [hx]; exact hidx (by decide)
   obtain ⟨z,hz⟩ : ∃ z,F .mx (u 10) x = z:=⟨_,rfl⟩
   have hv : vac u' = [aI (u 0),aI (u 1),aI (u 2),aI (u 3),aI (u 4),aI (u 5),aI (u 6),aI (u 7),aI (u 8),aI (u 9),aI z,aI (u 11),aI (u 12),aI (u 13),aI (u 14),aI (u 15)]:=by rw [hst (by decide),← hz,hmx,hx]; rfl
   clear hmx hx hst hidx hr
   cbv
   refine bT (tt) ?_
   cbv
   refine ⟨_,hix,?_⟩
   cbv
   refine ⟨10,ei,by decide,?_⟩
   cbv
   rw [hz]
   refine ⟨10,ei,by decide,?_⟩
   cbv
   rw [hi2]
   exact ⟨(11,i2,u'),⟨ei2,Nat.le_of_ble_eq_true rfl,hu'⟩,(show 16 - 11 < 16 - 10 by decide),le_of [(0,0),(1,1)] (by simp [leSl,leOb,injK,memK,parK,noTup,lk,rn0,rnA,plain,hv] <;> exact ⟨rfl,rfl⟩)⟩
  ·obtain ⟨x,hx⟩ : ∃ x,x = b 11:=⟨_,rfl⟩
   have hix : C (.idx 29) [.agg (vac b),aI i'] (.pure [aI x]):=by rw [hx]; exact hidx (by decide)
   obtain ⟨z,hz⟩ : ∃ z,F .mx (u 11) x = z:=⟨_,rfl⟩
   have hv : vac u' = [aI (u 0),aI (u 1),aI (u 2),aI (u 3),aI (u 4),aI (u 5),aI (u 6),aI (u 7),aI (u 8),aI (u 9),aI (u 10),aI z,aI (u 12),aI (u 13),aI (u 14),aI (u 15)]:=by rw [hst (by decide),← hz,hmx,hx]; rfl
   clear hmx hx hst hidx hr
   cbv
   refine bT (tt) ?_
   cbv
   refine ⟨_,hix,?_⟩
   cbv
   refine ⟨11,ei,by decide,?_⟩
   cbv
   rw [hz]
   refine ⟨11,ei,by decide,?_⟩
   cbv
   rw [hi2]
   exact ⟨(12,i2,u'),⟨ei2,Nat.le_of_ble_eq_true rfl,hu'⟩,(show 16 - 12 < 16 - 11 by decide),le_of [(0,0),(1,1)] (by simp [leSl,leOb,injK,memK,parK,noTup,lk,rn0,rnA,plain,hv] <;> exact ⟨rfl,rfl⟩)⟩
  ·obtain ⟨x,hx⟩ : ∃ x,x = b 12:=⟨_,rfl⟩
   have hix : C (.idx 29) [.agg (vac b),aI i'] (.pure [aI x]):=by rw [hx]; exact hidx (by decide)
   obtain ⟨z,hz⟩ : ∃ z,F .mx (u 12) x = z:=⟨_,rfl⟩
   have hv : vac u' = [aI (u 0),aI (u 1),aI (u 2),aI (u 3),aI (u 4),aI (u 5),aI (u 6),aI (u 7),aI (u 8),aI (u 9),aI (u 10),aI (u 11),aI z,aI (u 13),aI (u 14),aI (u 15)]:=by rw [hst (by decide),← hz,hmx,hx]; rfl
   clear hmx hx hst hidx hr
   cbv
   refine bT (tt) ?_
   cbv
   refine ⟨_,hix,?_⟩
   cbv
   refine ⟨12,ei,by decide,?_⟩
   cbv
   rw [hz]
   refine ⟨12,ei,by decide,?_⟩
   cbv
   rw [hi2]
   exact ⟨(13,i2,u'),⟨ei2,Nat.le_of_ble_eq_true rfl,hu'⟩,(show 16 - 13 < 16 - 12 by decide),le_of [(0,0),(1,1)] (by simp [leSl,leOb,injK,memK,parK,noTup,lk,rn0,rnA,plain,hv] <;> exact ⟨rfl,rfl⟩)⟩
  ·obtain ⟨x,hx⟩ : ∃ x,x = b 13:=⟨_,rfl⟩
   have hix : C (.idx 29) [.agg (vac b),aI i'] (.pure [aI x]):=by rw [hx]; exact hidx (by decide)
   obtain ⟨z,hz⟩ : ∃ z,F .mx (u 13) x = z:=⟨_,rfl⟩
   have hv : vac u' = [aI (u 0),aI (u 1),aI (u 2),aI (u 3),aI (u 4),aI (u 5),aI (u 6),aI (u 7),aI (u 8),aI (u 9),aI (u 10),aI (u 11),aI (u 12),aI z,aI (u 14),aI (u 15)]:=by rw [hst (by decide),← hz,hmx,hx]; rfl
   clear hmx hx hst hidx hr
   cbv
   refine bT (tt) ?_
   cbv
   refine ⟨_,hix,?_⟩
   cbv
   refine ⟨13,ei,by decide,?_⟩
   cbv
   rw [hz]
   refine ⟨13,ei,by decide,?_⟩
   cbv
   rw [hi2]
   exact ⟨(14,i2,u'),⟨ei2,Nat.le_of_ble_eq_true rfl,hu'⟩,(show 16 - 14 < 16 - 13 by decide),le_of [(0,0),(1,1)] (by simp [leSl,leOb,injK,memK,parK,noTup,lk,rn0,rnA,plain,hv] <;> exact ⟨rfl,rfl⟩)⟩
  ·obtain ⟨x,hx⟩ : ∃ x,x = b 14:=⟨_,rfl⟩
   have hix : C (.idx 29) [.agg (vac b),aI i'] (.pure [aI x]):=by rw [hx]; exact hidx (by decide)
   obtain ⟨z,hz⟩ : ∃ z,F .mx (u 14) x = z:=⟨_,rfl⟩
   have hv : vac u' = [aI (u 0),aI (u 1),aI (u 2),aI (u 3),aI (u 4),aI (u 5),aI (u 6),aI (u 7),aI (u 8),aI (u 9),aI (u 10),aI (u 11),aI (u 12),aI (u 13),aI z,aI (u 15)]:=by rw [hst (by decide),← hz,hmx,hx]; rfl
   clear hmx hx hst hidx hr
   cbv
   refine bT (tt) ?_
   cbv
   refine ⟨_,hix,?_⟩
   cbv
   refine ⟨14,ei,by decide,?_⟩
   cbv
   rw [hz]
   refine ⟨14,ei,by decide,?_⟩
   cbv
   rw [hi2]
   exact ⟨(15,i2,u'),⟨ei2,Nat.le_of_ble_eq_true rfl,hu'⟩,(show 16 - 15 < 16 - 14 by decide),le_of [(0,0),(1,1)] (by simp [leSl,leOb,injK,memK,parK,noTup,lk,rn0,rnA,plain,hv] <;> exact ⟨rfl,rfl⟩)⟩
  ·obtain ⟨x,hx⟩ : ∃ x,x = b 15:=⟨_,rfl⟩
   have hix : C (.idx 29) [.agg (vac b),aI i'] (.pure [aI x]):=by rw [hx]; exact hidx (by decide)
   obtain ⟨z,hz⟩ : ∃ z,F .mx (u 15) x = z:=⟨_,rfl⟩
   have hv : vac u' = [aI (u 0),aI (u 1),aI (u 2),aI (u 3),aI (u 4),aI (u 5),aI (u 6),aI (u 7),aI (u 8),aI (u 9),aI (u 10),aI (u 11),aI (u 12),aI (u 13),aI (u 14),aI z]:=by rw [hst (by decide),← hz,hmx,hx]; rfl
   clear hmx hx hst hidx hr
   cbv
   refine bT (tt) ?_
   cbv
   refine ⟨_,hix,?_⟩
   cbv
   refine ⟨15,ei,by decide,?_⟩
   cbv
   rw [hz]
   refine ⟨15,ei,by decide,?_⟩
   cbv
   rw [hi2]
   exact ⟨(16,i2,u'),⟨ei2,Nat.le_of_ble_eq_true rfl,hu'⟩,(show 16 - 16 < 16 - 15 by decide),le_of [(0,0),(1,1)] (by simp [leSl,leOb,injK,memK,parK,noTup,lk,rn0,rnA,plain,hv] <;> exact ⟨rfl,rfl⟩)⟩
 ·obtain rfl : i = 16:=by omega
  have tl : F .cmp .lss i' 16 = false:=by cases h : F .cmp .lss i' 16 with | true=>exact absurd (tl.1 h) hi | false=>rfl
  have hur : u = r:=by rw [hu,hr]; funext k; unfold joinAt joinV; rw [if_pos k.2]
  subst hur
  clear hu hr hmx
  cbv
  refine bF (tl) ?_
  cbv
end Go.Proofs.Ytdnaadcbimbfmaa
