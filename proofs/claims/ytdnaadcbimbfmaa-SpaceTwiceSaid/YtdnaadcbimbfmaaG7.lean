import Derived.Shelf.RegionOpenPlain
import Derived.Lib.Walk
import Derived.Lib.SliceRun
import Derived.Lib.Overlaps
import Derived.Lib.AppendZerosOnto
import Derived.Laws.NewBlocks
import Derived.Laws.Externs
import Derived.Test.YtdnaadcbimbfmaaG6
set_option linter.unusedSimpArgs false
set_option linter.unusedVariables false
namespace Go.Proofs.Ytdnaadcbimbfmaa
open Go Go.RowKit Am Go.Lib
theorem insertE (w : World) (v : Value) (n i : Nat) (xs : List Value) (vb : Nat) (vs : List Value) (hi : i ≤ n) (hown : w.ownsRow 0 65 28 v n xs) (hx : ∀ u ∈ xs,u.oneCell' = true) (hat : w.heap[vb]? = some (.cells vs.toArray 65 (0,0))) (hne : v.ownBlock ≠ some vb) (hvl : vs.length = 28) (h1 : ∀ u ∈ vs,u.oneCell' = true) (hn : n ≤ 1000000) :
  Calls Try.prog 57 #[v,.int .i64 i,.slice (some ⟨vb,0,none⟩) 1 1] w fun e w'=>∃ v',e = .returned v'∧w'.ownsRow 0 65 28 v' (n + 1) (xs.take (i * 28) ++ vs ++ xs.drop (i * 28))∧w.grownBy w' v.ownBlock∧(v'.ownBlock = v.ownBlock ∨ v'.ownBlock = some w.heap.size):=by
 rcases Nat.lt_or_ge i n with hin | hin
 ·have hl:=hown.1
  rcases hown.2 with ⟨rfl,rfl⟩ | ⟨g,cap,cur,rfl,_,hg,hnc,hcm,hcs,htk⟩
  ·omega
  have hvg : vb ≠ g:=fun e=>hne (by rw [e]; rfl)
  have ho : ∀ u ∈ cur.toList.take (n * 28),u.oneCell' = true:=by rw [htk]; exact hx
  by_cases hroom : n + 1 ≤ cap
  ·refine (insShiftE w g n cap i cur vb vs hg hin hroom hcm hcs ho hat hvg hvl h1 hn).mono ?_
   rintro e w' ⟨A,rfl,rfl,hA⟩
   refine ⟨_,rfl,⟨?_,.inr ⟨g,cap,A,rfl,Nat.zero_le _,setRow_heap w.drew g cur A _ _ hg,hroom,hcm,?_,?_⟩⟩,⟨rfl,rfl,rfl,by rw [setRow_size]; exact Nat.le_refl _,fun k _ hk=>setRow_other w.drew g k A (fun e=>hk (by rw [e]; rfl))⟩,.inl rfl⟩
   ·simp only [List.length_append,List.length_take,List.length_drop,hl,hvl]; omega
   ·have:=congrArg List.length hA
    simp only [List.length_append,List.length_take,List.length_drop,Array.length_toList,hvl,hcs] at this
    omega
   ·rw [hA,htk,List.take_append_of_le_length (by simp only [List.length_append,List.length_take,List.length_drop,hl,hvl]; omega),List.take_of_length_le (by simp only [List.length_append,List.length_take,List.length_drop,hl,hvl]; omega)]
  ·refine (insGrowE w g n cap i cur vb vs hg hin hnc (by omega) hcm hcs ho hat hvl h1 hn).mono ?_
   rintro e w' ⟨G,A,rfl,g1,g2,g3,hB,hR,hA⟩
   rw [htk] at hA
   refine ⟨_,rfl,⟨?_,.inr ⟨w.heap.size,G,A,rfl,Nat.zero_le _,hR,g1,g2,g3,hA⟩⟩,⟨hB.os,hB.tape,hB.output,hB.size,fun k hk _=>hB.block k hk⟩,.inr rfl⟩
   simp only [List.length_append,List.length_take,List.length_drop,hl,hvl]; omega
 ·obtain rfl : i = n:=by omega
  refine (insEndE w v i xs vb vs hown hat hvl h1 hn).mono ?_
  rintro e w' ⟨v',rfl,q1,q2,q3⟩
  refine ⟨v',rfl,?_,q2,q3⟩
  rw [List.take_of_length_le (by rw [hown.1]; omega),List.drop_of_length_le (by rw [hown.1]; omega),List.append_nil]
  exact q1
end Go.Proofs.Ytdnaadcbimbfmaa
namespace Go.Proofs.Ytdnaadcbimbfmaa
open Go Go.RowKit Am Go.Lib
theorem step_appNE {ops : Array Oper} {o : Oper} {a : Act} {w : World} {K : Act→World→Prop} {Q : Exit→Act→World→Prop} {E : Prop}
  (hg : o.guard = none) (d x : Operand) (dT sT : TypeId) (hop : o.op = Op.call { callee:=Callee.builtin Builtin.append,args:=#[d,x],argTypes:=#[dT,sT] })
  (v u : Value) (hd : a.eval d = v) (hx : a.eval x = u) {v' : Value} {w' : World} (hr : (Builtin.append_ #[dT,sT] o.type #[v,u]).run Try.prog w = .ok v' w') (hK : K (a.put o.dst v') w') :
  if Region.wanted o (yielded ops a.tmps) = true then Oper.wp Try.prog o a w K Q else E:=by
 have hw : Region.wanted o (yielded ops a.tmps) = true:=by simp [Region.wanted,hg]
 rw [if_pos hw]
 unfold Oper.wp
 simp [execOp,hop,resolve,invoke,builtin,hd,hx,hr,Result.andThen]
 exact hK
theorem list_clearNE (w : World) {ops : Array Oper} {rest : List Oper} {o : Oper} {a : Act} {Q : Exit→Act→World→Prop} (hgd : o.guard = none) (d : Operand) (t : TypeId)
  (ho : o.op = .call { callee:=.builtin .clear,args:=#[d],argTypes:=#[t] }) (v : Value) (hd : a.eval d = v) {v' : Value} {w' : World}
  (hr : (Builtin.clear_ #[t] o.type #[v]).run Try.prog w = .ok v' w') (h : wpList Try.prog ops Q rest (a.put o.dst v') w') : wpList Try.prog ops Q (o :: rest) a w:=by
 refine list1 v' hgd ?_ h
 simp only [execOp,ho,resolve,invoke,builtin,Sem.run_bind,Sem.run_pure,Result.andThen_ok,List.map_toArray,List.map_cons,List.map_nil,hd,hr]
set_option maxHeartbeats 4000000 in
set_option maxRecDepth 100000 in
theorem delAtE (w : World) (g n cap i : Nat) (cur : Array Value) (hg : w.heap[g]? = some (.cells cur 65 (0,0))) (hi : i < n) (hnc : n ≤ cap) (hcm : cap ≤ maxLen) (hcs : cur.size = cap * 28) (ho : ∀ v ∈ cur.toList.take (n * 28),v.oneCell' = true) (hn : n ≤ 1000000) :
  Calls Try.prog 54 #[.slice (some ⟨g,0,none⟩) n cap,.int .i64 i,.int .i64 ((i : Int) + 1)] w fun e w'=>∃ A : Array Value,e = .returned (.slice (some ⟨g,0,none⟩) (n - 1) cap)∧w' = w.drew.setRow g A∧A.size = cap * 28∧A.toList.take ((n - 1) * 28) = (cur.toList.take (n * 28)).take (i * 28) ++ (cur.toList.take (n * 28)).drop ((i + 1) * 28):=by
 obtain ⟨i0,z,hi0,hz,hsz,hzs,hz1,hby⟩:=infoItE
 have hu:=Try.underlying62
 have mixed:=mixed
 have hzv : ∀ w,(zeroValue 65).run Try.prog w = .ok z w:=fun w=>by simp [zeroValue,typeInfo,hi0,hz]
 have hcap : cap ≤ 9223372036854775807:=by unfold maxLen at hcm; omega
 have hlen : cur.toList.length = cap * 28:=by simpa using hcs
 obtain ⟨xs,hxs⟩ : ∃ xs,xs = cur.toList.take (n * 28):=⟨_,rfl⟩
 have hxl : xs.length = n * 28:=by rw [hxs,List.length_take]; omega
 obtain ⟨cs,hcs0⟩ : ∃ cs,cs = xs.drop ((i + 1) * 28):=⟨_,rfl⟩
 have hcl : cs.length = (n - (i + 1)) * 28:=by rw [hcs0,List.length_drop]; omega
 have hoc : ∀ v ∈ cs,v.oneCell' = true:=fun v hv=>ho v (by rw [hcs0,hxs] at hv; exact List.mem_of_mem_drop hv)
 obtain ⟨A1,hA1⟩ : ∃ A,A = (cur.toList.take (i * 28) ++ cs ++ cur.toList.drop (i * 28 + cs.length)).toArray:=⟨_,rfl⟩
 have hA1s : A1.size = cap * 28:=by rw [hA1,List.size_toArray]; simp only [List.length_append,List.length_take,List.length_drop]; omega
 have hmm : i + (n - (i + 1)) = n - 1:=by omega
 have happ : ∀ (a : Addr),(cs ≠ []→a = ⟨g,(i + 1) * 28,none⟩)→∀ ty c,(Builtin.append_ #[62,62] ty #[.slice (some ⟨g,0,none⟩) i cap,.slice (some a) (n - (i + 1)) c]).run Try.prog w.drew = .ok (.slice (some ⟨g,0,none⟩) (n - 1) cap) (w.drew.setRow g A1):=fun a ha ty c=>by
  have:=run_append_room (P:=Try.prog) w.drew 62 ty 65 i0 hu hi0 g i cap cur 65 a (n - (i + 1)) c cs hg (by rw [hcl,hsz]) (fun j u hj=>by
   rw [ha (fun e=>by rw [e] at hj; cases hj)]
   refine slotE (w:=w.drew) hg ((i + 1) * 28) (xs:=cs) (fun j u hj=>?_) j u hj
   rw [hcs0,hxs,List.getElem?_drop,List.getElem?_take] at hj
   split at hj
   ·exact hj
   ·cases hj) hoc (by omega) (by rw [hcl,hsz,hcs]; omega)
  rw [hmm,hsz,← hA1] at this
  exact this
 have hW1 : (w.drew.setRow g A1).heap[g]? = some (.cells A1 65 (0,0)):=setRow_heap w.drew g cur A1 _ _ hg
 obtain ⟨A2,hA2⟩ : ∃ A,A = (A1.toList.take ((n - 1) * 28) ++ (Builtin.zeroCells z.cells 1).toList ++ A1.toList.drop ((n - 1) * 28 + 1 * z.cells.size)).toArray:=⟨_,rfl⟩
 have hcl2 : ∀ ty c,(Builtin.clear_ #[62] ty #[.slice (some ⟨g,(n - 1) * 28,none⟩) (n - (n - 1)) c]).run Try.prog (w.drew.setRow g A1) = .ok (.tuple #[]) (w.drew.setRow g A2):=fun ty c=>by
  have:=run_clearN (P:=Try.prog) (w.drew.setRow g A1) 62 65 ty i0 z hu hzv hz1 g ((n - 1) * 28) 1 c (by omega) A1 65 hW1 (by rw [hzs,hA1s]; omega)
  rw [← hA2,setRow_setRow] at this
  rw [show n - (n - 1) = 1 by omega]
  exact this
 have hA2s : A2.size = cap * 28:=by
  have hz1 : (Builtin.zeroCells z.cells 1).toList.length = 28:=by simp [Builtin.zeroCells,hzs]
  rw [hA2,List.size_toArray]; simp only [List.length_append,List.length_take,List.length_drop,Array.length_toList,hA1s,hz1,hzs]; omega
 have hfin : A2.toList.take ((n - 1) * 28) = (cur.toList.take (n * 28)).take (i * 28) ++ (cur.toList.take (n * 28)).drop ((i + 1) * 28):=by
  rw [hA2]
  show List.take _ (_ ++ _ ++ _) = _
  rw [List.append_assoc,List.take_append_of_le_length (by rw [List.length_take,Array.length_toList,hA1s]; omega),List.take_of_length_le (by rw [List.length_take]; omega),hA1]
  show List.take _ (_ ++ _ ++ _) = _
  rw [List.take_append_of_le_length (by rw [List.length_append,List.length_take,hcl]; omega),List.take_of_length_le (by rw [List.length_append,List.length_take,hcl]; omega),hcs0,← hxs]
  congr 1
  rw [hxs,List.take_take]
  congr 1
  omega
 have hw1 : IntKind.i64.wrap ((i : Int) + 1) = (i : Int) + 1:=by rw [IntKind.wrap_i64]; omega
 have hin : i ≤ n:=by omega
 have hin1 : i + 1 ≤ n:=by omega
 have hb1 : (0 : Int) ≤ (i : Int) + 1:=by omega
 have htn : ((i : Int) + 1).toNat = i + 1:=by omega
 have hb3 : (i : Int) + 1 ≤ (n : Int):=by omega
 have hb5 : ¬ (i = i + 1):=by omega
 have hb6 : ¬ ((i : Int) = (i : Int) + 1):=by omega
 have hb7 : n - 1 ≤ n:=by omega
 have hb8 : ¬ (cap = n - 1):=by omega
 have hb9 : i ≤ cap:=by omega
 have hbA : (i : Int) ≤ (cap : Int):=by omega
 have hbB : (i : Int) ≤ (i : Int) + 1:=by omega
 clear hA1 hA2 hcs0 hlen hW1 hA1s hxs hxl
 by_cases hce : cap = i + 1
 ·obtain rfl : n = i + 1:=by omega
  subst hce
  simp only [Nat.add_sub_cancel,Nat.add_sub_cancel_left,Nat.sub_self] at happ hcl2 hfin
  go_enter Try.func54,Try.ntmps54
  go_wp2
  go_region_law_o (refine step_appNE rfl _ _ 62 62 rfl (.slice (some ⟨g,0,none⟩) i (i + 1)) (.slice (some ⟨g,0,none⟩) 0 0) (by simp [Act.eval,Act.put]) (by simp [Act.eval,Act.put]) (happ ⟨g,0,none⟩ (fun h=>absurd (List.eq_nil_of_length_eq_zero (by rw [hcl]; omega)) h) 62 0) ?_)
  go_wp2_with (at_builtin; refine list_clearNE _ rfl _ 62 rfl _ rfl (hcl2 _ _) ?_)
  go_ret
  exact ⟨A2,rfl,rfl,hA2s,hfin⟩
 ·go_enter Try.func54,Try.ntmps54
  go_wp2
  go_region_law_o (refine step_appNE rfl _ _ 62 62 rfl (.slice (some ⟨g,0,none⟩) i cap) (.slice (some ⟨g,(i + 1) * 28,none⟩) (n - (i + 1)) (cap - (i + 1))) (by simp [Act.eval,Act.put]) (by simp [Act.eval,Act.put]) (happ ⟨g,(i + 1) * 28,none⟩ (fun _=>rfl) 62 (cap - (i + 1))) ?_)
  go_wp2_with (at_builtin; refine list_clearNE _ rfl _ 62 rfl _ rfl (hcl2 _ _) ?_)
  go_ret
  exact ⟨A2,rfl,rfl,hA2s,hfin⟩
theorem deleteE (w : World) (v : Value) (n i : Nat) (xs : List Value) (hi : i < n) (hown : w.ownsRow 0 65 28 v n xs) (hx : ∀ u ∈ xs,u.oneCell' = true) (hn : n ≤ 1000000) :
  Calls Try.prog 54 #[v,.int .i64 i,.int .i64 ((i : Int) + 1)] w fun e w'=>∃ v',e = .returned v'∧w'.ownsRow 0 65 28 v' (n - 1) (xs.take (i * 28) ++ xs.drop ((i + 1) * 28))∧w.grownBy w' v.ownBlock∧v'.ownBlock = v.ownBlock:=by
 have hl:=hown.1
 rcases hown.2 with ⟨rfl,rfl⟩ | ⟨g,cap,cur,rfl,_,hg,hnc,hcm,hcs,htk⟩
 ·omega
 refine (delAtE w g n cap i cur hg hi hnc hcm hcs (by rw [htk]; exact hx) hn).mono ?_
 rintro e w' ⟨A,rfl,rfl,hA,hA2⟩
 rw [htk] at hA2
 refine ⟨_,rfl,⟨?_,.inr ⟨g,cap,A,rfl,Nat.zero_le _,setRow_heap w.drew g cur A _ _ hg,by omega,hcm,hA,hA2⟩⟩,⟨rfl,rfl,rfl,by rw [setRow_size]; exact Nat.le_refl _,fun k _ hk=>setRow_other w.drew g k A (fun e=>hk (by rw [e]; rfl))⟩,rfl⟩
 simp only [List.length_append,List.length_take,List.length_drop,hl]; omega
end Go.Proofs.Ytdnaadcbimbfmaa
namespace Go.Proofs.Ytdnaadcbimbfmaa
open Go Go.RowKit Am
set_option maxRecDepth 100000 in
theorem placeE_ok (l : List ElE) (hl : l.length ≤ 1000000) (hs : Rise dE l) (x : Dt) (rows : List (List AV)) (hrows : rows = l.map itE) (i : Nat) (i' : Int) (hi' : i' = (i : Int)) (hi : i = cntD dE l x) (t : Bool) (ht : t = decide (∃ a ∈ l,dE a = x)) :
  CSem Try.prog (.fn 53) [.ept [.sl rows] 0,.agg x.ac] (.pure [aI i',aB t]):=by
 refine of_text gam_ok mixed { n:=16 } Try.func53 (by kernel_rfl) rfl rfl (by simp) (by decide) fun F C D hF hC hD=>?_
 have hb:=hC _ _ _ (bsE_ok l hl hs x rows hrows i i' hi' hi t ht)
 clear hs hrows hi ht
 cbv
 refine ⟨hC _ _ _ (show Try.prog.underlying 57 = _ from by kernel_rfl),?_⟩
 cbv
 refine ⟨hC _ _ _ (ben_ok (by kernel_rfl)),?_⟩
 cbv
 refine ⟨_,hb,?_⟩
 cbv
 simp
theorem lenE_ok (rows : List (List AV)) (n : Int) (hn : n = (rows.length : Int)) : CSem Try.prog (.fn 20) [.ept [.sl rows] 0] (.pure [aI n]):=by
 refine of_text gam_ok mixed { n:=10 } Try.func20 (by kernel_rfl) rfl rfl (by simp) (by decide) fun F C D hF hC hD=>?_
 have e : F .len rows = n:=by rw [lenF hF,hn]
 cbv
 rw [e]
 exact ⟨hC _ _ _ (show Try.prog.underlying 57 = _ from by kernel_rfl),rfl,trivial⟩
set_option maxHeartbeats 4000000 in
set_option maxRecDepth 100000 in
theorem cloneWE (w : World) (a : Addr) (n c : Nat) (news : List Value) (hl : news.length = n * 28) (hnews : ∀ j u,news[j]? = some u→w.cell? (a.add j) = some u) (h1 : ∀ u ∈ news,u.oneCell' = true) (hn : n ≤ 1000000) :
  Calls Try.prog 45 #[.slice (some a) n c] w fun e w'=>∃ v',e = .returned v'∧w'.ownsRow 0 65 28 v' n news∧Below w.heap.size w w'∧∀ g,v'.ownBlock = some g→w.heap.size ≤ g:=by
 have hnil:=Lib.run_eql_slice_nil (P:=Try.prog) w 62 65 (some a) n c 0 0 Try.underlying62
 obtain ⟨i0,z,hi0,hz,hsz,hzs,hz1,hby⟩:=infoItE
 have hown : OwnR (w.alloc (.cells #[] 65)) 0 65 28 (.slice (some ⟨w.heap.size,0,none⟩) 0 0) 0 []:=OwnR.of ⟨rfl,.inr ⟨w.heap.size,0,#[],rfl,Nat.zero_le _,heap_alloc_new w _,Nat.le_refl _,by unfold maxLen; omega,rfl,rfl⟩⟩
 have hold : Below w.heap.size w (w.alloc (.cells #[] 65)):=(Below.refl _ _).alloc (Nat.le_refl _) _
 obtain ⟨v',w',hr,q1,q2,q3⟩:=run_append_at (P:=Try.prog) (w.alloc (.cells #[] 65)) 62 62 65 i0 z 28 i0.bytes Try.underlying62 hi0 hz hsz rfl hzs (by decide) _ 0 [] hown a n c news hl
  (fun j u hj=>Lib.cell?_alloc_some _ (hnews j u hj)) h1 (by unfold maxLen; omega) (by have:=Nat.mul_le_mul (show 0 + n ≤ 1000001 by omega) hby; omega)
 have q1:=OwnR.owns (by decide) q1
 rw [Nat.zero_add,List.nil_append] at q1
 have hsz1 : (w.alloc (.cells #[] 65)).heap.size = w.heap.size + 1:=by simp
 have hB : Below w.heap.size w w':=⟨q2.os,q2.tape,q2.output,by have:=q2.size; omega,fun k hk=>(q2.block k (by omega) (by simp [Value.ownBlock]; omega)).trans (hold.block k hk)⟩
 have hN : ∀ g,v'.ownBlock = some g→w.heap.size ≤ g:=fun g hg=>by
  rcases q3 with e | e
  ·rw [e] at hg; simp [Value.ownBlock] at hg; omega
  ·rw [e] at hg; injection hg with hg; omega
 clear hown hold q2 q3
 go_enter Try.func45,Try.ntmps45
 go_wp2_with (at_builtin; refine Lib.wpList_append_run _ rfl _ _ _ _ rfl _ _ rfl rfl _ _ hr ?_)
 go_ret
 exact ⟨v',rfl,q1,hB,hN⟩
set_option maxRecDepth 100000 in
theorem cloneNilE (w : World) (c : Nat) : Calls Try.prog 45 #[.slice none 0 0] w fun e w'=>e = .returned (.slice none 0 0)∧w' = w:=by
 have hnil:=Lib.run_eql_slice_nil (P:=Try.prog) w 62 65 none 0 0 0 0 Try.underlying62
 go_enter Try.func45,Try.ntmps45
 go_wp2
 go_ret
 exact ⟨rfl,rfl⟩
theorem cloneE_ok (rows : List (List AV)) (hl : rows.length ≤ 1000000) (hr : ∀ r ∈ rows,r.length = 28) : CSem Try.prog (.fn 45) [.sl rows] (.own 65 28 rows []):=by
 refine ⟨enterT Try.func45 (by kernel_rfl) rfl,fun w S xs hS hgd hxs=>?_⟩
 obtain ⟨y,rfl,hy⟩:=reps_one hxs
 rcases src_ok (w:=w) (S:=S) (β:=fun _=>.bool true) (obs:=[]) (B:=0) (fun k o h=>by simp [lk] at h) (y:=.sl rows) rfl hy hr (by decide) with ⟨rfl,rfl⟩ | ⟨ad,c,news,rfl,hnr,hnc⟩
 ·refine (cloneNilE w 0).mono ?_
  rintro e w' ⟨rfl,rfl⟩
  exact ⟨_,S,rfl,Gr.refl hS,_,[],[],rfl,OwnR.nil _ _ _ _,RepL.nil _ _,hr,fun g hg=>by simp [Value.ownBlock] at hg,Reps.nil _ _,by simp⟩
 ·refine (cloneWE w ad rows.length c news (by rw [← hnr.1,flat_len rows hr]) hnc hnr.one hl).mono ?_
  rintro e w' ⟨v',rfl,hown,hB,hN⟩
  refine ⟨_,S,rfl,gr_below hS hB,v',[],news,rfl,?_,hnr.mono (fun g hg=>hB.block g (hS g hg)) (fun _ h=>h),hr,fun g hg hs=>?_,Reps.nil _ _,by omega⟩
  ·have:=OwnR.of hown
   refine ⟨this.1,?_⟩
   rcases this.2 with h | ⟨g,cap,cur,fr,h1,h2,h3⟩
   ·exact .inl h
   ·exact .inr ⟨g,cap,cur,fr,h1,hN g (by rw [h1]; rfl),h3⟩
  ·have:=hN g hg
   have:=hS g hs
   omega
theorem itemsE_ok (rows : List (List AV)) (hl : rows.length ≤ 1000000) (hr : ∀ r ∈ rows,r.length = 28) : CSem Try.prog (.fn 21) [.ept [.sl rows] 0] (.own 65 28 rows []):=by
 refine of_text gam_ok mixed { n:=10,keep:=[9] } Try.func21 (by kernel_rfl) rfl rfl (by simp) (by decide) fun F C D hF hC hD=>?_
 have hc:=hC _ _ _ (cloneE_ok rows hl hr)
 cbv
 refine ⟨hC _ _ _ (show Try.prog.underlying 57 = _ from by kernel_rfl),?_⟩
 cbv
 refine ⟨_,_,_,_,hc,?_⟩
 cbv
 try simp
end Go.Proofs.Ytdnaadcbimbfmaa
namespace Go.Proofs.Ytdnaadcbimbfmaa
open Go Go.RowKit Am
theorem place1T_ok (a : ElT) (x : Dt) (ra : List AV) (hra : ra = itT a) (r : Int) (hr : r = cmpD (dT a) x) : CSem Try.prog (.fn 75) [.agg ra,.agg x.ac] (.pure [aI r]):=by
 subst hra
 refine of_text gam_ok mixed { n:=19 } Try.func75 (by kernel_rfl) rfl rfl (by simp) (by decide) fun F C D hF hC hD=>?_
 obtain ⟨c1,h1⟩ : ∃ c,c = compareI (dT a).R x.R:=⟨_,rfl⟩
 have k1:=hC _ _ _ (compare_ok (dT a).R x.R c1 h1)
 obtain ⟨c2,h2⟩ : ∃ c,c = compareI (dT a).N x.N:=⟨_,rfl⟩
 have k2:=hC _ _ _ (compare_ok (dT a).N x.N c2 h2)
 have k3:=hC _ _ _ (or_ok [c1,c2] _ rfl (by simp) r (by rw [hr,h1,h2]; rfl))
 clear h1 h2 hr
 cbv
 refine ⟨hC _ _ _ (ben_ok (by kernel_rfl)),?_⟩
 cbv
 refine ⟨_,k1,?_⟩
 cbv
 refine ⟨_,k2,?_⟩
 cbv
 refine ⟨_,k3,?_⟩
 cbv
 simp
set_option maxRecDepth 100000 in
set_option maxHeartbeats 2000000 in
theorem bsT_ok (l : List ElT) (hl : l.length ≤ 1000000) (hs : Rise dT l) (x : Dt) (rows : List (List AV)) (hrows : rows = l.map itT) (i : Nat) (i' : Int) (hi' : i' = (i : Int)) (hi : i = cntD dT l x) (t : Bool) (ht : t = decide (∃ a ∈ l,dT a = x)) :
  CSem Try.prog (.fn 74) [.sl rows,.agg x.ac,.clo 75 []] (.pure [aI i',aB t]):=by
 refine of_text gam_ok mixed { n:=49 } Try.func74 (by kernel_rfl) rfl rfl (by simp) (by decide) fun F C D hF hC hD=>?_
 obtain ⟨n',hn'⟩ : ∃ n' : Int,F .len rows = n':=⟨_,rfl⟩
 have en : n' = (l.length : Int):=by rw [← hn',lenF hF,hrows,List.length_map]
 have hil : i ≤ l.length:=by rw [hi]; exact cntD_le _ _ _
 have hat : ∀ (k : Nat),k < l.length→∃ a,l[k]? = some a∧rows[k]? = some (itT a)∧C (.fn 75) [.agg (itT a),.agg x.ac] (.pure [aI (cmpD (dT a) x)])∧(cmpD (dT a) x < 0 ↔ k < i)∧(cmpD (dT a) x = 0 ↔ dT a = x):=fun k hk=>by
  have hg : l[k]? = some l[k]:=List.getElem?_eq_getElem hk
  exact ⟨l[k],hg,by rw [hrows]; simp [hg],hC _ _ _ (place1T_ok l[k] x _ rfl _ rfl),by rw [cmpD_lt,hi]; exact (cntD_lt hs hg).symm,cmpD_eq _ _⟩
 have htt : ∀ a,l[i]? = some a→t = decide (dT a = x):=fun a ha=>by
  rw [ht]
  congr 1
  refine propext ⟨fun ⟨b,hb,hbx⟩=>?_,fun h=>⟨a,List.mem_of_getElem? ha,h⟩⟩
  obtain ⟨j,hj⟩:=List.getElem?_of_mem hb
  have:=cntD_at hs hj hbx
  rw [hi,this,hj] at ha
  injection ha with ha
  rw [← ha]; exact hbx
 have htn : ¬ i < l.length→t = false:=fun h=>by
  rw [ht]
  refine decide_eq_false fun ⟨b,hb,hbx⟩=>?_
  obtain ⟨j,hj⟩:=List.getElem?_of_mem hb
  have:=cntD_at hs hj hbx
  have:=(List.getElem?_eq_some_iff.1 hj).1
  omega
 obtain ⟨len,hlen⟩ : ∃ n,n = l.length:=⟨_,rfl⟩
 rw [← hlen] at hat htn hl hil en
 clear hs hi ht hrows
 cbv
 rw [hn']
 refine ⟨Nat × Nat × Int × Int,fun y=>{ slots:=[(9,aI y.2.2.1),(10,aI y.2.2.2),(8,aI n'),(4,.ept x.ac 0),(0,.sl rows),(2,.clo 75 [])],obs:=[],ctr:=0 },fun y=>y.2.2.1 = (y.1 : Int)∧y.2.2.2 = (y.2.1 : Int)∧y.1 ≤ i∧i ≤ y.2.1∧y.2.1 ≤ len,fun y=>y.2.1 - y.1,⟨(0,len,0,n'),⟨rfl,en,Nat.zero_le _,hil,Nat.le_refl _⟩,(le_of [] (by simp [leSl,leOb,injK,memK,parK,noTup,lk,rn0,rnA,plain] <;> first | rfl | decide | (repeat (first | rfl | trivial | refine And.intro ?_ ?_))))⟩,fun y hy=>?_⟩
 obtain ⟨a,b,a',b'⟩:=y
 obtain ⟨ea,eb,g1,g2,g3⟩:=hy
 simp only at ea eb g1 g2 g3
 have tl:=ltF hF a b a' b' ea eb
 obtain ⟨k,hk⟩ : ∃ k,k = (a + b) / 2:=⟨_,rfl⟩
 obtain ⟨k',hk'⟩ : ∃ k',F .wrp .i64 (F .ar .shr .u64 (F .wrp .u64 (F .ar .add .i64 a' b')) 1) = k':=⟨_,rfl⟩
 have ek : k' = (k : Int):=hk'.symm.trans ((halfF hF a b a' b' ea eb (by omega) (by omega)).trans (by rw [hk]))
 obtain ⟨k1,hk1⟩ : ∃ k1,F .ar .add .i64 k' 1 = k1:=⟨_,rfl⟩
 by_cases hab : a < b
 ·have tl : F .cmp .lss a' b' = true:=tl.2 hab
  have ek1 : k1 = ((k + 1 : Nat) : Int):=hk1.symm.trans (incF hF ek (by omega))
  obtain ⟨e,he,hre,hcall,hc1,hc2⟩:=hat k (by omega)
  obtain ⟨c,hc⟩ : ∃ c,c = cmpD (dT e) x:=⟨_,rfl⟩
  rw [← hc] at hcall hc1 hc2
  have tc : F .cmp .lss c 0 = decide (c < 0):=lsF hF c 0
  clear hat htt htn
  cbv
  refine bT (tl) ?_
  cbv
  rw [hk']
  refine ⟨hC _ _ _ (ben_ok (by kernel_rfl)),?_⟩
  cbv
  refine ⟨k,_,ek,hre,rfl,?_⟩
  cbv
  refine ⟨_,hcall,?_⟩
  cbv
  by_cases hneg : c < 0
  ·rw [tc.trans (decide_eq_true hneg)]
   refine bT (rfl) ?_
   cbv
   rw [hk1]
   exact ⟨(k + 1,b,k1,b'),⟨ek1,eb,hc1.1 hneg,g2,g3⟩,(show b - (k + 1) < b - a by omega),(le_of [] (by simp [leSl,leOb,injK,memK,parK,noTup,lk,rn0,rnA,plain] <;> first | rfl | decide | (repeat (first | rfl | trivial | refine And.intro ?_ ?_))))⟩
  ·rw [tc.trans (decide_eq_false hneg)]
   refine bF (rfl) ?_
   cbv
   have hki : ¬ k < i:=fun h=>hneg (hc1.2 h)
   exact ⟨(a,k,a',k'),⟨ea,ek,g1,(show i ≤ k by omega),(show k ≤ len by omega)⟩,(show k - a < b - a by omega),(le_of [] (by simp [leSl,leOb,injK,memK,parK,noTup,lk,rn0,rnA,plain] <;> first | rfl | decide | (repeat (first | rfl | trivial | refine And.intro ?_ ?_))))⟩
 ·have tl : F .cmp .lss a' b' = false:=by cases h : F .cmp .lss a' b' with | true=>exact absurd (tl.1 h) hab | false=>rfl
  obtain rfl : a = i:=by omega
  have eai : a' = i':=by rw [ea,hi']
  have tl2:=ltF hF a len a' n' ea en
  by_cases hal : a < len
  ·have tl2 : F .cmp .lss a' n' = true:=tl2.2 hal
   obtain ⟨e,he,hre,hcall,hc1,hc2⟩:=hat a hal
   obtain ⟨c,hc⟩ : ∃ c,c = cmpD (dT e) x:=⟨_,rfl⟩
   rw [← hc] at hcall hc2
   have tc : F .cmp .eql c 0 = t:=by
    rw [eqF hF,htt e he]
    exact decide_eq_decide.2 hc2
   clear hat htt htn
   cbv
   refine bF (tl) ?_
   cbv
   refine ⟨hC _ _ _ (ben_ok (by kernel_rfl)),?_⟩
   cbv
   rw [tl2]
   refine bT (rfl) ?_
   cbv
   refine ⟨a,_,ea,hre,rfl,?_⟩
   cbv
   refine ⟨_,hcall,?_⟩
   cbv
   rw [tc,eai]
   simp
  ·have tl2 : F .cmp .lss a' n' = false:=by cases h : F .cmp .lss a' n' with | true=>exact absurd (tl2.1 h) hal | false=>rfl
   have ht:=htn hal
   subst ht
   clear hat htt htn
   cbv
   refine bF (tl) ?_
   cbv
   refine ⟨hC _ _ _ (ben_ok (by kernel_rfl)),?_⟩
   cbv
   rw [tl2]
   refine bF (rfl) ?_
   cbv
   rw [eai]
   simp
end Go.Proofs.Ytdnaadcbimbfmaa
namespace Go.Proofs.Ytdnaadcbimbfmaa
open Go Go.RowKit Am Go.Lib
theorem step_copyNT {ops : Array Oper} {o : Oper} {a : Act} {w : World} {K : Act→World→Prop} {Q : Exit→Act→World→Prop} {E : Prop}
  (hg : o.guard = none) (d x : Operand) (dT sT : TypeId) (hop : o.op = Op.call { callee:=Callee.builtin Builtin.copy,args:=#[d,x],argTypes:=#[dT,sT] })
  (v u : Value) (hd : a.eval d = v) (hx : a.eval x = u) {v' : Value} {w' : World} (hr : (Builtin.copy_ #[dT,sT] o.type #[v,u]).run Try.prog w = .ok v' w') (hK : K (a.put o.dst v') w') :
  if Region.wanted o (yielded ops a.tmps) = true then Oper.wp Try.prog o a w K Q else E:=by
 have hw : Region.wanted o (yielded ops a.tmps) = true:=by simp [Region.wanted,hg]
 rw [if_pos hw]
 unfold Oper.wp
 simp [execOp,hop,resolve,invoke,builtin,hd,hx,hr,Result.andThen]
 exact hK
theorem list_copyNT (w : World) {ops : Array Oper} {rest : List Oper} {o : Oper} {a : Act} {Q : Exit→Act→World→Prop} (hgd : o.guard = none) (d s : Operand) (t t' : TypeId)
  (ho : o.op = .call { callee:=.builtin .copy,args:=#[d,s],argTypes:=#[t,t'] }) (v u : Value) (hd : a.eval d = v) (hs : a.eval s = u) {v' : Value} {w' : World}
  (hr : (Builtin.copy_ #[t,t'] o.type #[v,u]).run Try.prog w = .ok v' w') (h : wpList Try.prog ops Q rest (a.put o.dst v') w') : wpList Try.prog ops Q (o :: rest) a w:=by
 refine list1 v' hgd ?_ h
 simp only [execOp,ho,resolve,invoke,builtin,Sem.run_bind,Sem.run_pure,Result.andThen_ok,List.map_toArray,List.map_cons,List.map_nil,hd,hs,hr]
theorem infoItT : ∃ i z,Try.prog.info? 72 = some i∧i.zero = some z∧i.size = 30∧z.cells.size = 30∧(∀ v ∈ z.cells.toList,v.oneCell' = true)∧i.bytes ≤ 300:=by
 have h : (match Try.prog.info? 72 with | some i=>(match i.zero with | some z=>i.size == 30 && z.cells.size == 30 && z.cells.toList.all (fun v=>v.oneCell') && Nat.ble i.bytes 300 | none=>false) | none=>false) = true:=by kernel_rfl
 cases h1 : Try.prog.info? 72 with
 | none=>rw [h1] at h; cases h
 | some i =>
  rw [h1] at h
  cases h2 : i.zero with
  | none=>simp only [h2] at h; cases h
  | some z =>
   simp only [h2,Bool.and_eq_true,beq_iff_eq,List.all_eq_true,Nat.ble_eq] at h
   exact ⟨i,z,rfl,h2,h.1.1.1,h.1.1.2,h.1.2,h.2⟩
set_option maxHeartbeats 4000000 in
set_option maxRecDepth 100000 in
theorem insEndT (w : World) (v : Value) (n : Nat) (xs : List Value) (vb : Nat) (vs : List Value) (hown : w.ownsRow 0 72 30 v n xs) (hat : w.heap[vb]? = some (.cells vs.toArray 72 (0,0))) (hvl : vs.length = 30) (h1 : ∀ u ∈ vs,u.oneCell' = true) (hn : n ≤ 1000000) :
  Calls Try.prog 56 #[v,.int .i64 n,.slice (some ⟨vb,0,none⟩) 1 1] w fun e w'=>∃ v',e = .returned v'∧w'.ownsRow 0 72 30 v' (n + 1) (xs ++ vs)∧w.grownBy w' v.ownBlock∧(v'.ownBlock = v.ownBlock ∨ v'.ownBlock = some w.heap.size):=by
 obtain ⟨i0,z,hi0,hz,hsz,hzs,hz1,hby⟩:=infoItT
 obtain ⟨v',w',hr,q1,q2,q3⟩:=run_append_at (P:=Try.prog) w 69 69 72 i0 z 30 i0.bytes Try.underlying69 hi0 hz hsz rfl hzs (by decide) v n xs (OwnR.of hown) ⟨vb,0,none⟩ 1 1 vs (by rw [hvl])
  (fun j u hj=>by rw [add_mk,cell_of_row _ _ j _ _ _ hat]; simpa using hj) h1 (by unfold maxLen; omega) (by have:=Nat.mul_le_mul (show n + 1 ≤ 1000001 by omega) hby; omega)
 have q1:=OwnR.owns (by decide) q1
 have hfit : ¬ ((n : Int) < 0):=by omega
 rcases hown.2 with ⟨rfl,rfl⟩ | ⟨g,cap,cur,rfl,_,hg,hnc,hcm,hcs,htk⟩
 ·go_enter Try.func56,Try.ntmps56
  go_wp2_with (at_builtin; refine Lib.wpList_append_run _ rfl _ _ _ _ rfl _ _ rfl rfl _ _ hr ?_)
  go_ret
  exact ⟨_,rfl,q1,q2,q3⟩
 ·have hcap : cap ≤ 9223372036854775807:=by unfold maxLen at hcm; omega
  go_enter Try.func56,Try.ntmps56
  go_wp2_with (at_builtin; refine Lib.wpList_append_run _ rfl _ _ _ _ rfl _ _ rfl rfl _ _ hr ?_)
  all_goals (go_ret; exact ⟨_,rfl,q1,q2,q3⟩)
end Go.Proofs.Ytdnaadcbimbfmaa
namespace Go.Proofs.Ytdnaadcbimbfmaa
open Go Go.RowKit Am Go.Lib
theorem ins_listT {α : Type} (cur vs : List α) (a s N : Nat) (hvs : vs.length = s) (ha : a ≤ N) (hl : N + s ≤ cur.length) :
  (cur.take (a + s) ++ (cur.take N).drop a ++ cur.drop (a + s + (N - a))).take a ++ vs ++ (cur.take (a + s) ++ (cur.take N).drop a ++ cur.drop (a + s + (N - a))).drop (a + s) = (cur.take N).take a ++ vs ++ (cur.take N).drop a ++ cur.drop (N + s):=by
 have e1 : (cur.take (a + s) ++ (cur.take N).drop a ++ cur.drop (a + s + (N - a))).take a = (cur.take N).take a:=by
  rw [List.append_assoc,List.take_append_of_le_length (by rw [List.length_take]; omega),List.take_take,List.take_take]
  congr 1
  omega
 have e2 : (cur.take (a + s) ++ (cur.take N).drop a ++ cur.drop (a + s + (N - a))).drop (a + s) = (cur.take N).drop a ++ cur.drop (N + s):=by
  rw [List.append_assoc,List.drop_append,List.drop_of_length_le (by rw [List.length_take]; omega),List.length_take,show a + s - min (a + s) cur.length = 0 by omega,List.drop_zero,List.nil_append]
  congr 2
  omega
 rw [e1,e2]
 simp
theorem slotT {w : World} {g : Nat} {cur : Array Value} {t : TypeId} {fz : Nat × Nat} {xs : List Value} (h : w.heap[g]? = some (.cells cur t fz)) (a : Nat) (hx : ∀ j u,xs[j]? = some u→cur.toList[a + j]? = some u) : ∀ j u,xs[j]? = some u→w.cell? ((⟨g,a,none⟩ : Addr).add j) = some u:=fun j u hj=>by
 rw [Addr.add_lit,cell_of_row _ _ (a + j) _ _ _ h]
 have:=hx j u hj
 simpa using this
set_option maxHeartbeats 4000000 in
set_option maxRecDepth 100000 in
theorem insShiftT (w : World) (g n cap i : Nat) (cur : Array Value) (vb : Nat) (vs : List Value) (hg : w.heap[g]? = some (.cells cur 72 (0,0))) (hi : i < n) (hroom : n + 1 ≤ cap) (hcm : cap ≤ maxLen) (hcs : cur.size = cap * 30) (ho : ∀ v ∈ cur.toList.take (n * 30),v.oneCell' = true)
  (hat : w.heap[vb]? = some (.cells vs.toArray 72 (0,0))) (hne : vb ≠ g) (hvl : vs.length = 30) (h1 : ∀ u ∈ vs,u.oneCell' = true) (hn : n ≤ 1000000) :
  Calls Try.prog 56 #[.slice (some ⟨g,0,none⟩) n cap,.int .i64 i,.slice (some ⟨vb,0,none⟩) 1 1] w fun e w'=>∃ A : Array Value,e = .returned (.slice (some ⟨g,0,none⟩) (n + 1) cap)∧w' = w.drew.setRow g A∧A.toList = (cur.toList.take (n * 30)).take (i * 30) ++ vs ++ (cur.toList.take (n * 30)).drop (i * 30) ++ cur.toList.drop (n * 30 + 30):=by
 obtain ⟨i0,z,hi0,hz,hsz,hzs,hz1,hby⟩:=infoItT
 have hu:=Try.underlying69
 have mixed:=mixed
 have hcap : cap ≤ 9223372036854775807:=by unfold maxLen at hcm; omega
 have hz1 : ¬ ((i : Int) = (n : Int)):=by omega
 have hlen : cur.toList.length = cap * 30:=by simpa using hcs
 have hN : n * 30 + 30 ≤ cap * 30:=by omega
 obtain ⟨cs,hcs0⟩ : ∃ cs,cs = (cur.toList.take (n * 30)).drop (i * 30):=⟨_,rfl⟩
 have hcl : cs.length = (n - i) * 30:=by rw [hcs0,List.length_drop,List.length_take]; omega
 obtain ⟨A1,hA1⟩ : ∃ A,A = (cur.toList.take ((i + 1) * 30) ++ cs ++ cur.toList.drop ((i + 1) * 30 + cs.length)).toArray:=⟨_,rfl⟩
 have hA1s : A1.size = cap * 30:=by rw [hA1,List.size_toArray]; simp only [List.length_append,List.length_take,List.length_drop]; omega
 have hcp1 : ∀ ty dc sc,(Builtin.copy_ #[69,69] ty #[.slice (some ⟨g,(i + 1) * 30,none⟩) (n + 1 - (i + 1)) dc,.slice (some ⟨g,i * 30,none⟩) (n + 1 - i) sc]).run Try.prog w.drew = .ok (goInt ((n - i : Nat) : Int)) (w.drew.setRow g A1):=fun ty dc sc=>by
  have hmin : Nat.min (n + 1 - i) (n + 1 - (i + 1)) = n - i:=by simp only [Nat.min_def]; split <;> omega
  have:=run_copy_rowN (P:=Try.prog) w.drew 69 69 ty 72 g ((i + 1) * 30) (n + 1 - (i + 1)) dc ⟨g,i * 30,none⟩ (n + 1 - i) sc cur 72 cs i0 hu hi0 hg (by rw [hcl,hsz,hmin])
   (slotT (w:=w.drew) hg _ fun j u hj=>by
    rw [hcs0,List.getElem?_drop,List.getElem?_take] at hj
    split at hj
    ·exact hj
    ·cases hj) (by rw [hcl,hcs]; omega) (fun v hv=>ho v (by rw [hcs0] at hv; exact List.mem_of_mem_drop hv))
  rw [hmin,← hA1] at this
  exact this
 obtain ⟨A2,hA2⟩ : ∃ A,A = (A1.toList.take (i * 30) ++ vs ++ A1.toList.drop (i * 30 + vs.length)).toArray:=⟨_,rfl⟩
 have hW1 : (w.drew.setRow g A1).heap[g]? = some (.cells A1 72 (0,0)):=setRow_heap w.drew g cur A1 _ _ hg
 have hcp2 : ∀ ty dc,(Builtin.copy_ #[69,69] ty #[.slice (some ⟨g,i * 30,none⟩) (n + 1 - i) dc,.slice (some ⟨vb,0,none⟩) 1 1]).run Try.prog (w.drew.setRow g A1) = .ok (goInt 1) (w.drew.setRow g A2):=fun ty dc=>by
  have hmin : Nat.min 1 (n + 1 - i) = 1:=by simp only [Nat.min_def]; split <;> omega
  have:=run_copy_rowN (P:=Try.prog) (w.drew.setRow g A1) 69 69 ty 72 g (i * 30) (n + 1 - i) dc ⟨vb,0,none⟩ 1 1 A1 72 vs i0 hu hi0 hW1 (by rw [hvl,hsz,hmin])
   (slotT (w:=w.drew.setRow g A1) ((setRow_other w.drew g vb A1 hne).trans hat) _ fun j u hj=>by simpa using hj) (by rw [hvl,hA1s]; omega) h1
  rw [hmin,← hA2,setRow_setRow] at this
  exact this
 have hov : ∀ lb cb,(callFunc 76 #[.slice (some ⟨vb,0,none⟩) 1 1,.slice (some ⟨g,(i + 1) * 30,none⟩) lb cb]).run Try.prog w = .ok (.value (.bool false)) w:=fun lb cb=>by
  rw [run_callFunc_extern (show Try.prog.funcs[76]? = some Try.f76 by kernel_rfl) (by kernel_rfl) (by kernel_rfl) (by kernel_rfl) (e:=Extern.SlicesOverlaps.overlaps #[69,69] #[4]) (by kernel_rfl),
   Lib.run_overlaps_apart w 69 4 72 hu 30 (fun w=>by kernel_rfl) ⟨vb,0,none⟩ ⟨g,(i + 1) * 30,none⟩ 1 1 lb cb hne 72 72 vs.toArray.size cur.size (by simp [World.shape?,hat]) (by simp [World.shape?,hg]) (by rw [hcs]; omega) (by simp [World.frozen?,hat]) (by simp [World.frozen?,hat])]
  rfl
 have hw1 : IntKind.i64.wrap ((i : Int) + 1) = (i : Int) + 1:=by rw [IntKind.wrap_i64]; omega
 have hw2 : IntKind.i64.wrap ((n : Int) + 1) = (n : Int) + 1:=by rw [IntKind.wrap_i64]; omega
 have hfin : A2.toList = (cur.toList.take (n * 30)).take (i * 30) ++ vs ++ (cur.toList.take (n * 30)).drop (i * 30) ++ cur.toList.drop (n * 30 + 30):=by
  have:=ins_listT cur.toList vs (i * 30) 30 (n * 30) hvl (by omega) (by omega)
  rw [← this,hA2,hA1,hcl,hcs0,hvl]
  simp only [show (i + 1) * 30 = i * 30 + 30 by omega,show (n - i) * 30 = n * 30 - i * 30 by omega]
 have hin : i ≤ n:=by omega
 have hb1 : (0 : Int) ≤ (i : Int) + 1:=by omega
 have htn : ((i : Int) + 1).toNat = i + 1:=by omega
 have hb2 : ¬ (cap = i + 1):=by omega
 have hb3 : (i : Int) ≤ (n : Int) + 1:=by omega
 have hb4 : ¬ (cap = i):=by omega
 clear hA1 hA2 hcs0 hcl hcs hlen hN
 go_enter Try.func56,Try.ntmps56
 go_wp2_with (simp only [hov])
 go_region_law_o (refine step_copyNT rfl _ _ 69 69 rfl (.slice (some ⟨g,(i + 1) * 30,none⟩) (n + 1 - (i + 1)) (cap - (i + 1))) (.slice (some ⟨g,i * 30,none⟩) (n + 1 - i) (cap - i)) (by simp [Act.eval,Act.put]) (by simp [Act.eval,Act.put]) (hcp1 3 (cap - (i + 1)) (cap - i)) ?_)
 go_wp2_with (at_builtin; refine list_copyNT _ rfl _ _ 69 69 rfl _ _ rfl rfl (hcp2 _ _) ?_)
 go_ret
 exact ⟨A2,rfl,rfl,hfin⟩
end Go.Proofs.Ytdnaadcbimbfmaa
namespace Go.Proofs.Ytdnaadcbimbfmaa
open Go Go.RowKit Am Go.Lib
theorem ins_list2T {α : Type} (row cs vs : List α) (a s N : Nat) (hvs : vs.length = s) (hcs : cs.length = N) (ha : a ≤ N) (hl : N + s ≤ row.length) (hr : row.take a = cs.take a) :
  ((row.take a ++ vs ++ row.drop (a + s)).take (a + s) ++ cs.drop a ++ (row.take a ++ vs ++ row.drop (a + s)).drop (a + s + (N - a))).take (N + s) = cs.take a ++ vs ++ cs.drop a:=by
 have e1 : (row.take a ++ vs ++ row.drop (a + s)).take (a + s) = cs.take a ++ vs:=by
  rw [hr,List.take_append_of_le_length (by rw [List.length_append,List.length_take]; omega),List.take_of_length_le (by rw [List.length_append,List.length_take]; omega)]
 rw [e1,List.take_append_of_le_length (by simp only [List.length_append,List.length_take,List.length_drop]; omega),List.take_of_length_le (by simp only [List.length_append,List.length_take,List.length_drop]; omega)]
set_option maxHeartbeats 4000000 in
set_option maxRecDepth 100000 in
theorem insGrowT (w : World) (g n cap i : Nat) (cur : Array Value) (vb : Nat) (vs : List Value) (hg : w.heap[g]? = some (.cells cur 72 (0,0))) (hi : i < n) (hnc : n ≤ cap) (hroom : cap < n + 1) (hcm : cap ≤ maxLen) (hcs : cur.size = cap * 30) (ho : ∀ v ∈ cur.toList.take (n * 30),v.oneCell' = true)
  (hat : w.heap[vb]? = some (.cells vs.toArray 72 (0,0))) (hvl : vs.length = 30) (h1 : ∀ u ∈ vs,u.oneCell' = true) (hn : n ≤ 1000000) :
  Calls Try.prog 56 #[.slice (some ⟨g,0,none⟩) n cap,.int .i64 i,.slice (some ⟨vb,0,none⟩) 1 1] w fun e w'=>∃ (G : Nat) (A : Array Value),e = .returned (.slice (some ⟨w.heap.size,0,none⟩) (n + 1) G)∧n + 1 ≤ G∧G ≤ maxLen∧A.size = G * 30∧Below w.heap.size w w'∧w'.heap[w.heap.size]? = some (.cells A 72 (0,0))∧A.toList.take ((n + 1) * 30) = (cur.toList.take (n * 30)).take (i * 30) ++ vs ++ (cur.toList.take (n * 30)).drop (i * 30):=by
 obtain ⟨i0,z,hi0,hz,hsz,hzs,hz1,hby⟩:=infoItT
 have hu:=Try.underlying69
 have mixed:=mixed
 have hcap : cap ≤ 9223372036854775807:=by unfold maxLen at hcm; omega
 have hz1 : ¬ ((i : Int) = (n : Int)):=by omega
 have hlen : cur.toList.length = cap * 30:=by simpa using hcs
 have hgw : g < w.heap.size:=(Array.getElem?_eq_some_iff.1 hg).1
 have hvw : vb < w.heap.size:=(Array.getElem?_eq_some_iff.1 hat).1
 obtain ⟨xs,hxs⟩ : ∃ xs,xs = cur.toList.take (n * 30):=⟨_,rfl⟩
 have hxl : xs.length = n * 30:=by rw [hxs,List.length_take]; omega
 obtain ⟨cs,hcs0⟩ : ∃ cs,cs = xs.drop (i * 30):=⟨_,rfl⟩
 have hcl : cs.length = (n - i) * 30:=by rw [hcs0,List.length_drop]; omega
 have hik : i + (n + 1 - i) = n + 1:=by omega
 obtain ⟨G,hG⟩ : ∃ G,G = grownCap w (n + 1) cap 72:=⟨_,rfl⟩
 have hGn : n + 1 ≤ G:=by rw [hG]; exact grownCap_ge w _ _ _
 have hGm : G ≤ maxLen:=by rw [hG]; exact grownCap_le_maxLen w (n + 1) cap 72 (by unfold maxLen; omega)
 obtain ⟨ROW,hROW⟩ : ∃ R : Array Value,R = (xs.take (i * 30)).toArray ++ Builtin.zeroCells z.cells (n + 1 - i) ++ Builtin.zeroCells z.cells (G - (n + 1)):=⟨_,rfl⟩
 have hRs : ROW.size = G * 30:=by
  rw [hROW]
  simp only [Array.size_append,List.size_toArray,size_zeroCells,hzs,List.length_take,hxl]
  omega
 have hRt : ROW.toList.take (i * 30) = xs.take (i * 30):=by
  rw [hROW]
  simp only [Array.toList_append,List.append_assoc]
  rw [List.take_append_of_le_length (by rw [List.length_take]; omega),List.take_of_length_le (by rw [List.length_take]; omega)]
 have hap : (Builtin.append_ #[69,3] 69 #[.slice (some ⟨g,0,none⟩) i cap,.int .i64 ((n : Int) + 1 - (i : Int))]).run Try.prog w = .ok (.slice (some ⟨w.heap.size,0,none⟩) (n + 1) G) (w.drew.alloc (.cells ROW 72)):=by
  have hold : (Builtin.firstCells i0.size i (.slice (some ⟨g,0,none⟩) i cap)).run Try.prog w.drew = .ok (xs.take (i * 30)).toArray w.drew:=by
   rw [hsz]
   exact run_firstCells_some w.drew 30 i ⟨g,0,none⟩ i cap (xs.take (i * 30)) (by rw [List.length_take]; omega) (slotT (w:=w.drew) hg 0 fun j u hj=>by
    rw [hxs,List.getElem?_take,List.getElem?_take] at hj
    rw [Nat.zero_add]
    split at hj
    ·split at hj
     ·exact hj
     ·cases hj
    ·cases hj)
  have h:=Lib.run_append_grow_zeros w 69 3 69 72 i0 z .i64 .i64 hu (by kernel_rfl) hi0 hz (some ⟨g,0,none⟩) i cap _ hold (n + 1 - i) (by omega) (by omega) (by omega) (by omega) (by have:=Nat.mul_le_mul (show n + 1 - i ≤ 1000001 by omega) hby; omega) (by rw [hik]; exact growslice_fits (by omega) (by have:=Nat.mul_le_mul (show n + 1 ≤ 1000001 by omega) hby; omega))
  rw [hik,← hG,← hROW] at h
  rw [show (n : Int) + 1 - (i : Int) = ((n + 1 - i : Nat) : Int) by omega]
  exact h
 obtain ⟨W0,hW0⟩ : ∃ W0,W0 = w.drew.alloc (.cells ROW 72):=⟨_,rfl⟩
 have hB0 : Below w.heap.size w W0:=by rw [hW0]; exact (Below.refl _ _).drew.alloc (Nat.le_refl _) _
 have hR0 : W0.heap[w.heap.size]? = some (.cells ROW 72 (0,0)):=by rw [hW0]; exact heap_alloc_new w.drew _
 rw [← hW0] at hap
 clear hW0
 obtain ⟨A1,hA1⟩ : ∃ A,A = (ROW.toList.take (i * 30) ++ vs ++ ROW.toList.drop (i * 30 + vs.length)).toArray:=⟨_,rfl⟩
 have hA1s : A1.size = G * 30:=by rw [hA1,List.size_toArray]; simp only [List.length_append,List.length_take,List.length_drop,Array.length_toList,hRs]; omega
 have hcp1 : ∀ ty dc,(Builtin.copy_ #[69,69] ty #[.slice (some ⟨w.heap.size,i * 30,none⟩) (n + 1 - i) dc,.slice (some ⟨vb,0,none⟩) 1 1]).run Try.prog W0 = .ok (goInt 1) (W0.setRow w.heap.size A1):=fun ty dc=>by
  have hmin : Nat.min 1 (n + 1 - i) = 1:=by simp only [Nat.min_def]; split <;> omega
  have:=run_copy_rowN (P:=Try.prog) W0 69 69 ty 72 w.heap.size (i * 30) (n + 1 - i) dc ⟨vb,0,none⟩ 1 1 ROW 72 vs i0 hu hi0 hR0 (by rw [hvl,hsz,hmin])
   (slotT (w:=W0) ((hB0.block vb hvw).trans hat) _ fun j u hj=>by simpa using hj) (by rw [hvl,hRs]; omega) h1
  rw [hmin,← hA1] at this
  exact this
 obtain ⟨W1,hW1⟩ : ∃ W1,W1 = W0.setRow w.heap.size A1:=⟨_,rfl⟩
 rw [← hW1] at hcp1
 have hR1 : W1.heap[w.heap.size]? = some (.cells A1 72 (0,0)):=by rw [hW1]; exact setRow_heap W0 w.heap.size ROW A1 _ _ hR0
 have hO1 : ∀ k,k < w.heap.size→W1.heap[k]? = w.heap[k]?:=fun k hk=>by rw [hW1]; exact (setRow_other W0 w.heap.size k A1 (by omega)).trans (hB0.block k hk)
 have hB1 : Below w.heap.size w W1:=⟨by rw [hW1]; exact hB0.os,by rw [hW1]; exact hB0.tape,by rw [hW1]; exact hB0.output,by rw [hW1,setRow_size]; exact hB0.size,hO1⟩
 clear hW1
 obtain ⟨A2,hA2⟩ : ∃ A,A = (A1.toList.take ((i + 1) * 30) ++ cs ++ A1.toList.drop ((i + 1) * 30 + cs.length)).toArray:=⟨_,rfl⟩
 have hcp2 : ∀ ty dc sc,(Builtin.copy_ #[69,69] ty #[.slice (some ⟨w.heap.size,(i + 1) * 30,none⟩) (n + 1 - (i + 1)) dc,.slice (some ⟨g,i * 30,none⟩) (n - i) sc]).run Try.prog W1.drew = .ok (goInt ((n - i : Nat) : Int)) (W1.drew.setRow w.heap.size A2):=fun ty dc sc=>by
  have hmin : Nat.min (n - i) (n + 1 - (i + 1)) = n - i:=by simp only [Nat.min_def]; split <;> omega
  have:=run_copy_rowN (P:=Try.prog) W1.drew 69 69 ty 72 w.heap.size ((i + 1) * 30) (n + 1 - (i + 1)) dc ⟨g,i * 30,none⟩ (n - i) sc A1 72 cs i0 hu hi0 hR1 (by rw [hcl,hsz,hmin])
   (slotT (w:=W1.drew) ((hO1 g hgw).trans hg) _ fun j u hj=>by
    rw [hcs0,hxs,List.getElem?_drop,List.getElem?_take] at hj
    split at hj
    ·exact hj
    ·cases hj) (by rw [hcl,hA1s]; omega) (fun v hv=>ho v (by rw [hcs0,hxs] at hv; exact List.mem_of_mem_drop hv))
  rw [hmin,← hA2] at this
  exact this
 have hA2s : A2.size = G * 30:=by rw [hA2,List.size_toArray]; simp only [List.length_append,List.length_take,List.length_drop,Array.length_toList,hA1s]; omega
 have hfin : A2.toList.take ((n + 1) * 30) = (cur.toList.take (n * 30)).take (i * 30) ++ vs ++ (cur.toList.take (n * 30)).drop (i * 30):=by
  have:=ins_list2T ROW.toList xs vs (i * 30) 30 (n * 30) hvl hxl (by omega) (by rw [Array.length_toList,hRs]; omega) hRt
  rw [← hxs,← this,hA2,hA1,hcl,hcs0,hvl]
  simp only [show (i + 1) * 30 = i * 30 + 30 by omega,show (n - i) * 30 = n * 30 - i * 30 by omega,show (n + 1) * 30 = n * 30 + 30 by omega]
 have hR2 : (W1.drew.setRow w.heap.size A2).heap[w.heap.size]? = some (.cells A2 72 (0,0)):=setRow_heap W1.drew w.heap.size A1 A2 _ _ hR1
 have hB2 : Below w.heap.size w (W1.drew.setRow w.heap.size A2):=⟨hB1.os,hB1.tape,hB1.output,by rw [setRow_size]; exact hB1.size,fun k hk=>(setRow_other W1.drew w.heap.size k A2 (by omega)).trans (hO1 k hk)⟩
 have hw1 : IntKind.i64.wrap ((i : Int) + 1) = (i : Int) + 1:=by rw [IntKind.wrap_i64]; omega
 have hw2 : IntKind.i64.wrap ((n : Int) + 1) = (n : Int) + 1:=by rw [IntKind.wrap_i64]; omega
 have hw3 : IntKind.i64.wrap ((n : Int) + 1 - (i : Int)) = (n : Int) + 1 - (i : Int):=by rw [IntKind.wrap_i64]; omega
 have hG63 : G ≤ 9223372036854775807:=by unfold maxLen at hGm; omega
 have hin : i ≤ n:=by omega
 have hb0 : (cap : Int) < (n : Int) + 1:=by omega
 have hb1 : (0 : Int) ≤ (i : Int) + 1:=by omega
 have htn : ((i : Int) + 1).toNat = i + 1:=by omega
 have hb2 : ¬ (G = i + 1):=by omega
 have hb3 : (i : Int) ≤ (n : Int):=by omega
 have hb4 : ¬ (G = i):=by omega
 have hb5 : ¬ (cap = i):=by omega
 clear hA1 hA2 hcs0 hcl hcs hlen hR0 hR1 hB0 hB1 hO1 hik hG hROW hRs hRt hxs hxl hgw hvw hg hat hA1s
 go_enter Try.func56,Try.ntmps56
 go_wp2_with (first
  | (at_builtin; refine Lib.wpList_append_run _ rfl _ _ _ _ rfl _ _ rfl rfl _ _ hap ?_)
  | (at_builtin; refine list_copyNT _ rfl _ _ 69 69 rfl _ _ rfl rfl (hcp1 _ _) ?_))
 go_region_law_o (refine step_copyNT rfl _ _ 69 69 rfl (.slice (some ⟨w.heap.size,(i + 1) * 30,none⟩) (n + 1 - (i + 1)) (G - (i + 1))) (.slice (some ⟨g,i * 30,none⟩) (n - i) (cap - i)) (by simp [Act.eval,Act.put]) (by simp [Act.eval,Act.put]) (hcp2 3 (G - (i + 1)) (cap - i)) ?_)
 go_wp2
 go_ret
 exact ⟨G,A2,rfl,hGn,hGm,hA2s,hB2,hR2,hfin⟩
end Go.Proofs.Ytdnaadcbimbfmaa
namespace Go.Proofs.Ytdnaadcbimbfmaa
open Go Go.RowKit Am Go.Lib
theorem insertT (w : World) (v : Value) (n i : Nat) (xs : List Value) (vb : Nat) (vs : List Value) (hi : i ≤ n) (hown : w.ownsRow 0 72 30 v n xs) (hx : ∀ u ∈ xs,u.oneCell' = true) (hat : w.heap[vb]? = some (.cells vs.toArray 72 (0,0))) (hne : v.ownBlock ≠ some vb) (hvl : vs.length = 30) (h1 : ∀ u ∈ vs,u.oneCell' = true) (hn : n ≤ 1000000) :
  Calls Try.prog 56 #[v,.int .i64 i,.slice (some ⟨vb,0,none⟩) 1 1] w fun e w'=>∃ v',e = .returned v'∧w'.ownsRow 0 72 30 v' (n + 1) (xs.take (i * 30) ++ vs ++ xs.drop (i * 30))∧w.grownBy w' v.ownBlock∧(v'.ownBlock = v.ownBlock ∨ v'.ownBlock = some w.heap.size):=by
 rcases Nat.lt_or_ge i n with hin | hin
 ·have hl:=hown.1
  rcases hown.2 with ⟨rfl,rfl⟩ | ⟨g,cap,cur,rfl,_,hg,hnc,hcm,hcs,htk⟩
  ·omega
  have hvg : vb ≠ g:=fun e=>hne (by rw [e]; rfl)
  have ho : ∀ u ∈ cur.toList.take (n * 30),u.oneCell' = true:=by rw [htk]; exact hx
  by_cases hroom : n + 1 ≤ cap
  ·refine (insShiftT w g n cap i cur vb vs hg hin hroom hcm hcs ho hat hvg hvl h1 hn).mono ?_
   rintro e w' ⟨A,rfl,rfl,hA⟩
   refine ⟨_,rfl,⟨?_,.inr ⟨g,cap,A,rfl,Nat.zero_le _,setRow_heap w.drew g cur A _ _ hg,hroom,hcm,?_,?_⟩⟩,⟨rfl,rfl,rfl,by rw [setRow_size]; exact Nat.le_refl _,fun k _ hk=>setRow_other w.drew g k A (fun e=>hk (by rw [e]; rfl))⟩,.inl rfl⟩
   ·simp only [List.length_append,List.length_take,List.length_drop,hl,hvl]; omega
   ·have:=congrArg List.length hA
    simp only [List.length_append,List.length_take,List.length_drop,Array.length_toList,hvl,hcs] at this
    omega
   ·rw [hA,htk,List.take_append_of_le_length (by simp only [List.length_append,List.length_take,List.length_drop,hl,hvl]; omega),List.take_of_length_le (by simp only [List.length_append,List.length_take,List.length_drop,hl,hvl]; omega)]
  ·refine (insGrowT w g n cap i cur vb vs hg hin hnc (by omega) hcm hcs ho hat hvl h1 hn).mono ?_
   rintro e w' ⟨G,A,rfl,g1,g2,g3,hB,hR,hA⟩
   rw [htk] at hA
   refine ⟨_,rfl,⟨?_,.inr ⟨w.heap.size,G,A,rfl,Nat.zero_le _,hR,g1,g2,g3,hA⟩⟩,⟨hB.os,hB.tape,hB.output,hB.size,fun k hk _=>hB.block k hk⟩,.inr rfl⟩
   simp only [List.length_append,List.length_take,List.length_drop,hl,hvl]; omega
 ·obtain rfl : i = n:=by omega
  refine (insEndT w v i xs vb vs hown hat hvl h1 hn).mono ?_
  rintro e w' ⟨v',rfl,q1,q2,q3⟩
  refine ⟨v',rfl,?_,q2,q3⟩
  rw [List.take_of_length_le (by rw [hown.1]; omega),List.drop_of_length_le (by rw [hown.1]; omega),List.append_nil]
  exact q1
end Go.Proofs.Ytdnaadcbimbfmaa
namespace Go.Proofs.Ytdnaadcbimbfmaa
open Go Go.RowKit Am Go.Lib
theorem step_appNT {ops : Array Oper} {o : Oper} {a : Act} {w : World} {K : Act→World→Prop} {Q : Exit→Act→World→Prop} {E : Prop}
  (hg : o.guard = none) (d x : Operand) (dT sT : TypeId) (hop : o.op = Op.call { callee:=Callee.builtin Builtin.append,args:=#[d,x],argTypes:=#[dT,sT] })
  (v u : Value) (hd : a.eval d = v) (hx : a.eval x = u) {v' : Value} {w' : World} (hr : (Builtin.append_ #[dT,sT] o.type #[v,u]).run Try.prog w = .ok v' w') (hK : K (a.put o.dst v') w') :
  if Region.wanted o (yielded ops a.tmps) = true then Oper.wp Try.prog o a w K Q else E:=by
 have hw : Region.wanted o (yielded ops a.tmps) = true:=by simp [Region.wanted,hg]
 rw [if_pos hw]
 unfold Oper.wp
 simp [execOp,hop,resolve,invoke,builtin,hd,hx,hr,Result.andThen]
 exact hK
theorem list_clearNT (w : World) {ops : Array Oper} {rest : List Oper} {o : Oper} {a : Act} {Q : Exit→Act→World→Prop} (hgd : o.guard = none) (d : Operand) (t : TypeId)
  (ho : o.op = .call { callee:=.builtin .clear,args:=#[d],argTypes:=#[t] }) (v : Value) (hd : a.eval d = v) {v' : Value} {w' : World}
  (hr : (Builtin.clear_ #[t] o.type #[v]).run Try.prog w = .ok v' w') (h : wpList Try.prog ops Q rest (a.put o.dst v') w') : wpList Try.prog ops Q (o :: rest) a w:=by
 refine list1 v' hgd ?_ h
 simp only [execOp,ho,resolve,invoke,builtin,Sem.run_bind,Sem.run_pure,Result.andThen_ok,List.map_toArray,List.map_cons,List.map_nil,hd,hr]
set_option maxHeartbeats 4000000 in
set_option maxRecDepth 100000 in
theorem delAtT (w : World) (g n cap i : Nat) (cur : Array Value) (hg : w.heap[g]? = some (.cells cur 72 (0,0))) (hi : i < n) (hnc : n ≤ cap) (hcm : cap ≤ maxLen) (hcs : cur.size = cap * 30) (ho : ∀ v ∈ cur.toList.take (n * 30),v.oneCell' = true) (hn : n ≤ 1000000) :
  Calls Try.prog 85 #[.slice (some ⟨g,0,none⟩) n cap,.int .i64 i,.int .i64 ((i : Int) + 1)] w fun e w'=>∃ A : Array Value,e = .returned (.slice (some ⟨g,0,none⟩) (n - 1) cap)∧w' = w.drew.setRow g A∧A.size = cap * 30∧A.toList.take ((n - 1) * 30) = (cur.toList.take (n * 30)).take (i * 30) ++ (cur.toList.take (n * 30)).drop ((i + 1) * 30):=by
 obtain ⟨i0,z,hi0,hz,hsz,hzs,hz1,hby⟩:=infoItT
 have hu:=Try.underlying69
 have mixed:=mixed
 have hzv : ∀ w,(zeroValue 72).run Try.prog w = .ok z w:=fun w=>by simp [zeroValue,typeInfo,hi0,hz]
 have hcap : cap ≤ 9223372036854775807:=by unfold maxLen at hcm; omega
 have hlen : cur.toList.length = cap * 30:=by simpa using hcs
 obtain ⟨xs,hxs⟩ : ∃ xs,xs = cur.toList.take (n * 30):=⟨_,rfl⟩
 have hxl : xs.length = n * 30:=by rw [hxs,List.length_take]; omega
 obtain ⟨cs,hcs0⟩ : ∃ cs,cs = xs.drop ((i + 1) * 30):=⟨_,rfl⟩
 have hcl : cs.length = (n - (i + 1)) * 30:=by rw [hcs0,List.length_drop]; omega
 have hoc : ∀ v ∈ cs,v.oneCell' = true:=fun v hv=>ho v (by rw [hcs0,hxs] at hv; exact List.mem_of_mem_drop hv)
 obtain ⟨A1,hA1⟩ : ∃ A,A = (cur.toList.take (i * 30) ++ cs ++ cur.toList.drop (i * 30 + cs.length)).toArray:=⟨_,rfl⟩
 have hA1s : A1.size = cap * 30:=by rw [hA1,List.size_toArray]; simp only [List.length_append,List.length_take,List.length_drop]; omega
 have hmm : i + (n - (i + 1)) = n - 1:=by omega
 have happ : ∀ (a : Addr),(cs ≠ []→a = ⟨g,(i + 1) * 30,none⟩)→∀ ty c,(Builtin.append_ #[69,69] ty #[.slice (some ⟨g,0,none⟩) i cap,.slice (some a) (n - (i + 1)) c]).run Try.prog w.drew = .ok (.slice (some ⟨g,0,none⟩) (n - 1) cap) (w.drew.setRow g A1):=fun a ha ty c=>by
  have:=run_append_room (P:=Try.prog) w.drew 69 ty 72 i0 hu hi0 g i cap cur 72 a (n - (i + 1)) c cs hg (by rw [hcl,hsz]) (fun j u hj=>by
   rw [ha (fun e=>by rw [e] at hj; cases hj)]
   refine slotT (w:=w.drew) hg ((i + 1) * 30) (xs:=cs) (fun j u hj=>?_) j u hj
   rw [hcs0,hxs,List.getElem?_drop,List.getElem?_take] at hj
   split at hj
   ·exact hj
   ·cases hj) hoc (by omega) (by rw [hcl,hsz,hcs]; omega)
  rw [hmm,hsz,← hA1] at this
  exact this
 have hW1 : (w.drew.setRow g A1).heap[g]? = some (.cells A1 72 (0,0)):=setRow_heap w.drew g cur A1 _ _ hg
 obtain ⟨A2,hA2⟩ : ∃ A,A = (A1.toList.take ((n - 1) * 30) ++ (Builtin.zeroCells z.cells 1).toList ++ A1.toList.drop ((n - 1) * 30 + 1 * z.cells.size)).toArray:=⟨_,rfl⟩
 have hcl2 : ∀ ty c,(Builtin.clear_ #[69] ty #[.slice (some ⟨g,(n - 1) * 30,none⟩) (n - (n - 1)) c]).run Try.prog (w.drew.setRow g A1) = .ok (.tuple #[]) (w.drew.setRow g A2):=fun ty c=>by
  have:=run_clearN (P:=Try.prog) (w.drew.setRow g A1) 69 72 ty i0 z hu hzv hz1 g ((n - 1) * 30) 1 c (by omega) A1 72 hW1 (by rw [hzs,hA1s]; omega)
  rw [← hA2,setRow_setRow] at this
  rw [show n - (n - 1) = 1 by omega]
  exact this
 have hA2s : A2.size = cap * 30:=by
  have hz1 : (Builtin.zeroCells z.cells 1).toList.length = 30:=by simp [Builtin.zeroCells,hzs]
  rw [hA2,List.size_toArray]; simp only [List.length_append,List.length_take,List.length_drop,Array.length_toList,hA1s,hz1,hzs]; omega
 have hfin : A2.toList.take ((n - 1) * 30) = (cur.toList.take (n * 30)).take (i * 30) ++ (cur.toList.take (n * 30)).drop ((i + 1) * 30):=by
  rw [hA2]
  show List.take _ (_ ++ _ ++ _) = _
  rw [List.append_assoc,List.take_append_of_le_length (by rw [List.length_take,Array.length_toList,hA1s]; omega),List.take_of_length_le (by rw [List.length_take]; omega),hA1]
  show List.take _ (_ ++ _ ++ _) = _
  rw [List.take_append_of_le_length (by rw [List.length_append,List.length_take,hcl]; omega),List.take_of_length_le (by rw [List.length_append,List.length_take,hcl]; omega),hcs0,← hxs]
  congr 1
  rw [hxs,List.take_take]
  congr 1
  omega
 have hw1 : IntKind.i64.wrap ((i : Int) + 1) = (i : Int) + 1:=by rw [IntKind.wrap_i64]; omega
 have hin : i ≤ n:=by omega
 have hin1 : i + 1 ≤ n:=by omega
 have hb1 : (0 : Int) ≤ (i : Int) + 1:=by omega
 have htn : ((i : Int) + 1).toNat = i + 1:=by omega
 have hb3 : (i : Int) + 1 ≤ (n : Int):=by omega
 have hb5 : ¬ (i = i + 1):=by omega
 have hb6 : ¬ ((i : Int) = (i : Int) + 1):=by omega
 have hb7 : n - 1 ≤ n:=by omega
 have hb8 : ¬ (cap = n - 1):=by omega
 have hb9 : i ≤ cap:=by omega
 have hbA : (i : Int) ≤ (cap : Int):=by omega
 have hbB : (i : Int) ≤ (i : Int) + 1:=by omega
 clear hA1 hA2 hcs0 hlen hW1 hA1s hxs hxl
 by_cases hce : cap = i + 1
 ·obtain rfl : n = i + 1:=by omega
  subst hce
  simp only [Nat.add_sub_cancel,Nat.add_sub_cancel_left,Nat.sub_self] at happ hcl2 hfin
  go_enter Try.func85,Try.ntmps85
  go_wp2
  go_region_law_o (refine step_appNT rfl _ _ 69 69 rfl (.slice (some ⟨g,0,none⟩) i (i + 1)) (.slice (some ⟨g,0,none⟩) 0 0) (by simp [Act.eval,Act.put]) (by simp [Act.eval,Act.put]) (happ ⟨g,0,none⟩ (fun h=>absurd (List.eq_nil_of_length_eq_zero (by rw [hcl]; omega)) h) 69 0) ?_)
  go_wp2_with (at_builtin; refine list_clearNT _ rfl _ 69 rfl _ rfl (hcl2 _ _) ?_)
  go_ret
  exact ⟨A2,rfl,rfl,hA2s,hfin⟩
 ·go_enter Try.func85,Try.ntmps85
  go_wp2
  go_region_law_o (refine step_appNT rfl _ _ 69 69 rfl (.slice (some ⟨g,0,none⟩) i cap) (.slice (some ⟨g,(i + 1) * 30,none⟩) (n - (i + 1)) (cap - (i + 1))) (by simp [Act.eval,Act.put]) (by simp [Act.eval,Act.put]) (happ ⟨g,(i + 1) * 30,none⟩ (fun _=>rfl) 69 (cap - (i + 1))) ?_)
  go_wp2_with (at_builtin; refine list_clearNT _ rfl _ 69 rfl _ rfl (hcl2 _ _) ?_)
  go_ret
  exact ⟨A2,rfl,rfl,hA2s,hfin⟩
theorem deleteT (w : World) (v : Value) (n i : Nat) (xs : List Value) (hi : i < n) (hown : w.ownsRow 0 72 30 v n xs) (hx : ∀ u ∈ xs,u.oneCell' = true) (hn : n ≤ 1000000) :
  Calls Try.prog 85 #[v,.int .i64 i,.int .i64 ((i : Int) + 1)] w fun e w'=>∃ v',e = .returned v'∧w'.ownsRow 0 72 30 v' (n - 1) (xs.take (i * 30) ++ xs.drop ((i + 1) * 30))∧w.grownBy w' v.ownBlock∧v'.ownBlock = v.ownBlock:=by
 have hl:=hown.1
 rcases hown.2 with ⟨rfl,rfl⟩ | ⟨g,cap,cur,rfl,_,hg,hnc,hcm,hcs,htk⟩
 ·omega
 refine (delAtT w g n cap i cur hg hi hnc hcm hcs (by rw [htk]; exact hx) hn).mono ?_
 rintro e w' ⟨A,rfl,rfl,hA,hA2⟩
 rw [htk] at hA2
 refine ⟨_,rfl,⟨?_,.inr ⟨g,cap,A,rfl,Nat.zero_le _,setRow_heap w.drew g cur A _ _ hg,by omega,hcm,hA,hA2⟩⟩,⟨rfl,rfl,rfl,by rw [setRow_size]; exact Nat.le_refl _,fun k _ hk=>setRow_other w.drew g k A (fun e=>hk (by rw [e]; rfl))⟩,rfl⟩
 simp only [List.length_append,List.length_take,List.length_drop,hl]; omega
end Go.Proofs.Ytdnaadcbimbfmaa
namespace Go.Proofs.Ytdnaadcbimbfmaa
open Go Go.RowKit Am
set_option maxRecDepth 100000 in
theorem placeT_ok (l : List ElT) (hl : l.length ≤ 1000000) (hs : Rise dT l) (x : Dt) (rows : List (List AV)) (hrows : rows = l.map itT) (i : Nat) (i' : Int) (hi' : i' = (i : Int)) (hi : i = cntD dT l x) (t : Bool) (ht : t = decide (∃ a ∈ l,dT a = x)) :
  CSem Try.prog (.fn 55) [.ept [.sl rows] 0,.agg x.ac] (.pure [aI i',aB t]):=by
 refine of_text gam_ok mixed { n:=16 } Try.func55 (by kernel_rfl) rfl rfl (by simp) (by decide) fun F C D hF hC hD=>?_
 have hb:=hC _ _ _ (bsT_ok l hl hs x rows hrows i i' hi' hi t ht)
 clear hs hrows hi ht
 cbv
 refine ⟨hC _ _ _ (show Try.prog.underlying 58 = _ from by kernel_rfl),?_⟩
 cbv
 refine ⟨hC _ _ _ (ben_ok (by kernel_rfl)),?_⟩
 cbv
 refine ⟨_,hb,?_⟩
 cbv
 simp
theorem lenT_ok (rows : List (List AV)) (n : Int) (hn : n = (rows.length : Int)) : CSem Try.prog (.fn 23) [.ept [.sl rows] 0] (.pure [aI n]):=by
 refine of_text gam_ok mixed { n:=10 } Try.func23 (by kernel_rfl) rfl rfl (by simp) (by decide) fun F C D hF hC hD=>?_
 have e : F .len rows = n:=by rw [lenF hF,hn]
 cbv
 rw [e]
 exact ⟨hC _ _ _ (show Try.prog.underlying 58 = _ from by kernel_rfl),rfl,trivial⟩
set_option maxHeartbeats 4000000 in
set_option maxRecDepth 100000 in
theorem cloneWT (w : World) (a : Addr) (n c : Nat) (news : List Value) (hl : news.length = n * 30) (hnews : ∀ j u,news[j]? = some u→w.cell? (a.add j) = some u) (h1 : ∀ u ∈ news,u.oneCell' = true) (hn : n ≤ 1000000) :
  Calls Try.prog 48 #[.slice (some a) n c] w fun e w'=>∃ v',e = .returned v'∧w'.ownsRow 0 72 30 v' n news∧Below w.heap.size w w'∧∀ g,v'.ownBlock = some g→w.heap.size ≤ g:=by
 have hnil:=Lib.run_eql_slice_nil (P:=Try.prog) w 69 72 (some a) n c 0 0 Try.underlying69
 obtain ⟨i0,z,hi0,hz,hsz,hzs,hz1,hby⟩:=infoItT
 have hown : OwnR (w.alloc (.cells #[] 72)) 0 72 30 (.slice (some ⟨w.heap.size,0,none⟩) 0 0) 0 []:=OwnR.of ⟨rfl,.inr ⟨w.heap.size,0,#[],rfl,Nat.zero_le _,heap_alloc_new w _,Nat.le_refl _,by unfold maxLen; omega,rfl,rfl⟩⟩
 have hold : Below w.heap.size w (w.alloc (.cells #[] 72)):=(Below.refl _ _).alloc (Nat.le_refl _) _
 obtain ⟨v',w',hr,q1,q2,q3⟩:=run_append_at (P:=Try.prog) (w.alloc (.cells #[] 72)) 69 69 72 i0 z 30 i0.bytes Try.underlying69 hi0 hz hsz rfl hzs (by decide) _ 0 [] hown a n c news hl
  (fun j u hj=>Lib.cell?_alloc_some _ (hnews j u hj)) h1 (by unfold maxLen; omega) (by have:=Nat.mul_le_mul (show 0 + n ≤ 1000001 by omega) hby; omega)
 have q1:=OwnR.owns (by decide) q1
 rw [Nat.zero_add,List.nil_append] at q1
 have hsz1 : (w.alloc (.cells #[] 72)).heap.size = w.heap.size + 1:=by simp
 have hB : Below w.heap.size w w':=⟨q2.os,q2.tape,q2.output,by have:=q2.size; omega,fun k hk=>(q2.block k (by omega) (by simp [Value.ownBlock]; omega)).trans (hold.block k hk)⟩
 have hN : ∀ g,v'.ownBlock = some g→w.heap.size ≤ g:=fun g hg=>by
  rcases q3 with e | e
  ·rw [e] at hg; simp [Value.ownBlock] at hg; omega
  ·rw [e] at hg; injection hg with hg; omega
 clear hown hold q2 q3
 go_enter Try.func48,Try.ntmps48
 go_wp2_with (at_builtin; refine Lib.wpList_append_run _ rfl _ _ _ _ rfl _ _ rfl rfl _ _ hr ?_)
 go_ret
 exact ⟨v',rfl,q1,hB,hN⟩
set_option maxRecDepth 100000 in
theorem cloneNilT (w : World) (c : Nat) : Calls Try.prog 48 #[.slice none 0 0] w fun e w'=>e = .returned (.slice none 0 0)∧w' = w:=by
 have hnil:=Lib.run_eql_slice_nil (P:=Try.prog) w 69 72 none 0 0 0 0 Try.underlying69
 go_enter Try.func48,Try.ntmps48
 go_wp2
 go_ret
 exact ⟨rfl,rfl⟩
theorem cloneT_ok (rows : List (List AV)) (hl : rows.length ≤ 1000000) (hr : ∀ r ∈ rows,r.length = 30) : CSem Try.prog (.fn 48) [.sl rows] (.own 72 30 rows []):=by
 refine ⟨enterT Try.func48 (by kernel_rfl) rfl,fun w S xs hS hgd hxs=>?_⟩
 obtain ⟨y,rfl,hy⟩:=reps_one hxs
 rcases src_ok (w:=w) (S:=S) (β:=fun _=>.bool true) (obs:=[]) (B:=0) (fun k o h=>by simp [lk] at h) (y:=.sl rows) rfl hy hr (by decide) with ⟨rfl,rfl⟩ | ⟨ad,c,news,rfl,hnr,hnc⟩
 ·refine (cloneNilT w 0).mono ?_
  rintro e w' ⟨rfl,rfl⟩
  exact ⟨_,S,rfl,Gr.refl hS,_,[],[],rfl,OwnR.nil _ _ _ _,RepL.nil _ _,hr,fun g hg=>by simp [Value.ownBlock] at hg,Reps.nil _ _,by simp⟩
 ·refine (cloneWT w ad rows.length c news (by rw [← hnr.1,flat_len rows hr]) hnc hnr.one hl).mono ?_
  rintro e w' ⟨v',rfl,hown,hB,hN⟩
  refine ⟨_,S,rfl,gr_below hS hB,v',[],news,rfl,?_,hnr.mono (fun g hg=>hB.block g (hS g hg)) (fun _ h=>h),hr,fun g hg hs=>?_,Reps.nil _ _,by omega⟩
  ·have:=OwnR.of hown
   refine ⟨this.1,?_⟩
   rcases this.2 with h | ⟨g,cap,cur,fr,h1,h2,h3⟩
   ·exact .inl h
   ·exact .inr ⟨g,cap,cur,fr,h1,hN g (by rw [h1]; rfl),h3⟩
  ·have:=hN g hg
   have:=hS g hs
   omega
theorem itemsT_ok (rows : List (List AV)) (hl : rows.length ≤ 1000000) (hr : ∀ r ∈ rows,r.length = 30) : CSem Try.prog (.fn 24) [.ept [.sl rows] 0] (.own 72 30 rows []):=by
 refine of_text gam_ok mixed { n:=10,keep:=[9] } Try.func24 (by kernel_rfl) rfl rfl (by simp) (by decide) fun F C D hF hC hD=>?_
 have hc:=hC _ _ _ (cloneT_ok rows hl hr)
 cbv
 refine ⟨hC _ _ _ (show Try.prog.underlying 58 = _ from by kernel_rfl),?_⟩
 cbv
 refine ⟨_,_,_,_,hc,?_⟩
 cbv
 try simp
end Go.Proofs.Ytdnaadcbimbfmaa
namespace Go.Proofs.Ytdnaadcbimbfmaa
open Go Go.RowKit Am
theorem gd_all (w : World) (S : Nat→Prop) : gdOK w S where
 cells:=fun g cs hg=>by simp [gndA,lk] at hg
 ints:=fun g hg=>by simp [gndI,memN] at hg
def xvE (e : ElE) : Array Value:=e.vs
def xvT (x : ElT) : Array Value:=#[vI x.1.dot.R,vI x.1.dot.N,vI x.1.time,vI (x.1.deps 0),vI (x.1.deps 1),vI (x.1.deps 2),vI (x.1.deps 3),vI (x.1.deps 4),vI (x.1.deps 5),vI (x.1.deps 6),vI (x.1.deps 7),vI (x.1.deps 8),vI (x.1.deps 9),vI (x.1.deps 10),vI (x.1.deps 11),vI (x.1.deps 12),vI (x.1.deps 13),vI (x.1.deps 14),vI (x.1.deps 15),
 vI x.1.op.kind,.string x.1.op.key,.string x.1.op.fld,.string x.1.op.val,vI x.1.op.num,vI x.1.op.ref.R,vI x.1.op.ref.N,vI x.2.R,vI x.2.N]
def itvE (e : ElE) : List Value:=vI e.dot.R :: vI e.dot.N :: (xvE e).toList
def itvT (x : ElT) : List Value:=vI x.1.dot.R :: vI x.1.dot.N :: (xvT x).toList
theorem itvE_ac (e : ElE) : itE e = (itvE e).map .v:=rfl
theorem itvT_ac (e : ElT) : itT e = (itvT e).map .v:=rfl
theorem itvE_one (e : ElE) : ∀ v ∈ itvE e,v.oneCell' = true:=List.all_eq_true.1 (show (itvE e).all (fun v=>v.oneCell') = true from rfl)
theorem itvT_one (e : ElT) : ∀ v ∈ itvT e,v.oneCell' = true:=List.all_eq_true.1 (show (itvT e).all (fun v=>v.oneCell') = true from rfl)
theorem itvE_len (e : ElE) : (itvE e).length = 28:=rfl
theorem itvT_len (e : ElT) : (itvT e).length = 30:=rfl
theorem repl_map_v {w : World} {S : Nat→Prop} : ∀ (l : List Value),(∀ v ∈ l,v.oneCell' = true)→RepL w S (l.map .v) l
 | [],_=>RepL.nil _ _
 | v :: l,h=>RepL.cons (.v v (h v List.mem_cons_self)) (repl_map_v l fun v hv=>h v (List.mem_cons_of_mem _ hv))
theorem repl_rows {α : Type} {w : World} {S : Nat→Prop} {it : α→List AV} {iv : α→List Value} (h : ∀ a,it a = (iv a).map .v) (h1 : ∀ a,∀ v ∈ iv a,v.oneCell' = true) : ∀ (l : List α),RepL w S (l.map it).flatten (l.map iv).flatten
 | []=>RepL.nil _ _
 | a :: l=>by
  rw [List.map_cons,List.map_cons,List.flatten_cons,List.flatten_cons,h a]
  exact (repl_map_v _ (h1 a)).append (repl_rows h h1 l)
theorem flat_one {α : Type} {iv : α→List Value} (h1 : ∀ a,∀ v ∈ iv a,v.oneCell' = true) (l : List α) : ∀ v ∈ (l.map iv).flatten,v.oneCell' = true:=fun v hv=>by
 obtain ⟨r,hr,hv⟩:=List.mem_flatten.1 hv
 obtain ⟨a,_,rfl⟩:=List.mem_map.1 hr
 exact h1 a v hv
structure BagAt (w : World) (ety sz : Nat) (b off : Nat) (v : Value) (n : Nat) (xs : List Value) : Prop where
 cell : w.cell? ⟨b,off,none⟩ = some v
 own : w.ownsRow 0 ety sz v n xs
 ne : v.ownBlock ≠ some b
theorem BagAt.lt {w : World} {ety sz b off n : Nat} {v : Value} {xs : List Value} (h : BagAt w ety sz b off v n xs) : b < w.heap.size:=block_lt_of_cell h.cell
theorem BagAt.blk {w : World} {ety sz b off n : Nat} {v : Value} {xs : List Value} (h : BagAt w ety sz b off v n xs) : ∀ g,v.ownBlock = some g→g < w.heap.size:=fun g hg=>((OwnR.of h.own).lt g hg).2
theorem BagAt.keep {w w' : World} {ety sz b off n : Nat} {v : Value} {xs : List Value} (h : BagAt w ety sz b off v n xs) (hb : w'.heap[b]? = w.heap[b]?) (hg : ∀ g,v.ownBlock = some g→w'.heap[g]? = w.heap[g]?) : BagAt w' ety sz b off v n xs:=by
 refine ⟨(World.cell?_of_block (a:=⟨b,off,none⟩) hb).trans h.cell,⟨h.own.1,?_⟩,h.ne⟩
 rcases h.own.2 with h1 | ⟨g,cap,cur,h1,h2,h3,r⟩
 ·exact .inl h1
 ·exact .inr ⟨g,cap,cur,h1,h2,by rw [hg g (by rw [h1]; rfl)]; exact h3,r⟩
theorem BagAt.rep {α : Type} {w : World} {S : Nat→Prop} {ety sz b off : Nat} {v : Value} {l : List α} {it : α→List AV} {iv : α→List Value} (h : BagAt w ety sz b off v l.length (l.map iv).flatten) (hit : ∀ a,it a = (iv a).map .v) (h1 : ∀ a,∀ v ∈ iv a,v.oneCell' = true) (hl : ∀ a,(it a).length = sz) (hb : S b) (hg : ∀ g,v.ownBlock = some g→S g) :
  Rep w S (.ept [.sl (l.map it)] 0) (.pointer (some ⟨b,off,none⟩)):=by
 have hrc : RepC w S (.sl (l.map it)) v:=repc_of_own (B:=0) (e:=ety) (sz:=sz) (zs:=(l.map iv).flatten) (by rw [List.length_map]; exact OwnR.of h.own) (repl_rows hit h1 l) (fun r hr=>by obtain ⟨a,_,rfl⟩:=List.mem_map.1 hr; exact hl a) hg
 have:=Rep.ept (w:=w) (S:=S) (cs:=[.sl (l.map it)]) (off:=0) (a:=⟨b,off,none⟩) ⟨hb,fun i u hu=>?_⟩
 ·simpa [Addr.add_lit] using this
 ·cases i with
  | zero=>injection hu with hu; subst hu; exact ⟨v,by simpa [Addr.add_lit] using h.cell,hrc⟩
  | succ i=>simp at hu
structure BagK (b off : Nat) (v v' : Value) (w w' : World) : Prop where
 os : w'.os = w.os
 tape : w'.tape = w.tape
 output : w'.output = w.output
 size : w.heap.size ≤ w'.heap.size
 block : ∀ g,g < w.heap.size→g ≠ b→v.ownBlock ≠ some g→w'.heap[g]? = w.heap[g]?
 blk : ∀ A t fz,w.heap[b]? = some (.cells A t fz)→w'.heap[b]? = some (.cells (A.setIfInBounds off v') t fz)
 own : v'.ownBlock = v.ownBlock ∨ ∀ g,v'.ownBlock = some g→w.heap.size ≤ g
theorem insD_flat {α : Type} {sz : Nat} {iv : α→List Value} (h : ∀ a,(iv a).length = sz) (d : α→Dt) (l : List α) (e : α) : ((insD d l e).map iv).flatten = (l.map iv).flatten.take (cntD d l (d e) * sz) ++ iv e ++ (l.map iv).flatten.drop (cntD d l (d e) * sz):=by
 have hr : ∀ r ∈ l.map iv,r.length = sz:=fun r hr=>by obtain ⟨a,_,rfl⟩:=List.mem_map.1 hr; exact h a
 unfold insD
 rw [take_flat _ hr,drop_flat _ hr,List.map_append,List.map_cons,List.flatten_append,List.flatten_cons,List.map_take,List.map_drop,List.append_assoc]
end Go.Proofs.Ytdnaadcbimbfmaa
namespace Go.Proofs.Ytdnaadcbimbfmaa
open Go Go.RowKit Am
theorem region_inv {P : Program} {id : Nat} {ops : Array Oper} {Q : Exit→Act→World→Prop} {a : Act} {w : World} (hm : P.follows .mixedOrders = true)
  (hlex : ∀ (i : Nat) (o : Oper),ops[i]? = some o→∀ e ∈ o.after,Region.binds .any e = true→e.on < i) (I : Array Bool→Act→World→Prop) (h0 : I (Array.replicate ops.size false) a { w with drawn:=w.drawn + 1 })
  (step : ∀ (listed : Array Bool) (a : Act) (w : World) (i : Nat) (o : Oper),listed.size = ops.size→I listed a w→ops[i]? = some o→listed.getD i true = false→(∀ e ∈ o.after,Region.binds .any e = true→listed.getD e.on false = true)→Region.wanted o (yielded ops a.tmps) = true∧o.wp P a w (fun a' w'=>I (listed.setIfInBounds i true) a' w') Q)
  (done : ∀ (listed : Array Bool) (a : Act) (w : World),listed.size = ops.size→(∀ i,i < ops.size→listed.getD i false = true)→I listed a w→Q .normal a w) : (Code.region id ops true).wp P Q a w:=by
 have full : ∀ listed : Array Bool,listed.size = ops.size→Region.ready .any ops listed = []→∀ i,i < ops.size→listed.getD i false = true:=by
  intro listed hs hr
  have key : ∀ n i,i < n→i < ops.size→listed.getD i false = true:=by
   intro n
   induction n with
   | zero=>intro i h; omega
   | succ n ih =>
    intro i hi hsz
    cases hg : listed.getD i false with
    | true=>rfl
    | false =>
     have hmem : i ∈ Region.ready .any ops listed:=by
      rw [mem_ready]
      have h1 : listed.getD i true = false:=by
       rw [Array.getD_eq_getD_getElem?] at hg ⊢
       rw [Array.getElem?_eq_getElem (by omega)] at hg ⊢
       simpa using hg
      exact ⟨h1,ops[i],Array.getElem?_eq_getElem hsz,fun e he hb=>ih e.on (by have:=hlex i _ (Array.getElem?_eq_getElem hsz) e he hb; omega) (by have:=hlex i _ (Array.getElem?_eq_getElem hsz) e he hb; omega)⟩
     rw [hr] at hmem
     cases hmem
  exact fun i hi=>key (i + 1) i (by omega) hi
 have main : ∀ (fuel : Nat) (listed : Array Bool) (a : Act) (w : World),listed.size = ops.size→(listed.toList.countP fun b=>!b) ≤ fuel→I listed a w→wpAny P .any ops Q fuel listed a w:=by
  intro fuel
  induction fuel with
  | zero =>
   intro listed a w hs hc hI
   have hr : Region.ready .any ops listed = []:=by
    cases hr : Region.ready .any ops listed with
    | nil=>rfl
    | cons j t =>
     have hj : j ∈ Region.ready .any ops listed:=by rw [hr]; exact List.mem_cons_self
     obtain ⟨h1,o,ho,_⟩:=mem_ready.1 hj
     have hjl : j < listed.size:=by rw [hs]; exact (Array.getElem?_eq_some_iff.1 ho).1
     rw [Array.getD_eq_getD_getElem?,Array.getElem?_eq_getElem hjl] at h1
     have h2:=List.countP_eq_zero.1 (Nat.le_zero.1 hc) listed[j] (by simp)
     simp at h1 h2
     rw [h1] at h2
     cases h2
   exact ⟨hr,done listed a w hs (full listed hs hr) hI⟩
  | succ fuel ih =>
   intro listed a w hs hc hI
   refine ⟨fun hr=>done listed a w hs (full listed hs hr) hI,fun i hi=>?_⟩
   obtain ⟨h1,o,ho,h2⟩:=mem_ready.1 hi
   obtain ⟨hw,hst⟩:=step listed a w i o hs hI ho h1 h2
   unfold wpOp
   rw [ho]
   simp only [hw,if_true]
   refine .inl (Oper.wp_mono (fun a' w' hI'=>ih _ a' w' (by rw [Array.size_setIfInBounds]; exact hs) ?_ hI') hst)
   have hil : i < listed.size:=by rw [hs]; exact (Array.getElem?_eq_some_iff.1 ho).1
   rw [Array.getD_eq_getD_getElem?,Array.getElem?_eq_getElem hil] at h1
   have h1 : listed[i] = false:=by simpa using h1
   have : (listed.setIfInBounds i true).toList.countP (fun b=>!b) + 1 = listed.toList.countP (fun b=>!b):=by
    rw [Array.toList_setIfInBounds]
    have hl : i < listed.toList.length:=by simpa using hil
    have e1 : listed.toList = listed.toList.take i ++ listed.toList[i] :: listed.toList.drop (i + 1):=by
     rw [List.getElem_cons_drop hl,List.take_append_drop]
    have e2 : listed.toList.set i true = listed.toList.take i ++ true :: listed.toList.drop (i + 1):=by
     rw [List.set_eq_take_append_cons_drop,if_pos hl]
    rw [e2]
    conv=>rhs; rw [e1]
    rw [List.countP_append,List.countP_append,List.countP_cons,List.countP_cons]
    have : listed.toList[i] = false:=by rw [Array.getElem_toList]; exact h1
    rw [this]
    simp
    omega
   omega
 refine wp_region_any hm (main _ _ _ _ (by simp) ?_ h0)
 exact Nat.le_trans List.countP_le_length (by simp)
theorem getD_setT (listed : Array Bool) (i j : Nat) (h : i < listed.size) : (listed.setIfInBounds i true).getD j false = if i = j then true else listed.getD j false:=by
 rw [Array.getD_eq_getD_getElem?,Array.getD_eq_getD_getElem?,Array.getElem?_setIfInBounds]
 by_cases hij : i = j
 ·rw [if_pos hij,if_pos hij,if_pos h]; rfl
 ·rw [if_neg hij,if_neg hij]
theorem getD_un {listed : Array Bool} {i : Nat} (h : listed.getD i true = false) : listed.getD i false = false:=by
 rw [Array.getD_eq_getD_getElem?] at h ⊢
 cases hl : listed[i]? with
 | none=>rfl
 | some b=>rw [hl] at h; simpa using h
theorem exec_val {P : Program} {o : Oper} {a : Act} {w w' : World} {v : Value} {K : Act→World→Prop} {Q : Exit→Act→World→Prop} (h : (execOp a.eval o).run P w = .ok (.value v) w') (hk : K (a.put o.dst v) w') : o.wp P a w K Q:=by
 unfold Oper.wp
 rw [h]
 exact hk
def depsC (need : Nat→List Nat) (ops : List Oper) : Bool:=(List.range ops.length).all fun i=>match ops[i]? with
 | none=>false
 | some o=>o.guard.isNone && (o.after.all fun e=>!Region.binds .any e || Nat.blt e.on i) && (need i).all fun j=>o.after.any fun e=>Nat.beq e.on j && Region.binds .any e
def dstsC (n : Nat) (shape : List (Option Nat × Op)) : Bool:=(List.range shape.length).all fun i=>match shape[i]? with
 | some (some d,_)=>Nat.blt d n && (List.range shape.length).all fun j=>Nat.beq i j || (match shape[j]? with
  | some (some d',_)=>!Nat.beq d d'
  | _=>true)
 | _=>true
theorem dstsC_ok {n : Nat} {shape : List (Option Nat × Op)} (h : dstsC n shape = true) {i d : Nat} {op : Op} (hi : shape[i]? = some (some d,op)) : d < n∧∀ j d' op',shape[j]? = some (some d',op')→i ≠ j→d ≠ d':=by
 have hil:=(List.getElem?_eq_some_iff.1 hi).1
 have h1:=List.all_eq_true.1 h i (List.mem_range.2 hil)
 rw [hi] at h1
 simp only [Bool.and_eq_true,List.all_eq_true,List.mem_range] at h1
 refine ⟨by simpa using h1.1,fun j d' op' hj hij hd=>?_⟩
 have h2:=h1.2 j (List.getElem?_eq_some_iff.1 hj).1
 rw [hj] at h2
 simp [hd] at h2
 exact hij h2
def ancF (need : Nat→List Nat) : Nat→Nat→List Nat
 | 0,_=>[]
 | f + 1,i=>need i ++ (need i).flatMap (ancF need f)
theorem anc_cl {need : Nat→List Nat} {L : Array Bool} (h : ∀ (i j : Nat),j ∈ need i→L.getD i false = true→L.getD j false = true) : ∀ (f i j : Nat),j ∈ ancF need f i→L.getD i false = true→L.getD j false = true
 | 0,i,j,hj,_=>by simp [ancF] at hj
 | f + 1,i,j,hj,hl=>by
  rcases List.mem_append.1 hj with hj | hj
  ·exact h i j hj hl
  ·obtain ⟨m,hm,hj⟩:=List.mem_flatMap.1 hj
   exact anc_cl h f m j hj (h i m hm hl)
abbrev tf (a : Act) : Nat→Value:=fun t=>a.tmps.getD t undef
structure RCI (n : Nat) (a0 : Act) (shape : List (Option Nat × Op)) (need : Nat→List Nat) (val : Nat→Option Value) (chain : List Nat) (T : Nat→(Nat→Value)→World→Prop) (L : Array Bool) (a : Act) (w : World) (k : Nat) : Prop where
 le : k ≤ chain.length
 st : T k (tf a) w
 size : a.tmps.size = n
 defers : a.defers = a0.defers
 ch : ∀ (p m : Nat),chain[p]? = some m→(L.getD m false = true ↔ p < k)
 cl : ∀ (i j : Nat),j ∈ need i→L.getD i false = true→L.getD j false = true
 vals : ∀ (i : Nat) (v : Value) (d : Nat) (op : Op),L.getD i false = true→val i = some v→shape[i]? = some (some d,op)→a.tmps.getD d undef = v
 keep : ∀ (t : Nat),(∀ (j : Nat) (op : Op),shape[j]? ≠ some (some t,op))→a.tmps.getD t undef = a0.tmps.getD t undef
set_option maxHeartbeats 1000000 in
theorem region_chain {P : Program} {id : Nat} {ops : List Oper} {Q : Exit→Act→World→Prop} {a0 : Act} {w : World} (hm : P.follows .mixedOrders = true) (n : Nat) (hz : a0.tmps.size = n)
  (shape : List (Option Nat × Op)) (hops : ops.map (fun o=>(o.dst,o.op)) = shape) (need : Nat→List Nat) (hdep : depsC need ops = true) (hdst : dstsC n shape = true)
  (val : Nat→Option Value) (chain : List Nat) (T : Nat→(Nat→Value)→World→Prop)
  (hT : ∀ (k : Nat) (f f' : Nat→Value) (w : World),T k f w→(∀ m ∈ chain,∀ (d : Nat) (op : Op),shape[m]? = some (some d,op)→f' d = f d)→T k f' w)
  (hcl : ∀ m ∈ chain,m < shape.length) (hcov : ∀ (i : Nat),i < shape.length→(val i).isSome = true ∨ i ∈ chain) (hcv : ∀ m ∈ chain,val m = none) (hnd : chain.Nodup) (hcn : ∀ (p m m' : Nat),chain[p]? = some m→chain[p + 1]? = some m'→m ∈ need m')
  (h0 : T 0 (tf a0) { w with drawn:=w.drawn + 1 })
  (hquiet : ∀ (i : Nat) (d : Option Nat) (op : Op) (v : Value),shape[i]? = some (d,op)→val i = some v→∀ (k : Nat) (a : Act) (w' : World),T k (tf a) w'→(∀ (p m : Nat),chain[p]? = some m→i ∈ ancF need 12 m→k ≤ p)→(∀ j ∈ need i,∀ (vj : Value) (dj : Nat) (op' : Op),val j = some vj→shape[j]? = some (some dj,op')→a.eval (.tmp dj) = vj) →
   (∀ j ∈ need i,∀ (p : Nat),chain[p]? = some j→p < k)→(∀ (t : Nat),(∀ (j : Nat) (op : Op),shape[j]? ≠ some (some t,op))→a.eval (.tmp t) = a0.eval (.tmp t))→∀ (o : Oper),o.op = op→(execOp a.eval o).run P w' = .ok (.value v) w')
  (himp : ∀ (k m : Nat) (d : Option Nat) (op : Op),chain[k]? = some m→shape[m]? = some (d,op)→∀ (a : Act) (w' : World),a.tmps.size = n→T k (tf a) w'→(∀ j ∈ need m,∀ (vj : Value) (dj : Nat) (op' : Op),val j = some vj→shape[j]? = some (some dj,op')→a.eval (.tmp dj) = vj)→(∀ (t : Nat),(∀ (j : Nat) (op : Op),shape[j]? ≠ some (some t,op))→a.eval (.tmp t) = a0.eval (.tmp t)) →
   ∀ (o : Oper),o.dst = d→o.op = op→o.wp P a w' (fun a' w''=>∃ v,a' = a.put d v∧T (k + 1) (tf a') w'') Q)
  (hQ : ∀ (a' : Act) (w' : World),a'.tmps.size = n→a'.defers = a0.defers→T chain.length (tf a') w'→(∀ (i : Nat) (v : Value) (d : Nat) (op : Op),val i = some v→shape[i]? = some (some d,op)→a'.eval (.tmp d) = v)→(∀ (t : Nat),(∀ (j : Nat) (op : Op),shape[j]? ≠ some (some t,op))→a'.eval (.tmp t) = a0.eval (.tmp t))→Q .normal a' w') :
  (Code.region id ops.toArray true).wp P Q a0 w:=by
 have hlen : ops.length = shape.length:=by rw [← hops,List.length_map]
 have hat : ∀ (i : Nat) (o : Oper),ops[i]? = some o→o.guard = none∧(∀ e ∈ o.after,Region.binds .any e = true→e.on < i)∧(∀ j ∈ need i,∃ e ∈ o.after,e.on = j∧Region.binds .any e = true)∧shape[i]? = some (o.dst,o.op):=fun i o ho=>by
  have hi : i < ops.length:=(List.getElem?_eq_some_iff.1 ho).1
  have h1:=List.all_eq_true.1 hdep i (List.mem_range.2 hi)
  rw [ho] at h1
  simp only [Bool.and_eq_true,Option.isNone_iff_eq_none,Array.all_eq_true',List.all_eq_true,Array.any_eq_true'] at h1
  obtain ⟨⟨h1,h2⟩,h3⟩:=h1
  refine ⟨h1,fun e he hb=>by have:=h2 e he; rw [hb] at this; simpa [Nat.blt_eq] using this,fun j hj=>?_,by rw [← hops,List.getElem?_map,ho]; rfl⟩
  obtain ⟨e,he,h4⟩:=h3 j hj
  exact ⟨e,he,by simpa using h4.1,h4.2⟩
 refine region_inv hm (fun i o ho=>(hat i o (by simpa using ho)).2.1) (fun L a w=>∃ k,RCI n a0 shape need val chain T L a w k) ?_ ?_ ?_
 ·have hr : ∀ j,(Array.replicate ops.toArray.size false).getD j false = false:=fun j=>by
   rw [Array.getD_eq_getD_getElem?,Array.getElem?_replicate]
   split <;> rfl
  refine ⟨0,Nat.zero_le _,h0,hz,rfl,fun p m _=>?_,fun i j _ h=>?_,fun i v d op h=>?_,fun _ _=>rfl⟩
  ·rw [hr]; simp
  ·rw [hr] at h; cases h
  ·rw [hr] at h; cases h
 ·rintro L a w' i o hs ⟨k,hI⟩ ho hun hwait
  obtain ⟨hg,_,hneed,hsh⟩:=hat i o (by simpa using ho)
  refine ⟨by simp [Region.wanted,hg],?_⟩
  have hun':=getD_un hun
  have hil : i < shape.length:=(List.getElem?_eq_some_iff.1 hsh).1
  have hiL : i < L.size:=by rw [hs]; simp; omega
  have hd : ∀ j ∈ need i,L.getD j false = true:=fun j hj=>by
   obtain ⟨e,he,h1,h2⟩:=hneed j hj
   rw [← h1]; exact hwait e he h2
  have g : ∀ j,(L.setIfInBounds i true).getD j false = if i = j then true else L.getD j false:=fun j=>getD_setT L i j hiL
  have hnv : ∀ j ∈ need i,∀ vj dj op',val j = some vj→shape[j]? = some (some dj,op')→a.eval (.tmp dj) = vj:=fun j hj vj dj op' hv hs=>hI.vals j vj dj op' (hd j hj) hv hs
  have next : ∀ (a' : Act) (w'' : World) (k' : Nat) (v : Value),a' = a.put o.dst v→k' ≤ chain.length→T k' (tf a') w''→(∀ p m,chain[p]? = some m→(p < k' ↔ m = i ∨ p < k))→(∀ u,val i = some u→u = v)→RCI n a0 shape need val chain T (L.setIfInBounds i true) a' w'' k':=fun a' w'' k' v ha' hk' hT' hch hu=>by
   have hput : ∀ t,o.dst ≠ some t→a'.tmps.getD t undef = a.tmps.getD t undef:=fun t ht=>by
    rw [ha']
    cases hdst' : o.dst with
    | none=>rfl
    | some d =>
     rw [hdst'] at hsh ht
     exact put_ne (by rw [hI.size]; exact (dstsC_ok hdst hsh).1) (fun e=>ht (by rw [e]))
   refine ⟨hk',hT',by rw [ha',put_size]; exact hI.size,by rw [ha',put_defers]; exact hI.defers,fun p m hpm=>?_,fun i' j hj hl=>?_,fun i' u d op hl hv hs'=>?_,fun t ht=>?_⟩
   ·rw [g]
    by_cases him : i = m
    ·rw [if_pos him]; simp [(hch p m hpm).2 (.inl him.symm)]
    ·rw [if_neg him,hI.ch p m hpm,hch p m hpm]
     exact ⟨.inr,fun h=>h.elim (fun e=>absurd e.symm him) fun h=>h⟩
   ·rw [g] at hl ⊢
    by_cases hij : i = j
    ·rw [if_pos hij]
    ·rw [if_neg hij]
     by_cases hii : i = i'
     ·subst hii; exact hd j hj
     ·rw [if_neg hii] at hl; exact hI.cl i' j hj hl
   ·by_cases hii : i = i'
    ·subst hii
     rw [hsh] at hs'
     injection hs' with hs'
     rw [ha',(Prod.mk.inj hs').1,put_eq (by rw [hI.size]; exact (dstsC_ok hdst (by rw [hsh,hs'])).1)]
     exact (hu u hv).symm
    ·rw [g,if_neg hii] at hl
     rw [hput d (fun e=>?_)]
     ·exact hI.vals i' u d op hl hv hs'
     ·rw [e] at hsh
      exact (dstsC_ok hdst hsh).2 i' d op hs' hii rfl
   ·rw [hput t (fun e=>ht i o.op (by rw [hsh,e]))]
    exact hI.keep t ht
  rcases hcov i hil with hv | hic
  ·obtain ⟨v,hv⟩:=Option.isSome_iff_exists.1 hv
   have hni : i ∉ chain:=fun h=>by rw [hcv i h] at hv; cases hv
   refine exec_val (hquiet i _ _ v hsh hv k a w' hI.st (fun p m hpm him=>?_) hnv (fun j hj p hp=>(hI.ch p j hp).1 (hd j hj)) hI.keep o rfl) ?_
   ·rcases Nat.lt_or_ge p k with h | h
    ·have:=anc_cl hI.cl 12 m i him ((hI.ch p m hpm).2 h)
     rw [hun'] at this; cases this
    ·exact h
   refine ⟨k,next _ w' k v rfl hI.le (hT k _ _ w' hI.st fun m hm d op hs'=>?_) (fun p m hpm=>⟨.inr,fun h=>h.elim (fun e=>absurd (e ▸ List.mem_of_getElem? hpm) hni) fun h=>h⟩) (fun u h=>by rw [hv] at h; injection h with h; exact h.symm)⟩
   cases hdst' : o.dst with
   | none=>rfl
   | some d' =>
    rw [hdst'] at hsh
    exact put_ne (by rw [hI.size]; exact (dstsC_ok hdst hsh).1) (fun e=>(dstsC_ok hdst hsh).2 m d op hs' (fun e'=>hni (e' ▸ hm)) e.symm)
  ·obtain ⟨p,hp⟩:=List.getElem?_of_mem hic
   have hpk : p = k:=by
    have h1 : ¬ p < k:=fun h=>by have:=(hI.ch p i hp).2 h; rw [hun'] at this; cases this
    cases p with
    | zero=>omega
    | succ q =>
     have hq : q < chain.length:=by have:=(List.getElem?_eq_some_iff.1 hp).1; omega
     have hqm:=List.getElem?_eq_getElem hq
     have:=(hI.ch q _ hqm).1 (hd _ (hcn q _ i hqm hp))
     omega
   subst hpk
   refine Oper.wp_mono (fun a' w'' hh=>?_) (himp p i _ _ hp hsh a w' hI.size hI.st hnv hI.keep o rfl rfl)
   obtain ⟨v,rfl,hT'⟩:=hh
   refine ⟨p + 1,next _ w'' (p + 1) v rfl (List.getElem?_eq_some_iff.1 hp).1 hT' (fun q m hqm=>?_) (fun u h=>by rw [hcv i hic] at h; cases h)⟩
   constructor
   ·intro h
    rcases Nat.lt_or_ge q p with h1 | h1
    ·exact .inr h1
    ·obtain rfl : q = p:=by omega
     rw [hp] at hqm; injection hqm with hqm; exact .inl hqm.symm
   ·rintro (h | h)
    ·subst h
     have:=hnd
     rcases Nat.lt_trichotomy q p with h1 | h1 | h1
     ·omega
     ·omega
     ·exfalso
      have e1:=(List.getElem?_eq_some_iff.1 hqm)
      have e2:=(List.getElem?_eq_some_iff.1 hp)
      have:=List.pairwise_iff_getElem.1 hnd p q e2.1 e1.1 h1
      rw [e1.2,e2.2] at this
      exact this rfl
    ·omega
 ·rintro L a w' hs hall ⟨k,hI⟩
  have hall' : ∀ i,i < shape.length→L.getD i false = true:=fun i hi=>hall i (by simp; omega)
  have hk : k = chain.length:=by
   rcases Nat.lt_or_ge k chain.length with h | h
   ·have hm':=List.getElem?_eq_getElem h
    have hin:=hI.ch k _ hm'
    have hlt : chain[k] < shape.length:=hcl _ (List.getElem_mem h)
    have:=hin.1 (hall' _ hlt)
    omega
   ·have:=hI.le; omega
  subst hk
  exact hQ a w' hI.size hI.defers hI.st (fun i v d op hv hs'=>hI.vals i v d op (hall' i (List.getElem?_eq_some_iff.1 hs').1) hv hs') hI.keep
theorem notD {shape : List (Option Nat × Op)} {t : Nat} (h : (shape.all fun p=>match p.1 with | some d=>!Nat.beq d t | none=>true) = true) : ∀ (j : Nat) (op : Op),shape[j]? ≠ some (some t,op):=fun j op hj=>by
 have:=List.all_eq_true.1 h _ (List.mem_of_getElem? hj)
 simp at this
variable {a : Act} {w : World} {o : Oper}
theorem q_move {t : Nat} {v : Value} (h : o.op = .move (.tmp t)) (e : a.eval (.tmp t) = v) : (execOp a.eval o).run Try.prog w = .ok (.value v) w:=by simp [execOp,h,e]
theorem q_nil {t : Nat} {ad : Addr} (h : o.op = .nilCheck (.tmp t)) (e : a.eval (.tmp t) = .pointer (some ad)) : (execOp a.eval o).run Try.prog w = .ok (.value (.pointer (some ad))) w:=by simp [execOp,h,e]
theorem q_fld {t ty i off sz : Nat} {ad : Addr} {ti : TI} (hg : gam ty = some ti) (ho : ti.offs[i]? = some (off,sz)) (h : o.op = .fieldAddr ty (.tmp t) i) (e : a.eval (.tmp t) = .pointer (some ad)) : (execOp a.eval o).run Try.prog w = .ok (.value (.pointer (some (ad.add off)))) w:=by
 have hf:=(gam_ok ty _ hg).offs i off sz ho
 simp [execOp,h,e,hf]
theorem q_load1 {t ty : Nat} {ad : Addr} {v : Value} {ti : TI} (hg : gam ty = some ti) (hi : ti.agg = false) (h : o.op = .load ty (.tmp t)) (e : a.eval (.tmp t) = .pointer (some ad)) (hc : w.cell? ad = some v) : (execOp a.eval o).run Try.prog w = .ok (.value v) w:=by
 have h9:=(gam_ok ty _ hg).agg
 rw [hi] at h9
 simp [execOp,h,e,Instr.loadAt,Instr.sureAddr,loadVar,h9,load,Sem.run,hc]
theorem q_loadN {t ty : Nat} {b off : Nat} {cs : List Value} {ti : TI} (hg : gam ty = some ti) (hi : ti.agg = true) (hz : ti.size = cs.length) (h : o.op = .load ty (.tmp t)) (e : a.eval (.tmp t) = .pointer (some ⟨b,off,none⟩)) (hc : ∀ j v,cs[j]? = some v→w.cell? ⟨b,off + j,none⟩ = some v) : (execOp a.eval o).run Try.prog w = .ok (.value (.agg cs.toArray)) w:=by
 have h9:=(gam_ok ty _ hg).agg
 have hs:=(gam_ok ty _ hg).size
 rw [hi] at h9
 rw [hz] at hs
 have hl:=run_loadCells_list (P:=Try.prog) w ⟨b,off,none⟩ cs (fun j v hj=>by rw [Addr.add_lit]; exact hc j v hj)
 simp [execOp,h,e,Instr.loadAt,Instr.sureAddr,loadVar,h9,hs,hl]
theorem q_store1 {t x ty : Nat} {ad : Addr} {v u : Value} {ti : TI} (hg : gam ty = some ti) (hi : ti.agg = false) (h : o.op = .store ty (.tmp t) (.tmp x)) (e : a.eval (.tmp t) = .pointer (some ad)) (ev : a.eval (.tmp x) = v) (h1 : v.oneCell' = true) (hv : v.cells = #[v]) (hc : w.cell? ad = some u) (hf : w.frozen? ad = false) : (execOp a.eval o).run Try.prog w = .ok .skip (w.setCell ad v):=by
 have hs:=(gam_ok ty _ hg).size
 have ho:=(gam_ok ty _ hg).one hi
 rw [ho] at hs
 have ha : ad.add 0 = ad:=by obtain ⟨b,f,sp⟩:=ad; cases sp <;> rfl
 have hst:=run_store Try.prog w (ad.add 0) v .plain h1
 rw [ha,hc] at hst
 simp only [hf] at hst
 simp [execOp,h,e,ev,Instr.storeAt,Instr.sureAddr,storeVar,hs,hv,storeCells,ha]
 simp at hst
 rw [hst]
 rfl
theorem exec_skip {P : Program} {o : Oper} {a : Act} {w w' : World} {K : Act→World→Prop} {Q : Exit→Act→World→Prop} (h : (execOp a.eval o).run P w = .ok .skip w') (k : K (a.put o.dst undef) w') : o.wp P a w K Q:=by
 unfold Oper.wp; rw [h]; exact k
end Go.Proofs.Ytdnaadcbimbfmaa
namespace Go.Proofs.Ytdnaadcbimbfmaa
open Go Go.RowKit Am
theorem placeWE (w : World) (b off : Nat) (v : Value) (l : List ElE) (x : Dt) (h : BagAt w 65 28 b off v l.length (l.map itvE).flatten) (hs : Rise dE l) (hl : l.length ≤ 1000000) (t : Bool) (ht : t = decide (∃ a ∈ l,dE a = x)) :
  Calls Try.prog 53 #[.pointer (some ⟨b,off,none⟩),.agg x.vs] w fun e w'=>e = .returned (.tuple #[.int .i64 (cntD dE l x : Nat),.bool t])∧Below w.heap.size w w':=by
 have hp:=placeE_ok l hl hs x _ rfl _ _ rfl rfl t ht
 have hx : Reps w (fun g=>g = b ∨ v.ownBlock = some g) [.ept [.sl (l.map itE)] 0,.agg x.ac] [.pointer (some ⟨b,off,none⟩),.agg x.vs] :=
  Reps.cons (h.rep itvE_ac itvE_one itE_len (.inl rfl) fun g hg=>.inr hg) (Reps.cons (.agg (xs:=[vI x.R,vI x.N]) (repl_map_v [vI x.R,vI x.N] (by simp [Value.oneCell']))) (Reps.nil _ _))
 refine (hp.2 w _ _ (fun g hg=>?_) (gd_all _ _) hx).mono fun e w' hh=>?_
 ·rcases hg with rfl | hg
  ·exact h.lt
  ·exact h.blk g hg
 obtain ⟨y,S',rfl,hg,ys,rfl,hys⟩:=hh
 obtain ⟨z,zs,rfl,h1,hys⟩:=hys.uncons
 obtain ⟨z2,zs,rfl,h2,hys⟩:=hys.uncons
 have:=hys.unnil
 subst this
 rw [rep_v h1,rep_v h2]
 exact ⟨rfl,hg.below⟩
def putShapeE : List (Option Nat × Op):=[(some 25,.move (.tmp 0)),(some 26,.move (.tmp 0)),(some 27,.nilCheck (.tmp 26)),(some 28,.fieldAddr 77 (.tmp 27) 0),(some 29,.load 62 (.tmp 28)),(some 30,.move (.tmp 6)),(some 31,.load 33 (.tmp 4)),(some 32,.load 37 (.tmp 5)),(some 33,.build 65 #[(0,.tmp 31),(1,.tmp 32)]),(some 34,.buildSlice 62 1 #[(0,.tmp 33)]),
 (some 35,.call { callee:=.value (.func 57),args:=#[.tmp 29,.tmp 30,.tmp 34],argTypes:=#[62,3,62] }),(some 36,.nilCheck (.tmp 25)),(some 37,.fieldAddr 77 (.tmp 36) 0),(none,.store 62 (.tmp 37) (.tmp 35))]
def putNeedE : Nat→List Nat
 | 2=>[1] | 3=>[2] | 4=>[3] | 8=>[6,7] | 9=>[8] | 10=>[4,5,9] | 11=>[0,10] | 12=>[11] | 13=>[12,10] | _=>[]
def putTE (W : World) (b off : Nat) (cs : List Value) (J : Value→World→Prop) (k : Nat) (f : Nat→Value) (w : World) : Prop :=
 match k with
 | 0=>w = W
 | 1=>w = W.alloc (.cells cs.toArray 65)∧f 34 = .slice (some ⟨W.heap.size,0,none⟩) 1 1
 | 2=>J (f 35) w
 | _=>∃ v w2,J v w2∧w = w2.setCell ⟨b,off,none⟩ v
def putValE (b off i : Nat) (v : Value) (e : ElE) (q : Nat) : Option Value :=
 match q with
 | 0=>some (.pointer (some ⟨b,off,none⟩)) | 1=>some (.pointer (some ⟨b,off,none⟩)) | 2=>some (.pointer (some ⟨b,off,none⟩)) | 3=>some (.pointer (some ⟨b,off,none⟩)) | 4=>some v | 5=>some (.int .i64 i) | 6=>some (.agg (dE e).vs) | 7=>some (.agg (xvE e)) | 8=>some (.agg (itvE e).toArray) | 11=>some (.pointer (some ⟨b,off,none⟩)) | 12=>some (.pointer (some ⟨b,off,none⟩)) | _=>none
theorem buildItE (e : ElE) (w : World) : (Instr.build 65 #[(0,.agg (dE e).vs),(1,.agg (xvE e))]).run Try.prog w = .ok (.agg (itvE e).toArray) w:=by kernel_rfl
theorem buildSlE (e : ElE) (w : World) : (Instr.buildSlice 62 1 #[(0,.agg (itvE e).toArray)]).run Try.prog w = .ok (.slice (some ⟨w.heap.size,0,none⟩) 1 1) (w.alloc (.cells (itvE e).toArray 65)):=by kernel_rfl
set_option maxHeartbeats 4000000 in
set_option maxRecDepth 100000 in
theorem putRegionE {id : Nat} {ops : List Oper} {Q : Exit→Act→World→Prop} {a0 : Act} {w : World} (hops : ops.map (fun o=>(o.dst,o.op)) = putShapeE) (hdep : depsC putNeedE ops = true) (hz : a0.tmps.size = 38)
  (b off h1 h2 i : Nat) (v : Value) (e : ElE) (J : Value→World→Prop) (t0 : a0.eval (.tmp 0) = .pointer (some ⟨b,off,none⟩)) (t4 : a0.eval (.tmp 4) = .pointer (some ⟨h1,0,none⟩)) (t5 : a0.eval (.tmp 5) = .pointer (some ⟨h2,0,none⟩)) (t6 : a0.eval (.tmp 6) = .int .i64 i)
  (c0 : w.cell? ⟨b,off,none⟩ = some v) (c1 : ∀ j u,(dE e).vs.toList[j]? = some u→w.cell? ⟨h1,0 + j,none⟩ = some u) (c2 : ∀ j u,(xvE e).toList[j]? = some u→w.cell? ⟨h2,0 + j,none⟩ = some u)
  (hin : Calls Try.prog 57 #[v,.int .i64 i,.slice (some ⟨w.heap.size,0,none⟩) 1 1] (w.drew.alloc (.cells (itvE e).toArray 65)) fun r w2=>∃ v',r = .returned v'∧J v' w2)
  (hJ : ∀ v' w2,J v' w2→(∃ u,w2.cell? ⟨b,off,none⟩ = some u)∧w2.frozen? ⟨b,off,none⟩ = false∧v'.oneCell' = true∧v'.cells = #[v'])
  (hQ : ∀ a' v' w2,a'.tmps.size = 38→a'.defers = a0.defers→J v' w2→Q .normal a' (w2.setCell ⟨b,off,none⟩ v')) : (Code.region id ops.toArray true).wp Try.prog Q a0 w:=by
 refine region_chain mixed 38 hz putShapeE hops putNeedE hdep (by decide) (putValE b off i v e) [9,10,13] (putTE w.drew b off (itvE e) J) (fun k f f' w1 hT hk=>?_) (by decide) (fun q hq=>?_) (fun m hm=>?_) (by decide) (fun p m m' h1 h2=>?_) rfl ?_ ?_ (fun a' w' hs hd hT _ _=>?_)
 ·match k,hT with
  | 0,hT=>exact hT
  | 1,hT=>exact ⟨hT.1,(hk 9 (by simp) 34 _ rfl).trans hT.2⟩
  | 2,hT=>show J (f' 35) w1; rw [hk 10 (by simp) 35 _ rfl]; exact hT
  | _ + 3,hT=>exact hT
 ·have hq : q < 14:=hq
  obtain rfl | rfl | rfl | rfl | rfl | rfl | rfl | rfl | rfl | rfl | rfl | rfl | rfl | rfl : q = 0 ∨ q = 1 ∨ q = 2 ∨ q = 3 ∨ q = 4 ∨ q = 5 ∨ q = 6 ∨ q = 7 ∨ q = 8 ∨ q = 9 ∨ q = 10 ∨ q = 11 ∨ q = 12 ∨ q = 13:=by omega
  all_goals first | exact .inl rfl | exact .inr (by simp)
 ·simp only [List.mem_cons,List.not_mem_nil,or_false] at hm
  rcases hm with rfl | rfl | rfl <;> rfl
 ·match p with
  | 0=>injection h1 with h1; injection h2 with h2; subst h1; subst h2; decide
  | 1=>injection h1 with h1; injection h2 with h2; subst h1; subst h2; decide
  | _ + 2=>simp at h2
 ·intro q d op u hsh hv k a w' hT hlim hn hp hk o ho
  have hq : q < 14:=(List.getElem?_eq_some_iff.1 hsh).1
  have e0:=(hk 0 (notD (by rfl))).trans t0
  have e4:=(hk 4 (notD (by rfl))).trans t4
  have e5:=(hk 5 (notD (by rfl))).trans t5
  have e6:=(hk 6 (notD (by rfl))).trans t6
  obtain rfl | rfl | rfl | rfl | rfl | rfl | rfl | rfl | rfl | rfl | rfl | rfl | rfl | rfl : q = 0 ∨ q = 1 ∨ q = 2 ∨ q = 3 ∨ q = 4 ∨ q = 5 ∨ q = 6 ∨ q = 7 ∨ q = 8 ∨ q = 9 ∨ q = 10 ∨ q = 11 ∨ q = 12 ∨ q = 13:=by omega
  all_goals first | (cases hv; done) | (injection hsh with hsh; obtain ⟨rfl,rfl⟩:=Prod.mk.inj hsh; injection hv with hv; subst hv)
  ·exact q_move ho e0
  ·exact q_move ho e0
  ·exact q_nil ho (hn 1 (by decide) _ 26 _ rfl rfl)
  ·have:=q_fld (w:=w') (ti:=ti77) (off:=0) (sz:=1) rfl rfl ho (hn 2 (by decide) _ 27 _ rfl rfl)
   rw [Addr.add_lit] at this
   exact this
  ·refine q_load1 (ti:=ti62) rfl rfl ho (hn 3 (by decide) _ 28 _ rfl rfl) ?_
   have hk1:=hlim 1 10 rfl (by decide)
   match k,hT with
   | 0,hT=>rw [show w' = w.drew from hT]; exact c0
   | 1,hT=>rw [hT.1]; exact Lib.cell?_alloc_some _ c0
   | _ + 2,_=>omega
  ·exact q_move ho e6
  ·have hk1:=hlim 0 9 rfl (by decide)
   obtain rfl : k = 0:=by omega
   rw [show w' = w.drew from hT]
   exact q_loadN (w:=w.drew) (ti:=ti33) rfl rfl rfl ho e4 c1
  ·have hk1:=hlim 0 9 rfl (by decide)
   obtain rfl : k = 0:=by omega
   rw [show w' = w.drew from hT]
   exact q_loadN (w:=w.drew) (ti:=ti37) rfl rfl rfl ho e5 c2
  ·have e31:=hn 6 (by decide) _ 31 _ rfl rfl
   have e32:=hn 7 (by decide) _ 32 _ rfl rfl
   have hb:=buildItE e w'
   simp [execOp,ho,e31,e32,hb]
  ·exact q_nil ho (hn 0 (by decide) _ 25 _ rfl rfl)
  ·have:=q_fld (w:=w') (ti:=ti77) (off:=0) (sz:=1) rfl rfl ho (hn 11 (by decide) _ 36 _ rfl rfl)
   rw [Addr.add_lit] at this
   exact this
 ·intro k m d op hkm hsh a w' hza hT hn hk o hd ho
  match k with
  | 0 =>
   injection hkm with hkm; subst hkm; injection hsh with hsh; obtain ⟨rfl,rfl⟩:=Prod.mk.inj hsh
   have e33:=hn 8 (by decide) _ 33 _ rfl rfl
   have hT : w' = w.drew:=hT
   subst hT
   have hb:=buildSlE e w.drew
   refine exec_val (by simp [execOp,ho,e33,hb]; rfl) ⟨_,by rw [hd],rfl,?_⟩
   rw [hd]
   exact put_eq (by rw [hza]; decide)
  | 1 =>
   injection hkm with hkm; subst hkm; injection hsh with hsh; obtain ⟨rfl,rfl⟩:=Prod.mk.inj hsh
   have e29:=hn 4 (by decide) _ 29 _ rfl rfl
   have e30:=hn 5 (by decide) _ 30 _ rfl rfl
   have e34 : a.eval (.tmp 34) = .slice (some ⟨w.heap.size,0,none⟩) 1 1:=hT.2
   have hen:=run_call (P:=Try.prog) (a:=a) (w:=w') (g:=57) (caps:=[]) ho rfl (enterT Try.func57 (by kernel_rfl) rfl)
   simp only [List.map_cons,List.map_nil,List.append_nil,e29,e30,e34] at hen
   refine wp_enter hen ?_
   rw [hT.1]
   refine hin.mono ?_
   rintro r w2 ⟨v',rfl,hj⟩
   refine ⟨_,rfl,v',by rw [hd],?_⟩
   show J _ w2
   rw [hd,tf,put_eq (by rw [hza]; decide)]
   exact hj
  | 2 =>
   injection hkm with hkm; subst hkm; injection hsh with hsh; obtain ⟨rfl,rfl⟩:=Prod.mk.inj hsh
   have e37:=hn 12 (by decide) _ 37 _ rfl rfl
   have hT : J (a.eval (.tmp 35)) w':=hT
   obtain ⟨⟨u,hu⟩,hf,h1,hcs⟩:=hJ _ _ hT
   refine exec_skip (q_store1 (ti:=ti62) rfl rfl ho e37 rfl h1 hcs hu hf) ⟨undef,by rw [hd],_,_,hT,rfl⟩
  | _ + 3=>simp at hkm
 ·obtain ⟨v',w2,hj,rfl⟩:=hT
  exact hQ a' v' w2 hs hd hj
end Go.Proofs.Ytdnaadcbimbfmaa
