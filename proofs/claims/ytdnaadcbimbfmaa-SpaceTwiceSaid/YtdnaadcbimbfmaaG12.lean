import Derived.Maps.RangeRun
import Derived.Test.YtdnaadcbimbfmaaG11
set_option linter.unusedSimpArgs false
set_option linter.unusedVariables false
namespace Go.Proofs.Ytdnaadcbimbfmaa
open Go Go.RowKit Am
def roShape : List (Option Nat × Op):=[(some 71,.move (.tmp 4)),(some 72,.fieldAddr 35 (.tmp 7) 5),(some 73,.fieldAddr 33 (.tmp 72) 0),(some 74,.load 3 (.tmp 73)),(some 75,.convert 3 56 (.tmp 74)),(some 76,.call { callee:=.value (.func 18),args:=#[.tmp 71,.tmp 75],argTypes:=#[53,56] }),(some 77,.fieldAddr 35 (.tmp 7) 5),(some 78,.fieldAddr 33 (.tmp 77) 1),(some 79,.load 3 (.tmp 78)),(some 80,.convert 3 56 (.tmp 79)),(some 81,.call { callee:=.value (.func 18),args:=#[.tmp 76,.tmp 80],argTypes:=#[53,56] }),(some 4,.assign (.tmp 81))]
def roNeed : Nat→List Nat
 | 2=>[1] | 3=>[2] | 4=>[3] | 5=>[0,4] | 7=>[6] | 8=>[7] | 9=>[8] | 10=>[5,9] | 11=>[10] | _=>[]
def roVal (vb : Value) (ad : Addr) (x y : Int) (q : Nat) : Option Value :=
 match q with
 | 0=>some (vb) | 1=>some (.pointer (some (ad.add 5))) | 2=>some (.pointer (some ((ad.add 5).add 0))) | 3=>some (vI x) | 4=>some (.int .u64 ((uN x : Nat) : Int)) | 6=>some (.pointer (some (ad.add 5))) | 7=>some (.pointer (some ((ad.add 5).add 1))) | 8=>some (vI y) | 9=>some (.int .u64 ((uN y : Nat) : Int)) | _=>none
set_option maxHeartbeats 4000000 in
set_option maxRecDepth 100000 in
theorem ro_region {id : Nat} {ops : List Oper} {Q : Exit→Act→World→Prop} {a0 : Act} {w : World} (n : Nat) (hnz : n = 83) (ad : Addr) (x y : Int) (l : List UInt8) (hl : l.length ≤ 40000000) (S : Nat→Prop) (hS : ∀ g,S g→g < w.heap.size) (hops : ops.map (fun o=>(o.dst,o.op)) = roShape) (hdep : depsC roNeed ops = true) (hz : a0.tmps.size = n)
  (h7 : a0.eval (.tmp 7) = .pointer (some ad)) (hr : Rep w S (.sl (byR l)) (a0.eval (.tmp 4))) (cx : w.cell? (ad.add (5 + 0)) = some (vI x)) (cy : w.cell? (ad.add (5 + 1)) = some (vI y))
  (hQ : ∀ (a' : Act) (w' : World) (S2 : Nat→Prop),a'.tmps.size = n→a'.defers = a0.defers→Gr w S w' S2→Rep w' S2 (.sl (byR ((l ++ vlqL (uN x)) ++ vlqL (uN y)))) (a'.eval (.tmp 4))→(∀ (t : Nat),(∀ (j : Nat) (op : Op),roShape[j]? ≠ some (some t,op))→a'.eval (.tmp t) = a0.eval (.tmp t))→Q .normal a' w') : (Code.region id ops.toArray true).wp Try.prog Q a0 w:=by
 subst hnz
 have hvx:=vlq_len (uN x) (uN_lt x)
 have hlt : ad.block < w.heap.size:=by have:=block_lt_of_cell cx; rwa [add_blk] at this
 refine calls2 mixed 83 hz roShape hops roNeed hdep (by decide) (roVal (a0.eval (.tmp 4)) ad x y) 5 10 11 76 81 4 18 18 71 75 80 _ _ S hS rfl rfl rfl (fun q hq=>?_) (fun m hm=>?_) (by decide) (by simp [roNeed]) (by simp [roNeed]) (a0.eval (.tmp 4)) (.int .u64 ((uN x : Nat) : Int)) (.int .u64 ((uN y : Nat) : Int)) ⟨0,_,by simp [roNeed],rfl,rfl⟩ ⟨4,_,by simp [roNeed],rfl,rfl⟩ ⟨9,_,by simp [roNeed],rfl,rfl⟩
  (enterT Try.func18 (by kernel_rfl) rfl) (enterT Try.func18 (by kernel_rfl) rfl) (.sl (byR (l ++ vlqL (uN x)))) (.sl (byR ((l ++ vlqL (uN x)) ++ vlqL (uN y)))) (putW (w:=w.drew) (by omega) _ (uN_lt x) hS (Rep.mono (w:=w) (w':=w.drew) (fun _ _=>rfl) (fun _ h=>h) hr)) (fun w1 S1 y' hg hy=>putW (by rw [List.length_append]; omega) _ (uN_lt y) hg.lt hy) ?_ hQ
 ·have hq : q < 12:=hq
  obtain rfl | rfl | rfl | rfl | rfl | rfl | rfl | rfl | rfl | rfl | rfl | rfl : q = 0 ∨ q = 1 ∨ q = 2 ∨ q = 3 ∨ q = 4 ∨ q = 5 ∨ q = 6 ∨ q = 7 ∨ q = 8 ∨ q = 9 ∨ q = 10 ∨ q = 11:=by omega
  all_goals first | exact .inl rfl | exact .inr (by simp)
 ·simp only [List.mem_cons,List.not_mem_nil,or_false] at hm
  rcases hm with rfl | rfl | rfl <;> rfl
 ·intro q dd op uu hsh hv a w' hb hn hk hk3 o ho
  have hq : q < 12:=(List.getElem?_eq_some_iff.1 hsh).1
  have e7:=(hk 7 (notD (by rfl))).trans h7
  obtain rfl | rfl | rfl | rfl | rfl | rfl | rfl | rfl | rfl | rfl | rfl | rfl : q = 0 ∨ q = 1 ∨ q = 2 ∨ q = 3 ∨ q = 4 ∨ q = 5 ∨ q = 6 ∨ q = 7 ∨ q = 8 ∨ q = 9 ∨ q = 10 ∨ q = 11:=by omega
  all_goals first | (cases hv; done) | (injection hsh with hsh; obtain ⟨rfl,rfl⟩:=Prod.mk.inj hsh; injection hv with hv; subst hv)
  ·exact q_move ho (hk3 (by simp [roNeed]))
  ·exact q_fld (ti:=ti35) (off:=5) (sz:=2) rfl rfl ho e7
  ·exact q_fld (ti:=ti33) (off:=0) (sz:=1) rfl rfl ho (hn 1 (by decide) _ 72 _ rfl rfl)
  ·exact q_load1 (ti:=ti3) rfl rfl ho (hn 2 (by decide) _ 73 _ rfl rfl) (by rw [Addr.add_add]; exact (World.cell?_of_block (hb.block _ (by rw [add_blk]; exact hlt))).trans cx)
  ·exact q_conv ho (hn 3 (by decide) _ 74 _ rfl rfl)
  ·exact q_fld (ti:=ti35) (off:=5) (sz:=2) rfl rfl ho e7
  ·exact q_fld (ti:=ti33) (off:=1) (sz:=1) rfl rfl ho (hn 6 (by decide) _ 77 _ rfl rfl)
  ·exact q_load1 (ti:=ti3) rfl rfl ho (hn 7 (by decide) _ 78 _ rfl rfl) (by rw [Addr.add_add]; exact (World.cell?_of_block (hb.block _ (by rw [add_blk]; exact hlt))).trans cy)
  ·exact q_conv ho (hn 8 (by decide) _ 79 _ rfl rfl)
def toShape : List (Option Nat × Op):=[(some 70,.move (.tmp 3)),(some 71,.fieldAddr 72 (.tmp 11) 1),(some 72,.fieldAddr 68 (.tmp 71) 1),(some 73,.fieldAddr 33 (.tmp 72) 0),(some 74,.load 3 (.tmp 73)),(some 75,.convert 3 56 (.tmp 74)),(some 76,.call { callee:=.value (.func 18),args:=#[.tmp 70,.tmp 75],argTypes:=#[53,56] }),(some 77,.fieldAddr 72 (.tmp 11) 1),(some 78,.fieldAddr 68 (.tmp 77) 1),(some 79,.fieldAddr 33 (.tmp 78) 1),(some 80,.load 3 (.tmp 79)),(some 81,.convert 3 56 (.tmp 80)),(some 82,.call { callee:=.value (.func 18),args:=#[.tmp 76,.tmp 81],argTypes:=#[53,56] }),(some 3,.assign (.tmp 82))]
def toNeed : Nat→List Nat
 | 2=>[1] | 3=>[2] | 4=>[3] | 5=>[4] | 6=>[0,5] | 8=>[7] | 9=>[8] | 10=>[9] | 11=>[10] | 12=>[6,11] | 13=>[12] | _=>[]
def toVal (vb : Value) (ad : Addr) (x y : Int) (q : Nat) : Option Value :=
 match q with
 | 0=>some (vb) | 1=>some (.pointer (some (ad.add 2))) | 2=>some (.pointer (some ((ad.add 2).add 26))) | 3=>some (.pointer (some (((ad.add 2).add 26).add 0))) | 4=>some (vI x) | 5=>some (.int .u64 ((uN x : Nat) : Int)) | 7=>some (.pointer (some (ad.add 2))) | 8=>some (.pointer (some ((ad.add 2).add 26))) | 9=>some (.pointer (some (((ad.add 2).add 26).add 1))) | 10=>some (vI y) | 11=>some (.int .u64 ((uN y : Nat) : Int)) | _=>none
set_option maxHeartbeats 4000000 in
set_option maxRecDepth 100000 in
theorem to_region {id : Nat} {ops : List Oper} {Q : Exit→Act→World→Prop} {a0 : Act} {w : World} (n : Nat) (hnz : n = 91) (ad : Addr) (x y : Int) (l : List UInt8) (hl : l.length ≤ 40000000) (S : Nat→Prop) (hS : ∀ g,S g→g < w.heap.size) (hops : ops.map (fun o=>(o.dst,o.op)) = toShape) (hdep : depsC toNeed ops = true) (hz : a0.tmps.size = n)
  (h11 : a0.eval (.tmp 11) = .pointer (some ad)) (hr : Rep w S (.sl (byR l)) (a0.eval (.tmp 3))) (cx : w.cell? (ad.add (2 + 26 + 0)) = some (vI x)) (cy : w.cell? (ad.add (2 + 26 + 1)) = some (vI y))
  (hQ : ∀ (a' : Act) (w' : World) (S2 : Nat→Prop),a'.tmps.size = n→a'.defers = a0.defers→Gr w S w' S2→Rep w' S2 (.sl (byR ((l ++ vlqL (uN x)) ++ vlqL (uN y)))) (a'.eval (.tmp 3))→(∀ (t : Nat),(∀ (j : Nat) (op : Op),toShape[j]? ≠ some (some t,op))→a'.eval (.tmp t) = a0.eval (.tmp t))→Q .normal a' w') : (Code.region id ops.toArray true).wp Try.prog Q a0 w:=by
 subst hnz
 have hvx:=vlq_len (uN x) (uN_lt x)
 have hlt : ad.block < w.heap.size:=by have:=block_lt_of_cell cx; rwa [add_blk] at this
 refine calls2 mixed 91 hz toShape hops toNeed hdep (by decide) (toVal (a0.eval (.tmp 3)) ad x y) 6 12 13 76 82 3 18 18 70 75 81 _ _ S hS rfl rfl rfl (fun q hq=>?_) (fun m hm=>?_) (by decide) (by simp [toNeed]) (by simp [toNeed]) (a0.eval (.tmp 3)) (.int .u64 ((uN x : Nat) : Int)) (.int .u64 ((uN y : Nat) : Int)) ⟨0,_,by simp [toNeed],rfl,rfl⟩ ⟨5,_,by simp [toNeed],rfl,rfl⟩ ⟨11,_,by simp [toNeed],rfl,rfl⟩
  (enterT Try.func18 (by kernel_rfl) rfl) (enterT Try.func18 (by kernel_rfl) rfl) (.sl (byR (l ++ vlqL (uN x)))) (.sl (byR ((l ++ vlqL (uN x)) ++ vlqL (uN y)))) (putW (w:=w.drew) (by omega) _ (uN_lt x) hS (Rep.mono (w:=w) (w':=w.drew) (fun _ _=>rfl) (fun _ h=>h) hr)) (fun w1 S1 y' hg hy=>putW (by rw [List.length_append]; omega) _ (uN_lt y) hg.lt hy) ?_ hQ
 ·have hq : q < 14:=hq
  obtain rfl | rfl | rfl | rfl | rfl | rfl | rfl | rfl | rfl | rfl | rfl | rfl | rfl | rfl : q = 0 ∨ q = 1 ∨ q = 2 ∨ q = 3 ∨ q = 4 ∨ q = 5 ∨ q = 6 ∨ q = 7 ∨ q = 8 ∨ q = 9 ∨ q = 10 ∨ q = 11 ∨ q = 12 ∨ q = 13:=by omega
  all_goals first | exact .inl rfl | exact .inr (by simp)
 ·simp only [List.mem_cons,List.not_mem_nil,or_false] at hm
  rcases hm with rfl | rfl | rfl <;> rfl
 ·intro q dd op uu hsh hv a w' hb hn hk hk3 o ho
  have hq : q < 14:=(List.getElem?_eq_some_iff.1 hsh).1
  have e11:=(hk 11 (notD (by rfl))).trans h11
  obtain rfl | rfl | rfl | rfl | rfl | rfl | rfl | rfl | rfl | rfl | rfl | rfl | rfl | rfl : q = 0 ∨ q = 1 ∨ q = 2 ∨ q = 3 ∨ q = 4 ∨ q = 5 ∨ q = 6 ∨ q = 7 ∨ q = 8 ∨ q = 9 ∨ q = 10 ∨ q = 11 ∨ q = 12 ∨ q = 13:=by omega
  all_goals first | (cases hv; done) | (injection hsh with hsh; obtain ⟨rfl,rfl⟩:=Prod.mk.inj hsh; injection hv with hv; subst hv)
  ·exact q_move ho (hk3 (by simp [toNeed]))
  ·exact q_fld (ti:=ti72) (off:=2) (sz:=28) rfl rfl ho e11
  ·exact q_fld (ti:=ti68) (off:=26) (sz:=2) rfl rfl ho (hn 1 (by decide) _ 71 _ rfl rfl)
  ·exact q_fld (ti:=ti33) (off:=0) (sz:=1) rfl rfl ho (hn 2 (by decide) _ 72 _ rfl rfl)
  ·exact q_load1 (ti:=ti3) rfl rfl ho (hn 3 (by decide) _ 73 _ rfl rfl) (by rw [Addr.add_add,Addr.add_add]; exact (World.cell?_of_block (hb.block _ (by rw [add_blk]; exact hlt))).trans cx)
  ·exact q_conv ho (hn 4 (by decide) _ 74 _ rfl rfl)
  ·exact q_fld (ti:=ti72) (off:=2) (sz:=28) rfl rfl ho e11
  ·exact q_fld (ti:=ti68) (off:=26) (sz:=2) rfl rfl ho (hn 7 (by decide) _ 77 _ rfl rfl)
  ·exact q_fld (ti:=ti33) (off:=1) (sz:=1) rfl rfl ho (hn 8 (by decide) _ 78 _ rfl rfl)
  ·exact q_load1 (ti:=ti3) rfl rfl ho (hn 9 (by decide) _ 79 _ rfl rfl) (by rw [Addr.add_add,Addr.add_add]; exact (World.cell?_of_block (hb.block _ (by rw [add_blk]; exact hlt))).trans cy)
  ·exact q_conv ho (hn 10 (by decide) _ 80 _ rfl rfl)
end Go.Proofs.Ytdnaadcbimbfmaa
namespace Go.Proofs.Ytdnaadcbimbfmaa
open Go Go.RowKit Am
theorem first1 {k : Nat} {v : AV} {sl : List (Nat × AV)} (_ : k = k) : ∀ t x,lk t [(k,v)] = some x→lk t ((k,v) :: sl) = some x:=fun t x ht=>by
 simp only [lk] at ht ⊢
 by_cases hh : k = t
 ·rw [if_pos hh] at ht ⊢; exact ht
 ·rw [if_neg hh] at ht; cases ht
set_option maxHeartbeats 4000000 in
set_option maxRecDepth 100000 in
theorem eEncode_ok (e : Ev) (hr : RightP e) (hz : e.op.key.size + e.op.fld.size + e.op.val.size ≤ 100000) (hn0 : -9223372036854775808 ≤ e.op.num) (hn1 : e.op.num ≤ 9223372036854775807) : CSem Try.prog (.fn 46) [.agg e.ac] (.pure [.sl (byR (encL e)),aI 0]):=by
 refine acall_hand 83 Try.func46 (by kernel_rfl) rfl rfl (by simp) fun w S a h=>?_
 refine wp_seq (h.pc (E:={ n:=83 }) [(1,.ept e.ac 0)] rfl (fun F C D hF hC=>?_) fun S1 a1 w1 h1=>?_)
 ·cbv
  exact ⟨100,(le_of [] (by simp [leSl,leOb,injK,memK,parK,noTup,lk,rn0,rnA,plain] <;> first | rfl | decide | (repeat (first | rfl | trivial | refine And.intro ?_ ?_))))⟩
 clear h
 refine wp_seq (wp_seq (h1.pc (E:={ n:=83 }) [(12,aB false),(1,.ept e.ac 0)] rfl (fun F C D hF hC=>?_) fun S2 a2 w2 h2=>?_))
 ·have kr:=hC _ _ _ (right_ok e true (by simp [hr]))
  have tb:=bnotF hF true
  cbv
  refine ⟨_,kr,?_⟩
  cbv
  rw [tb]
  exact ⟨100,(le_of [] (by simp [leSl,leOb,injK,memK,parK,noTup,lk,rn0,rnA,plain] <;> first | rfl | decide | (repeat (first | rfl | trivial | refine And.intro ?_ ?_))))⟩
 clear h1
 refine wp_cond_false (h2.val (t:=12) rfl) (wp_skip ?_)
 show Code.wp Try.prog (Code.seq _ _) _ _ _
 refine wp_seq (h2.pc (E:={ n:=83 }) [(4,.sl []),(1,.ept e.ac 0)] rfl (fun F C D hF hC=>?_) fun S3 a3 w3 h3=>?_)
 ·cbv
  exact ⟨100,Le.trans (le_nilS 4 rfl) (le_of [] (by simp [leSl,leOb,injK,memK,parK,noTup,lk,rn0,rnA,plain] <;> first | rfl | decide | (repeat (first | rfl | trivial | refine And.intro ?_ ?_))))⟩
 clear h2
 show Code.wp Try.prog (Code.seq _ _) _ _ _
 obtain ⟨ae,hae,hce⟩:=h3.cells (t:=1) e.vs.toList rfl
 have hlt : ae.block < w3.heap.size:=by
  have:=hce 0 _ rfl
  rw [add00] at this
  exact block_lt_of_cell this
 refine wp_seq (wp_seq (hd_region ae e rfl (by kernel_rfl) h3.hi.size hae hlt hce fun a4 w4 hz4 hd4 hb4 hown4 h25 h26 ho4=>?_))
 have h4:=h3.reg hz4 hd4 hdShape rfl ho4
 obtain ⟨g4,rep4⟩:=gr_row (rows:=intR (hdrI e)) (zs:=hdV e) (S:=S3) h3.hi.lt hb4 hown4 (repl_map_v (hdV e) (List.all_eq_true.1 (show (hdV e).all (fun v=>v.oneCell') = true from rfl))) (fun r hr=>by obtain ⟨x,_,rfl⟩:=List.mem_map.1 hr; rfl)
 have h5:=(((h4.out g4).add (d:=24) (by decide) _ (srep_of_rep rep4)).addV (d:=25) (by decide) rfl h25).addV (d:=26) (by decide) rfl h26
 clear h4 h3 rep4
 have hev : ∀ i,i < 19→∃ x,(hdrI e)[i]? = some x:=fun i hi=>⟨_,List.getElem?_eq_getElem (show i < (hdrI e).length from hi)⟩
 obtain ⟨hs,hhs⟩ : ∃ hs,hs = hdrI e:=⟨_,rfl⟩
 have hlen : hs.length = 19:=by rw [hhs]; rfl
 rw [← hhs] at h5 hev
 obtain ⟨rows,hrows⟩ : ∃ rows,rows = intR hs:=⟨_,rfl⟩
 obtain ⟨ea,hea⟩ : ∃ ea,ea = e.ac:=⟨_,rfl⟩
 rw [← hrows,← hea] at h5
 obtain ⟨b1,hb1⟩ : ∃ b1,b1 = byR (numL hs):=⟨_,rfl⟩
 show Code.wp Try.prog (Code.block 0 _) _ a4 w4
 refine h5.pc (E:={ n:=83 }) [(4,.sl b1),(1,.ept ea 0)] rfl (fun F C D hF hC=>?_) fun S6 a6 w6 h6=>?_
 ·cbv
  refine ⟨Nat × Int × List (List AV),fun y=>{ slots:=[(26,aI y.2.1),(25,aI 19),(24,.sl rows),(4,.sl y.2.2),(1,.ept ea 0)],obs:=[],ctr:=0 },fun y=>y.2.1 = (y.1 : Int)∧y.1 ≤ 19∧y.2.2 = byR (numL (hs.take y.1)),fun y=>19 - y.1,⟨(0,0,[]),⟨rfl,Nat.zero_le _,rfl⟩,(le_of [] (by simp [leSl,leOb,injK,memK,parK,noTup,lk,rn0,rnA,plain] <;> first | rfl | decide | (repeat (first | rfl | trivial | refine And.intro ?_ ?_))))⟩,fun y hy=>?_⟩
  obtain ⟨i,i',bs⟩:=y
  obtain ⟨ei,hi,hbs⟩:=hy
  simp only at ei hi hbs
  have tl:=ltF hF i 19 i' 19 ei rfl
  by_cases hi19 : i < 19
  ·have tl : F .cmp .lss i' 19 = true:=tl.2 hi19
   obtain ⟨x,hx⟩:=hev i hi19
   have hrow : rows[i]? = some [aI x]:=by rw [hrows,intR,List.getElem?_map,hx]; rfl
   obtain ⟨u,hu⟩ : ∃ u : Int,u = ((uN x : Nat) : Int):=⟨_,rfl⟩
   have hw : F .wrp .u64 x = u:=(wrpN hF x).trans hu.symm
   have kp:=hC _ _ _ (put_ok (numL (hs.take i)) (by have:=numL_len (hs.take i); rw [List.length_take] at this; omega) (uN x) (uN_lt x))
   obtain ⟨b2,hb2⟩ : ∃ b2,b2 = byR (numL (hs.take i) ++ vlqL (uN x)):=⟨_,rfl⟩
   rw [← hbs,← hu,← hb2] at kp
   have hb3 : b2 = byR (numL (hs.take (i + 1))):=by rw [hb2,List.take_add_one,hx]; simp only [Option.toList_some]; rw [numL_snoc]
   obtain ⟨i2,hi2⟩ : ∃ i2,F .ar .add .i64 i' 1 = i2:=⟨_,rfl⟩
   have ei2 : i2 = ((i + 1 : Nat) : Int):=hi2.symm.trans (incF hF ei (by omega))
   have hmu : 19 - (i + 1) < 19 - i:=by omega
   clear hu hb2 hbs hev
   cbv
   refine bT (tl) ?_
   cbv
   refine ⟨i,_,ei,hrow,rfl,?_⟩
   cbv
   rw [hw]
   refine ⟨_,kp,?_⟩
   cbv
   rw [hi2]
   exact ⟨(i + 1,i2,b2),⟨ei2,hi19,hb3⟩,hmu,(le_of [] (by simp [leSl,leOb,injK,memK,parK,noTup,lk,rn0,rnA,plain] <;> first | rfl | decide | (repeat (first | rfl | trivial | refine And.intro ?_ ?_))))⟩
  ·have tl : F .cmp .lss i' 19 = false:=by rw [Bool.eq_false_iff]; exact fun h=>hi19 (tl.1 h)
   have hi9 : i = 19:=by omega
   have hbe : bs = b1:=by rw [hbs,hb1,hi9,← hlen,List.take_length]
   clear hbs hev
   subst hbe
   cbv
   refine bF (tl) ?_
   cbv
   exact ⟨100,(le_of [] (by simp [leSl,leOb,injK,memK,parK,noTup,lk,rn0,rnA,plain] <;> first | rfl | decide | (repeat (first | rfl | trivial | refine And.intro ?_ ?_))))⟩
 clear h5
 subst hea
 have hlen1 : (numL hs).length ≤ 190:=by have:=numL_len hs; rw [hlen] at this; omega
 have hlk:=vlq_len (uN e.op.kind) (uN_lt _)
 have txl : ∀ (s : ByteArray),s.size ≤ 100000→(txtL s).length ≤ s.size + 10:=fun s hs=>by
  have:=vlq_len s.size (by omega)
  unfold txtL
  rw [List.length_append,← L_size]
  omega
 show Code.wp Try.prog (Code.seq _ _) _ _ _
 refine wp_seq (h6.pc (E:={ n:=83 }) [(7,.ept e.op.ac 0),(4,.sl b1)] rfl (fun F C D hF hC=>?_) fun S7 a7 w7 h7=>?_)
 ·cbv
  exact ⟨100,(le_of [] (by simp [leSl,leOb,injK,memK,parK,noTup,lk,rn0,rnA,plain] <;> first | rfl | decide | (repeat (first | rfl | trivial | refine And.intro ?_ ?_))))⟩
 clear h6
 obtain ⟨⟨u1,u2,u3,u4,u5⟩,hU⟩ : ∃ U,U = usesU e.op.kind:=⟨_,rfl⟩
 show Code.wp Try.prog (Code.seq _ _) _ _ _
 refine wp_seq (h7.pc (E:={ n:=83 }) [(4,.sl b1),(8,.ept [aB u1,aB u2,aB u3,aB u4] 0),(7,.ept e.op.ac 0)] rfl (fun F C D hF hC=>?_) fun S8 a8 w8 h8=>?_)
 ·have ku:=hC _ _ _ (uses_ok e.op.kind ⟨u1,u2,u3,u4,u5⟩ hU)
  clear hU
  cbv
  refine ⟨_,ku,?_⟩
  cbv
  exact ⟨100,(le_of [] (by simp [leSl,leOb,injK,memK,parK,noTup,lk,rn0,rnA,plain] <;> first | rfl | decide | (repeat (first | rfl | trivial | refine And.intro ?_ ?_))))⟩
 clear h7
 show Code.wp Try.prog (Code.seq _ _) _ _ _
 obtain ⟨ad,had,hcell⟩:=h8.cells (t:=7) e.op.vs.toList rfl
 rw [hb1] at h8
 refine wp_seq (eo_region 83 rfl ad e.op.kind e.op.key (numL hs) (by omega) (by omega) S8 h8.hi.lt rfl (by kernel_rfl) h8.hi.size had (h8.hi.slots 4 _ rfl).2 (by have:=hcell 0 _ rfl; rwa [add00] at this) (hcell 1 _ rfl) fun a9 w9 S9 hz9 hd9 hg9 hr9 ho9=>?_)
 have h9:=(((((h8.dr rfl).reg hz9 hd9 eoShape rfl ho9).out hg9)).add (d:=4) (by decide) _ (srep_of_rep hr9))
 clear h8 hr9
 obtain ⟨l2,hl2⟩ : ∃ l,l = (numL hs ++ vlqL (uN e.op.kind)) ++ txtL e.op.key:=⟨_,rfl⟩
 have nl2 : l2.length ≤ 100220:=by rw [hl2,List.length_append,List.length_append]; have:=txl e.op.key (by omega); omega
 rw [← hl2] at h9
 obtain ⟨l3,hl3⟩ : ∃ l,l = l2 ++ (if u1 = true then txtL e.op.fld else []):=⟨_,rfl⟩
 have nl3 : l3.length ≤ l2.length + 100010:=by
  rw [hl3,List.length_append]
  cases u1 with
  | false=>simp
  | true=>rw [if_pos rfl]; have:=txl e.op.fld (by omega); omega
 show Code.wp Try.prog (Code.seq _ _) _ _ _
 refine wp_seq (h9.pc (E:={ n:=83 }) [(4,.sl (byR l3)),(8,.ept [aB u1,aB u2,aB u3,aB u4] 0),(7,.ept e.op.ac 0)] rfl (fun F C D hF hC=>?_) fun S10 a10 w10 h10=>?_)
 ·obtain ⟨r1,hr1⟩ : ∃ r1,r1 = byR l2:=⟨_,rfl⟩
  obtain ⟨r2,hr2⟩ : ∃ r2,r2 = byR l3:=⟨_,rfl⟩
  rw [← hr1,← hr2]
  cases u1 with
  | true =>
   have kp:=hC _ _ _ (putText_ok l2 (by omega) e.op.fld (by omega))
   rw [if_pos rfl] at hl3
   rw [← hl3,← hr2,← hr1] at kp
   clear hr1 hr2 hl3 hU
   cbv
   refine bT (rfl) ?_
   cbv
   refine ⟨_,kp,?_⟩
   cbv
   exact ⟨100,(le_of [] (by simp [leSl,leOb,injK,memK,parK,noTup,lk,rn0,rnA,plain] <;> first | rfl | decide | (repeat (first | rfl | trivial | refine And.intro ?_ ?_))))⟩
  | false =>
   have : r2 = r1:=by rw [hr2,hr1,hl3,if_neg (by simp),List.append_nil]
   subst this
   clear hr1 hr2 hl3 hU
   cbv
   refine bF (rfl) ?_
   cbv
   exact ⟨100,(le_of [] (by simp [leSl,leOb,injK,memK,parK,noTup,lk,rn0,rnA,plain] <;> first | rfl | decide | (repeat (first | rfl | trivial | refine And.intro ?_ ?_))))⟩
 obtain ⟨l4,hl4⟩ : ∃ l,l = l3 ++ (if u2 = true then txtL e.op.val else []):=⟨_,rfl⟩
 have nl4 : l4.length ≤ l3.length + 100010:=by
  rw [hl4,List.length_append]
  cases u2 with
  | false=>simp
  | true=>rw [if_pos rfl]; have:=txl e.op.val (by omega); omega
 show Code.wp Try.prog (Code.seq _ _) _ _ _
 refine wp_seq (h10.pc (E:={ n:=83 }) [(4,.sl (byR l4)),(8,.ept [aB u1,aB u2,aB u3,aB u4] 0),(7,.ept e.op.ac 0)] rfl (fun F C D hF hC=>?_) fun S11 a11 w11 h11=>?_)
 ·obtain ⟨r1,hr1⟩ : ∃ r1,r1 = byR l3:=⟨_,rfl⟩
  obtain ⟨r2,hr2⟩ : ∃ r2,r2 = byR l4:=⟨_,rfl⟩
  rw [← hr1,← hr2]
  cases u2 with
  | true =>
   have kp:=hC _ _ _ (putText_ok l3 (by omega) e.op.val (by omega))
   rw [if_pos rfl] at hl4
   rw [← hl4,← hr2,← hr1] at kp
   clear hr1 hr2 hl4 hU
   cbv
   refine bT (rfl) ?_
   cbv
   refine ⟨_,kp,?_⟩
   cbv
   exact ⟨100,(le_of [] (by simp [leSl,leOb,injK,memK,parK,noTup,lk,rn0,rnA,plain] <;> first | rfl | decide | (repeat (first | rfl | trivial | refine And.intro ?_ ?_))))⟩
  | false =>
   have : r2 = r1:=by rw [hr2,hr1,hl4,if_neg (by simp),List.append_nil]
   subst this
   clear hr1 hr2 hl4 hU
   cbv
   refine bF (rfl) ?_
   cbv
   exact ⟨100,(le_of [] (by simp [leSl,leOb,injK,memK,parK,noTup,lk,rn0,rnA,plain] <;> first | rfl | decide | (repeat (first | rfl | trivial | refine And.intro ?_ ?_))))⟩
 obtain ⟨l5,hl5⟩ : ∃ l,l = l4 ++ (if u3 = true then vlqL (zz e.op.num) else []):=⟨_,rfl⟩
 have nl5 : l5.length ≤ l4.length + 10:=by
  rw [hl5,List.length_append]
  cases u3 with
  | false=>simp
  | true=>rw [if_pos rfl]; have:=vlq_len (zz e.op.num) (by unfold zz; split <;> omega); omega
 show Code.wp Try.prog (Code.seq _ _) _ _ _
 refine wp_seq (h11.pc (E:={ n:=83 }) [(4,.sl (byR l5)),(8,.ept [aB u1,aB u2,aB u3,aB u4] 0),(7,.ept e.op.ac 0)] rfl (fun F C D hF hC=>?_) fun S12 a12 w12 h12=>?_)
 ·obtain ⟨r1,hr1⟩ : ∃ r1,r1 = byR l4:=⟨_,rfl⟩
  obtain ⟨r2,hr2⟩ : ∃ r2,r2 = byR l5:=⟨_,rfl⟩
  rw [← hr1,← hr2]
  cases u3 with
  | true =>
   have kp:=hC _ _ _ (putInt_ok l4 (by omega) e.op.num hn0 hn1)
   rw [if_pos rfl] at hl5
   rw [← hl5,← hr2,← hr1] at kp
   clear hr1 hr2 hl5 hU
   cbv
   refine bT (rfl) ?_
   cbv
   refine ⟨_,kp,?_⟩
   cbv
   exact ⟨100,(le_of [] (by simp [leSl,leOb,injK,memK,parK,noTup,lk,rn0,rnA,plain] <;> first | rfl | decide | (repeat (first | rfl | trivial | refine And.intro ?_ ?_))))⟩
  | false =>
   have : r2 = r1:=by rw [hr2,hr1,hl5,if_neg (by simp),List.append_nil]
   subst this
   clear hr1 hr2 hl5 hU
   cbv
   refine bF (rfl) ?_
   cbv
   exact ⟨100,(le_of [] (by simp [leSl,leOb,injK,memK,parK,noTup,lk,rn0,rnA,plain] <;> first | rfl | decide | (repeat (first | rfl | trivial | refine And.intro ?_ ?_))))⟩
 clear h9 h10 h11
 show Code.wp Try.prog (Code.seq _ _) _ _ _
 refine wp_seq (wp_seq (h12.pc (E:={ n:=83 }) [(52 + 18,aB u4),(4,.sl (byR l5)),(7,.ept e.op.ac 0)] rfl (fun F C D hF hC=>?_) fun S13 a13 w13 h13=>?_))
 ·obtain ⟨r1,hr1⟩ : ∃ r1,r1 = byR l5:=⟨_,rfl⟩
  rw [← hr1]
  clear hr1 hU
  cbv
  exact ⟨100,(le_of [] (by simp [leSl,leOb,injK,memK,parK,noTup,lk,rn0,rnA,plain] <;> first | rfl | decide | (repeat (first | rfl | trivial | refine And.intro ?_ ?_))))⟩
 clear h12
 have t70 : a13.eval (.tmp 70) = .bool u4:=h13.val rfl
 obtain ⟨l6,hl6⟩ : ∃ l,l = l5 ++ (if u4 = true then vlqL (uN e.op.ref.R) ++ vlqL (uN e.op.ref.N) else []):=⟨_,rfl⟩
 show Code.wp Try.prog (Code.cond _ _ _) _ _ _
 refine wp_mono (Q:=fun ex a' w'=>ex = .normal∧∃ S',PS 83 w S [(4,.sl (byR l6))] S' a' w') ?_ fun ex a14 w14 hh=>?_
 ·cases u4 with
  | false =>
   refine wp_cond_false t70 (wp_skip ⟨rfl,S13,?_⟩)
   rw [hl6,if_neg (by simp),List.append_nil]
   exact (h13.dr rfl).sub (first1 rfl)
  | true =>
   obtain ⟨ad2,had2,hcell2⟩:=h13.cells (t:=7) e.op.vs.toList rfl
   refine wp_cond_true t70 (ro_region 83 rfl ad2 e.op.ref.R e.op.ref.N l5 (by omega) S13 h13.hi.lt rfl (by kernel_rfl) h13.hi.size had2 (h13.hi.slots 4 _ rfl).2 (hcell2 5 _ rfl) (hcell2 6 _ rfl) fun a15 w15 S15 hz15 hd15 hg15 hr15 ho15=>?_)
   have h15:=(((((h13.dr rfl).dr rfl).reg hz15 hd15 roShape rfl ho15).out hg15)).add (d:=4) (by decide) _ (srep_of_rep hr15)
   refine ⟨rfl,S15,?_⟩
   rw [hl6,if_pos rfl,← List.append_assoc]
   exact h15.sub (first1 rfl)
 obtain ⟨rfl,S14,h14⟩:=hh
 clear h13
 have hend : l6 = encL e:=by
  have e1 : u1 = (usesU e.op.kind).f:=congrArg Us.f hU
  have e2 : u2 = (usesU e.op.kind).v:=congrArg Us.v hU
  have e3 : u3 = (usesU e.op.kind).n:=congrArg Us.n hU
  have e4 : u4 = (usesU e.op.kind).r:=congrArg Us.r hU
  rw [hl6,hl5,hl4,hl3,hl2,hhs,encL,e1,e2,e3,e4]
 rw [hend] at h14
 obtain ⟨out,hout⟩ : ∃ r,r = byR (encL e):=⟨_,rfl⟩
 rw [← hout] at h14 ⊢
 show Code.wp Try.prog (Code.seq _ _) _ _ _
 refine wp_seq (h14.pc (E:={ n:=83 }) [(2,.sl out),(3,aI 0)] rfl (fun F C D hF hC=>?_) fun S16 a16 w16 h16=>?_)
 ·cbv
  exact ⟨100,(le_of [] (by simp [leSl,leOb,injK,memK,parK,noTup,lk,rn0,rnA,plain] <;> first | rfl | decide | (repeat (first | rfl | trivial | refine And.intro ?_ ?_))))⟩
 refine wp_ret ?_
 obtain ⟨q1,q2⟩:=h16.hi.slots 2 _ rfl
 obtain ⟨q3,q4⟩:=h16.hi.slots 3 _ rfl
 exact bodyPost_ret (results_tmp2 rfl _ _ _) h16.hi.defers ⟨_,S16,rfl,h16.gr,[_,_],rfl,Reps.cons q2 (Reps.cons q4 (Reps.nil _ _))⟩
end Go.Proofs.Ytdnaadcbimbfmaa
namespace Go.Proofs.Ytdnaadcbimbfmaa
open Go Go.RowKit Am
theorem push_all (l : List UInt8) : ∀ s : ByteArray,((l.map fun b : UInt8=>(b.toNat : Int)).foldl (fun r n=>r.push (UInt8.ofNat n.toNat)) s) = BA (L s ++ l):=by
 induction l with
 | nil=>intro s; simp [BA_L]
 | cons b l ih =>
  intro s
  simp only [List.map_cons,List.foldl_cons]
  rw [ih]
  congr 1
  have : L (s.push (UInt8.ofNat ((b.toNat : Int).toNat))) = L s ++ [b]:=by simp [L,ByteArray.push]
  rw [this]; simp
theorem bs_ok (l : List UInt8) (rows : List (List AV)) (hr : rows = byR l) (r : ByteArray) (hrr : r = BA l) : CSem Try.prog (.conv 53 9) [.sl rows] (.pure [aS r]):=by
 subst hr hrr
 refine ⟨_,rfl,fun w S x hS hx=>⟨.string (BA l),w,S,?_,Gr.refl hS,[_],rfl,Reps.cons (.c (.v _ rfl)) (Reps.nil _ _)⟩⟩
 have hx : RepC w S (.sl (byR l)) x:=by cases hx with | c h=>exact h
 generalize hR : byR l = rows at hx
 cases hx with
 | nil a c hn =>
  have : l = []:=by cases l <;> simp [byR] at hR; rfl
  subst this
  rw [run_convert_bytes_string (P:=Try.prog) w 53 9 5 a 0 c (by kernel_rfl) (by kernel_rfl) (by kernel_rfl)]
  cases a with
  | none=>rfl
  | some a =>
   have:=run_bytesToString (P:=Try.prog) w a 0 c [] (by simp [loadCells,loadCellsFrom])
   rw [this]; rfl
 | sl rows a c sz f ha hlen hc hm h h' =>
  rw [run_convert_bytes_string (P:=Try.prog) w 53 9 5 (some a) rows.length c (by kernel_rfl) (by kernel_rfl) (by kernel_rfl)]
  have hlen2 : rows.length = (l.map fun b : UInt8=>Value.int .u8 (b.toNat : Int)).length:=by rw [← hR]; simp [byR]
  have hl:=run_loadCells_ok (P:=Try.prog) (w:=w) (b:=a) (xs:=l.map fun b : UInt8=>Value.int .u8 (b.toNat : Int)) (fun j x hj=>?_)
  ·rw [← hlen2] at hl
   have e1 : (l.map fun b : UInt8=>Value.int .u8 (b.toNat : Int)) = (l.map fun b : UInt8=>(b.toNat : Int)).map (Value.int .u8):=by simp
   rw [e1] at hl
   rw [run_bytesToString (P:=Try.prog) w a rows.length c _ hl,push_all]
   rfl
  ·rw [List.getElem?_map] at hj
   cases hb : l[j]? with
   | none=>rw [hb] at hj; simp at hj
   | some b =>
    rw [hb] at hj
    injection hj with hj
    subst hj
    have hrow : rows[j]? = some [aU b.toNat]:=by rw [← hR]; exact byR_get hb
    have hsz : sz = 1:=(hlen _ (List.mem_of_getElem? hrow)).symm
    subst hsz
    have h1:=h j _ hrow 0 _ rfl
    have h2:=h' j _ hrow 0 _ rfl
    rw [Nat.mul_one,Nat.add_zero] at h1
    rw [h1]
    generalize f j 0 = y at h2
    cases h2
    rfl
theorem encL_len (e : Ev) (hz : e.op.key.size + e.op.fld.size + e.op.val.size ≤ 100000) (n0 : -9223372036854775808 ≤ e.op.num) (n1 : e.op.num ≤ 9223372036854775807) : (encL e).length ≤ e.op.key.size + e.op.fld.size + e.op.val.size + 300:=by
 have h1:=numL_len (hdrI e)
 have h1' : (hdrI e).length = 19:=rfl
 have h2:=vlq_len (uN e.op.kind) (uN_lt _)
 have txl : ∀ (s : ByteArray),s.size ≤ 100000→(txtL s).length ≤ s.size + 10:=fun s hs=>by
  have:=vlq_len s.size (by omega)
  unfold txtL
  rw [List.length_append,← L_size]
  omega
 have h3:=txl e.op.key (by omega)
 have h4 : (if (usesU e.op.kind).f = true then txtL e.op.fld else []).length ≤ e.op.fld.size + 10:=by split; exact txl _ (by omega); simp
 have h5 : (if (usesU e.op.kind).v = true then txtL e.op.val else []).length ≤ e.op.val.size + 10:=by split; exact txl _ (by omega); simp
 have h6 : (if (usesU e.op.kind).n = true then vlqL (zz e.op.num) else []).length ≤ 20:=by
  split
  ·have:=vlq_len (zz e.op.num) (by unfold zz; split <;> omega); omega
  ·simp
 have h7 : (if (usesU e.op.kind).r = true then vlqL (uN e.op.ref.R) ++ vlqL (uN e.op.ref.N) else []).length ≤ 20:=by
  split
  ·have:=vlq_len _ (uN_lt e.op.ref.R); have:=vlq_len _ (uN_lt e.op.ref.N); rw [List.length_append]; omega
  ·simp
 unfold encL
 simp only [List.length_append]
 omega
def evtL (e : Ev) : List UInt8:=txtL (BA (encL e))
structure EvOK (e : Ev) : Prop where
 rt : RightP e
 sz : e.op.key.size + e.op.fld.size + e.op.val.size ≤ 1000
 n0 : -9223372036854775808 ≤ e.op.num
 n1 : e.op.num ≤ 9223372036854775807
theorem evtL_len (e : Ev) (he : EvOK e) : (evtL e).length ≤ 1320:=by
 have h1:=encL_len e (by have:=he.sz; omega) he.n0 he.n1
 have h2:=he.sz
 have hs : (BA (encL e)).size = (encL e).length:=by show (encL e).toArray.size = _; simp
 have h3:=vlq_len (BA (encL e)).size (by omega)
 unfold evtL txtL
 rw [List.length_append,← L_size]
 omega
set_option maxRecDepth 100000 in
theorem putEvent_ok (l : List UInt8) (hl : l.length ≤ 39000000) (e : Ev) (he : EvOK e) : CSem Try.prog (.fn 22) [.sl (byR l),.agg e.ac] (.own 5 1 (byR (l ++ evtL e)) []):=by
 obtain ⟨rows,hrows⟩ : ∃ rows,rows = byR l:=⟨_,rfl⟩
 obtain ⟨out,hout⟩ : ∃ out,out = byR (l ++ evtL e):=⟨_,rfl⟩
 obtain ⟨bb,hbb⟩ : ∃ bb,bb = byR (encL e):=⟨_,rfl⟩
 obtain ⟨s,hs⟩ : ∃ s,s = BA (encL e):=⟨_,rfl⟩
 obtain ⟨ea,hea⟩ : ∃ ea,ea = e.ac:=⟨_,rfl⟩
 have hlen : ea.length = 26:=by rw [hea]; rfl
 have h1:=eEncode_ok e he.rt (by have:=he.sz; omega) he.n0 he.n1
 have h2:=bs_ok (encL e) bb hbb s hs
 have h3:=putText_ok l (by omega) s (by rw [hs]; show (encL e).toArray.size ≤ _; have:=encL_len e (by have:=he.sz; omega) he.n0 he.n1; have:=he.sz; simp; omega)
 rw [hs,← evtL,← hs,← hrows,← hout] at h3
 rw [← hbb] at h1
 rw [← hrows,← hout]
 refine of_text gam_ok mixed { n:=16,keep:=[15] } Try.func22 (by kernel_rfl) rfl rfl (by simp) (by decide) fun F C D hF hC hD=>?_
 have k1:=hC _ _ _ h1
 have k2:=hC _ _ _ h2
 have k3:=hC _ _ _ h3
 clear h1 h2 h3 hrows hout hbb hs hea hlen
 cbv
 refine ⟨_,k1,?_⟩
 cbv
 refine ⟨_,k2,?_⟩
 cbv
 refine ⟨_,_,_,_,k3,?_⟩
 cbv
end Go.Proofs.Ytdnaadcbimbfmaa
namespace Go.Proofs.Ytdnaadcbimbfmaa
open Go Go.RowKit Am
section
variable {n : Nat} {w0 w w' : World} {sl sl' : List (Nat × AV)} {S0 S S' : Nat→Prop} {a a' : Act}
theorem PS.pcg {E : En} {c : Code} {R : Exit→Act→World→Prop} (sl' : List (Nat × AV)) (h : PS E.n w0 S0 sl S a w) (hsl : (sl'.all fun q=>fzA q.2) = true)
  (hw : ∀ (F : Sy) (C : Key→List AV→Res→Prop) (D : Code→(AE→St→Prop)→St→Prop),F = sy→(∀ k ar r,CSem Try.prog k ar r→C k ar r)→awp F C D E c (fun e s=>match e with | .normal=>∃ ct,Le s { slots:=sl',obs:=[],ctr:=ct } | _=>False) { slots:=sl,obs:=[],ctr:=0 })
  (k : ∀ S' a' w',PS E.n w0 S0 sl' S' a' w'→Gr w S w' S'→R .normal a' w') : c.wp Try.prog R a w :=
 Ytdnaadcbimbfmaa.pc sl' h.hi (fun q hq=>List.all_eq_true.1 hsl q hq) hw fun S' a' w' h1 h2=>k S' a' w' ⟨h1,h.gr.trans h2⟩ h2
theorem PS.pclg {E : En} {ops : Array Oper} {rest : List Oper} {R : Exit→Act→World→Prop} (sl' : List (Nat × AV)) (h : PS E.n w0 S0 sl S a w) (hsl : (sl'.all fun q=>fzA q.2) = true)
  (hw : ∀ (F : Sy) (C : Key→List AV→Res→Prop),F = sy→(∀ k ar r,CSem Try.prog k ar r→C k ar r)→aops F C E ops.toList rest (fun s=>∃ ct,Le s { slots:=sl',obs:=[],ctr:=ct }) { slots:=sl,obs:=[],ctr:=0 })
  (k : ∀ S' a' w',PS E.n w0 S0 sl' S' a' w'→Gr w S w' S'→R .normal a' w') : wpList Try.prog ops R rest a w :=
 Ytdnaadcbimbfmaa.pcl sl' h.hi (fun q hq=>List.all_eq_true.1 hsl q hq) hw fun S' a' w' h1 h2=>k S' a' w' ⟨h1,h.gr.trans h2⟩ h2
theorem PS.preg {E : En} {ops : Array Oper} {l : List Oper} {R : Exit→Act→World→Prop} (m : Nat) (sl' : List (Nat × AV)) (h : PS E.n w0 S0 sl S a w) (hsl : (sl'.all fun q=>fzA q.2) = true)
  (hw : ∀ (F : Sy) (C : Key→List AV→Res→Prop),F = sy→(∀ k ar r,CSem Try.prog k ar r→C k ar r)→aops F C E ops.toList (l.take m) (fun s=>∃ ct,Le s { slots:=sl',obs:=[],ctr:=ct }) { slots:=sl,obs:=[],ctr:=0 })
  (k : ∀ S' a' w',PS E.n w0 S0 sl' S' a' w'→Gr w S w' S'→wpList Try.prog ops R (l.drop m) a' w') : wpList Try.prog ops R l a w :=
 wpList_pre m (h.pclg sl' hsl hw fun S' a' w' h' hg=>k S' a' w' h' hg)
end
theorem bNewE_W (w : World) : Calls Try.prog 43 #[] w fun r w'=>r = .returned (.pointer (some ⟨w.heap.size,0,none⟩))∧w' = w.alloc (.cells #[.slice none 0 0] 77):=by
 have h1 : (Instr.build 77 #[]).run Try.prog w = .ok (.agg #[.slice none 0 0]) w:=by kernel_rfl
 go_enter Try.func43,Try.ntmps43
 go_wp2
 go_ret
 exact ⟨rfl,rfl⟩
theorem bNewT_W (w : World) : Calls Try.prog 44 #[] w fun r w'=>r = .returned (.pointer (some ⟨w.heap.size,0,none⟩))∧w' = w.alloc (.cells #[.slice none 0 0] 79):=by
 have h1 : (Instr.build 79 #[]).run Try.prog w = .ok (.agg #[.slice none 0 0]) w:=by kernel_rfl
 go_enter Try.func44,Try.ntmps44
 go_wp2
 go_ret
 exact ⟨rfl,rfl⟩
theorem rise_ext {α : Type} {d : α→Dt} {l m : List α} (hl : Rise d l) (hm : Rise d m) (h : ∀ a,a ∈ l ↔ a ∈ m) : l = m:=by
 have nd : ∀ {k : List α},Rise d k→k.Nodup:=fun {k} hk=>by
  have:=rise_nodup hk
  exact (List.pairwise_map.1 this).imp fun h e=>h (by rw [e])
 exact rise_perm hl hm ((List.perm_ext_iff_of_nodup (nd hl) (nd hm)).2 h)
structure BG (B : Nat) (S : Nat→Prop) (o : Nat→Option Nat) (b1 b2 : Nat) (v1 v2 : Value) (l1 : List Ev) (l2 : List ElT) (w : World) : Prop where
 dom : ∀ g t,o g = some t→B ≤ g∧g < w.heap.size∧¬ S g
 o1 : o b1 = some 1
 o2 : o b2 = some 2
 w1 : ∀ g,v1.ownBlock = some g→o g = some 1
 w2 : ∀ g,v2.ownBlock = some g→o g = some 2
 c1 : w.heap[b1]? = some (.cells #[v1] 77 (0,0))
 c2 : w.heap[b2]? = some (.cells #[v2] 79 (0,0))
 r1 : w.ownsRow 0 65 28 v1 l1.length (l1.map itvE).flatten
 r2 : w.ownsRow 0 72 30 v2 l2.length (l2.map itvT).flatten
 n1 : v1.ownBlock ≠ some b1
 n2 : v2.ownBlock ≠ some b2
section
variable {B b1 b2 : Nat} {S S' : Nat→Prop} {o : Nat→Option Nat} {v1 v2 : Value} {l1 : List Ev} {l2 : List ElT} {w w' : World}
theorem BG.grow (h : BG B S o b1 b2 v1 v2 l1 l2 w) (hg : Gr w S w' S') : BG B S' o b1 b2 v1 v2 l1 l2 w':=by
 have hb : ∀ g t,o g = some t→w'.heap[g]? = w.heap[g]?:=fun g t hg'=>hg.below.block g (h.dom g t hg').2.1
 exact ⟨fun g t hg'=>⟨(h.dom g t hg').1,Nat.lt_of_lt_of_le (h.dom g t hg').2.1 hg.below.size,fun hs=>(hg.new g hs).elim (h.dom g t hg').2.2 fun h2=>by have:=(h.dom g t hg').2.1; omega⟩,h.o1,h.o2,h.w1,h.w2,(hb _ _ h.o1).trans h.c1,(hb _ _ h.o2).trans h.c2,ownsRow.keep h.r1 fun g hg'=>hb g _ (h.w1 g hg'),ownsRow.keep h.r2 fun g hg'=>hb g _ (h.w2 g hg'),h.n1,h.n2⟩
theorem BG.bag1 (h : BG B S o b1 b2 v1 v2 l1 l2 w) : BagAt w 65 28 b1 0 v1 l1.length (l1.map itvE).flatten∧w.frozen? ⟨b1,0,none⟩ = false:=⟨⟨by rw [cell_of_row _ _ 0 _ _ _ h.c1]; rfl,h.r1,h.n1⟩,by simp [World.frozen?,h.c1]⟩
theorem BG.bag2 (h : BG B S o b1 b2 v1 v2 l1 l2 w) : BagAt w 72 30 b2 0 v2 l2.length (l2.map itvT).flatten∧w.frozen? ⟨b2,0,none⟩ = false:=⟨⟨by rw [cell_of_row _ _ 0 _ _ _ h.c2]; rfl,h.r2,h.n2⟩,by simp [World.frozen?,h.c2]⟩
theorem BG.put1 (h : BG B S o b1 b2 v1 v2 l1 l2 w) (hB : B ≤ w.heap.size) (hS : ∀ g,S g→g < w.heap.size) {v' : Value} {l' : List Ev} (hb : BagAt w' 65 28 b1 0 v' l'.length (l'.map itvE).flatten) (hk : BagK b1 0 v1 v' w w') : ∃ o',BG B S o' b1 b2 v' v2 l' l2 w'∧(∀ g t,o g = some t→o' g = some t)∧(∀ g,g < w.heap.size→o g ≠ some 1→w'.heap[g]? = w.heap[g]?):=by
 have hold : ∀ g,g < w.heap.size→o g ≠ some 1→w'.heap[g]? = w.heap[g]?:=fun g hg hn=>hk.block g hg (fun e=>hn (e ▸ h.o1)) (fun e=>hn (h.w1 g e))
 have hnb : ∀ g,v'.ownBlock = some g→o g = some 1 ∨ (o g = none∧w.heap.size ≤ g):=fun g hg=>by
  rcases hk.own with e | e
  ·exact .inl (h.w1 g (e ▸ hg))
  ·have:=e g hg
   refine .inr ⟨?_,this⟩
   cases hog : o g with
   | none=>rfl
   | some t=>have:=(h.dom g t hog).2.1; omega
 have hx : ∀ g t,o g = some t→(if v'.ownBlock = some g then some 1 else o g) = some t:=fun g t hg=>by
  split
  ·rename_i e
   rcases hnb g e with h1 | ⟨h1,_⟩
   ·rw [h1] at hg; exact hg
   ·rw [h1] at hg; cases hg
  ·exact hg
 refine ⟨fun g=>if v'.ownBlock = some g then some 1 else o g,⟨fun g t hg=>?_,hx _ _ h.o1,hx _ _ h.o2,fun g hg=>if_pos hg,fun g hg=>hx _ _ (h.w2 g hg),?_,?_,hb.own,ownsRow.keep h.r2 fun g hg=>hold g (h.dom g _ (h.w2 g hg)).2.1 (by rw [h.w2 g hg]; simp),hb.ne,h.n2⟩,hx,hold⟩
 ·have hg : (if v'.ownBlock = some g then some 1 else o g) = some t:=hg
  split at hg
  ·rename_i e
   have hlt:=hb.blk g e
   rcases hnb g e with h1 | ⟨_,h1⟩
   ·exact ⟨(h.dom g _ h1).1,hlt,(h.dom g _ h1).2.2⟩
   ·exact ⟨by omega,hlt,fun hs=>by have:=hS g hs; omega⟩
  ·exact ⟨(h.dom g t hg).1,Nat.lt_of_lt_of_le (h.dom g t hg).2.1 hk.size,(h.dom g t hg).2.2⟩
 ·exact hk.blk _ _ _ h.c1
 ·exact (hold b2 (h.dom _ _ h.o2).2.1 (by rw [h.o2]; simp)).trans h.c2
theorem BG.put2 (h : BG B S o b1 b2 v1 v2 l1 l2 w) (hB : B ≤ w.heap.size) (hS : ∀ g,S g→g < w.heap.size) {v' : Value} {l' : List ElT} (hb : BagAt w' 72 30 b2 0 v' l'.length (l'.map itvT).flatten) (hk : BagK b2 0 v2 v' w w') : ∃ o',BG B S o' b1 b2 v1 v' l1 l' w'∧(∀ g t,o g = some t→o' g = some t)∧(∀ g,g < w.heap.size→o g ≠ some 2→w'.heap[g]? = w.heap[g]?):=by
 have hold : ∀ g,g < w.heap.size→o g ≠ some 2→w'.heap[g]? = w.heap[g]?:=fun g hg hn=>hk.block g hg (fun e=>hn (e ▸ h.o2)) (fun e=>hn (h.w2 g e))
 have hnb : ∀ g,v'.ownBlock = some g→o g = some 2 ∨ (o g = none∧w.heap.size ≤ g):=fun g hg=>by
  rcases hk.own with e | e
  ·exact .inl (h.w2 g (e ▸ hg))
  ·have:=e g hg
   refine .inr ⟨?_,this⟩
   cases hog : o g with
   | none=>rfl
   | some t=>have:=(h.dom g t hog).2.1; omega
 have hx : ∀ g t,o g = some t→(if v'.ownBlock = some g then some 2 else o g) = some t:=fun g t hg=>by
  split
  ·rename_i e
   rcases hnb g e with h1 | ⟨h1,_⟩
   ·rw [h1] at hg; exact hg
   ·rw [h1] at hg; cases hg
  ·exact hg
 refine ⟨fun g=>if v'.ownBlock = some g then some 2 else o g,⟨fun g t hg=>?_,hx _ _ h.o1,hx _ _ h.o2,fun g hg=>hx _ _ (h.w1 g hg),fun g hg=>if_pos hg,?_,?_,ownsRow.keep h.r1 fun g hg=>hold g (h.dom g _ (h.w1 g hg)).2.1 (by rw [h.w1 g hg]; simp),hb.own,h.n1,hb.ne⟩,hx,hold⟩
 ·have hg : (if v'.ownBlock = some g then some 2 else o g) = some t:=hg
  split at hg
  ·rename_i e
   have hlt:=hb.blk g e
   rcases hnb g e with h1 | ⟨_,h1⟩
   ·exact ⟨(h.dom g _ h1).1,hlt,(h.dom g _ h1).2.2⟩
   ·exact ⟨by omega,hlt,fun hs=>by have:=hS g hs; omega⟩
  ·exact ⟨(h.dom g t hg).1,Nat.lt_of_lt_of_le (h.dom g t hg).2.1 hk.size,(h.dom g t hg).2.2⟩
 ·exact (hold b1 (h.dom _ _ h.o1).2.1 (by rw [h.o1]; simp)).trans h.c1
 ·exact hk.blk _ _ _ h.c2
end
theorem PS.outK {n : Nat} {w0 w w' : World} {S0 S : Nat→Prop} {sl : List (Nat × AV)} {a : Act} {o : Nat→Option Nat} (h : PS n w0 S0 sl S a w) (hd : ∀ g t,o g = some t→w0.heap.size ≤ g∧g < w.heap.size∧¬ S g) (hos : w'.os = w.os) (ht : w'.tape = w.tape) (hout : w'.output = w.output) (hz : w.heap.size ≤ w'.heap.size) (t : Nat) (hold : ∀ g,g < w.heap.size→o g ≠ some t→w'.heap[g]? = w.heap[g]?) : PS n w0 S0 sl S a w' :=
 ⟨h.hi.out (fun g hg=>hold g (h.hi.lt g hg) fun e=>(hd g _ e).2.2 hg) hz,⟨⟨hos.trans h.gr.below.os,ht.trans h.gr.below.tape,hout.trans h.gr.below.output,Nat.le_trans h.gr.below.size hz,fun k hk=>(hold k (Nat.lt_of_lt_of_le hk h.gr.below.size) fun e=>by have:=(hd k _ e).1; omega).trans (h.gr.below.block k hk)⟩,h.gr.sub,h.gr.new,fun g hg=>Nat.lt_of_lt_of_le (h.gr.lt g hg) hz⟩⟩
end Go.Proofs.Ytdnaadcbimbfmaa
namespace Go.Proofs.Ytdnaadcbimbfmaa
open Go Go.RowKit Am
theorem BG.same {B b1 b2 : Nat} {S : Nat→Prop} {o : Nat→Option Nat} {v1 v2 : Value} {l1 : List Ev} {l2 : List ElT} {w w' : World} (h : BG B S o b1 b2 v1 v2 l1 l2 w) (hw : ∀ g t,o g = some t→t ≠ 3→w'.heap[g]? = w.heap[g]?) (hz : w.heap.size ≤ w'.heap.size) : BG B S o b1 b2 v1 v2 l1 l2 w' :=
 ⟨fun g t hg=>⟨(h.dom g t hg).1,Nat.lt_of_lt_of_le (h.dom g t hg).2.1 hz,(h.dom g t hg).2.2⟩,h.o1,h.o2,h.w1,h.w2,(hw _ _ h.o1 (by decide)).trans h.c1,(hw _ _ h.o2 (by decide)).trans h.c2,ownsRow.keep h.r1 fun g hg=>hw g _ (h.w1 g hg) (by decide),ownsRow.keep h.r2 fun g hg=>hw g _ (h.w2 g hg) (by decide),h.n1,h.n2⟩
structure IT (σ : Sp) (S : Nat→Prop) (o : Nat→Option Nat) (r m : Nat) (es : Array MapEntry) (clock : Nat) (seen : Array Nat) (w : World) : Prop where
 or' : o r = some 3
 it : w.heap[r]? = some (.mapIter (some m) clock seen clock)
 sm : S m
 mp : w.heap[m]? = some (.map es clock)
 len : es.toList.length = σ.es.length
 nd : (es.toList.map (·.born)).Nodup
 lt : ∀ x ∈ es.toList,x.born < clock
 rep : ∀ (i : Nat) (en : Ent) (e : MapEntry),σ.es[i]? = some en→es.toList[i]? = some e→Rep w S (.ept [.sl (en.lv.map itE),.sl (en.dd.map itT)] 0) e.val
theorem IT.mono {σ : Sp} {S S' : Nat→Prop} {o o' : Nat→Option Nat} {r m clock : Nat} {es : Array MapEntry} {seen : Array Nat} {w w' : World} (h : IT σ S o r m es clock seen w) (ho : o' r = some 3) (hr : w'.heap[r]? = w.heap[r]?) (hw : SameOn S w w') (hS : ∀ g,S g→S' g) : IT σ S' o' r m es clock seen w' :=
 ⟨ho,hr.trans h.it,hS _ h.sm,(hw _ h.sm).trans h.mp,h.len,h.nd,h.lt,fun i en e h1 h2=>(h.rep i en e h1 h2).mono hw hS⟩
theorem rep_lv {w : World} {S : Nat→Prop} {a b : AV} {y : Value} (h : Rep w S (.ept [a,b] 0) y) : ∃ ad,y = .pointer (some ad)∧Rep w S (.ept [a] 0) (.pointer (some (ad.add 0)))∧Rep w S (.ept [b] 0) (.pointer (some (ad.add 1))):=by
 obtain ⟨ad,rfl,h1,h2⟩:=Rep.ept_inv h
 have f1 : CellsAt w S ad [a]:=⟨h1,fun i u hu=>by
  match i with
  | 0=>exact h2 0 u hu
  | i + 1=>simp at hu⟩
 have f2 : CellsAt w S (ad.add 1) [b]:=⟨by rw [add_blk]; exact h1,fun i u hu=>by
  match i with
  | 0=>rw [add00]; exact h2 1 u hu
  | i + 1=>simp at hu⟩
 have g1:=Rep.ept (off:=0) f1
 have g2:=Rep.ept (off:=0) f2
 refine ⟨ad,by rw [add00],by rw [add00] at g1 ⊢; exact g1,by rw [add00] at g2; exact g2⟩
theorem mem_step {α : Type} {σ : Sp} {es : Array MapEntry} {seen : Array Nat} {e : MapEntry} {i : Nat} {en : Ent} {f : Ent→List α} {l l' : List α} (hnd : (es.toList.map (·.born)).Nodup) (hie : es.toList[i]? = some e) (hen : σ.es[i]? = some en)
  (h : ∀ x,x ∈ l ↔ ∃ (i : Nat) (en : Ent),σ.es[i]? = some en∧(∃ e : MapEntry,es.toList[i]? = some e∧seen.contains e.born = true)∧x ∈ f en) (h' : ∀ x,x ∈ l' ↔ x ∈ l ∨ ∃ j,j < (f en).length∧(f en)[j]? = some x) :
  ∀ x,x ∈ l' ↔ ∃ (i : Nat) (en : Ent),σ.es[i]? = some en∧(∃ e' : MapEntry,es.toList[i]? = some e'∧(seen.push e.born).contains e'.born = true)∧x ∈ f en:=fun x=>by
 rw [h',h]
 constructor
 ·rintro (⟨i',en',f1,⟨e',f2,f3⟩,f4⟩ | ⟨j,hj,h1⟩)
  ·exact ⟨i',en',f1,⟨e',f2,by rw [contains_push,f3]; rfl⟩,f4⟩
  ·exact ⟨i,en,hen,⟨e,hie,by rw [contains_push]; simp⟩,List.mem_of_getElem? h1⟩
 ·rintro ⟨i',en',f1,⟨e',f2,f3⟩,f4⟩
  rw [contains_push,Bool.or_eq_true] at f3
  rcases f3 with f3 | f3
  ·exact .inl ⟨i',en',f1,⟨e',f2,f3⟩,f4⟩
  ·have hee : e' = e:=born_inj hnd (List.mem_of_getElem? f2) (List.mem_of_getElem? hie) (by simpa using f3)
   subst hee
   have hii : i' = i:=by
    have h1:=(List.getElem?_eq_some_iff.1 f2)
    have h2:=(List.getElem?_eq_some_iff.1 hie)
    have hb : (es.toList.map (·.born))[i']? = (es.toList.map (·.born))[i]?:=by rw [List.getElem?_map,List.getElem?_map,f2,hie]
    exact (List.getElem?_inj (by rw [List.length_map]; exact h1.1) hnd).1 hb
   subst hii
   rw [hen] at f1; injection f1 with f1; subst f1
   obtain ⟨j,hj⟩:=List.getElem?_of_mem f4
   exact .inr ⟨j,(List.getElem?_eq_some_iff.1 hj).1,hj⟩
structure SpU (σ : Sp) (A : List Ev) (D : List ElT) : Prop where
 rA : Rise dE A
 rD : Rise dT D
 mA : ∀ x,x ∈ A ↔ ∃ en ∈ σ.es,x ∈ en.lv
 mD : ∀ x,x ∈ D ↔ ∃ en ∈ σ.es,x ∈ en.dd
 lA : A.length ≤ 100000
 lD : D.length ≤ 100000
 ok : ∀ en ∈ σ.es,Rise dE en.lv∧Rise dT en.dd
 uE : ∀ (i j : Nat) (a b : Ent) (x y : Ev),σ.es[i]? = some a→σ.es[j]? = some b→x ∈ a.lv→y ∈ b.lv→x.dot = y.dot→i = j
 uT : ∀ (i j : Nat) (a b : Ent) (x y : ElT),σ.es[i]? = some a→σ.es[j]? = some b→x ∈ a.dd→y ∈ b.dd→dT x = dT y→i = j
set_option maxHeartbeats 8000000 in
set_option maxRecDepth 100000 in
theorem all_ok (σ : Sp) (A : List Ev) (D : List ElT) (hU : SpU σ A D) (hlen : σ.es.length = σ.ks.length) : CSem Try.prog (.fn 19) [.ept (spA (mapA σ) σ.vv σ.tm) 0] (.pure [.ept [.sl (A.map itE)] 0,.ept [.sl (D.map itT)] 0]):=by
 obtain ⟨mA,hmA⟩ : ∃ mA,mA = mapA σ:=⟨_,rfl⟩
 rw [← hmA]
 refine acall_hand 57 Try.func19 (by kernel_rfl) rfl rfl (by simp) fun w S a h=>?_
 refine wp_seq (h.pc (E:={ n:=57 }) [(0,.ept (spA mA σ.vv σ.tm) 0)] rfl (fun F C D hF hC=>?_) fun S1 a1 w1 h1=>?_)
 ·cbv
  exact ⟨100,(le_of [] (by simp [leSl,leOb,injK,memK,parK,noTup,lk,rn0,rnA,plain] <;> first | rfl | decide | (repeat (first | rfl | trivial | refine And.intro ?_ ?_))))⟩
 clear h
 refine wp_seq (wp_region_list ?_)
 refine callW [] rfl rfl (enterT Try.func43 (by kernel_rfl) rfl) (by simp) ?_
 refine (bNewE_W w1).mono ?_
 rintro r w2 ⟨rfl,hw2⟩
 refine ⟨_,rfl,?_⟩
 refine callW [] rfl rfl (enterT Try.func44 (by kernel_rfl) rfl) (by simp) ?_
 refine (bNewT_W w2).mono ?_
 rintro r w3 ⟨rfl,hw3⟩
 refine ⟨_,rfl,?_⟩
 obtain ⟨b1,hb1⟩ : ∃ b,b = w1.heap.size:=⟨_,rfl⟩
 obtain ⟨b2,hb2⟩ : ∃ b,b = w2.heap.size:=⟨_,rfl⟩
 rw [← hb1,← hb2]
 have hB2 : Below w1.heap.size w1 w2:=by rw [hw2]; exact (Below.refl _ _).alloc (Nat.le_refl _) _
 have hB3 : Below w2.heap.size w2 w3:=by rw [hw3]; exact (Below.refl _ _).alloc (Nat.le_refl _) _
 have hbb : b2 = b1 + 1:=by rw [hb2,hb1,hw2]; simp
 have hz3 : w3.heap.size = b1 + 2:=by rw [hw3]; simp; omega
 have hc1 : w3.heap[b1]? = some (.cells #[.slice none 0 0] 77 (0,0)):=(hB3.block b1 (by omega)).trans (by rw [hw2,hb1]; exact heap_alloc_new w1 _)
 have hc2 : w3.heap[b2]? = some (.cells #[.slice none 0 0] 79 (0,0)):=by rw [hw3,hb2]; exact heap_alloc_new w2 _
 have hw0:=h1.gr.below.size
 have hBG : BG w.heap.size S1 (fun g=>if g = b1 then some 1 else if g = b2 then some 2 else none) b1 b2 (.slice none 0 0) (.slice none 0 0) [] [] w3:=by
  refine ⟨fun g t hg=>?_,if_pos rfl,(if_neg (by omega)).trans (if_pos rfl),fun g hg=>by simp [Value.ownBlock] at hg,fun g hg=>by simp [Value.ownBlock] at hg,hc1,hc2,⟨rfl,.inl ⟨rfl,rfl⟩⟩,⟨rfl,.inl ⟨rfl,rfl⟩⟩,by simp [Value.ownBlock],by simp [Value.ownBlock]⟩
  have hg : (if g = b1 then some 1 else if g = b2 then some 2 else none) = some t:=hg
  split at hg
  ·exact ⟨by omega,by omega,fun hs=>by have:=h1.hi.lt g hs; omega⟩
  ·split at hg
   ·exact ⟨by omega,by omega,fun hs=>by have:=h1.hi.lt g hs; omega⟩
   ·cases hg
 have h3:=(((h1.out (gr_below h1.hi.lt (hB2.trans (hB3.mono hB2.size)))).put (d:=12) (by decide) (.v (.pointer (some ⟨b1,0,none⟩))) (srep_of_rep (.c (.v _ rfl)))).put (d:=13) (by decide) (.v (.pointer (some ⟨b2,0,none⟩))) (srep_of_rep (.c (.v _ rfl))))
 refine h3.pclg (E:={ n:=57 }) [(5,.v (.pointer (some ⟨b2,0,none⟩))),(4,.v (.pointer (some ⟨b1,0,none⟩))),(0,.ept (spA mA σ.vv σ.tm) 0)] rfl (fun F C hF hC=>?_) fun S4 a4 w4 h4 g4=>?_
 ·cbv
  exact ⟨100,(le_of [] (by simp [leSl,leOb,injK,memK,parK,noTup,lk,rn0,rnA,plain] <;> first | rfl | decide | (repeat (first | rfl | trivial | refine And.intro ?_ ?_))))⟩
 have hg3 : Gr w1 S1 w3 S1:=gr_below h1.hi.lt (hB2.trans (hB3.mono hB2.size))
 have hB4:=hBG.grow (S:=S1) (S':=S4) (w':=w4) g4
 clear h3 hBG hc1 hc2 hw2 hw3 hB2 hB3
 clear g4 hg3 h1
 have hun : Try.prog.underlying 50 = some (.map 9 74):=by kernel_rfl
 have hrl0 : σ.ks = []→A = []∧D = []:=fun h0=>by
  have he : σ.es = []:=by rw [h0] at hlen; exact List.length_eq_zero_iff.1 hlen
  constructor
  ·apply List.eq_nil_iff_forall_not_mem.2
   intro x hx
   obtain ⟨en,hen,_⟩:=(hU.mA x).1 hx
   rw [he] at hen; cases hen
  ·apply List.eq_nil_iff_forall_not_mem.2
   intro x hx
   obtain ⟨en,hen,_⟩:=(hU.mD x).1 hx
   rw [he] at hen; cases hen
 refine wp_seq (wp_mono (Q:=fun ex a' w'=>ex = .normal∧∃ S' o' v1 v2,PS 57 w S [(5,.v (.pointer (some ⟨b2,0,none⟩))),(4,.v (.pointer (some ⟨b1,0,none⟩)))] S' a' w'∧BG w.heap.size S' o' b1 b2 v1 v2 A D w') ?_ fun ex a6 w6 hh=>?_)
 rotate_left
 ·obtain ⟨rfl,S6,o6,v1,v2,h6,hB6⟩:=hh
  have r1 : RepC w6 (fun g=>S6 g ∨ o6 g ≠ none) (.sl (A.map itE)) v1:=repc_of_own (B:=0) (e:=65) (sz:=28) (zs:=(A.map itvE).flatten) (by rw [List.length_map]; exact OwnR.of hB6.r1) (repl_rows itvE_ac itvE_one _) (fun r hr=>by obtain ⟨a,_,rfl⟩:=List.mem_map.1 hr; rfl) (fun g hg=>.inr (by rw [hB6.w1 g hg]; simp))
  have r2 : RepC w6 (fun g=>S6 g ∨ o6 g ≠ none) (.sl (D.map itT)) v2:=repc_of_own (B:=0) (e:=72) (sz:=30) (zs:=(D.map itvT).flatten) (by rw [List.length_map]; exact OwnR.of hB6.r2) (repl_rows itvT_ac itvT_one _) (fun r hr=>by obtain ⟨a,_,rfl⟩:=List.mem_map.1 hr; rfl) (fun g hg=>.inr (by rw [hB6.w2 g hg]; simp))
  have q1 : Rep w6 (fun g=>S6 g ∨ o6 g ≠ none) (.ept [.sl (A.map itE)] 0) (.pointer (some ⟨b1,0,none⟩)):=Rep.ept (off:=0) (a:=⟨b1,0,none⟩) ⟨.inr (by rw [hB6.o1]; simp),fun i u hu=>by
   match i with
   | 0=>injection hu with hu; subst hu; exact ⟨v1,by rw [add00,cell_of_row _ _ 0 _ _ _ hB6.c1]; rfl,r1⟩
   | i + 1=>simp at hu⟩
  have q2 : Rep w6 (fun g=>S6 g ∨ o6 g ≠ none) (.ept [.sl (D.map itT)] 0) (.pointer (some ⟨b2,0,none⟩)):=Rep.ept (off:=0) (a:=⟨b2,0,none⟩) ⟨.inr (by rw [hB6.o2]; simp),fun i u hu=>by
   match i with
   | 0=>injection hu with hu; subst hu; exact ⟨v2,by rw [add00,cell_of_row _ _ 0 _ _ _ hB6.c2]; rfl,r2⟩
   | i + 1=>simp at hu⟩
  have hgr : Gr w S w6 (fun g=>S6 g ∨ o6 g ≠ none):=⟨h6.gr.below,fun g hg=>.inl (h6.gr.sub g hg),fun g hg=>hg.elim (h6.gr.new g) fun hn=>by
   cases ho : o6 g with
   | none=>exact absurd ho hn
   | some t=>exact .inr (hB6.dom g t ho).1,fun g hg=>hg.elim (h6.gr.lt g) fun hn=>by
   cases ho : o6 g with
   | none=>exact absurd ho hn
   | some t=>exact (hB6.dom g t ho).2.1⟩
  have h7 : PS 57 w S [] (fun g=>S6 g ∨ o6 g ≠ none) a6 w6:=⟨⟨h6.hi.size,h6.hi.defers,hgr.lt,gd_all _ _,fun t x ht=>by simp [lk] at ht⟩,hgr⟩
  have h8:=(h7.add (d:=4) (by decide) _ (by rw [h6.val (t:=4) rfl]; exact srep_of_rep q1)).add (d:=5) (by decide) _ (by rw [h6.val (t:=5) rfl]; exact srep_of_rep q2)
  obtain ⟨x1,hx1⟩ : ∃ r,r = A.map itE:=⟨_,rfl⟩
  obtain ⟨x2,hx2⟩ : ∃ r,r = D.map itT:=⟨_,rfl⟩
  rw [← hx1,← hx2] at h8 ⊢
  show Code.wp Try.prog (Code.seq _ _) _ _ _
  refine wp_seq (h8.pc (E:={ n:=57 }) [(2,.ept [.sl x1] 0),(3,.ept [.sl x2] 0)] rfl (fun F C D hF hC=>?_) fun S9 a9 w9 h9=>?_)
  ·cbv
   exact ⟨100,(le_of [] (by simp [leSl,leOb,injK,memK,parK,noTup,lk,rn0,rnA,plain] <;> first | rfl | decide | (repeat (first | rfl | trivial | refine And.intro ?_ ?_))))⟩
  refine wp_ret ?_
  obtain ⟨p1,p2⟩:=h9.hi.slots 2 _ rfl
  obtain ⟨p3,p4⟩:=h9.hi.slots 3 _ rfl
  exact bodyPost_ret (results_tmp2 rfl _ _ _) h9.hi.defers ⟨_,S9,rfl,h9.gr,[_,_],rfl,Reps.cons p2 (Reps.cons p4 (Reps.nil _ _))⟩
 by_cases h0 : σ.ks = []
 ·obtain ⟨rfl,rfl⟩:=hrl0 h0
  have hm : mA = .v (.map none):=by rw [hmA]; unfold mapA; rw [h0]
  subst hm
  refine wp_seq (wp_region_list ?_)
  refine h4.preg (E:={ n:=57 }) 4 [(17,.v (.map none)),(5,.v (.pointer (some ⟨b2,0,none⟩))),(4,.v (.pointer (some ⟨b1,0,none⟩)))] rfl (fun F C hF hC=>?_) fun S5 a5 w5 h5 g5=>?_
  ·cbv
   exact ⟨100,(le_of [] (by simp [leSl,leOb,injK,memK,parK,noTup,lk,rn0,rnA,plain] <;> first | rfl | decide | (repeat (first | rfl | trivial | refine And.intro ?_ ?_))))⟩
  have hB5:=hB4.grow g5
  have t17 : a5.eval (.tmp 17) = .map none:=h5.val rfl
  have hrg:=run_range_nilMap (P:=Try.prog) w5 50 _ _ hun
  refine list1 (W':=w5.alloc (.mapIter none 0 #[] 0)) (.pointer (some ⟨w5.heap.size,0,none⟩)) rfl (by simp [execOp,t17,hrg]) ?_
  obtain ⟨r,hr⟩ : ∃ r,r = w5.heap.size:=⟨_,rfl⟩
  obtain ⟨W,hW⟩ : ∃ W,W = w5.alloc (.mapIter none 0 #[] 0):=⟨_,rfl⟩
  have hnx : ∀ ty,(Instr.next (.pointer (some ⟨r,0,none⟩)) false ty).run Try.prog W = .ok (.tuple #[.bool false]) W:=fun ty=>by rw [hr,hW]; exact run_next_nilMap w5 ty 0 0 #[]
  have hBW : Below w5.heap.size w5 W:=by rw [hW]; exact (Below.refl _ _).alloc (Nat.le_refl _) _
  have hB6:=hB5.grow (gr_below h5.hi.lt hBW)
  have h6:=(h5.out (gr_below h5.hi.lt hBW)).put (d:=18) (by decide) (.v (.pointer (some ⟨r,0,none⟩))) (srep_of_rep (.c (.v _ rfl)))
  rw [← hr,← hW]
  show Code.wp Try.prog (Code.block 0 _) _ (a5.put (some 18) _) W
  obtain ⟨a6,ha6⟩ : ∃ a6,a6 = a5.put (some 18) (.pointer (some ⟨r,0,none⟩)):=⟨_,rfl⟩
  rw [← ha6] at h6 ⊢
  refine wp_block (loop_by (fun _ a' w'=>a' = a6∧w' = W) (fun _=>0) 0 ⟨rfl,rfl⟩ fun i a7 w7 hI=>?_)
  obtain ⟨rfl,rfl⟩:=hI
  have t18 : a7.eval (.tmp 18) = .pointer (some ⟨r,0,none⟩):=h6.val rfl
  refine wp_seq (wp_region_list ?_)
  refine list1 (W':=w7) (.tuple #[.bool false]) rfl (by simp [execOp,t18,hnx]) ?_
  have h7:=h6.put (d:=19) (by decide) .dead trivial (v:=.tuple #[.bool false])
  have e19 : (a7.put (some 19) (.tuple #[.bool false])).eval (.tmp 19) = .tuple #[.bool false]:=put_eq (by rw [h6.hi.size]; decide)
  refine list1 (.bool false) rfl (q_ext rfl e19 rfl) ?_
  have h8:=h7.put (d:=20) (by decide) (aB false) (v:=.bool false) (srep_of_rep (.c (.v _ rfl)))
  refine wp_seq (wp_cond_false (h8.val (t:=20) rfl) (wp_exit ?_))
  exact ⟨rfl,_,_,_,_,((h8.dr rfl).dr rfl).dr rfl |>.dr rfl,hB6⟩
 ·
  obtain ⟨ks,hks⟩ : ∃ ks,ks = σ.ks:=⟨_,rfl⟩
  obtain ⟨vs,hvs⟩ : ∃ vs,vs = σ.es.map fun en=>AV.ept [.sl (en.lv.map itE),.sl (en.dd.map itT)] 0:=⟨_,rfl⟩
  have hm : mA = .mp ks vs:=by
   rw [hmA,hks,hvs]; unfold mapA
   split
   ·rename_i hk; exact absurd hk h0
   ·rfl
  subst hm
  refine wp_seq (wp_region_list ?_)
  refine h4.preg (E:={ n:=57 }) 4 [(17,.mp ks vs),(5,.v (.pointer (some ⟨b2,0,none⟩))),(4,.v (.pointer (some ⟨b1,0,none⟩)))] rfl (fun F C hF hC=>?_) fun S5 a5 w5 h5 g5=>?_
  ·clear hvs hks hmA
   cbv
   exact ⟨100,(le_of [] (by simp [leSl,leOb,injK,memK,parK,noTup,lk,rn0,rnA,plain] <;> first | rfl | decide | (repeat (first | rfl | trivial | refine And.intro ?_ ?_))))⟩
  have hB5:=hB4.grow g5
  obtain ⟨es,clock,m,t17,hSm,hmp,hkeys,hvl,hnd,hlt,hrep⟩:=Rep.mp_inv (h5.hi.slots 17 _ rfl).2
  have t17 : a5.eval (.tmp 17) = .map (some m):=t17
  have hel : es.toList.length = σ.es.length:=by
   have:=congrArg List.length hkeys
   simp only [List.length_map] at this
   rw [hlen,this,hks]
  have hrg:=run_range_map (P:=Try.prog) w5 50 _ _ m es clock hun hmp
  obtain ⟨r,hr⟩ : ∃ r,r = w5.heap.size:=⟨_,rfl⟩
  obtain ⟨W,hW⟩ : ∃ W,W = w5.alloc (.mapIter (some m) clock #[] clock):=⟨_,rfl⟩
  rw [← hr,← hW] at hrg
  refine list1 (W':=W) (.pointer (some ⟨r,0,none⟩)) rfl (by simp [execOp,t17,hrg]) ?_
  have hBW : Below w5.heap.size w5 W:=by rw [hW]; exact (Below.refl _ _).alloc (Nat.le_refl _) _
  have hzW : W.heap.size = r + 1:=by rw [hW,hr]; simp
  have hB6a:=hB5.grow (gr_below h5.hi.lt hBW)
  have hB6 : BG w.heap.size S5 (fun g=>if g = r then some 3 else if g = b1 then some 1 else if g = b2 then some 2 else none) b1 b2 (.slice none 0 0) (.slice none 0 0) [] [] W:=by
   have d1:=(hB5.dom _ _ hB5.o1).2.1
   have d2:=(hB5.dom _ _ hB5.o2).2.1
   have:=h5.gr.below.size
   exact ⟨fun g t hg=>by
    have hg : (if g = r then some 3 else (fun g=>if g = b1 then some 1 else if g = b2 then some 2 else none) g) = some t:=hg
    split at hg
    ·exact ⟨by omega,by omega,fun hs=>by have:=h5.hi.lt g hs; omega⟩
    ·exact hB6a.dom g t hg,(if_neg (by omega)).trans hB6a.o1,(if_neg (by omega)).trans hB6a.o2,fun g hg=>by simp [Value.ownBlock] at hg,fun g hg=>by simp [Value.ownBlock] at hg,hB6a.c1,hB6a.c2,hB6a.r1,hB6a.r2,hB6a.n1,hB6a.n2⟩
  have hI6 : IT σ S5 (fun g=>if g = r then some 3 else if g = b1 then some 1 else if g = b2 then some 2 else none) r m es clock #[] W:=by
   refine ⟨if_pos rfl,by rw [hW,hr]; exact heap_alloc_new w5 _,hSm,(hBW.block m (h5.hi.lt m hSm)).trans hmp,hel,hnd,hlt,fun i en e hi he=>?_⟩
   exact (hrep i _ e (by rw [hvs,List.getElem?_map,hi]; rfl) he).mono (fun g hg=>hBW.block g (h5.hi.lt g hg)) (fun _ h=>h)
  have h6:=((((h5.out (gr_below h5.hi.lt hBW)).put (d:=18) (by decide) (.v (.pointer (some ⟨r,0,none⟩))) (srep_of_rep (.c (.v _ rfl))))).sub (sl':=[(18,.v (.pointer (some ⟨r,0,none⟩))),(5,.v (.pointer (some ⟨b2,0,none⟩))),(4,.v (.pointer (some ⟨b1,0,none⟩)))]) (fun t x ht=>by
   simp only [lk] at ht ⊢
   by_cases e1 : 18 = t
   ·rw [if_pos e1] at ht ⊢; exact ht
   ·rw [if_neg e1] at ht ⊢
    by_cases e2 : 17 = t
    ·subst e2; simp at ht
    ·rw [if_neg e2]; exact ht))
  show Code.wp Try.prog (Code.block 0 _) _ (a5.put (some 18) _) W
  obtain ⟨a6,ha6⟩ : ∃ a6,a6 = a5.put (some 18) (.pointer (some ⟨r,0,none⟩)):=⟨_,rfl⟩
  have h6 : PS 57 w S [(18,.v (.pointer (some ⟨r,0,none⟩))),(5,.v (.pointer (some ⟨b2,0,none⟩))),(4,.v (.pointer (some ⟨b1,0,none⟩)))] S5 a6 W:=by rw [ha6]; exact h6
  rw [← ha6]
  clear h5 h4 hB4 hB5 hB6a g5 ha6 hrg hrep hW
  refine wp_block (loop_by (fun k a' w'=>∃ S' o' v1 v2 l1 l2 seen,PS 57 w S [(18,.v (.pointer (some ⟨r,0,none⟩))),(5,.v (.pointer (some ⟨b2,0,none⟩))),(4,.v (.pointer (some ⟨b1,0,none⟩)))] S' a' w'∧BG w.heap.size S' o' b1 b2 v1 v2 l1 l2 w'∧IT σ S' o' r m es clock seen w'∧Rise dE l1∧Rise dT l2∧(∀ x,x ∈ l1 ↔ ∃ (i : Nat) (en : Ent),σ.es[i]? = some en∧(∃ e : MapEntry,es.toList[i]? = some e∧seen.contains e.born = true)∧x ∈ en.lv)∧(∀ x,x ∈ l2 ↔ ∃ (i : Nat) (en : Ent),σ.es[i]? = some en∧(∃ e : MapEntry,es.toList[i]? = some e∧seen.contains e.born = true)∧x ∈ en.dd)∧k = (leftOf es seen).size) (fun k=>k) _ ⟨S5,_,_,_,[],[],#[],h6,hB6,hI6,List.Pairwise.nil,List.Pairwise.nil,fun x=>⟨fun h=>(by cases h),fun ⟨i,en,_,⟨e,_,hs⟩,_⟩=>by simp at hs⟩,fun x=>⟨fun h=>(by cases h),fun ⟨i,en,_,⟨e,_,hs⟩,_⟩=>by simp at hs⟩,rfl⟩ fun k aa ww hI=>?_)
  clear h6 hB6 hI6
  obtain ⟨S7,o7,v1,v2,l1,l2,seen,h7,hB7,hI7,hrE,hrT,hmE,hmT,hk⟩:=hI
  have t18 : aa.eval (.tmp 18) = .pointer (some ⟨r,0,none⟩):=h7.val rfl
  refine wp_seq (wp_region_list ?_)
  rcases run_next_at (P:=Try.prog) ww 0 r m clock clock seen es clock hI7.it hI7.mp hI7.lt (Nat.le_refl _) with ⟨hz0,hnx⟩ | ⟨e,hel0,w1',hw1',hnx⟩
  ·refine list1 (W':=ww) (.tuple #[.bool false]) rfl (by simp [execOp,t18,hnx]) ?_
   have h8:=h7.put (d:=19) (by decide) .dead trivial (v:=.tuple #[.bool false])
   have e19 : (aa.put (some 19) (.tuple #[.bool false])).eval (.tmp 19) = .tuple #[.bool false]:=put_eq (by rw [h7.hi.size]; decide)
   refine list1 (.bool false) rfl (q_ext rfl e19 rfl) ?_
   have h9:=h8.put (d:=20) (by decide) (aB false) (v:=.bool false) (srep_of_rep (.c (.v _ rfl)))
   refine wp_seq (wp_cond_false (h9.val (t:=20) rfl) (wp_exit ?_))
   have hall:=all_seen es seen hz0
   have hsn : ∀ i en,σ.es[i]? = some en→∃ e : MapEntry,es.toList[i]? = some e∧seen.contains e.born = true:=fun i en hi=>by
    have hil : i < es.toList.length:=by rw [hI7.len]; exact (List.getElem?_eq_some_iff.1 hi).1
    exact ⟨_,List.getElem?_eq_getElem hil,hall _ (List.getElem_mem hil)⟩
   have eA : l1 = A:=rise_ext hrE hU.rA fun x=>by
    rw [hmE,hU.mA]
    constructor
    ·rintro ⟨i,en,f1,_,f3⟩; exact ⟨en,List.mem_of_getElem? f1,f3⟩
    ·rintro ⟨en,f1,f3⟩; obtain ⟨i,hi⟩:=List.getElem?_of_mem f1; exact ⟨i,en,hi,hsn i en hi,f3⟩
   have eD : l2 = D:=rise_ext hrT hU.rD fun x=>by
    rw [hmT,hU.mD]
    constructor
    ·rintro ⟨i,en,f1,_,f3⟩; exact ⟨en,List.mem_of_getElem? f1,f3⟩
    ·rintro ⟨en,f1,f3⟩; obtain ⟨i,hi⟩:=List.getElem?_of_mem f1; exact ⟨i,en,hi,hsn i en hi,f3⟩
   subst eA; subst eD
   exact ⟨rfl,_,_,_,_,((h9.dr rfl).dr rfl).dr rfl,hB7⟩
  obtain ⟨W2,hW2⟩ : ∃ W2,W2 = ChangeMaps.setBlock w1' r (.mapIter (some m) clock (seen.push e.born) clock):=⟨_,rfl⟩
  rw [← hW2] at hnx
  have hrs : r < ww.heap.size:=(hB7.dom r 3 hI7.or').2.1
  have hh1 : w1'.heap = ww.heap:=by rcases hw1' with rfl | rfl <;> rfl
  have hsz2 : W2.heap.size = ww.heap.size:=by rw [hW2]; show (w1'.heap.setIfInBounds r _).size = _; rw [Array.size_setIfInBounds,hh1]
  have hold2 : ∀ g,g ≠ r→W2.heap[g]? = ww.heap[g]?:=fun g hg=>by rw [hW2]; show (w1'.heap.setIfInBounds r _)[g]? = _; rw [Array.getElem?_setIfInBounds_ne (fun e=>hg e.symm),hh1]
  have hnew2 : W2.heap[r]? = some (.mapIter (some m) clock (seen.push e.born) clock):=by rw [hW2]; show (w1'.heap.setIfInBounds r _)[r]? = _; rw [Array.getElem?_setIfInBounds_self_of_lt (by rw [hh1]; exact hrs)]
  have hos2 : W2.os = ww.os∧W2.tape = ww.tape∧W2.output = ww.output:=by rw [hW2]; rcases hw1' with rfl | rfl <;> exact ⟨rfl,rfl,rfl⟩
  have h8:=h7.outK (o:=o7) hB7.dom hos2.1 hos2.2.1 hos2.2.2 (Nat.le_of_eq hsz2.symm) 3 (fun g hg hn=>hold2 g fun e=>hn (by rw [e]; exact hI7.or'))
  have hB8:=hB7.same (w':=W2) (fun g t hg ht=>hold2 g fun e=>ht (by rw [e,hI7.or'] at hg; injection hg with hg; exact hg.symm)) (Nat.le_of_eq hsz2.symm)
  have hSr : ∀ g,S7 g→g ≠ r:=fun g hg e=>(hB7.dom r 3 hI7.or').2.2 (e ▸ hg)
  obtain ⟨hein,hens⟩:=mem_left hel0
  obtain ⟨i,hie⟩:=List.getElem?_of_mem hein
  obtain ⟨en,hen⟩ : ∃ en,σ.es[i]? = some en:=⟨_,List.getElem?_eq_getElem (by rw [← hI7.len]; exact (List.getElem?_eq_some_iff.1 hie).1)⟩
  have hI8 : IT σ S7 o7 r m es clock (seen.push e.born) W2:=⟨hI7.or',hnew2,hI7.sm,(hold2 m (hSr m hI7.sm)).trans hI7.mp,hI7.len,hI7.nd,hI7.lt,fun i en e h1 h2=>(hI7.rep i en e h1 h2).mono (fun g hg=>hold2 g (hSr g hg)) (fun _ h=>h)⟩
  have hnsn : ¬ ∃ e',es.toList[i]? = some e'∧seen.contains e'.born = true:=fun ⟨e',h1,h2⟩=>by rw [hie] at h1; injection h1 with h1; subst h1; rw [hens] at h2; cases h2
  have hokE:=(hU.ok en (List.mem_of_getElem? hen)).1
  have hokT:=(hU.ok en (List.mem_of_getElem? hen)).2
  have hlE : en.lv.length ≤ 100000:=by
   have nd : en.lv.Nodup:=(List.pairwise_map.1 (rise_nodup hokE)).imp fun h e=>h (by rw [e])
   exact Nat.le_trans (nd.length_le_of_subset fun y hy=>(hU.mA y).2 ⟨en,List.mem_of_getElem? hen,hy⟩) hU.lA
  have hlT : en.dd.length ≤ 100000:=by
   have nd : en.dd.Nodup:=(List.pairwise_map.1 (rise_nodup hokT)).imp fun h e=>h (by rw [e])
   exact Nat.le_trans (nd.length_le_of_subset fun y hy=>(hU.mD y).2 ⟨en,List.mem_of_getElem? hen,hy⟩) hU.lD
  refine list1 (W':=W2) (.tuple #[.bool true,e.key,e.val]) rfl (by simp [execOp,t18,hnx]) ?_
  have h9:=h8.put (d:=19) (by decide) .dead trivial (v:=.tuple #[.bool true,e.key,e.val])
  have e19 : (aa.put (some 19) (.tuple #[.bool true,e.key,e.val])).eval (.tmp 19) = .tuple #[.bool true,e.key,e.val]:=put_eq (by rw [h7.hi.size]; decide)
  refine list1 (.bool true) rfl (q_ext rfl e19 rfl) ?_
  have h10:=h9.put (d:=20) (by decide) (aB true) (v:=.bool true) (srep_of_rep (.c (.v _ rfl)))
  refine wp_seq (wp_cond_true (h10.val (t:=20) rfl) (wp_skip ?_))
  show Code.wp Try.prog (Code.block 1 _) _ _ _
  refine wp_block (wp_seq (wp_region_list ?_))
  obtain ⟨a10,ha10⟩ : ∃ a10,a10 = (aa.put (some 19) (.tuple #[.bool true,e.key,e.val])).put (some 20) (.bool true):=⟨_,rfl⟩
  have h11 : PS 57 w S [(18,.v (.pointer (some ⟨r,0,none⟩))),(5,.v (.pointer (some ⟨b2,0,none⟩))),(4,.v (.pointer (some ⟨b1,0,none⟩)))] S7 a10 W2:=by rw [ha10]; exact (h10.dr rfl).dr rfl
  show wpList Try.prog _ _ _ ((aa.put (some 19) (.tuple #[.bool true,e.key,e.val])).put (some 20) (.bool true)) W2
  rw [← ha10]
  have t18' : a10.eval (.tmp 18) = .pointer (some ⟨r,0,none⟩):=h11.val rfl
  have hent:=run_entry_at (P:=Try.prog) W2 r m clock seen es clock e hI8.it hI8.mp hein hI8.nd
  refine list1 (W':=W2) (.tuple #[e.key,e.val]) rfl (by simp [execOp,t18',hent]) ?_
  have h12:=h11.put (d:=21) (by decide) .dead trivial (v:=.tuple #[e.key,e.val])
  have e21 : (a10.put (some 21) (.tuple #[e.key,e.val])).eval (.tmp 21) = .tuple #[e.key,e.val]:=put_eq (by rw [h11.hi.size]; decide)
  refine list1 e.val rfl (q_ext rfl e21 rfl) ?_
  have h13:=h12.put (d:=22) (by decide) .dead trivial (v:=e.val)
  have e22 : ((a10.put (some 21) (.tuple #[e.key,e.val])).put (some 22) e.val).eval (.tmp 22) = e.val:=put_eq (by rw [put_size,h11.hi.size]; decide)
  refine list1 e.val rfl (q_asg rfl e22) ?_
  have h14:=(((((h13.dr rfl).dr rfl).put (d:=7) (by decide) (.ept [.sl (en.lv.map itE),.sl (en.dd.map itT)] 0) (srep_of_rep (hI8.rep i en e hen hie)))).sub (sl':=[(18,.v (.pointer (some ⟨r,0,none⟩))),(7,.ept [.sl (en.lv.map itE),.sl (en.dd.map itT)] 0),(5,.v (.pointer (some ⟨b2,0,none⟩))),(4,.v (.pointer (some ⟨b1,0,none⟩)))]) (fun t x ht=>by
   simp only [lk] at ht ⊢
   by_cases e1 : 7 = t
   ·subst e1; simpa using ht
   ·rw [if_neg e1] at ht ⊢; exact ht))
  have hkk:=hk
  show Code.wp Try.prog (Code.seq _ _) _ _ _
  clear h7 h8 h9 h10 h11 h12 h13 hB7 hI7 hnx hent
  refine wp_seq (wp_seq (wp_region_list ?_))
  refine h14.preg (E:={ n:=57 }) 3 [(25,.ept [.sl (en.lv.map itE),.sl (en.dd.map itT)] 0),(18,.v (.pointer (some ⟨r,0,none⟩))),(7,.ept [.sl (en.lv.map itE),.sl (en.dd.map itT)] 0),(5,.v (.pointer (some ⟨b2,0,none⟩))),(4,.v (.pointer (some ⟨b1,0,none⟩)))] rfl (fun F C hF hC=>?_) fun SE1 aE1 wE1 hE1 gE1=>?_
  ·obtain ⟨q1,hq1⟩ : ∃ q,q = en.lv.map itE:=⟨_,rfl⟩
   obtain ⟨q2,hq2⟩ : ∃ q,q = en.dd.map itT:=⟨_,rfl⟩
   rw [← hq1,← hq2]
   clear hq1 hq2
   cbv
   exact ⟨100,(le_of [] (by simp [leSl,leOb,injK,memK,parK,noTup,lk,rn0,rnA,plain] <;> first | rfl | decide | (repeat (first | rfl | trivial | refine And.intro ?_ ?_))))⟩
  have hBE1:=hB8.grow gE1
  have hIE1:=hI8.mono hI8.or' (gE1.below.block r (hB8.dom r 3 hI8.or').2.1) (gE1.same h14.hi.lt) gE1.sub
  obtain ⟨yE,hyE⟩ : ∃ y,aE1.eval (.tmp 25) = y:=⟨_,rfl⟩
  have repE : Rep wE1 SE1 (.ept [.sl (en.lv.map itE)] 0) yE:=by
   have q:=(hE1.hi.slots 25 _ rfl).2
   rw [← evT,hyE] at q
   obtain ⟨ad,e1,q1,q2⟩:=Rep.ept_inv q
   rw [e1]
   have f1 : CellsAt wE1 SE1 ad [.sl (en.lv.map itE)]:=⟨q1,fun i u hu=>by match i with | 0=>exact q2 0 u hu | i + 1=>simp at hu⟩
   have:=Rep.ept (off:=0) f1
   rw [add00] at this ⊢; exact this
  refine callW [yE] rfl rfl (enterT Try.func21 (by kernel_rfl) rfl) (by simp [hyE]) ?_
  refine (((itemsE_ok (en.lv.map itE) (by rw [List.length_map]; omega) (fun q hq=>by obtain ⟨a,_,rfl⟩:=List.mem_map.1 hq; rfl)).2 wE1 SE1 _ hE1.hi.lt (gd_all _ _) (Reps.cons repE (Reps.nil _ _))).mono fun _ _ h=>own_frz h).mono ?_
  rintro q wE2 ⟨zE,SE2,rfl,gE2,hzE⟩
  refine ⟨_,rfl,?_⟩
  obtain ⟨rowsE,hrowsE⟩ : ∃ rows,rows = en.lv.map itE:=⟨_,rfl⟩
  rw [← hrowsE] at hzE
  have hE2:=hE1.res (d:=26) (by decide) gE2 hzE
  have hBE2:=hBE1.grow gE2
  have hIE2:=hIE1.mono hIE1.or' (gE2.below.block r (hBE1.dom r 3 hIE1.or').2.1) (gE2.same hE1.hi.lt) gE2.sub
  obtain ⟨nE,hnE⟩ : ∃ n' : Int,n' = (en.lv.length : Int):=⟨_,rfl⟩
  refine hE2.pclg (E:={ n:=57 }) [(28,aI 0),(27,aI nE),(26,.sl rowsE),(18,.v (.pointer (some ⟨r,0,none⟩))),(7,.ept [.sl (en.lv.map itE),.sl (en.dd.map itT)] 0),(5,.v (.pointer (some ⟨b2,0,none⟩))),(4,.v (.pointer (some ⟨b1,0,none⟩)))] rfl (fun F C hF hC=>?_) fun SE3 aE3 wE3 hE3 gE3=>?_
  ·have tl : F .len rowsE = nE:=by rw [lenF hF,hrowsE,List.length_map,hnE]
   obtain ⟨q1,hq1⟩ : ∃ q,q = en.lv.map itE:=⟨_,rfl⟩
   obtain ⟨q2,hq2⟩ : ∃ q,q = en.dd.map itT:=⟨_,rfl⟩
   rw [← hq1,← hq2]
   clear hq1 hq2 hrowsE
   cbv
   rw [tl]
   exact ⟨100,(le_of [] (by simp [leSl,leOb,injK,memK,parK,noTup,lk,rn0,rnA,plain] <;> first | rfl | decide | (repeat (first | rfl | trivial | refine And.intro ?_ ?_))))⟩
  have hBE3:=hBE2.grow gE3
  have hIE3:=hIE2.mono hIE2.or' (gE3.below.block r (hBE2.dom r 3 hIE2.or').2.1) (gE3.same hE2.hi.lt) gE3.sub
  clear hE1 hE2 hBE1 hBE2 hIE1 hIE2 gE1 gE2 gE3 repE hzE hyE h14 hB8 hI8
  show Code.wp Try.prog (Code.block _ _) _ _ _
  refine wp_block (loop_by (fun k a' w'=>k ≤ en.lv.length∧∃ S' o' u1 u2 l' k',k' = (k : Int)∧PS 57 w S [(28,aI k'),(27,aI nE),(26,.sl rowsE),(18,.v (.pointer (some ⟨r,0,none⟩))),(7,.ept [.sl (en.lv.map itE),.sl (en.dd.map itT)] 0),(5,.v (.pointer (some ⟨b2,0,none⟩))),(4,.v (.pointer (some ⟨b1,0,none⟩)))] S' a' w'∧BG w.heap.size S' o' b1 b2 u1 u2 l' l2 w'∧IT σ S' o' r m es clock (seen.push e.born) w'∧Rise dE l'∧(∀ x,x ∈ l' ↔ x ∈ l1 ∨ ∃ j,j < k∧en.lv[j]? = some x)) (fun k=>en.lv.length - k) 0 ⟨Nat.zero_le _,SE3,_,_,_,l1,0,rfl,hE3,hBE3,hIE3,hrE,fun x=>⟨.inl,fun h=>h.elim id fun ⟨j,hj,_⟩=>absurd hj (Nat.not_lt_zero _)⟩⟩ fun k aa ww hI=>?_)
  clear hE3 hBE3 hIE3
  obtain ⟨hk,S3,o3,u1,u2,l3,k',ek,hs,hB3,hI3,hrl3,hm3⟩:=hI
  by_cases hkl : k < en.lv.length
  ·obtain ⟨x,hx⟩ : ∃ x,en.lv[k]? = some x:=⟨_,List.getElem?_eq_getElem hkl⟩
   have hrow : rowsE[k]? = some (itE x):=by rw [hrowsE,List.getElem?_map,hx]; rfl
   have hxin : x ∈ en.lv:=List.mem_of_getElem? hx
   obtain ⟨k2,ek2⟩ : ∃ k2 : Int,k2 = ((k + 1 : Nat) : Int):=⟨_,rfl⟩
   obtain ⟨q1,hq1⟩ : ∃ q,q = en.lv.map itE:=⟨_,rfl⟩
   obtain ⟨q2,hq2⟩ : ∃ q,q = en.dd.map itT:=⟨_,rfl⟩
   rw [← hq1,← hq2] at hs
   have hne : ∀ y ∈ l3,dE y ≠ dE x:=fun y hy hd=>by
    rcases (hm3 y).1 hy with h1 | ⟨j,hj,h1⟩
    ·obtain ⟨i',en',f1,f2,f3⟩:=(hmE y).1 h1
     have:=hU.uE i' i en' en y x f1 hen f3 hxin hd
     subst this
     exact hnsn f2
    ·have:=rise_inj hokE h1 hx hd
     omega
   have hl3 : l3.length ≤ 100000:=by
    have nd : l3.Nodup:=(List.pairwise_map.1 (rise_nodup hrl3)).imp fun h e=>h (by rw [e])
    refine Nat.le_trans (nd.length_le_of_subset fun y hy=>?_) hU.lA
    rcases (hm3 y).1 hy with h1 | ⟨j,hj,h1⟩
    ·obtain ⟨i',en',f1,f2,f3⟩:=(hmE y).1 h1
     exact (hU.mA y).2 ⟨en',List.mem_of_getElem? f1,f3⟩
    ·exact (hU.mA y).2 ⟨en,List.mem_of_getElem? hen,List.mem_of_getElem? h1⟩
   refine wp_seq (hs.pcg (E:={ n:=57 }) [(29,aB true),(28,aI k'),(27,aI nE),(26,.sl rowsE),(18,.v (.pointer (some ⟨r,0,none⟩))),(7,.ept [.sl (q1),.sl (q2)] 0),(5,.v (.pointer (some ⟨b2,0,none⟩))),(4,.v (.pointer (some ⟨b1,0,none⟩)))] rfl (fun F C D hF hC=>?_) fun S4 a4 w4 h4 g4=>?_)
   ·have tl : F .cmp .lss k' nE = true:=(ltF hF k en.lv.length k' nE ek hnE).2 hkl
    clear hq1 hq2 hrowsE hx hrow
    cbv
    rw [tl]
    exact ⟨100,(le_of [] (by simp [leSl,leOb,injK,memK,parK,noTup,lk,rn0,rnA,plain] <;> first | rfl | decide | (repeat (first | rfl | trivial | refine And.intro ?_ ?_))))⟩
   have hB4:=hB3.grow g4
   have hI4:=hI3.mono hI3.or' (g4.below.block r (hB3.dom r 3 hI3.or').2.1) (g4.same hs.hi.lt) g4.sub
   refine wp_seq (wp_cond_true (h4.val (t:=29) rfl) (wp_skip ?_))
   show Code.wp Try.prog (Code.seq _ _) _ _ _
   refine wp_seq (wp_block (wp_seq (h4.pcg (E:={ n:=57 }) [(9,.ept (itE x) 0),(28,aI k'),(27,aI nE),(26,.sl rowsE),(18,.v (.pointer (some ⟨r,0,none⟩))),(7,.ept [.sl (q1),.sl (q2)] 0),(5,.v (.pointer (some ⟨b2,0,none⟩))),(4,.v (.pointer (some ⟨b1,0,none⟩)))] rfl (fun F C D hF hC=>?_) fun S5 a5 w5 h5 g5=>?_)))
   ·clear hq1 hq2 hrowsE hx
    cbv
    refine ⟨k,_,ek,hrow,rfl,?_⟩
    cbv
    exact ⟨100,(le_of [] (by simp [leSl,leOb,injK,memK,parK,noTup,lk,rn0,rnA,plain] <;> first | rfl | decide | (repeat (first | rfl | trivial | refine And.intro ?_ ?_))))⟩
   have hB5:=hB4.grow g5
   have hI5:=hI4.mono hI4.or' (g5.below.block r (hB4.dom r 3 hI4.or').2.1) (g5.same h4.hi.lt) g5.sub
   refine wp_region_list ?_
   refine h5.preg (E:={ n:=57 }) 5 [(32,.v (.pointer (some ⟨b1,0,none⟩))),(34,.agg [aI (dE x).R,aI (dE x).N]),(36,.agg ((itE x).drop 2)),(28,aI k'),(27,aI nE),(26,.sl rowsE),(18,.v (.pointer (some ⟨r,0,none⟩))),(7,.ept [.sl (q1),.sl (q2)] 0),(5,.v (.pointer (some ⟨b2,0,none⟩))),(4,.v (.pointer (some ⟨b1,0,none⟩)))] rfl (fun F C hF hC=>?_) fun S6 a6 w6 h6 g6=>?_
   ·clear hq1 hq2 hrowsE hx hrow
    cbv
    exact ⟨100,(le_of [] (by simp [leSl,leOb,injK,memK,parK,noTup,lk,rn0,rnA,plain] <;> first | rfl | decide | (repeat (first | rfl | trivial | refine And.intro ?_ ?_))))⟩
   have hB6:=hB5.grow g6
   have hI6:=hI5.mono hI5.or' (g6.below.block r (hB5.dom r 3 hI5.or').2.1) (g6.same h5.hi.lt) g6.sub
   clear h4 h5 hB4 hB5 hI4 hI5 hs hB3 hI3
   obtain ⟨bg,bf⟩:=hB6.bag1
   have e1 : a6.eval (.tmp 34) = .agg (dE x).vs:=rep_agg_v (xs:=(dE x).vs.toList) (h6.hi.slots 34 _ rfl).2
   have e2 : a6.eval (.tmp 36) = .agg (xvE x):=rep_agg_v (xs:=(xvE x).toList) (h6.hi.slots 36 _ rfl).2
   refine callW [.pointer (some ⟨b1,0,none⟩),.agg (dE x).vs,.agg (xvE x)] rfl rfl (enterT Try.func32 (by kernel_rfl) rfl) (by simp [h6.val (t:=32) rfl,e1,e2]) ?_
   refine (putE w6 b1 0 _ l3 x bg bf hrl3 hne (by omega)).mono ?_
   rintro q w7 ⟨rfl,v7,hb7,hk7⟩
   refine ⟨_,rfl,?_⟩
   obtain ⟨o7,hB7,ho7,hold7⟩:=hB6.put1 h6.gr.below.size h6.hi.lt hb7 hk7
   have h7:=h6.outK (o:=o3) hB6.dom hk7.os hk7.tape hk7.output hk7.size 1 hold7
   have hI7:=hI6.mono (ho7 _ _ hI6.or') (hold7 r (hB6.dom r 3 hI6.or').2.1 (by rw [hI6.or']; decide)) (fun g hg=>hold7 g (h6.hi.lt g hg) fun e=>(hB6.dom g _ e).2.2 hg) (fun _ h=>h)
   show Code.wp Try.prog (Code.region _ _ _) _ _ _
   have h7:=h7.put (d:=37) (by decide) .dead trivial (v:=.tuple #[])
   refine h7.pcg (E:={ n:=57 }) [(28,aI k2),(27,aI nE),(26,.sl rowsE),(18,.v (.pointer (some ⟨r,0,none⟩))),(7,.ept [.sl (q1),.sl (q2)] 0),(5,.v (.pointer (some ⟨b2,0,none⟩))),(4,.v (.pointer (some ⟨b1,0,none⟩)))] rfl (fun F C D hF hC=>?_) fun S8 a8 w8 h8 g8=>?_
   ·have tl:=(incF hF ek (by omega)).trans ek2.symm
    clear hq1 hq2 hrowsE hx hrow
    cbv
    rw [tl]
    exact ⟨100,(le_of [] (by simp [leSl,leOb,injK,memK,parK,noTup,lk,rn0,rnA,plain] <;> first | rfl | decide | (repeat (first | rfl | trivial | refine And.intro ?_ ?_))))⟩
   have hB8:=hB7.grow g8
   have hI8:=hI7.mono hI7.or' (g8.below.block r (hB7.dom r 3 hI7.or').2.1) (g8.same h7.hi.lt) g8.sub
   rw [hq1,hq2] at h8
   refine ⟨k + 1,⟨hkl,S8,o7,_,_,insD dE l3 x,k2,ek2,h8,hB8,hI8,insD_rise hrl3 hne,fun y=>?_⟩,by omega⟩
   rw [insD_mem,hm3]
   constructor
   ·rintro (rfl | h1 | ⟨j,hj,h1⟩)
    ·exact .inr ⟨k,by omega,hx⟩
    ·exact .inl h1
    ·exact .inr ⟨j,by omega,h1⟩
   ·rintro (h1 | ⟨j,hj,h1⟩)
    ·exact .inr (.inl h1)
    ·by_cases hjk : j = k
     ·rw [hjk,hx] at h1; injection h1 with h1; exact .inl h1.symm
     ·exact .inr (.inr ⟨j,by omega,h1⟩)
  have hke : k = en.lv.length:=by omega
  refine wp_seq (hs.pcg (E:={ n:=57 }) [(29,aB false),(28,aI k'),(27,aI nE),(26,.sl rowsE),(18,.v (.pointer (some ⟨r,0,none⟩))),(7,.ept [.sl (en.lv.map itE),.sl (en.dd.map itT)] 0),(5,.v (.pointer (some ⟨b2,0,none⟩))),(4,.v (.pointer (some ⟨b1,0,none⟩)))] rfl (fun F C D hF hC=>?_) fun SE4 aE4 wE4 h4 g4=>?_)
  ·have tl : F .cmp .lss k' nE = false:=by rw [Bool.eq_false_iff]; exact fun hh=>hkl ((ltF hF k en.lv.length k' nE ek hnE).1 hh)
   obtain ⟨q1,hq1⟩ : ∃ q,q = en.lv.map itE:=⟨_,rfl⟩
   obtain ⟨q2,hq2⟩ : ∃ q,q = en.dd.map itT:=⟨_,rfl⟩
   rw [← hq1,← hq2]
   clear hq1 hq2 hrowsE
   cbv
   rw [tl]
   exact ⟨100,(le_of [] (by simp [leSl,leOb,injK,memK,parK,noTup,lk,rn0,rnA,plain] <;> first | rfl | decide | (repeat (first | rfl | trivial | refine And.intro ?_ ?_))))⟩
  have hBE4:=hB3.grow g4
  have hIE4:=hI3.mono hI3.or' (g4.below.block r (hB3.dom r 3 hI3.or').2.1) (g4.same hs.hi.lt) g4.sub
  refine wp_seq (wp_cond_false (h4.val (t:=29) rfl) (wp_exit ?_))
  have hE4:=(((h4.dr rfl).dr rfl).dr rfl).dr rfl
  clear hs h4 g4 hB3 hI3
  obtain ⟨lE,hlE⟩ : ∃ l,l = l3:=⟨_,rfl⟩
  rw [← hlE] at hBE4 hrl3 hm3
  have hrEn:=hrl3
  have hmEn:=hm3
  clear hrl3 hm3 hlE
  subst hke
  refine wp_seq (wp_region_list ?_)
  refine hE4.preg (E:={ n:=57 }) 3 [(41,.ept [.sl (en.lv.map itE),.sl (en.dd.map itT)] 1),(18,.v (.pointer (some ⟨r,0,none⟩))),(7,.ept [.sl (en.lv.map itE),.sl (en.dd.map itT)] 0),(5,.v (.pointer (some ⟨b2,0,none⟩))),(4,.v (.pointer (some ⟨b1,0,none⟩)))] rfl (fun F C hF hC=>?_) fun ST1 aT1 wT1 hT1 gT1=>?_
  ·obtain ⟨q1,hq1⟩ : ∃ q,q = en.lv.map itE:=⟨_,rfl⟩
   obtain ⟨q2,hq2⟩ : ∃ q,q = en.dd.map itT:=⟨_,rfl⟩
   rw [← hq1,← hq2]
   clear hq1 hq2
   cbv
   exact ⟨100,(le_of [] (by simp [leSl,leOb,injK,memK,parK,noTup,lk,rn0,rnA,plain] <;> first | rfl | decide | (repeat (first | rfl | trivial | refine And.intro ?_ ?_))))⟩
  have hBT1:=hBE4.grow gT1
  have hIT1:=hIE4.mono hIE4.or' (gT1.below.block r (hBE4.dom r 3 hIE4.or').2.1) (gT1.same hE4.hi.lt) gT1.sub
  obtain ⟨yT,hyT⟩ : ∃ y,aT1.eval (.tmp 41) = y:=⟨_,rfl⟩
  have repT : Rep wT1 ST1 (.ept [.sl (en.dd.map itT)] 0) yT:=by
   have q:=(hT1.hi.slots 41 _ rfl).2
   rw [← evT,hyT] at q
   obtain ⟨ad,e1,q1,q2⟩:=Rep.ept_inv q
   rw [e1]
   have f1 : CellsAt wT1 ST1 (ad.add 1) [.sl (en.dd.map itT)]:=⟨by rw [add_blk]; exact q1,fun i u hu=>by match i with | 0=>(rw [add00]; exact q2 1 u hu) | i + 1=>simp at hu⟩
   have:=Rep.ept (off:=0) f1
   rw [add00] at this; exact this
  refine callW [yT] rfl rfl (enterT Try.func24 (by kernel_rfl) rfl) (by simp [hyT]) ?_
  refine (((itemsT_ok (en.dd.map itT) (by rw [List.length_map]; omega) (fun q hq=>by obtain ⟨a,_,rfl⟩:=List.mem_map.1 hq; rfl)).2 wT1 ST1 _ hT1.hi.lt (gd_all _ _) (Reps.cons repT (Reps.nil _ _))).mono fun _ _ h=>own_frz h).mono ?_
  rintro q wT2 ⟨zT,ST2,rfl,gT2,hzT⟩
  refine ⟨_,rfl,?_⟩
  obtain ⟨rowsT,hrowsT⟩ : ∃ rows,rows = en.dd.map itT:=⟨_,rfl⟩
  rw [← hrowsT] at hzT
  have hT2:=hT1.res (d:=42) (by decide) gT2 hzT
  have hBT2:=hBT1.grow gT2
  have hIT2:=hIT1.mono hIT1.or' (gT2.below.block r (hBT1.dom r 3 hIT1.or').2.1) (gT2.same hT1.hi.lt) gT2.sub
  obtain ⟨nT,hnT⟩ : ∃ n' : Int,n' = (en.dd.length : Int):=⟨_,rfl⟩
  refine hT2.pclg (E:={ n:=57 }) [(44,aI 0),(43,aI nT),(42,.sl rowsT),(18,.v (.pointer (some ⟨r,0,none⟩))),(7,.ept [.sl (en.lv.map itE),.sl (en.dd.map itT)] 0),(5,.v (.pointer (some ⟨b2,0,none⟩))),(4,.v (.pointer (some ⟨b1,0,none⟩)))] rfl (fun F C hF hC=>?_) fun ST3 aT3 wT3 hT3 gT3=>?_
  ·have tl : F .len rowsT = nT:=by rw [lenF hF,hrowsT,List.length_map,hnT]
   obtain ⟨q1,hq1⟩ : ∃ q,q = en.lv.map itE:=⟨_,rfl⟩
   obtain ⟨q2,hq2⟩ : ∃ q,q = en.dd.map itT:=⟨_,rfl⟩
   rw [← hq1,← hq2]
   clear hq1 hq2 hrowsT
   cbv
   rw [tl]
   exact ⟨100,(le_of [] (by simp [leSl,leOb,injK,memK,parK,noTup,lk,rn0,rnA,plain] <;> first | rfl | decide | (repeat (first | rfl | trivial | refine And.intro ?_ ?_))))⟩
  have hBT3:=hBT2.grow gT3
  have hIT3:=hIT2.mono hIT2.or' (gT3.below.block r (hBT2.dom r 3 hIT2.or').2.1) (gT3.same hT2.hi.lt) gT3.sub
  clear hT1 hT2 hBT1 hBT2 hIT1 hIT2 gT1 gT2 gT3 repT hzT hyT hE4 hBE4 hIE4
  show Code.wp Try.prog (Code.block _ _) _ _ _
  refine wp_block (loop_by (fun k a' w'=>k ≤ en.dd.length∧∃ S' o' u1 u2 l' k',k' = (k : Int)∧PS 57 w S [(44,aI k'),(43,aI nT),(42,.sl rowsT),(18,.v (.pointer (some ⟨r,0,none⟩))),(7,.ept [.sl (en.lv.map itE),.sl (en.dd.map itT)] 0),(5,.v (.pointer (some ⟨b2,0,none⟩))),(4,.v (.pointer (some ⟨b1,0,none⟩)))] S' a' w'∧BG w.heap.size S' o' b1 b2 u1 u2 lE l' w'∧IT σ S' o' r m es clock (seen.push e.born) w'∧Rise dT l'∧(∀ x,x ∈ l' ↔ x ∈ l2 ∨ ∃ j,j < k∧en.dd[j]? = some x)) (fun k=>en.dd.length - k) 0 ⟨Nat.zero_le _,ST3,_,_,_,l2,0,rfl,hT3,hBT3,hIT3,hrT,fun x=>⟨.inl,fun h=>h.elim id fun ⟨j,hj,_⟩=>absurd hj (Nat.not_lt_zero _)⟩⟩ fun k aa ww hI=>?_)
  clear hT3 hBT3 hIT3
  obtain ⟨hk,S3,o3,u1,u2,l3,k',ek,hs,hB3,hI3,hrl3,hm3⟩:=hI
  by_cases hkl : k < en.dd.length
  ·obtain ⟨x,hx⟩ : ∃ x,en.dd[k]? = some x:=⟨_,List.getElem?_eq_getElem hkl⟩
   have hrow : rowsT[k]? = some (itT x):=by rw [hrowsT,List.getElem?_map,hx]; rfl
   have hxin : x ∈ en.dd:=List.mem_of_getElem? hx
   obtain ⟨k2,ek2⟩ : ∃ k2 : Int,k2 = ((k + 1 : Nat) : Int):=⟨_,rfl⟩
   obtain ⟨q1,hq1⟩ : ∃ q,q = en.lv.map itE:=⟨_,rfl⟩
   obtain ⟨q2,hq2⟩ : ∃ q,q = en.dd.map itT:=⟨_,rfl⟩
   rw [← hq1,← hq2] at hs
   have hne : ∀ y ∈ l3,dT y ≠ dT x:=fun y hy hd=>by
    rcases (hm3 y).1 hy with h1 | ⟨j,hj,h1⟩
    ·obtain ⟨i',en',f1,f2,f3⟩:=(hmT y).1 h1
     have:=hU.uT i' i en' en y x f1 hen f3 hxin hd
     subst this
     exact hnsn f2
    ·have:=rise_inj hokT h1 hx hd
     omega
   have hl3 : l3.length ≤ 100000:=by
    have nd : l3.Nodup:=(List.pairwise_map.1 (rise_nodup hrl3)).imp fun h e=>h (by rw [e])
    refine Nat.le_trans (nd.length_le_of_subset fun y hy=>?_) hU.lD
    rcases (hm3 y).1 hy with h1 | ⟨j,hj,h1⟩
    ·obtain ⟨i',en',f1,f2,f3⟩:=(hmT y).1 h1
     exact (hU.mD y).2 ⟨en',List.mem_of_getElem? f1,f3⟩
    ·exact (hU.mD y).2 ⟨en,List.mem_of_getElem? hen,List.mem_of_getElem? h1⟩
   refine wp_seq (hs.pcg (E:={ n:=57 }) [(45,aB true),(44,aI k'),(43,aI nT),(42,.sl rowsT),(18,.v (.pointer (some ⟨r,0,none⟩))),(7,.ept [.sl (q1),.sl (q2)] 0),(5,.v (.pointer (some ⟨b2,0,none⟩))),(4,.v (.pointer (some ⟨b1,0,none⟩)))] rfl (fun F C D hF hC=>?_) fun S4 a4 w4 h4 g4=>?_)
   ·have tl : F .cmp .lss k' nT = true:=(ltF hF k en.dd.length k' nT ek hnT).2 hkl
    clear hq1 hq2 hrowsT hx hrow
    cbv
    rw [tl]
    exact ⟨100,(le_of [] (by simp [leSl,leOb,injK,memK,parK,noTup,lk,rn0,rnA,plain] <;> first | rfl | decide | (repeat (first | rfl | trivial | refine And.intro ?_ ?_))))⟩
   have hB4:=hB3.grow g4
   have hI4:=hI3.mono hI3.or' (g4.below.block r (hB3.dom r 3 hI3.or').2.1) (g4.same hs.hi.lt) g4.sub
   refine wp_seq (wp_cond_true (h4.val (t:=45) rfl) (wp_skip ?_))
   show Code.wp Try.prog (Code.seq _ _) _ _ _
   refine wp_seq (wp_block (wp_seq (h4.pcg (E:={ n:=57 }) [(11,.ept (itT x) 0),(44,aI k'),(43,aI nT),(42,.sl rowsT),(18,.v (.pointer (some ⟨r,0,none⟩))),(7,.ept [.sl (q1),.sl (q2)] 0),(5,.v (.pointer (some ⟨b2,0,none⟩))),(4,.v (.pointer (some ⟨b1,0,none⟩)))] rfl (fun F C D hF hC=>?_) fun S5 a5 w5 h5 g5=>?_)))
   ·clear hq1 hq2 hrowsT hx
    cbv
    refine ⟨k,_,ek,hrow,rfl,?_⟩
    cbv
    exact ⟨100,(le_of [] (by simp [leSl,leOb,injK,memK,parK,noTup,lk,rn0,rnA,plain] <;> first | rfl | decide | (repeat (first | rfl | trivial | refine And.intro ?_ ?_))))⟩
   have hB5:=hB4.grow g5
   have hI5:=hI4.mono hI4.or' (g5.below.block r (hB4.dom r 3 hI4.or').2.1) (g5.same h4.hi.lt) g5.sub
   refine wp_region_list ?_
   refine h5.preg (E:={ n:=57 }) 5 [(48,.v (.pointer (some ⟨b2,0,none⟩))),(50,.agg [aI (dT x).R,aI (dT x).N]),(52,.agg ((itT x).drop 2)),(44,aI k'),(43,aI nT),(42,.sl rowsT),(18,.v (.pointer (some ⟨r,0,none⟩))),(7,.ept [.sl (q1),.sl (q2)] 0),(5,.v (.pointer (some ⟨b2,0,none⟩))),(4,.v (.pointer (some ⟨b1,0,none⟩)))] rfl (fun F C hF hC=>?_) fun S6 a6 w6 h6 g6=>?_
   ·clear hq1 hq2 hrowsT hx hrow
    cbv
    exact ⟨100,(le_of [] (by simp [leSl,leOb,injK,memK,parK,noTup,lk,rn0,rnA,plain] <;> first | rfl | decide | (repeat (first | rfl | trivial | refine And.intro ?_ ?_))))⟩
   have hB6:=hB5.grow g6
   have hI6:=hI5.mono hI5.or' (g6.below.block r (hB5.dom r 3 hI5.or').2.1) (g6.same h5.hi.lt) g6.sub
   clear h4 h5 hB4 hB5 hI4 hI5 hs hB3 hI3
   obtain ⟨bg,bf⟩:=hB6.bag2
   have e1 : a6.eval (.tmp 50) = .agg (dT x).vs:=rep_agg_v (xs:=(dT x).vs.toList) (h6.hi.slots 50 _ rfl).2
   have e2 : a6.eval (.tmp 52) = .agg (xvT x):=rep_agg_v (xs:=(xvT x).toList) (h6.hi.slots 52 _ rfl).2
   refine callW [.pointer (some ⟨b2,0,none⟩),.agg (dT x).vs,.agg (xvT x)] rfl rfl (enterT Try.func30 (by kernel_rfl) rfl) (by simp [h6.val (t:=48) rfl,e1,e2]) ?_
   refine (putT w6 b2 0 _ l3 x bg bf hrl3 hne (by omega)).mono ?_
   rintro q w7 ⟨rfl,v7,hb7,hk7⟩
   refine ⟨_,rfl,?_⟩
   obtain ⟨o7,hB7,ho7,hold7⟩:=hB6.put2 h6.gr.below.size h6.hi.lt hb7 hk7
   have h7:=h6.outK (o:=o3) hB6.dom hk7.os hk7.tape hk7.output hk7.size 2 hold7
   have hI7:=hI6.mono (ho7 _ _ hI6.or') (hold7 r (hB6.dom r 3 hI6.or').2.1 (by rw [hI6.or']; decide)) (fun g hg=>hold7 g (h6.hi.lt g hg) fun e=>(hB6.dom g _ e).2.2 hg) (fun _ h=>h)
   show Code.wp Try.prog (Code.region _ _ _) _ _ _
   have h7:=h7.put (d:=53) (by decide) .dead trivial (v:=.tuple #[])
   refine h7.pcg (E:={ n:=57 }) [(44,aI k2),(43,aI nT),(42,.sl rowsT),(18,.v (.pointer (some ⟨r,0,none⟩))),(7,.ept [.sl (q1),.sl (q2)] 0),(5,.v (.pointer (some ⟨b2,0,none⟩))),(4,.v (.pointer (some ⟨b1,0,none⟩)))] rfl (fun F C D hF hC=>?_) fun S8 a8 w8 h8 g8=>?_
   ·have tl:=(incF hF ek (by omega)).trans ek2.symm
    clear hq1 hq2 hrowsT hx hrow
    cbv
    rw [tl]
    exact ⟨100,(le_of [] (by simp [leSl,leOb,injK,memK,parK,noTup,lk,rn0,rnA,plain] <;> first | rfl | decide | (repeat (first | rfl | trivial | refine And.intro ?_ ?_))))⟩
   have hB8:=hB7.grow g8
   have hI8:=hI7.mono hI7.or' (g8.below.block r (hB7.dom r 3 hI7.or').2.1) (g8.same h7.hi.lt) g8.sub
   rw [hq1,hq2] at h8
   refine ⟨k + 1,⟨hkl,S8,o7,_,_,insD dT l3 x,k2,ek2,h8,hB8,hI8,insD_rise hrl3 hne,fun y=>?_⟩,by omega⟩
   rw [insD_mem,hm3]
   constructor
   ·rintro (rfl | h1 | ⟨j,hj,h1⟩)
    ·exact .inr ⟨k,by omega,hx⟩
    ·exact .inl h1
    ·exact .inr ⟨j,by omega,h1⟩
   ·rintro (h1 | ⟨j,hj,h1⟩)
    ·exact .inr (.inl h1)
    ·by_cases hjk : j = k
     ·rw [hjk,hx] at h1; injection h1 with h1; exact .inl h1.symm
     ·exact .inr (.inr ⟨j,by omega,h1⟩)
  have hke : k = en.dd.length:=by omega
  refine wp_seq (hs.pcg (E:={ n:=57 }) [(45,aB false),(44,aI k'),(43,aI nT),(42,.sl rowsT),(18,.v (.pointer (some ⟨r,0,none⟩))),(7,.ept [.sl (en.lv.map itE),.sl (en.dd.map itT)] 0),(5,.v (.pointer (some ⟨b2,0,none⟩))),(4,.v (.pointer (some ⟨b1,0,none⟩)))] rfl (fun F C D hF hC=>?_) fun ST4 aT4 wT4 h4 g4=>?_)
  ·have tl : F .cmp .lss k' nT = false:=by rw [Bool.eq_false_iff]; exact fun hh=>hkl ((ltF hF k en.dd.length k' nT ek hnT).1 hh)
   obtain ⟨q1,hq1⟩ : ∃ q,q = en.lv.map itE:=⟨_,rfl⟩
   obtain ⟨q2,hq2⟩ : ∃ q,q = en.dd.map itT:=⟨_,rfl⟩
   rw [← hq1,← hq2]
   clear hq1 hq2 hrowsT
   cbv
   rw [tl]
   exact ⟨100,(le_of [] (by simp [leSl,leOb,injK,memK,parK,noTup,lk,rn0,rnA,plain] <;> first | rfl | decide | (repeat (first | rfl | trivial | refine And.intro ?_ ?_))))⟩
  have hBT4:=hB3.grow g4
  have hIT4:=hI3.mono hI3.or' (g4.below.block r (hB3.dom r 3 hI3.or').2.1) (g4.same hs.hi.lt) g4.sub
  refine wp_seq (wp_cond_false (h4.val (t:=45) rfl) (wp_exit ?_))
  have hT4:=(((h4.dr rfl).dr rfl).dr rfl).dr rfl
  clear hs h4 g4 hB3 hI3
  obtain ⟨lT,hlT⟩ : ∃ l,l = l3:=⟨_,rfl⟩
  rw [← hlT] at hBT4 hrl3 hm3
  have hrTn:=hrl3
  have hmTn:=hm3
  clear hrl3 hm3 hlT
  subst hke
  refine ⟨(leftOf es (seen.push e.born)).size,⟨ST4,o3,_,_,lE,lT,seen.push e.born,hT4.sub (fun t x ht=>?_),hBT4,hIT4,hrEn,hrTn,mem_step hIT4.nd hie hen hmE hmEn,mem_step hIT4.nd hie hen hmT hmTn,rfl⟩,by rw [hkk]; exact left_shrinks es seen e hel0⟩
  simp only [lk] at ht ⊢
  by_cases e1 : 18 = t
  ·rw [if_pos e1] at ht ⊢; exact ht
  ·rw [if_neg e1] at ht ⊢
   by_cases e2 : 7 = t
   ·subst e2; simp at ht
   ·rw [if_neg e2]; exact ht
end Go.Proofs.Ytdnaadcbimbfmaa
namespace Go.Proofs.Ytdnaadcbimbfmaa
open Go Go.RowKit Am
theorem q_sliceB {a : Act} {w : World} {o : Oper} {t : Nat} {ad : Addr} (h : o.op = .slice 29 (.tmp t) none (some (.const (.int .i64 16))) (some (.const (.int .i64 16)))) (e : a.eval (.tmp t) = .pointer (some ad)) : (execOp a.eval o).run Try.prog w = .ok (.value (.slice (some ad) 16 16)) w:=by
 have h1 : Try.prog.underlying 29 = some (.array (Try.prog.arrayLen 29) (Try.prog.elem 29)):=by kernel_rfl
 have h2 : Try.prog.arrayLen 29 = 16:=by kernel_rfl
 have h3 : (sizeOf (Try.prog.elem 29)).run Try.prog w = .ok 1 w:=by kernel_rfl
 have:=run_sliceAt_array_hm (P:=Try.prog) w 29 ad h1 .i64 .i64 16 16 (by omega) (by omega) (by rw [h2]; omega)
 rw [h3] at this
 simp [slicedAt] at this
 have ec : a.eval (.const (.int .i64 16)) = .int .i64 16:=rfl
 simp [execOp,h,e,ec,this,add00]
set_option maxRecDepth 100000 in
theorem run_append_full (w : World) (t ty e : TypeId) (i : TypeInfo) (z : Value) (size bytes : Nat) (ht : Try.prog.underlying t = some (.slice e)) (hi : Try.prog.info? e = some i) (hz : i.zero = some z)
  (hsize : i.size = size) (hby : i.bytes = bytes) (hzs : z.cells.size = size) (b : Addr) (n : Nat) (olds : List Value) (hlo : olds.length = n * size) (holds : ∀ j u,olds[j]? = some u→w.cell? (b.add j) = some u)
  (a : Addr) (m c : Nat) (hm : 0 < m) (news : List Value) (hl : news.length = m * size) (hnews : ∀ j u,news[j]? = some u→w.cell? (a.add j) = some u) (h63 : n + m ≤ maxLen) (hbytes : (n + m) * bytes ≤ 140737488355328) :
  ∃ v' w',(Builtin.append_ #[t,t] ty #[.slice (some b) n n,.slice (some a) m c]).run Try.prog w = .ok v' w'∧OwnR w' w.heap.size e size v' (n + m) (olds ++ news)∧Below w.heap.size w w':=by
 subst hsize
 subst hby
 have hsmall : n + m ≤ 9223372036854775807:=by simp only [maxLen] at h63; omega
 have hr:=run_append_grow (P:=Try.prog) w t ty e i z ht hi hz b n n olds hlo holds a m c news hl hnews (by omega) (by omega) (growslice_fits (by omega) hbytes)
 have hlen : (olds ++ news).length = (n + m) * i.size:=by rw [List.length_append,hlo,hl,Nat.add_mul]
 have hge:=grownCap_ge w (n + m) n e
 have hcm : grownCap w (n + m) n e ≤ maxLen:=grownCap_le_maxLen w (n + m) n e h63
 refine ⟨_,_,hr,⟨hlen,.inr ⟨w.heap.size,_,_,(0,0),rfl,Nat.le_refl _,heap_alloc_new w.drew _,.inl rfl,hge,hcm,?_,?_⟩⟩,(Below.refl _ _).drew.alloc (Nat.le_refl _) _⟩
 ·simp only [Array.size_append,List.size_toArray,size_zeroCells,hzs,hlo,hl,← Nat.add_mul]
  congr 1
  omega
 ·simp only [Array.toList_append,List.append_assoc]
  rw [← List.append_assoc,← hlen]
  exact List.take_left
def spI (v : VV) (t : Int) : List Int:=[v 0,v 1,v 2,v 3,v 4,v 5,v 6,v 7,v 8,v 9,v 10,v 11,v 12,v 13,v 14,v 15,t]
def spW (v : VV) (t : Int) : List Value:=(spI v t).map vI
def spShape : List (Option Nat × Op):=[(some 16,.move (.tmp 0)),(some 17,.nilCheck (.tmp 16)),(some 18,.fieldAddr 52 (.tmp 17) 1),(some 19,.slice 29 (.tmp 18) none (some (.const (.int .i64 16))) (some (.const (.int .i64 16)))),(some 20,.move (.tmp 0)),(some 21,.nilCheck (.tmp 20)),(some 22,.fieldAddr 52 (.tmp 21) 2),(some 23,.load 3 (.tmp 22)),(some 24,.buildSlice 54 1 #[(0,.tmp 23)]),(some 25,.call { callee:=.builtin .append,args:=#[.tmp 19,.tmp 24],argTypes:=#[54,54] }),(some 26,.call { callee:=.builtin .len,args:=#[.tmp 25],argTypes:=#[54] }),(some 27,.move (.const (.int .i64 0)))]
def spNeed : Nat→List Nat
 | 1=>[0] | 2=>[1] | 3=>[2] | 5=>[4] | 6=>[5] | 7=>[6] | 8=>[7] | 9=>[3,8] | 10=>[9] | _=>[]
def spVal (ae : Addr) (t : Int) (q : Nat) : Option Value :=
 match q with
 | 0=>some (.pointer (some ae)) | 1=>some (.pointer (some ae)) | 2=>some (.pointer (some (ae.add 1))) | 3=>some (.slice (some (ae.add 1)) 16 16) | 4=>some (.pointer (some ae)) | 5=>some (.pointer (some ae))
 | 6=>some (.pointer (some (ae.add 17))) | 7=>some (vI t) | 10=>some (vI 17) | 11=>some (vI 0) | _=>none
def spT (v : VV) (t : Int) (W : World) (k : Nat) (f : Nat→Value) (w : World) : Prop :=
 match k with
 | 0=>w = W
 | 1=>w = W.alloc (.cells #[vI t] 3)∧f 24 = .slice (some ⟨W.heap.size,0,none⟩) 1 1
 | _=>Below W.heap.size W w∧OwnR w W.heap.size 3 1 (f 25) 17 (spW v t)
theorem spT_below {v : VV} {t : Int} {W w : World} {k : Nat} {f : Nat→Value} (h : spT v t W k f w) : Below W.heap.size W w:=by
 match k,h with
 | 0,h=>rw [show w = W from h]; exact Below.refl _ _
 | 1,h=>rw [h.1]; exact (Below.refl _ _).alloc (Nat.le_refl _) _
 | _ + 2,h=>exact h.1
theorem spBuild (x : Int) (w : World) : (Instr.buildSlice 54 1 #[(0,vI x)]).run Try.prog w = .ok (.slice (some ⟨w.heap.size,0,none⟩) 1 1) (w.alloc (.cells #[vI x] 3)):=by kernel_rfl
set_option maxHeartbeats 4000000 in
set_option maxRecDepth 100000 in
theorem sp_region {id : Nat} {ops : List Oper} {Q : Exit→Act→World→Prop} {a0 : Act} {w : World} (ae : Addr) (v : VV) (t : Int) (hops : ops.map (fun o=>(o.dst,o.op)) = spShape) (hdep : depsC spNeed ops = true) (hz : a0.tmps.size = 91)
  (h0 : a0.eval (.tmp 0) = .pointer (some ae)) (hlt : ae.block < w.heap.size) (cv : ∀ j u,(vvs v).toList[j]? = some u→w.cell? (ae.add (1 + j)) = some u) (ct : w.cell? (ae.add 17) = some (vI t))
  (hQ : ∀ a' w',a'.tmps.size = 91→a'.defers = a0.defers→Below w.heap.size w w'→OwnR w' w.heap.size 3 1 (a'.eval (.tmp 25)) 17 (spW v t)→a'.eval (.tmp 26) = vI 17→a'.eval (.tmp 27) = vI 0→(∀ t,(∀ (j : Nat) (op : Op),spShape[j]? ≠ some (some t,op))→a'.eval (.tmp t) = a0.eval (.tmp t))→Q .normal a' w') : (Code.region id ops.toArray true).wp Try.prog Q a0 w:=by
 have kc : ∀ {w' : World} (k : Nat) (u : Value),Below w.heap.size w w'→w.cell? (ae.add k) = some u→w'.cell? (ae.add k) = some u:=fun k u hb h=>(World.cell?_of_block (hb.block _ (by rw [add_blk]; exact hlt))).trans h
 refine region_chain mixed 91 hz spShape hops spNeed hdep (by decide) (spVal ae t) [8,9] (spT v t w.drew) (fun k f f' w1 hT hk=>?_) (by decide) (fun q hq=>?_) (fun m hm=>?_) (by decide) (fun p m m' h1 h2=>?_) ?_ ?_ ?_ (fun a' w' hs hd hT hv hoth=>?_)
 ·match k,hT with
  | 0,hT=>exact hT
  | 1,hT=>exact ⟨hT.1,by rw [hk 8 (by simp) 24 _ rfl]; exact hT.2⟩
  | _ + 2,hT=>exact ⟨hT.1,by rw [hk 9 (by simp) 25 _ rfl]; exact hT.2⟩
 ·have hq : q < 12:=hq
  obtain rfl | rfl | rfl | rfl | rfl | rfl | rfl | rfl | rfl | rfl | rfl | rfl : q = 0 ∨ q = 1 ∨ q = 2 ∨ q = 3 ∨ q = 4 ∨ q = 5 ∨ q = 6 ∨ q = 7 ∨ q = 8 ∨ q = 9 ∨ q = 10 ∨ q = 11:=by omega
  all_goals first | exact .inl rfl | exact .inr (by simp)
 ·simp only [List.mem_cons,List.not_mem_nil,or_false] at hm
  rcases hm with rfl | rfl <;> rfl
 ·match p with
  | 0=>injection h1 with h1; injection h2 with h2; subst h1; subst h2; simp [spNeed]
  | 1=>simp at h2
  | _ + 2=>simp at h1
 ·exact rfl
 ·intro q dd op uu hsh hv k a w' hT hlim hn hpp hk o ho
  have hq : q < 12:=(List.getElem?_eq_some_iff.1 hsh).1
  have e0:=(hk 0 (notD (by rfl))).trans h0
  have hb : Below w.heap.size w w':=(Below.refl _ _).drew.trans (spT_below hT)
  obtain rfl | rfl | rfl | rfl | rfl | rfl | rfl | rfl | rfl | rfl | rfl | rfl : q = 0 ∨ q = 1 ∨ q = 2 ∨ q = 3 ∨ q = 4 ∨ q = 5 ∨ q = 6 ∨ q = 7 ∨ q = 8 ∨ q = 9 ∨ q = 10 ∨ q = 11:=by omega
  all_goals first | (cases hv; done) | (injection hsh with hsh; obtain ⟨rfl,rfl⟩:=Prod.mk.inj hsh; injection hv with hv; subst hv)
  ·exact q_move ho e0
  ·exact q_nil ho (hn 0 (by decide) _ 16 _ rfl rfl)
  ·exact q_fld (ti:=ti52) (off:=1) (sz:=16) rfl rfl ho (hn 1 (by decide) _ 17 _ rfl rfl)
  ·exact q_sliceB ho (hn 2 (by decide) _ 18 _ rfl rfl)
  ·exact q_move ho e0
  ·exact q_nil ho (hn 4 (by decide) _ 20 _ rfl rfl)
  ·exact q_fld (ti:=ti52) (off:=17) (sz:=1) rfl rfl ho (hn 5 (by decide) _ 21 _ rfl rfl)
  ·exact q_load1 (ti:=ti3) rfl rfl ho (hn 6 (by decide) _ 22 _ rfl rfl) (kc 17 _ hb ct)
  ·have h9:=hpp 9 (by decide) 1 rfl
   match k,hT with
   | 0,_=>omega
   | 1,_=>omega
   | _ + 2,hT =>
    rcases hT.2.2 with ⟨_,h0⟩ | ⟨g,cap,cur,fr,hv24,_⟩
    ·cases h0
    ·have e24 : a.eval (.tmp 25) = .slice (some ⟨g,0,none⟩) 17 cap:=hv24
     have hu:=(gam_ok 54 _ rfl).kind.1
     simp [execOp,ho,resolve,invoke,builtin,e24,Builtin.len_,run_underlying hu]
     rfl
  ·simp [execOp,ho]; rfl
 ·intro k m dd op hkm hsh a w' hza hT hn hk o hd ho
  match k with
  | 0 =>
   injection hkm with hkm; subst hkm; injection hsh with hsh; obtain ⟨rfl,rfl⟩:=Prod.mk.inj hsh
   have hT : w' = w.drew:=hT
   subst hT
   have e23:=hn 7 (by decide) _ 23 _ rfl rfl
   have hb:=spBuild t w.drew
   refine exec_val (w':=w.drew.alloc (.cells #[vI t] 3)) (v:=.slice (some ⟨w.drew.heap.size,0,none⟩) 1 1) (by simp [execOp,ho,e23,hb]) ⟨_,by rw [hd],rfl,?_⟩
   rw [hd]
   exact put_eq (by rw [hza]; decide)
  | 1 =>
   injection hkm with hkm; subst hkm; injection hsh with hsh; obtain ⟨rfl,rfl⟩:=Prod.mk.inj hsh
   obtain ⟨hw',h24⟩:=hT
   have e24 : a.eval (.tmp 24) = _:=h24
   have e19:=hn 3 (by decide) _ 19 _ rfl rfl
   have hb : Below w.heap.size w w':=by rw [hw']; exact (Below.refl w.heap.size w).drew.alloc (Nat.le_refl _) _
   obtain ⟨i0,hi0,hz0,hs0,hb0⟩:=infoInt
   have hu:=(gam_ok 54 _ rfl).kind.1
   have hnew : w'.heap[w.heap.size]? = some (.cells #[vI t] 3 (0,0)):=by rw [hw']; exact heap_alloc_new w.drew _
   obtain ⟨v',w2,k1,k2,k3⟩:=run_append_full w' 54 o.type 3 i0 (.int .i64 0) 1 8 hu hi0 hz0 hs0 hb0 rfl (ae.add 1) 16 ((vvs v).toList) rfl (fun j u hj=>by
    rw [Addr.add_add]
    exact kc (1 + j) u hb (cv j u hj)) ⟨w.heap.size,0,none⟩ 1 1 (by decide) [vI t] rfl (fun j u hj=>by
    match j with
    | 0=>rw [add00,cell_of_row _ _ 0 _ _ _ hnew]; exact hj
    | j + 1=>simp at hj) (by unfold maxLen; omega) (by omega)
   refine exec_val (w':=w2) (v:=v') (by simp [execOp,ho,resolve,invoke,builtin,e19,e24]; rw [show (Builtin.append_ #[54,54] o.type #[.slice (some (ae.add 1)) 16 16,.slice (some ⟨w.heap.size,0,none⟩) 1 1]).run Try.prog w' = .ok v' w2 from k1]; rfl) ⟨_,by rw [hd],?_,?_⟩
   ·have h1 : Below w.drew.heap.size w.drew w':=by rw [hw']; exact (Below.refl _ _).alloc (Nat.le_refl _) _
    exact h1.trans (k3.mono h1.size)
   ·rw [hd,tf,put_eq (by rw [hza]; decide)]
    refine ownsRow_up k2 (fun g hg=>?_)
    have:=(k2.lt g hg).1
    have:=hb.size
    show w.heap.size ≤ g
    omega
  | _ + 2=>simp at hkm
 ·exact hQ a' w' hs hd ((Below.refl _ _).drew.trans hT.1) hT.2 (hv 10 _ 26 _ rfl rfl) (hv 11 _ 27 _ rfl rfl) fun t ht=>hoth t fun j op=>ht j op
end Go.Proofs.Ytdnaadcbimbfmaa
