import Derived.Test.YtdnaadcbimbfmaaG11
import Derived.Test.YtdnaadcbimbfmaaG12
set_option linter.unusedSimpArgs false
set_option linter.unusedVariables false
namespace Go.Proofs.Ytdnaadcbimbfmaa
open Go Go.RowKit Am
def tmbL (x : ElT) : List UInt8:=(vlqL (uN x.2.R) ++ vlqL (uN x.2.N)) ++ evtL x.1
def evsL (A : List Ev) : List UInt8:=(A.map evtL).flatten
def tmsL (D : List ElT) : List UInt8:=(D.map tmbL).flatten
def spL (v : VV) (t : Int) (A : List Ev) (D : List ElT) : List UInt8:=(((numL (spI v t) ++ vlqL A.length) ++ evsL A) ++ vlqL D.length) ++ tmsL D
theorem evsL_len (A : List Ev) (h : ∀ e ∈ A,EvOK e) : (evsL A).length ≤ 1320 * A.length:=by
 induction A with
 | nil=>simp [evsL]
 | cons x xs ih =>
  have h1:=evtL_len x (h x (List.mem_cons_self ..))
  have h2:=ih fun e he=>h e (List.mem_cons_of_mem _ he)
  simp only [evsL,List.map_cons,List.flatten_cons,List.length_append,List.length_cons] at h2 ⊢
  omega
theorem tmsL_len (D : List ElT) (h : ∀ e ∈ D,EvOK e.1) : (tmsL D).length ≤ 1340 * D.length:=by
 induction D with
 | nil=>simp [tmsL]
 | cons x xs ih =>
  have h1:=evtL_len x.1 (h x (List.mem_cons_self ..))
  have h2:=ih fun e he=>h e (List.mem_cons_of_mem _ he)
  have h3:=vlq_len _ (uN_lt x.2.R)
  have h4:=vlq_len _ (uN_lt x.2.N)
  simp only [tmsL,tmbL,List.map_cons,List.flatten_cons,List.length_append,List.length_cons] at h2 ⊢
  omega
theorem evsL_snoc (A : List Ev) (x : Ev) : evsL (A ++ [x]) = evsL A ++ evtL x:=by simp [evsL]
theorem tmsL_snoc (A : List ElT) (x : ElT) : tmsL (A ++ [x]) = tmsL A ++ tmbL x:=by simp [tmsL]
set_option maxHeartbeats 8000000 in
set_option maxRecDepth 100000 in
theorem encode_ok (σ : Sp) (A : List Ev) (D : List ElT) (hU : SpU σ A D) (hlen : σ.es.length = σ.ks.length) (hA : A.length ≤ 1000) (hD : D.length ≤ 1000) (oA : ∀ e ∈ A,EvOK e) (oD : ∀ e ∈ D,EvOK e.1) (s : ByteArray) (hs : s = BA (spL σ.vv σ.tm A D)) : CSem Try.prog (.fn 9) [.ept (spA (mapA σ) σ.vv σ.tm) 0] (.pure [aS s]):=by
 have hall:=all_ok σ A D hU hlen
 obtain ⟨v,hv⟩ : ∃ v,v = σ.vv:=⟨_,rfl⟩
 obtain ⟨tm,htm⟩ : ∃ t,t = σ.tm:=⟨_,rfl⟩
 obtain ⟨mA,hmA⟩ : ∃ mA,mA = mapA σ:=⟨_,rfl⟩
 rw [← hv,← htm,← hmA] at hall ⊢
 rw [← hv,← htm] at hs
 have hpl : plain mA = mA:=by rw [hmA]; unfold mapA; split <;> rfl
 refine acall_hand 91 Try.func9 (by kernel_rfl) rfl rfl (by simp) fun w S a h=>?_
 obtain ⟨spa,hspa⟩ : ∃ x,x = spA mA v tm:=⟨_,rfl⟩
 rw [← hspa] at h hall
 refine wp_seq (h.pc (E:={ n:=91 }) [(0,.ept spa 0)] rfl (fun F C D hF hC=>?_) fun S1 a1 w1 h1=>?_)
 ·cbv
  exact ⟨100,(le_of [] (by simp [leSl,leOb,injK,memK,parK,noTup,lk,rn0,rnA,plain] <;> first | rfl | decide | (repeat (first | rfl | trivial | refine And.intro ?_ ?_))))⟩
 clear h
 refine wp_seq (wp_seq (h1.pc (E:={ n:=91 }) [(13,aB false),(0,.ept spa 0)] rfl (fun F C D hF hC=>?_) fun S2 a2 w2 h2=>?_))
 ·have nilp:=hC _ _ _ (show CSem Try.prog (.nilp 25) [] (.pure []) from (show Try.prog.underlying 25 = _ from by kernel_rfl))
  cbv
  refine ⟨nilp,?_⟩
  cbv
  exact ⟨100,(le_of [] (by simp [leSl,leOb,injK,memK,parK,noTup,lk,rn0,rnA,plain] <;> first | rfl | decide | (repeat (first | rfl | trivial | refine And.intro ?_ ?_))))⟩
 clear h1
 refine wp_cond_false (h2.val (t:=13) rfl) (wp_skip ?_)
 show Code.wp Try.prog (Code.seq _ _) _ _ _
 refine wp_seq (h2.pc (E:={ n:=91 }) [(3,.sl []),(0,.ept spa 0)] rfl (fun F C D hF hC=>?_) fun S3 a3 w3 h3=>?_)
 ·cbv
  exact ⟨100,Le.trans (le_nilS 3 rfl) (le_of [] (by simp [leSl,leOb,injK,memK,parK,noTup,lk,rn0,rnA,plain] <;> first | rfl | decide | (repeat (first | rfl | trivial | refine And.intro ?_ ?_))))⟩
 clear h2
 show Code.wp Try.prog (Code.seq _ _) _ _ _
 obtain ⟨ae,hae,hcel⟩ : ∃ ae,a3.eval (.tmp 0) = .pointer (some ae)∧∀ (i : Nat) (u : AV),spa[i]? = some u→∃ y,w3.cell? (ae.add i) = some y∧RepC w3 S3 u y:=by
  obtain ⟨ad,q1,q2⟩:=Rep.ept_inv (h3.hi.slots 0 _ rfl).2
  exact ⟨ad,by rw [evT,q1,add00],q2.2⟩
 have hcv : ∀ (i : Nat) (u : Value),spa[i]? = some (.v u)→w3.cell? (ae.add i) = some u:=fun i u hi=>by
  obtain ⟨y,q1,q2⟩:=hcel i _ hi
  rw [q1,rep_v (.c q2)]
 have hct : w3.cell? (ae.add 17) = some (vI tm):=hcv 17 _ (by rw [hspa]; rfl)
 have hcvv : ∀ j u,(vvs v).toList[j]? = some u→w3.cell? (ae.add (1 + j)) = some u:=fun j u hj=>by
  refine hcv (1 + j) u ?_
  have hj16 : j < 16:=(List.getElem?_eq_some_iff.1 hj).1
  rw [hspa,Nat.add_comm]
  have : (spA mA v tm)[j + 1]? = (((vvs v).toList.map AV.v) ++ [aI tm])[j]?:=rfl
  rw [this,List.getElem?_append_left (by rw [List.length_map]; exact hj16),List.getElem?_map,hj]
  rfl
 have hlt : ae.block < w3.heap.size:=by have:=block_lt_of_cell hct; rwa [add_blk] at this
 refine wp_seq (wp_seq (sp_region ae v tm rfl (by kernel_rfl) h3.hi.size hae hlt hcvv hct fun a4 w4 hz4 hd4 hb4 hown4 h26 h27 ho4=>?_))
 have h4:=h3.reg hz4 hd4 spShape rfl ho4
 obtain ⟨g4,rep4⟩:=gr_row (rows:=intR (spI v tm)) (zs:=spW v tm) (S:=S3) h3.hi.lt hb4 hown4 (repl_map_v (spW v tm) (List.all_eq_true.1 (show (spW v tm).all (fun v=>v.oneCell') = true from rfl))) (fun r hr=>by obtain ⟨x,_,rfl⟩:=List.mem_map.1 hr; rfl)
 have h5:=(((h4.out g4).add (d:=25) (by decide) _ (srep_of_rep rep4)).addV (d:=26) (by decide) rfl h26).addV (d:=27) (by decide) rfl h27
 clear h4 h3 rep4 hcel hcv hct hcvv
 have hev : ∀ i,i < 17→∃ x,(spI v tm)[i]? = some x:=fun i hi=>⟨_,List.getElem?_eq_getElem (show i < (spI v tm).length from hi)⟩
 obtain ⟨ns,hns⟩ : ∃ ns,ns = spI v tm:=⟨_,rfl⟩
 have hnl : ns.length = 17:=by rw [hns]; rfl
 rw [← hns] at h5 hev
 obtain ⟨rows,hrows⟩ : ∃ rows,rows = intR ns:=⟨_,rfl⟩
 rw [← hrows] at h5
 obtain ⟨b1,hb1⟩ : ∃ b1,b1 = byR (numL ns):=⟨_,rfl⟩
 show Code.wp Try.prog (Code.block 0 _) _ a4 w4
 refine h5.pc (E:={ n:=91 }) [(3,.sl b1),(0,.ept spa 0)] rfl (fun F C D hF hC=>?_) fun S6 a6 w6 h6=>?_
 ·cbv
  refine ⟨Nat × Int × List (List AV),fun y=>{ slots:=[(27,aI y.2.1),(26,aI 17),(25,.sl rows),(3,.sl y.2.2),(0,.ept spa 0)],obs:=[],ctr:=0 },fun y=>y.2.1 = (y.1 : Int)∧y.1 ≤ 17∧y.2.2 = byR (numL (ns.take y.1)),fun y=>17 - y.1,⟨(0,0,[]),⟨rfl,Nat.zero_le _,rfl⟩,(le_of [] (by simp [leSl,leOb,injK,memK,parK,noTup,lk,rn0,rnA,plain] <;> first | rfl | decide | (repeat (first | rfl | trivial | refine And.intro ?_ ?_))))⟩,fun y hy=>?_⟩
  obtain ⟨i,i',bs⟩:=y
  obtain ⟨ei,hi,hbs⟩:=hy
  simp only at ei hi hbs
  have tl:=ltF hF i 17 i' 17 ei rfl
  by_cases hi17 : i < 17
  ·have tl : F .cmp .lss i' 17 = true:=tl.2 hi17
   obtain ⟨x,hx⟩:=hev i hi17
   have hrow : rows[i]? = some [aI x]:=by rw [hrows,intR,List.getElem?_map,hx]; rfl
   obtain ⟨u,hu⟩ : ∃ u : Int,u = ((uN x : Nat) : Int):=⟨_,rfl⟩
   have hw : F .wrp .u64 x = u:=(wrpN hF x).trans hu.symm
   have kp:=hC _ _ _ (put_ok (numL (ns.take i)) (by have:=numL_len (ns.take i); rw [List.length_take] at this; omega) (uN x) (uN_lt x))
   obtain ⟨b2,hb2⟩ : ∃ b2,b2 = byR (numL (ns.take i) ++ vlqL (uN x)):=⟨_,rfl⟩
   rw [← hbs,← hu,← hb2] at kp
   have hb3 : b2 = byR (numL (ns.take (i + 1))):=by rw [hb2,List.take_add_one,hx]; simp only [Option.toList_some]; rw [numL_snoc]
   obtain ⟨i2,hi2⟩ : ∃ i2,F .ar .add .i64 i' 1 = i2:=⟨_,rfl⟩
   have ei2 : i2 = ((i + 1 : Nat) : Int):=hi2.symm.trans (incF hF ei (by omega))
   have hmu : 17 - (i + 1) < 17 - i:=by omega
   clear hu hb2 hbs hev
   cbv
   refine bT (tl) ?_
   cbv
   refine ⟨i,_,ei,hrow,rfl,?_⟩
   cbv
   rw [hw]
   refine ⟨_,kp,?_⟩
   cbv
   rw [hi2]
   exact ⟨(i + 1,i2,b2),⟨ei2,hi17,hb3⟩,hmu,(le_of [] (by simp [leSl,leOb,injK,memK,parK,noTup,lk,rn0,rnA,plain] <;> first | rfl | decide | (repeat (first | rfl | trivial | refine And.intro ?_ ?_))))⟩
  ·have tl : F .cmp .lss i' 17 = false:=by rw [Bool.eq_false_iff]; exact fun h=>hi17 (tl.1 h)
   have hi9 : i = 17:=by omega
   have hbe : bs = b1:=by rw [hbs,hb1,hi9,← hnl,List.take_length]
   clear hbs hev
   subst hbe
   cbv
   refine bF (tl) ?_
   cbv
   exact ⟨100,(le_of [] (by simp [leSl,leOb,injK,memK,parK,noTup,lk,rn0,rnA,plain] <;> first | rfl | decide | (repeat (first | rfl | trivial | refine And.intro ?_ ?_))))⟩
 clear h5
 obtain ⟨rA,hrA⟩ : ∃ r,r = A.map itE:=⟨_,rfl⟩
 obtain ⟨rD,hrD⟩ : ∃ r,r = D.map itT:=⟨_,rfl⟩
 have rlA : rA.length = A.length:=by rw [hrA,List.length_map]
 have rlD : rD.length = D.length:=by rw [hrD,List.length_map]
 have ronA : ∀ r ∈ rA,r.length = 28:=by rw [hrA]; exact fun r hr=>by obtain ⟨a,_,rfl⟩:=List.mem_map.1 hr; rfl
 have ronD : ∀ r ∈ rD,r.length = 30:=by rw [hrD]; exact fun r hr=>by obtain ⟨a,_,rfl⟩:=List.mem_map.1 hr; rfl
 rw [← hrA,← hrD] at hall
 show Code.wp Try.prog (Code.seq _ _) _ _ _
 refine wp_seq (h6.pc (E:={ n:=91 }) [(7,.ept [.sl rD] 0),(6,.ept [.sl rA] 0),(3,.sl b1)] rfl (fun F C D hF hC=>?_) fun S7 a7 w7 h7=>?_)
 ·have ka:=hC _ _ _ hall
  clear hall
  cbv
  refine ⟨_,ka,?_⟩
  cbv
  exact ⟨100,(le_of [] (by simp [leSl,leOb,injK,memK,parK,noTup,lk,rn0,rnA,plain] <;> first | rfl | decide | (repeat (first | rfl | trivial | refine And.intro ?_ ?_))))⟩
 clear h6
 have nl1 : (numL ns).length ≤ 170:=by have:=numL_len ns; rw [hnl] at this; omega
 have hvA:=vlq_len A.length (by omega)
 have hvD:=vlq_len D.length (by omega)
 have hLA:=evsL_len A oA
 have hLD:=tmsL_len D oD
 obtain ⟨l2,hl2⟩ : ∃ l,l = numL ns ++ vlqL A.length:=⟨_,rfl⟩
 have nl2 : l2.length ≤ 180:=by rw [hl2,List.length_append]; omega
 obtain ⟨b2,hb2⟩ : ∃ b,b = byR l2:=⟨_,rfl⟩
 show Code.wp Try.prog (Code.seq _ _) _ _ _
 refine wp_seq (h7.pc (E:={ n:=91 }) [(7,.ept [.sl rD] 0),(6,.ept [.sl rA] 0),(3,.sl b2)] rfl (fun F C D hF hC=>?_) fun S8 a8 w8 h8=>?_)
 ·obtain ⟨n',hn'⟩ : ∃ n' : Int,n' = (A.length : Int):=⟨_,rfl⟩
  have kl:=hC _ _ _ (lenE_ok rA n' (by rw [hn',rlA]))
  have kp:=hC _ _ _ (put_ok (numL ns) (by omega) A.length (by omega))
  rw [← hb1,← hl2,← hb2,← hn'] at kp
  have hw : F .wrp .u64 n' = n':=by rw [hF,hn']; exact IntWalk.u64_in _ (by omega)
  clear hall hn'
  cbv
  refine ⟨_,kl,?_⟩
  cbv
  rw [hw]
  refine ⟨_,kp,?_⟩
  cbv
  exact ⟨100,(le_of [] (by simp [leSl,leOb,injK,memK,parK,noTup,lk,rn0,rnA,plain] <;> first | rfl | decide | (repeat (first | rfl | trivial | refine And.intro ?_ ?_))))⟩
 clear h7
 obtain ⟨nA,hnA⟩ : ∃ n' : Int,n' = (A.length : Int):=⟨_,rfl⟩
 show Code.wp Try.prog (Code.seq _ _) _ _ _
 refine wp_seq (wp_seq (h8.pc (E:={ n:=91 }) [(49,aI 0),(48,aI nA),(47,.sl rA),(7,.ept [.sl rD] 0),(3,.sl b2)] rfl (fun F C D hF hC=>?_) fun S9 a9 w9 h9=>?_))
 ·have ki:=hC _ _ _ (itemsE_ok rA (by omega) ronA)
  have tl : F .len rA = nA:=by rw [lenF hF,rlA,hnA]
  clear hall
  cbv
  refine ⟨_,ki,?_⟩
  cbv
  rw [tl]
  exact ⟨100,(le_of [] (by simp [leSl,leOb,injK,memK,parK,noTup,lk,rn0,rnA,plain] <;> first | rfl | decide | (repeat (first | rfl | trivial | refine And.intro ?_ ?_))))⟩
 clear h8
 obtain ⟨l3,hl3⟩ : ∃ l,l = l2 ++ evsL A:=⟨_,rfl⟩
 have nl3 : l3.length ≤ 1400000:=by rw [hl3,List.length_append]; omega
 obtain ⟨b3,hb3⟩ : ∃ b,b = byR l3:=⟨_,rfl⟩
 show Code.wp Try.prog (Code.block 2 _) _ _ _
 refine h9.pc (E:={ n:=91 }) [(7,.ept [.sl rD] 0),(3,.sl b3)] rfl (fun F C D hF hC=>?_) fun S10 a10 w10 h10=>?_
 ·clear hall
  cbv
  refine ⟨Nat × Int × List (List AV),fun y=>{ slots:=[(49,aI y.2.1),(48,aI nA),(47,.sl rA),(7,.ept [.sl rD] 0),(3,.sl y.2.2)],obs:=[],ctr:=0 },fun y=>y.2.1 = (y.1 : Int)∧y.1 ≤ A.length∧y.2.2 = byR (l2 ++ evsL (A.take y.1)),fun y=>A.length - y.1,⟨(0,0,b2),⟨rfl,Nat.zero_le _,by rw [hb2]; simp [evsL]⟩,(le_of [] (by simp [leSl,leOb,injK,memK,parK,noTup,lk,rn0,rnA,plain] <;> first | rfl | decide | (repeat (first | rfl | trivial | refine And.intro ?_ ?_))))⟩,fun y hy=>?_⟩
  obtain ⟨i,i',bs⟩:=y
  obtain ⟨ei,hi,hbs⟩:=hy
  simp only at ei hi hbs
  have tl:=ltF hF i A.length i' nA ei hnA
  by_cases hil : i < A.length
  ·have tl : F .cmp .lss i' nA = true:=tl.2 hil
   obtain ⟨x,hx⟩ : ∃ x,A[i]? = some x:=⟨_,List.getElem?_eq_getElem hil⟩
   have hrow : rA[i]? = some (itE x):=by rw [hrA,List.getElem?_map,hx]; rfl
   have hlt1 : (evsL (A.take i)).length ≤ 1320 * 1000:=by
    have:=evsL_len (A.take i) (fun e he=>oA e (List.mem_of_mem_take he))
    rw [List.length_take] at this; omega
   have kp:=hC _ _ _ (putEvent_ok (l2 ++ evsL (A.take i)) (by rw [List.length_append]; omega) x (oA x (List.mem_of_getElem? hx)))
   obtain ⟨c2,hc2⟩ : ∃ c2,c2 = byR ((l2 ++ evsL (A.take i)) ++ evtL x):=⟨_,rfl⟩
   rw [← hbs,← hc2] at kp
   have hc3 : c2 = byR (l2 ++ evsL (A.take (i + 1))):=by rw [hc2,List.take_add_one,hx]; simp only [Option.toList_some]; rw [evsL_snoc,List.append_assoc]
   obtain ⟨i2,hi2⟩ : ∃ i2,F .ar .add .i64 i' 1 = i2:=⟨_,rfl⟩
   have ei2 : i2 = ((i + 1 : Nat) : Int):=hi2.symm.trans (incF hF ei (by omega))
   have hmu : A.length - (i + 1) < A.length - i:=by omega
   clear hc2 hbs hx hlt1
   cbv
   refine bT (tl) ?_
   cbv
   refine ⟨i,_,ei,hrow,rfl,?_⟩
   cbv
   refine ⟨_,kp,?_⟩
   cbv
   rw [hi2]
   exact ⟨(i + 1,i2,c2),⟨ei2,hil,hc3⟩,hmu,(le_of [] (by simp [leSl,leOb,injK,memK,parK,noTup,lk,rn0,rnA,plain] <;> first | rfl | decide | (repeat (first | rfl | trivial | refine And.intro ?_ ?_))))⟩
  ·have tl : F .cmp .lss i' nA = false:=by rw [Bool.eq_false_iff]; exact fun h=>hil (tl.1 h)
   have hie : i = A.length:=by omega
   have hbe : bs = b3:=by rw [hbs,hb3,hl3,hie,List.take_length]
   clear hbs
   subst hbe
   cbv
   refine bF (tl) ?_
   cbv
   exact ⟨100,(le_of [] (by simp [leSl,leOb,injK,memK,parK,noTup,lk,rn0,rnA,plain] <;> first | rfl | decide | (repeat (first | rfl | trivial | refine And.intro ?_ ?_))))⟩
 clear h9
 obtain ⟨l4,hl4⟩ : ∃ l,l = l3 ++ vlqL D.length:=⟨_,rfl⟩
 have nl4 : l4.length ≤ 1500000:=by rw [hl4,List.length_append]; omega
 obtain ⟨b4,hb4⟩ : ∃ b,b = byR l4:=⟨_,rfl⟩
 show Code.wp Try.prog (Code.seq _ _) _ _ _
 refine wp_seq (h10.pc (E:={ n:=91 }) [(7,.ept [.sl rD] 0),(3,.sl b4)] rfl (fun F C D' hF hC=>?_) fun S11 a11 w11 h11=>?_)
 ·obtain ⟨n',hn'⟩ : ∃ n' : Int,n' = (D.length : Int):=⟨_,rfl⟩
  have kl:=hC _ _ _ (lenT_ok rD n' (by rw [hn',rlD]))
  have kp:=hC _ _ _ (put_ok l3 (by omega) D.length (by omega))
  rw [← hb3,← hl4,← hb4,← hn'] at kp
  have hw : F .wrp .u64 n' = n':=by rw [hF,hn']; exact IntWalk.u64_in _ (by omega)
  clear hall hn'
  cbv
  refine ⟨_,kl,?_⟩
  cbv
  rw [hw]
  refine ⟨_,kp,?_⟩
  cbv
  exact ⟨100,(le_of [] (by simp [leSl,leOb,injK,memK,parK,noTup,lk,rn0,rnA,plain] <;> first | rfl | decide | (repeat (first | rfl | trivial | refine And.intro ?_ ?_))))⟩
 clear h10
 obtain ⟨nD,hnD⟩ : ∃ n' : Int,n' = (D.length : Int):=⟨_,rfl⟩
 show Code.wp Try.prog (Code.seq _ _) _ _ _
 refine wp_seq (wp_seq (h11.pc (E:={ n:=91 }) [(3,.sl b4),(66,aI 0),(65,aI nD),(64,.sl rD)] rfl (fun F C D' hF hC=>?_) fun S12 a12 w12 h12=>?_))
 ·have ki:=hC _ _ _ (itemsT_ok rD (by omega) ronD)
  have tl : F .len rD = nD:=by rw [lenF hF,rlD,hnD]
  clear hall
  cbv
  refine ⟨_,ki,?_⟩
  cbv
  rw [tl]
  exact ⟨100,(le_of [] (by simp [leSl,leOb,injK,memK,parK,noTup,lk,rn0,rnA,plain] <;> first | rfl | decide | (repeat (first | rfl | trivial | refine And.intro ?_ ?_))))⟩
 clear h11
 clear hall
 show Code.wp Try.prog (Code.block 4 _) _ _ _
 obtain ⟨out,hout⟩ : ∃ l,l = l4 ++ tmsL D:=⟨_,rfl⟩
 obtain ⟨bo,hbo⟩ : ∃ b,b = byR out:=⟨_,rfl⟩
 refine wp_mono (Q:=fun ex a' w'=>ex = .normal∧∃ S',PS 91 w S [(3,.sl bo)] S' a' w') ?_ fun ex a20 w20 hh=>?_
 ·refine wp_block (loop_by (fun k a' w'=>k ≤ D.length∧∃ S' k' bs,k' = (k : Int)∧bs = byR (l4 ++ tmsL (D.take k))∧PS 91 w S [(3,.sl bs),(66,aI k'),(65,aI nD),(64,.sl rD)] S' a' w') (fun k=>D.length - k) 0 ⟨Nat.zero_le _,S12,0,b4,rfl,by rw [hb4]; simp [tmsL],h12⟩ fun k aa ww hI=>?_)
  clear h12
  obtain ⟨hk,S13,k',bs,ek,hbs,h13⟩:=hI
  by_cases hkl : k < D.length
  ·obtain ⟨x,hx⟩ : ∃ x,D[k]? = some x:=⟨_,List.getElem?_eq_getElem hkl⟩
   have hrow : rD[k]? = some (itT x):=by rw [hrD,List.getElem?_map,hx]; rfl
   have hox:=oD x (List.mem_of_getElem? hx)
   have hlt1 : (tmsL (D.take k)).length ≤ 1340 * 1000:=by
    have:=tmsL_len (D.take k) (fun e he=>oD e (List.mem_of_mem_take he))
    rw [List.length_take] at this; omega
   obtain ⟨k2,ek2⟩ : ∃ k2 : Int,k2 = ((k + 1 : Nat) : Int):=⟨_,rfl⟩
   refine wp_seq (h13.pc (E:={ n:=91 }) [(67,aB true),(3,.sl bs),(66,aI k'),(65,aI nD),(64,.sl rD)] rfl (fun F C D' hF hC=>?_) fun S14 a14 w14 h14=>?_)
   ·have tl : F .cmp .lss k' nD = true:=(ltF hF k D.length k' nD ek hnD).2 hkl
    clear hbs hrow hx hlt1
    cbv
    rw [tl]
    exact ⟨100,(le_of [] (by simp [leSl,leOb,injK,memK,parK,noTup,lk,rn0,rnA,plain] <;> first | rfl | decide | (repeat (first | rfl | trivial | refine And.intro ?_ ?_))))⟩
   clear h13
   refine wp_seq (wp_cond_true (h14.val (t:=67) rfl) (wp_skip ?_))
   show Code.wp Try.prog (Code.seq _ _) _ _ _
   refine wp_seq (wp_block (wp_seq (h14.pc (E:={ n:=91 }) [(3,.sl bs),(11,.ept (itT x) 0),(66,aI k'),(65,aI nD),(64,.sl rD)] rfl (fun F C D' hF hC=>?_) fun S15 a15 w15 h15=>?_)))
   ·clear hbs hx hlt1
    cbv
    refine ⟨k,_,ek,hrow,rfl,?_⟩
    cbv
    exact ⟨100,(le_of [] (by simp [leSl,leOb,injK,memK,parK,noTup,lk,rn0,rnA,plain] <;> first | rfl | decide | (repeat (first | rfl | trivial | refine And.intro ?_ ?_))))⟩
   clear h14
   obtain ⟨ad,had,hcell⟩:=h15.cells (t:=11) (itvT x) rfl
   obtain ⟨l5,hl5⟩ : ∃ l,l = l4 ++ tmsL (D.take k):=⟨_,rfl⟩
   have nl5 : l5.length ≤ 3000000:=by rw [hl5,List.length_append]; omega
   rw [← hl5] at hbs
   rw [hbs] at h15
   show Code.wp Try.prog (Code.seq _ _) _ _ _
   refine wp_seq (to_region 91 rfl ad x.2.R x.2.N l5 (by omega) S15 h15.hi.lt rfl (by kernel_rfl) h15.hi.size had (h15.hi.slots 3 _ rfl).2 (hcell 28 _ rfl) (hcell 29 _ rfl) fun a16 w16 S16 hz16 hd16 hg16 hr16 ho16=>?_)
   have h16:=(((((h15.dr rfl).reg hz16 hd16 toShape rfl ho16).out hg16)).add (d:=3) (by decide) _ (srep_of_rep hr16))
   clear h15 hr16
   obtain ⟨l6,hl6⟩ : ∃ l,l = (l5 ++ vlqL (uN x.2.R)) ++ vlqL (uN x.2.N):=⟨_,rfl⟩
   have nl6 : l6.length ≤ 3000100:=by
    have h3:=vlq_len _ (uN_lt x.2.R)
    have h4:=vlq_len _ (uN_lt x.2.N)
    rw [hl6,List.length_append,List.length_append]; omega
   obtain ⟨b6,hb6⟩ : ∃ b,b = byR l6:=⟨_,rfl⟩
   rw [← hl6,← hb6] at h16
   obtain ⟨b7,hb7⟩ : ∃ b,b = byR (l6 ++ evtL x.1):=⟨_,rfl⟩
   show Code.wp Try.prog (Code.region _ _ _) _ _ _
   refine h16.pc (E:={ n:=91 }) [(3,.sl b7),(66,aI k'),(65,aI nD),(64,.sl rD)] rfl (fun F C D' hF hC=>?_) fun S17 a17 w17 h17=>?_
   ·have kp:=hC _ _ _ (putEvent_ok l6 (by omega) x.1 hox)
    rw [← hb6,← hb7] at kp
    clear hbs hx hlt1 hb6 hb7 hrow
    cbv
    refine ⟨_,kp,?_⟩
    cbv
    exact ⟨100,(le_of [] (by simp [leSl,leOb,injK,memK,parK,noTup,lk,rn0,rnA,plain] <;> first | rfl | decide | (repeat (first | rfl | trivial | refine And.intro ?_ ?_))))⟩
   clear h16
   show Code.wp Try.prog (Code.region _ _ _) _ _ _
   refine h17.pc (E:={ n:=91 }) [(3,.sl b7),(66,aI k2),(65,aI nD),(64,.sl rD)] rfl (fun F C D' hF hC=>?_) fun S18 a18 w18 h18=>?_
   ·have tl:=(incF hF ek (by omega)).trans ek2.symm
    clear hbs hx hlt1 hb6 hb7 hrow
    cbv
    rw [tl]
    exact ⟨100,(le_of [] (by simp [leSl,leOb,injK,memK,parK,noTup,lk,rn0,rnA,plain] <;> first | rfl | decide | (repeat (first | rfl | trivial | refine And.intro ?_ ?_))))⟩
   refine ⟨k + 1,⟨hkl,S18,k2,b7,ek2,?_,h18⟩,by omega⟩
   rw [hb7,hl6,hl5,List.take_add_one,hx]
   simp only [Option.toList_some]
   rw [tmsL_snoc,tmbL]
   simp only [List.append_assoc]
  ·have hke : k = D.length:=by omega
   refine wp_seq (h13.pc (E:={ n:=91 }) [(67,aB false),(3,.sl bs)] rfl (fun F C D' hF hC=>?_) fun S14 a14 w14 h14=>?_)
   ·have tl : F .cmp .lss k' nD = false:=by rw [Bool.eq_false_iff]; exact fun h=>hkl ((ltF hF k D.length k' nD ek hnD).1 h)
    clear hbs
    cbv
    rw [tl]
    exact ⟨100,(le_of [] (by simp [leSl,leOb,injK,memK,parK,noTup,lk,rn0,rnA,plain] <;> first | rfl | decide | (repeat (first | rfl | trivial | refine And.intro ?_ ?_))))⟩
   refine wp_seq (wp_cond_false (h14.val (t:=67) rfl) (wp_exit ?_))
   refine ⟨rfl,S14,?_⟩
   have : bs = bo:=by rw [hbs,hbo,hout,hke,List.take_length]
   rw [← this]
   exact h14.dr rfl
 obtain ⟨rfl,S20,h20⟩:=hh
 clear h12
 have hso : s = BA out:=by rw [hs,hout,hl4,hl3,hl2,hns]; rfl
 show Code.wp Try.prog (Code.seq _ _) _ _ _
 refine wp_seq (h20.pc (E:={ n:=91 }) [(2,aS s)] rfl (fun F C D' hF hC=>?_) fun S21 a21 w21 h21=>?_)
 ·have kb:=hC _ _ _ (bs_ok out bo hbo s hso)
  clear hso hbo hs
  cbv
  refine ⟨_,kb,?_⟩
  cbv
  exact ⟨100,(le_of [] (by simp [leSl,leOb,injK,memK,parK,noTup,lk,rn0,rnA,plain] <;> first | rfl | decide | (repeat (first | rfl | trivial | refine And.intro ?_ ?_))))⟩
 refine wp_ret ?_
 exact h21.ret1 rfl rfl rfl
end Go.Proofs.Ytdnaadcbimbfmaa
namespace Go.Proofs.Ytdnaadcbimbfmaa
open Go Go.RowKit Am
theorem ex_rise {α : Type} (d : α→Dt) (l : List α) (hu : ∀ x ∈ l,∀ y ∈ l,d x = d y→x = y) : ∃ A,Rise d A∧∀ x,x ∈ A ↔ x ∈ l:=by
 induction l with
 | nil=>exact ⟨[],List.Pairwise.nil,fun x=>Iff.rfl⟩
 | cons a l ih =>
  obtain ⟨A,hA,hm⟩:=ih (fun x hx y hy=>hu x (.tail _ hx) y (.tail _ hy))
  by_cases h : ∃ y ∈ A,d y = d a
  ·obtain ⟨y,hy,hd⟩:=h
   have:=hu y (.tail _ ((hm y).1 hy)) a (.head _) hd
   subst this
   exact ⟨A,hA,fun x=>by rw [hm,List.mem_cons]; exact ⟨.inr,fun h=>h.elim (fun e=>e ▸ (hm _).1 hy) id⟩⟩
  ·refine ⟨insD d A a,insD_rise hA fun y hy e=>h ⟨y,hy,e⟩,fun x=>?_⟩
   rw [insD_mem,hm,List.mem_cons]
theorem riseE_nodup {α : Type} {d : α→Dt} {l : List α} (h : Rise d l) : l.Nodup:=List.Pairwise.imp (fun {a b} hab e=>by subst e; exact dlt_irr _ hab) h
theorem nodup_len {α : Type} : ∀ (l m : List α),l.Nodup→(∀ x ∈ l,x ∈ m)→l.length ≤ m.length
 | [],_,_,_=>Nat.zero_le _
 | x :: l,m,hn,hs=>by
  rw [List.nodup_cons] at hn
  obtain ⟨s,t,rfl⟩:=List.append_of_mem (hs x (.head _))
  have:=nodup_len l (s ++ t) hn.2 fun y hy=>by
   have:=hs y (.tail _ hy)
   simp only [List.mem_append,List.mem_cons] at this ⊢
   rcases this with h | rfl | h
   ·exact .inl h
   ·exact absurd hy hn.1
   ·exact .inr h
  simp only [List.length_append,List.length_cons] at this ⊢
  omega
def seenV (v : VV) (d : Dt) : Prop:=0 ≤ d.R∧d.R < 16∧d.N ≤ vget v d.R
structure SpG (σ : Sp) (got : List Ev) : Prop where
 vr : vrightP σ.vv
 len : σ.es.length = σ.ks.length
 nd : σ.ks.Nodup
 ok : ∀ en ∈ σ.es,EntOK en
 lg : ∀ (i : Nat) (k : ByteArray) (en : Ent) (x : Ev),σ.ks[i]? = some k→σ.es[i]? = some en→x ∈ en.lv→x ∈ got∧x.op.key = k
 dg : ∀ (i : Nat) (k : ByteArray) (en : Ent) (x : ElT),σ.ks[i]? = some k→σ.es[i]? = some en→x ∈ en.dd→x.1 ∈ got∧x.1.op.key = k
 gv : ∀ x ∈ got,seenV σ.vv x.dot
 gu : ∀ x ∈ got,∀ y ∈ got,x.dot = y.dot→x = y
 go : ∀ x ∈ got,EvOK x
def sp0 : Sp:=⟨[],[],fun _=>0,0⟩
theorem spg0 : SpG sp0 []:=⟨fun i=>⟨Int.le_refl 0,(show (0 : Int) ≤ 1048576 by decide)⟩,rfl,List.nodup_nil,fun en h=>by simp [sp0] at h,fun i k en x h=>by simp [sp0] at h,fun i k en x h=>by simp [sp0] at h,fun x h=>by simp at h,fun x h=>by simp at h,fun x h=>by simp at h⟩
theorem SpG.ix {σ : Sp} {got : List Ev} (h : SpG σ got) {en : Ent} (hen : en ∈ σ.es) : ∃ (i : Nat) (k : ByteArray),σ.ks[i]? = some k∧σ.es[i]? = some en:=by
 obtain ⟨i,hi⟩:=List.getElem?_of_mem hen
 have:=(List.getElem?_eq_some_iff.1 hi).1
 exact ⟨i,_,List.getElem?_eq_getElem (by rw [← h.len]; exact this),hi⟩
theorem SpG.ij {σ : Sp} {got : List Ev} (h : SpG σ got) {i j : Nat} {k : ByteArray} (hi : σ.ks[i]? = some k) (hj : σ.ks[j]? = some k) : i = j :=
 (List.getElem?_inj (List.getElem?_eq_some_iff.1 hi).1 h.nd).1 (hi.trans hj.symm)
theorem SpG.all {σ : Sp} {got : List Ev} (h : SpG σ got) (hg : got.length ≤ 1000) : ∃ A D,SpU σ A D∧A.length ≤ 1000∧D.length ≤ 1000∧(∀ e ∈ A,EvOK e)∧∀ e ∈ D,EvOK e.1:=by
 have uA : ∀ (i j : Nat) (a b : Ent) (x y : Ev),σ.es[i]? = some a→σ.es[j]? = some b→x ∈ a.lv→y ∈ b.lv→x.dot = y.dot→x = y∧i = j:=fun i j a b x y hi hj hx hy hd=>by
  have hil:=(List.getElem?_eq_some_iff.1 hi).1
  have hjl:=(List.getElem?_eq_some_iff.1 hj).1
  have ki:=List.getElem?_eq_getElem (l:=σ.ks) (i:=i) (by rw [← h.len]; exact hil)
  have kj:=List.getElem?_eq_getElem (l:=σ.ks) (i:=j) (by rw [← h.len]; exact hjl)
  obtain ⟨g1,e1⟩:=h.lg i _ a x ki hi hx
  obtain ⟨g2,e2⟩:=h.lg j _ b y kj hj hy
  have:=h.gu x g1 y g2 hd
  subst this
  rw [← e1] at ki
  rw [← e2] at kj
  exact ⟨rfl,h.ij ki kj⟩
 have uD : ∀ (i j : Nat) (a b : Ent) (x y : ElT),σ.es[i]? = some a→σ.es[j]? = some b→x ∈ a.dd→y ∈ b.dd→dT x = dT y→x = y∧i = j:=fun i j a b x y hi hj hx hy hd=>by
  have hil:=(List.getElem?_eq_some_iff.1 hi).1
  have hjl:=(List.getElem?_eq_some_iff.1 hj).1
  have ki:=List.getElem?_eq_getElem (l:=σ.ks) (i:=i) (by rw [← h.len]; exact hil)
  have kj:=List.getElem?_eq_getElem (l:=σ.ks) (i:=j) (by rw [← h.len]; exact hjl)
  obtain ⟨g1,e1⟩:=h.dg i _ a x ki hi hx
  obtain ⟨g2,e2⟩:=h.dg j _ b y kj hj hy
  have:=h.gu x.1 g1 y.1 g2 hd
  rw [← e1] at ki
  rw [← e2,← this] at kj
  have hij:=h.ij ki kj
  subst hij
  rw [hi] at hj; injection hj with hj; subst hj
  obtain ⟨m,hm⟩:=List.getElem?_of_mem hx
  obtain ⟨n,hn⟩:=List.getElem?_of_mem hy
  have:=rise_inj (h.ok a (List.mem_of_getElem? hi)).dr hm hn hd
  subst this
  rw [hm] at hn; injection hn with hn
  exact ⟨hn,rfl⟩
 obtain ⟨A,rA,mA⟩:=ex_rise dE (σ.es.flatMap (·.lv)) fun x hx y hy hd=>by
  rw [List.mem_flatMap] at hx hy
  obtain ⟨a,ha,hx⟩:=hx
  obtain ⟨b,hb,hy⟩:=hy
  obtain ⟨i,hi⟩:=List.getElem?_of_mem ha
  obtain ⟨j,hj⟩:=List.getElem?_of_mem hb
  exact (uA i j a b x y hi hj hx hy hd).1
 obtain ⟨D,rD,mD⟩:=ex_rise dT (σ.es.flatMap (·.dd)) fun x hx y hy hd=>by
  rw [List.mem_flatMap] at hx hy
  obtain ⟨a,ha,hx⟩:=hx
  obtain ⟨b,hb,hy⟩:=hy
  obtain ⟨i,hi⟩:=List.getElem?_of_mem ha
  obtain ⟨j,hj⟩:=List.getElem?_of_mem hb
  exact (uD i j a b x y hi hj hx hy hd).1
 have gA : ∀ x ∈ A,x ∈ got:=fun x hx=>by
  have:=(mA x).1 hx
  rw [List.mem_flatMap] at this
  obtain ⟨en,h1,h2⟩:=this
  obtain ⟨i,k,q1,q2⟩:=h.ix h1
  exact (h.lg i k en x q1 q2 h2).1
 have gD : ∀ x ∈ D,x.1 ∈ got:=fun x hx=>by
  have:=(mD x).1 hx
  rw [List.mem_flatMap] at this
  obtain ⟨en,h1,h2⟩:=this
  obtain ⟨i,k,q1,q2⟩:=h.ix h1
  exact (h.dg i k en x q1 q2 h2).1
 have lA : A.length ≤ 1000:=Nat.le_trans (nodup_len A got (riseE_nodup rA) gA) hg
 have lD : D.length ≤ 1000:=by
  have hr : Rise (fun x : Ev=>x.dot) (D.map (·.1)):=List.pairwise_map.2 rD
  have:=nodup_len (D.map (·.1)) got (riseE_nodup hr) fun x hx=>by
   obtain ⟨y,hy,rfl⟩:=List.mem_map.1 hx
   exact gD y hy
  rw [List.length_map] at this
  omega
 exact ⟨A,D,⟨rA,rD,fun x=>by rw [mA,List.mem_flatMap],fun x=>by rw [mD,List.mem_flatMap],by omega,by omega,fun en hen=>⟨(h.ok en hen).lr,(h.ok en hen).dr⟩,fun i j a b x y h1 h2 h3 h4 h5=>(uA i j a b x y h1 h2 h3 h4 h5).2,fun i j a b x y h1 h2 h3 h4 h5=>(uD i j a b x y h1 h2 h3 h4 h5).2⟩,lA,lD,fun e he=>h.go e (gA e he),fun e he=>h.go e.1 (gD e he)⟩
theorem SpG.atk {σ : Sp} {got : List Ev} (h : SpG σ got) (key : ByteArray) : SpG (σ.at key) got:=by
 by_cases hin : key ∈ σ.ks
 ·rw [Sp.at_hit hin]; exact h
 ·rw [Sp.at_miss hin]
  have hix : ∀ (i : Nat) (k : ByteArray) (en : Ent),(σ.ks ++ [key])[i]? = some k→(σ.es ++ [(⟨[],[]⟩ : Ent)])[i]? = some en→(σ.ks[i]? = some k∧σ.es[i]? = some en) ∨ en = ⟨[],[]⟩:=fun i k en h1 h2=>by
   rcases Nat.lt_or_ge i σ.ks.length with hi | hi
   ·rw [List.getElem?_append_left hi] at h1
    rw [List.getElem?_append_left (by rw [h.len]; exact hi)] at h2
    exact .inl ⟨h1,h2⟩
   ·rw [List.getElem?_append_right (by rw [h.len]; exact hi)] at h2
    have:=List.mem_of_getElem? h2
    exact .inr (by simpa using this)
  refine ⟨h.vr,by simp [h.len],?_,fun en hen=>?_,fun i k en x h1 h2 h3=>?_,fun i k en x h1 h2 h3=>?_,h.gv,h.gu,h.go⟩
  ·show (σ.ks ++ [key]).Nodup
   rw [List.nodup_append]
   exact ⟨h.nd,by simp,fun a ha b hb e=>hin (by simp at hb; rw [← hb,← e]; exact ha)⟩
  ·have hen : en ∈ σ.es ++ [(⟨[],[]⟩ : Ent)]:=hen
   rcases List.mem_append.1 hen with hen | hen
   ·exact h.ok en hen
   ·have : en = ⟨[],[]⟩:=by simpa using hen
    subst this
    exact ⟨List.Pairwise.nil,List.Pairwise.nil,fun x hx=>by simp at hx⟩
  ·rcases hix i k en h1 h2 with ⟨q1,q2⟩ | rfl
   ·exact h.lg i k en x q1 q2 h3
   ·simp at h3
  ·rcases hix i k en h1 h2 with ⟨q1,q2⟩ | rfl
   ·exact h.dg i k en x q1 q2 h3
   ·simp at h3
theorem Sp.at_vv (σ : Sp) (key : ByteArray) : (σ.at key).vv = σ.vv:=by unfold Sp.at; split <;> rfl
theorem vget_vset (v : VV) (m : Int) (h0 : 0 ≤ m) (h1 : m < 16) (x : Int) (r : Int) (hr0 : 0 ≤ r) : vget (vset v m.toNat x) r = if r = m then x else vget v r:=by
 unfold vget vset
 by_cases hr : r.toNat < 16
 ·rw [dif_pos hr]
  by_cases e : r = m
  ·subst e; rw [if_pos rfl,if_pos rfl]
  ·rw [if_neg e,if_neg (show ¬ r.toNat = m.toNat by omega),dif_pos hr]
 ·rw [dif_neg hr,if_neg (show ¬ r = m by omega),dif_neg hr]
theorem foldA_dsub (e : Ev) (en : Ent) : ∀ k,k ≤ en.lv.length→∀ y ∈ (foldA e en k).2,y ∈ en.dd ∨ y.1 ∈ en.lv
 | 0,_,y,hy=>.inl hy
 | k + 1,hk,y,hy=>by
  obtain ⟨x,hx⟩ : ∃ x,en.lv[k]? = some x:=⟨_,List.getElem?_eq_getElem (by omega)⟩
  rw [foldA_succ e en k x hx] at hy
  unfold stepA at hy
  have ih:=foldA_dsub e en k (by omega)
  split at hy
  ·have hy : y ∈ (if x.op.kind = 9 then insD dT (foldA e en k).2 (x,e.dot) else (foldA e en k).2):=hy
   split at hy
   ·rcases (insD_mem _ _ _ _).1 hy with rfl | hy
    ·exact .inr (List.mem_of_getElem? hx)
    ·exact ih y hy
   ·exact ih y hy
  ·exact ih y hy
theorem SpG.app {σ : Sp} {got : List Ev} (h : SpG σ got) {e : Ev} (hr : ReadyP σ.vv e) (he : EvOK e) {i : Nat} (hk : (σ.at e.op.key).ks[i]? = some e.op.key) : SpG ((σ.at e.op.key).app i e) (e :: got):=by
 have h1:=h.atk e.op.key
 have hvv:=Sp.at_vv σ e.op.key
 obtain ⟨τ,hτ⟩ : ∃ τ,τ = σ.at e.op.key:=⟨_,rfl⟩
 rw [← hτ] at h1 hk hvv ⊢
 rw [← hvv] at hr
 clear hτ h
 have hil:=(List.getElem?_eq_some_iff.1 hk).1
 obtain ⟨en,hen⟩ : ∃ en,τ.es[i]? = some en:=⟨_,List.getElem?_eq_getElem (by rw [h1.len]; exact hil)⟩
 have hnew : ∀ x ∈ got,x.dot ≠ e.dot:=fun x hx hd=>by
  have:=(h1.gv x hx).2.2
  have hn:=hr.nx
  rw [hd,hn] at this
  omega
 have hok:=h1.ok en (List.mem_of_getElem? hen)
 have FI:=foldI e en hok en.lv.length (Nat.le_refl _)
 have hds:=foldA_dsub e en en.lv.length (Nat.le_refl _)
 have hgl : ∀ x ∈ en.lv,x ∈ got∧x.op.key = e.op.key:=fun x hx=>h1.lg i _ en x hk hen hx
 have hgd : ∀ x ∈ en.dd,x.1 ∈ got∧x.1.op.key = e.op.key:=fun x hx=>h1.dg i _ en x hk hen hx
 have ml : ∀ x ∈ (applyE e en).lv,x = e ∨ x ∈ (foldA e en en.lv.length).1:=fun x hx=>by
  unfold applyE at hx
  split at hx
  ·exact (insD_mem _ _ _ _).1 hx
  ·exact .inr hx
 have md : ∀ y ∈ (applyE e en).dd,y ∈ (foldA e en en.lv.length).2:=fun y hy=>hy
 have gd : ∀ y ∈ (applyE e en).dd,y.1 ∈ got∧y.1.op.key = e.op.key:=fun y hy=>by
  rcases hds y (md y hy) with q | q
  ·exact hgd y q
  ·exact hgl _ q
 have hok' : EntOK (applyE e en):=by
  refine ⟨?_,FI.dr,fun x hx y hy=>?_⟩
  ·unfold applyE
   split
   ·exact insD_rise FI.lr fun a ha=>hnew a (hgl a (FI.lsub a ha)).1
   ·exact FI.lr
  ·rcases ml x hx with rfl | hx
   ·exact fun hd=>hnew y.1 (gd y hy).1 hd.symm
   ·intro hd
    rcases FI.dsub y (md y hy) with q | ⟨j,x',q1,q2,q3,q4⟩
    ·exact hok.ap x (FI.lsub x hx) y q hd
    ·obtain ⟨j',hj'⟩:=List.getElem?_of_mem (FI.lsub x hx)
     have:=lv_inj hok hj' q2 (hd.trans q4)
     subst this
     rw [hj'] at q2
     injection q2 with q2
     subst q2
     exact q3 hx
 have hes : (τ.app i e).es = τ.es.set i (applyE e en):=by unfold Sp.app; rw [hen]; rfl
 have hset : ∀ (j : Nat) (b : Ent),(τ.app i e).es[j]? = some b→(j = i∧b = applyE e en) ∨ (j ≠ i∧τ.es[j]? = some b):=fun j b hj=>by
  rw [hes] at hj
  by_cases hji : i = j
  ·subst hji
   rw [List.getElem?_set_self (by rw [h1.len]; exact hil)] at hj
   injection hj with hj
   exact .inl ⟨rfl,hj.symm⟩
  ·rw [List.getElem?_set_ne hji] at hj
   exact .inr ⟨fun e=>hji e.symm,hj⟩
 have r0:=he.rt.r0
 have r1:=he.rt.r1
 have hvg:=vget_vset τ.vv e.dot.R r0 r1 e.dot.N
 refine ⟨fun k=>?_,by rw [hes,List.length_set]; exact h1.len,h1.nd,fun b hb=>?_,fun j k b x q1 q2 q3=>?_,fun j k b x q1 q2 q3=>?_,fun x hx=>?_,fun x hx y hy hd=>?_,fun x hx=>?_⟩
 ·show inS (vset τ.vv e.dot.R.toNat e.dot.N k)
  unfold vset
  split
  ·exact ⟨by have:=he.rt.n0; omega,he.rt.n1⟩
  ·exact h1.vr k
 ·obtain ⟨j,hj⟩:=List.getElem?_of_mem hb
  rcases hset j b hj with ⟨_,rfl⟩ | ⟨_,q⟩
  ·exact hok'
  ·exact h1.ok b (List.mem_of_getElem? q)
 ·have q1' : τ.ks[j]? = some k:=q1
  rcases hset j b q2 with ⟨rfl,rfl⟩ | ⟨_,q⟩
  ·rw [hk] at q1'; injection q1' with q1'; subst q1'
   rcases ml x q3 with rfl | hx
   ·exact ⟨.head _,rfl⟩
   ·have:=hgl x (FI.lsub x hx)
    exact ⟨.tail _ this.1,this.2⟩
  ·have:=h1.lg j k b x q1' q q3
   exact ⟨.tail _ this.1,this.2⟩
 ·have q1' : τ.ks[j]? = some k:=q1
  rcases hset j b q2 with ⟨rfl,rfl⟩ | ⟨_,q⟩
  ·rw [hk] at q1'; injection q1' with q1'; subst q1'
   have:=gd x q3
   exact ⟨.tail _ this.1,this.2⟩
  ·have:=h1.dg j k b x q1' q q3
   exact ⟨.tail _ this.1,this.2⟩
 ·show seenV (vset τ.vv e.dot.R.toNat e.dot.N) x.dot
  rcases List.mem_cons.1 hx with rfl | hx
  ·exact ⟨r0,r1,by rw [hvg _ r0,if_pos rfl]; exact Int.le_refl _⟩
  ·obtain ⟨a1,a2,a3⟩:=h1.gv x hx
   refine ⟨a1,a2,?_⟩
   rw [hvg _ a1]
   split
   ·rename_i hR
    rw [hR] at a3
    have:=hr.nx
    omega
   ·exact a3
 ·rcases List.mem_cons.1 hx with rfl | hx'
  ·rcases List.mem_cons.1 hy with rfl | hy'
   ·rfl
   ·exact absurd hd.symm (hnew y hy')
  ·rcases List.mem_cons.1 hy with rfl | hy'
   ·exact absurd hd (hnew x hx')
   ·exact h1.gu x hx' y hy' hd
 ·rcases List.mem_cons.1 hx with rfl | hx
  ·exact he
  ·exact h1.go x hx
theorem SpG.ents {σ : Sp} {got : List Ev} (h : SpG σ got) (hg : got.length ≤ 1000) {e : Ev} (hr : ReadyP σ.vv e) (i : Nat) (en : Ent) (hen : (σ.at e.op.key).es[i]? = some en) : EntOK en∧(∀ x ∈ en.lv,x.dot ≠ e.dot)∧en.lv.length ≤ 400000∧en.dd.length ≤ 400000:=by
 have h1:=h.atk e.op.key
 have hm:=List.mem_of_getElem? hen
 have hil:=(List.getElem?_eq_some_iff.1 hen).1
 have hki:=List.getElem?_eq_getElem (l:=(σ.at e.op.key).ks) (i:=i) (by rw [← h1.len]; exact hil)
 have hok:=h1.ok en hm
 have gl : ∀ x ∈ en.lv,x ∈ got:=fun x hx=>(h1.lg i _ en x hki hen hx).1
 have gd : ∀ x ∈ en.dd,x.1 ∈ got:=fun x hx=>(h1.dg i _ en x hki hen hx).1
 refine ⟨hok,fun x hx hd=>?_,?_,?_⟩
 ·have:=(h.gv x (gl x hx)).2.2
  have hn:=hr.nx
  rw [hd,hn] at this
  omega
 ·have:=nodup_len en.lv got (riseE_nodup hok.lr) gl
  omega
 ·have hr : Rise (fun x : Ev=>x.dot) (en.dd.map (·.1)):=List.pairwise_map.2 hok.dr
  have:=nodup_len (en.dd.map (·.1)) got (riseE_nodup hr) fun x hx=>by
   obtain ⟨y,hy,rfl⟩:=List.mem_map.1 hx
   exact gd y hy
  rw [List.length_map] at this
  omega
theorem canB_num {o : Opn} (h : canB o = true) : -1099511627776 ≤ o.num∧o.num ≤ 1099511627776:=by
 unfold canB at h
 simp only [Bool.and_eq_true,decide_eq_true_eq] at h
 omega
theorem canB_sz {o : Opn} (h : canB o = true) : o.key.size + o.fld.size + o.val.size ≤ 1000:=by
 unfold canB at h
 simp only [Bool.and_eq_true,decide_eq_true_eq] at h
 omega
theorem evok_of {e : Ev} (h : RightP e) (hz : e.op.key.size + e.op.fld.size + e.op.val.size ≤ 1000) : EvOK e:=by
 obtain ⟨h1,h2⟩:=canB_num h.can
 exact ⟨h,hz,by omega,by omega⟩
end Go.Proofs.Ytdnaadcbimbfmaa
namespace Go.Proofs.Ytdnaadcbimbfmaa
open Go Go.RowKit Am
def zE : Ev:=⟨⟨0,0⟩,0,fun _=>0,⟨0,BA [],BA [],BA [],0,⟨0,0⟩⟩⟩
def topB (l : List Ev) (e : Ev) : Bool:=l.all fun k=>!laterB k e
def latR (l : List Ev) : Option Ev:=l.find? (topB l)
theorem later_irr (a : Ev) : laterB a a = false:=by
 cases h : laterB a a with
 | false=>rfl
 | true=>have:=(later_iff a a).1 h; omega
theorem later_trans {a b c : Ev} (h1 : laterB b a = true) (h2 : laterB c b = true) : laterB c a = true:=by
 rw [later_iff] at *
 omega
theorem later_ne {a b c : Ev} (h1 : laterB a b = false) (h2 : laterB c b = true) : laterB c a = true:=by
 have h1 : ¬ laterB a b = true:=by rw [h1]; simp
 rw [later_iff] at *
 omega
def best : Option Ev→Ev→Option Ev
 | none,e=>some e
 | some o,e=>if laterB e o = true then some e else some o
theorem topB_snoc (l : List Ev) (e x : Ev) : topB (l ++ [e]) x = (topB l x && !laterB e x):=by
 unfold topB; simp
theorem latR_snoc (l : List Ev) (e : Ev) (h : l.foldl best none = latR l) : best (l.foldl best none) e = latR (l ++ [e]):=by
 rw [h]
 cases hl : latR l with
 | none =>
  have hn : l = []:=by
   cases l with
   | nil=>rfl
   | cons a t =>
    exfalso
    have key : ∀ (t : List Ev) (o : Option Ev),o ≠ none→t.foldl best o ≠ none:=by
     intro t
     induction t with
     | nil=>intro o h; exact h
     | cons b t ih=>intro o h; exact ih _ (by cases o with | none=>exact absurd rfl h | some o=>(simp only [best]; split <;> simp))
    exact key t (some a) (by simp) (by rw [← hl,← h]; rfl)
  subst hn
  unfold best latR topB
  simp [later_irr]
 | some o =>
  unfold latR at hl ⊢
  obtain ⟨htop,l1,l2,hsplit,has⟩:=List.find?_eq_some_iff_append.1 hl
  have htop' : ∀ k ∈ l,laterB k o = false:=fun k hk=>by
   have:=List.all_eq_true.1 htop k hk
   simpa using this
  by_cases hlt : laterB e o = true
  ·simp only [best,if_pos hlt]
   symm
   rw [List.find?_append]
   have hn : l.find? (topB (l ++ [e])) = none:=by
    rw [List.find?_eq_none]
    intro x hx
    rw [topB_snoc]
    have : laterB e x = true:=later_ne (htop' x hx) hlt
    simp [this]
   rw [hn]
   have he : topB (l ++ [e]) e = true:=by
    rw [topB_snoc,later_irr]
    have : topB l e = true:=by
     unfold topB
     rw [List.all_eq_true]
     intro k hk
     have h1 : laterB k e = false:=by
      cases hke : laterB k e with
      | false=>rfl
      | true=>have:=later_trans hlt hke; rw [htop' k hk] at this; cases this
     simp [h1]
    simp [this]
   simp [he]
  ·simp only [best,if_neg hlt]
   have hlt : laterB e o = false:=by simpa using hlt
   symm
   rw [List.find?_append]
   have hf : l.find? (topB (l ++ [e])) = some o:=by
    rw [List.find?_eq_some_iff_append]
    refine ⟨by rw [topB_snoc,htop,hlt]; rfl,l1,l2,hsplit,fun a ha=>?_⟩
    rw [topB_snoc]
    have:=has a ha
    simp only [Bool.not_eq_true'] at this ⊢
    rw [this]; rfl
   rw [hf]
   rfl
theorem best_latR (l : List Ev) : l.foldl best none = latR l:=by
 have key : ∀ (n : Nat) (l : List Ev),l.length = n→l.foldl best none = latR l:=by
  intro n
  induction n with
  | zero=>intro l h; rw [List.eq_nil_of_length_eq_zero h]; rfl
  | succ n ih =>
   intro l h
   obtain ⟨l',e,rfl⟩ : ∃ l' e,l = l' ++ [e]:=⟨l.dropLast,l.getLast (by intro h0; rw [h0] at h; simp at h),(List.dropLast_concat_getLast _).symm⟩
   rw [List.foldl_append]
   exact latR_snoc l' e (ih l' (by simpa using h))
 exact key _ l rfl
set_option maxHeartbeats 4000000 in
theorem latest2_ok (l : List Ev) (hl : l.length ≤ 1000000) (rows : List (List AV)) (hrows : rows = evR l) (x : Ev) (ok : Bool) (h1 : ∀ e,latR l = some e→x = e∧ok = true) (h2 : latR l = none→x = zE∧ok = false) : CSem Try.prog (.fn 65) [.sl rows] (.pure [.agg x.ac,aB ok]):=by
 refine of_text gam_ok mixed { n:=27,keep:=[4] } Try.func65 (by kernel_rfl) rfl rfl (by simp) (by decide) fun F C D hF hC hD=>?_
 obtain ⟨n',hn'⟩ : ∃ n' : Int,F .len rows = n':=⟨_,rfl⟩
 have en : n' = (l.length : Int):=by rw [← hn',lenF hF,hrows,evR_len]
 rw [← best_latR] at h1 h2
 cbv
 rw [hn']
 refine ⟨Nat × Int × Ev,fun x=>{ slots:=[(9,aI x.2.1),(8,aI n'),(7,.sl rows),(4,.ptr 1 0),(3,aB false),(2,.ptr 0 0),(0,.sl rows)],obs:=[(1,.box 37 x.2.2.ac false),(0,.box 37 zE.ac true)],ctr:=2 },fun x=>x.2.1 = (x.1 : Int)∧x.1 ≤ l.length∧(x.1 = 0→x.2.2 = zE)∧(0 < x.1→(l.take x.1).foldl best none = some x.2.2),fun x=>l.length - x.1,⟨(0,0,zE),⟨rfl,Nat.zero_le _,fun _=>rfl,fun h=>absurd h (Nat.lt_irrefl 0)⟩,(le_of [] (by simp [leSl,leOb,injK,memK,parK,noTup,lk,rn0,rnA,plain] <;> first | rfl | decide | (repeat (first | rfl | trivial | refine And.intro ?_ ?_))))⟩,fun x hx=>?_⟩
 obtain ⟨i,i',c⟩:=x
 obtain ⟨ei,hi,hc0,hc1⟩:=hx
 simp only at ei hi hc0 hc1
 have en : n' = (l.length : Int):=en
 have tl:=ltF hF i l.length i' n' ei en
 obtain ⟨i2,hi2⟩ : ∃ i2,F .ar .add .i64 i' 1 = i2:=⟨_,rfl⟩
 have ei2 : i2 = ((i + 1 : Nat) : Int):=hi2.symm.trans (incF hF ei (by omega))
 by_cases hil : i < l.length
 ·have tl : F .cmp .lss i' n' = true:=tl.2 hil
  obtain ⟨e,he⟩ : ∃ s,l[i]? = some s:=⟨_,List.getElem?_eq_getElem hil⟩
  have hrow : rows[i]? = some e.ac:=by rw [hrows]; exact evR_get he
  have hmu : l.length - (i + 1) < l.length - i:=by omega
  have hst : (l.take (i + 1)).foldl best none = best ((l.take i).foldl best none) e:=by rw [List.take_add_one,he,List.foldl_append]; rfl
  have tz : F .cmp .eql i' 0 = decide (i' = 0):=eqF hF _ _
  by_cases hi0 : i = 0
  ·have tz : F .cmp .eql i' 0 = true:=by rw [tz]; exact decide_eq_true (by omega)
   have hc2 : (l.take (i + 1)).foldl best none = some e:=by rw [hst,hi0]; rfl
   clear h1 h2 hst hc0 hc1
   cbv
   refine bT (tl) ?_
   cbv
   refine ⟨i,_,ei,hrow,rfl,?_⟩
   cbv
   refine cT (tz) ?_
   cbv
   rw [hi2]
   exact ⟨(i + 1,i2,e),⟨ei2,hil,fun h=>absurd h (Nat.succ_ne_zero _),fun _=>hc2⟩,hmu,le_of [] (by simp [leSl,leOb,injK,memK,parK,noTup,lk,rn0,rnA,plain]; repeat (first | rfl | refine And.intro ?_ ?_ | trivial))⟩
  ·have tz : F .cmp .eql i' 0 = false:=by rw [tz]; exact decide_eq_false (by omega)
   obtain ⟨q,hq⟩ : ∃ q,q = laterB e c:=⟨_,rfl⟩
   have hlat:=hC _ _ _ (later_ok e c q hq)
   have hs:=hc1 (by omega)
   rw [hs] at hst
   cases q with
   | true =>
    have hc2 : (l.take (i + 1)).foldl best none = some e:=by rw [hst]; simp only [best,← hq,if_true]
    clear h1 h2 hst hc0 hc1 hs hq
    cbv
    refine bT (tl) ?_
    cbv
    refine ⟨i,_,ei,hrow,rfl,?_⟩
    cbv
    refine cF (tz) ?_
    cbv
    refine ⟨_,hlat,?_⟩
    cbv
    refine bT (rfl) ?_
    cbv
    rw [hi2]
    exact ⟨(i + 1,i2,e),⟨ei2,hil,fun h=>absurd h (Nat.succ_ne_zero _),fun _=>hc2⟩,hmu,le_of [] (by simp [leSl,leOb,injK,memK,parK,noTup,lk,rn0,rnA,plain]; repeat (first | rfl | refine And.intro ?_ ?_ | trivial))⟩
   | false =>
    have hc2 : (l.take (i + 1)).foldl best none = some c:=by rw [hst]; simp [best,← hq]
    clear h1 h2 hst hc0 hc1 hs hq
    cbv
    refine bT (tl) ?_
    cbv
    refine ⟨i,_,ei,hrow,rfl,?_⟩
    cbv
    refine cF (tz) ?_
    cbv
    refine ⟨_,hlat,?_⟩
    cbv
    refine bF (rfl) ?_
    cbv
    rw [hi2]
    exact ⟨(i + 1,i2,c),⟨ei2,hil,fun h=>absurd h (Nat.succ_ne_zero _),fun _=>hc2⟩,hmu,le_of [] (by simp [leSl,leOb,injK,memK,parK,noTup,lk,rn0,rnA,plain]; repeat (first | rfl | refine And.intro ?_ ?_ | trivial))⟩
 ·have tl : F .cmp .lss i' n' = false:=by cases h : F .cmp .lss i' n' with | true=>exact absurd (tl.1 h) hil | false=>rfl
  have tg : F .cmp .gtr n' 0 = decide (n' > 0):=gtF hF _ _
  have hxc : x = c∧decide (n' > 0) = ok:=by
   have hil2 : i = l.length:=by omega
   rw [hil2,List.take_length] at hc1
   by_cases h0 : i = 0
   ·have hn : l = []:=List.eq_nil_of_length_eq_zero (by omega)
    subst hn
    obtain ⟨a1,a2⟩:=h2 rfl
    exact ⟨by rw [a1,hc0 h0],by rw [a2]; exact decide_eq_false (by omega)⟩
   ·obtain ⟨a1,a2⟩:=h1 _ (hc1 (by omega))
    exact ⟨a1,by rw [a2]; exact decide_eq_true (by omega)⟩
  obtain ⟨rfl,hok⟩:=hxc
  rw [hok] at tg
  clear h1 h2 hc0 hc1 hok
  cbv
  refine bF (tl) ?_
  cbv
  rw [hn',tg]
  simp
def kdP (e : Ev) : Bool:=decide (e.op.kind = 1)
set_option maxHeartbeats 4000000 in
theorem value_ok (l : List Ev) (hl : l.length ≤ 1000000) (rows : List (List AV)) (hrows : rows = evR l) (v : ByteArray) (q : Bool) (g1 : ∀ e,latR (l.filter kdP) = some e→v = e.op.val∧q = true) (g2 : latR (l.filter kdP) = none→v = BA []∧q = false) : CSem Try.prog (.fn 37) [.sl rows] (.pure [aS v,aB q]):=by
 refine of_text gam_ok mixed { n:=33,keep:=[22] } Try.func37 (by kernel_rfl) rfl rfl (by simp) (by decide) fun F C D hF hC hD=>?_
 obtain ⟨n',hn'⟩ : ∃ n',F .len rows = n':=⟨_,rfl⟩
 have en : n' = (l.length : Int):=by rw [← hn',lenF hF,hrows,evR_len]
 obtain ⟨x,hx1,hx2,hxv⟩ : ∃ x : Ev,(∀ e,latR (l.filter kdP) = some e→x = e∧q = true)∧(latR (l.filter kdP) = none→x = zE∧q = false)∧x.op.val = v:=by
  cases h : latR (l.filter kdP) with
  | none=>exact ⟨zE,(fun e h=>by cases h),fun _=>⟨rfl,(g2 h).2⟩,(g2 h).1.symm⟩
  | some e=>exact ⟨e,fun e' h'=>by injection h' with h'; exact ⟨h',(g1 e h).2⟩,(fun h'=>by cases h'),(g1 e h).1.symm⟩
 clear g1 g2
 cbv
 rw [hn']
 refine ⟨Nat × Int × List (List AV),fun x=>{ slots:=[(11,aI x.2.1),(10,aI n'),(9,.sl rows),(4,.own 0 0)],obs:=[(0,.row 37 26 x.2.2 0 0)],ctr:=1 },fun x=>x.2.1 = (x.1 : Int)∧x.1 ≤ l.length∧x.2.2 = evR ((l.take x.1).filter kdP),fun x=>l.length - x.1,⟨(0,0,[]),⟨rfl,Nat.zero_le _,by simp [evR]⟩,Le.trans (le_nil 4 37 26 (by rfl) (by rfl)) (le_of [] (by simp [leSl,leOb,injK,memK,parK,noTup,lk,rn0,rnA,plain] <;> first | rfl | decide | (repeat (first | rfl | trivial | refine And.intro ?_ ?_))))⟩,fun y hy=>?_⟩
 obtain ⟨i,i',o⟩:=y
 obtain ⟨ei,hi,ho⟩:=hy
 simp only at ei hi ho
 have en : n' = (l.length : Int):=en
 have tl:=ltF hF i l.length i' n' ei en
 have ep:=incF hF ei (by omega)
 have hol : o.length ≤ l.length:=by
  rw [ho,evR_len]
  exact Nat.le_trans (List.length_filter_le _ _) (by simp; omega)
 have room : ∀ q : List (List AV),q.length = 1→(F .len o + F .len q) * 232 ≤ 140737488355328:=fun q hq=>by rw [lenF hF,lenF hF,hq]; omega
 obtain ⟨j,hj⟩ : ∃ j,F .ar .add .i64 i' 1 = j:=⟨_,rfl⟩
 have ej : j = ((i + 1 : Nat) : Int):=hj.symm.trans ep
 cbv
 refine br (fun h=>?_) (fun h=>?_) <;> cbv
 ·have hil:=tl.1 h
  obtain ⟨e,he⟩ : ∃ e,l[i]? = some e:=⟨_,List.getElem?_eq_getElem hil⟩
  have hrow : rows[i]? = some e.ac:=by rw [hrows]; exact evR_get he
  have htake : l.take (i + 1) = l.take i ++ [e]:=by rw [List.take_add_one,he]; rfl
  have hno : kdP e = false→o = evR ((l.take (i + 1)).filter kdP):=fun h=>by rw [htake,List.filter_append,ho]; simp [evR,h]
  obtain ⟨o2,ho2⟩ : ∃ o2,o2 = F .app o [e.ac]:=⟨_,rfl⟩
  have hyes : kdP e = true→o2 = evR ((l.take (i + 1)).filter kdP):=fun h=>by rw [ho2,htake,List.filter_append,ho,hF]; simp [evR,h,sy]
  have hrm:=room [e.ac] rfl
  have hel : ∀ r ∈ [e.ac],r.length = 26:=fun r h=>by rw [List.mem_singleton.1 h]; rfl
  have hk : F .cmp .eql e.op.kind 1 = kdP e:=eqF hF _ _
  refine ⟨i,e.ac,ei,hrow,rfl,?_⟩
  cbv
  refine br (fun g=>?_) (fun g=>?_) <;> cbv
  ·refine ⟨hel,hrm,?_⟩
   rw [hj]
   exact ⟨(i + 1,j,o2),⟨ej,hil,hyes (hk.symm.trans g)⟩,(show l.length - (i + 1) < l.length - i by omega),le_of [(0,2)] (by simp [leSl,leOb,injK,memK,parK,noTup,lk,rn0,rnA,plain]; exact ⟨ho2.symm,rfl⟩)⟩
  ·rw [hj]
   exact ⟨(i + 1,j,o),⟨ej,hil,hno (hk.symm.trans g)⟩,(show l.length - (i + 1) < l.length - i by omega),le_of [] (by simp [leSl,leOb,injK,memK,parK,noTup,lk,rn0,rnA,plain])⟩
 ·have hge : l.length ≤ i:=by have:=nfB tl h; omega
  have hfin : o = evR (l.filter kdP):=by rw [ho,List.take_of_length_le hge]
  have hfl : (l.filter kdP).length ≤ 1000000:=Nat.le_trans (List.length_filter_le _ _) hl
  have kl:=hC _ _ _ (latest2_ok _ hfl o hfin x q hx1 hx2)
  clear hx1 hx2 hfin ho
  subst hxv
  refine ⟨_,kl,?_⟩
  cbv
  first | exact ⟨rfl,rfl,trivial⟩ | simp
def enK : List ByteArray→List Ent→ByteArray→Option Ent
 | k :: ks,e :: es,s=>if k = s then some e else enK ks es s
 | _,_,_=>none
theorem mget_map (f : Ent→AV) (s : ByteArray) : ∀ (ks : List ByteArray) (es : List Ent),mget ks (es.map f) s = (enK ks es s).map f
 | [],[]=>rfl
 | [],_ :: _=>rfl
 | _ :: _,[]=>rfl
 | k :: ks,e :: es=>by
  simp only [List.map_cons,mget,enK]
  split
  ·rfl
  ·exact mget_map f s ks es
theorem enK_mem {s : ByteArray} : ∀ {ks : List ByteArray} {es : List Ent} {en : Ent},enK ks es s = some en→en ∈ es
 | [],[],_,h=>by simp [enK] at h
 | [],_ :: _,_,h=>by simp [enK] at h
 | _ :: _,[],_,h=>by simp [enK] at h
 | k :: ks,e :: es,en,h=>by
  unfold enK at h
  split at h
  ·injection h with h; subst h; exact .head _
  ·exact .tail _ (enK_mem h)
def Sp.evs (σ : Sp) (key : ByteArray) : List Ev:=match enK σ.ks σ.es key with | some en=>en.lv | none=>[]
theorem mapA_get (σ : Sp) (key : ByteArray) : ∃ ks vs,(mapA σ = .v (.map none)∧ks = []∧vs = [] ∨ mapA σ = .mp ks vs)∧mget ks vs key = (enK σ.ks σ.es key).map fun en=>.ept [.sl (en.lv.map itE),.sl (en.dd.map itT)] 0:=by
 unfold mapA
 cases h : σ.ks with
 | nil=>exact ⟨[],[],.inl ⟨rfl,rfl,rfl⟩,by cases σ.es <;> rfl⟩
 | cons k ks=>exact ⟨_,_,.inr rfl,by rw [mget_map]⟩
theorem itemsE2_ok (rows : List (List AV)) (y : AV) (hl : rows.length ≤ 1000000) (hr : ∀ r ∈ rows,r.length = 28) : CSem Try.prog (.fn 21) [.ept [.sl rows,y] 0] (.own 65 28 rows []):=by
 have h:=itemsE_ok rows hl hr
 refine ⟨h.1,fun w S xs hS hgd hreps=>h.2 w S xs hS hgd ?_⟩
 obtain ⟨z,rfl,hz⟩:=reps_one hreps
 obtain ⟨ad,rfl,h1,_⟩:=rep_lv hz
 rw [add00] at h1
 exact Reps.cons h1 (Reps.nil _ _)
theorem eventsN_ok (mA : AV) (ks : List ByteArray) (vs : List AV) (hm : mA = .v (.map none)∧ks = []∧vs = [] ∨ mA = .mp ks vs) (v : VV) (t : Int) (key : ByteArray) (hg : mget ks vs key = none) : CSem Try.prog (.fn 40) [.ept (spA mA v t) 0,aS key] (.own 37 26 [] []):=by
 refine of_text gam_ok mixed { n:=40,keep:=[37] } Try.func40 (by kernel_rfl) rfl rfl (by simp) (by decide) fun F C D hF hC hD=>?_
 have nilp:=hC _ _ _ (show CSem Try.prog (.nilp 25) [] (.pure []) from (show Try.prog.underlying 25 = _ from by kernel_rfl))
 have nile:=hC _ _ _ (show CSem Try.prog (.nilp 74) [] (.pure []) from (show Try.prog.underlying 74 = _ from by kernel_rfl))
 rcases hm with ⟨rfl,rfl,rfl⟩ | rfl
 ·cbv
  refine ⟨nilp,?_⟩
  cbv
  refine ⟨_,.miss1 hg,fun _=>trivial,?_⟩
  cbv
  first | exact ⟨rfl,trivial⟩ | trivial
 ·cbv
  refine ⟨nilp,?_⟩
  cbv
  refine ⟨_,.miss1 hg,fun _=>trivial,?_⟩
  cbv
  first | exact ⟨rfl,trivial⟩ | trivial
theorem eventsS_ok (ks : List ByteArray) (vs : List AV) (v : VV) (t : Int) (key : ByteArray) (l : List Ev) (y : AV) (hl : l.length ≤ 1000000) (hg : mget ks vs key = some (.ept [.sl (l.map itE),y] 0)) (hy : plain y = y) (out : List (List AV)) (hout : out = evR l) : CSem Try.prog (.fn 40) [.ept (spA (.mp ks vs) v t) 0,aS key] (.own 37 26 out []):=by
 refine of_text gam_ok mixed { n:=40,keep:=[37] } Try.func40 (by kernel_rfl) rfl rfl (by simp) (by decide) fun F C D hF hC hD=>?_
 have nilp:=hC _ _ _ (show CSem Try.prog (.nilp 25) [] (.pure []) from (show Try.prog.underlying 25 = _ from by kernel_rfl))
 have nile:=hC _ _ _ (show CSem Try.prog (.nilp 74) [] (.pure []) from (show Try.prog.underlying 74 = _ from by kernel_rfl))
 obtain ⟨rows,hrows⟩ : ∃ r,r = l.map itE:=⟨_,rfl⟩
 rw [← hrows] at hg
 have rl : rows.length = l.length:=by rw [hrows,List.length_map]
 have ki:=hC _ _ _ (itemsE2_ok rows y (by omega) (by rw [hrows]; exact fun r hr=>by obtain ⟨a,_,rfl⟩:=List.mem_map.1 hr; rfl))
 obtain ⟨n',hn'⟩ : ∃ n',F .len rows = n':=⟨_,rfl⟩
 have en : n' = (l.length : Int):=by rw [← hn',lenF hF,rl]
 cbv
 refine ⟨nilp,?_⟩
 cbv
 refine ⟨_,.hit1 hg,fun _=>trivial,?_⟩
 cbv
 refine ⟨nile,?_⟩
 cbv
 refine ⟨_,.hit1 hg,fun _=>trivial,?_⟩
 cbv
 refine ⟨_,ki,?_⟩
 cbv
 rw [hn']
 refine ⟨Nat × Int × List (List AV),fun x=>{ slots:=[(29,aI x.2.1),(28,aI n'),(27,.sl rows),(5,.own 0 0)],obs:=[(0,.row 37 26 x.2.2 0 0)],ctr:=1 },fun x=>x.2.1 = (x.1 : Int)∧x.1 ≤ l.length∧x.2.2 = evR (l.take x.1),fun x=>l.length - x.1,⟨(0,0,[]),⟨rfl,Nat.zero_le _,by simp [evR]⟩,Le.trans (le_nil 5 37 26 (by rfl) (by rfl)) (le_of [] (by simp [leSl,leOb,injK,memK,parK,noTup,lk,rn0,rnA,plain] <;> first | rfl | decide | (repeat (first | rfl | trivial | refine And.intro ?_ ?_))))⟩,fun q hq=>?_⟩
 obtain ⟨i,i',o⟩:=q
 obtain ⟨ei,hi,ho⟩:=hq
 simp only at ei hi ho
 have en : n' = (l.length : Int):=en
 have tl:=ltF hF i l.length i' n' ei en
 have ep:=incF hF ei (by omega)
 have hol : o.length ≤ l.length:=by rw [ho,evR_len]; simp; omega
 obtain ⟨j,hj⟩ : ∃ j,F .ar .add .i64 i' 1 = j:=⟨_,rfl⟩
 have ej : j = ((i + 1 : Nat) : Int):=hj.symm.trans ep
 cbv
 refine br (fun h=>?_) (fun h=>?_) <;> cbv
 ·have hil:=tl.1 h
  obtain ⟨e,he⟩ : ∃ e,l[i]? = some e:=⟨_,List.getElem?_eq_getElem hil⟩
  have hrow : rows[i]? = some (itE e):=by rw [hrows,List.getElem?_map,he]; rfl
  have htake : l.take (i + 1) = l.take i ++ [e]:=by rw [List.take_add_one,he]; rfl
  obtain ⟨o2,ho2⟩ : ∃ o2,o2 = F .app o [e.ac]:=⟨_,rfl⟩
  have hyes : o2 = evR (l.take (i + 1)):=by rw [ho2,htake,ho,hF]; simp [evR,sy]
  have hrm : (F .len o + F .len [e.ac]) * 232 ≤ 140737488355328:=by rw [lenF hF,lenF hF]; simp; omega
  have hel : ∀ r ∈ [e.ac],r.length = 26:=fun r h=>by rw [List.mem_singleton.1 h]; rfl
  refine ⟨i,itE e,ei,hrow,rfl,?_⟩
  cbv
  refine ⟨hel,hrm,?_⟩
  rw [hj]
  exact ⟨(i + 1,j,o2),⟨ej,hil,hyes⟩,(show l.length - (i + 1) < l.length - i by omega),le_of [(0,2)] (by simp [leSl,leOb,injK,memK,parK,noTup,lk,rn0,rnA,plain]; exact ⟨ho2.symm,rfl⟩)⟩
 ·have hge : l.length ≤ i:=by have:=nfB tl h; omega
  have hfin : o = out:=by rw [ho,List.take_of_length_le hge,hout]
  rw [hfin]
  first | exact ⟨rfl,trivial⟩ | simp
theorem events_ok (σ : Sp) (hl : ∀ en ∈ σ.es,en.lv.length ≤ 1000000) (key : ByteArray) (rows : List (List AV)) (hrows : rows = evR (σ.evs key)) : CSem Try.prog (.fn 40) [.ept (spA (mapA σ) σ.vv σ.tm) 0,aS key] (.own 37 26 rows []):=by
 obtain ⟨ks,vs,hm,hg⟩:=mapA_get σ key
 unfold Sp.evs at hrows
 cases he : enK σ.ks σ.es key with
 | none =>
  rw [he] at hg hrows
  rw [hrows]
  exact eventsN_ok _ ks vs hm _ _ key hg
 | some en =>
  rw [he] at hg hrows
  rcases hm with ⟨_,rfl,rfl⟩ | hm
  ·simp [mget] at hg
  ·rw [hm]
   exact eventsS_ok ks vs _ _ key en.lv _ (hl en (enK_mem he)) hg rfl rows hrows
def ofS (l : List Ev) (key : ByteArray) (typ : Int) : List Ev:=if ofT l key = typ then ofV l key else []
theorem evs_len {σ : Sp} (hl : ∀ en ∈ σ.es,en.lv.length ≤ 1000000) (key : ByteArray) : (σ.evs key).length ≤ 1000000:=by
 unfold Sp.evs
 split
 ·rename_i en h; exact hl en (enK_mem h)
 ·simp
theorem of17_ok (σ : Sp) (hl : ∀ en ∈ σ.es,en.lv.length ≤ 1000000) (key : ByteArray) (typ : Int) (rows : List (List AV)) (hrows : rows = evR (ofS (σ.evs key) key typ)) : CSem Try.prog (.fn 38) [.ept (spA (mapA σ) σ.vv σ.tm) 0,aS key,aI typ] (.own 37 26 rows []):=by
 have hel:=evs_len hl key
 have ke0:=events_ok σ hl key _ rfl
 obtain ⟨l,hle⟩ : ∃ l,l = σ.evs key:=⟨_,rfl⟩
 obtain ⟨r1,hr1⟩ : ∃ r,r = evR l:=⟨_,rfl⟩
 rw [← hle] at hel hrows ke0
 rw [← hr1] at ke0
 obtain ⟨t,ht⟩ : ∃ t,t = ofT l key:=⟨_,rfl⟩
 obtain ⟨r2,hr2⟩ : ∃ r,r = evR (ofV l key):=⟨_,rfl⟩
 have kt0:=type_ok l (by omega) key r1 hr1 t ht
 have kv0:=ofLive_ok l (by omega) key r1 hr1 r2 hr2
 obtain ⟨m,hm⟩ : ∃ m,m = mapA σ:=⟨_,rfl⟩
 rw [← hm] at ke0 ⊢
 refine of_text gam_ok mixed { n:=19,keep:=[18] } Try.func38 (by kernel_rfl) rfl rfl (by simp) (by decide) fun F C D hF hC hD=>?_
 have ke:=hC _ _ _ ke0
 have kt:=hC _ _ _ kt0
 have kv:=hC _ _ _ kv0
 have tn : F .cmp .neq t typ = decide (t ≠ typ):=neF hF _ _
 by_cases h : t = typ
 ·have tn : F .cmp .neq t typ = false:=by rw [tn]; exact decide_eq_false (fun h'=>h' h)
  have hrr : rows = r2:=by rw [hrows,hr2,ofS,if_pos (by rw [← ht]; exact h)]
  subst hrr
  clear ke0 kt0 kv0 hrows hr2 hr1 hle hm
  cbv
  refine ⟨_,ke,?_⟩
  cbv
  refine ⟨_,kt,?_⟩
  cbv
  refine bF (tn) ?_
  cbv
  refine ⟨_,_,_,_,kv,?_⟩
  cbv
  try exact ⟨rfl,trivial⟩
 ·have tn : F .cmp .neq t typ = true:=by rw [tn]; exact decide_eq_true h
  have hrr : rows = []:=by rw [hrows,ofS,if_neg (by rw [← ht]; exact h)]; rfl
  subst hrr
  clear ke0 kt0 kv0 hrows hr2 hr1 hle hm
  cbv
  refine ⟨_,ke,?_⟩
  cbv
  refine ⟨_,kt,?_⟩
  cbv
  refine bT (tn) ?_
  cbv
  try exact ⟨rfl,trivial⟩
theorem type17_ok (σ : Sp) (hl : ∀ en ∈ σ.es,en.lv.length ≤ 1000000) (key : ByteArray) (t : Int) (ht : t = ofT (σ.evs key) key) : CSem Try.prog (.fn 17) [.ept (spA (mapA σ) σ.vv σ.tm) 0,aS key] (.pure [aI t]):=by
 have hel:=evs_len hl key
 have ke0:=events_ok σ hl key _ rfl
 obtain ⟨l,hle⟩ : ∃ l,l = σ.evs key:=⟨_,rfl⟩
 obtain ⟨r1,hr1⟩ : ∃ r,r = evR l:=⟨_,rfl⟩
 rw [← hle] at hel ht ke0
 rw [← hr1] at ke0
 have kt0:=type_ok l (by omega) key r1 hr1 t ht
 obtain ⟨m,hm⟩ : ∃ m,m = mapA σ:=⟨_,rfl⟩
 rw [← hm] at ke0 ⊢
 refine of_text gam_ok mixed { n:=10 } Try.func17 (by kernel_rfl) rfl rfl (by simp) (by decide) fun F C D hF hC hD=>?_
 have ke:=hC _ _ _ ke0
 have kt:=hC _ _ _ kt0
 clear ke0 kt0 hr1 hle hm ht
 cbv
 refine ⟨_,ke,?_⟩
 cbv
 refine ⟨_,kt,?_⟩
 cbv
 first | exact ⟨rfl,trivial⟩ | simp
theorem text_ok (σ : Sp) (hl : ∀ en ∈ σ.es,en.lv.length ≤ 1000000) (key : ByteArray) (v : ByteArray) (q : Bool) (g1 : ∀ e,latR ((ofS (σ.evs key) key 1).filter kdP) = some e→v = e.op.val∧q = true) (g2 : latR ((ofS (σ.evs key) key 1).filter kdP) = none→v = BA []∧q = false) : CSem Try.prog (.fn 16) [.ept (spA (mapA σ) σ.vv σ.tm) 0,aS key] (.pure [aS v,aB q]):=by
 have hel:=evs_len hl key
 obtain ⟨r1,hr1⟩ : ∃ r,r = evR (ofS (σ.evs key) key 1):=⟨_,rfl⟩
 have ke0:=of17_ok σ hl key 1 r1 hr1
 obtain ⟨l,hle⟩ : ∃ l,l = ofS (σ.evs key) key 1:=⟨_,rfl⟩
 have hll : l.length ≤ 1000000:=by
  rw [hle,ofS]
  split
  ·exact Nat.le_trans (ofV_len _ _) hel
  ·simp
 rw [← hle] at hr1 g1 g2
 have kv0:=value_ok l hll r1 hr1 v q g1 g2
 obtain ⟨m,hm⟩ : ∃ m,m = mapA σ:=⟨_,rfl⟩
 rw [← hm] at ke0 ⊢
 refine of_text gam_ok mixed { n:=12 } Try.func16 (by kernel_rfl) rfl rfl (by simp) (by decide) fun F C D hF hC hD=>?_
 have ke:=hC _ _ _ ke0
 have kv:=hC _ _ _ kv0
 clear ke0 kv0 hr1 hle hm g1 g2
 cbv
 refine ⟨_,ke,?_⟩
 cbv
 refine ⟨_,kv,?_⟩
 cbv
 first | exact ⟨rfl,rfl,trivial⟩ | simp
def big17 (e : Ev) : Bool:=sy .cmp .gtr (sy .ar .add .i64 (sy .ar .add .i64 (sy .slen e.op.key) (sy .slen e.op.fld)) (sy .slen e.op.val)) 1000
def few17 (l : List Ev) : Bool:=decide (l.length ≤ 60) && l.all fun e=>!big17 e
theorem few17_len {l : List Ev} (h : few17 l = true) : l.length ≤ 60:=by simp [few17] at h; exact h.1
theorem few_ok (l : List Ev) (rows : List (List AV)) (hrows : rows = evR l) (r : Bool) (hr : r = few17 l) : CSem Try.prog (.fn 7) [.sl rows] (.pure [aB r]):=by
 refine of_text gam_ok mixed { n:=37 } Try.func7 (by kernel_rfl) rfl rfl (by simp) (by decide) fun F C D hF hC hD=>?_
 obtain ⟨n',hn'⟩ : ∃ n',F .len rows = n':=⟨_,rfl⟩
 have en : n' = (l.length : Int):=by rw [← hn',lenF hF,hrows,evR_len]
 have t0 : F .cmp .gtr n' 60 = true→r = false:=fun h=>by rw [en,hF] at h; simp [sy] at h; rw [hr,few17]; simp; omega
 have t1 : F .cmp .gtr n' 60 = false→l.length ≤ 60:=fun h=>by rw [en,hF] at h; simp [sy] at h; omega
 cbv
 rw [hn']
 refine br (fun h0=>?_) (fun h0=>?_) <;> cbv
 ·rw [t0 h0]; exact ⟨rfl,trivial⟩
 have hlen:=t1 h0
 rw [hn']
 refine ⟨Nat × Int,fun x=>{ slots:=[(9,aI x.2),(8,aI n'),(0,.sl rows)],obs:=[],ctr:=0 },fun x=>x.2 = (x.1 : Int)∧x.1 ≤ l.length∧∀ (k : Nat) e,k < x.1→l[k]? = some e→big17 e = false,fun x=>l.length - x.1,⟨(0,0),⟨rfl,Nat.zero_le _,fun k e hk=>by omega⟩,(le_of [] (by simp [leSl,leOb,injK,memK,parK,noTup,lk,rn0,rnA,plain] <;> first | rfl | decide | (repeat (first | rfl | trivial | refine And.intro ?_ ?_))))⟩,fun x hx=>?_⟩
 obtain ⟨i,i'⟩:=x
 obtain ⟨ei,hi,hz⟩:=hx
 simp only at ei hi hz
 have en : n' = (l.length : Int):=en
 have tl:=ltF hF i l.length i' n' ei en
 have ep:=incF hF ei (by omega)
 obtain ⟨j,hj⟩ : ∃ j,F .ar .add .i64 i' 1 = j:=⟨_,rfl⟩
 have ej : j = ((i + 1 : Nat) : Int):=hj.symm.trans ep
 cbv
 refine br (fun h=>?_) (fun h=>?_) <;> cbv
 ·have hil:=tl.1 h
  obtain ⟨e,he⟩ : ∃ e,l[i]? = some e:=⟨_,List.getElem?_eq_getElem hil⟩
  have hrow : rows[i]? = some e.ac:=by rw [hrows]; exact evR_get he
  generalize hb : big17 e = bg
  have hw : F .cmp .gtr (F .ar .add .i64 (F .ar .add .i64 (F .slen e.op.key) (F .slen e.op.fld)) (F .slen e.op.val)) 1000 = bg:=by rw [hF,← hb]; rfl
  refine ⟨hC _ _ _ (ben_ok (by kernel_rfl)),?_⟩
  cbv
  refine ⟨i,e.ac,ei,hrow,rfl,?_⟩
  cbv
  refine ⟨i,e.ac,ei,hrow,rfl,?_⟩
  cbv
  refine ⟨i,e.ac,ei,hrow,rfl,?_⟩
  cbv
  rw [hw]
  cases bg with
  | true =>
   refine bT (rfl) ?_
   cbv
   have hrf : r = false:=by
    cases hr' : r with
    | false=>rfl
    | true =>
     rw [hr'] at hr
     have:=hr.symm
     simp only [few17,Bool.and_eq_true,List.all_eq_true] at this
     have:=this.2 e (List.mem_of_getElem? he)
     rw [hb] at this; simp at this
   rw [hrf]; exact ⟨rfl,trivial⟩
  | false =>
   refine bF (rfl) ?_
   cbv
   rw [hj]
   refine ⟨(i + 1,j),⟨ej,hil,fun k e' hk hk'=>?_⟩,(show l.length - (i + 1) < l.length - i by omega),(le_of [] (by simp [leSl,leOb,injK,memK,parK,noTup,lk,rn0,rnA,plain] <;> first | rfl | decide | (repeat (first | rfl | trivial | refine And.intro ?_ ?_))))⟩
   rcases Nat.lt_or_ge k i with h1 | h1
   ·exact hz k e' h1 hk'
   ·obtain rfl : k = i:=by omega
    rw [he] at hk'; injection hk' with hk'; rw [← hk']; exact hb
 ·have hge : l.length ≤ i:=by have:=nfB tl h; omega
  have hrt : r = true:=by
   rw [hr]
   simp only [few17,Bool.and_eq_true,List.all_eq_true,decide_eq_true_eq]
   refine ⟨hlen,fun e he=>?_⟩
   obtain ⟨k,hk⟩:=List.getElem?_of_mem he
   have:=hz k e (by have:=(List.getElem?_eq_some_iff.1 hk).1; omega) hk
   rw [this]; rfl
  rw [hrt]; exact ⟨rfl,trivial⟩
end Go.Proofs.Ytdnaadcbimbfmaa
namespace Go.Proofs.Ytdnaadcbimbfmaa
open Go Go.RowKit Am
theorem region_invG {P : Program} {id : Nat} {ops : Array Oper} {Q : Exit→Act→World→Prop} {a : Act} {w : World} (hm : P.follows .mixedOrders = true)
  (hlex : ∀ (i : Nat) (o : Oper),ops[i]? = some o→∀ e ∈ o.after,Region.binds .any e = true→e.on < i) (I : Array Bool→Act→World→Prop) (h0 : I (Array.replicate ops.size false) a { w with drawn:=w.drawn + 1 })
  (step : ∀ (listed : Array Bool) (a : Act) (w : World) (i : Nat) (o : Oper),listed.size = ops.size→I listed a w→ops[i]? = some o→listed.getD i true = false→(∀ e ∈ o.after,Region.binds .any e = true→listed.getD e.on false = true)→(Region.wanted o (yielded ops a.tmps) = true∧o.wp P a w (fun a' w'=>I (listed.setIfInBounds i true) a' w') Q) ∨ (Region.wanted o (yielded ops a.tmps) = false∧I (listed.setIfInBounds i true) (a.put o.dst undef) w))
  (done : ∀ (listed : Array Bool) (a : Act) (w : World),listed.size = ops.size→(∀ i,i < ops.size→listed.getD i false = true)→I listed a w→Q .normal a w) : (Code.region id ops true).wp P Q a w:=by
 have full : ∀ listed : Array Bool,listed.size = ops.size→Region.ready .any ops listed = []→∀ i,i < ops.size→listed.getD i false = true:=by
  intro listed hs hr
  have key : ∀ n i,i < n→i < ops.size→listed.getD i false = true:=by
   intro n
   induction n with
   | zero=>intro i h; omega
   | succ n ih =>
    intro i hi hsz
    cases hg : listed.getD i false with
    | true=>rfl
    | false =>
     have hmem : i ∈ Region.ready .any ops listed:=by
      rw [mem_ready]
      have h1 : listed.getD i true = false:=by
       rw [Array.getD_eq_getD_getElem?] at hg ⊢
       rw [Array.getElem?_eq_getElem (by omega)] at hg ⊢
       simpa using hg
      exact ⟨h1,ops[i],Array.getElem?_eq_getElem hsz,fun e he hb=>ih e.on (by have:=hlex i _ (Array.getElem?_eq_getElem hsz) e he hb; omega) (by have:=hlex i _ (Array.getElem?_eq_getElem hsz) e he hb; omega)⟩
     rw [hr] at hmem
     cases hmem
  exact fun i hi=>key (i + 1) i (by omega) hi
 have main : ∀ (fuel : Nat) (listed : Array Bool) (a : Act) (w : World),listed.size = ops.size→(listed.toList.countP fun b=>!b) ≤ fuel→I listed a w→wpAny P .any ops Q fuel listed a w:=by
  intro fuel
  induction fuel with
  | zero =>
   intro listed a w hs hc hI
   have hr : Region.ready .any ops listed = []:=by
    cases hr : Region.ready .any ops listed with
    | nil=>rfl
    | cons j t =>
     have hj : j ∈ Region.ready .any ops listed:=by rw [hr]; exact List.mem_cons_self
     obtain ⟨h1,o,ho,_⟩:=mem_ready.1 hj
     have hjl : j < listed.size:=by rw [hs]; exact (Array.getElem?_eq_some_iff.1 ho).1
     rw [Array.getD_eq_getD_getElem?,Array.getElem?_eq_getElem hjl] at h1
     have h2:=List.countP_eq_zero.1 (Nat.le_zero.1 hc) listed[j] (by simp)
     simp at h1 h2
     rw [h1] at h2
     cases h2
   exact ⟨hr,done listed a w hs (full listed hs hr) hI⟩
  | succ fuel ih =>
   intro listed a w hs hc hI
   refine ⟨fun hr=>done listed a w hs (full listed hs hr) hI,fun i hi=>?_⟩
   obtain ⟨h1,o,ho,h2⟩:=mem_ready.1 hi
   have hless : (listed.setIfInBounds i true).toList.countP (fun b=>!b) ≤ fuel:=by
    have hil : i < listed.size:=by rw [hs]; exact (Array.getElem?_eq_some_iff.1 ho).1
    rw [Array.getD_eq_getD_getElem?,Array.getElem?_eq_getElem hil] at h1
    have h1 : listed[i] = false:=by simpa using h1
    have : (listed.setIfInBounds i true).toList.countP (fun b=>!b) + 1 = listed.toList.countP (fun b=>!b):=by
     rw [Array.toList_setIfInBounds]
     have hl : i < listed.toList.length:=by simpa using hil
     have e1 : listed.toList = listed.toList.take i ++ listed.toList[i] :: listed.toList.drop (i + 1):=by
      rw [List.getElem_cons_drop hl,List.take_append_drop]
     have e2 : listed.toList.set i true = listed.toList.take i ++ true :: listed.toList.drop (i + 1):=by
      rw [List.set_eq_take_append_cons_drop,if_pos hl]
     rw [e2]
     conv=>rhs; rw [e1]
     rw [List.countP_append,List.countP_append,List.countP_cons,List.countP_cons]
     have : listed.toList[i] = false:=by rw [Array.getElem_toList]; exact h1
     rw [this]
     simp
     omega
    omega
   have hsz : (listed.setIfInBounds i true).size = ops.size:=by rw [Array.size_setIfInBounds]; exact hs
   unfold wpOp
   rw [ho]
   rcases step listed a w i o hs hI ho h1 h2 with ⟨hw,hst⟩ | ⟨hw,hI'⟩
   ·simp only [hw,if_true]
    exact .inl (Oper.wp_mono (fun a' w' hI'=>ih _ a' w' hsz hless hI') hst)
   ·simp only [hw]
    exact ih _ _ _ hsz hless hI'
 refine wp_region_any hm (main _ _ _ _ (by simp) ?_ h0)
 exact Nat.le_trans List.countP_le_length (by simp)
def depsG (need : Nat→List Nat) (ops : List Oper) : Bool:=(List.range ops.length).all fun i=>match ops[i]? with
 | none=>false
 | some o=>(o.after.all fun e=>!Region.binds .any e || Nat.blt e.on i) && ((need i).all fun j=>o.after.any fun e=>Nat.beq e.on j && Region.binds .any e) && (match o.guard with | none=>true | some (j,_)=>(need i).any fun k=>Nat.beq k j)
abbrev ShG:=List (Option Nat × Op × Option (Nat × Bool))
def ShG.dsts (s : ShG) : List (Option Nat × Op):=s.map fun q=>(q.1,q.2.1)
structure RPI (n : Nat) (a0 : Act) (w : World) (shape : ShG) (val : Nat→Value) (L : Array Bool) (a : Act) (w' : World) : Prop where
 bw : Below w.heap.size w w'
 size : a.tmps.size = n
 defers : a.defers = a0.defers
 vals : ∀ (i d : Nat) (op : Op) (g : Option (Nat × Bool)),L.getD i false = true→shape[i]? = some (some d,op,g)→a.eval (.tmp d) = val i
 keep : ∀ (t : Nat),(∀ (j : Nat) (op : Op),shape.dsts[j]? ≠ some (some t,op))→a.eval (.tmp t) = a0.eval (.tmp t)
set_option maxHeartbeats 1000000 in
theorem region_pure {P : Program} {id : Nat} {ops : List Oper} {Q : Exit→Act→World→Prop} {a0 : Act} {w : World} (hm : P.follows .mixedOrders = true) (n : Nat) (hz : a0.tmps.size = n)
  (shape : ShG) (hops : ops.map (fun o=>(o.dst,o.op,o.guard)) = shape) (need : Nat→List Nat) (hdep : depsG need ops = true) (hdst : dstsC n shape.dsts = true) (hsome : (shape.all fun q=>q.1.isSome) = true) (val : Nat→Value)
  (hskip : ∀ (i : Nat) (d : Option Nat) (op : Op) (j : Nat) (b : Bool),shape[i]? = some (d,op,some (j,b))→j < shape.length∧(val j ≠ .bool b→val i = undef))
  (hstep : ∀ (i d : Nat) (op : Op) (g : Option (Nat × Bool)),shape[i]? = some (some d,op,g)→(∀ j b,g = some (j,b)→val j = .bool b)→∀ (a : Act) (w' : World),a.tmps.size = n→Below w.heap.size w w'→(∀ j ∈ need i,∀ (dj : Nat) (op' : Op) (g' : Option (Nat × Bool)),shape[j]? = some (some dj,op',g')→a.eval (.tmp dj) = val j)→(∀ (t : Nat),(∀ (j : Nat) (op : Op),shape.dsts[j]? ≠ some (some t,op))→a.eval (.tmp t) = a0.eval (.tmp t))→∀ (o : Oper),o.op = op→o.dst = some d→o.wp P a w' (fun a' w2=>a' = a.put (some d) (val i)∧Below w'.heap.size w' w2) Q)
  (hQ : ∀ (a' : Act) (w' : World),a'.tmps.size = n→a'.defers = a0.defers→Below w.heap.size w w'→(∀ (i d : Nat) (op : Op) (g : Option (Nat × Bool)),shape[i]? = some (some d,op,g)→a'.eval (.tmp d) = val i)→(∀ (t : Nat),(∀ (j : Nat) (op : Op),shape.dsts[j]? ≠ some (some t,op))→a'.eval (.tmp t) = a0.eval (.tmp t))→Q .normal a' w') : (Code.region id ops.toArray true).wp P Q a0 w:=by
 have hlen : shape.length = ops.length:=by rw [← hops,List.length_map]
 have hdep' : ∀ (i : Nat) (o : Oper),ops[i]? = some o→(∀ e ∈ o.after,Region.binds .any e = true→e.on < i)∧(∀ j ∈ need i,∃ e ∈ o.after,e.on = j∧Region.binds .any e = true)∧(∀ j b,o.guard = some (j,b)→j ∈ need i):=fun i o ho=>by
  have hil:=(List.getElem?_eq_some_iff.1 ho).1
  have h1:=List.all_eq_true.1 hdep i (List.mem_range.2 hil)
  rw [ho] at h1
  simp only [Bool.and_eq_true,Array.all_eq_true',List.all_eq_true,Array.any_eq_true'] at h1
  obtain ⟨⟨h1,h2⟩,h3⟩:=h1
  refine ⟨fun e he hb=>?_,fun j hj=>?_,fun j b hg=>?_⟩
  ·have:=h1 e he
   rw [hb] at this
   simpa using this
  ·obtain ⟨e,he,h⟩:=h2 j hj
   exact ⟨e,he,by simpa using h.1,h.2⟩
  ·rw [hg] at h3
   simp at h3
   exact h3
 refine region_invG hm (fun i o ho e he hb=>?_) (fun L a w'=>RPI n a0 w shape val L a w') ?_ ?_ ?_
 ·have ho : ops[i]? = some o:=by simpa using ho
  exact (hdep' i o ho).1 e he hb
 ·refine ⟨(Below.refl _ _).drew,hz,rfl,fun i d op g hL=>?_,fun t ht=>rfl⟩
  rw [Array.getD_eq_getD_getElem?,Array.getElem?_replicate] at hL
  split at hL <;> simp at hL
 ·intro L a w' i o hs hI ho hun hd
  have ho : ops[i]? = some o:=by simpa using ho
  obtain ⟨h1,h2,h3⟩:=hdep' i o ho
  have hil:=(List.getElem?_eq_some_iff.1 ho).1
  have hsh : shape[i]? = some (o.dst,o.op,o.guard):=by rw [← hops,List.getElem?_map,ho]; rfl
  have hds : (o.dst).isSome = true:=List.all_eq_true.1 hsome _ (List.mem_of_getElem? hsh)
  obtain ⟨d,hdd⟩:=Option.isSome_iff_exists.1 hds
  rw [hdd] at hsh
  have hdsh : shape.dsts[i]? = some (some d,o.op):=by unfold ShG.dsts; rw [List.getElem?_map,hsh]; rfl
  have hdn:=(dstsC_ok hdst hdsh).1
  have hiL : i < L.size:=by rw [hs]; simpa using hil
  have hnv : ∀ j ∈ need i,∀ (dj : Nat) (op' : Op) (g' : Option (Nat × Bool)),shape[j]? = some (some dj,op',g')→a.eval (.tmp dj) = val j:=fun j hj dj op' g' hsj=>by
   obtain ⟨e,he,q1,q2⟩:=h2 j hj
   subst q1
   exact hI.vals _ dj op' g' (hd e he q2) hsj
  have hnext : ∀ (w2 : World),Below w'.heap.size w' w2→RPI n a0 w shape val (L.setIfInBounds i true) (a.put (some d) (val i)) w2:=fun w2 hb=>by
   refine ⟨hI.bw.trans (hb.mono hI.bw.size),by rw [← hI.size]; exact Array.size_setIfInBounds ..,hI.defers,fun j dj op' g' hL hsj=>?_,fun t ht=>?_⟩
   ·rw [getD_setT L i j hiL] at hL
    by_cases hij : i = j
    ·subst hij
     rw [hsh] at hsj
     injection hsj with hsj
     have : d = dj:=by injection (Prod.mk.inj hsj).1
     subst this
     rw [evT]
     exact put_eq (by rw [hI.size]; exact hdn)
    ·rw [if_neg hij] at hL
     have hdj : shape.dsts[j]? = some (some dj,op'):=by unfold ShG.dsts; rw [List.getElem?_map,hsj]; rfl
     have hne : d ≠ dj:=fun e=>(dstsC_ok hdst hdsh).2 j dj op' hdj hij (by rw [e])
     rw [evT,put_ne (by rw [hI.size]; exact hdn) (fun e=>hne e.symm)]
     exact hI.vals j dj op' g' hL hsj
   ·have hne : t ≠ d:=fun e=>ht i o.op (by rw [hdsh,e])
    rw [evT,put_ne (by rw [hI.size]; exact hdn) hne]
    exact hI.keep t ht
  have hwant : ∀ j b,o.guard = some (j,b)→(val j ≠ .bool b→val i = undef)∧(val j = .bool b→Region.wanted o (yielded ops.toArray a.tmps) = true)∧(val j ≠ .bool b→Region.wanted o (yielded ops.toArray a.tmps) = false):=fun j b hg=>by
   obtain ⟨q1,q3⟩:=hskip i _ _ j b (by rw [hsh,hg])
   have hsj:=List.getElem?_eq_getElem q1
   have hdsj : (shape[j]).1.isSome = true:=List.all_eq_true.1 hsome _ (List.getElem_mem q1)
   obtain ⟨dj,hdj0⟩:=Option.isSome_iff_exists.1 hdsj
   obtain ⟨op',g',hsj⟩ : ∃ op' g',shape[j]? = some (some dj,op',g'):=⟨(shape[j]).2.1,(shape[j]).2.2,by rw [hsj,← hdj0]⟩
   have hv:=hnv j (h3 j b hg) dj op' g' hsj
   have hoj : ∃ oj,ops[j]? = some oj∧oj.dst = some dj:=by
    have:=hsj
    rw [← hops,List.getElem?_map] at this
    obtain ⟨oj,e1,e2⟩:=Option.map_eq_some_iff.1 this
    exact ⟨oj,e1,(Prod.mk.inj e2).1⟩
   obtain ⟨oj,e1,e2⟩:=hoj
   have hdj : shape.dsts[j]? = some (some dj,op'):=by unfold ShG.dsts; rw [List.getElem?_map,hsj]; rfl
   have hdjn:=(dstsC_ok hdst hdj).1
   have h9 : a.tmps[dj]? = some (val j):=by
    rw [evT,Array.getD_eq_getD_getElem?] at hv
    have hlt : dj < a.tmps.size:=by rw [hI.size]; exact hdjn
    rw [Array.getElem?_eq_getElem hlt] at hv ⊢
    rw [← hv]; rfl
   have hy : yielded ops.toArray a.tmps j = (match val j with | .bool b=>some b | _=>none):=by
    unfold yielded
    have : (ops.toArray)[j]? = some oj:=by simpa using e1
    rw [this]
    show (match (oj.dst).bind (a.tmps[·]?) with | some (.bool b)=>some b | _=>none) = _
    rw [e2]
    show (match a.tmps[dj]? with | some (.bool b)=>some b | _=>none) = _
    rw [h9]
    cases val j <;> rfl
   have hwd : Region.wanted o (yielded ops.toArray a.tmps) = (yielded ops.toArray a.tmps j == some b):=by
    unfold Region.wanted
    rw [hg]
   refine ⟨q3,fun h=>?_,fun h=>?_⟩
   ·rw [hwd,hy,h]
    cases b <;> rfl
   ·rw [hwd,hy]
    cases hvj : val j with
    | bool c =>
     have : c ≠ b:=fun e=>h (by rw [hvj,e])
     cases c <;> cases b <;> first | rfl | exact absurd rfl this
    | _=>rfl
  have hput2 : val i = undef→RPI n a0 w shape val (L.setIfInBounds i true) (a.put o.dst undef) w':=fun hu=>by
   have:=hnext w' (Below.refl _ _)
   rw [hu] at this
   rw [hdd]
   exact this
  cases hg : o.guard with
  | none =>
   refine .inl ⟨by unfold Region.wanted; rw [hg],?_⟩
   refine Oper.wp_mono (fun a' w2 hh=>?_) (hstep i d o.op o.guard hsh (fun j b h=>by rw [hg] at h; cases h) a w' hI.size hI.bw hnv hI.keep o rfl hdd)
   obtain ⟨rfl,hb⟩:=hh
   exact hnext w2 hb
  | some jb =>
   obtain ⟨j,b⟩:=jb
   obtain ⟨q1,q2,q3⟩:=hwant j b hg
   by_cases hcb : val j = .bool b
   ·refine .inl ⟨q2 hcb,?_⟩
    refine Oper.wp_mono (fun a' w2 hh=>?_) (hstep i d o.op o.guard hsh (fun j' b' h=>by rw [hg] at h; injection h with h; injection h with e1 e2; subst e1; subst e2; exact hcb) a w' hI.size hI.bw hnv hI.keep o rfl hdd)
    obtain ⟨rfl,hb⟩:=hh
    exact hnext w2 hb
   ·exact .inr ⟨q3 hcb,hput2 (q1 hcb)⟩
 ·intro L a w' hs hall hI
  refine hQ a w' hI.size hI.defers hI.bw (fun i d op g hsh=>hI.vals i d op g (hall i ?_) hsh) hI.keep
  have:=(List.getElem?_eq_some_iff.1 hsh).1
  simp
  omega
end Go.Proofs.Ytdnaadcbimbfmaa
namespace Go.Proofs.Ytdnaadcbimbfmaa
open Go Go.RowKit Am
def vvShape : List (Option Nat × Op):=[(some 75,.move (.tmp 0)),(some 76,.move (.tmp 0)),(some 77,.nilCheck (.tmp 76)),(some 78,.fieldAddr 52 (.tmp 77) 1),(some 79,.load 29 (.tmp 78)),(some 80,.fieldAddr 37 (.tmp 3) 0),(some 81,.load 33 (.tmp 80)),(some 82,.call { callee:=.value (.func 33),args:=#[.tmp 79,.tmp 81],argTypes:=#[29,33] }),(some 74,.move (.tmp 82)),(some 83,.extract (.tmp 74) 0),(some 84,.extract (.tmp 74) 1),(some 85,.nilCheck (.tmp 75)),(some 86,.fieldAddr 52 (.tmp 85) 1),(none,.store 29 (.tmp 86) (.tmp 83))]
def vvNeed : Nat→List Nat
 | 2=>[1] | 3=>[2] | 4=>[3] | 6=>[5] | 7=>[4,6] | 8=>[7] | 9=>[8] | 10=>[8] | 11=>[0] | 12=>[11] | 13=>[12,9,7] | _=>[]
def tupW (u : VV) : Value:=.tuple #[.agg (vvs u),vI 0]
def vvVal (p : Nat) (ae : Addr) (vv u : VV) (d : Dt) (q : Nat) : Option Value :=
 match q with
 | 0=>some (.pointer (some ⟨p,0,none⟩)) | 1=>some (.pointer (some ⟨p,0,none⟩)) | 2=>some (.pointer (some ⟨p,0,none⟩)) | 3=>some (.pointer (some ((⟨p,0,none⟩ : Addr).add 1))) | 4=>some (.agg (vvs vv))
 | 5=>some (.pointer (some (ae.add 0))) | 6=>some (.agg d.vs) | 8=>some (tupW u) | 9=>some (.agg (vvs u)) | 10=>some (vI 0) | 11=>some (.pointer (some ⟨p,0,none⟩)) | 12=>some (.pointer (some ⟨p,1,none⟩)) | _=>none
def vvT (p : Nat) (mv : Value) (u : VV) (t : Int) (W : World) (k : Nat) (f : Nat→Value) (w : World) : Prop :=
 match k with
 | 0=>w = W
 | 1=>f 82 = tupW u∧Below W.heap.size W w
 | _=>f 82 = tupW u∧∃ w1,Below W.heap.size W w1∧w = w1.setRow p (spV mv u t)
theorem vv_in {mv : Value} {vv : VV} {tm : Int} (j : Nat) (v : Value) (h : (vvs vv).toList[j]? = some v) : (spV mv vv tm).toList[1 + j]? = some v:=by
 rw [Nat.add_comm]
 have hj : j < 16:=(List.getElem?_eq_some_iff.1 h).1
 have : (spV mv vv tm).toList[j + 1]? = ((vvs vv).toList ++ [vI tm])[j]?:=rfl
 rw [this,List.getElem?_append_left (show j < (vvs vv).toList.length from hj)]
 exact h
set_option maxHeartbeats 4000000 in
set_option maxRecDepth 100000 in
theorem vv_region {id : Nat} {ops : List Oper} {Q : Exit→Act→World→Prop} {a0 : Act} {w : World} (p : Nat) (ae : Addr) (vv u : VV) (d : Dt) (mv : Value) (tm : Int) (hops : ops.map (fun o=>(o.dst,o.op)) = vvShape) (hdep : depsC vvNeed ops = true) (hz : a0.tmps.size = 97)
  (h0 : a0.eval (.tmp 0) = .pointer (some (⟨p,0,none⟩))) (h3 : a0.eval (.tmp 3) = .pointer (some (ae)))
  (c3 : ∀ j v,d.vs.toList[j]? = some v→w.cell? ((ae.add 0).add j) = some v) (cp : w.heap[p]? = some (.cells (spV mv vv tm) 52 (0,0)))
  (hc : Calls Try.prog 33 #[.agg (vvs vv),.agg d.vs] w.drew fun r w2=>r = .returned (tupW u)∧Below w.heap.size w.drew w2) (hQ : ∀ a' w1,a'.tmps.size = 97→a'.defers = a0.defers→Below w.heap.size w.drew w1→(∀ t,(∀ (j : Nat) (op : Op),vvShape[j]? ≠ some (some t,op))→a'.eval (.tmp t) = a0.eval (.tmp t))→Q .normal a' (w1.setRow p (spV mv u tm))) : (Code.region id ops.toArray true).wp Try.prog Q a0 w:=by
 have hp : p < w.heap.size:=(Array.getElem?_eq_some_iff.1 cp).1
 refine region_chain mixed 97 hz vvShape hops vvNeed hdep (by decide) (vvVal p ae vv u d) [7,13] (vvT p mv u tm w.drew) (fun k f f' w1 hT hk=>?_) (by decide) (fun q hq=>?_) (fun m hm=>?_) (by decide) (fun p m m' h1 h2=>?_) ?_ ?_ ?_ (fun a' w' hs hd hT hv hoth=>?_)
 ·match k,hT with
  | 0,hT=>exact hT
  | 1,hT=>exact ⟨by rw [hk 7 (by simp) 82 _ rfl]; exact hT.1,hT.2⟩
  | _ + 2,hT=>exact ⟨by rw [hk 7 (by simp) 82 _ rfl]; exact hT.1,hT.2⟩
 ·have hq : q < 14:=hq
  obtain rfl | rfl | rfl | rfl | rfl | rfl | rfl | rfl | rfl | rfl | rfl | rfl | rfl | rfl : q = 0 ∨ q = 1 ∨ q = 2 ∨ q = 3 ∨ q = 4 ∨ q = 5 ∨ q = 6 ∨ q = 7 ∨ q = 8 ∨ q = 9 ∨ q = 10 ∨ q = 11 ∨ q = 12 ∨ q = 13:=by omega
  all_goals first | exact .inl rfl | exact .inr (by simp)
 ·simp only [List.mem_cons,List.not_mem_nil,or_false] at hm
  rcases hm with rfl | rfl <;> rfl
 ·match p with
  | 0=>injection h1 with h1; injection h2 with h2; subst h1; subst h2; simp [vvNeed]
  | 1=>simp at h2
  | _ + 2=>simp at h1
 ·exact rfl
 ·intro q dd op uu hsh hv k a w' hT hlim hn hpp hk o ho
  have hq : q < 14:=(List.getElem?_eq_some_iff.1 hsh).1
  have e0:=(hk 0 (notD (by rfl))).trans h0
  have e3:=(hk 3 (notD (by rfl))).trans h3
  obtain rfl | rfl | rfl | rfl | rfl | rfl | rfl | rfl | rfl | rfl | rfl | rfl | rfl | rfl : q = 0 ∨ q = 1 ∨ q = 2 ∨ q = 3 ∨ q = 4 ∨ q = 5 ∨ q = 6 ∨ q = 7 ∨ q = 8 ∨ q = 9 ∨ q = 10 ∨ q = 11 ∨ q = 12 ∨ q = 13:=by omega
  all_goals first | (cases hv; done) | (injection hsh with hsh; obtain ⟨rfl,rfl⟩:=Prod.mk.inj hsh; injection hv with hv; subst hv)
  ·exact q_move ho e0
  ·exact q_move ho e0
  ·exact q_nil ho (hn 1 (by decide) _ 76 _ rfl rfl)
  ·exact q_fld (ti:=ti52) (off:=1) (sz:=16) rfl rfl ho (hn 2 (by decide) _ 77 _ rfl rfl)
  ·have hk0:=hlim 0 7 rfl (by decide)
   obtain rfl : k = 0:=by omega
   have hT : w' = w.drew:=hT
   subst hT
   exact q_loadA (w:=w.drew) (cs:=(vvs vv).toList) (ti:=ti29) rfl rfl rfl ho (hn 3 (by decide) _ 78 _ rfl rfl) fun j v hj=>by
    rw [Addr.add_add,Addr.add_lit,cell_of_row w.drew _ _ _ _ _ cp]
    have:=vv_in (mv:=mv) (tm:=tm) j v hj
    rw [Nat.zero_add]
    simpa using this
  ·exact q_fld (ti:=ti37) (off:=0) (sz:=2) rfl rfl ho e3
  ·have hk0:=hlim 0 7 rfl (by decide)
   obtain rfl : k = 0:=by omega
   have hT : w' = w.drew:=hT
   subst hT
   exact q_loadA (w:=w.drew) (cs:=d.vs.toList) (ti:=ti33) rfl rfl rfl ho (hn 5 (by decide) _ 80 _ rfl rfl) c3
  ·have h7:=hpp 7 (by decide) 0 rfl
   have e82 : a.eval (.tmp 82) = tupW u:=by
    match k,hT with
    | 0,_=>omega
    | 1,hT=>exact hT.1
    | _ + 2,hT=>exact hT.1
   exact q_move ho e82
  ·exact q_ext ho (hn 8 (by decide) _ 74 _ rfl rfl) rfl
  ·exact q_ext ho (hn 8 (by decide) _ 74 _ rfl rfl) rfl
  ·exact q_nil ho (hn 0 (by decide) _ 75 _ rfl rfl)
  ·exact q_fld (ti:=ti52) (off:=1) (sz:=16) rfl rfl ho (hn 11 (by decide) _ 85 _ rfl rfl)
 ·intro k m dd op hkm hsh a w' hza hT hn hk o hd ho
  match k with
  | 0 =>
   injection hkm with hkm; subst hkm; injection hsh with hsh; obtain ⟨rfl,rfl⟩:=Prod.mk.inj hsh
   have hT : w' = w.drew:=hT
   subst hT
   have hen:=run_call (P:=Try.prog) (a:=a) (w:=w.drew) (g:=33) (caps:=[]) ho rfl (enterT Try.func33 (by kernel_rfl) rfl)
   simp only [List.map_cons,List.map_nil,List.append_nil,(hn 4 (by decide) _ 79 _ rfl rfl),(hn 6 (by decide) _ 81 _ rfl rfl)] at hen
   refine wp_enter hen (hc.mono ?_)
   rintro r w2 ⟨rfl,hb⟩
   refine ⟨_,rfl,_,by rw [hd],?_,hb⟩
   rw [hd,tf,put_eq (by rw [hza]; decide)]
  | 1 =>
   injection hkm with hkm; subst hkm; injection hsh with hsh; obtain ⟨rfl,rfl⟩:=Prod.mk.inj hsh
   obtain ⟨h82,hb⟩:=hT
   have hst:=q_storeN (w:=w') (a:=a) (cs:=(vvs u).toList) (ti:=ti29) rfl rfl ho (hn 12 (by decide) _ 86 _ rfl rfl) (hn 9 (by decide) _ 83 _ rfl rfl) ((hb.block p hp).trans cp) (by show 1 + 16 ≤ 18; omega) (List.all_eq_true.1 (show ((vvs u).toList).all (fun v=>v.oneCell') = true from rfl))
   refine exec_skip hst ⟨undef,by rw [hd],?_,w',hb,rfl⟩
   rw [hd]; exact h82
  | _ + 2=>simp at hkm
 ·obtain ⟨_,w1,hb,rfl⟩:=hT
  exact hQ a' w1 hs hd hb fun t ht=>hoth t fun j op=>ht j op
def tmShape : List (Option Nat × Op):=[(some 87,.move (.tmp 0)),(some 88,.move (.tmp 0)),(some 89,.nilCheck (.tmp 88)),(some 90,.fieldAddr 52 (.tmp 89) 2),(some 91,.load 3 (.tmp 90)),(some 92,.fieldAddr 37 (.tmp 3) 1),(some 93,.load 3 (.tmp 92)),(some 94,.call { callee:=.builtin .max,args:=#[.tmp 91,.tmp 93],argTypes:=#[3,3] }),(some 95,.nilCheck (.tmp 87)),(some 96,.fieldAddr 52 (.tmp 95) 2),(none,.store 3 (.tmp 96) (.tmp 94))]
def tmNeed : Nat→List Nat
 | 2=>[1] | 3=>[2] | 4=>[3] | 6=>[5] | 7=>[4,6] | 8=>[0] | 9=>[8] | 10=>[9,7] | _=>[]
def tmVal (p : Nat) (ae : Addr) (t te : Int) (q : Nat) : Option Value :=
 match q with
 | 0=>some (.pointer (some ⟨p,0,none⟩)) | 1=>some (.pointer (some ⟨p,0,none⟩)) | 2=>some (.pointer (some ⟨p,0,none⟩)) | 3=>some (.pointer (some ⟨p,17,none⟩)) | 4=>some (vI t)
 | 5=>some (.pointer (some (ae.add 2))) | 6=>some (vI te) | 7=>some (vI (max t te)) | 8=>some (.pointer (some ⟨p,0,none⟩)) | 9=>some (.pointer (some ⟨p,17,none⟩)) | _=>none
def tmT (p : Nat) (mv : Value) (vv : VV) (t : Int) (W : World) (k : Nat) (_ : Nat→Value) (w : World) : Prop :=
 match k with
 | 0=>w = W
 | _=>w = W.setRow p (spV mv vv t)
set_option maxHeartbeats 4000000 in
set_option maxRecDepth 100000 in
theorem tm_region {id : Nat} {ops : List Oper} {Q : Exit→Act→World→Prop} {a0 : Act} {w : World} (p : Nat) (ae : Addr) (vv : VV) (mv : Value) (t te : Int) (hops : ops.map (fun o=>(o.dst,o.op)) = tmShape) (hdep : depsC tmNeed ops = true) (hz : a0.tmps.size = 97)
  (h0 : a0.eval (.tmp 0) = .pointer (some (⟨p,0,none⟩))) (h3 : a0.eval (.tmp 3) = .pointer (some (ae)))
  (c3 : w.cell? (ae.add 2) = some (vI te)) (cp : w.heap[p]? = some (.cells (spV mv vv t) 52 (0,0)))
  (hQ : ∀ a',a'.tmps.size = 97→a'.defers = a0.defers→(∀ t,(∀ (j : Nat) (op : Op),tmShape[j]? ≠ some (some t,op))→a'.eval (.tmp t) = a0.eval (.tmp t))→Q .normal a' (w.drew.setRow p (spV mv vv (max t te)))) : (Code.region id ops.toArray true).wp Try.prog Q a0 w:=by
 have hp : p < w.heap.size:=(Array.getElem?_eq_some_iff.1 cp).1
 refine region_chain mixed 97 hz tmShape hops tmNeed hdep (by decide) (tmVal p ae t te) [10] (tmT p mv vv (max t te) w.drew) (fun k f f' w1 hT hk=>?_) (by decide) (fun q hq=>?_) (fun m hm=>?_) (by decide) (fun p m m' h1 h2=>?_) ?_ ?_ ?_ (fun a' w' hs hd hT hv hoth=>?_)
 ·match k,hT with
  | 0,hT=>exact hT
  | _ + 1,hT=>exact hT
 ·have hq : q < 11:=hq
  obtain rfl | rfl | rfl | rfl | rfl | rfl | rfl | rfl | rfl | rfl | rfl : q = 0 ∨ q = 1 ∨ q = 2 ∨ q = 3 ∨ q = 4 ∨ q = 5 ∨ q = 6 ∨ q = 7 ∨ q = 8 ∨ q = 9 ∨ q = 10:=by omega
  all_goals first | exact .inl rfl | exact .inr (by simp)
 ·simp only [List.mem_cons,List.not_mem_nil,or_false] at hm
  subst hm; rfl
 ·match p with
  | 0=>simp at h2
  | _ + 1=>simp at h1
 ·exact rfl
 ·intro q dd op uu hsh hv k a w' hT hlim hn hpp hk o ho
  have hq : q < 11:=(List.getElem?_eq_some_iff.1 hsh).1
  have e0:=(hk 0 (notD (by rfl))).trans h0
  have e3:=(hk 3 (notD (by rfl))).trans h3
  obtain rfl | rfl | rfl | rfl | rfl | rfl | rfl | rfl | rfl | rfl | rfl : q = 0 ∨ q = 1 ∨ q = 2 ∨ q = 3 ∨ q = 4 ∨ q = 5 ∨ q = 6 ∨ q = 7 ∨ q = 8 ∨ q = 9 ∨ q = 10:=by omega
  all_goals first | (cases hv; done) | (injection hsh with hsh; obtain ⟨rfl,rfl⟩:=Prod.mk.inj hsh; injection hv with hv; subst hv)
  ·exact q_move ho e0
  ·exact q_move ho e0
  ·exact q_nil ho (hn 1 (by decide) _ 88 _ rfl rfl)
  ·exact q_fld (ti:=ti52) (off:=17) (sz:=1) rfl rfl ho (hn 2 (by decide) _ 89 _ rfl rfl)
  ·have hk0:=hlim 0 10 rfl (by decide)
   obtain rfl : k = 0:=by omega
   have hT : w' = w.drew:=hT
   subst hT
   exact q_load1 (w:=w.drew) (ti:=ti3) rfl rfl ho (hn 3 (by decide) _ 90 _ rfl rfl) (by rw [cell_of_row w.drew _ _ _ _ _ cp]; rfl)
  ·exact q_fld (ti:=ti37) (off:=2) (sz:=1) rfl rfl ho e3
  ·have hk0:=hlim 0 10 rfl (by decide)
   obtain rfl : k = 0:=by omega
   have hT : w' = w.drew:=hT
   subst hT
   exact q_load1 (w:=w.drew) (ti:=ti3) rfl rfl ho (hn 5 (by decide) _ 92 _ rfl rfl) c3
  ·exact q_max (ty:=0) ho (hn 4 (by decide) _ 91 _ rfl rfl) (hn 6 (by decide) _ 93 _ rfl rfl)
  ·exact q_nil ho (hn 0 (by decide) _ 87 _ rfl rfl)
  ·exact q_fld (ti:=ti52) (off:=17) (sz:=1) rfl rfl ho (hn 8 (by decide) _ 95 _ rfl rfl)
 ·intro k m dd op hkm hsh a w' hza hT hn hk o hd ho
  match k with
  | 0 =>
   injection hkm with hkm; subst hkm; injection hsh with hsh; obtain ⟨rfl,rfl⟩:=Prod.mk.inj hsh
   have hT : w' = w.drew:=hT
   subst hT
   have hst:=q_store1 (w:=w.drew) (a:=a) (u:=vI t) (ti:=ti3) rfl rfl ho (hn 9 (by decide) _ 96 _ rfl rfl) (hn 7 (by decide) _ 94 _ rfl rfl) rfl rfl (by rw [cell_of_row w.drew _ _ _ _ _ cp]; rfl) (by simp [World.frozen?,show w.drew.heap[p]? = _ from cp])
   rw [setCell_eq_setRow w.drew p 17 _ _ _ _ cp] at hst
   exact exec_skip hst ⟨undef,by rw [hd],rfl⟩
  | _ + 1=>simp at hkm
 ·have hT : w' = w.drew.setRow p (spV mv vv (max t te)):=hT
  subst hT
  exact hQ a' hs hd fun t ht=>hoth t fun j op=>ht j op
theorem SpAt.putV {w : World} {L : Lay} {p : Nat} {σ : Sp} {mv : Value} (h : SpAt w L p σ mv) (u : VV) (t : Int) : SpAt (w.setRow p (spV mv u t)) L p { σ with vv:=u,tm:=t } mv∧Kp L.dom w (w.setRow p (spV mv u t)):=by
 have hold : ∀ g t',L.o g = some t'→t' ≠ .sp→(w.setRow p (spV mv u t)).heap[g]? = w.heap[g]?:=fun g t' hg hne=>setRow_other w p g _ (fun e=>hne (by rw [e,h.op] at hg; injection hg with hg; exact hg.symm))
 refine ⟨⟨setRow_heap w p _ _ _ _ h.at',h.op,fun g t' hg=>by rw [setRow_size]; exact h.dom g t' hg,h.len,h.nd,?_⟩,⟨rfl,rfl,rfl,by rw [setRow_size]; exact Nat.le_refl _,fun g hg hd=>setRow_other w p g _ (fun e=>hd (by rw [e]; show L.o _ ≠ none; rw [h.op]; simp))⟩⟩
 rcases h.mp with h1 | ⟨h0,m,es,clock,h1,hm⟩
 ·exact .inl h1
 ·refine .inr ⟨h0,m,es,clock,h1,hm.om,(hold m _ hm.om (by simp)).trans hm.at',hm.keys,hm.nd,hm.bd,fun j e en hje hen=>?_⟩
  obtain ⟨q1,v,u',q2⟩:=hm.ents j e en hje hen
  exact ⟨q1,v,u',q2.keep fun g t' hg ht=>⟨hold g t' hg (by rcases ht with rfl | rfl | rfl <;> simp),hg⟩⟩
theorem withW (v u : VV) (d : Dt) (m : Nat) (hm : m < 16) (hR : d.R = (m : Int)) (hv : vrightP v) (hd : dotB d = true) (hN : d.N = v ⟨m,hm⟩ + 1) (hu : u = vset v m d.N) (w : World) : Calls Try.prog 33 #[.agg (vvs v),.agg d.vs] w fun r w'=>r = .returned (tupW u)∧Below w.heap.size w w':=by
 refine ((with_ok v d m hm hR hv hd hN u hu).2 w (fun _=>False) _ (fun g hg=>hg.elim) (gd_all _ _) (Reps.cons (.agg (xs:=(vvs v).toList) (repl_map_v _ (List.all_eq_true.1 (show ((vvs v).toList).all (fun v=>v.oneCell') = true from rfl)))) (Reps.cons (.agg (xs:=d.vs.toList) (repl_map_v _ (List.all_eq_true.1 (show (d.vs.toList).all (fun v=>v.oneCell') = true from rfl)))) (Reps.nil _ _)))).mono fun r w' hh=>?_
 obtain ⟨y,S',rfl,hg,ys,rfl,hys⟩:=hh
 obtain ⟨z1,zs,rfl,h1,hys⟩:=hys.uncons
 obtain ⟨z2,zs2,rfl,h2,hys⟩:=hys.uncons
 have:=hys.unnil
 subst this
 rw [rep_v h2,rep_agg_v (xs:=(vvs u).toList) h1]
 exact ⟨rfl,hg.below⟩
end Go.Proofs.Ytdnaadcbimbfmaa
