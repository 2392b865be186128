import Derived.Test.YtdnaadcbimbfmaaG13
set_option linter.unusedSimpArgs false
set_option linter.unusedVariables false
namespace Go.Proofs.Ytdnaadcbimbfmaa
open Go Go.RowKit Am
set_option maxHeartbeats 4000000 in
set_option maxRecDepth 100000 in
theorem apply_ok (w : World) (L : Lay) (p : Nat) (σ : Sp) (mv : Value) (e : Ev) (h : SpAt w L p σ mv) (hrd : ReadyP σ.vv e) (hvv : vrightP σ.vv)
  (hE : ∀ (i : Nat) (en : Ent),(σ.at e.op.key).es[i]? = some en→EntOK en∧(∀ x ∈ en.lv,x.dot ≠ e.dot)∧en.lv.length ≤ 400000∧en.dd.length ≤ 400000) :
  Calls Try.prog 12 #[.pointer (some ⟨p,0,none⟩),.agg e.vs] w fun r w'=>∃ L' mv' i,r = .returned (.int .i64 0)∧(σ.at e.op.key).ks[i]? = some e.op.key∧SpAt w' L' p ((σ.at e.op.key).app i e) mv'∧Ext L L' w.heap.size∧Kp L.dom w w':=by
 refine calls_of_wp Try.func12 rfl ?_
 rw [Try.ntmps12]
 obtain ⟨a0,ha0⟩ : ∃ a0 : Act,a0 = { tmps:=(#[.pointer (some ⟨p,0,none⟩),.agg e.vs] : Array Value) ++ Array.replicate (97 - (#[.pointer (some ⟨p,0,none⟩),.agg e.vs] : Array Value).size) undef,defers:=[] }:=⟨_,rfl⟩
 rw [← ha0]
 obtain ⟨q0,q1,q2,q3⟩:=act2 (.pointer (some ⟨p,0,none⟩)) (.agg e.vs) 97 (by decide) a0 ha0
 have hs0 : AS 97 w L p [(0,.v (.pointer (some ⟨p,0,none⟩))),(1,.agg e.ac)] (fun _=>False) L σ mv a0 w:=by
  refine AS.start (xs:=[]) (args:=[]) q0 q1 h fun t x ht=>?_
  simp only [lk] at ht
  split at ht
  ·rename_i h0; injection ht with ht; subst ht; subst h0
   exact ⟨by omega,by rw [q2]; exact srep_of_rep (.c (.v _ rfl))⟩
  split at ht
  ·rename_i h0; injection ht with ht; subst ht; subst h0
   exact ⟨by omega,by rw [q3]; exact srep_of_rep (.agg (xs:=e.vs.toList) (repl_map_v e.vs.toList (xvone e)))⟩
  ·cases ht
 clear ha0
 have hdef : ∀ {sl S L' σ' mv' a' w'},AS 97 w L p sl S L' σ' mv' a' w'→a'.defers = []:=fun h=>h.hi.defers
 refine wp_seq (hs0.pc (E:={ n:=97 }) [(4,aI 0),(3,.ept e.ac 0),(0,.v (.pointer (some ⟨p,0,none⟩)))] rfl (fun F C D hF hC=>?_) fun S1 a1 w1 h1=>?_)
 ·cbv
  exact ⟨100,(le_of [] (by simp [leSl,leOb,injK,memK,parK,noTup,lk,rn0,rnA,plain] <;> first | rfl | decide | (repeat (first | rfl | trivial | refine And.intro ?_ ?_))))⟩
 clear hs0
 refine wp_seq (wp_block (wp_seq (h1.pc (E:={ n:=97 }) [(8,aB false),(4,aI 0),(3,.ept e.ac 0),(0,.v (.pointer (some ⟨p,0,none⟩)))] rfl (fun F C D hF hC=>?_) fun S2 a2 w2 h2=>?_)))
 ·have kr:=hC _ _ _ (right_ok e true (by simp [hrd.rt]))
  have nilp:=hC _ _ _ (show CSem Try.prog (.nilp 25) [] (.pure []) from (show Try.prog.underlying 25 = _ from by kernel_rfl))
  have tb:=bnotF hF true
  cbv
  refine ⟨nilp,?_⟩
  cbv
  refine ⟨_,kr,?_⟩
  cbv
  rw [tb]
  exact ⟨100,(le_of [] (by simp [leSl,leOb,injK,memK,parK,noTup,lk,rn0,rnA,plain] <;> first | rfl | decide | (repeat (first | rfl | trivial | refine And.intro ?_ ?_))))⟩
 have t8 : a2.eval (.tmp 8) = .bool false:=h2.val rfl
 refine wp_cond_false t8 (wp_seq (wp_region_list ?_))
 refine h2.pre (E:={ n:=97 }) 2 [(18,.agg e.ac),(17,.v (.pointer (some ⟨p,0,none⟩))),(4,aI 0),(3,.ept e.ac 0),(0,.v (.pointer (some ⟨p,0,none⟩)))] rfl (fun F C hF hC=>?_) fun S3 a3 w3 h3=>?_
 ·cbv
  exact ⟨100,(le_of [] (by simp [leSl,leOb,injK,memK,parK,noTup,lk,rn0,rnA,plain] <;> first | rfl | decide | (repeat (first | rfl | trivial | refine And.intro ?_ ?_))))⟩
 clear h1 h2
 obtain ⟨r18,e18⟩ : a3.eval (.tmp 18) = .agg e.vs∧True:=⟨rep_agg_v (xs:=e.vs.toList) (h3.hi.slots 18 _ rfl).2,trivial⟩
 refine callW [.pointer (some ⟨p,0,none⟩),.agg e.vs] rfl rfl (enterT Try.func11 (by kernel_rfl) rfl) (by simp [h3.val (t:=17) rfl,r18]) ?_
 refine (readyW (w:=w3) h3.sp hvv e true (by simp [hrd])).mono ?_
 rintro r w4 ⟨rfl,hb4⟩
 refine ⟨_,rfl,?_⟩
 have h4:=(h3.bw hb4).put (d:=19) (by decide) (aB true) (srep_of_rep (.c (.v _ rfl)))
 clear h3
 refine h4.pcl (E:={ n:=97 }) [(16,aB false),(4,aI 0),(3,.ept e.ac 0),(0,.v (.pointer (some ⟨p,0,none⟩)))] rfl (fun F C hF hC=>?_) fun S5 a5 w5 h5=>?_
 ·have tb:=bnotF hF true
  cbv
  rw [tb]
  exact ⟨100,(le_of [] (by simp [leSl,leOb,injK,memK,parK,noTup,lk,rn0,rnA,plain] <;> first | rfl | decide | (repeat (first | rfl | trivial | refine And.intro ?_ ?_))))⟩
 clear h4 e18 r18
 have t16 : a5.eval (.tmp 16) = .bool false:=h5.val rfl
 refine wp_cond_false t16 (wp_skip ?_)
 clear t16 t8
 refine wp_seq (wp_region_list ?_)
 refine h5.pre (E:={ n:=97 }) 4 [(24,aS e.op.key),(21,.v (.pointer (some ⟨p,0,none⟩))),(4,aI 0),(3,.ept e.ac 0),(0,.v (.pointer (some ⟨p,0,none⟩)))] rfl (fun F C hF hC=>?_) fun S6 a6 w6 h6=>?_
 ·cbv
  exact ⟨100,(le_of [] (by simp [leSl,leOb,injK,memK,parK,noTup,lk,rn0,rnA,plain] <;> first | rfl | decide | (repeat (first | rfl | trivial | refine And.intro ?_ ?_))))⟩
 clear h5
 refine callW [.pointer (some ⟨p,0,none⟩),.string e.op.key] rfl rfl (enterT Try.func27 (by kernel_rfl) rfl) (by simp [h6.val (t:=21) rfl,h6.val (t:=24) rfl]) ?_
 refine (at_ok w6 _ p σ _ e.op.key h6.sp).mono ?_
 rintro r w7 ⟨L1,mv1,i,rfl,hsp1,hki,hx1,hk1⟩
 refine ⟨_,rfl,?_⟩
 have hil : i < (σ.at e.op.key).es.length:=by rw [hsp1.len]; exact (List.getElem?_eq_some_iff.1 hki).1
 obtain ⟨en,hen⟩ : ∃ en,(σ.at e.op.key).es[i]? = some en:=⟨_,List.getElem?_eq_getElem hil⟩
 obtain ⟨hok,hnd,hll,hdl⟩:=hE i en hen
 have h7:=(h6.wr hsp1 hk1 hx1).put (d:=25) (by decide) (.v (.pointer (some ⟨L1.pt i,0,none⟩))) (srep_of_rep (.c (.v _ rfl)))
 clear h6
 obtain ⟨A,hA⟩ : ∃ A,A = L1.pt i:=⟨_,rfl⟩
 rw [← hA] at h7 ⊢
 refine h7.pcl (E:={ n:=97 }) [(5,.v (.pointer (some ⟨A,0,none⟩))),(4,aI 0),(3,.ept e.ac 0),(0,.v (.pointer (some ⟨p,0,none⟩)))] rfl (fun F C hF hC=>?_) fun S8 a8 w8 h8=>?_
 ·cbv
  exact ⟨100,(le_of [] (by simp [leSl,leOb,injK,memK,parK,noTup,lk,rn0,rnA,plain] <;> first | rfl | decide | (repeat (first | rfl | trivial | refine And.intro ?_ ?_))))⟩
 clear h7
 refine wp_seq (wp_seq (wp_region_list ?_))
 refine h8.pre (E:={ n:=97 }) 3 [(28,.v (.pointer (some ⟨A,0,none⟩))),(5,.v (.pointer (some ⟨A,0,none⟩))),(4,aI 0),(3,.ept e.ac 0),(0,.v (.pointer (some ⟨p,0,none⟩)))] rfl (fun F C hF hC=>?_) fun S9 a9 w9 h9=>?_
 ·cbv
  exact ⟨100,(le_of [] (by simp [leSl,leOb,injK,memK,parK,noTup,lk,rn0,rnA,plain] <;> first | rfl | decide | (repeat (first | rfl | trivial | refine And.intro ?_ ?_))))⟩
 clear h8
 obtain ⟨ve,ue,hent⟩:=h9.sp.ent hen
 rw [← hA] at hent
 refine callW [.pointer (some ⟨A,0,none⟩)] rfl rfl (enterT Try.func21 (by kernel_rfl) rfl) (by simp [h9.val (t:=28) rfl]) ?_
 refine (itemsEW hent.bagLv.1 (by omega)).mono ?_
 rintro r w10 ⟨z,rfl,hb10,hown⟩
 refine ⟨_,rfl,?_⟩
 obtain ⟨S10,h10⟩:=h9.row (d:=29) hb10 hown itvE_ac itvE_one itE_len (by decide)
 clear h9 hown hb10 hent
 obtain ⟨rows,hrows⟩ : ∃ rows,rows = en.lv.map itE:=⟨_,rfl⟩
 obtain ⟨n',hn'⟩ : ∃ n' : Int,n' = (en.lv.length : Int):=⟨_,rfl⟩
 rw [← hrows] at h10
 refine h10.pcl (E:={ n:=97 }) [(31,aI 0),(30,aI n'),(29,.sl rows),(5,.v (.pointer (some ⟨A,0,none⟩))),(4,aI 0),(3,.ept e.ac 0),(0,.v (.pointer (some ⟨p,0,none⟩)))] rfl (fun F C hF hC=>?_) fun S11 a11 w11 h11=>?_
 ·have tl : F .len rows = n':=by rw [lenF hF,hrows,List.length_map,hn']
  cbv
  rw [tl]
  exact ⟨100,(le_of [] (by simp [leSl,leOb,injK,memK,parK,noTup,lk,rn0,rnA,plain] <;> first | rfl | decide | (repeat (first | rfl | trivial | refine And.intro ?_ ?_))))⟩
 clear h10
 have hset0 : (σ.at e.op.key).set i ⟨(foldA e en 0).1,(foldA e en 0).2⟩ = σ.at e.op.key:=by
  unfold Sp.set
  have : (σ.at e.op.key).es.set i en = (σ.at e.op.key).es:=by
   apply List.ext_getElem?
   intro j
   by_cases hj : i = j
   ·subst hj; rw [List.getElem?_set_self hil,hen]
   ·rw [List.getElem?_set_ne hj]
  show { σ.at e.op.key with es:=(σ.at e.op.key).es.set i en } = _
  rw [this]
 rw [← hset0] at h11
 refine wp_block (loop_by (fun k a w'=>k ≤ en.lv.length∧∃ S L' mv' k',k' = (k : Int)∧L'.pt i = A∧AS 97 w L p [(31,aI k'),(30,aI n'),(29,.sl rows),(5,.v (.pointer (some ⟨A,0,none⟩))),(4,aI 0),(3,.ept e.ac 0),(0,.v (.pointer (some ⟨p,0,none⟩)))] S L' ((σ.at e.op.key).set i ⟨(foldA e en k).1,(foldA e en k).2⟩) mv' a w') (fun k=>en.lv.length - k) 0 ⟨Nat.zero_le _,S11,L1,mv1,0,rfl,hA.symm,h11⟩ fun k aa ww hI=>?_)
 clear h11 hset0
 obtain ⟨hk,S,L2,mv2,k',ek,hpt,hs⟩:=hI
 have FI:=foldI e en hok k hk
 by_cases hkl : k < en.lv.length
 ·obtain ⟨x,hx⟩ : ∃ x,en.lv[k]? = some x:=⟨_,List.getElem?_eq_getElem hkl⟩
  have hrow : rows[k]? = some (itE x):=by rw [hrows,List.getElem?_map,hx]; rfl
  have hst:=foldA_succ e en k x hx
  obtain ⟨k2,ek2⟩ : ∃ k2 : Int,k2 = ((k + 1 : Nat) : Int):=⟨_,rfl⟩
  refine wp_seq (hs.pc (E:={ n:=97 }) [(32,aB true),(31,aI k'),(30,aI n'),(29,.sl rows),(5,.v (.pointer (some ⟨A,0,none⟩))),(4,aI 0),(3,.ept e.ac 0),(0,.v (.pointer (some ⟨p,0,none⟩)))] rfl (fun F C D hF hC=>?_) fun S1 a1 w1 h1=>?_)
  ·have tl : F .cmp .lss k' n' = true:=(ltF hF k en.lv.length k' n' ek hn').2 hkl
   cbv
   rw [tl]
   exact ⟨100,(le_of [] (by simp [leSl,leOb,injK,memK,parK,noTup,lk,rn0,rnA,plain] <;> first | rfl | decide | (repeat (first | rfl | trivial | refine And.intro ?_ ?_))))⟩
  refine wp_seq (wp_cond_true (h1.val (t:=32) rfl) (wp_skip ?_))
  refine wp_seq (wp_block (wp_seq (h1.pc (E:={ n:=97 }) [(7,.ept (itE x) 0),(31,aI k'),(30,aI n'),(29,.sl rows),(5,.v (.pointer (some ⟨A,0,none⟩))),(4,aI 0),(3,.ept e.ac 0),(0,.v (.pointer (some ⟨p,0,none⟩)))] rfl (fun F C D hF hC=>?_) fun S2 a2 w2 h2=>?_)))
  ·cbv
   refine ⟨k,_,ek,hrow,rfl,?_⟩
   cbv
   exact ⟨100,(le_of [] (by simp [leSl,leOb,injK,memK,parK,noTup,lk,rn0,rnA,plain] <;> first | rfl | decide | (repeat (first | rfl | trivial | refine And.intro ?_ ?_))))⟩
  clear h1 hs
  obtain ⟨r,hr⟩ : ∃ r,r = endsB e x:=⟨_,rfl⟩
  obtain ⟨nr,hnr⟩ : ∃ nr,nr = !r:=⟨_,rfl⟩
  refine wp_seq (wp_seq (h2.pc (E:={ n:=97 }) [(39,aB nr),(7,.ept (itE x) 0),(31,aI k'),(30,aI n'),(29,.sl rows),(5,.v (.pointer (some ⟨A,0,none⟩))),(4,aI 0),(3,.ept e.ac 0),(0,.v (.pointer (some ⟨p,0,none⟩)))] rfl (fun F C D hF hC=>?_) fun S3 a3 w3 h3=>?_))
  ·have kd:=hC _ _ _ (ends_ok e x r hr)
   have tn:=(bnotF hF r).trans hnr.symm
   cbv
   refine ⟨_,kd,?_⟩
   cbv
   rw [tn]
   exact ⟨100,(le_of [] (by simp [leSl,leOb,injK,memK,parK,noTup,lk,rn0,rnA,plain] <;> first | rfl | decide | (repeat (first | rfl | trivial | refine And.intro ?_ ?_))))⟩
  clear h2
  have t39 : a3.eval (.tmp 39) = .bool nr:=h3.val rfl
  cases r with
  | false =>
   subst hnr
   refine wp_cond_true t39 (wp_exit ?_)
   refine h3.pc (E:={ n:=97 }) [(31,aI k2),(30,aI n'),(29,.sl rows),(5,.v (.pointer (some ⟨A,0,none⟩))),(4,aI 0),(3,.ept e.ac 0),(0,.v (.pointer (some ⟨p,0,none⟩)))] rfl (fun F C D hF hC=>?_) fun S4 a4 w4 h4=>?_
   ·have tl:=(incF hF ek (by omega)).trans ek2.symm
    cbv
    rw [tl]
    exact ⟨100,(le_of [] (by simp [leSl,leOb,injK,memK,parK,noTup,lk,rn0,rnA,plain] <;> first | rfl | decide | (repeat (first | rfl | trivial | refine And.intro ?_ ?_))))⟩
   rw [show (⟨(foldA e en k).1,(foldA e en k).2⟩ : Ent) = ⟨(foldA e en (k + 1)).1,(foldA e en (k + 1)).2⟩ by rw [hst,stepA,if_neg (by rw [← hr]; simp)]] at h4
   exact ⟨k + 1,⟨hkl,S4,L2,mv2,k2,ek2,hpt,h4⟩,by omega⟩
  | true =>
   subst hnr
   refine wp_cond_false t39 (wp_skip ?_)
   have he : endsB e x = true:=hr.symm
   rw [stepA,if_pos he] at hst
   obtain ⟨ad,had,hcell⟩:=h3.cells (t:=7) (itvE x) rfl
   refine wp_seq (rem_region A ad x.dot rfl (by kernel_rfl) h3.hi.size (h3.val rfl) had (it_c0 hcell) _ (remW h3.sp hil hpt FI.lr (FI.rest k x (Nat.le_refl _) hx) (by have:=foldA_len e en k hk; omega)) fun a4 v4 w4 hz4 hd4 hJ ho4=>?_)
   obtain ⟨L3,hpt3,hsp3,hx3,hk3⟩:=hJ
   have h4:=(h3.reg hz4 hd4 remShape rfl ho4).wr hsp3 hk3 hx3
   clear h3
   obtain ⟨kk,hkk⟩ : ∃ kk,kk = decide (x.op.kind = 9):=⟨_,rfl⟩
   refine wp_seq (h4.pc (E:={ n:=97 }) [(50,aB kk),(7,.ept (itE x) 0),(31,aI k'),(30,aI n'),(29,.sl rows),(5,.v (.pointer (some ⟨A,0,none⟩))),(4,aI 0),(3,.ept e.ac 0),(0,.v (.pointer (some ⟨p,0,none⟩)))] rfl (fun F C D hF hC=>?_) fun S5 a5 w5 h5=>?_)
   ·have tk : F .cmp .eql x.op.kind 9 = kk:=by rw [hF,hkk]; rfl
    cbv
    exact ⟨100,le_of [] (by simp [leSl,leOb,injK,memK,parK,noTup,lk,rn0,rnA,plain] <;> exact ⟨tk,rfl,rfl⟩)⟩
   clear h4
   have t50 : a5.eval (.tmp 50) = .bool kk:=h5.val rfl
   cases kk with
   | false =>
    refine wp_cond_false t50 (wp_skip ?_)
    refine h5.pc (E:={ n:=97 }) [(31,aI k2),(30,aI n'),(29,.sl rows),(5,.v (.pointer (some ⟨A,0,none⟩))),(4,aI 0),(3,.ept e.ac 0),(0,.v (.pointer (some ⟨p,0,none⟩)))] rfl (fun F C D hF hC=>?_) fun S6 a6 w6 h6=>?_
    ·have tl:=(incF hF ek (by omega)).trans ek2.symm
     cbv
     rw [tl]
     exact ⟨100,(le_of [] (by simp [leSl,leOb,injK,memK,parK,noTup,lk,rn0,rnA,plain] <;> first | rfl | decide | (repeat (first | rfl | trivial | refine And.intro ?_ ?_))))⟩
    rw [show (⟨delD dE (foldA e en k).1 x.dot,(foldA e en k).2⟩ : Ent) = ⟨(foldA e en (k + 1)).1,(foldA e en (k + 1)).2⟩ by rw [hst,if_neg (by simpa using hkk.symm)]] at h6
    exact ⟨k + 1,⟨hkl,S6,L3,_,k2,ek2,hpt3,h6⟩,by omega⟩
   | true =>
    have hk9 : x.op.kind = 9:=by simpa using hkk.symm
    obtain ⟨ad5,had5,hcell5⟩:=h5.cells (t:=7) (itvE x) rfl
    obtain ⟨ae5,hae5,hcel5⟩:=h5.cells (t:=3) e.vs.toList rfl
    refine wp_cond_true t50 (pud_region A ad5 ae5 x e.dot rfl (by kernel_rfl) h5.hi.size (h5.val rfl) had5 hae5 (it_c0 hcell5) (it_c2 hcell5) (ev_c0 hcel5) _ (pudW h5.sp hil hpt3 FI.dr (fun z hz=>?_) (by have:=FI.dlen; omega)) fun a6 v6 w6 hz6 hd6 hJ ho6=>?_)
    ·intro hd
     rcases FI.dsub z hz with q | ⟨j,y,q1,q2,q3,q4⟩
     ·exact hok.ap x (List.mem_of_getElem? hx) z q hd.symm
     ·have:=lv_inj hok q2 hx (q4.symm.trans hd)
      omega
    obtain ⟨L4,hpt4,hsp4,hx4,hk4⟩:=hJ
    have h6:=(h5.reg hz6 hd6 pudShape rfl ho6).wr hsp4 hk4 hx4
    clear h5
    refine h6.pc (E:={ n:=97 }) [(31,aI k2),(30,aI n'),(29,.sl rows),(5,.v (.pointer (some ⟨A,0,none⟩))),(4,aI 0),(3,.ept e.ac 0),(0,.v (.pointer (some ⟨p,0,none⟩)))] rfl (fun F C D hF hC=>?_) fun S7 a7 w7 h7=>?_
    ·have tl:=(incF hF ek (by omega)).trans ek2.symm
     cbv
     rw [tl]
     exact ⟨100,(le_of [] (by simp [leSl,leOb,injK,memK,parK,noTup,lk,rn0,rnA,plain] <;> first | rfl | decide | (repeat (first | rfl | trivial | refine And.intro ?_ ?_))))⟩
    rw [show (⟨delD dE (foldA e en k).1 x.dot,insD dT (foldA e en k).2 (x,e.dot)⟩ : Ent) = ⟨(foldA e en (k + 1)).1,(foldA e en (k + 1)).2⟩ by rw [hst,if_pos hk9]] at h7
    exact ⟨k + 1,⟨hkl,S7,L4,_,k2,ek2,hpt4,h7⟩,by omega⟩
 ·have hke : k = en.lv.length:=by omega
  refine wp_seq (hs.pc (E:={ n:=97 }) [(32,aB false),(31,aI k'),(30,aI n'),(29,.sl rows),(5,.v (.pointer (some ⟨A,0,none⟩))),(4,aI 0),(3,.ept e.ac 0),(0,.v (.pointer (some ⟨p,0,none⟩)))] rfl (fun F C D hF hC=>?_) fun S1 a1 w1 h1=>?_)
  ·have tl : F .cmp .lss k' n' = false:=by rw [Bool.eq_false_iff]; exact fun hh=>hkl ((ltF hF k en.lv.length k' n' ek hn').1 hh)
   cbv
   rw [tl]
   exact ⟨100,(le_of [] (by simp [leSl,leOb,injK,memK,parK,noTup,lk,rn0,rnA,plain] <;> first | rfl | decide | (repeat (first | rfl | trivial | refine And.intro ?_ ?_))))⟩
  refine wp_seq (wp_cond_false (h1.val (t:=32) rfl) (wp_exit ?_))
  clear hs
  subst hke
  obtain ⟨rl,rd,hF9⟩ : ∃ rl rd,foldA e en en.lv.length = (rl,rd):=⟨_,_,rfl⟩
  obtain ⟨rr,hrr⟩ : ∃ rr,rr = addsB e.op.kind:=⟨_,rfl⟩
  refine wp_seq (wp_seq (h1.pc (E:={ n:=97 }) [(66,aB rr),(5,.v (.pointer (some ⟨A,0,none⟩))),(4,aI 0),(3,.ept e.ac 0),(0,.v (.pointer (some ⟨p,0,none⟩)))] rfl (fun F C D hF hC=>?_) fun S2 a2 w2 h2=>?_))
  ·have kr:=hC _ _ _ (adds_ok e.op.kind rr hrr)
   cbv
   refine ⟨_,kr,?_⟩
   cbv
   exact ⟨100,(le_of [] (by simp [leSl,leOb,injK,memK,parK,noTup,lk,rn0,rnA,plain] <;> first | rfl | decide | (repeat (first | rfl | trivial | refine And.intro ?_ ?_))))⟩
  clear h1
  have t66 : a2.eval (.tmp 66) = .bool rr:=h2.val rfl
  show Code.wp Try.prog (Code.cond _ _ _) _ a2 w2
  have hap : (σ.at e.op.key).set i (applyE e en) = (σ.at e.op.key).set i ⟨if rr = true then insD dE rl e else rl,rd⟩:=by
   unfold applyE; rw [hF9,hrr]
  have FI' : FoldI e en en.lv.length:=FI
  have hrl : rl = (foldA e en en.lv.length).1:=by rw [hF9]
  refine wp_mono (Q:=fun ex a' w'=>ex = .normal∧∃ S L' mv',AS 97 w L p [(4,aI 0),(3,.ept e.ac 0),(0,.v (.pointer (some ⟨p,0,none⟩)))] S L' ((σ.at e.op.key).set i (applyE e en)) mv' a' w') ?_ fun ex a3 w3 hh=>?_
  ·cases rr with
   | false =>
    refine wp_cond_false t66 (wp_skip ⟨rfl,S2,L2,mv2,?_⟩)
    rw [hap,if_neg (by simp)]
    rw [hF9] at h2
    exact (h2.dr rfl).dr rfl
   | true =>
    obtain ⟨ae,hae,hcel⟩:=h2.cells (t:=3) e.vs.toList rfl
    refine wp_cond_true t66 (pul_region A ae e rfl (by kernel_rfl) h2.hi.size (h2.val rfl) hae (ev_c0 hcel) hcel _ (pulW h2.sp hil hpt FI.lr (fun y hy=>hnd y (FI.lsub y hy)) (by have:=foldA_len e en en.lv.length (Nat.le_refl _); omega)) fun a6 v6 w6 hz6 hd6 hJ ho6=>?_)
    obtain ⟨L4,hpt4,hsp4,hx4,hk4⟩:=hJ
    have h6:=(h2.reg hz6 hd6 pulShape rfl ho6).wr hsp4 hk4 hx4
    refine ⟨rfl,S2,L4,mv2,?_⟩
    rw [hap,if_pos rfl]
    rw [hF9] at h6
    exact (h6.dr rfl).dr rfl
  ·obtain ⟨rfl,S3,L3,mv3,h3⟩:=hh
   clear h2
   obtain ⟨ae,hae,hcel⟩:=h3.cells (t:=3) e.vs.toList rfl
   have hsv : ((σ.at e.op.key).set i (applyE e en)).vv = σ.vv:=by
    show (σ.at e.op.key).vv = σ.vv
    unfold Sp.at; split <;> rfl
   have hst : ((σ.at e.op.key).set i (applyE e en)).tm = σ.tm:=by
    show (σ.at e.op.key).tm = σ.tm
    unfold Sp.at; split <;> rfl
   have hat:=h3.sp.at'
   rw [hsv,hst] at hat
   obtain ⟨m,hm⟩ : ∃ m,m = e.dot.R.toNat:=⟨_,rfl⟩
   have r0:=hrd.rt.r0
   have r1:=hrd.rt.r1
   have hm16 : m < 16:=by omega
   have hnx : e.dot.N = σ.vv ⟨m,hm16⟩ + 1:=by
    have:=hrd.nx
    unfold vget at this
    rw [dif_pos (by omega)] at this
    subst hm; exact this
   have hdot : dotB e.dot = true:=by simp [dotB,replica,r0,r1,hrd.rt.n0,hrd.rt.n1]
   obtain ⟨u,hu⟩ : ∃ u,u = vset σ.vv m e.dot.N:=⟨_,rfl⟩
   show Code.wp Try.prog (Code.seq _ _) _ a3 w3
   refine wp_seq (vv_region p ae σ.vv u e.dot mv3 σ.tm rfl (by kernel_rfl) h3.hi.size (h3.val rfl) hae (ev_c0 hcel) hat ((withW σ.vv u e.dot m hm16 (by omega) hvv hdot hnx hu w3.drew)) fun a4 w4 hz4 hd4 hb4 ho4=>?_)
   have hb4' : Below w3.heap.size w3 w4:=(Below.refl _ _).drew.trans hb4
   have h4:=(h3.reg hz4 hd4 vvShape rfl ho4).bw hb4'
   obtain ⟨q4,q5⟩:=h4.sp.putV u σ.tm
   have h5:=h4.wr q4 q5 (Ext.refl _ _)
   clear h4 h3
   obtain ⟨ae',hae',hcel'⟩:=h5.cells (t:=3) e.vs.toList rfl
   show Code.wp Try.prog (Code.seq _ _) _ _ _
   refine wp_seq (tm_region p ae' u mv3 σ.tm e.time rfl (by kernel_rfl) h5.hi.size (h5.val rfl) hae' (hcel' 2 _ rfl) h5.sp.at' fun a6 hz6 hd6 ho6=>?_)
   have h6:=(h5.reg hz6 hd6 tmShape rfl ho6).bw ((Below.refl _ _).drew)
   obtain ⟨q6,q7⟩:=h6.sp.putV u (max σ.tm e.time)
   have h7:=h6.wr q6 q7 (Ext.refl _ _)
   clear h6 h5
   have happ : { (σ.at e.op.key).set i (applyE e en) with vv:=u,tm:=max σ.tm e.time } = (σ.at e.op.key).app i e:=by
    unfold Sp.app Sp.set
    rw [hen,hu]
    have e1 : (σ.at e.op.key).vv = σ.vv:=hsv
    have e2 : (σ.at e.op.key).tm = σ.tm:=hst
    rw [e1,e2,hm]
    rfl
   show Code.wp Try.prog (Code.seq _ _) _ _ _
   refine wp_seq (h7.pc (E:={ n:=97 }) [(4,aI 0)] rfl (fun F C D hF hC=>?_) fun S8 a8 w8 h8=>?_)
   ·cbv
    exact ⟨100,(le_of [] (by simp [leSl,leOb,injK,memK,parK,noTup,lk,rn0,rnA,plain] <;> first | rfl | decide | (repeat (first | rfl | trivial | refine And.intro ?_ ?_))))⟩
   have t4 : a8.tmps.getD 4 undef = .int .i64 0:=h8.val (t:=4) rfl
   rw [happ] at h8
   refine wp_ret ⟨hdef h8,.int .i64 0,?_,L3,mv3,i,rfl,hki,h8.sp,h8.ex,h8.kp⟩
   rw [results_tmp rfl,t4]
end Go.Proofs.Ytdnaadcbimbfmaa
namespace Go.Proofs.Ytdnaadcbimbfmaa
open Go Go.RowKit Am
theorem SpAt.call {w : World} {L : Lay} {p : Nat} {σ : Sp} {mv : Value} (h : SpAt w L p σ mv) {f : Nat} {args : List AV} {xs : List Value} {r : List AV} (hc : CSem Try.prog (.fn f) (.ept (spA (mapA σ) σ.vv σ.tm) 0 :: args) (.pure r)) (hx : ∀ S,Reps w S args xs) :
  Calls Try.prog f (Value.pointer (some ⟨p,0,none⟩) :: xs).toArray w fun e w'=>∃ ys S',e = .returned (tupV ys)∧Below w.heap.size w w'∧Reps w' S' r ys:=by
 refine (hc.2 w L.dom _ (fun g hg=>?_) (gd_all _ _) (Reps.cons (h.rep fun g hg=>hg) (hx _))).mono fun e w' hh=>?_
 ·cases ho : L.o g with
  | none=>exact absurd ho hg
  | some t=>exact h.dom g t ho
 ·obtain ⟨y,S',rfl,hg,ys,rfl,hys⟩:=hh
  exact ⟨ys,S',rfl,hg.below,hys⟩
theorem reps_v1 {w : World} {S : Nat→Prop} {v : Value} {ys : List Value} (h : Reps w S [.v v] ys) : ys = [v]:=by
 obtain ⟨z,rfl,hz⟩:=reps_one h
 rw [rep_v hz]
theorem SpAt.callV {w : World} {L : Lay} {p : Nat} {σ : Sp} {mv : Value} (h : SpAt w L p σ mv) {f : Nat} {args : List AV} {xs : List Value} {v : Value} (hc : CSem Try.prog (.fn f) (.ept (spA (mapA σ) σ.vv σ.tm) 0 :: args) (.pure [.v v])) (hx : ∀ S,Reps w S args xs) :
  Calls Try.prog f (Value.pointer (some ⟨p,0,none⟩) :: xs).toArray w fun e w'=>e = .returned v∧Below w.heap.size w w' :=
 (h.call hc hx).mono fun e w' ⟨ys,S',he,hb,hr⟩=>by
  rw [reps_v1 hr] at he
  exact ⟨he,hb⟩
theorem SpAt.vvW {w : World} {L : Lay} {p : Nat} {σ : Sp} {mv : Value} (h : SpAt w L p σ mv) : Calls Try.prog 10 #[.pointer (some ⟨p,0,none⟩)] w fun e w'=>e = .returned (.agg (vvs σ.vv))∧Below w.heap.size w w' :=
 (h.call (vv_ok (mapA σ) σ.vv σ.tm) (fun S=>Reps.nil _ _)).mono fun e w' ⟨ys,S',he,hb,hr⟩=>by
  obtain ⟨z,rfl,hz⟩:=reps_one hr
  have : z = .agg (vvs σ.vv):=rep_agg_v (xs:=(vvs σ.vv).toList) hz
  subst this
  exact ⟨he,hb⟩
theorem AS.addV {n p : Nat} {w0 w : World} {L0 L : Lay} {sl : List (Nat × AV)} {S : Nat→Prop} {σ : Sp} {mv : Value} {a : Act} (h : AS n w0 L0 p sl S L σ mv a w) {d : Nat} (hd : d < n) {v : Value} (h1 : v.oneCell' = true) (hv : a.eval (.tmp d) = v) : AS n w0 L0 p ((d,.v v) :: sl) S L σ mv a w :=
 ⟨(PS.addV (w0:=w) (S0:=S) ⟨h.hi,gr_below h.hi.lt (Below.refl _ _)⟩ hd h1 hv).hi,h.sp,h.ap,h.kp,h.ex⟩
set_option maxHeartbeats 4000000 in
set_option maxRecDepth 100000 in
theorem newW_ok (w : World) : Calls Try.prog 8 #[] w fun e w'=>e = .returned (.pointer (some ⟨w.heap.size,0,none⟩))∧w' = w.alloc (.cells (spV (.map none) (fun _=>0) 0) 52):=by
 go_enter Try.func8,Try.ntmps8
 go_wp2
 go_ret
 exact ⟨rfl,rfl⟩
def layP (p : Nat) : Lay:=⟨fun g=>if g = p then some .sp else none,fun _=>0⟩
theorem spAt_new (w : World) : SpAt (w.alloc (.cells (spV (.map none) (fun _=>0) 0) 52)) (layP w.heap.size) w.heap.size sp0 (.map none):=by
 refine ⟨heap_alloc_new w _,if_pos rfl,fun g t hg=>?_,rfl,List.nodup_nil,.inl ⟨rfl,rfl⟩⟩
 have hg : (if g = w.heap.size then some Tag.sp else none) = some t:=hg
 split at hg
 ·simp; omega
 ·cases hg
end Go.Proofs.Ytdnaadcbimbfmaa
namespace Go.Proofs.Ytdnaadcbimbfmaa
open Go Go.RowKit Am
theorem wantedW {ops : Array Oper} {a : Act} {o : Oper} {j d : Nat} {b : Bool} (hg : o.guard = some (j,b)) (hd : (ops[j]?).bind (·.dst) = some d) (hz : d < a.tmps.size) (hv : a.eval (.tmp d) = .bool b) : Region.wanted o (yielded ops a.tmps) = true:=by
 unfold Region.wanted
 rw [hg]
 show (yielded ops a.tmps j == some b) = true
 have hy : yielded ops a.tmps j = some b:=by
  unfold yielded
  rw [hd]
  show (match a.tmps[d]? with | some (.bool b)=>some b | _=>none) = _
  rw [evT,Array.getD_eq_getD_getElem?] at hv
  rw [Array.getElem?_eq_getElem hz] at hv ⊢
  have hv : a.tmps[d] = .bool b:=hv
  rw [hv]
 rw [hy]
 cases b <;> rfl
theorem callWg {P : Program} {ops : Array Oper} {Q : Exit→Act→World→Prop} {rest : List Oper} {a : Act} {w : World} {o : Oper} {f : Nat} {args : Array Operand} {tys : Array TypeId} (xs : List Value) (hw : Region.wanted o (yielded ops a.tmps) = true) (ho : o.op = .call { callee:=.value (.func f),args:=args,argTypes:=tys })
  (hf : ∀ cs w,(callFunc f cs).run P w = .ok (.enter f cs) w) (hx : args.map a.eval = xs.toArray) (hc : Calls P f xs.toArray w fun e w'=>∃ v,e = .returned v∧wpList P ops Q rest (a.put o.dst v) w') : wpList P ops Q (o :: rest) a w:=by
 refine wpList_step fun K' hK'=>?_
 rw [if_pos hw]
 refine wp_enter (run_call (caps:=[]) ho rfl hf) ?_
 rw [show (args.toList.map a.eval ++ [] : List Value) = xs by rw [List.append_nil,← Array.toList_map,hx]]
 refine hc.mono ?_
 rintro e w' ⟨v,rfl,h⟩
 exact ⟨v,rfl,hK' _ _ h⟩
theorem AS.fresh {n : Nat} {w0 w : World} {S0 S : Nat→Prop} {sl : List (Nat × AV)} {a : Act} (h : PS n w0 S0 sl S a w) {d : Nat} (hd : d < n) :
  AS n (w.alloc (.cells (spV (.map none) (fun _=>0) 0) 52)) (layP w.heap.size) w.heap.size ((d,.v (.pointer (some ⟨w.heap.size,0,none⟩))) :: sl) S (layP w.heap.size) sp0 (.map none) (a.put (some d) (.pointer (some ⟨w.heap.size,0,none⟩))) (w.alloc (.cells (spV (.map none) (fun _=>0) 0) 52)):=by
 have hb : Below w.heap.size w (w.alloc (.cells (spV (.map none) (fun _=>0) 0) 52)):=(Below.refl _ _).alloc (Nat.le_refl _) _
 have h1:=(h.hi.grow (gr_below h.hi.lt hb)).put hd (.v (.pointer (some ⟨w.heap.size,0,none⟩))) (srep_of_rep (.c (.v _ rfl)))
 refine ⟨h1,spAt_new w,fun g hg=>?_,Kp.refl _ _,Ext.refl _ _⟩
 have:=h.hi.lt g hg
 show (if g = w.heap.size then some Tag.sp else none) = none
 rw [if_neg (by omega)]
theorem AS.done {n : Nat} {w0 w w2 : World} {S0 S S' : Nat→Prop} {sl : List (Nat × AV)} {L : Lay} {σ : Sp} {mv : Value} {a : Act} (hgr : Gr w0 S0 w S) (hS : ∀ g,S0 g→g < w0.heap.size) (h : AS n (w.alloc (.cells (spV (.map none) (fun _=>0) 0) 52)) (layP w.heap.size) w.heap.size sl S' L σ mv a w2) : Below w0.heap.size w0 w2:=by
 have hb : Below w.heap.size w (w.alloc (.cells (spV (.map none) (fun _=>0) 0) 52)):=(Below.refl _ _).alloc (Nat.le_refl _) _
 have hk : Below w.heap.size (w.alloc (.cells (spV (.map none) (fun _=>0) 0) 52)) w2:=⟨h.kp.os,h.kp.tape,h.kp.output,h.kp.size,fun g hg=>h.kp.block g (Nat.lt_of_lt_of_le hg hb.size) (fun hd=>by
  have : (if g = w.heap.size then some Tag.sp else none) ≠ none:=hd
  rw [if_neg (by omega)] at this
  exact this rfl)⟩
 exact hgr.below.trans ((hb.trans hk).mono hgr.below.size)
def aw17 : Ev:={ dot:=⟨0,1⟩,time:=0,deps:=fun _=>0,op:={ kind:=1,key:=⟨#[107]⟩,fld:=⟨#[]⟩,val:=⟨#[118]⟩,num:=0,ref:=⟨0,0⟩ } }
theorem aw17_ready : ReadyP sp0.vv aw17:=by
 refine ⟨⟨by decide,by decide,by decide,by decide,by decide,by decide,fun i=>⟨Int.le_refl 0,(show (0 : Int) ≤ 1048576 by decide)⟩,?_,?_,.inr ⟨by decide,rfl⟩⟩,?_,?_⟩
 ·unfold vget aw17; simp
 ·unfold canB usesU aw17; decide
 ·unfold vget aw17 sp0; simp
 ·funext k; rfl
noncomputable def sp17 : Sp:=(sp0.at aw17.op.key).app 0 aw17
theorem sp17_at : sp0.at aw17.op.key = ⟨[aw17.op.key],[⟨[],[]⟩],fun _=>0,0⟩:=by rw [Sp.at_miss (by simp [sp0])]; rfl
theorem sp17_eq : sp17 = ⟨[aw17.op.key],[⟨[aw17],[]⟩],vset (fun _=>0) 0 1,0⟩:=by
 unfold sp17; rw [sp17_at]; rfl
theorem aw17_ends : endsB aw17 aw17 = false:=by simp [endsB,covers,hasB,vget,aw17,dotB,replica]
theorem aw17_all : liveAll [aw17] = [aw17]:=by
 have : liveP [aw17] aw17 = true:=by simp [liveP,aw17_ends,show addsB aw17.op.kind = true from rfl]
 rw [liveAll,List.filter_cons_of_pos this]; rfl
theorem aw17_of : ofL [aw17] ⟨#[107]⟩ = [aw17]:=by
 have : keyP ⟨#[107]⟩ aw17 = true:=by unfold keyP; rw [bytes_beq]; rfl
 rw [ofL,List.filter_cons_of_pos this]; exact aw17_all
theorem aw17_typ : ofT [aw17] ⟨#[107]⟩ = 1:=by unfold ofT; rw [aw17_of]; rfl
theorem aw17_ofV : ofV [aw17] ⟨#[107]⟩ = [aw17]:=by unfold ofV; rw [aw17_of,aw17_typ]; rfl
theorem sp17_evs : sp17.evs ⟨#[107]⟩ = [aw17]:=by
 rw [sp17_eq]; unfold Sp.evs enK; rw [if_pos (show aw17.op.key = ⟨#[107]⟩ from rfl)]
theorem aw17_lat : latR ((ofS (sp17.evs ⟨#[107]⟩) ⟨#[107]⟩ 1).filter kdP) = some aw17:=by
 rw [sp17_evs,ofS,if_pos aw17_typ,aw17_ofV]
 have : kdP aw17 = true:=rfl
 rw [List.filter_cons_of_pos this]
 unfold latR topB
 simp [later_irr]
theorem sp17_lv : ∀ en ∈ sp17.es,en.lv.length ≤ 1000000:=by rw [sp17_eq]; simp
theorem aw_text : CSem Try.prog (.fn 16) [.ept (spA (mapA sp17) sp17.vv sp17.tm) 0,aS ⟨#[107]⟩] (.pure [aS ⟨#[118]⟩,aB true]) :=
 text_ok sp17 sp17_lv ⟨#[107]⟩ ⟨#[118]⟩ true (fun e h=>by rw [aw17_lat] at h; injection h with h; subst h; exact ⟨rfl,rfl⟩) (fun h=>by rw [aw17_lat] at h; cases h)
theorem aw_type : CSem Try.prog (.fn 17) [.ept (spA (mapA sp17) sp17.vv sp17.tm) 0,aS ⟨#[107]⟩] (.pure [aI 1]) :=
 type17_ok sp17 sp17_lv ⟨#[107]⟩ 1 (by rw [sp17_evs,aw17_typ])
set_option maxHeartbeats 8000000 in
set_option maxRecDepth 100000 in
theorem awake_ok : CSem Try.prog (.fn 6) [] (.pure [aB true]):=by
 refine acall_hand 38 Try.func6 (by kernel_rfl) rfl rfl (by simp) fun w S a h=>?_
 have hS:=h.hi.lt
 refine wp_seq (h.pc (E:={ n:=38 }) [] rfl (fun F C D hF hC=>?_) fun S1 a1 w1 h1=>?_)
 ·cbv
  exact ⟨100,(le_of [] (by simp [leSl,leOb,injK,memK,parK,noTup,lk,rn0,rnA,plain] <;> first | rfl | decide | (repeat (first | rfl | trivial | refine And.intro ?_ ?_))))⟩
 clear h
 refine wp_seq (wp_region_list ?_)
 refine callW [] rfl rfl (enterT Try.func8 (by kernel_rfl) rfl) (by simp) ?_
 refine (newW_ok w1).mono ?_
 rintro r w2 ⟨rfl,rfl⟩
 refine ⟨_,rfl,?_⟩
 have hgr:=h1.gr
 have h2:=AS.fresh h1 (d:=5) (by decide)
 clear h1
 obtain ⟨p,hp⟩ : ∃ p,p = w1.heap.size:=⟨_,rfl⟩
 have hdone:=fun (n : Nat) (sl : List (Nat × AV)) (S' : Nat→Prop) (L : Lay) (σ : Sp) (mv : Value) (a : Act) (w2 : World)=>AS.done (n:=n) (sl:=sl) (S':=S') (L:=L) (σ:=σ) (mv:=mv) (a:=a) (w2:=w2) hgr hS
 rw [← hp] at h2 hdone ⊢
 obtain ⟨wA,hwA⟩ : ∃ wA,wA = w1.alloc (.cells (spV (.map none) (fun _=>0) 0) 52):=⟨_,rfl⟩
 rw [← hwA] at h2 hdone ⊢
 obtain ⟨LP,hLP⟩ : ∃ LP,LP = layP p:=⟨_,rfl⟩
 rw [← hLP] at h2 hdone
 refine h2.pcl (E:={ n:=38 }) [(1,.v (.pointer (some ⟨p,0,none⟩)))] rfl (fun F C hF hC=>?_) fun S3 a3 w3 h3=>?_
 ·cbv
  exact ⟨100,(le_of [] (by simp [leSl,leOb,injK,memK,parK,noTup,lk,rn0,rnA,plain] <;> first | rfl | decide | (repeat (first | rfl | trivial | refine And.intro ?_ ?_))))⟩
 clear h2
 refine wp_seq (wp_seq (h3.pc (E:={ n:=38 }) [(7,aB false),(1,.v (.pointer (some ⟨p,0,none⟩)))] rfl (fun F C D hF hC=>?_) fun S4 a4 w4 h4=>?_))
 ·have nilp:=hC _ _ _ (show CSem Try.prog (.nilp 25) [] (.pure []) from (show Try.prog.underlying 25 = _ from by kernel_rfl))
  cbv
  refine ⟨nilp,?_⟩
  cbv
  exact ⟨100,(le_of [] (by simp [leSl,leOb,injK,memK,parK,noTup,lk,rn0,rnA,plain] <;> first | rfl | decide | (repeat (first | rfl | trivial | refine And.intro ?_ ?_))))⟩
 clear h3
 refine wp_cond_false (h4.val (t:=7) rfl) (wp_skip ?_)
 show Code.wp Try.prog (Code.seq _ _) _ _ _
 refine wp_seq (wp_region_list ?_)
 refine h4.pre (E:={ n:=38 }) 4 [(11,.agg aw17.ac),(8,.v (.pointer (some ⟨p,0,none⟩))),(1,.v (.pointer (some ⟨p,0,none⟩)))] rfl (fun F C hF hC=>?_) fun S5 a5 w5 h5=>?_
 ·cbv
  exact ⟨100,(le_of [] (by simp [leSl,leOb,injK,memK,parK,noTup,lk,rn0,rnA,plain] <;> first | rfl | decide | (repeat (first | rfl | trivial | refine And.intro ?_ ?_))))⟩
 clear h4
 have r11 : a5.eval (.tmp 11) = .agg aw17.vs:=rep_agg_v (xs:=aw17.vs.toList) (h5.hi.slots 11 _ rfl).2
 refine callW [.pointer (some ⟨p,0,none⟩),.agg aw17.vs] rfl rfl (enterT Try.func12 (by kernel_rfl) rfl) (by simp [h5.val (t:=8) rfl,r11]) ?_
 refine (apply_ok w5 _ p sp0 _ aw17 h5.sp aw17_ready (fun i=>⟨Int.le_refl 0,(show (0 : Int) ≤ 1048576 by decide)⟩) (fun i en hen=>spg0.ents (Nat.zero_le _) aw17_ready i en hen)).mono ?_
 rintro r w6 ⟨L6,mv6,i,rfl,hki,hsp6,hx6,hk6⟩
 have hi0 : i = 0:=by
  rw [sp17_at] at hki
  match i,hki with
  | 0,_=>rfl
  | i + 1,hki=>simp at hki
 subst hi0
 refine ⟨_,rfl,?_⟩
 have h6:=(h5.wr hsp6 hk6 hx6).put (d:=12) (by decide) (aI 0) (srep_of_rep (.c (.v _ rfl)))
 rw [show (sp0.at aw17.op.key).app 0 aw17 = sp17 from rfl] at h6
 clear h5
 refine h6.pcl (E:={ n:=38 }) [(2,aI 0),(1,.v (.pointer (some ⟨p,0,none⟩)))] rfl (fun F C hF hC=>?_) fun S7 a7 w7 h7=>?_
 ·cbv
  exact ⟨100,(le_of [] (by simp [leSl,leOb,injK,memK,parK,noTup,lk,rn0,rnA,plain] <;> first | rfl | decide | (repeat (first | rfl | trivial | refine And.intro ?_ ?_))))⟩
 clear h6
 refine wp_seq (wp_region_list ?_)
 refine h7.pre (E:={ n:=38 }) 1 [(14,.v (.pointer (some ⟨p,0,none⟩))),(2,aI 0),(1,.v (.pointer (some ⟨p,0,none⟩)))] rfl (fun F C hF hC=>?_) fun S8 a8 w8 h8=>?_
 ·cbv
  exact ⟨100,(le_of [] (by simp [leSl,leOb,injK,memK,parK,noTup,lk,rn0,rnA,plain] <;> first | rfl | decide | (repeat (first | rfl | trivial | refine And.intro ?_ ?_))))⟩
 clear h7
 refine callW [.pointer (some ⟨p,0,none⟩),.string ⟨#[107]⟩] rfl rfl (enterT Try.func16 (by kernel_rfl) rfl) (by simp [h8.val (t:=14) rfl]; rfl) ?_
 refine (h8.sp.call (xs:=[.string ⟨#[107]⟩]) aw_text (fun S=>Reps.cons (.c (.v _ rfl)) (Reps.nil _ _))).mono ?_
 rintro r w9 ⟨ys,S9,rfl,hb9,hys⟩
 obtain ⟨z1,ys,rfl,hz1,hys⟩:=hys.uncons
 have hz2:=reps_v1 hys
 subst hz2
 have hz1:=rep_v hz1
 subst hz1
 refine ⟨_,rfl,?_⟩
 have h9:=(h8.bw hb9).put (d:=15) (by decide) (.tup [aS ⟨#[118]⟩,aB true]) (v:=.tuple #[.string ⟨#[118]⟩,.bool true]) ⟨[.string ⟨#[118]⟩,.bool true],rfl,rfl,fun i u x hu hx=>by
  match i,hu,hx with
  | 0,hu,hx=>injection hu with hu; injection hx with hx; subst hu; subst hx; exact .c (.v _ rfl)
  | 1,hu,hx=>injection hu with hu; injection hx with hx; subst hu; subst hx; exact .c (.v _ rfl)
  | i + 2,hu,hx=>simp at hu⟩
 clear h8
 refine h9.pcl (E:={ n:=38 }) [(4,aB true),(3,aS ⟨#[118]⟩),(2,aI 0),(1,.v (.pointer (some ⟨p,0,none⟩)))] rfl (fun F C hF hC=>?_) fun S10 a10 w10 h10=>?_
 ·cbv
  exact ⟨100,(le_of [] (by simp [leSl,leOb,injK,memK,parK,noTup,lk,rn0,rnA,plain] <;> first | rfl | decide | (repeat (first | rfl | trivial | refine And.intro ?_ ?_))))⟩
 clear h9
 refine wp_seq (wp_region_list ?_)
 refine h10.pre (E:={ n:=38 }) 11 [(28,.v (.pointer (some ⟨p,0,none⟩))),(27,aB true),(1,.v (.pointer (some ⟨p,0,none⟩)))] rfl (fun F C hF hC=>?_) fun S11 a11 w11 h11=>?_
 ·have t1 : F .cmp .eql 0 0 = true:=eqF hF _ _
  have t2 : F .scmp .eql (⟨#[118]⟩ : ByteArray) ⟨#[118]⟩ = true:=by rw [hF]; simp [sy]
  cbv
  rw [t1]
  repeat (first | (refine bT rfl ?_; cbv) | (refine bT t2 ?_; cbv))
  exact ⟨100,(le_of [] (by simp [leSl,leOb,injK,memK,parK,noTup,lk,rn0,rnA,plain] <;> first | rfl | decide | (repeat (first | rfl | trivial | refine And.intro ?_ ?_))))⟩
 clear h10
 refine callWg [.pointer (some ⟨p,0,none⟩),.string ⟨#[107]⟩] (wantedW (d:=27) (b:=true) rfl rfl (by rw [h11.hi.size]; decide) (h11.val (t:=27) rfl)) rfl (enterT Try.func17 (by kernel_rfl) rfl) (by simp [h11.val (t:=28) rfl]; rfl) ?_
 refine (h11.sp.callV (xs:=[.string ⟨#[107]⟩]) aw_type (fun S=>Reps.cons (.c (.v _ rfl)) (Reps.nil _ _))).mono ?_
 rintro r w12 ⟨rfl,hb12⟩
 refine ⟨_,rfl,?_⟩
 have h12:=(h11.bw hb12).put (d:=29) (by decide) (aI 1) (srep_of_rep (.c (.v _ rfl)))
 clear h11
 refine h12.pre (E:={ n:=38 }) 4 [(33,.v (.pointer (some ⟨p,0,none⟩))),(32,aB true),(1,.v (.pointer (some ⟨p,0,none⟩)))] rfl (fun F C hF hC=>?_) fun S13 a13 w13 h13=>?_
 ·have t1 : F .cmp .eql 1 1 = true:=eqF hF _ _
  cbv
  repeat (first | (refine bT rfl ?_; cbv) | (refine bT t1 ?_; cbv))
  exact ⟨100,(le_of [] (by simp [leSl,leOb,injK,memK,parK,noTup,lk,rn0,rnA,plain] <;> first | rfl | decide | (repeat (first | rfl | trivial | refine And.intro ?_ ?_))))⟩
 clear h12
 refine callWg [.pointer (some ⟨p,0,none⟩)] (wantedW (d:=32) (b:=true) rfl rfl (by rw [h13.hi.size]; decide) (h13.val (t:=32) rfl)) rfl (enterT Try.func10 (by kernel_rfl) rfl) (by simp [h13.val (t:=33) rfl]) ?_
 refine h13.sp.vvW.mono ?_
 rintro r w14 ⟨rfl,hb14⟩
 refine ⟨_,rfl,?_⟩
 obtain ⟨u,hu⟩ : ∃ u,u = sp17.vv:=⟨_,rfl⟩
 have hu' : u = vset (fun _=>0) 0 1:=by rw [hu,sp17_eq]
 rw [← hu]
 have h14:=(h13.bw hb14).put (d:=34) (by decide) (.agg (vac u)) (srep_of_rep (.agg (xs:=(vvs u).toList) (repl_map_v (vvs u).toList (List.all_eq_true.1 (show ((vvs u).toList).all (fun v=>v.oneCell') = true from rfl)))))
 clear h13
 obtain ⟨u1,hu1⟩ : ∃ u1,u1 = vset (fun _=>0) 0 1:=⟨_,rfl⟩
 rw [← hu1] at hu'
 refine wpList_step fun K' hK'=>?_
 rw [if_pos (wantedW (d:=32) (b:=true) rfl rfl (by rw [h14.hi.size]; decide) (h14.val (t:=32) rfl))]
 refine exec_val (w':=w14) (v:=.agg (vvs u1)) (by rw [hu1]; kernel_rfl) (hK' _ _ ?_)
 have h15:=h14.put (d:=35) (by decide) (.agg (vac u1)) (srep_of_rep (.agg (xs:=(vvs u1).toList) (repl_map_v (vvs u1).toList (List.all_eq_true.1 (show ((vvs u1).toList).all (fun v=>v.oneCell') = true from rfl)))))
 clear h14
 obtain ⟨q,hq,heq⟩:=vvEq_ok u u1
 rw [hq.2 hu'] at heq
 clear hu1
 refine h15.pcl (E:={ n:=38 }) [(0,aB true)] rfl (fun F C hF hC=>?_) fun S15 a15 w15 h15=>?_
 ·have he:=hC _ _ _ heq
  clear heq hq hu hu'
  cbv
  repeat (first | (refine bT rfl ?_; cbv))
  refine ⟨_,he,?_⟩
  cbv
  repeat (first | (refine bT rfl ?_; cbv))
  exact ⟨100,(le_of [] (by simp [leSl,leOb,injK,memK,parK,noTup,lk,rn0,rnA,plain] <;> first | rfl | decide | (repeat (first | rfl | trivial | refine And.intro ?_ ?_))))⟩
 subst hwA
 subst hLP
 subst hp
 have hb:=hdone _ _ _ _ _ _ _ _ h15
 refine wp_ret (bodyPost_ret (results_tmp rfl _ _ _) h15.hi.defers ⟨_,S,rfl,gr_below hS hb,[_],rfl,Reps.cons ?_ (Reps.nil _ _)⟩)
 show Rep w15 S (aB true) (a15.tmps.getD 0 undef)
 rw [show a15.tmps.getD 0 undef = .bool true from h15.val (t:=0) rfl]
 exact .c (.v _ rfl)
end Go.Proofs.Ytdnaadcbimbfmaa
namespace Go.Proofs.Ytdnaadcbimbfmaa
open Go Go.RowKit Am
section
variable {a : Act} {w : World} {o : Oper}
theorem q_not {x ty : Nat} {m : Bool} {q : Bool} (h : o.op = .unOp .not ty (.tmp x)) (ex : a.eval (.tmp x) = .bool m) (hq : q = !m) : (execOp a.eval o).run Try.prog w = .ok (.value (.bool q)) w:=by
 simp [execOp,h,ex,Op.unary,hq]
theorem q_pickT {c : Nat} {x y : Operand} {v : Value} (h : o.op = .pick (.tmp c) x y) (ec : a.eval (.tmp c) = .bool true) (ex : a.eval x = v) : (execOp a.eval o).run Try.prog w = .ok (.value v) w:=by
 simp [execOp,h,ec,ex,asBool]
theorem q_pickF {c : Nat} {x y : Operand} {v : Value} (h : o.op = .pick (.tmp c) x y) (ec : a.eval (.tmp c) = .bool false) (ex : a.eval y = v) : (execOp a.eval o).run Try.prog w = .ok (.value v) w:=by
 simp [execOp,h,ec,ex,asBool]
end
theorem pure_val {P : Program} {o : Oper} {a : Act} {w : World} {v : Value} {d : Nat} {Q : Exit→Act→World→Prop} (hd : o.dst = some d) (h : (execOp a.eval o).run P w = .ok (.value v) w) : o.wp P a w (fun a' w2=>a' = a.put (some d) v∧Below w.heap.size w w2) Q:=exec_val h (by rw [hd]; exact ⟨rfl,Below.refl _ _⟩)
theorem rep_vvs {w : World} {S : Nat→Prop} (u : VV) : Rep w S (.agg (vac u)) (.agg (vvs u)):=.agg (xs:=(vvs u).toList) (repl_map_v (vvs u).toList (List.all_eq_true.1 (show ((vvs u).toList).all (fun v=>v.oneCell') = true from rfl)))
theorem pure_call {P : Program} {o : Oper} {a : Act} {w : World} {v : Value} {d f : Nat} {args : Array Operand} {tys : Array TypeId} {Q : Exit→Act→World→Prop} (xs : List Value) (hd : o.dst = some d) (ho : o.op = .call { callee:=.value (.func f),args:=args,argTypes:=tys }) (hf : ∀ cs w,(callFunc f cs).run P w = .ok (.enter f cs) w) (hx : args.map a.eval = xs.toArray) (hc : Calls P f xs.toArray w fun e w'=>e = .returned v∧Below w.heap.size w w') : o.wp P a w (fun a' w2=>a' = a.put (some d) v∧Below w.heap.size w w2) Q:=by
 refine wp_enter (run_call (caps:=[]) ho rfl hf) ?_
 rw [show (args.toList.map a.eval ++ [] : List Value) = xs by rw [List.append_nil,← Array.toList_map,hx]]
 refine hc.mono ?_
 rintro e w' ⟨rfl,hb⟩
 exact ⟨v,rfl,by rw [hd],hb⟩
end Go.Proofs.Ytdnaadcbimbfmaa
namespace Go.Proofs.Ytdnaadcbimbfmaa
open Go Go.RowKit Am
theorem cell_below {w w' : World} {ad : Addr} {v : Value} (hb : Below w.heap.size w w') (h : w.cell? ad = some v) : w'.cell? ad = some v:=by
 rw [← h]
 exact World.cell?_of_block (hb.block _ (block_lt_of_cell h))
end Go.Proofs.Ytdnaadcbimbfmaa
namespace Go.Proofs.Ytdnaadcbimbfmaa
open Go Go.RowKit Am
def idxQ {α : Type} (p : α→Bool) (l : List α) : Int:=match l.findIdx? p with | some i=>i | none=>-1
theorem idxQ_at {α : Type} {p : α→Bool} {l : List α} {i : Nat} {e : α} (h : ∀ (k : Nat) (x : α),k < i→l[k]? = some x→p x = false) (hi : l[i]? = some e) (he : p e = true) : idxQ p l = i:=by
 have : l.findIdx? p = some i:=by
  rw [List.findIdx?_eq_some_iff_getElem]
  obtain ⟨h1,h2⟩:=List.getElem?_eq_some_iff.1 hi
  exact ⟨h1,by rw [h2]; exact he,fun j hj=>by simpa using h j _ hj (List.getElem?_eq_getElem (by omega))⟩
 rw [idxQ,this]
theorem idxQ_none {α : Type} {p : α→Bool} {l : List α} (h : ∀ (k : Nat) (x : α),l[k]? = some x→p x = false) : idxQ p l = -1:=by
 have : l.findIdx? p = none:=by
  rw [List.findIdx?_eq_none_iff]
  intro x hx
  obtain ⟨k,hk,rfl⟩:=List.getElem_of_mem hx
  exact h k _ (List.getElem?_eq_getElem hk)
 rw [idxQ,this]
theorem idxQ_any {α : Type} (p : α→Bool) (l : List α) : decide (0 ≤ idxQ p l) = l.any p:=by
 unfold idxQ
 cases h : l.findIdx? p with
 | none =>
  rw [List.findIdx?_eq_none_iff] at h
  have : l.any p = false:=by rw [List.any_eq_false]; intro x hx; simp [h x hx]
  rw [this]; rfl
 | some i =>
  rw [List.findIdx?_eq_some_iff_getElem] at h
  obtain ⟨h1,h2,_⟩:=h
  have : l.any p = true:=List.any_eq_true.2 ⟨_,List.getElem_mem h1,h2⟩
  rw [this]; simp
end Go.Proofs.Ytdnaadcbimbfmaa
namespace Go.Proofs.Ytdnaadcbimbfmaa
open Go Go.RowKit Am
theorem indexFuncE_ok (g : Nat) (caps : List AV) (p : ElE→Bool) (hp : ∀ e,CSem Try.prog (.fn g) (.agg (itE e) :: caps) (.pure [aB (p e)])) (l : List ElE) (hl : l.length ≤ 100000000) (rows : List (List AV)) (hrows : rows = l.map itE) (r : Int) (hr : r = idxQ p l) :
  CSem Try.prog (.fn 97) [.sl rows,.clo g caps] (.pure [aI r]):=by
 refine of_text gam_ok mixed { n:=19 } Try.func97 (by kernel_rfl) rfl rfl (by simp) (by decide) fun F C D hF hC hD=>?_
 obtain ⟨n',hn'⟩ : ∃ n',F .len rows = n':=⟨_,rfl⟩
 have en : n' = (l.length : Int):=by rw [← hn',lenF hF,hrows,List.length_map]
 cbv
 rw [hn']
 refine ⟨Nat × Int,fun x=>{ slots:=[(8,aI x.2),(7,aI n'),(0,.sl rows),(1,.clo g caps)],obs:=[],ctr:=0 },fun x=>x.2 = (x.1 : Int)∧x.1 ≤ l.length∧∀ k e,k < x.1→l[k]? = some e→p e = false,fun x=>l.length - x.1,⟨(0,0),⟨rfl,Nat.zero_le _,fun k e hk=>by omega⟩,le_of [] (by simp [leSl,leOb,injK,memK,parK,noTup,lk,rn0,rnA,plain,aI])⟩,fun x hx=>?_⟩
 obtain ⟨i,i'⟩:=x
 obtain ⟨ei,hi,hz⟩:=hx
 simp only at ei hi hz
 have en : n' = (l.length : Int):=en
 have tl:=ltF hF i l.length i' n' ei en
 have ep:=incF hF ei (by omega)
 cbv
 refine br (fun h=>?_) (fun h=>?_) <;> cbv
 ·have hil:=tl.1 h
  obtain ⟨e,he⟩ : ∃ e,l[i]? = some e:=⟨_,List.getElem?_eq_getElem hil⟩
  have hrow : rows[i]? = some (itE e):=by rw [hrows,List.getElem?_map,he]; rfl
  refine ⟨i,itE e,ei,hrow,rfl,?_⟩
  cbv
  refine ⟨_,hC _ _ _ (hp e),?_⟩
  generalize hpe : p e = c
  cbv
  refine br (fun g=>?_) (fun g=>?_) <;> cbv
  ·have : i' = r:=by rw [hr,ei]; exact (idxQ_at (fun k x hk hx=>hz k x hk hx) he (hpe.trans g)).symm
   rw [this]; exact ⟨rfl,trivial⟩
  ·obtain ⟨j,hj⟩ : ∃ j,F .ar .add .i64 i' 1 = j:=⟨_,rfl⟩
   rw [hj]
   refine ⟨(i + 1,j),⟨hj.symm.trans ep,hil,fun k x hk hx=>?_⟩,(show l.length - (i + 1) < l.length - i by omega),le_of [] (by simp [leSl,leOb,injK,memK,parK,noTup,lk,rn0,rnA,plain])⟩
   by_cases e1 : k < i
   ·exact hz k x e1 hx
   ·have : k = i:=by have:=(show k < i + 1 from hk); omega
    rw [this,he] at hx
    injection hx with hx
    rw [← hx]; exact hpe.trans g
 ·have hge : l.length ≤ i:=by have:=nfB tl h; omega
  have : (-1 : Int) = r:=by rw [hr]; exact (idxQ_none (fun k x hx=>hz k x (by have:=(List.getElem?_eq_some_iff.1 hx).1; omega) hx)).symm
  rw [← this]; exact ⟨rfl,trivial⟩
theorem containsFuncE_ok (g : Nat) (caps : List AV) (p : ElE→Bool) (hp : ∀ e,CSem Try.prog (.fn g) (.agg (itE e) :: caps) (.pure [aB (p e)])) (l : List ElE) (hl : l.length ≤ 100000000) (rows : List (List AV)) (hrows : rows = l.map itE) (r : Bool) (hr : r = l.any p) :
  CSem Try.prog (.fn 81) [.sl rows,.clo g caps] (.pure [aB r]):=by
 refine of_text gam_ok mixed { n:=9 } Try.func81 (by kernel_rfl) rfl rfl (by simp) (by decide) fun F C D hF hC hD=>?_
 have hi:=idxQ_any p l
 rw [← hr] at hi
 obtain ⟨j,hj⟩ : ∃ j,j = idxQ p l:=⟨_,rfl⟩
 rw [← hj] at hi
 have h1:=hC _ _ _ (indexFuncE_ok g caps p hp l hl rows hrows j hj)
 clear hj
 cbv
 refine ⟨_,h1,?_⟩
 cbv
 subst hF; simp [sy,← hi]
end Go.Proofs.Ytdnaadcbimbfmaa
namespace Go.Proofs.Ytdnaadcbimbfmaa
open Go Go.RowKit Am
theorem indexFuncT_ok (g : Nat) (caps : List AV) (p : ElT→Bool) (hp : ∀ e,CSem Try.prog (.fn g) (.agg (itT e) :: caps) (.pure [aB (p e)])) (l : List ElT) (hl : l.length ≤ 100000000) (rows : List (List AV)) (hrows : rows = l.map itT) (r : Int) (hr : r = idxQ p l) :
  CSem Try.prog (.fn 98) [.sl rows,.clo g caps] (.pure [aI r]):=by
 refine of_text gam_ok mixed { n:=19 } Try.func98 (by kernel_rfl) rfl rfl (by simp) (by decide) fun F C D hF hC hD=>?_
 obtain ⟨n',hn'⟩ : ∃ n',F .len rows = n':=⟨_,rfl⟩
 have en : n' = (l.length : Int):=by rw [← hn',lenF hF,hrows,List.length_map]
 cbv
 rw [hn']
 refine ⟨Nat × Int,fun x=>{ slots:=[(8,aI x.2),(7,aI n'),(0,.sl rows),(1,.clo g caps)],obs:=[],ctr:=0 },fun x=>x.2 = (x.1 : Int)∧x.1 ≤ l.length∧∀ k e,k < x.1→l[k]? = some e→p e = false,fun x=>l.length - x.1,⟨(0,0),⟨rfl,Nat.zero_le _,fun k e hk=>by omega⟩,le_of [] (by simp [leSl,leOb,injK,memK,parK,noTup,lk,rn0,rnA,plain,aI])⟩,fun x hx=>?_⟩
 obtain ⟨i,i'⟩:=x
 obtain ⟨ei,hi,hz⟩:=hx
 simp only at ei hi hz
 have en : n' = (l.length : Int):=en
 have tl:=ltF hF i l.length i' n' ei en
 have ep:=incF hF ei (by omega)
 cbv
 refine br (fun h=>?_) (fun h=>?_) <;> cbv
 ·have hil:=tl.1 h
  obtain ⟨e,he⟩ : ∃ e,l[i]? = some e:=⟨_,List.getElem?_eq_getElem hil⟩
  have hrow : rows[i]? = some (itT e):=by rw [hrows,List.getElem?_map,he]; rfl
  refine ⟨i,itT e,ei,hrow,rfl,?_⟩
  cbv
  refine ⟨_,hC _ _ _ (hp e),?_⟩
  generalize hpe : p e = c
  cbv
  refine br (fun g=>?_) (fun g=>?_) <;> cbv
  ·have : i' = r:=by rw [hr,ei]; exact (idxQ_at (fun k x hk hx=>hz k x hk hx) he (hpe.trans g)).symm
   rw [this]; exact ⟨rfl,trivial⟩
  ·obtain ⟨j,hj⟩ : ∃ j,F .ar .add .i64 i' 1 = j:=⟨_,rfl⟩
   rw [hj]
   refine ⟨(i + 1,j),⟨hj.symm.trans ep,hil,fun k x hk hx=>?_⟩,(show l.length - (i + 1) < l.length - i by omega),le_of [] (by simp [leSl,leOb,injK,memK,parK,noTup,lk,rn0,rnA,plain])⟩
   by_cases e1 : k < i
   ·exact hz k x e1 hx
   ·have : k = i:=by have:=(show k < i + 1 from hk); omega
    rw [this,he] at hx
    injection hx with hx
    rw [← hx]; exact hpe.trans g
 ·have hge : l.length ≤ i:=by have:=nfB tl h; omega
  have : (-1 : Int) = r:=by rw [hr]; exact (idxQ_none (fun k x hx=>hz k x (by have:=(List.getElem?_eq_some_iff.1 hx).1; omega) hx)).symm
  rw [← this]; exact ⟨rfl,trivial⟩
theorem containsFuncT_ok (g : Nat) (caps : List AV) (p : ElT→Bool) (hp : ∀ e,CSem Try.prog (.fn g) (.agg (itT e) :: caps) (.pure [aB (p e)])) (l : List ElT) (hl : l.length ≤ 100000000) (rows : List (List AV)) (hrows : rows = l.map itT) (r : Bool) (hr : r = l.any p) :
  CSem Try.prog (.fn 83) [.sl rows,.clo g caps] (.pure [aB r]):=by
 refine of_text gam_ok mixed { n:=9 } Try.func83 (by kernel_rfl) rfl rfl (by simp) (by decide) fun F C D hF hC hD=>?_
 have hi:=idxQ_any p l
 rw [← hr] at hi
 obtain ⟨j,hj⟩ : ∃ j,j = idxQ p l:=⟨_,rfl⟩
 rw [← hj] at hi
 have h1:=hC _ _ _ (indexFuncT_ok g caps p hp l hl rows hrows j hj)
 clear hj
 cbv
 refine ⟨_,h1,?_⟩
 cbv
 subst hF; simp [sy,← hi]
end Go.Proofs.Ytdnaadcbimbfmaa
namespace Go.Proofs.Ytdnaadcbimbfmaa
open Go Go.RowKit Am
def dtB (a b : Dt) : Bool:=decide (a = b)
def h1B (d : Dt) (e : Ev) : Bool:=decide (e.op.kind = 9) && dtB e.op.ref d
def h2B (d : Dt) (x : ElT) : Bool:=dtB x.1.op.ref d
def heldB (lv : List Ev) (dd : List ElT) (d : Dt) : Bool:=lv.any (h1B d) || dd.any (h2B d)
theorem dtEqB (a b : Dt) : CSem Try.prog (.eq 33) [.agg a.ac,.agg b.ac] (.pure [aB (dtB a b)]):=by
 obtain ⟨q,h1,h2⟩:=dtEq_ok a b
 have : q = dtB a b:=by rw [Bool.eq_iff_iff,h1,dtB,decide_eq_true_eq]
 rw [← this]; exact h2
theorem held1_ok (d : Dt) (e : Ev) (r : Bool) (hr : r = h1B d e) : CSem Try.prog (.fn 82) [.agg (itE e),.ept d.ac 0] (.pure [aB r]):=by
 refine of_text gam_ok mixed { n:=17 } Try.func82 (by kernel_rfl) rfl rfl (by simp) (by decide) fun F C D hF hC hD=>?_
 obtain ⟨q,hq⟩ : ∃ q,q = dtB e.op.ref d:=⟨_,rfl⟩
 have he:=hC _ _ _ (dtEqB e.op.ref d)
 rw [← hq] at he
 obtain ⟨k,hk⟩ : ∃ k,k = decide (e.op.kind = 9):=⟨_,rfl⟩
 have tk : F .cmp .eql e.op.kind 9 = k:=(eqF hF _ _).trans hk.symm
 have hr2 : r = (k && q):=by rw [hr,h1B,hk,hq]
 clear hr hk hq
 cases k with
 | true =>
  cbv
  refine bT (tk) ?_
  cbv
  repeat (first | (refine bT rfl ?_; cbv) | (refine bT tk ?_; cbv))
  refine ⟨_,he,?_⟩
  cbv
  repeat (first | (refine bT rfl ?_; cbv) | (refine bT tk ?_; cbv))
  subst hr2
  simp
 | false =>
  cbv
  repeat (first | (refine bF rfl ?_; cbv) | (refine bF tk ?_; cbv))
  subst hr2
  simp
theorem held2_ok (d : Dt) (x : ElT) (r : Bool) (hr : r = h2B d x) : CSem Try.prog (.fn 84) [.agg (itT x),.ept d.ac 0] (.pure [aB r]):=by
 obtain ⟨e,b⟩:=x
 refine of_text gam_ok mixed { n:=11 } Try.func84 (by kernel_rfl) rfl rfl (by simp) (by decide) fun F C D hF hC hD=>?_
 have he:=hC _ _ _ (dtEqB e.op.ref d)
 have hr : r = dtB e.op.ref d:=hr
 rw [← hr] at he
 clear hr
 cbv
 refine ⟨_,he,?_⟩
 cbv
 try simp
theorem itemsT2_ok (rows : List (List AV)) (y : AV) (hl : rows.length ≤ 1000000) (hr : ∀ r ∈ rows,r.length = 30) : CSem Try.prog (.fn 24) [.ept [y,.sl rows] 1] (.own 72 30 rows []):=by
 have h:=itemsT_ok rows hl hr
 refine ⟨h.1,fun w S xs hS hgd hreps=>h.2 w S xs hS hgd ?_⟩
 obtain ⟨z,rfl,hz⟩:=reps_one hreps
 obtain ⟨ad,rfl,h1,h2⟩:=Rep.ept_inv hz
 have f2 : CellsAt w S (ad.add 1) [.sl rows]:=⟨by rw [add_blk]; exact h1,fun i u hu=>by
  match i with
  | 0=>rw [add00]; exact h2 1 u hu
  | i + 1=>simp at hu⟩
 have g2:=Rep.ept (off:=0) f2
 rw [add00] at g2
 exact Reps.cons g2 (Reps.nil _ _)
theorem held_ok (lv : List Ev) (dd : List ElT) (hl : lv.length ≤ 1000000) (hd : dd.length ≤ 1000000) (d : Dt) (r : Bool) (hr : r = heldB lv dd d) : CSem Try.prog (.fn 59) [.ept [.sl (lv.map itE),.sl (dd.map itT)] 0,.agg d.ac] (.pure [aB r]):=by
 obtain ⟨rl,hrl⟩ : ∃ r,r = lv.map itE:=⟨_,rfl⟩
 obtain ⟨rd,hrd⟩ : ∃ r,r = dd.map itT:=⟨_,rfl⟩
 rw [← hrl,← hrd]
 obtain ⟨b1,hb1⟩ : ∃ b,b = lv.any (h1B d):=⟨_,rfl⟩
 obtain ⟨b2,hb2⟩ : ∃ b,b = dd.any (h2B d):=⟨_,rfl⟩
 have c1:=containsFuncE_ok 82 [.ept d.ac 0] (h1B d) (fun e=>held1_ok d e _ rfl) lv (by omega) rl hrl b1 hb1
 have c2:=containsFuncT_ok 84 [.ept d.ac 0] (h2B d) (fun e=>held2_ok d e _ rfl) dd (by omega) rd hrd b2 hb2
 have i1:=itemsE2_ok rl (.sl rd) (by rw [hrl,List.length_map]; exact hl) (by rw [hrl]; exact fun r hr=>by obtain ⟨a,_,rfl⟩:=List.mem_map.1 hr; rfl)
 have i2:=itemsT2_ok rd (.sl rl) (by rw [hrd,List.length_map]; exact hd) (by rw [hrd]; exact fun r hr=>by obtain ⟨a,_,rfl⟩:=List.mem_map.1 hr; rfl)
 have hr2 : r = (b1 || b2):=by rw [hr,heldB,hb1,hb2]
 clear hr hb1 hb2 hrl hrd
 refine of_text gam_ok mixed { n:=19 } Try.func59 (by kernel_rfl) rfl rfl (by simp) (by decide) fun F C D hF hC hD=>?_
 have c1:=hC _ _ _ c1
 have c2:=hC _ _ _ c2
 have i1:=hC _ _ _ i1
 have i2:=hC _ _ _ i2
 cases b1 with
 | true =>
  cbv
  refine ⟨_,i1,?_⟩
  cbv
  refine ⟨_,c1,?_⟩
  cbv
  repeat (first | (refine bT rfl ?_; cbv) | (refine cT rfl ?_; cbv))
  subst hr2
  try simp
 | false =>
  cbv
  refine ⟨_,i1,?_⟩
  cbv
  refine ⟨_,c1,?_⟩
  cbv
  repeat (first | (refine bF rfl ?_; cbv) | (refine cF rfl ?_; cbv))
  refine ⟨_,i2,?_⟩
  cbv
  repeat (first | (refine bF rfl ?_; cbv) | (refine cF rfl ?_; cbv))
  refine ⟨_,c2,?_⟩
  cbv
  repeat (first | (refine bF rfl ?_; cbv) | (refine cF rfl ?_; cbv))
  subst hr2
  try simp
end Go.Proofs.Ytdnaadcbimbfmaa
namespace Go.Proofs.Ytdnaadcbimbfmaa
open Go Go.RowKit Am
theorem delD_len1 {α : Type} {d : α→Dt} {l : List α} (hr : Rise d l) {a : α} (ha : a ∈ l) : (delD d l (d a)).length + 1 = l.length:=by
 obtain ⟨i,hi⟩:=List.getElem?_of_mem ha
 have:=(List.getElem?_eq_some_iff.1 hi).1
 rw [delD_at hr hi rfl,List.length_append,List.length_take,List.length_drop]
 omega
def remB (st : VV) (lv : List Ev) (dd : List ElT) (x : ElT) : Bool:=hasB st x.2 && !heldB lv dd x.1.dot
inductive Red (st : VV) (lv : List Ev) : List ElT→List ElT→Prop
 | refl (D : List ElT) : Red st lv D D
 | step {D D' : List ElT} {x : ElT} (hx : x ∈ D) (hr : remB st lv D x = true) (h : Red st lv (delD dT D (dT x)) D') : Red st lv D D'
theorem Red.trans {st : VV} {lv : List Ev} {a b c : List ElT} (h : Red st lv a b) (k : Red st lv b c) : Red st lv a c:=by
 induction h with
 | refl D=>exact k
 | step hx hr _ ih=>exact .step hx hr (ih k)
theorem Red.snoc {st : VV} {lv : List Ev} {D D' : List ElT} {x : ElT} (h : Red st lv D D') (hx : x ∈ D') (hr : remB st lv D' x = true) : Red st lv D (delD dT D' (dT x)):=h.trans (.step hx hr (.refl _))
theorem Red.sub {st : VV} {lv : List Ev} {D D' : List ElT} (h : Red st lv D D') : ∀ x ∈ D',x ∈ D:=by
 induction h with
 | refl D=>exact fun x hx=>hx
 | step hx hr _ ih=>exact fun y hy=>((delD_mem _ _ _ _).1 (ih y hy)).1
theorem Red.rise {st : VV} {lv : List Ev} {D D' : List ElT} (h : Red st lv D D') (hr : Rise dT D) : Rise dT D':=by
 induction h with
 | refl D=>exact hr
 | step hx _ _ ih=>exact ih (delD_rise hr _)
theorem Red.len {st : VV} {lv : List Ev} {D D' : List ElT} (h : Red st lv D D') : D'.length ≤ D.length:=by
 induction h with
 | refl D=>exact Nat.le_refl _
 | step hx _ _ ih=>exact Nat.le_trans ih (delD_len _ _ _)
theorem heldB_mono {lv : List Ev} {D2 D1 : List ElT} {d : Dt} (hs : ∀ y ∈ D2,y ∈ D1) (h : heldB lv D2 d = true) : heldB lv D1 d = true:=by
 unfold heldB at h ⊢
 rw [Bool.or_eq_true] at h ⊢
 rcases h with h | h
 ·exact .inl h
 ·obtain ⟨y,hy,hd⟩:=List.any_eq_true.1 h
  exact .inr (List.any_eq_true.2 ⟨y,hs y hy,hd⟩)
theorem remB_mono {st : VV} {lv : List Ev} {D2 D1 : List ElT} {x : ElT} (hs : ∀ y ∈ D2,y ∈ D1) (h : remB st lv D1 x = true) : remB st lv D2 x = true:=by
 unfold remB at h ⊢
 rw [Bool.and_eq_true] at h ⊢
 refine ⟨h.1,?_⟩
 cases hh : heldB lv D2 x.1.dot with
 | false=>rfl
 | true=>have:=heldB_mono hs hh; rw [this] at h; simp at h
theorem Red.fin_sub {st : VV} {lv : List Ev} {D D1 : List ElT} (h : Red st lv D D1) : Rise dT D→∀ {D2 : List ElT},(∀ x ∈ D2,x ∈ D)→(∀ x ∈ D2,remB st lv D2 x = false)→∀ x ∈ D2,x ∈ D1:=by
 induction h with
 | refl D=>exact fun _ D2 hs _=>hs
 | step hx hr h ih =>
  rename_i D D1 x
  intro hD D2 hs hf
  refine ih (delD_rise hD _) (fun y hy=>(delD_mem _ _ _ _).2 ⟨hs y hy,fun hd=>?_⟩) hf
  obtain ⟨i,hi⟩:=List.getElem?_of_mem (hs y hy)
  obtain ⟨j,hj⟩:=List.getElem?_of_mem hx
  have:=rise_inj hD hi hj hd
  subst this
  rw [hi] at hj; injection hj with hj; subst hj
  have:=remB_mono hs hr
  rw [hf y hy] at this; cases this
structure Fin' (st : VV) (lv : List Ev) (D D' : List ElT) : Prop where
 red : Red st lv D D'
 fin : ∀ x ∈ D',remB st lv D' x = false
theorem Fin'.uniq {st : VV} {lv : List Ev} {D D1 D2 : List ElT} (hr : Rise dT D) (h1 : Fin' st lv D D1) (h2 : Fin' st lv D D2) : D1 = D2 :=
 rise_ext (h1.red.rise hr) (h2.red.rise hr) fun x=>⟨fun hx=>h2.red.fin_sub hr h1.red.sub h1.fin x hx,fun hx=>h1.red.fin_sub hr h2.red.sub h2.fin x hx⟩
theorem Red.mono {st st' : VV} {lv : List Ev} {D D' : List ElT} (hm : ∀ d,hasB st d = true→hasB st' d = true) (h : Red st lv D D') : Red st' lv D D':=by
 induction h with
 | refl D=>exact .refl D
 | step hx hr _ ih =>
  refine .step hx ?_ ih
  unfold remB at hr ⊢
  rw [Bool.and_eq_true] at hr ⊢
  exact ⟨hm _ hr.1,hr.2⟩
theorem Fin'.stay {st : VV} {lv : List Ev} {D D' : List ElT} (h : Fin' st lv D D') (hf : ∀ x ∈ D,remB st lv D x = false) : D' = D:=by
 cases h.red with
 | refl=>rfl
 | step hx hr _=>rw [hf _ hx] at hr; cases hr
theorem Fin'.two {st st' : VV} {lv : List Ev} {D D1 D2 : List ElT} (hm : ∀ d,hasB st d = true→hasB st' d = true) (h1 : Fin' st lv D D1) (h2 : Fin' st' lv D1 D2) : Fin' st' lv D D2:=⟨(h1.red.mono hm).trans h2.red,h2.fin⟩
theorem hasB_zero (d : Dt) : hasB (fun _=>0) d = false:=by
 unfold hasB dotB
 have h0 : vget (fun _=>0) d.R = 0:=by unfold vget; split <;> rfl
 rw [h0]
 by_cases h : 1 ≤ d.N
 ·rw [decide_eq_false (show ¬ d.N ≤ 0 by omega)]; simp
 ·rw [decide_eq_false h]; simp
theorem hasB_mono {a b : VV} (h : ∀ i,a i ≤ b i) (d : Dt) (hd : hasB a d = true) : hasB b d = true:=by
 unfold hasB at hd ⊢
 rw [Bool.and_eq_true] at hd ⊢
 refine ⟨hd.1,?_⟩
 have:=of_decide_eq_true hd.2
 refine decide_eq_true (Int.le_trans this ?_)
 unfold vget
 split
 ·exact h _
 ·exact Int.le_refl _
structure Col (st : VV) (σ τ : Sp) : Prop where
 ks : τ.ks = σ.ks
 vv : τ.vv = σ.vv
 tm : τ.tm = σ.tm
 len : τ.es.length = σ.es.length
 es : ∀ (i : Nat) (a b : Ent),σ.es[i]? = some a→τ.es[i]? = some b→b.lv = a.lv∧Fin' st a.lv a.dd b.dd
def nDead (σ : Sp) : Nat:=(σ.es.map fun en=>en.dd.length).sum
theorem Col.get {st : VV} {σ τ : Sp} (h : Col st σ τ) {i : Nat} {b : Ent} (hb : τ.es[i]? = some b) : ∃ a,σ.es[i]? = some a∧b.lv = a.lv∧Fin' st a.lv a.dd b.dd:=by
 have:=(List.getElem?_eq_some_iff.1 hb).1
 have ha:=List.getElem?_eq_getElem (l:=σ.es) (i:=i) (by rw [← h.len]; exact this)
 exact ⟨_,ha,h.es i _ b ha hb⟩
theorem Ent.ext' {a b : Ent} (h1 : a.lv = b.lv) (h2 : a.dd = b.dd) : a = b:=by cases a; cases b; simp only at h1 h2; rw [h1,h2]
theorem Col.ext {st : VV} {σ τ τ' : Sp} (hok : ∀ en ∈ σ.es,Rise dT en.dd) (h : Col st σ τ) (h' : Col st σ τ') : τ' = τ:=by
 have he : τ'.es = τ.es:=by
  apply List.ext_getElem?
  intro i
  by_cases hi : i < σ.es.length
  ·have a:=List.getElem?_eq_getElem (l:=τ.es) (i:=i) (by rw [h.len]; exact hi)
   have a':=List.getElem?_eq_getElem (l:=τ'.es) (i:=i) (by rw [h'.len]; exact hi)
   have s:=List.getElem?_eq_getElem hi
   obtain ⟨e1,f1⟩:=h.es i _ _ s a
   obtain ⟨e2,f2⟩:=h'.es i _ _ s a'
   rw [a,a',Ent.ext' (e2.trans e1.symm) (f2.uniq (hok _ (List.getElem_mem hi)) f1)]
  ·rw [List.getElem?_eq_none (by rw [h'.len]; omega),List.getElem?_eq_none (by rw [h.len]; omega)]
 cases τ; cases τ'
 simp only [Sp.mk.injEq]
 exact ⟨h'.ks.trans h.ks.symm,he,h'.vv.trans h.vv.symm,h'.tm.trans h.tm.symm⟩
theorem Col.stay {st : VV} {σ τ : Sp} (h : Col st σ τ) (hf : ∀ en ∈ σ.es,∀ x ∈ en.dd,remB st en.lv en.dd x = false) : τ = σ:=by
 have he : τ.es = σ.es:=by
  apply List.ext_getElem?
  intro i
  by_cases hi : i < σ.es.length
  ·have a:=List.getElem?_eq_getElem (l:=τ.es) (i:=i) (by rw [h.len]; exact hi)
   have s:=List.getElem?_eq_getElem hi
   obtain ⟨e1,f1⟩:=h.es i _ _ s a
   rw [a,s,Ent.ext' e1 (f1.stay (hf _ (List.getElem_mem hi)))]
  ·rw [List.getElem?_eq_none (by rw [h.len]; omega),List.getElem?_eq_none (by omega)]
 cases τ; cases σ
 simp only [Sp.mk.injEq]
 exact ⟨h.ks,he,h.vv,h.tm⟩
theorem Col.two {st st' : VV} {σ τ υ : Sp} (hm : ∀ d,hasB st d = true→hasB st' d = true) (h : Col st σ τ) (h' : Col st' τ υ) : Col st' σ υ:=by
 refine ⟨h'.ks.trans h.ks,h'.vv.trans h.vv,h'.tm.trans h.tm,h'.len.trans h.len,fun i a c ha hc=>?_⟩
 obtain ⟨b,hb,e1,f1⟩:=h'.get hc
 obtain ⟨e2,f2⟩:=h.es i a b ha hb
 rw [e2] at f1
 exact ⟨e1.trans e2,f2.two hm f1⟩
theorem Col.again {st : VV} {σ τ υ : Sp} (h : Col st σ τ) (h' : Col st τ υ) : υ = τ:=by
 refine h'.stay fun b hb x hx=>?_
 obtain ⟨i,hi⟩:=List.getElem?_of_mem hb
 obtain ⟨a,_,e1,f1⟩:=h.get hi
 rw [e1]
 exact f1.fin x hx
theorem Col.zero {σ τ : Sp} (h : Col (fun _=>0) σ τ) : τ = σ:=h.stay fun en _ x _=>by unfold remB; rw [hasB_zero]; rfl
theorem Col.spg {st : VV} {σ τ : Sp} {got : List Ev} (h : Col st σ τ) (hg : SpG σ got) : SpG τ got:=by
 refine ⟨by rw [h.vv]; exact hg.vr,by rw [h.len,h.ks]; exact hg.len,by rw [h.ks]; exact hg.nd,fun b hb=>?_,fun i k b x hk hb hx=>?_,fun i k b x hk hb hx=>?_,by rw [h.vv]; exact hg.gv,hg.gu,hg.go⟩
 ·obtain ⟨i,hi⟩:=List.getElem?_of_mem hb
  obtain ⟨a,ha,e1,f1⟩:=h.get hi
  have hok:=hg.ok a (List.mem_of_getElem? ha)
  exact ⟨by rw [e1]; exact hok.lr,f1.red.rise hok.dr,fun x hx y hy=>hok.ap x (by rw [← e1]; exact hx) y (f1.red.sub y hy)⟩
 ·obtain ⟨a,ha,e1,f1⟩:=h.get hb
  exact hg.lg i k a x (by rw [← h.ks]; exact hk) ha (by rw [← e1]; exact hx)
 ·obtain ⟨a,ha,e1,f1⟩:=h.get hb
  exact hg.dg i k a x (by rw [← h.ks]; exact hk) ha (f1.red.sub x hx)
end Go.Proofs.Ytdnaadcbimbfmaa
namespace Go.Proofs.Ytdnaadcbimbfmaa
open Go Go.RowKit Am
structure ROI (n : Nat) (a0 : Act) (shape : ShG) (need : Nat→List Nat) (val : Nat→Value) (m : Nat) (T : Bool→World→Prop) (L : Array Bool) (a : Act) (w' : World) : Prop where
 st : T (L.getD m false) w'
 size : a.tmps.size = n
 defers : a.defers = a0.defers
 vals : ∀ (i d : Nat) (op : Op) (g : Option (Nat × Bool)),L.getD i false = true→shape[i]? = some (some d,op,g)→a.eval (.tmp d) = val i
 keep : ∀ (t : Nat),(∀ (j : Nat) (op : Op),shape.dsts[j]? ≠ some (some t,op))→a.eval (.tmp t) = a0.eval (.tmp t)
 cl : ∀ (i j : Nat),j ∈ need i→L.getD i false = true→L.getD j false = true
set_option maxHeartbeats 1000000 in
theorem region_one {P : Program} {id : Nat} {ops : List Oper} {Q : Exit→Act→World→Prop} {a0 : Act} {w : World} (hm : P.follows .mixedOrders = true) (n : Nat) (hz : a0.tmps.size = n)
  (shape : ShG) (hops : ops.map (fun o=>(o.dst,o.op,o.guard)) = shape) (need : Nat→List Nat) (hdep : depsG need ops = true) (hdst : dstsC n shape.dsts = true) (hsome : (shape.all fun q=>q.1.isSome) = true) (val : Nat→Value) (m : Nat) (hm18 : m < shape.length) (T : Bool→World→Prop) (h0 : T false { w with drawn:=w.drawn + 1 })
  (hskip : ∀ (i : Nat) (d : Option Nat) (op : Op) (j : Nat) (b : Bool),shape[i]? = some (d,op,some (j,b))→j < shape.length∧(val j ≠ .bool b→val i = undef))
  (hstep : ∀ (i d : Nat) (op : Op) (g : Option (Nat × Bool)),shape[i]? = some (some d,op,g)→(∀ j b,g = some (j,b)→val j = .bool b)→∀ (a : Act) (w' : World) (bb : Bool),a.tmps.size = n→T bb w'→(i ∈ ancF need 12 m→bb = false)→(∀ j ∈ need i,∀ (dj : Nat) (op' : Op) (g' : Option (Nat × Bool)),shape[j]? = some (some dj,op',g')→a.eval (.tmp dj) = val j)→(∀ (t : Nat),(∀ (j : Nat) (op : Op),shape.dsts[j]? ≠ some (some t,op))→a.eval (.tmp t) = a0.eval (.tmp t))→∀ (o : Oper),o.op = op→o.dst = some d→(i = m→bb = false)→o.wp P a w' (fun a' w2=>a' = a.put (some d) (val i)∧T (if i = m then true else bb) w2) Q)
  (hmw : val m ≠ undef)
  (hQ : ∀ (a' : Act) (w' : World),a'.tmps.size = n→a'.defers = a0.defers→T true w'→(∀ (i d : Nat) (op : Op) (g : Option (Nat × Bool)),shape[i]? = some (some d,op,g)→a'.eval (.tmp d) = val i)→(∀ (t : Nat),(∀ (j : Nat) (op : Op),shape.dsts[j]? ≠ some (some t,op))→a'.eval (.tmp t) = a0.eval (.tmp t))→Q .normal a' w') : (Code.region id ops.toArray true).wp P Q a0 w:=by
 have hlen : shape.length = ops.length:=by rw [← hops,List.length_map]
 have hdep' : ∀ (i : Nat) (o : Oper),ops[i]? = some o→(∀ e ∈ o.after,Region.binds .any e = true→e.on < i)∧(∀ j ∈ need i,∃ e ∈ o.after,e.on = j∧Region.binds .any e = true)∧(∀ j b,o.guard = some (j,b)→j ∈ need i):=fun i o ho=>by
  have hil:=(List.getElem?_eq_some_iff.1 ho).1
  have h1:=List.all_eq_true.1 hdep i (List.mem_range.2 hil)
  rw [ho] at h1
  simp only [Bool.and_eq_true,Array.all_eq_true',List.all_eq_true,Array.any_eq_true'] at h1
  obtain ⟨⟨h1,h2⟩,h3⟩:=h1
  refine ⟨fun e he hb=>?_,fun j hj=>?_,fun j b hg=>?_⟩
  ·have:=h1 e he
   rw [hb] at this
   simpa using this
  ·obtain ⟨e,he,h⟩:=h2 j hj
   exact ⟨e,he,by simpa using h.1,h.2⟩
  ·rw [hg] at h3
   simp at h3
   exact h3
 refine region_invG hm (fun i o ho e he hb=>?_) (fun L a w'=>ROI n a0 shape need val m T L a w') ?_ ?_ ?_
 ·have ho : ops[i]? = some o:=by simpa using ho
  exact (hdep' i o ho).1 e he hb
 ·have hr : ∀ j,(Array.replicate ops.toArray.size false).getD j false = false:=fun j=>by
   rw [Array.getD_eq_getD_getElem?,Array.getElem?_replicate]
   split <;> rfl
  refine ⟨by rw [hr]; exact h0,hz,rfl,fun i d op g hL=>?_,fun t ht=>rfl,fun i j _ hL=>?_⟩
  ·rw [hr] at hL; cases hL
  ·rw [hr] at hL; cases hL
 ·intro L a w' i o hs hI ho hun hd
  have ho : ops[i]? = some o:=by simpa using ho
  obtain ⟨h1,h2,h3⟩:=hdep' i o ho
  have hil:=(List.getElem?_eq_some_iff.1 ho).1
  have hsh : shape[i]? = some (o.dst,o.op,o.guard):=by rw [← hops,List.getElem?_map,ho]; rfl
  have hds : (o.dst).isSome = true:=List.all_eq_true.1 hsome _ (List.mem_of_getElem? hsh)
  obtain ⟨d,hdd⟩:=Option.isSome_iff_exists.1 hds
  rw [hdd] at hsh
  have hdsh : shape.dsts[i]? = some (some d,o.op):=by unfold ShG.dsts; rw [List.getElem?_map,hsh]; rfl
  have hdn:=(dstsC_ok hdst hdsh).1
  have hiL : i < L.size:=by rw [hs]; simpa using hil
  have hnv : ∀ j ∈ need i,∀ (dj : Nat) (op' : Op) (g' : Option (Nat × Bool)),shape[j]? = some (some dj,op',g')→a.eval (.tmp dj) = val j:=fun j hj dj op' g' hsj=>by
   obtain ⟨e,he,q1,q2⟩:=h2 j hj
   subst q1
   exact hI.vals _ dj op' g' (hd e he q2) hsj
  have hun' : L.getD i false = false:=getD_un hun
  have hcl' : ∀ (i' j : Nat),j ∈ need i'→(L.setIfInBounds i true).getD i' false = true→(L.setIfInBounds i true).getD j false = true:=fun i' j hj hL=>by
   rw [getD_setT L i _ hiL] at hL ⊢
   by_cases hij : i = j
   ·rw [if_pos hij]
   ·rw [if_neg hij]
    by_cases hii : i = i'
    ·subst hii
     obtain ⟨e,he,q1,q2⟩:=h2 j hj
     subst q1
     exact hd e he q2
    ·rw [if_neg hii] at hL
     exact hI.cl i' j hj hL
  have hnext : ∀ (w2 : World),T (if i = m then true else L.getD m false) w2→ROI n a0 shape need val m T (L.setIfInBounds i true) (a.put (some d) (val i)) w2:=fun w2 hb=>by
   refine ⟨by rw [getD_setT L i m hiL]; exact hb,by rw [← hI.size]; exact Array.size_setIfInBounds ..,hI.defers,fun j dj op' g' hL hsj=>?_,fun t ht=>?_,hcl'⟩
   ·rw [getD_setT L i j hiL] at hL
    by_cases hij : i = j
    ·subst hij
     rw [hsh] at hsj
     injection hsj with hsj
     have : d = dj:=by injection (Prod.mk.inj hsj).1
     subst this
     rw [evT]
     exact put_eq (by rw [hI.size]; exact hdn)
    ·rw [if_neg hij] at hL
     have hdj : shape.dsts[j]? = some (some dj,op'):=by unfold ShG.dsts; rw [List.getElem?_map,hsj]; rfl
     have hne : d ≠ dj:=fun e=>(dstsC_ok hdst hdsh).2 j dj op' hdj hij (by rw [e])
     rw [evT,put_ne (by rw [hI.size]; exact hdn) (fun e=>hne e.symm)]
     exact hI.vals j dj op' g' hL hsj
   ·have hne : t ≠ d:=fun e=>ht i o.op (by rw [hdsh,e])
    rw [evT,put_ne (by rw [hI.size]; exact hdn) hne]
    exact hI.keep t ht
  have hanc : i ∈ ancF need 12 m→L.getD m false = false:=fun him=>by
   cases hLm : L.getD m false with
   | false=>rfl
   | true =>
    have:=anc_cl hI.cl 12 m i him hLm
    rw [hun'] at this; cases this
  have him0 : i = m→L.getD m false = false:=fun e=>by rw [← e]; exact hun'
  have hwant : ∀ j b,o.guard = some (j,b)→(val j ≠ .bool b→val i = undef)∧(val j = .bool b→Region.wanted o (yielded ops.toArray a.tmps) = true)∧(val j ≠ .bool b→Region.wanted o (yielded ops.toArray a.tmps) = false):=fun j b hg=>by
   obtain ⟨q1,q3⟩:=hskip i _ _ j b (by rw [hsh,hg])
   have hsj:=List.getElem?_eq_getElem q1
   have hdsj : (shape[j]).1.isSome = true:=List.all_eq_true.1 hsome _ (List.getElem_mem q1)
   obtain ⟨dj,hdj0⟩:=Option.isSome_iff_exists.1 hdsj
   obtain ⟨op',g',hsj⟩ : ∃ op' g',shape[j]? = some (some dj,op',g'):=⟨(shape[j]).2.1,(shape[j]).2.2,by rw [hsj,← hdj0]⟩
   have hv:=hnv j (h3 j b hg) dj op' g' hsj
   have hoj : ∃ oj,ops[j]? = some oj∧oj.dst = some dj:=by
    have:=hsj
    rw [← hops,List.getElem?_map] at this
    obtain ⟨oj,e1,e2⟩:=Option.map_eq_some_iff.1 this
    exact ⟨oj,e1,(Prod.mk.inj e2).1⟩
   obtain ⟨oj,e1,e2⟩:=hoj
   have hdj : shape.dsts[j]? = some (some dj,op'):=by unfold ShG.dsts; rw [List.getElem?_map,hsj]; rfl
   have hdjn:=(dstsC_ok hdst hdj).1
   have h9 : a.tmps[dj]? = some (val j):=by
    rw [evT,Array.getD_eq_getD_getElem?] at hv
    have hlt : dj < a.tmps.size:=by rw [hI.size]; exact hdjn
    rw [Array.getElem?_eq_getElem hlt] at hv ⊢
    rw [← hv]; rfl
   have hy : yielded ops.toArray a.tmps j = (match val j with | .bool b=>some b | _=>none):=by
    unfold yielded
    have : (ops.toArray)[j]? = some oj:=by simpa using e1
    rw [this]
    show (match (oj.dst).bind (a.tmps[·]?) with | some (.bool b)=>some b | _=>none) = _
    rw [e2]
    show (match a.tmps[dj]? with | some (.bool b)=>some b | _=>none) = _
    rw [h9]
    cases val j <;> rfl
   have hwd : Region.wanted o (yielded ops.toArray a.tmps) = (yielded ops.toArray a.tmps j == some b):=by
    unfold Region.wanted
    rw [hg]
   refine ⟨q3,fun h=>?_,fun h=>?_⟩
   ·rw [hwd,hy,h]
    cases b <;> rfl
   ·rw [hwd,hy]
    cases hvj : val j with
    | bool c =>
     have : c ≠ b:=fun e=>h (by rw [hvj,e])
     cases c <;> cases b <;> first | rfl | exact absurd rfl this
    | _=>rfl
  have hput2 : val i = undef→ROI n a0 shape need val m T (L.setIfInBounds i true) (a.put o.dst undef) w':=fun hu=>by
   have hne : i ≠ m:=fun e=>hmw (by rw [← e]; exact hu)
   have:=hnext w' (by rw [if_neg hne]; exact hI.st)
   rw [hu] at this
   rw [hdd]
   exact this
  cases hg : o.guard with
  | none =>
   refine .inl ⟨by unfold Region.wanted; rw [hg],?_⟩
   refine Oper.wp_mono (fun a' w2 hh=>?_) (hstep i d o.op o.guard hsh (fun j b h=>by rw [hg] at h; cases h) a w' _ hI.size hI.st hanc hnv hI.keep o rfl hdd him0)
   obtain ⟨rfl,hb⟩:=hh
   exact hnext w2 hb
  | some jb =>
   obtain ⟨j,b⟩:=jb
   obtain ⟨q1,q2,q3⟩:=hwant j b hg
   by_cases hcb : val j = .bool b
   ·refine .inl ⟨q2 hcb,?_⟩
    refine Oper.wp_mono (fun a' w2 hh=>?_) (hstep i d o.op o.guard hsh (fun j' b' h=>by rw [hg] at h; injection h with h; injection h with e1 e2; subst e1; subst e2; exact hcb) a w' _ hI.size hI.st hanc hnv hI.keep o rfl hdd him0)
    obtain ⟨rfl,hb⟩:=hh
    exact hnext w2 hb
   ·exact .inr ⟨q3 hcb,hput2 (q1 hcb)⟩
 ·intro L a w' hs hall hI
  have hst:=hI.st
  rw [hall m (by simp; omega)] at hst
  refine hQ a w' hI.size hI.defers hst (fun i d op g hsh=>hI.vals i d op g (hall i ?_) hsh) hI.keep
  have:=(List.getElem?_eq_some_iff.1 hsh).1
  simp
  omega
end Go.Proofs.Ytdnaadcbimbfmaa
namespace Go.Proofs.Ytdnaadcbimbfmaa
open Go Go.RowKit Am
theorem pure_to {P : Program} {o : Oper} {a : Act} {w0 w : World} {v : Value} {d : Nat} {Q : Exit→Act→World→Prop} (hb : Below w0.heap.size w0 w) (h : o.wp P a w (fun a' w2=>a' = a.put (some d) v∧Below w.heap.size w w2) Q) : o.wp P a w (fun a' w2=>a' = a.put (some d) v∧Below w0.heap.size w0 w2) Q :=
 Oper.wp_mono (fun a' w2 hh=>⟨hh.1,hb.trans (hh.2.mono hb.size)⟩) h
theorem pure_one {P : Program} {o : Oper} {a : Act} {w : World} {v : Value} {d : Nat} {Q : Exit→Act→World→Prop} (hd : o.dst = some d) (h : (execOp a.eval o).run P w = .ok (.value v) w) : o.wp P a w (fun a' w2=>a' = a.put (some d) v∧w2 = w) Q:=exec_val h (by rw [hd]; exact ⟨rfl,rfl⟩)
theorem call_one {P : Program} {o : Oper} {a : Act} {w : World} {v : Value} {d f : Nat} {args : Array Operand} {tys : Array TypeId} {J : World→Prop} {Q : Exit→Act→World→Prop} (xs : List Value) (hd : o.dst = some d) (ho : o.op = .call { callee:=.value (.func f),args:=args,argTypes:=tys }) (hf : ∀ cs w,(callFunc f cs).run P w = .ok (.enter f cs) w) (hx : args.map a.eval = xs.toArray) (hc : Calls P f xs.toArray w fun e w'=>e = .returned v∧J w') : o.wp P a w (fun a' w2=>a' = a.put (some d) v∧J w2) Q:=by
 refine wp_enter (run_call (caps:=[]) ho rfl hf) ?_
 rw [show (args.toList.map a.eval ++ [] : List Value) = xs by rw [List.append_nil,← Array.toList_map,hx]]
 refine hc.mono ?_
 rintro e w' ⟨rfl,hb⟩
 exact ⟨v,rfl,by rw [hd],hb⟩
theorem csemW {f : Nat} {args : List AV} {xs : List Value} {v : Value} (hc : CSem Try.prog (.fn f) args (.pure [.v v])) (w : World) (hx : Reps w (fun _=>False) args xs) : Calls Try.prog f xs.toArray w fun e w'=>e = .returned v∧Below w.heap.size w w' :=
 (hc.2 w _ _ (fun g h=>h.elim) (gd_all _ _) hx).mono fun e w' hh=>by
  obtain ⟨y,S',rfl,hg,ys,rfl,hys⟩:=hh
  rw [reps_v1 hys]
  exact ⟨rfl,hg.below⟩
theorem rep_dt {w : World} {S : Nat→Prop} (d : Dt) : Rep w S (.agg d.ac) (.agg d.vs):=.agg (xs:=d.vs.toList) (repl_map_v d.vs.toList (List.all_eq_true.1 (show (d.vs.toList).all (fun v=>v.oneCell') = true from rfl)))
def colT (J : World→Prop) (w : World) : Bool→World→Prop
 | true,w'=>J w'
 | false,w'=>Below w.heap.size w w'
theorem itT_c0 {w : World} {a8 : Addr} {x : ElT} (h : ∀ j v,(itvT x)[j]? = some v→w.cell? (a8.add j) = some v) : ∀ j v,(x.1.dot.vs).toList[j]? = some v→w.cell? ((a8.add 0).add j) = some v:=fun j v hj=>by
 obtain ⟨e,b⟩:=x
 rw [add00]
 match j with
 | 0=>exact h 0 v hj
 | 1=>exact h 1 v hj
 | j + 2=>simp [Dt.vs] at hj
theorem itT_c28 {w : World} {a8 : Addr} {x : ElT} (h : ∀ j v,(itvT x)[j]? = some v→w.cell? (a8.add j) = some v) : ∀ j v,(x.2.vs).toList[j]? = some v→w.cell? (((a8.add 2).add 26).add j) = some v:=fun j v hj=>by
 obtain ⟨e,b⟩:=x
 rw [Addr.add_add,Addr.add_add]
 match j with
 | 0=>exact h 28 v hj
 | 1=>exact h 29 v hj
 | j + 2=>simp [Dt.vs] at hj
def colSh : ShG:=[(some 19,.load 29 (.tmp 3),none),(some 20,.fieldAddr 72 (.tmp 8) 1,none),(some 21,.fieldAddr 68 (.tmp 20) 1,none),(some 22,.load 33 (.tmp 21),none),(some 23,.call { callee:=.value (.func 51),args:=#[.tmp 19,.tmp 22],argTypes:=#[29,33] },none),(some 24,.move (.tmp 23),none),(some 25,.move (.tmp 0),some (5,true)),(some 26,.fieldAddr 72 (.tmp 8) 0,some (5,true)),(some 27,.load 33 (.tmp 26),some (5,true)),(some 28,.call { callee:=.value (.func 59),args:=#[.tmp 25,.tmp 27],argTypes:=#[74,33] },some (5,true)),(some 29,.unOp .not 4 (.tmp 28),some (5,true)),(some 30,.pick (.tmp 24) (.tmp 29) (.const (.bool false)),none),(some 31,.move (.tmp 30),none),(some 32,.move (.tmp 0),some (12,true)),(some 33,.nilCheck (.tmp 32),some (12,true)),(some 34,.fieldAddr 81 (.tmp 33) 1,some (12,true)),(some 35,.fieldAddr 72 (.tmp 8) 0,some (12,true)),(some 36,.load 33 (.tmp 35),some (12,true)),(some 37,.call { callee:=.value (.func 60),args:=#[.tmp 34,.tmp 36],argTypes:=#[79,33] },some (12,true)),(some 38,.pick (.tmp 31) (.tmp 37) (.const (.bool false)),none)]
def colNeed : Nat→List Nat
 | 2=>[1] | 3=>[2] | 4=>[0,3] | 5=>[4] | 6=>[5] | 7=>[5] | 8=>[7,5] | 9=>[6,8,5] | 10=>[9,5] | 11=>[5,10] | 12=>[11] | 13=>[12] | 14=>[13,12] | 15=>[14,12] | 16=>[12] | 17=>[16,12] | 18=>[15,17,12] | 19=>[12,18] | _=>[]
def colNVal (A : Nat) (a3 a8 : Addr) (st : VV) (x : ElT) (q : Nat) : Value :=
 match q with
 | 0=>.agg (vvs st) | 1=>.pointer (some (a8.add 2)) | 2=>.pointer (some ((a8.add 2).add 26)) | 3=>.agg x.2.vs | 4=>.bool false | 5=>.bool false | 11=>.bool false | 12=>.bool false | 19=>.bool false | _=>undef
set_option maxHeartbeats 4000000 in
set_option maxRecDepth 100000 in
theorem colN_region {id : Nat} {ops : List Oper} {Q : Exit→Act→World→Prop} {a0 : Act} {w : World} (A : Nat) (a3 a8 : Addr) (st : VV) (x : ElT)  (hops : ops.map (fun o=>(o.dst,o.op,o.guard)) = colSh) (hdep : depsG colNeed ops = true) (hz : a0.tmps.size = 46)
  (h0 : a0.eval (.tmp 0) = .pointer (some ⟨A,0,none⟩)) (h3 : a0.eval (.tmp 3) = .pointer (some a3)) (h8 : a0.eval (.tmp 8) = .pointer (some a8))
  (c3 : ∀ w',Below w.heap.size w w'→∀ j v,(vvs st).toList[j]? = some v→w'.cell? (a3.add j) = some v) (c8 : ∀ w',Below w.heap.size w w'→∀ j v,(itvT x)[j]? = some v→w'.cell? (a8.add j) = some v) (hh : hasB st x.2 = false)
  (hQ : ∀ a' w',a'.tmps.size = 46→a'.defers = a0.defers→Below w.heap.size w w'→a'.eval (.tmp 38) = .bool false→(∀ t,(∀ (j : Nat) (op : Op),colSh.dsts[j]? ≠ some (some t,op))→a'.eval (.tmp t) = a0.eval (.tmp t))→Q .normal a' w') : (Code.region id ops.toArray true).wp Try.prog Q a0 w:=by
 refine region_pure mixed 46 hz colSh hops colNeed hdep (by decide) (by decide) (colNVal A a3 a8 st x) (fun i d op j b hsh=>?_) ?_ (fun a' w' hs hd hb hv hoth=>hQ a' w' hs hd hb (hv 19 38 _ _ rfl) hoth)
 ·have hi : i < 20:=(List.getElem?_eq_some_iff.1 hsh).1
  obtain rfl | rfl | rfl | rfl | rfl | rfl | rfl | rfl | rfl | rfl | rfl | rfl | rfl | rfl | rfl | rfl | rfl | rfl | rfl | rfl : i = 0 ∨ i = 1 ∨ i = 2 ∨ i = 3 ∨ i = 4 ∨ i = 5 ∨ i = 6 ∨ i = 7 ∨ i = 8 ∨ i = 9 ∨ i = 10 ∨ i = 11 ∨ i = 12 ∨ i = 13 ∨ i = 14 ∨ i = 15 ∨ i = 16 ∨ i = 17 ∨ i = 18 ∨ i = 19:=by omega
  all_goals first | (exfalso; injection hsh with hsh; have:=(Prod.mk.inj (Prod.mk.inj hsh).2).2; cases this; done) | (injection hsh with hsh; have hg:=(Prod.mk.inj (Prod.mk.inj hsh).2).2; injection hg with hg; obtain ⟨rfl,rfl⟩:=Prod.mk.inj hg; exact ⟨by decide,fun h=>by first | rfl | exact absurd rfl h⟩)
 ·intro i d op g hsh hg a w' hsz hb hn hk o ho hd
  have hi : i < 20:=(List.getElem?_eq_some_iff.1 hsh).1
  have e0:=(hk 0 (notD (by rfl))).trans h0
  have e3:=(hk 3 (notD (by rfl))).trans h3
  have e8:=(hk 8 (notD (by rfl))).trans h8
  obtain rfl | rfl | rfl | rfl | rfl | rfl | rfl | rfl | rfl | rfl | rfl | rfl | rfl | rfl | rfl | rfl | rfl | rfl | rfl | rfl : i = 0 ∨ i = 1 ∨ i = 2 ∨ i = 3 ∨ i = 4 ∨ i = 5 ∨ i = 6 ∨ i = 7 ∨ i = 8 ∨ i = 9 ∨ i = 10 ∨ i = 11 ∨ i = 12 ∨ i = 13 ∨ i = 14 ∨ i = 15 ∨ i = 16 ∨ i = 17 ∨ i = 18 ∨ i = 19:=by omega
  all_goals (injection hsh with hsh; obtain ⟨hd1,hsh2⟩:=Prod.mk.inj hsh; injection hd1 with hd1; subst hd1; obtain ⟨rfl,rfl⟩:=Prod.mk.inj hsh2)
  ·exact pure_val hd (q_loadA (cs:=(vvs st).toList) (ti:=ti29) rfl rfl rfl ho e3 (c3 w' hb))
  ·exact pure_val hd (q_fld (ti:=ti72) (off:=2) (sz:=28) rfl rfl ho e8)
  ·exact pure_val hd (q_fld (ti:=ti68) (off:=26) (sz:=2) rfl rfl ho (hn 1 (by decide) 20 _ _ rfl))
  ·exact pure_val hd (q_loadA (cs:=(x.2.vs).toList) (ti:=ti33) rfl rfl rfl ho (hn 2 (by decide) 21 _ _ rfl) (itT_c28 (c8 w' hb)))
  ·exact pure_call [.agg (vvs st),.agg x.2.vs] hd ho (enterT Try.func51 (by kernel_rfl) rfl) (by simp [hn 0 (by decide) 19 _ _ rfl,hn 3 (by decide) 22 _ _ rfl]; exact ⟨rfl,rfl⟩) (csemW (has_ok st x.2 false hh.symm) w' (Reps.cons (rep_vvs st) (Reps.cons (rep_dt x.2) (Reps.nil _ _))))
  ·exact pure_val hd (q_move ho (hn 4 (by decide) 23 _ _ rfl))
  ·have:=hg 5 true rfl; cases this
  ·have:=hg 5 true rfl; cases this
  ·have:=hg 5 true rfl; cases this
  ·have:=hg 5 true rfl; cases this
  ·have:=hg 5 true rfl; cases this
  ·exact pure_val hd (q_pickF ho (hn 5 (by decide) 24 _ _ rfl) rfl)
  ·exact pure_val hd (q_move ho (hn 11 (by decide) 30 _ _ rfl))
  ·have:=hg 12 true rfl; cases this
  ·have:=hg 12 true rfl; cases this
  ·have:=hg 12 true rfl; cases this
  ·have:=hg 12 true rfl; cases this
  ·have:=hg 12 true rfl; cases this
  ·have:=hg 12 true rfl; cases this
  ·exact pure_val hd (q_pickF ho (hn 12 (by decide) 31 _ _ rfl) rfl)
def colHVal (A : Nat) (a3 a8 : Addr) (st : VV) (x : ElT) (q : Nat) : Value :=
 match q with
 | 0=>.agg (vvs st) | 1=>.pointer (some (a8.add 2)) | 2=>.pointer (some ((a8.add 2).add 26)) | 3=>.agg x.2.vs | 4=>.bool true | 5=>.bool true | 6=>.pointer (some ⟨A,0,none⟩) | 7=>.pointer (some (a8.add 0)) | 8=>.agg x.1.dot.vs | 9=>.bool true | 10=>.bool false | 11=>.bool false | 12=>.bool false | 19=>.bool false | _=>undef
set_option maxHeartbeats 4000000 in
set_option maxRecDepth 100000 in
theorem colH_region {id : Nat} {ops : List Oper} {Q : Exit→Act→World→Prop} {a0 : Act} {w : World} (A : Nat) (a3 a8 : Addr) (st : VV) (x : ElT)  (hops : ops.map (fun o=>(o.dst,o.op,o.guard)) = colSh) (hdep : depsG colNeed ops = true) (hz : a0.tmps.size = 46)
  (h0 : a0.eval (.tmp 0) = .pointer (some ⟨A,0,none⟩)) (h3 : a0.eval (.tmp 3) = .pointer (some a3)) (h8 : a0.eval (.tmp 8) = .pointer (some a8))
  (c3 : ∀ w',Below w.heap.size w w'→∀ j v,(vvs st).toList[j]? = some v→w'.cell? (a3.add j) = some v) (c8 : ∀ w',Below w.heap.size w w'→∀ j v,(itvT x)[j]? = some v→w'.cell? (a8.add j) = some v) (hh : hasB st x.2 = true) (hc : ∀ w',Below w.heap.size w w'→Calls Try.prog 59 #[.pointer (some ⟨A,0,none⟩),.agg x.1.dot.vs] w' fun e w2=>e = .returned (.bool true)∧Below w'.heap.size w' w2)
  (hQ : ∀ a' w',a'.tmps.size = 46→a'.defers = a0.defers→Below w.heap.size w w'→a'.eval (.tmp 38) = .bool false→(∀ t,(∀ (j : Nat) (op : Op),colSh.dsts[j]? ≠ some (some t,op))→a'.eval (.tmp t) = a0.eval (.tmp t))→Q .normal a' w') : (Code.region id ops.toArray true).wp Try.prog Q a0 w:=by
 refine region_pure mixed 46 hz colSh hops colNeed hdep (by decide) (by decide) (colHVal A a3 a8 st x) (fun i d op j b hsh=>?_) ?_ (fun a' w' hs hd hb hv hoth=>hQ a' w' hs hd hb (hv 19 38 _ _ rfl) hoth)
 ·have hi : i < 20:=(List.getElem?_eq_some_iff.1 hsh).1
  obtain rfl | rfl | rfl | rfl | rfl | rfl | rfl | rfl | rfl | rfl | rfl | rfl | rfl | rfl | rfl | rfl | rfl | rfl | rfl | rfl : i = 0 ∨ i = 1 ∨ i = 2 ∨ i = 3 ∨ i = 4 ∨ i = 5 ∨ i = 6 ∨ i = 7 ∨ i = 8 ∨ i = 9 ∨ i = 10 ∨ i = 11 ∨ i = 12 ∨ i = 13 ∨ i = 14 ∨ i = 15 ∨ i = 16 ∨ i = 17 ∨ i = 18 ∨ i = 19:=by omega
  all_goals first | (exfalso; injection hsh with hsh; have:=(Prod.mk.inj (Prod.mk.inj hsh).2).2; cases this; done) | (injection hsh with hsh; have hg:=(Prod.mk.inj (Prod.mk.inj hsh).2).2; injection hg with hg; obtain ⟨rfl,rfl⟩:=Prod.mk.inj hg; exact ⟨by decide,fun h=>by first | rfl | exact absurd rfl h⟩)
 ·intro i d op g hsh hg a w' hsz hb hn hk o ho hd
  have hi : i < 20:=(List.getElem?_eq_some_iff.1 hsh).1
  have e0:=(hk 0 (notD (by rfl))).trans h0
  have e3:=(hk 3 (notD (by rfl))).trans h3
  have e8:=(hk 8 (notD (by rfl))).trans h8
  obtain rfl | rfl | rfl | rfl | rfl | rfl | rfl | rfl | rfl | rfl | rfl | rfl | rfl | rfl | rfl | rfl | rfl | rfl | rfl | rfl : i = 0 ∨ i = 1 ∨ i = 2 ∨ i = 3 ∨ i = 4 ∨ i = 5 ∨ i = 6 ∨ i = 7 ∨ i = 8 ∨ i = 9 ∨ i = 10 ∨ i = 11 ∨ i = 12 ∨ i = 13 ∨ i = 14 ∨ i = 15 ∨ i = 16 ∨ i = 17 ∨ i = 18 ∨ i = 19:=by omega
  all_goals (injection hsh with hsh; obtain ⟨hd1,hsh2⟩:=Prod.mk.inj hsh; injection hd1 with hd1; subst hd1; obtain ⟨rfl,rfl⟩:=Prod.mk.inj hsh2)
  ·exact pure_val hd (q_loadA (cs:=(vvs st).toList) (ti:=ti29) rfl rfl rfl ho e3 (c3 w' hb))
  ·exact pure_val hd (q_fld (ti:=ti72) (off:=2) (sz:=28) rfl rfl ho e8)
  ·exact pure_val hd (q_fld (ti:=ti68) (off:=26) (sz:=2) rfl rfl ho (hn 1 (by decide) 20 _ _ rfl))
  ·exact pure_val hd (q_loadA (cs:=(x.2.vs).toList) (ti:=ti33) rfl rfl rfl ho (hn 2 (by decide) 21 _ _ rfl) (itT_c28 (c8 w' hb)))
  ·exact pure_call [.agg (vvs st),.agg x.2.vs] hd ho (enterT Try.func51 (by kernel_rfl) rfl) (by simp [hn 0 (by decide) 19 _ _ rfl,hn 3 (by decide) 22 _ _ rfl]; exact ⟨rfl,rfl⟩) (csemW (has_ok st x.2 true hh.symm) w' (Reps.cons (rep_vvs st) (Reps.cons (rep_dt x.2) (Reps.nil _ _))))
  ·exact pure_val hd (q_move ho (hn 4 (by decide) 23 _ _ rfl))
  ·exact pure_val hd (q_move ho e0)
  ·exact pure_val hd (q_fld (ti:=ti72) (off:=0) (sz:=2) rfl rfl ho e8)
  ·exact pure_val hd (q_loadA (cs:=(x.1.dot.vs).toList) (ti:=ti33) rfl rfl rfl ho (hn 7 (by decide) 26 _ _ rfl) (itT_c0 (c8 w' hb)))
  ·exact pure_call [.pointer (some ⟨A,0,none⟩),.agg x.1.dot.vs] hd ho (enterT Try.func59 (by kernel_rfl) rfl) (by simp [hn 6 (by decide) 25 _ _ rfl,hn 8 (by decide) 27 _ _ rfl]; exact ⟨rfl,rfl⟩) (hc w' hb)
  ·exact pure_val hd (q_not ho (hn 9 (by decide) 28 _ _ rfl) rfl)
  ·exact pure_val hd (q_pickT ho (hn 5 (by decide) 24 _ _ rfl) (hn 10 (by decide) 29 _ _ rfl))
  ·exact pure_val hd (q_move ho (hn 11 (by decide) 30 _ _ rfl))
  ·have:=hg 12 true rfl; cases this
  ·have:=hg 12 true rfl; cases this
  ·have:=hg 12 true rfl; cases this
  ·have:=hg 12 true rfl; cases this
  ·have:=hg 12 true rfl; cases this
  ·have:=hg 12 true rfl; cases this
  ·exact pure_val hd (q_pickF ho (hn 12 (by decide) 31 _ _ rfl) rfl)
def colRVal (A : Nat) (a3 a8 : Addr) (st : VV) (x : ElT) (q : Nat) : Value :=
 match q with
 | 0=>.agg (vvs st) | 1=>.pointer (some (a8.add 2)) | 2=>.pointer (some ((a8.add 2).add 26)) | 3=>.agg x.2.vs | 4=>.bool true | 5=>.bool true | 6=>.pointer (some ⟨A,0,none⟩) | 7=>.pointer (some (a8.add 0)) | 8=>.agg x.1.dot.vs | 9=>.bool false | 10=>.bool true | 11=>.bool true | 12=>.bool true | 13=>.pointer (some ⟨A,0,none⟩) | 14=>.pointer (some ⟨A,0,none⟩) | 15=>.pointer (some ((⟨A,0,none⟩ : Addr).add 1)) | 16=>.pointer (some (a8.add 0)) | 17=>.agg x.1.dot.vs | 18=>.bool true | 19=>.bool true | _=>undef
set_option maxHeartbeats 4000000 in
set_option maxRecDepth 100000 in
theorem colR_region {id : Nat} {ops : List Oper} {Q : Exit→Act→World→Prop} {a0 : Act} {w : World} (A : Nat) (a3 a8 : Addr) (st : VV) (x : ElT) {J : World→Prop} (hops : ops.map (fun o=>(o.dst,o.op,o.guard)) = colSh) (hdep : depsG colNeed ops = true) (hz : a0.tmps.size = 46)
  (h0 : a0.eval (.tmp 0) = .pointer (some ⟨A,0,none⟩)) (h3 : a0.eval (.tmp 3) = .pointer (some a3)) (h8 : a0.eval (.tmp 8) = .pointer (some a8))
  (c3 : ∀ w',Below w.heap.size w w'→∀ j v,(vvs st).toList[j]? = some v→w'.cell? (a3.add j) = some v) (c8 : ∀ w',Below w.heap.size w w'→∀ j v,(itvT x)[j]? = some v→w'.cell? (a8.add j) = some v) (hh : hasB st x.2 = true) (hc : ∀ w',Below w.heap.size w w'→Calls Try.prog 59 #[.pointer (some ⟨A,0,none⟩),.agg x.1.dot.vs] w' fun e w2=>e = .returned (.bool false)∧Below w'.heap.size w' w2) (hrm : ∀ w',Below w.heap.size w w'→Calls Try.prog 60 #[.pointer (some ((⟨A,0,none⟩ : Addr).add 1)),.agg x.1.dot.vs] w' fun e w2=>e = .returned (.bool true)∧J w2)
  (hQ : ∀ a' w',a'.tmps.size = 46→a'.defers = a0.defers→J w'→a'.eval (.tmp 38) = .bool true→(∀ t,(∀ (j : Nat) (op : Op),colSh.dsts[j]? ≠ some (some t,op))→a'.eval (.tmp t) = a0.eval (.tmp t))→Q .normal a' w') : (Code.region id ops.toArray true).wp Try.prog Q a0 w:=by
 refine region_one mixed 46 hz colSh hops colNeed hdep (by decide) (by decide) (colRVal A a3 a8 st x) 18 (by decide) (colT J w) ((Below.refl _ _).drew) (fun i d op j b hsh=>?_) ?_ (by intro h; cases h) (fun a' w' hs hd hb hv hoth=>hQ a' w' hs hd hb (hv 19 38 _ _ rfl) hoth)
 ·have hi : i < 20:=(List.getElem?_eq_some_iff.1 hsh).1
  obtain rfl | rfl | rfl | rfl | rfl | rfl | rfl | rfl | rfl | rfl | rfl | rfl | rfl | rfl | rfl | rfl | rfl | rfl | rfl | rfl : i = 0 ∨ i = 1 ∨ i = 2 ∨ i = 3 ∨ i = 4 ∨ i = 5 ∨ i = 6 ∨ i = 7 ∨ i = 8 ∨ i = 9 ∨ i = 10 ∨ i = 11 ∨ i = 12 ∨ i = 13 ∨ i = 14 ∨ i = 15 ∨ i = 16 ∨ i = 17 ∨ i = 18 ∨ i = 19:=by omega
  all_goals first | (exfalso; injection hsh with hsh; have:=(Prod.mk.inj (Prod.mk.inj hsh).2).2; cases this; done) | (injection hsh with hsh; have hg:=(Prod.mk.inj (Prod.mk.inj hsh).2).2; injection hg with hg; obtain ⟨rfl,rfl⟩:=Prod.mk.inj hg; exact ⟨by decide,fun h=>by first | rfl | exact absurd rfl h⟩)
 ·intro i d op g hsh hg a w' bb hsz hT hanc hn hk o ho hd him
  have hi : i < 20:=(List.getElem?_eq_some_iff.1 hsh).1
  have e0:=(hk 0 (notD (by rfl))).trans h0
  have e3:=(hk 3 (notD (by rfl))).trans h3
  have e8:=(hk 8 (notD (by rfl))).trans h8
  obtain rfl | rfl | rfl | rfl | rfl | rfl | rfl | rfl | rfl | rfl | rfl | rfl | rfl | rfl | rfl | rfl | rfl | rfl | rfl | rfl : i = 0 ∨ i = 1 ∨ i = 2 ∨ i = 3 ∨ i = 4 ∨ i = 5 ∨ i = 6 ∨ i = 7 ∨ i = 8 ∨ i = 9 ∨ i = 10 ∨ i = 11 ∨ i = 12 ∨ i = 13 ∨ i = 14 ∨ i = 15 ∨ i = 16 ∨ i = 17 ∨ i = 18 ∨ i = 19:=by omega
  all_goals (injection hsh with hsh; obtain ⟨hd1,hsh2⟩:=Prod.mk.inj hsh; injection hd1 with hd1; subst hd1; obtain ⟨rfl,rfl⟩:=Prod.mk.inj hsh2)
  ·obtain rfl:=hanc (by decide)
   have hb : Below w.heap.size w w':=hT
   refine pure_to hb ?_
   exact pure_val hd (q_loadA (cs:=(vvs st).toList) (ti:=ti29) rfl rfl rfl ho e3 (c3 w' hb))
  ·obtain rfl:=hanc (by decide)
   have hb : Below w.heap.size w w':=hT
   refine pure_to hb ?_
   exact pure_val hd (q_fld (ti:=ti72) (off:=2) (sz:=28) rfl rfl ho e8)
  ·obtain rfl:=hanc (by decide)
   have hb : Below w.heap.size w w':=hT
   refine pure_to hb ?_
   exact pure_val hd (q_fld (ti:=ti68) (off:=26) (sz:=2) rfl rfl ho (hn 1 (by decide) 20 _ _ rfl))
  ·obtain rfl:=hanc (by decide)
   have hb : Below w.heap.size w w':=hT
   refine pure_to hb ?_
   exact pure_val hd (q_loadA (cs:=(x.2.vs).toList) (ti:=ti33) rfl rfl rfl ho (hn 2 (by decide) 21 _ _ rfl) (itT_c28 (c8 w' hb)))
  ·obtain rfl:=hanc (by decide)
   have hb : Below w.heap.size w w':=hT
   refine pure_to hb ?_
   exact pure_call [.agg (vvs st),.agg x.2.vs] hd ho (enterT Try.func51 (by kernel_rfl) rfl) (by simp [hn 0 (by decide) 19 _ _ rfl,hn 3 (by decide) 22 _ _ rfl]; exact ⟨rfl,rfl⟩) (csemW (has_ok st x.2 true hh.symm) w' (Reps.cons (rep_vvs st) (Reps.cons (rep_dt x.2) (Reps.nil _ _))))
  ·obtain rfl:=hanc (by decide)
   have hb : Below w.heap.size w w':=hT
   refine pure_to hb ?_
   exact pure_val hd (q_move ho (hn 4 (by decide) 23 _ _ rfl))
  ·obtain rfl:=hanc (by decide)
   have hb : Below w.heap.size w w':=hT
   refine pure_to hb ?_
   exact pure_val hd (q_move ho e0)
  ·obtain rfl:=hanc (by decide)
   have hb : Below w.heap.size w w':=hT
   refine pure_to hb ?_
   exact pure_val hd (q_fld (ti:=ti72) (off:=0) (sz:=2) rfl rfl ho e8)
  ·obtain rfl:=hanc (by decide)
   have hb : Below w.heap.size w w':=hT
   refine pure_to hb ?_
   exact pure_val hd (q_loadA (cs:=(x.1.dot.vs).toList) (ti:=ti33) rfl rfl rfl ho (hn 7 (by decide) 26 _ _ rfl) (itT_c0 (c8 w' hb)))
  ·obtain rfl:=hanc (by decide)
   have hb : Below w.heap.size w w':=hT
   refine pure_to hb ?_
   exact pure_call [.pointer (some ⟨A,0,none⟩),.agg x.1.dot.vs] hd ho (enterT Try.func59 (by kernel_rfl) rfl) (by simp [hn 6 (by decide) 25 _ _ rfl,hn 8 (by decide) 27 _ _ rfl]; exact ⟨rfl,rfl⟩) (hc w' hb)
  ·obtain rfl:=hanc (by decide)
   have hb : Below w.heap.size w w':=hT
   refine pure_to hb ?_
   exact pure_val hd (q_not ho (hn 9 (by decide) 28 _ _ rfl) rfl)
  ·obtain rfl:=hanc (by decide)
   have hb : Below w.heap.size w w':=hT
   refine pure_to hb ?_
   exact pure_val hd (q_pickT ho (hn 5 (by decide) 24 _ _ rfl) (hn 10 (by decide) 29 _ _ rfl))
  ·obtain rfl:=hanc (by decide)
   have hb : Below w.heap.size w w':=hT
   refine pure_to hb ?_
   exact pure_val hd (q_move ho (hn 11 (by decide) 30 _ _ rfl))
  ·obtain rfl:=hanc (by decide)
   have hb : Below w.heap.size w w':=hT
   refine pure_to hb ?_
   exact pure_val hd (q_move ho e0)
  ·obtain rfl:=hanc (by decide)
   have hb : Below w.heap.size w w':=hT
   refine pure_to hb ?_
   exact pure_val hd (q_nil ho (hn 13 (by decide) 32 _ _ rfl))
  ·obtain rfl:=hanc (by decide)
   have hb : Below w.heap.size w w':=hT
   refine pure_to hb ?_
   exact pure_val hd (q_fld (ti:=ti81) (off:=1) (sz:=1) rfl rfl ho (hn 14 (by decide) 33 _ _ rfl))
  ·obtain rfl:=hanc (by decide)
   have hb : Below w.heap.size w w':=hT
   refine pure_to hb ?_
   exact pure_val hd (q_fld (ti:=ti72) (off:=0) (sz:=2) rfl rfl ho e8)
  ·obtain rfl:=hanc (by decide)
   have hb : Below w.heap.size w w':=hT
   refine pure_to hb ?_
   exact pure_val hd (q_loadA (cs:=(x.1.dot.vs).toList) (ti:=ti33) rfl rfl rfl ho (hn 16 (by decide) 35 _ _ rfl) (itT_c0 (c8 w' hb)))
  ·obtain rfl:=him rfl
   have hb : Below w.heap.size w w':=hT
   exact call_one [.pointer (some ((⟨A,0,none⟩ : Addr).add 1)),.agg x.1.dot.vs] hd ho (enterT Try.func60 (by kernel_rfl) rfl) (by simp [hn 15 (by decide) 34 _ _ rfl,hn 17 (by decide) 36 _ _ rfl]; exact ⟨rfl,rfl⟩) (hrm w' hb)
  ·refine Oper.wp_mono (K:=fun a' w2=>a' = a.put (some 38) (.bool true)∧w2 = w') (fun a' w2 hh=>⟨hh.1,by rw [hh.2]; exact hT⟩) ?_
   exact pure_one hd (q_pickT ho (hn 12 (by decide) 31 _ _ rfl) (hn 18 (by decide) 37 _ _ rfl))
end Go.Proofs.Ytdnaadcbimbfmaa
