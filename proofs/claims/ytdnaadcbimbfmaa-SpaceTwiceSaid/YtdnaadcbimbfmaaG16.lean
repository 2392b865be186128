import Derived.Test.YtdnaadcbimbfmaaG15
set_option linter.unusedSimpArgs false
set_option linter.unusedVariables false
namespace Go.Proofs.Ytdnaadcbimbfmaa
open Go Go.RowKit Am
theorem encW2 {σ : Sp} {got : List Ev} (hg : SpG σ got) (hl : got.length ≤ 1000) : ∃ s : ByteArray,∀ {w : World} {L : Lay} {p : Nat} {mv : Value},SpAt w L p σ mv→Calls Try.prog 9 #[.pointer (some ⟨p,0,none⟩)] w fun e w'=>e = .returned (.string s)∧Below w.heap.size w w':=by
 obtain ⟨A,D,hU,hA,hD,oA,oD⟩:=hg.all hl
 exact ⟨_,fun h=>h.callV (encode_ok σ A D hU hg.len hA hD oA oD _ rfl) (fun S=>Reps.nil _ _)⟩
theorem SpAt.collW {w : World} {L : Lay} {p : Nat} {σ : Sp} {mv : Value} (h : SpAt w L p σ mv) {got : List Ev} (hg : SpG σ got) (hl : got.length ≤ 60) (st : VV) : Calls Try.prog 14 #[.pointer (some ⟨p,0,none⟩),.agg (vvs st)] w fun r w'=>∃ L' τ,r = .returned (vI ((nDead σ : Int) - (nDead τ : Int)))∧nDead τ ≤ nDead σ∧Col st σ τ∧SpAt w' L' p τ mv∧Ext L L' w.heap.size∧Kp L.dom w w' :=
 collectAll_ok w L p σ mv h (fun en hen=>⟨(hg.ok en hen).dr,by have:=hg.lv_le hen; omega⟩) (by have:=hg.nd_le; omega) st
theorem srep_tup2 {w : World} {S : Nat→Prop} {x y : Value} (hx : x.oneCell' = true) (hy : y.oneCell' = true) : SRep w S (fun _=>.bool true) [] (.tup [.v x,.v y]) (.tuple #[x,y]):=⟨[x,y],rfl,rfl,fun i u v hu hv=>by
 match i,hu,hv with
 | 0,hu,hv=>injection hu with hu; injection hv with hv; subst hu; subst hv; exact .c (.v _ hx)
 | 1,hu,hv=>injection hu with hu; injection hv with hv; subst hu; subst hv; exact .c (.v _ hy)
 | i + 2,hu,hv=>simp at hu⟩
theorem joinV_le (a b : VV) (i : Fin 16) : a i ≤ joinV a b i:=by unfold joinV; omega
theorem joinAt_zero (a b : VV) : joinAt a b 0 = a:=by funext k; unfold joinAt; rw [if_neg (by omega)]
theorem joinAt_full (a b : VV) : joinAt a b 16 = joinV a b:=by funext k; unfold joinAt joinV; rw [if_pos k.2]
set_option maxHeartbeats 8000000 in
set_option maxRecDepth 100000 in
theorem spaceTwice_ok (l : List Ev) (rows : List (List AV)) (hrows : rows = evR l) (cut : VV) : CSem Try.prog (.fn 4) [.sl rows,.agg (vac cut)] (.pure [aB true]):=by
 refine acall_hand 73 Try.func4 (by kernel_rfl) rfl rfl (by simp) fun w S a h=>?_
 have hS:=h.hi.lt
 obtain ⟨fb,hfb⟩ : ∃ fb,fb = few17 l:=⟨_,rfl⟩
 have kf0:=few_ok l rows hrows fb hfb
 refine wp_seq (h.pc (E:={ n:=73 }) [(3,.ept (vac cut) 0),(0,.sl rows)] rfl (fun F C D hF hC=>?_) fun S1 a1 w1 h1=>?_)
 ·clear hrows hfb kf0
  cbv
  exact ⟨100,(le_of [] (by simp [leSl,leOb,injK,memK,parK,noTup,lk,rn0,rnA,plain] <;> first | rfl | decide | (repeat (first | rfl | trivial | refine And.intro ?_ ?_))))⟩
 clear h
 refine wp_seq (wp_seq (h1.pc (E:={ n:=73 }) [(18,aB (!fb)),(3,.ept (vac cut) 0),(0,.sl rows)] rfl (fun F C D hF hC=>?_) fun S2 a2 w2 h2=>?_))
 ·have ka:=hC _ _ _ awake_ok
  have kf:=hC _ _ _ kf0
  have t1:=bnotF hF true
  have t2:=bnotF hF fb
  clear kf0 hfb hrows
  cases fb with
  | true =>
   cbv
   refine ⟨_,ka,?_⟩
   cbv
   rw [t1]
   repeat (first | (refine bF rfl ?_; cbv) | (refine cF rfl ?_; cbv) | (refine bT rfl ?_; cbv) | (refine cT rfl ?_; cbv))
   refine ⟨_,kf,?_⟩
   cbv
   rw [t2]
   repeat (first | (refine bF rfl ?_; cbv) | (refine cF rfl ?_; cbv) | (refine bT rfl ?_; cbv) | (refine cT rfl ?_; cbv))
   exact ⟨100,(le_of [] (by simp [leSl,leOb,injK,memK,parK,noTup,lk,rn0,rnA,plain] <;> first | rfl | decide | (repeat (first | rfl | trivial | refine And.intro ?_ ?_))))⟩
  | false =>
   cbv
   refine ⟨_,ka,?_⟩
   cbv
   rw [t1]
   repeat (first | (refine bF rfl ?_; cbv) | (refine cF rfl ?_; cbv) | (refine bT rfl ?_; cbv) | (refine cT rfl ?_; cbv))
   refine ⟨_,kf,?_⟩
   cbv
   rw [t2]
   repeat (first | (refine bF rfl ?_; cbv) | (refine cF rfl ?_; cbv) | (refine bT rfl ?_; cbv) | (refine cT rfl ?_; cbv))
   exact ⟨100,(le_of [] (by simp [leSl,leOb,injK,memK,parK,noTup,lk,rn0,rnA,plain] <;> first | rfl | decide | (repeat (first | rfl | trivial | refine And.intro ?_ ?_))))⟩
 clear h1 kf0
 cases fb with
 | false =>
  refine wp_cond_true (h2.val (t:=18) rfl) (wp_seq (h2.pc (E:={ n:=73 }) [(4,aB true)] rfl (fun F C D hF hC=>?_) fun S3 a3 w3 h3=>?_))
  ·have ka:=hC _ _ _ awake_ok
   clear hrows hfb
   cbv
   refine ⟨_,ka,?_⟩
   cbv
   exact ⟨100,(le_of [] (by simp [leSl,leOb,injK,memK,parK,noTup,lk,rn0,rnA,plain] <;> first | rfl | decide | (repeat (first | rfl | trivial | refine And.intro ?_ ?_))))⟩
  refine wp_ret ?_
  exact h3.ret1 rfl rfl rfl
 | true =>
 have hll : l.length ≤ 60:=few17_len hfb.symm
 clear hfb
 refine wp_cond_false (h2.val (t:=18) rfl) (wp_skip ?_)
 have hinv:=seenF_inv l false
 obtain ⟨sg,hsg⟩ : ∃ sg,sg = seenF l false:=⟨_,rfl⟩
 rw [← hsg] at hinv
 have hgl : sg.2.length ≤ 60:=by have:=hinv.len; omega
 show Code.wp Try.prog (Code.seq _ _) _ _ _
 refine wp_seq (wp_region_list ?_)
 refine h2.pre (E:={ n:=73 }) 1 [(21,.sl rows),(3,.ept (vac cut) 0),(0,.sl rows)] rfl (fun F C hF hC=>?_) fun S3 a3 w3 h3=>?_
 ·clear hrows
  cbv
  exact ⟨100,(le_of [] (by simp [leSl,leOb,injK,memK,parK,noTup,lk,rn0,rnA,plain] <;> first | rfl | decide | (repeat (first | rfl | trivial | refine And.intro ?_ ?_))))⟩
 clear h2
 have hx3 : Rep w3 S3 (.sl (evR l)) (a3.eval (.tmp 21)):=by rw [← hrows,evT]; exact (h3.hi.slots 21 _ rfl).2
 refine callW [a3.eval (.tmp 21),.bool false] rfl rfl (enterT Try.func13 (by kernel_rfl) rfl) (by simp; rfl) ?_
 refine (seen_ok l hll false w3 S3 _ h3.hi.lt hx3).mono ?_
 rintro r w4 ⟨p1,L1,mv1,gv1,rfl,hsp1,hb4,hlow1,hrow1⟩
 rw [← hsg] at hsp1
 refine ⟨_,rfl,?_⟩
 have hone1:=hrow1.one
 have hlt4:=hb4.size
 have h4':=(h3.out (gr_below h3.hi.lt hb4)).put (d:=22) (by decide) (.tup [.v (.pointer (some ⟨p1,0,none⟩)),.v gv1]) (srep_tup2 rfl hone1)
 have h4 : AS 73 w4 L1 p1 [(22,.tup [.v (.pointer (some ⟨p1,0,none⟩)),.v gv1]),(21,.sl rows),(3,.ept (vac cut) 0),(0,.sl rows)] S3 L1 sg.1 mv1 (a3.put (some 22) (.tuple #[.pointer (some ⟨p1,0,none⟩),gv1])) w4:=⟨h4'.hi,hsp1,fun g hs=>by
  cases ho : L1.o g with
  | none=>rfl
  | some t=>have:=h3.hi.lt g hs; have:=hlow1 g t ho; omega,Kp.refl _ _,Ext.refl _ _⟩
 have hgr3:=h3.gr
 clear h4' h3 hrow1
 refine h4.pcl (E:={ n:=73 }) [(5,.v (.pointer (some ⟨p1,0,none⟩))),(3,.ept (vac cut) 0),(0,.sl rows)] rfl (fun F C hF hC=>?_) fun S5 a5 w5 h5=>?_
 ·clear hrows
  cbv
  exact ⟨100,(le_of [] (by simp [leSl,leOb,injK,memK,parK,noTup,lk,rn0,rnA,plain] <;> first | rfl | decide | (repeat (first | rfl | trivial | refine And.intro ?_ ?_))))⟩
 clear h4
 show Code.wp Try.prog (Code.seq _ _) _ _ _
 refine wp_seq (wp_region_list ?_)
 refine h5.pre (E:={ n:=73 }) 1 [(26,.sl rows),(5,.v (.pointer (some ⟨p1,0,none⟩))),(3,.ept (vac cut) 0)] rfl (fun F C hF hC=>?_) fun S6 a6 w6 h6=>?_
 ·clear hrows
  cbv
  exact ⟨100,(le_of [] (by simp [leSl,leOb,injK,memK,parK,noTup,lk,rn0,rnA,plain] <;> first | rfl | decide | (repeat (first | rfl | trivial | refine And.intro ?_ ?_))))⟩
 clear h5
 have hx6 : Rep w6 S6 (.sl (evR l)) (a6.eval (.tmp 26)):=by rw [← hrows,evT]; exact (h6.hi.slots 26 _ rfl).2
 refine callW [a6.eval (.tmp 26),.bool false] rfl rfl (enterT Try.func13 (by kernel_rfl) rfl) (by simp; rfl) ?_
 refine (seen_ok l hll false w6 S6 _ h6.hi.lt hx6).mono ?_
 rintro r w7 ⟨p2,L2,mv2,gv2,rfl,hsp2,hb7,hlow2,hrow2⟩
 rw [← hsg] at hsp2
 refine ⟨_,rfl,?_⟩
 have hone2:=hrow2.one
 have hlt7:=hb7.size
 have h7':=(h6.bw hb7).put (d:=27) (by decide) (.tup [.v (.pointer (some ⟨p2,0,none⟩)),.v gv2]) (srep_tup2 rfl hone2)
 have hw03:=hgr3.below.size
 have h7 : B2 73 w [(27,.tup [.v (.pointer (some ⟨p2,0,none⟩)),.v gv2]),(26,.sl rows),(5,.v (.pointer (some ⟨p1,0,none⟩))),(3,.ept (vac cut) 0)] S6 L1 p1 sg.1 mv1 L2 p2 sg.1 mv2 (fun _=>none) (a6.put (some 27) (.tuple #[.pointer (some ⟨p2,0,none⟩),gv2])) w7:=by
  have hz46:=h6.kp.size
  refine ⟨h7'.hi,h7'.sp,hsp2,fun g hg=>?_,h7'.ap,fun g hs=>?_,fun g hg=>?_,fun g hg=>?_,?_,fun g o ho=>by cases ho⟩
  ·cases ho : L2.o g with
   | none=>rfl
   | some t =>
    cases ho1 : L1.o g with
    | none=>exact absurd ho1 hg
    | some t1=>have:=h6.sp.dom g t1 ho1; have:=hlow2 g t ho; omega
  ·cases ho : L2.o g with
   | none=>rfl
   | some t=>have:=h6.hi.lt g hs; have:=hlow2 g t ho; omega
  ·cases ho1 : L1.o g with
   | none=>exact absurd ho1 hg
   | some t1=>have:=hlow1 g t1 ho1; omega
  ·cases ho1 : L2.o g with
   | none=>exact absurd ho1 hg
   | some t1=>have:=hlow2 g t1 ho1; omega
  ·have hb46 : Below w3.heap.size w4 w6:=⟨h6.kp.os,h6.kp.tape,h6.kp.output,h6.kp.size,fun g hg=>h6.kp.block g (by omega) (fun hd=>by
    cases ho1 : L1.o g with
    | none=>exact hd ho1
    | some t1=>have:=hlow1 g t1 ho1; omega)⟩
   exact hgr3.below.trans ((hb4.mono hw03).trans ((hb46.mono hw03).trans (hb7.mono (by omega))))
 clear h7' h6 hrow2 hx3 hx6
 refine h7.pcl (E:={ n:=73 }) [(7,.v (.pointer (some ⟨p2,0,none⟩))),(5,.v (.pointer (some ⟨p1,0,none⟩))),(3,.ept (vac cut) 0)] rfl (fun F C hF hC=>?_) fun S8 a8 w8 h8=>?_
 ·clear hrows
  cbv
  exact ⟨100,(le_of [] (by simp [leSl,leOb,injK,memK,parK,noTup,lk,rn0,rnA,plain] <;> first | rfl | decide | (repeat (first | rfl | trivial | refine And.intro ?_ ?_))))⟩
 clear h7
 show Code.wp Try.prog (Code.seq _ _) _ _ _
 refine wp_seq (wp_seq (wp_region_list ?_))
 refine h8.pre (E:={ n:=73 }) 2 [(31,.agg (vac (fun _=>0))),(30,.v (.pointer (some ⟨p1,0,none⟩))),(7,.v (.pointer (some ⟨p2,0,none⟩))),(5,.v (.pointer (some ⟨p1,0,none⟩))),(3,.ept (vac cut) 0)] rfl (fun F C hF hC=>?_) fun S9 a9 w9 h9=>?_
 ·clear hrows
  cbv
  exact ⟨100,(le_of [] (by simp [leSl,leOb,injK,memK,parK,noTup,lk,rn0,rnA,plain] <;> first | rfl | decide | (repeat (first | rfl | trivial | refine And.intro ?_ ?_))))⟩
 clear h8
 have r31 : a9.eval (.tmp 31) = .agg (vvs (fun _=>0)):=rep_agg_v (xs:=(vvs (fun _=>0)).toList) (h9.hi.slots 31 _ rfl).2
 refine callW [.pointer (some ⟨p1,0,none⟩),.agg (vvs (fun _=>0))] rfl rfl (enterT Try.func14 (by kernel_rfl) rfl) (by simp [h9.val (t:=30) rfl,r31]) ?_
 refine (h9.s1.collW hinv.g hgl (fun _=>0)).mono ?_
 rintro r w10 ⟨L10,τ0,rfl,hle0,hc0,hsp10,hx10,hk10⟩
 refine ⟨_,rfl,?_⟩
 have:=hc0.zero
 subst this
 rw [show ((nDead sg.1 : Int) - (nDead sg.1 : Int)) = 0 by omega]
 have h10:=(h9.wr hsp10 hk10 hx10).put (d:=32) (by decide) (aI 0) (srep_of_rep (.c (.v _ rfl)))
 clear h9 r31
 refine h10.pcl (E:={ n:=73 }) [(33,aB false),(7,.v (.pointer (some ⟨p2,0,none⟩))),(5,.v (.pointer (some ⟨p1,0,none⟩))),(3,.ept (vac cut) 0)] rfl (fun F C hF hC=>?_) fun S11 a11 w11 h11=>?_
 ·have t1 : F .cmp .neq 0 0 = false:=by rw [neF hF]; rfl
  clear hrows
  cbv
  rw [t1]
  exact ⟨100,(le_of [] (by simp [leSl,leOb,injK,memK,parK,noTup,lk,rn0,rnA,plain] <;> first | rfl | decide | (repeat (first | rfl | trivial | refine And.intro ?_ ?_))))⟩
 clear h10
 refine wp_cond_false (h11.val (t:=33) rfl) (wp_skip ?_)
 show Code.wp Try.prog (Code.seq _ _) _ _ _
 refine wp_seq (wp_region_list ?_)
 refine h11.pre (E:={ n:=73 }) 2 [(35,.agg (vac cut)),(34,.v (.pointer (some ⟨p1,0,none⟩))),(7,.v (.pointer (some ⟨p2,0,none⟩))),(5,.v (.pointer (some ⟨p1,0,none⟩))),(3,.ept (vac cut) 0)] rfl (fun F C hF hC=>?_) fun S12 a12 w12 h12=>?_
 ·clear hrows
  cbv
  exact ⟨100,(le_of [] (by simp [leSl,leOb,injK,memK,parK,noTup,lk,rn0,rnA,plain] <;> first | rfl | decide | (repeat (first | rfl | trivial | refine And.intro ?_ ?_))))⟩
 clear h11
 have r35 : a12.eval (.tmp 35) = .agg (vvs cut):=rep_agg_v (xs:=(vvs cut).toList) (h12.hi.slots 35 _ rfl).2
 refine callW [.pointer (some ⟨p1,0,none⟩),.agg (vvs cut)] rfl rfl (enterT Try.func14 (by kernel_rfl) rfl) (by simp [h12.val (t:=34) rfl,r35]) ?_
 refine (h12.s1.collW hinv.g hgl cut).mono ?_
 rintro r w13 ⟨L13,τ1,rfl,hle1,hc1,hsp13,hx13,hk13⟩
 refine ⟨_,rfl,?_⟩
 have hg1:=hc1.spg hinv.g
 obtain ⟨n1,hn1⟩ : ∃ n1 : Int,n1 = (nDead sg.1 : Int) - (nDead τ1 : Int):=⟨_,rfl⟩
 rw [← hn1]
 have h13:=(h12.wr hsp13 hk13 hx13).put (d:=36) (by decide) (aI n1) (srep_of_rep (.c (.v _ rfl)))
 clear h12 r35
 refine h13.pcl (E:={ n:=73 }) [(9,aI n1),(7,.v (.pointer (some ⟨p2,0,none⟩))),(5,.v (.pointer (some ⟨p1,0,none⟩))),(3,.ept (vac cut) 0)] rfl (fun F C hF hC=>?_) fun S14 a14 w14 h14=>?_
 ·clear hrows
  cbv
  exact ⟨100,(le_of [] (by simp [leSl,leOb,injK,memK,parK,noTup,lk,rn0,rnA,plain] <;> first | rfl | decide | (repeat (first | rfl | trivial | refine And.intro ?_ ?_))))⟩
 clear h13
 show Code.wp Try.prog (Code.seq _ _) _ _ _
 refine wp_seq (wp_seq (wp_region_list ?_))
 refine h14.pre (E:={ n:=73 }) 2 [(38,.agg (vac cut)),(37,.v (.pointer (some ⟨p1,0,none⟩))),(9,aI n1),(7,.v (.pointer (some ⟨p2,0,none⟩))),(5,.v (.pointer (some ⟨p1,0,none⟩))),(3,.ept (vac cut) 0)] rfl (fun F C hF hC=>?_) fun S15 a15 w15 h15=>?_
 ·clear hrows
  cbv
  exact ⟨100,(le_of [] (by simp [leSl,leOb,injK,memK,parK,noTup,lk,rn0,rnA,plain] <;> first | rfl | decide | (repeat (first | rfl | trivial | refine And.intro ?_ ?_))))⟩
 clear h14
 have r38 : a15.eval (.tmp 38) = .agg (vvs cut):=rep_agg_v (xs:=(vvs cut).toList) (h15.hi.slots 38 _ rfl).2
 refine callW [.pointer (some ⟨p1,0,none⟩),.agg (vvs cut)] rfl rfl (enterT Try.func14 (by kernel_rfl) rfl) (by simp [h15.val (t:=37) rfl,r38]) ?_
 refine (h15.s1.collW hg1 hgl cut).mono ?_
 rintro r w16 ⟨L16,τ2,rfl,hle2,hc2,hsp16,hx16,hk16⟩
 refine ⟨_,rfl,?_⟩
 have:=hc1.again hc2
 subst this
 rw [show ((nDead τ2 : Int) - (nDead τ2 : Int)) = 0 by omega]
 have h16:=(h15.wr hsp16 hk16 hx16).put (d:=39) (by decide) (aI 0) (srep_of_rep (.c (.v _ rfl)))
 clear h15 r38 hc2
 refine h16.pcl (E:={ n:=73 }) [(40,aB false),(9,aI n1),(7,.v (.pointer (some ⟨p2,0,none⟩))),(5,.v (.pointer (some ⟨p1,0,none⟩))),(3,.ept (vac cut) 0)] rfl (fun F C hF hC=>?_) fun S17 a17 w17 h17=>?_
 ·have t1 : F .cmp .neq 0 0 = false:=by rw [neF hF]; rfl
  clear hrows
  cbv
  rw [t1]
  exact ⟨100,(le_of [] (by simp [leSl,leOb,injK,memK,parK,noTup,lk,rn0,rnA,plain] <;> first | rfl | decide | (repeat (first | rfl | trivial | refine And.intro ?_ ?_))))⟩
 clear h16
 refine wp_cond_false (h17.val (t:=40) rfl) (wp_skip ?_)
 show Code.wp Try.prog (Code.seq _ _) _ _ _
 refine wp_seq (wp_region_list ?_)
 refine h17.pre (E:={ n:=73 }) 1 [(41,.agg (vac cut)),(9,aI n1),(7,.v (.pointer (some ⟨p2,0,none⟩))),(5,.v (.pointer (some ⟨p1,0,none⟩)))] rfl (fun F C hF hC=>?_) fun S18 a18 w18 h18=>?_
 ·clear hrows
  cbv
  exact ⟨100,(le_of [] (by simp [leSl,leOb,injK,memK,parK,noTup,lk,rn0,rnA,plain] <;> first | rfl | decide | (repeat (first | rfl | trivial | refine And.intro ?_ ?_))))⟩
 clear h17
 have r41 : a18.eval (.tmp 41) = .agg (vvs cut):=rep_agg_v (xs:=(vvs cut).toList) (h18.hi.slots 41 _ rfl).2
 obtain ⟨b,hb⟩ : ∃ b,b = w18.heap.size:=⟨_,rfl⟩
 refine list1 (W':=w18.alloc (.cells (vvs (fun _=>0)) 29)) (.pointer (some ⟨w18.heap.size,0,none⟩)) rfl (by kernel_rfl) ?_
 have h19:=(h18.new (.cells (vvs (fun _=>0)) 29 (0,0)) ((Below.refl _ _).alloc (Nat.le_refl _) _) (heap_alloc_new w18 _)).put (d:=10) (by decide) (.v (.pointer (some ⟨w18.heap.size,0,none⟩))) (srep_of_rep (.c (.v _ rfl)))
 clear h18
 rw [← hb] at h19 ⊢
 obtain ⟨w19,hw19⟩ : ∃ w19,w19 = w18.alloc (.cells (vvs (fun _=>0)) 29):=⟨_,rfl⟩
 rw [← hw19] at h19 ⊢
 obtain ⟨a19,ha19⟩ : ∃ a19,a19 = a18.put (some 10) (.pointer (some ⟨b,0,none⟩)):=⟨_,rfl⟩
 have hb18 : b < a18.tmps.size ∨ True:=.inr trivial
 have r41' : a19.eval (.tmp 41) = .agg (vvs cut):=by rw [ha19,evT,put_ne (by have:=h19.hi.size; rw [put_size] at this; rw [this]; decide) (by decide),← evT]; exact r41
 rw [← ha19] at h19
 show wpList Try.prog _ _ _ (a18.put (some 10) (.pointer (some ⟨b,0,none⟩))) w19
 rw [← ha19]
 clear ha19 r41
 have hb19:=(h19.bo' b _ (if_pos rfl)).1
 refine wpList_plain rfl fun K' hK'=>exec_skip (q_storeN (off:=0) (cs:=(vvs cut).toList) (ti:=ti29) rfl rfl rfl (h19.val (t:=10) rfl) r41' hb19 (by show 0 + 16 ≤ 16; omega) (List.all_eq_true.1 (show ((vvs cut).toList).all (fun v=>v.oneCell') = true from rfl))) (hK' _ _ ?_)
 have h20:=h19.set (b:=b) (if_pos rfl) (w':=w19.setRow b (vvs cut)) (.cells (vvs cut) 29 (0,0)) rfl rfl rfl (by rw [setRow_size]; exact Nat.le_refl _) (fun g hg hne=>setRow_other w19 b g _ hne) (setRow_heap w19 b _ _ _ _ hb19)
 clear h19 hb19 r41' hw19
 show wpList Try.prog _ _ [] a19 (w19.setRow b (vvs cut))
 refine wpList_nil ?_
 have hbo : (fun g=>if g = b then some (Obj.cells (vvs cut) 29 (0,0)) else (fun g=>if g = b then some (Obj.cells (vvs (fun _=>0)) 29 (0,0)) else (fun _=>none) g) g) = (fun g=>if g = b then some (.cells (vvs cut) 29 (0,0)) else none):=by
  funext g
  by_cases e : g = b
  ·simp [e]
  ·simp [e]
 rw [hbo] at h20
 clear hbo
 show Code.wp Try.prog (Code.seq _ _) _ _ _
 refine wp_seq (wp_seq (h20.pc (E:={ n:=73 }) [(42,aI 0),(10,.v (.pointer (some ⟨b,0,none⟩))),(9,aI n1),(7,.v (.pointer (some ⟨p2,0,none⟩))),(5,.v (.pointer (some ⟨p1,0,none⟩)))] rfl (fun F C D hF hC=>?_) fun S21 a21 w21 h21=>?_))
 ·clear hrows
  cbv
  exact ⟨100,(le_of [] (by simp [leSl,leOb,injK,memK,parK,noTup,lk,rn0,rnA,plain] <;> first | rfl | decide | (repeat (first | rfl | trivial | refine And.intro ?_ ?_))))⟩
 clear h20
 refine wp_mono (Q:=fun ex a' w'=>ex = .normal∧∃ S' mvx,B2 73 w [(10,.v (.pointer (some ⟨b,0,none⟩))),(9,aI n1),(7,.v (.pointer (some ⟨p2,0,none⟩))),(5,.v (.pointer (some ⟨p1,0,none⟩)))] S' L16 p1 τ2 mvx L2 p2 sg.1 mv2 (fun g=>if g = b then some (.cells (vvs (joinV cut sg.1.vv)) 29 (0,0)) else none) a' w') ?_ fun ex a22 w22 hh=>?_
 ·refine wp_block (loop_by (fun k a' w'=>k ≤ 16∧∃ S' k',k' = (k : Int)∧B2 73 w [(42,aI k'),(10,.v (.pointer (some ⟨b,0,none⟩))),(9,aI n1),(7,.v (.pointer (some ⟨p2,0,none⟩))),(5,.v (.pointer (some ⟨p1,0,none⟩)))] S' L16 p1 τ2 mv1 L2 p2 sg.1 mv2 (fun g=>if g = b then some (.cells (vvs (joinAt cut sg.1.vv k)) 29 (0,0)) else none) a' w') (fun k=>16 - k) 0 ⟨Nat.zero_le _,S21,0,rfl,by rw [joinAt_zero]; exact h21⟩ fun k aa ww hI=>?_)
  clear h21
  obtain ⟨hk,S',k',ek,hs⟩:=hI
  by_cases hkl : k < 16
  ·obtain ⟨k2,ek2⟩ : ∃ k2 : Int,k2 = ((k + 1 : Nat) : Int):=⟨_,rfl⟩
   refine wp_seq (hs.pc (E:={ n:=73 }) [(43,aB true),(42,aI k'),(10,.v (.pointer (some ⟨b,0,none⟩))),(9,aI n1),(7,.v (.pointer (some ⟨p2,0,none⟩))),(5,.v (.pointer (some ⟨p1,0,none⟩)))] rfl (fun F C D hF hC=>?_) fun S1 a1 w1 h1=>?_)
   ·have tl : F .cmp .lss k' 16 = true:=(lss16 hF ek).2 hkl
    clear hrows
    cbv
    rw [tl]
    exact ⟨100,(le_of [] (by simp [leSl,leOb,injK,memK,parK,noTup,lk,rn0,rnA,plain] <;> first | rfl | decide | (repeat (first | rfl | trivial | refine And.intro ?_ ?_))))⟩
   clear hs
   refine wp_seq (wp_cond_true (h1.val (t:=43) rfl) (wp_skip ?_))
   refine wp_seq (wp_block (wp_seq (h1.pc (E:={ n:=73 }) [(11,aI k'),(42,aI k'),(10,.v (.pointer (some ⟨b,0,none⟩))),(9,aI n1),(7,.v (.pointer (some ⟨p2,0,none⟩))),(5,.v (.pointer (some ⟨p1,0,none⟩)))] rfl (fun F C D hF hC=>?_) fun S2 a2 w2 h2=>?_)))
   ·clear hrows
    cbv
    exact ⟨100,(le_of [] (by simp [leSl,leOb,injK,memK,parK,noTup,lk,rn0,rnA,plain] <;> first | rfl | decide | (repeat (first | rfl | trivial | refine And.intro ?_ ?_))))⟩
   clear h1
   have hb2:=(h2.bo' b _ (if_pos rfl)).1
   have t11 : a2.eval (.tmp 11) = .int .i64 (k : Int):=by rw [h2.val (t:=11) rfl,ek]
   have hvw:=(h2.s1.below ((Below.refl w2.heap.size w2).drew)).vvW
   refine bo_region p1 b k (joinAt cut sg.1.vv k) τ2.vv hkl rfl (by kernel_rfl) h2.hi.size (h2.val rfl) (h2.val rfl) t11 hb2 hvw fun a3 w3 hz3 hd3 hb3 ho3=>?_
   have h3:=(h2.reg hz3 hd3 boShape rfl ho3).bw2 hb3
   have hb3':=(h3.bo' b _ (if_pos rfl)).1
   have h4:=h3.set (b:=b) (if_pos rfl) (w':=w3.setRow b (vvs (vset (joinAt cut sg.1.vv k) k (max (joinAt cut sg.1.vv k ⟨k,hkl⟩) (τ2.vv ⟨k,hkl⟩))))) (.cells (vvs (vset (joinAt cut sg.1.vv k) k (max (joinAt cut sg.1.vv k ⟨k,hkl⟩) (τ2.vv ⟨k,hkl⟩)))) 29 (0,0)) rfl rfl rfl (by rw [setRow_size]; exact Nat.le_refl _) (fun g hg hne=>setRow_other w3 b g _ hne) (setRow_heap w3 b _ _ _ _ hb3')
   have hvv : τ2.vv = sg.1.vv:=hc1.vv
   rw [hvv,joinAt_step cut sg.1.vv k hkl] at h4
   rw [hvv,joinAt_step cut sg.1.vv k hkl]
   have hbo : (fun g=>if g = b then some (Obj.cells (vvs (joinAt cut sg.1.vv (k + 1))) 29 (0,0)) else (fun g=>if g = b then some (Obj.cells (vvs (joinAt cut sg.1.vv k)) 29 (0,0)) else none) g) = (fun g=>if g = b then some (.cells (vvs (joinAt cut sg.1.vv (k + 1))) 29 (0,0)) else none):=by
    funext g
    by_cases e : g = b
    ·simp [e]
    ·simp [e]
   rw [hbo] at h4
   refine h4.pc (E:={ n:=73 }) [(42,aI k2),(10,.v (.pointer (some ⟨b,0,none⟩))),(9,aI n1),(7,.v (.pointer (some ⟨p2,0,none⟩))),(5,.v (.pointer (some ⟨p1,0,none⟩)))] rfl (fun F C D hF hC=>?_) fun S5 a5 w5 h5=>?_
   ·have tl:=(incF hF ek (by omega)).trans ek2.symm
    clear hrows
    cbv
    rw [tl]
    exact ⟨100,(le_of [] (by simp [leSl,leOb,injK,memK,parK,noTup,lk,rn0,rnA,plain] <;> first | rfl | decide | (repeat (first | rfl | trivial | refine And.intro ?_ ?_))))⟩
   exact ⟨k + 1,⟨hkl,S5,k2,ek2,h5⟩,by omega⟩
  ·have hke : k = 16:=by omega
   subst hke
   refine wp_seq (hs.pc (E:={ n:=73 }) [(43,aB false),(10,.v (.pointer (some ⟨b,0,none⟩))),(9,aI n1),(7,.v (.pointer (some ⟨p2,0,none⟩))),(5,.v (.pointer (some ⟨p1,0,none⟩)))] rfl (fun F C D hF hC=>?_) fun S1 a1 w1 h1=>?_)
   ·have tl : F .cmp .lss k' 16 = false:=by rw [Bool.eq_false_iff]; exact fun hh=>hkl ((lss16 hF ek).1 hh)
    clear hrows
    cbv
    rw [tl]
    exact ⟨100,(le_of [] (by simp [leSl,leOb,injK,memK,parK,noTup,lk,rn0,rnA,plain] <;> first | rfl | decide | (repeat (first | rfl | trivial | refine And.intro ?_ ?_))))⟩
   refine wp_seq (wp_cond_false (h1.val (t:=43) rfl) (wp_exit ?_))
   rw [joinAt_full] at h1
   exact ⟨rfl,S1,mv1,h1.dr rfl⟩
 obtain ⟨rfl,S22,mvx,h22⟩:=hh
 clear h21
 obtain ⟨u,hu⟩ : ∃ u,u = joinV cut sg.1.vv:=⟨_,rfl⟩
 rw [← hu] at h22
 have hmono : ∀ d,hasB cut d = true→hasB u d = true:=fun d hd=>hasB_mono (fun i=>by rw [hu]; exact joinV_le _ _ i) d hd
 have hbox : ∀ {w' : World},w'.heap[b]? = some (.cells (vvs u) 29 (0,0))→∀ j v,(vvs u).toList[j]? = some v→w'.cell? ⟨b,0 + j,none⟩ = some v:=fun hw j v hj=>by
  rw [cell_of_row _ _ _ _ _ _ hw,Nat.zero_add]
  simpa using hj
 show Code.wp Try.prog (Code.seq _ _) _ _ _
 refine wp_seq (wp_region_list ?_)
 refine h22.pre (E:={ n:=73 }) 2 [(57,.v (.pointer (some ⟨p1,0,none⟩))),(56,aI n1),(10,.v (.pointer (some ⟨b,0,none⟩))),(7,.v (.pointer (some ⟨p2,0,none⟩))),(5,.v (.pointer (some ⟨p1,0,none⟩)))] rfl (fun F C hF hC=>?_) fun S23 a23 w23 h23=>?_
 ·clear hrows
  cbv
  exact ⟨100,(le_of [] (by simp [leSl,leOb,injK,memK,parK,noTup,lk,rn0,rnA,plain] <;> first | rfl | decide | (repeat (first | rfl | trivial | refine And.intro ?_ ?_))))⟩
 clear h22
 refine list1 (W':=w23) (.agg (vvs u)) rfl (q_loadN (cs:=(vvs u).toList) (ti:=ti29) rfl rfl rfl rfl (h23.val (t:=10) rfl) (hbox (h23.bo' b _ (if_pos rfl)).1)) ?_
 have h24:=h23.put (d:=58) (by decide) (.agg (vac u)) (rep_vv2 u)
 clear h23
 obtain ⟨a24,ha24⟩ : ∃ x,x = a23.put (some 58) (.agg (vvs u)):=⟨_,rfl⟩
 rw [← ha24] at h24
 show wpList Try.prog _ _ _ (a23.put (some 58) (.agg (vvs u))) w23
 rw [← ha24]
 have r58 : a24.eval (.tmp 58) = .agg (vvs u):=rep_agg_v (xs:=(vvs u).toList) (h24.hi.slots 58 _ rfl).2
 refine callW [.pointer (some ⟨p1,0,none⟩),.agg (vvs u)] rfl rfl (enterT Try.func14 (by kernel_rfl) rfl) (by simp [h24.val (t:=57) rfl,r58]) ?_
 refine (h24.s1.collW hg1 hgl u).mono ?_
 rintro r w25 ⟨L25,τ3,rfl,hle3,hc3,hsp25,hx25,hk25⟩
 refine ⟨_,rfl,?_⟩
 have hg3:=hc3.spg hg1
 have hc13:=hc1.two hmono hc3
 obtain ⟨d3,hd3⟩ : ∃ d3 : Int,d3 = (nDead τ2 : Int) - (nDead τ3 : Int):=⟨_,rfl⟩
 obtain ⟨n3,hn3⟩ : ∃ n3 : Int,n3 = (nDead sg.1 : Int) - (nDead τ3 : Int):=⟨_,rfl⟩
 have hnd:=hinv.g.nd_le
 rw [← hd3]
 have h25:=(h24.wr hsp25 hk25 hx25).put (d:=59) (by decide) (aI d3) (srep_of_rep (.c (.v _ rfl)))
 clear h24 r58
 refine h25.pcl (E:={ n:=73 }) [(9,aI n3),(10,.v (.pointer (some ⟨b,0,none⟩))),(7,.v (.pointer (some ⟨p2,0,none⟩))),(5,.v (.pointer (some ⟨p1,0,none⟩)))] rfl (fun F C hF hC=>?_) fun S26 a26 w26 h26=>?_
 ·have tl : F .ar .add .i64 n1 d3 = n3:=by rw [hF,hn3,hn1,hd3]; refine (wrap_in (by omega) (by omega)).trans (by omega)
  clear hrows
  cbv
  rw [tl]
  exact ⟨100,(le_of [] (by simp [leSl,leOb,injK,memK,parK,noTup,lk,rn0,rnA,plain] <;> first | rfl | decide | (repeat (first | rfl | trivial | refine And.intro ?_ ?_))))⟩
 clear h25
 show Code.wp Try.prog (Code.seq _ _) _ _ _
 refine wp_seq (wp_region_list ?_)
 refine h26.pre (E:={ n:=73 }) 1 [(61,.v (.pointer (some ⟨p2,0,none⟩))),(9,aI n3),(10,.v (.pointer (some ⟨b,0,none⟩))),(7,.v (.pointer (some ⟨p2,0,none⟩))),(5,.v (.pointer (some ⟨p1,0,none⟩)))] rfl (fun F C hF hC=>?_) fun S27 a27 w27 h27=>?_
 ·clear hrows
  cbv
  exact ⟨100,(le_of [] (by simp [leSl,leOb,injK,memK,parK,noTup,lk,rn0,rnA,plain] <;> first | rfl | decide | (repeat (first | rfl | trivial | refine And.intro ?_ ?_))))⟩
 clear h26
 refine list1 (W':=w27) (.agg (vvs u)) rfl (q_loadN (cs:=(vvs u).toList) (ti:=ti29) rfl rfl rfl rfl (h27.val (t:=10) rfl) (hbox (h27.bo' b _ (if_pos rfl)).1)) ?_
 have h28:=h27.put (d:=62) (by decide) (.agg (vac u)) (rep_vv2 u)
 clear h27
 obtain ⟨a28,ha28⟩ : ∃ x,x = a27.put (some 62) (.agg (vvs u)):=⟨_,rfl⟩
 rw [← ha28] at h28
 show wpList Try.prog _ _ _ (a27.put (some 62) (.agg (vvs u))) w27
 rw [← ha28]
 have r62 : a28.eval (.tmp 62) = .agg (vvs u):=rep_agg_v (xs:=(vvs u).toList) (h28.hi.slots 62 _ rfl).2
 refine callW [.pointer (some ⟨p2,0,none⟩),.agg (vvs u)] rfl rfl (enterT Try.func14 (by kernel_rfl) rfl) (by simp [h28.val (t:=61) rfl,r62]) ?_
 refine (h28.s2.collW hinv.g hgl u).mono ?_
 rintro r w29 ⟨L29,τ4,rfl,hle4,hc4,hsp29,hx29,hk29⟩
 refine ⟨_,rfl,?_⟩
 have h34:=Col.ext (fun en hen=>(hinv.g.ok en hen).dr) hc13 hc4
 subst h34
 rw [← hn3]
 have h29:=((h28.symm.wr hsp29 hk29 hx29).symm).put (d:=63) (by decide) (aI n3) (srep_of_rep (.c (.v _ rfl)))
 clear h28 r62
 obtain ⟨s,henc⟩:=encW2 hg3 (by omega : sg.2.length ≤ 1000)
 refine h29.pre (E:={ n:=73 }) 4 [(67,.v (.pointer (some ⟨p1,0,none⟩))),(66,aB true),(7,.v (.pointer (some ⟨p2,0,none⟩))),(5,.v (.pointer (some ⟨p1,0,none⟩)))] rfl (fun F C hF hC=>?_) fun S30 a30 w30 h30=>?_
 ·have t1 : F .cmp .eql n3 n3 = true:=(eqF hF _ _).trans (decide_eq_true rfl)
  clear hrows
  cbv
  rw [t1]
  repeat (first | (refine bT rfl ?_; cbv) | (refine cT rfl ?_; cbv))
  exact ⟨100,(le_of [] (by simp [leSl,leOb,injK,memK,parK,noTup,lk,rn0,rnA,plain] <;> first | rfl | decide | (repeat (first | rfl | trivial | refine And.intro ?_ ?_))))⟩
 clear h29
 refine callWg [.pointer (some ⟨p1,0,none⟩)] (wantedW (d:=66) (b:=true) rfl rfl (by rw [h30.hi.size]; decide) (h30.val (t:=66) rfl)) rfl (enterT Try.func9 (by kernel_rfl) rfl) (by simp [h30.val (t:=67) rfl]) ?_
 refine (henc h30.s1).mono ?_
 rintro r w31 ⟨rfl,hb31⟩
 refine ⟨_,rfl,?_⟩
 have h31:=(h30.bw2 hb31).put (d:=68) (by decide) (aS s) (srep_of_rep (.c (.v _ rfl)))
 clear h30
 refine h31.pre (E:={ n:=73 }) 1 [(69,.v (.pointer (some ⟨p2,0,none⟩))),(68,aS s),(66,aB true)] rfl (fun F C hF hC=>?_) fun S32 a32 w32 h32=>?_
 ·clear hrows
  cbv
  repeat (first | (refine bT rfl ?_; cbv) | (refine cT rfl ?_; cbv))
  exact ⟨100,(le_of [] (by simp [leSl,leOb,injK,memK,parK,noTup,lk,rn0,rnA,plain] <;> first | rfl | decide | (repeat (first | rfl | trivial | refine And.intro ?_ ?_))))⟩
 clear h31
 refine callWg [.pointer (some ⟨p2,0,none⟩)] (wantedW (d:=66) (b:=true) rfl rfl (by rw [h32.hi.size]; decide) (h32.val (t:=66) rfl)) rfl (enterT Try.func9 (by kernel_rfl) rfl) (by simp [h32.val (t:=69) rfl]) ?_
 refine (henc h32.s2).mono ?_
 rintro r w33 ⟨rfl,hb33⟩
 refine ⟨_,rfl,?_⟩
 have h33:=(h32.bw2 hb33).put (d:=70) (by decide) (aS s) (srep_of_rep (.c (.v _ rfl)))
 clear h32
 refine h33.pcl (E:={ n:=73 }) [(4,aB true)] rfl (fun F C hF hC=>?_) fun S34 a34 w34 h34=>?_
 ·have t1 : F .scmp .eql s s = true:=by rw [hF]; simp [sy]
  clear hrows
  cbv
  repeat (first | (refine bT rfl ?_; cbv) | (refine cT rfl ?_; cbv))
  rw [t1]
  repeat (first | (refine bT rfl ?_; cbv) | (refine cT rfl ?_; cbv))
  exact ⟨100,(le_of [] (by simp [leSl,leOb,injK,memK,parK,noTup,lk,rn0,rnA,plain] <;> first | rfl | decide | (repeat (first | rfl | trivial | refine And.intro ?_ ?_))))⟩
 refine wp_ret (bodyPost_ret (results_tmp rfl _ _ _) h34.hi.defers ⟨_,_,rfl,gr_below hS h34.bw,[_],rfl,Reps.cons ?_ (Reps.nil _ _)⟩)
 show Rep w34 _ (aB true) (a34.tmps.getD 4 undef)
 rw [show a34.tmps.getD 4 undef = .bool true from h34.val (t:=4) rfl]
 exact .c (.v _ rfl)
end Go.Proofs.Ytdnaadcbimbfmaa
