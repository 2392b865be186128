import Derived.Test.YtdnaadcbimbfmaaG14
set_option linter.unusedSimpArgs false
set_option linter.unusedVariables false
namespace Go.Proofs.Ytdnaadcbimbfmaa
open Go Go.RowKit Am
theorem AS.row2 {n p : Nat} {w0 w w' : World} {L0 L : Lay} {sl : List (Nat × AV)} {S : Nat→Prop} {σ : Sp} {mv : Value} {a : Act} {α : Type} {it : α→List AV} {iv : α→List Value} {ety sz d : Nat} {z : Value} {l : List α} (h : AS n w0 L0 p sl S L σ mv a w) (hb : Below w.heap.size w w') (ho : OwnR w' w.heap.size ety sz z l.length (l.map iv).flatten) (hit : ∀ a,it a = (iv a).map .v) (h1 : ∀ a,∀ v ∈ iv a,v.oneCell' = true) (hl : ∀ a,(it a).length = sz) (hd : d < n) :
  ∃ S',AS n w0 L0 p ((d,.sl (l.map it)) :: sl) S' L σ mv (a.put (some d) z) w'∧∀ g,S' g→S g ∨ w.heap.size ≤ g:=by
 have hbw:=h.bw hb
 have hlt : ∀ g,z.ownBlock = some g→w.heap.size ≤ g∧g < w'.heap.size:=fun g hg=>ho.lt g hg
 have hi' : HI n sl (fun g=>S g ∨ z.ownBlock = some g) a w':=⟨hbw.hi.size,hbw.hi.defers,fun g hg=>hg.elim (hbw.hi.lt g) fun e=>(hlt g e).2,gd_all _ _,fun t x ht=>by
  obtain ⟨q1,q2⟩:=hbw.hi.slots t x ht
  exact ⟨q1,srep_mono (fun _ _=>rfl) (fun g hg=>.inl hg) q2⟩⟩
 have hrc : RepC w' (fun g=>S g ∨ z.ownBlock = some g) (.sl (l.map it)) z:=repc_of_own (B:=w.heap.size) (e:=ety) (sz:=sz) (zs:=(l.map iv).flatten) (by rw [List.length_map]; exact ho) (repl_rows hit h1 l) (fun r hr=>by obtain ⟨a,_,rfl⟩:=List.mem_map.1 hr; exact hl a) fun g hg=>.inr hg
 refine ⟨fun g=>S g ∨ z.ownBlock = some g,⟨hi'.put hd _ (srep_of_rep (.c hrc)),hbw.sp,fun g hg=>hg.elim (hbw.ap g) fun e=>?_,hbw.kp,hbw.ex⟩,fun g hg=>hg.imp id fun e=>(hlt g e).1⟩
 cases hog : L.o g with
 | none=>rfl
 | some t=>have:=h.sp.dom g t hog; have:=(hlt g e).1; omega
structure ASM (M : Nat→Prop) (n : Nat) (w0 : World) (L0 : Lay) (p : Nat) (sl : List (Nat × AV)) (S : Nat→Prop) (L : Lay) (σ : Sp) (mv : Value) (a : Act) (w : World) : Prop where
 ws : AS n w0 L0 p sl S L σ mv a w
 lt : ∀ g,M g→g < w0.heap.size
 mk' : ∀ g,M g→w.heap[g]? = w0.heap[g]?
 ns : ∀ g,M g→¬ S g
section
variable {M : Nat→Prop} {n p : Nat} {w0 w w' : World} {L0 L L' : Lay} {sl sl' : List (Nat × AV)} {S S' : Nat→Prop} {σ σ' : Sp} {mv mv' : Value} {a a' : Act}
theorem ASM.sp (h : ASM M n w0 L0 p sl S L σ mv a w) : SpAt w L p σ mv:=h.ws.sp
theorem ASM.hi (h : ASM M n w0 L0 p sl S L σ mv a w) : HI n sl S a w:=h.ws.hi
theorem ASM.kp (h : ASM M n w0 L0 p sl S L σ mv a w) : Kp L0.dom w0 w:=h.ws.kp
theorem ASM.ex (h : ASM M n w0 L0 p sl S L σ mv a w) : Ext L0 L w0.heap.size:=h.ws.ex
theorem ASM.bl (h : ASM M n w0 L0 p sl S L σ mv a w) (hb : Below w.heap.size w w') : ∀ g,M g→w'.heap[g]? = w0.heap[g]?:=fun g hg=>(hb.block g (Nat.lt_of_lt_of_le (h.lt g hg) h.kp.size)).trans (h.mk' g hg)
theorem ASM.gr (h : ASM M n w0 L0 p sl S L σ mv a w) (h' : HI n sl' S' a' w') (hg : Gr w S w' S') : ASM M n w0 L0 p sl' S' L σ mv a' w':=⟨h.ws.gr h' hg,h.lt,h.bl hg.below,fun g hm hs=>(hg.new g hs).elim (h.ns g hm) fun hz=>by have:=h.lt g hm; have:=h.kp.size; omega⟩
theorem ASM.wr (h : ASM M n w0 L0 p sl S L σ mv a w) (hs : SpAt w' L' p σ' mv') (hk : Kp L.dom w w') (hx : Ext L L' w.heap.size) (hm : ∀ g,M g→w'.heap[g]? = w.heap[g]?) : ASM M n w0 L0 p sl S L' σ' mv' a w':=⟨h.ws.wr hs hk hx,h.lt,fun g hg=>(hm g hg).trans (h.mk' g hg),h.ns⟩
theorem ASM.bw (h : ASM M n w0 L0 p sl S L σ mv a w) (hb : Below w.heap.size w w') : ASM M n w0 L0 p sl S L σ mv a w':=⟨h.ws.bw hb,h.lt,h.bl hb,h.ns⟩
theorem ASM.put (h : ASM M n w0 L0 p sl S L σ mv a w) {d : Nat} (hd : d < n) (x : AV) {v : Value} (hv : SRep w S (fun _=>.bool true) [] x v) : ASM M n w0 L0 p ((d,x) :: sl) S L σ mv (a.put (some d) v) w:=⟨h.ws.put hd x hv,h.lt,h.mk',h.ns⟩
theorem ASM.sub (h : ASM M n w0 L0 p sl S L σ mv a w) (hs : ∀ t x,lk t sl' = some x→lk t sl = some x) : ASM M n w0 L0 p sl' S L σ mv a w:=⟨h.ws.sub hs,h.lt,h.mk',h.ns⟩
theorem ASM.val (h : ASM M n w0 L0 p sl S L σ mv a w) {t : Nat} {v : Value} (ht : lk t sl = some (.v v)) : a.eval (.tmp t) = v:=h.ws.val ht
theorem ASM.dr {k : Nat} {v : AV} (h : ASM M n w0 L0 p ((k,v) :: sl) S L σ mv a w) (hk : (sl.all fun q=>q.1 != k) = true) : ASM M n w0 L0 p sl S L σ mv a w:=⟨h.ws.dr hk,h.lt,h.mk',h.ns⟩
theorem ASM.cells (h : ASM M n w0 L0 p sl S L σ mv a w) {t : Nat} (vs : List Value) (ht : lk t sl = some (.ept (vs.map .v) 0)) : ∃ ad,a.eval (.tmp t) = .pointer (some ad)∧∀ j v,vs[j]? = some v→w.cell? (ad.add j) = some v:=h.ws.cells vs ht
theorem ASM.addV (h : ASM M n w0 L0 p sl S L σ mv a w) {d : Nat} (hd : d < n) {v : Value} (h1 : v.oneCell' = true) (hv : a.eval (.tmp d) = v) : ASM M n w0 L0 p ((d,.v v) :: sl) S L σ mv a w:=⟨h.ws.addV hd h1 hv,h.lt,h.mk',h.ns⟩
theorem ASM.reg (h : ASM M n w0 L0 p sl S L σ mv a w) (hz : a'.tmps.size = n) (hd : a'.defers = a.defers) (sh : List (Option Nat × Op)) (hsl : (sl.all fun s=>sh.all fun q=>q.1 != some s.1) = true) (ho : ∀ t,(∀ (j : Nat) (op : Op),sh[j]? ≠ some (some t,op))→a'.eval (.tmp t) = a.eval (.tmp t)) : ASM M n w0 L0 p sl S L σ mv a' w:=⟨h.ws.reg hz hd sh hsl ho,h.lt,h.mk',h.ns⟩
theorem ASM.row {α : Type} {it : α→List AV} {iv : α→List Value} {ety sz d : Nat} {z : Value} {l : List α} (h : ASM M n w0 L0 p sl S L σ mv a w) (hb : Below w.heap.size w w') (ho : OwnR w' w.heap.size ety sz z l.length (l.map iv).flatten) (hit : ∀ a,it a = (iv a).map .v) (h1 : ∀ a,∀ v ∈ iv a,v.oneCell' = true) (hl : ∀ a,(it a).length = sz) (hd : d < n) :
  ∃ S',ASM M n w0 L0 p ((d,.sl (l.map it)) :: sl) S' L σ mv (a.put (some d) z) w':=by
 obtain ⟨S',h',hn⟩:=h.ws.row2 hb ho hit h1 hl hd
 exact ⟨S',h',h.lt,h.bl hb,fun g hm hs=>(hn g hs).elim (h.ns g hm) fun hz=>by have:=h.lt g hm; have:=h.kp.size; omega⟩
theorem ASM.pc {E : En} {c : Code} {R : Exit→Act→World→Prop} (sl' : List (Nat × AV)) (h : ASM M E.n w0 L0 p sl S L σ mv a w) (hsl : (sl'.all fun q=>fzA q.2) = true)
  (hw : ∀ (F : Sy) (C : Key→List AV→Res→Prop) (D : Code→(AE→St→Prop)→St→Prop),F = sy→(∀ k ar r,CSem Try.prog k ar r→C k ar r)→awp F C D E c (fun e s=>match e with | .normal=>∃ ct,Le s { slots:=sl',obs:=[],ctr:=ct } | _=>False) { slots:=sl,obs:=[],ctr:=0 })
  (k : ∀ S' a' w',ASM M E.n w0 L0 p sl' S' L σ mv a' w'→R .normal a' w') : c.wp Try.prog R a w :=
 Ytdnaadcbimbfmaa.pc sl' h.hi (fun q hq=>List.all_eq_true.1 hsl q hq) hw fun S' a' w' h1 h2=>k S' a' w' (h.gr h1 h2)
theorem ASM.pcl {E : En} {ops : Array Oper} {rest : List Oper} {R : Exit→Act→World→Prop} (sl' : List (Nat × AV)) (h : ASM M E.n w0 L0 p sl S L σ mv a w) (hsl : (sl'.all fun q=>fzA q.2) = true)
  (hw : ∀ (F : Sy) (C : Key→List AV→Res→Prop),F = sy→(∀ k ar r,CSem Try.prog k ar r→C k ar r)→aops F C E ops.toList rest (fun s=>∃ ct,Le s { slots:=sl',obs:=[],ctr:=ct }) { slots:=sl,obs:=[],ctr:=0 })
  (k : ∀ S' a' w',ASM M E.n w0 L0 p sl' S' L σ mv a' w'→R .normal a' w') : wpList Try.prog ops R rest a w :=
 Ytdnaadcbimbfmaa.pcl sl' h.hi (fun q hq=>List.all_eq_true.1 hsl q hq) hw fun S' a' w' h1 h2=>k S' a' w' (h.gr h1 h2)
theorem ASM.pre {E : En} {ops : Array Oper} {l : List Oper} {R : Exit→Act→World→Prop} (m : Nat) (sl' : List (Nat × AV)) (h : ASM M E.n w0 L0 p sl S L σ mv a w) (hsl : (sl'.all fun q=>fzA q.2) = true)
  (hw : ∀ (F : Sy) (C : Key→List AV→Res→Prop),F = sy→(∀ k ar r,CSem Try.prog k ar r→C k ar r)→aops F C E ops.toList (l.take m) (fun s=>∃ ct,Le s { slots:=sl',obs:=[],ctr:=ct }) { slots:=sl,obs:=[],ctr:=0 })
  (k : ∀ S' a' w',ASM M E.n w0 L0 p sl' S' L σ mv a' w'→wpList Try.prog ops R (l.drop m) a' w') : wpList Try.prog ops R l a w :=
 wpList_pre m (h.pcl sl' hsl hw fun S' a' w' h'=>k S' a' w' h')
theorem AS.sub2 {wm : World} {Lm : Lay} {slm : List (Nat × AV)} {Sm : Nat→Prop} {σm : Sp} {mvm : Value} {am : Act} (h : AS n w0 L0 p slm Sm Lm σm mvm am wm) (k : AS n wm Lm p sl S L σ mv a w) : AS n w0 L0 p sl S L σ mv a w :=
 ⟨k.hi,k.sp,k.ap,h.kp.trans k.kp (fun g hd=>h.ex.new g hd),h.ex.trans k.ex h.kp.size⟩
theorem AS.again (h : AS n w0 L0 p sl S L σ mv a w) : AS n w L p sl S L σ mv a w:=⟨h.hi,h.sp,h.ap,Kp.refl _ _,Ext.refl _ _⟩
theorem AS.blk (h : AS n w0 L0 p sl S L σ mv a w) {r : Nat} (hS : ¬ S r) (hL : L.o r = none) (hr0 : w0.heap.size ≤ r) (ho : w'.os = w.os) (ht : w'.tape = w.tape) (hu : w'.output = w.output) (hold : ∀ g,g ≠ r→w'.heap[g]? = w.heap[g]?) (hz : w'.heap.size = w.heap.size) : AS n w0 L0 p sl S L σ mv a w' :=
 ⟨h.hi.out (fun g hg=>hold g fun e=>hS (e ▸ hg)) (Nat.le_of_eq hz.symm),h.sp.keep (fun g t hg=>hold g fun e=>by rw [e,hL] at hg; cases hg) (Nat.le_of_eq hz.symm),h.ap,⟨ho.trans h.kp.os,ht.trans h.kp.tape,hu.trans h.kp.output,Nat.le_trans h.kp.size (Nat.le_of_eq hz.symm),fun g hg hd=>(hold g (by omega)).trans (h.kp.block g hg hd)⟩,h.ex⟩
end
end Go.Proofs.Ytdnaadcbimbfmaa
namespace Go.Proofs.Ytdnaadcbimbfmaa
open Go Go.RowKit Am
section
variable {p : Nat} {w : World} {L : Lay} {σ : Sp} {mv : Value}
theorem remdW {i : Nat} {l : List Ev} {d : List ElT} {x : ElT} (h : SpAt w L p (σ.set i ⟨l,d⟩) mv) (hil : i < σ.es.length) (hr : Rise dT d) (hin : x ∈ d) (hl : d.length ≤ 1000000) :
  Calls Try.prog 60 #[.pointer (some ((⟨L.pt i,0,none⟩ : Addr).add 1)),.agg x.1.dot.vs] w fun r w2=>r = .returned (.bool true)∧∃ L',L'.pt = L.pt∧SpAt w2 L' p (σ.set i ⟨l,delD dT d (dT x)⟩) mv∧Ext L L' w.heap.size∧Kp L.dom w w2∧∀ g,L.o g = some .mp→w2.heap[g]? = w.heap[g]?:=by
 obtain ⟨v,u,he⟩:=h.atE hil rfl
 obtain ⟨hb,hf⟩:=he.bagDd
 refine (removeT w (L.pt i) 1 u d x.1.dot hb hf hr ⟨x,hin,rfl⟩ hl).mono ?_
 rintro r w2 ⟨rfl,v',hb',hk'⟩
 obtain ⟨L',q1,_,q3,q4,q5⟩:=h.putDd he hb' hk'
 rw [Sp.set_set] at q1
 exact ⟨rfl,L',q4,q1,q3,q5,fun g hg=>hk'.block g (h.dom g _ hg) (fun e=>by rw [e,he.oa] at hg; injection hg with hg; cases hg) (fun e=>by rw [he.od g e] at hg; injection hg with hg; cases hg)⟩
theorem heldW {i : Nat} {l : List Ev} {d : List ElT} (h : SpAt w L p (σ.set i ⟨l,d⟩) mv) (hil : i < σ.es.length) (hl : l.length ≤ 1000000) (hd : d.length ≤ 1000000) (x : Dt) (r : Bool) (hr : r = heldB l d x) :
  Calls Try.prog 59 #[.pointer (some ⟨L.pt i,0,none⟩),.agg x.vs] w fun e w2=>e = .returned (.bool r)∧Below w.heap.size w w2:=by
 obtain ⟨v,u,he⟩:=h.atE hil rfl
 refine ((held_ok l d hl hd x r hr).2 w L.dom _ (fun g hg=>?_) (gd_all _ _) (Reps.cons (.c (he.rep fun g hg=>hg)) (Reps.cons (rep_dt x) (Reps.nil _ _)))).mono fun e w' hh=>?_
 ·cases ho : L.o g with
  | none=>exact absurd ho hg
  | some t=>exact h.dom g t ho
 ·obtain ⟨y,S',rfl,hg,ys,rfl,hys⟩:=hh
  rw [reps_v1 hys]
  exact ⟨rfl,hg.below⟩
end
theorem rep_vv2 {w : World} {S : Nat→Prop} (u : VV) : SRep w S (fun _=>.bool true) [] (.agg (vac u)) (.agg (vvs u)):=srep_of_rep (rep_vvs u)
set_option maxHeartbeats 8000000 in
set_option maxRecDepth 100000 in
theorem collect_ok (w : World) (L : Lay) (p : Nat) (σ : Sp) (mv : Value) (h : SpAt w L p σ mv) (i : Nat) (en : Ent) (hen : σ.es[i]? = some en) (hrd : Rise dT en.dd) (hlv : en.lv.length ≤ 100000) (hdd : en.dd.length ≤ 100000) (st : VV) :
  Calls Try.prog 34 #[.pointer (some ⟨L.pt i,0,none⟩),.agg (vvs st)] w fun r w'=>∃ L' D',r = .returned (vI ((en.dd.length : Int) - (D'.length : Int)))∧Fin' st en.lv en.dd D'∧SpAt w' L' p (σ.set i ⟨en.lv,D'⟩) mv∧L'.pt = L.pt∧Ext L L' w.heap.size∧Kp L.dom w w'∧∀ g,L.o g = some .mp→w'.heap[g]? = w.heap[g]?:=by
 have hil:=(List.getElem?_eq_some_iff.1 hen).1
 refine calls_of_wp Try.func34 rfl ?_
 rw [Try.ntmps34]
 obtain ⟨A,hA⟩ : ∃ A,A = L.pt i:=⟨_,rfl⟩
 rw [← hA]
 obtain ⟨a0,ha0⟩ : ∃ a0 : Act,a0 = { tmps:=(#[.pointer (some ⟨A,0,none⟩),.agg (vvs st)] : Array Value) ++ Array.replicate (46 - (#[.pointer (some ⟨A,0,none⟩),.agg (vvs st)] : Array Value).size) undef,defers:=[] }:=⟨_,rfl⟩
 rw [← ha0]
 obtain ⟨q0,q1,q2,q3⟩:=act2 (.pointer (some ⟨A,0,none⟩)) (.agg (vvs st)) 46 (by decide) a0 ha0
 have hset0 : σ.set i ⟨en.lv,en.dd⟩ = σ:=by
  unfold Sp.set
  have : σ.es.set i ⟨en.lv,en.dd⟩ = σ.es:=by
   apply List.ext_getElem?
   intro j
   by_cases hj : i = j
   ·subst hj; rw [List.getElem?_set_self hil,hen]
   ·rw [List.getElem?_set_ne hj]
  rw [this]
 obtain ⟨M,hM⟩ : ∃ M : Nat→Prop,M = fun g=>L.o g = some .mp:=⟨_,rfl⟩
 have hs0 : ASM M 46 w L p [(0,.v (.pointer (some ⟨A,0,none⟩))),(1,.agg (vac st))] (fun _=>False) L σ mv a0 w:=by
  refine ⟨AS.start (xs:=[]) (args:=[]) q0 q1 h fun t x ht=>?_,fun g hg=>h.dom g .mp (by rw [hM] at hg; exact hg),fun g hg=>rfl,fun g _ hs=>hs⟩
  simp only [lk] at ht
  split at ht
  ·rename_i h0; injection ht with ht; subst ht; subst h0
   exact ⟨by omega,by rw [q2]; exact srep_of_rep (.c (.v _ rfl))⟩
  split at ht
  ·rename_i h0; injection ht with ht; subst ht; subst h0
   exact ⟨by omega,by rw [q3]; exact rep_vv2 st⟩
  ·cases ht
 clear ha0
 have hdef : ∀ {sl S L' σ' mv' a' w'},ASM M 46 w L p sl S L' σ' mv' a' w'→a'.defers = []:=fun h=>h.hi.defers
 refine wp_seq (hs0.pc (E:={ n:=46 }) [(3,.ept (vac st) 0),(0,.v (.pointer (some ⟨A,0,none⟩)))] rfl (fun F C D hF hC=>?_) fun S1 a1 w1 h1=>?_)
 ·cbv
  exact ⟨100,(le_of [] (by simp [leSl,leOb,injK,memK,parK,noTup,lk,rn0,rnA,plain] <;> first | rfl | decide | (repeat (first | rfl | trivial | refine And.intro ?_ ?_))))⟩
 clear hs0
 refine wp_seq (h1.pc (E:={ n:=46 }) [(5,aI 0),(3,.ept (vac st) 0),(0,.v (.pointer (some ⟨A,0,none⟩)))] rfl (fun F C D hF hC=>?_) fun S2 a2 w2 h2=>?_)
 ·cbv
  exact ⟨100,(le_of [] (by simp [leSl,leOb,injK,memK,parK,noTup,lk,rn0,rnA,plain] <;> first | rfl | decide | (repeat (first | rfl | trivial | refine And.intro ?_ ?_))))⟩
 clear h1
 rw [← hset0] at h2
 refine wp_block (loop_by (fun k a w'=>∃ S L' D n',D.length = k∧Red st en.lv en.dd D∧n' = (en.dd.length : Int) - (D.length : Int)∧L'.pt = L.pt∧ASM M 46 w L p [(5,aI n'),(3,.ept (vac st) 0),(0,.v (.pointer (some ⟨A,0,none⟩)))] S L' (σ.set i ⟨en.lv,D⟩) mv a w') (fun k=>k) en.dd.length ⟨S2,L,en.dd,0,rfl,.refl _,by omega,rfl,h2⟩ fun k aa ww hI=>?_)
 clear h2 h
 obtain ⟨S,L1,D0,n0,hk,hred,hn0,hpt,hs⟩:=hI
 have hD0 : Rise dT D0:=hred.rise hrd
 have hl0:=hred.len
 refine wp_block (wp_seq (hs.pc (E:={ n:=46 }) [(6,aI n0),(5,aI n0),(3,.ept (vac st) 0),(0,.v (.pointer (some ⟨A,0,none⟩)))] rfl (fun F C D hF hC=>?_) fun S1 a1 w1 h1=>?_))
 ·cbv
  exact ⟨100,(le_of [] (by simp [leSl,leOb,injK,memK,parK,noTup,lk,rn0,rnA,plain] <;> first | rfl | decide | (repeat (first | rfl | trivial | refine And.intro ?_ ?_))))⟩
 clear hs
 refine wp_seq (wp_seq (wp_region_list ?_))
 refine h1.pre (E:={ n:=46 }) 3 [(12,.v (.pointer (some ⟨A,1,none⟩))),(6,aI n0),(5,aI n0),(3,.ept (vac st) 0),(0,.v (.pointer (some ⟨A,0,none⟩)))] rfl (fun F C hF hC=>?_) fun S2 a2 w2 h2=>?_
 ·cbv
  exact ⟨100,(le_of [] (by simp [leSl,leOb,injK,memK,parK,noTup,lk,rn0,rnA,plain] <;> first | rfl | decide | (repeat (first | rfl | trivial | refine And.intro ?_ ?_))))⟩
 clear h1
 obtain ⟨ve,ue,hent⟩:=h2.sp.atE hil rfl
 rw [hpt,← hA] at hent
 refine callW [.pointer (some ⟨A,1,none⟩)] rfl rfl (enterT Try.func24 (by kernel_rfl) rfl) (by simp [h2.val (t:=12) rfl]) ?_
 refine (itemsTW hent.bagDd.1 (by show D0.length ≤ _; omega)).mono ?_
 rintro r w3 ⟨z,rfl,hb3,hown⟩
 refine ⟨_,rfl,?_⟩
 obtain ⟨S3,h3⟩:=h2.row (d:=13) hb3 hown itvT_ac itvT_one itT_len (by decide)
 clear h2 hown hb3 hent
 obtain ⟨rows,hrows⟩ : ∃ rows,rows = D0.map itT:=⟨_,rfl⟩
 obtain ⟨m',hm'⟩ : ∃ m' : Int,m' = (D0.length : Int):=⟨_,rfl⟩
 have h3 : ASM M 46 w L p ((13,.sl (D0.map itT)) :: [(12,.v (.pointer (some ⟨A,1,none⟩))),(6,aI n0),(5,aI n0),(3,.ept (vac st) 0),(0,.v (.pointer (some ⟨A,0,none⟩)))]) S3 L1 (σ.set i ⟨en.lv,D0⟩) mv _ w3:=h3
 rw [← hrows] at h3
 refine h3.pcl (E:={ n:=46 }) [(15,aI 0),(14,aI m'),(13,.sl rows),(6,aI n0),(5,aI n0),(3,.ept (vac st) 0),(0,.v (.pointer (some ⟨A,0,none⟩)))] rfl (fun F C hF hC=>?_) fun S4 a4 w4 h4=>?_
 ·have tl : F .len rows = m':=by rw [lenF hF,hrows,List.length_map,hm']
  clear hrows
  cbv
  rw [tl]
  exact ⟨100,(le_of [] (by simp [leSl,leOb,injK,memK,parK,noTup,lk,rn0,rnA,plain] <;> first | rfl | decide | (repeat (first | rfl | trivial | refine And.intro ?_ ?_))))⟩
 clear h3
 refine (wp_mono (Q:=fun ex a' w'=>ex = .normal∧∃ S L' D n',Red st en.lv D0 D∧n' = (en.dd.length : Int) - (D.length : Int)∧((D = D0∧∀ x ∈ D0,remB st en.lv D0 x = false) ∨ D.length < D0.length)∧L'.pt = L.pt∧ASM M 46 w L p [(6,aI n0),(5,aI n'),(3,.ept (vac st) 0),(0,.v (.pointer (some ⟨A,0,none⟩)))] S L' (σ.set i ⟨en.lv,D⟩) mv a' w') ?_ fun ex a5 w5 hh=>?_)
 ·refine wp_block (loop_by (fun k a w'=>∃ S L' D n' k',k' = (k : Int)∧k ≤ D0.length∧Red st en.lv D0 D∧n' = (en.dd.length : Int) - (D.length : Int)∧(∀ (j : Nat) (y : ElT),k ≤ j→D0[j]? = some y→y ∈ D)∧((D = D0∧∀ (j : Nat) (y : ElT),j < k→D0[j]? = some y→remB st en.lv D0 y = false) ∨ D.length < D0.length)∧L'.pt = L.pt∧ASM M 46 w L p [(15,aI k'),(14,aI m'),(13,.sl rows),(6,aI n0),(5,aI n'),(3,.ept (vac st) 0),(0,.v (.pointer (some ⟨A,0,none⟩)))] S L' (σ.set i ⟨en.lv,D⟩) mv a w') (fun k=>D0.length - k) 0 ⟨S4,L1,D0,n0,0,rfl,Nat.zero_le _,.refl _,hn0,fun j y _ hy=>List.mem_of_getElem? hy,.inl ⟨rfl,fun j y hj=>by omega⟩,hpt,h4⟩ fun k aa ww hI=>?_)
  clear h4
  obtain ⟨S,L2,D,n',k',ek,hkd,hrd2,hn',hrest,hcs,hpt2,hs⟩:=hI
  have hD : Rise dT D:=hrd2.rise hD0
  have hlD:=hrd2.len
  by_cases hkl : k < D0.length
  ·obtain ⟨x,hx⟩ : ∃ x,D0[k]? = some x:=⟨_,List.getElem?_eq_getElem hkl⟩
   have hrow : rows[k]? = some (itT x):=by rw [hrows,List.getElem?_map,hx]; rfl
   have hxD:=hrest k x (Nat.le_refl _) hx
   obtain ⟨k2,ek2⟩ : ∃ k2 : Int,k2 = ((k + 1 : Nat) : Int):=⟨_,rfl⟩
   refine wp_seq (hs.pc (E:={ n:=46 }) [(16,aB true),(15,aI k'),(14,aI m'),(13,.sl rows),(6,aI n0),(5,aI n'),(3,.ept (vac st) 0),(0,.v (.pointer (some ⟨A,0,none⟩)))] rfl (fun F C D hF hC=>?_) fun S1 a1 w1 h1=>?_)
   ·have tl : F .cmp .lss k' m' = true:=(ltF hF k D0.length k' m' ek hm').2 hkl
    clear hrow hrows
    cbv
    rw [tl]
    exact ⟨100,(le_of [] (by simp [leSl,leOb,injK,memK,parK,noTup,lk,rn0,rnA,plain] <;> first | rfl | decide | (repeat (first | rfl | trivial | refine And.intro ?_ ?_))))⟩
   clear hs
   refine wp_seq (wp_cond_true (h1.val (t:=16) rfl) (wp_skip ?_))
   refine wp_seq (wp_block (wp_seq (h1.pc (E:={ n:=46 }) [(8,.ept (itT x) 0),(15,aI k'),(14,aI m'),(13,.sl rows),(6,aI n0),(5,aI n'),(3,.ept (vac st) 0),(0,.v (.pointer (some ⟨A,0,none⟩)))] rfl (fun F C D hF hC=>?_) fun S2 a2 w2 h2=>?_)))
   ·clear hrows
    cbv
    refine ⟨k,_,ek,hrow,rfl,?_⟩
    cbv
    exact ⟨100,(le_of [] (by simp [leSl,leOb,injK,memK,parK,noTup,lk,rn0,rnA,plain] <;> first | rfl | decide | (repeat (first | rfl | trivial | refine And.intro ?_ ?_))))⟩
   clear h1
   obtain ⟨a3,ha3,hc3⟩:=h2.cells (t:=3) (vvs st).toList rfl
   obtain ⟨a8,ha8,hc8⟩:=h2.cells (t:=8) (itvT x) (by rw [← itvT_ac]; rfl)
   have hwp:=h2.sp
   have hAp : A = L2.pt i:=by rw [hpt2,hA]
   have stay : ∀ a' w',a'.tmps.size = 46→a'.defers = a2.defers→Below w2.heap.size w2 w'→a'.eval (.tmp 38) = .bool false→(∀ t,(∀ (j : Nat) (op : Op),colSh.dsts[j]? ≠ some (some t,op))→a'.eval (.tmp t) = a2.eval (.tmp t))→ASM M 46 w L p [(38,aB false),(15,aI k'),(14,aI m'),(13,.sl rows),(6,aI n0),(5,aI n'),(3,.ept (vac st) 0),(0,.v (.pointer (some ⟨A,0,none⟩)))] S2 L2 (σ.set i ⟨en.lv,D⟩) mv a' w':=fun a' w' hz hd hb h38 ho =>
    ((((h2.reg hz hd colSh.dsts rfl ho).bw hb).dr rfl).addV (d:=38) (by decide) rfl h38)
   have noD : remB st en.lv D x = false→((D = D0∧∀ (j : Nat) (y : ElT),j < k + 1→D0[j]? = some y→remB st en.lv D0 y = false) ∨ D.length < D0.length):=fun hno=>by
    rcases hcs with ⟨e1,hcs⟩ | hcs
    ·refine .inl ⟨e1,fun j y hj hy=>?_⟩
     rcases Nat.lt_or_ge j k with h1 | h1
     ·exact hcs j y h1 hy
     ·obtain rfl : j = k:=by omega
      rw [hx] at hy; injection hy with hy; subst hy
      rw [← e1]; exact hno
    ·exact .inr hcs
   by_cases hh : hasB st x.2 = true
   ·by_cases hld : heldB en.lv D x.1.dot = true
    ·have hno : remB st en.lv D x = false:=by unfold remB; rw [hld]; simp
     refine wp_seq (colH_region A a3 a8 st x rfl (by kernel_rfl) h2.hi.size (h2.val rfl) ha3 ha8 (fun w' hb j v hj=>cell_below hb (hc3 j v hj)) (fun w' hb j v hj=>cell_below hb (hc8 j v hj)) hh (fun w' hb=>?_) fun a' w' hz hd hb h38 ho=>?_)
     ·rw [hAp]; exact heldW (hwp.below hb) hil (by omega) (by omega) _ _ hld.symm
     ·have h3:=stay a' w' hz hd hb h38 ho
      refine wp_cond_false (h3.val (t:=38) rfl) (wp_skip ?_)
      refine h3.pc (E:={ n:=46 }) [(15,aI k2),(14,aI m'),(13,.sl rows),(6,aI n0),(5,aI n'),(3,.ept (vac st) 0),(0,.v (.pointer (some ⟨A,0,none⟩)))] rfl (fun F C D hF hC=>?_) fun S4 a4 w4 h4=>?_
      ·have tl:=(incF hF ek (by omega)).trans ek2.symm
       clear hrow hrows
       cbv
       rw [tl]
       exact ⟨100,(le_of [] (by simp [leSl,leOb,injK,memK,parK,noTup,lk,rn0,rnA,plain] <;> first | rfl | decide | (repeat (first | rfl | trivial | refine And.intro ?_ ?_))))⟩
      exact ⟨k + 1,⟨S4,L2,D,n',k2,ek2,hkl,hrd2,hn',fun j y hj hy=>hrest j y (by omega) hy,noD hno,hpt2,h4⟩,by omega⟩
    ·have hld : heldB en.lv D x.1.dot = false:=by simpa using hld
     have hyes : remB st en.lv D x = true:=by unfold remB; rw [hld,hh]; rfl
     refine wp_seq (colR_region (J:=fun w3=>∃ L',L'.pt = L2.pt∧SpAt w3 L' p (σ.set i ⟨en.lv,delD dT D (dT x)⟩) mv∧Ext L2 L' w2.heap.size∧Kp L2.dom w2 w3∧∀ g,M g→w3.heap[g]? = w2.heap[g]?) A a3 a8 st x rfl (by kernel_rfl) h2.hi.size (h2.val rfl) ha3 ha8 (fun w' hb j v hj=>cell_below hb (hc3 j v hj)) (fun w' hb j v hj=>cell_below hb (hc8 j v hj)) hh (fun w' hb=>?_) (fun w' hb=>?_) fun a' w' hz hd hJ h38 ho=>?_)
     ·rw [hAp]; exact heldW (hwp.below hb) hil (by omega) (by omega) _ _ hld.symm
     ·rw [hAp]
      refine (remdW (hwp.below hb) hil hD hxD (by omega)).mono ?_
      rintro r w4 ⟨rfl,L',e1,e2,e3,e4,e5⟩
      exact ⟨rfl,L',e1,e2,⟨e3.o,fun g hg=>(e3.new g hg).imp id fun h=>Nat.le_trans hb.size h⟩,(Kp.of hb).trans e4 fun g hd=>.inl hd,fun g hg=>(e5 g (h2.ex.o g _ (by rw [hM] at hg; exact hg))).trans (hb.block g (h2.sp.dom g _ (h2.ex.o g .mp (by rw [hM] at hg; exact hg))))⟩
     ·obtain ⟨L3,e1,e2,e3,e4,e5⟩:=hJ
      have h3:=((((h2.reg hz hd colSh.dsts rfl ho).wr e2 e4 e3 e5).dr rfl).addV (d:=38) (by decide) rfl h38)
      obtain ⟨n2,hn2⟩ : ∃ n2 : Int,n2 = n' + 1:=⟨_,rfl⟩
      have hlen1:=delD_len1 hD hxD
      refine wp_cond_true (h3.val (t:=38) rfl) (h3.pc (E:={ n:=46 }) [(15,aI k'),(14,aI m'),(13,.sl rows),(6,aI n0),(5,aI n2),(3,.ept (vac st) 0),(0,.v (.pointer (some ⟨A,0,none⟩)))] rfl (fun F C D' hF hC=>?_) fun S4 a4 w4 h4=>?_)
      ·have tl : F .ar .add .i64 n' 1 = n2:=by rw [hF,hn2]; exact wrap_in (by omega) (by omega)
       clear hrow hrows
       cbv
       rw [tl]
       exact ⟨100,(le_of [] (by simp [leSl,leOb,injK,memK,parK,noTup,lk,rn0,rnA,plain] <;> first | rfl | decide | (repeat (first | rfl | trivial | refine And.intro ?_ ?_))))⟩
      refine h4.pc (E:={ n:=46 }) [(15,aI k2),(14,aI m'),(13,.sl rows),(6,aI n0),(5,aI n2),(3,.ept (vac st) 0),(0,.v (.pointer (some ⟨A,0,none⟩)))] rfl (fun F C D' hF hC=>?_) fun S5 a5 w5 h5=>?_
      ·have tl:=(incF hF ek (by omega)).trans ek2.symm
       clear hrow hrows
       cbv
       rw [tl]
       exact ⟨100,(le_of [] (by simp [leSl,leOb,injK,memK,parK,noTup,lk,rn0,rnA,plain] <;> first | rfl | decide | (repeat (first | rfl | trivial | refine And.intro ?_ ?_))))⟩
      refine ⟨k + 1,⟨S5,L3,delD dT D (dT x),n2,k2,ek2,hkl,hrd2.snoc hxD hyes,by rw [hn2,hn']; have : (delD dT D (dT x)).length + 1 = D.length:=hlen1; omega,fun j y hj hy=>?_,.inr (by have : (delD dT D (dT x)).length + 1 = D.length:=hlen1; omega),e1.trans hpt2,h5⟩,by omega⟩
      refine (delD_mem _ _ _ _).2 ⟨hrest j y (by omega) hy,fun hdt=>?_⟩
      have:=rise_inj hD0 hy hx hdt
      omega
   ·have hh : hasB st x.2 = false:=by simpa using hh
    have hno : remB st en.lv D x = false:=by unfold remB; rw [hh]; rfl
    refine wp_seq (colN_region A a3 a8 st x rfl (by kernel_rfl) h2.hi.size (h2.val rfl) ha3 ha8 (fun w' hb j v hj=>cell_below hb (hc3 j v hj)) (fun w' hb j v hj=>cell_below hb (hc8 j v hj)) hh fun a' w' hz hd hb h38 ho=>?_)
    have h3:=stay a' w' hz hd hb h38 ho
    refine wp_cond_false (h3.val (t:=38) rfl) (wp_skip ?_)
    refine h3.pc (E:={ n:=46 }) [(15,aI k2),(14,aI m'),(13,.sl rows),(6,aI n0),(5,aI n'),(3,.ept (vac st) 0),(0,.v (.pointer (some ⟨A,0,none⟩)))] rfl (fun F C D hF hC=>?_) fun S4 a4 w4 h4=>?_
    ·have tl:=(incF hF ek (by omega)).trans ek2.symm
     clear hrow hrows
     cbv
     rw [tl]
     exact ⟨100,(le_of [] (by simp [leSl,leOb,injK,memK,parK,noTup,lk,rn0,rnA,plain] <;> first | rfl | decide | (repeat (first | rfl | trivial | refine And.intro ?_ ?_))))⟩
    exact ⟨k + 1,⟨S4,L2,D,n',k2,ek2,hkl,hrd2,hn',fun j y hj hy=>hrest j y (by omega) hy,noD hno,hpt2,h4⟩,by omega⟩
  ·have hke : k = D0.length:=by omega
   refine wp_seq (hs.pc (E:={ n:=46 }) [(16,aB false),(6,aI n0),(5,aI n'),(3,.ept (vac st) 0),(0,.v (.pointer (some ⟨A,0,none⟩)))] rfl (fun F C D hF hC=>?_) fun S1 a1 w1 h1=>?_)
   ·have tl : F .cmp .lss k' m' = false:=by rw [Bool.eq_false_iff]; exact fun hh=>hkl ((ltF hF k D0.length k' m' ek hm').1 hh)
    clear hrows
    cbv
    rw [tl]
    exact ⟨100,(le_of [] (by simp [leSl,leOb,injK,memK,parK,noTup,lk,rn0,rnA,plain] <;> first | rfl | decide | (repeat (first | rfl | trivial | refine And.intro ?_ ?_))))⟩
   refine wp_seq (wp_cond_false (h1.val (t:=16) rfl) (wp_exit ?_))
   refine ⟨rfl,S1,L2,D,n',hrd2,hn',?_,hpt2,h1.dr rfl⟩
   rcases hcs with ⟨e1,hcs⟩ | hcs
   ·refine .inl ⟨e1,fun x hx=>?_⟩
    obtain ⟨j,hj⟩:=List.getElem?_of_mem hx
    exact hcs j x (by have:=(List.getElem?_eq_some_iff.1 hj).1; omega) hj
   ·exact .inr hcs
 ·obtain ⟨rfl,S5,L5,D,n',hrd2,hn',hcs,hpt5,h5⟩:=hh
  clear h4
  obtain ⟨q,hq⟩ : ∃ q,q = decide (n' = n0):=⟨_,rfl⟩
  show Code.wp Try.prog (Code.seq _ _) _ _ _
  refine wp_seq (h5.pc (E:={ n:=46 }) [(44,aB q),(5,aI n'),(3,.ept (vac st) 0),(0,.v (.pointer (some ⟨A,0,none⟩)))] rfl (fun F C D hF hC=>?_) fun S6 a6 w6 h6=>?_)
  ·have tl : F .cmp .eql n' n0 = q:=(eqF hF _ _).trans hq.symm
   clear hrows
   cbv
   rw [tl]
   exact ⟨100,(le_of [] (by simp [leSl,leOb,injK,memK,parK,noTup,lk,rn0,rnA,plain] <;> first | rfl | decide | (repeat (first | rfl | trivial | refine And.intro ?_ ?_))))⟩
  cases q with
  | false =>
   have hne : n' ≠ n0:=of_decide_eq_false hq.symm
   refine wp_cond_false (h6.val (t:=44) rfl) (wp_skip ?_)
   rcases hcs with ⟨e1,_⟩ | hlt
   ·exact absurd (by rw [hn',hn0,e1]) hne
   ·exact ⟨D.length,⟨S6,L5,D,n',rfl,hred.trans hrd2,hn',hpt5,h6.dr rfl⟩,by omega⟩
  | true =>
   have heq : n' = n0:=of_decide_eq_true hq.symm
   refine wp_cond_true (h6.val (t:=44) rfl) (wp_seq (h6.pc (E:={ n:=46 }) [(4,aI n')] rfl (fun F C D hF hC=>?_) fun S7 a7 w7 h7=>?_))
   ·clear hrows
    cbv
    exact ⟨100,(le_of [] (by simp [leSl,leOb,injK,memK,parK,noTup,lk,rn0,rnA,plain] <;> first | rfl | decide | (repeat (first | rfl | trivial | refine And.intro ?_ ?_))))⟩
   rcases hcs with ⟨e1,hall⟩ | hlt
   ·subst e1
    have t4 : a7.tmps.getD 4 undef = .int .i64 n':=h7.val (t:=4) rfl
    refine wp_ret ⟨hdef h7,.int .i64 n',?_,L5,D,by rw [hn'],⟨hred,hall⟩,h7.sp,hpt5,h7.ex,h7.kp,fun g hg=>h7.mk' g (by rw [hM]; exact hg)⟩
    rw [results_tmp rfl,t4]
   ·omega
end Go.Proofs.Ytdnaadcbimbfmaa
namespace Go.Proofs.Ytdnaadcbimbfmaa
open Go Go.RowKit Am
theorem nDead_set {es : List Ent} {i : Nat} {b c : Ent} (hb : es[i]? = some b) : ((es.set i c).map fun en=>en.dd.length).sum + b.dd.length = (es.map fun en=>en.dd.length).sum + c.dd.length:=by
 induction es generalizing i with
 | nil=>simp at hb
 | cons x xs ih =>
  cases i with
  | zero =>
   have : x = b:=by simpa using hb
   subst this
   simp only [List.set_cons_zero,List.map_cons,List.sum_cons]
   omega
  | succ i =>
   have:=ih (i:=i) (by simpa using hb)
   simp only [List.set_cons_succ,List.map_cons,List.sum_cons]
   omega
theorem nDead_le {es : List Ent} {i : Nat} {b : Ent} (hb : es[i]? = some b) : b.dd.length ≤ (es.map fun en=>en.dd.length).sum:=by
 have:=nDead_set (c:=⟨[],[]⟩) hb
 simp at this
 omega
structure Cs (st : VV) (es : Array MapEntry) (seen : Array Nat) (σ τ : Sp) : Prop where
 ks : τ.ks = σ.ks
 vv : τ.vv = σ.vv
 tm : τ.tm = σ.tm
 len : τ.es.length = σ.es.length
 hit : ∀ (i : Nat) (a b : Ent) (e : MapEntry),σ.es[i]? = some a→τ.es[i]? = some b→es.toList[i]? = some e→seen.contains e.born = true→b.lv = a.lv∧Fin' st a.lv a.dd b.dd
 miss : ∀ (i : Nat) (a : Ent) (e : MapEntry),σ.es[i]? = some a→es.toList[i]? = some e→seen.contains e.born = false→τ.es[i]? = some a
 le : nDead τ ≤ nDead σ
theorem Cs.step {st : VV} {es : Array MapEntry} {seen : Array Nat} {σ τ : Sp} (h : Cs st es seen σ τ) (hnd : (es.toList.map (·.born)).Nodup) {i : Nat} {e : MapEntry} {b : Ent} {D' : List ElT} (hie : es.toList[i]? = some e) (hb : τ.es[i]? = some b) (hs : seen.contains e.born = false) (hF : Fin' st b.lv b.dd D') : Cs st es (seen.push e.born) σ (τ.set i ⟨b.lv,D'⟩)∧(nDead (τ.set i ⟨b.lv,D'⟩) : Int) = nDead τ - ((b.dd.length : Int) - (D'.length : Int)):=by
 have hil:=(List.getElem?_eq_some_iff.1 hb).1
 have hnd2:=nDead_set (c:=⟨b.lv,D'⟩) hb
 have hdl:=hF.red.len
 have hN : (nDead (τ.set i ⟨b.lv,D'⟩) : Int) = nDead τ - ((b.dd.length : Int) - (D'.length : Int)):=by
  unfold nDead Sp.set
  simp only at hnd2 ⊢
  omega
 refine ⟨⟨h.ks,h.vv,h.tm,by unfold Sp.set; rw [List.length_set]; exact h.len,fun j a c e' ha hc he' hs'=>?_,fun j a e' ha he' hs'=>?_,by have:=h.le; omega⟩,hN⟩
 ·have hc : (τ.es.set i ⟨b.lv,D'⟩)[j]? = some c:=hc
  by_cases hij : i = j
  ·subst hij
   rw [List.getElem?_set_self hil] at hc
   injection hc with hc
   subst hc
   have:=h.miss i a e ha hie hs
   rw [hb] at this; injection this with this; subst this
   exact ⟨rfl,hF⟩
  ·rw [List.getElem?_set_ne hij] at hc
   refine h.hit j a c e' ha hc he' ?_
   rw [contains_push,Bool.or_eq_true] at hs'
   rcases hs' with hs' | hs'
   ·exact hs'
   ·exfalso
    have hb1 : (es.toList.map (·.born))[i]? = some e.born:=by rw [List.getElem?_map,hie]; rfl
    have hb2 : (es.toList.map (·.born))[j]? = some e.born:=by rw [List.getElem?_map,he']; simpa using hs'
    exact hij ((List.getElem?_inj (List.getElem?_eq_some_iff.1 hb1).1 hnd).1 (hb1.trans hb2.symm))
 ·rw [contains_push,Bool.or_eq_false_iff] at hs'
  have hij : i ≠ j:=fun e1=>by
   subst e1
   rw [hie] at he'; injection he' with he'; subst he'
   simp at hs'
  show (τ.es.set i ⟨b.lv,D'⟩)[j]? = some a
  rw [List.getElem?_set_ne hij]
  exact h.miss j a e' ha he' hs'.1
set_option maxHeartbeats 8000000 in
set_option maxRecDepth 100000 in
theorem collectAll_ok (w : World) (L : Lay) (p : Nat) (σ : Sp) (mv : Value) (h : SpAt w L p σ mv) (hok : ∀ en ∈ σ.es,Rise dT en.dd∧en.lv.length ≤ 100000) (hn : nDead σ ≤ 100000) (st : VV) :
  Calls Try.prog 14 #[.pointer (some ⟨p,0,none⟩),.agg (vvs st)] w fun r w'=>∃ L' τ,r = .returned (vI ((nDead σ : Int) - (nDead τ : Int)))∧nDead τ ≤ nDead σ∧Col st σ τ∧SpAt w' L' p τ mv∧Ext L L' w.heap.size∧Kp L.dom w w':=by
 refine calls_of_wp Try.func14 rfl ?_
 rw [Try.ntmps14]
 obtain ⟨a0,ha0⟩ : ∃ a0 : Act,a0 = { tmps:=(#[.pointer (some ⟨p,0,none⟩),.agg (vvs st)] : Array Value) ++ Array.replicate (25 - (#[.pointer (some ⟨p,0,none⟩),.agg (vvs st)] : Array Value).size) undef,defers:=[] }:=⟨_,rfl⟩
 rw [← ha0]
 obtain ⟨q0,q1,q2,q3⟩:=act2 (.pointer (some ⟨p,0,none⟩)) (.agg (vvs st)) 25 (by decide) a0 ha0
 have hs0 : AS 25 w L p [(0,.v (.pointer (some ⟨p,0,none⟩))),(1,.agg (vac st))] (fun _=>False) L σ mv a0 w:=by
  refine AS.start (xs:=[]) (args:=[]) q0 q1 h fun t x ht=>?_
  simp only [lk] at ht
  split at ht
  ·rename_i h0; injection ht with ht; subst ht; subst h0
   exact ⟨by omega,by rw [q2]; exact srep_of_rep (.c (.v _ rfl))⟩
  split at ht
  ·rename_i h0; injection ht with ht; subst ht; subst h0
   exact ⟨by omega,by rw [q3]; exact rep_vv2 st⟩
  ·cases ht
 clear ha0
 have hdef : ∀ {sl S L' σ' mv' a' w'},AS 25 w L p sl S L' σ' mv' a' w'→a'.defers = []:=fun h=>h.hi.defers
 have hun : Try.prog.underlying 50 = some (.map 9 74):=by kernel_rfl
 refine wp_seq (hs0.pc (E:={ n:=25 }) [(3,.ept (vac st) 0),(0,.v (.pointer (some ⟨p,0,none⟩)))] rfl (fun F C D hF hC=>?_) fun S1 a1 w1 h1=>?_)
 ·cbv
  exact ⟨100,(le_of [] (by simp [leSl,leOb,injK,memK,parK,noTup,lk,rn0,rnA,plain] <;> first | rfl | decide | (repeat (first | rfl | trivial | refine And.intro ?_ ?_))))⟩
 clear hs0
 refine wp_seq (h1.pc (E:={ n:=25 }) [(5,aI 0),(3,.ept (vac st) 0),(0,.v (.pointer (some ⟨p,0,none⟩)))] rfl (fun F C D hF hC=>?_) fun S2 a2 w2 h2=>?_)
 ·cbv
  exact ⟨100,(le_of [] (by simp [leSl,leOb,injK,memK,parK,noTup,lk,rn0,rnA,plain] <;> first | rfl | decide | (repeat (first | rfl | trivial | refine And.intro ?_ ?_))))⟩
 clear h1
 refine wp_seq (wp_seq (h2.pc (E:={ n:=25 }) [(9,aB true),(5,aI 0),(3,.ept (vac st) 0),(0,.v (.pointer (some ⟨p,0,none⟩)))] rfl (fun F C D hF hC=>?_) fun S3 a3 w3 h3=>?_))
 ·have nilp:=hC _ _ _ (show CSem Try.prog (.nilp 25) [] (.pure []) from (show Try.prog.underlying 25 = _ from by kernel_rfl))
  cbv
  refine ⟨nilp,?_⟩
  cbv
  exact ⟨100,(le_of [] (by simp [leSl,leOb,injK,memK,parK,noTup,lk,rn0,rnA,plain] <;> first | rfl | decide | (repeat (first | rfl | trivial | refine And.intro ?_ ?_))))⟩
 clear h2
 refine wp_mono (Q:=fun ex a' w'=>ex = .normal∧∃ S' L' τ n',AS 25 w L p [(5,aI n')] S' L' τ mv a' w'∧Col st σ τ∧nDead τ ≤ nDead σ∧n' = (nDead σ : Int) - (nDead τ : Int)) ?_ fun ex a9 w9 hh=>?_
 rotate_left
 ·obtain ⟨rfl,S9,L9,τ,n',h9,hcol,hle,hn'⟩:=hh
  show Code.wp Try.prog (Code.seq _ _) _ _ _
  refine wp_seq (h9.pc (E:={ n:=25 }) [(4,aI n')] rfl (fun F C D hF hC=>?_) fun S10 a10 w10 h10=>?_)
  ·cbv
   exact ⟨100,(le_of [] (by simp [leSl,leOb,injK,memK,parK,noTup,lk,rn0,rnA,plain] <;> first | rfl | decide | (repeat (first | rfl | trivial | refine And.intro ?_ ?_))))⟩
  have t4 : a10.tmps.getD 4 undef = .int .i64 n':=h10.val (t:=4) rfl
  refine wp_ret ⟨hdef h10,.int .i64 n',?_,L9,τ,by rw [hn'],hle,hcol,h10.sp,h10.ex,h10.kp⟩
  rw [results_tmp rfl,t4]
 refine wp_cond_true (h3.val (t:=9) rfl) (wp_seq (wp_region_list ?_))
 refine h3.pre (E:={ n:=25 }) 3 [(12,.v (.pointer (some ⟨p,0,none⟩))),(5,aI 0),(3,.ept (vac st) 0)] rfl (fun F C hF hC=>?_) fun S4 a4 w4 h4=>?_
 ·cbv
  exact ⟨100,(le_of [] (by simp [leSl,leOb,injK,memK,parK,noTup,lk,rn0,rnA,plain] <;> first | rfl | decide | (repeat (first | rfl | trivial | refine And.intro ?_ ?_))))⟩
 clear h3
 have hc0 : w4.cell? ⟨p,0,none⟩ = some mv:=by rw [cell_of_row _ _ 0 _ _ _ h4.sp.at']; rfl
 refine list1 (W':=w4) mv rfl (q_load1 (ti:=ti50) rfl rfl rfl (h4.val (t:=12) rfl) hc0) ?_
 have hmv : mv.oneCell' = true:=by
  rcases h4.sp.mp with ⟨e1,_⟩ | ⟨_,m,es,clock,e1,_⟩ <;> rw [e1] <;> rfl
 have h5:=(h4.put (d:=13) (by decide) (.v mv) (srep_of_rep (.c (.v _ hmv))))
 clear h4
 rcases h5.sp.mp with ⟨hm0,hk0⟩ | ⟨hk0,m,es,clock,hm0,hmap⟩
 ·
  have he0 : σ.es = []:=List.eq_nil_of_length_eq_zero (by rw [h5.sp.len,hk0]; rfl)
  have t13 : (a4.put (some 13) mv).eval (.tmp 13) = .map none:=(h5.val (t:=13) rfl).trans hm0
  have hrg:=run_range_nilMap (P:=Try.prog) w4 50 _ _ hun
  refine list1 (W':=w4.alloc (.mapIter none 0 #[] 0)) (.pointer (some ⟨w4.heap.size,0,none⟩)) rfl (by simp [execOp,t13,hrg]) ?_
  obtain ⟨r,hr⟩ : ∃ r,r = w4.heap.size:=⟨_,rfl⟩
  obtain ⟨W,hW⟩ : ∃ W,W = w4.alloc (.mapIter none 0 #[] 0):=⟨_,rfl⟩
  have hnx : ∀ ty,(Instr.next (.pointer (some ⟨r,0,none⟩)) false ty).run Try.prog W = .ok (.tuple #[.bool false]) W:=fun ty=>by rw [hr,hW]; exact run_next_nilMap w4 ty 0 0 #[]
  have hBW : Below w4.heap.size w4 W:=by rw [hW]; exact (Below.refl _ _).alloc (Nat.le_refl _) _
  rw [← hr,← hW]
  have h6:=(h5.bw hBW).put (d:=14) (by decide) (.v (.pointer (some ⟨r,0,none⟩))) (srep_of_rep (.c (.v _ rfl)))
  obtain ⟨a6,ha6⟩ : ∃ a6,a6 = (a4.put (some 13) mv).put (some 14) (.pointer (some ⟨r,0,none⟩)):=⟨_,rfl⟩
  rw [← ha6] at h6
  show Code.wp Try.prog (Code.block 0 _) _ ((a4.put (some 13) mv).put (some 14) (.pointer (some ⟨r,0,none⟩))) W
  rw [← ha6]
  refine wp_block (loop_by (fun _ a' w'=>a' = a6∧w' = W) (fun _=>0) 0 ⟨rfl,rfl⟩ fun i a7 w7 hI=>?_)
  obtain ⟨rfl,rfl⟩:=hI
  have t14 : a7.eval (.tmp 14) = .pointer (some ⟨r,0,none⟩):=h6.val rfl
  refine wp_seq (wp_region_list ?_)
  refine list1 (W':=w7) (.tuple #[.bool false]) rfl (by simp [execOp,t14,hnx]) ?_
  have h7:=h6.put (d:=15) (by decide) .dead trivial (v:=.tuple #[.bool false])
  have e15 : (a7.put (some 15) (.tuple #[.bool false])).eval (.tmp 15) = .tuple #[.bool false]:=put_eq (by rw [h6.hi.size]; decide)
  refine list1 (.bool false) rfl (q_ext rfl e15 rfl) ?_
  have h8:=h7.put (d:=16) (by decide) (aB false) (v:=.bool false) (srep_of_rep (.c (.v _ rfl)))
  refine wp_seq (wp_cond_false (h8.val (t:=16) rfl) (wp_exit ?_))
  refine ⟨rfl,S4,L,σ,0,((((h8.dr rfl).dr rfl).dr rfl).dr rfl |>.dr rfl).sub (fun t x ht=>?_),⟨rfl,rfl,rfl,rfl,fun i a b ha hb=>by rw [he0] at ha; simp at ha⟩,Nat.le_refl _,by omega⟩
  simp only [lk] at ht ⊢
  split at ht
  ·rename_i e; rw [if_pos e]; exact ht
  ·cases ht
 ·
  have hel : es.toList.length = σ.es.length:=by
   have:=congrArg List.length hmap.keys
   simp only [List.length_map] at this
   rw [this,h5.sp.len]
  have t13 : (a4.put (some 13) mv).eval (.tmp 13) = .map (some m):=(h5.val (t:=13) rfl).trans hm0
  have hrg:=run_range_map (P:=Try.prog) w4 50 _ _ m es clock hun hmap.at'
  obtain ⟨r,hr⟩ : ∃ r,r = w4.heap.size:=⟨_,rfl⟩
  obtain ⟨W,hW⟩ : ∃ W,W = w4.alloc (.mapIter (some m) clock #[] clock):=⟨_,rfl⟩
  rw [← hr,← hW] at hrg
  refine list1 (W':=W) (.pointer (some ⟨r,0,none⟩)) rfl (by simp [execOp,t13,hrg]) ?_
  have hBW : Below w4.heap.size w4 W:=by rw [hW]; exact (Below.refl _ _).alloc (Nat.le_refl _) _
  have hw0 : w.heap.size ≤ r:=by rw [hr]; exact h5.kp.size
  have hSr : ¬ S4 r:=fun hs=>by have:=h5.hi.lt r hs; omega
  have hLr : L.o r = none:=by
   cases ho : L.o r with
   | none=>rfl
   | some t=>have:=h5.sp.dom r t ho; omega
  have hom:=hmap.om
  have hmlt : m < w4.heap.size:=h5.sp.dom m _ hom
  have hWr : W.heap[r]? = some (.mapIter (some m) clock #[] clock):=by rw [hW,hr]; exact heap_alloc_new w4 _
  have hWm : W.heap[m]? = some (.map es clock):=(hBW.block m hmlt).trans hmap.at'
  have hents : ∀ (i : Nat) (e : MapEntry),es.toList[i]? = some e→e.val = .pointer (some ⟨L.pt i,0,none⟩):=fun i e he=>by
   have hil : i < σ.es.length:=by rw [← hel]; exact (List.getElem?_eq_some_iff.1 he).1
   exact (hmap.ents i e _ he (List.getElem?_eq_getElem hil)).1
  have hnd:=hmap.nd
  have hbd:=hmap.bd
  have h6:=(((h5.bw hBW).put (d:=14) (by decide) (.v (.pointer (some ⟨r,0,none⟩))) (srep_of_rep (.c (.v _ rfl))))).sub (sl':=[(14,.v (.pointer (some ⟨r,0,none⟩))),(5,aI 0),(3,.ept (vac st) 0)]) (fun t x ht=>by
   simp only [lk] at ht ⊢
   by_cases e1 : 14 = t
   ·rw [if_pos e1] at ht ⊢; exact ht
   ·rw [if_neg e1] at ht ⊢
    by_cases e2 : 13 = t
    ·subst e2; simp at ht
    ·rw [if_neg e2]
     by_cases e3 : 12 = t
     ·subst e3; simp at ht
     ·rw [if_neg e3]; exact ht)
  clear h5 hmap hrg hW t13
  obtain ⟨a6,ha6⟩ : ∃ a6,a6 = (a4.put (some 13) mv).put (some 14) (.pointer (some ⟨r,0,none⟩)):=⟨_,rfl⟩
  have h6 : AS 25 w L p [(14,.v (.pointer (some ⟨r,0,none⟩))),(5,aI 0),(3,.ept (vac st) 0)] S4 L σ mv a6 W:=by rw [ha6]; exact h6
  show Code.wp Try.prog (Code.block 0 _) _ ((a4.put (some 13) mv).put (some 14) (.pointer (some ⟨r,0,none⟩))) W
  rw [← ha6]
  clear ha6
  refine wp_block (loop_by (fun k a' w'=>∃ S' L' τ seen n',AS 25 w L p [(14,.v (.pointer (some ⟨r,0,none⟩))),(5,aI n'),(3,.ept (vac st) 0)] S' L' τ mv a' w'∧w'.heap[r]? = some (.mapIter (some m) clock seen clock)∧w'.heap[m]? = some (.map es clock)∧L'.o m = some .mp∧¬ S' r∧L'.o r = none∧L'.pt = L.pt∧Cs st es seen σ τ∧n' = (nDead σ : Int) - (nDead τ : Int)∧k = (leftOf es seen).size) (fun k=>k) _ ⟨S4,L,σ,#[],0,h6,hWr,hWm,hom,hSr,hLr,rfl,⟨rfl,rfl,rfl,rfl,fun i a b e _ _ _ hs=>by simp at hs,fun i a e ha _ _=>ha,Nat.le_refl _⟩,by omega,rfl⟩ fun k aa ww hI=>?_)
  clear h6 hWr hWm hom hSr hLr
  obtain ⟨S7,L7,τ,seen,n',h7,hIr,hIm,hom,hSr,hLr,hpt,hcs,hn',hk⟩:=hI
  have t14 : aa.eval (.tmp 14) = .pointer (some ⟨r,0,none⟩):=h7.val rfl
  have hrs : r < ww.heap.size:=(Array.getElem?_eq_some_iff.1 hIr).1
  refine wp_seq (wp_region_list ?_)
  rcases run_next_at (P:=Try.prog) ww 0 r m clock clock seen es clock hIr hIm hbd (Nat.le_refl _) with ⟨hz0,hnx⟩ | ⟨e,hel0,w1',hw1',hnx⟩
  ·refine list1 (W':=ww) (.tuple #[.bool false]) rfl (by simp [execOp,t14,hnx]) ?_
   have h8:=h7.put (d:=15) (by decide) .dead trivial (v:=.tuple #[.bool false])
   have e15 : (aa.put (some 15) (.tuple #[.bool false])).eval (.tmp 15) = .tuple #[.bool false]:=put_eq (by rw [h7.hi.size]; decide)
   refine list1 (.bool false) rfl (q_ext rfl e15 rfl) ?_
   have h9:=h8.put (d:=16) (by decide) (aB false) (v:=.bool false) (srep_of_rep (.c (.v _ rfl)))
   refine wp_seq (wp_cond_false (h9.val (t:=16) rfl) (wp_exit ?_))
   have hall:=all_seen es seen hz0
   refine ⟨rfl,S7,L7,τ,n',(((h9.dr rfl).dr rfl).dr rfl).sub (fun t x ht=>?_),⟨hcs.ks,hcs.vv,hcs.tm,hcs.len,fun i a b ha hb=>?_⟩,hcs.le,hn'⟩
   ·simp only [lk] at ht ⊢
    split at ht
    ·rename_i e; rw [if_pos e]; exact ht
    ·cases ht
   ·have hil : i < es.toList.length:=by rw [hel]; exact (List.getElem?_eq_some_iff.1 ha).1
    exact hcs.hit i a b _ ha hb (List.getElem?_eq_getElem hil) (hall _ (List.getElem_mem hil))
  obtain ⟨W2,hW2⟩ : ∃ W2,W2 = ChangeMaps.setBlock w1' r (.mapIter (some m) clock (seen.push e.born) clock):=⟨_,rfl⟩
  rw [← hW2] at hnx
  have hh1 : w1'.heap = ww.heap:=by rcases hw1' with rfl | rfl <;> rfl
  have hsz2 : W2.heap.size = ww.heap.size:=by rw [hW2]; show (w1'.heap.setIfInBounds r _).size = _; rw [Array.size_setIfInBounds,hh1]
  have hold2 : ∀ g,g ≠ r→W2.heap[g]? = ww.heap[g]?:=fun g hg=>by rw [hW2]; show (w1'.heap.setIfInBounds r _)[g]? = _; rw [Array.getElem?_setIfInBounds_ne (fun e=>hg e.symm),hh1]
  have hnew2 : W2.heap[r]? = some (.mapIter (some m) clock (seen.push e.born) clock):=by rw [hW2]; show (w1'.heap.setIfInBounds r _)[r]? = _; rw [Array.getElem?_setIfInBounds_self_of_lt (by rw [hh1]; exact hrs)]
  have hos2 : W2.os = ww.os∧W2.tape = ww.tape∧W2.output = ww.output:=by rw [hW2]; rcases hw1' with rfl | rfl <;> exact ⟨rfl,rfl,rfl⟩
  have h8:=h7.blk hSr hLr hw0 hos2.1 hos2.2.1 hos2.2.2 hold2 hsz2
  have hmr : m ≠ r:=fun e=>by rw [e,hLr] at hom; cases hom
  have hm2 : W2.heap[m]? = some (.map es clock):=(hold2 m hmr).trans hIm
  obtain ⟨hein,hens⟩:=mem_left hel0
  obtain ⟨i,hie⟩:=List.getElem?_of_mem hein
  obtain ⟨a,ha⟩ : ∃ a,σ.es[i]? = some a:=⟨_,List.getElem?_eq_getElem (by rw [← hel]; exact (List.getElem?_eq_some_iff.1 hie).1)⟩
  have hτi:=hcs.miss i a e ha hie hens
  have hev:=hents i e hie
  refine list1 (W':=W2) (.tuple #[.bool true,e.key,e.val]) rfl (by simp [execOp,t14,hnx]) ?_
  have h9:=h8.put (d:=15) (by decide) .dead trivial (v:=.tuple #[.bool true,e.key,e.val])
  have e15 : (aa.put (some 15) (.tuple #[.bool true,e.key,e.val])).eval (.tmp 15) = .tuple #[.bool true,e.key,e.val]:=put_eq (by rw [h7.hi.size]; decide)
  refine list1 (.bool true) rfl (q_ext rfl e15 rfl) ?_
  have h10:=h9.put (d:=16) (by decide) (aB true) (v:=.bool true) (srep_of_rep (.c (.v _ rfl)))
  refine wp_seq (wp_cond_true (h10.val (t:=16) rfl) (wp_skip ?_))
  obtain ⟨a10,ha10⟩ : ∃ a10,a10 = (aa.put (some 15) (.tuple #[.bool true,e.key,e.val])).put (some 16) (.bool true):=⟨_,rfl⟩
  have h11 : AS 25 w L p [(14,.v (.pointer (some ⟨r,0,none⟩))),(5,aI n'),(3,.ept (vac st) 0)] S7 L7 τ mv a10 W2:=by rw [ha10]; exact (h10.dr rfl).dr rfl
  show Code.wp Try.prog (Code.block 1 _) _ ((aa.put (some 15) (.tuple #[.bool true,e.key,e.val])).put (some 16) (.bool true)) W2
  rw [← ha10]
  clear ha10 h10 h9 h8 h7 hnx
  refine wp_block (wp_seq (wp_region_list ?_))
  have t14' : a10.eval (.tmp 14) = .pointer (some ⟨r,0,none⟩):=h11.val rfl
  have hent:=run_entry_at (P:=Try.prog) W2 r m clock seen es clock e hnew2 hm2 hein hnd
  refine list1 (W':=W2) (.tuple #[e.key,e.val]) rfl (by simp [execOp,t14',hent]) ?_
  have h12:=h11.put (d:=17) (by decide) .dead trivial (v:=.tuple #[e.key,e.val])
  have e17 : (a10.put (some 17) (.tuple #[e.key,e.val])).eval (.tmp 17) = .tuple #[e.key,e.val]:=put_eq (by rw [h11.hi.size]; decide)
  refine list1 e.val rfl (q_ext rfl e17 rfl) ?_
  have h13:=h12.put (d:=18) (by decide) .dead trivial (v:=e.val)
  have e18 : ((a10.put (some 17) (.tuple #[e.key,e.val])).put (some 18) e.val).eval (.tmp 18) = e.val:=put_eq (by rw [put_size,h11.hi.size]; decide)
  refine list1 e.val rfl (q_asg rfl e18) ?_
  rw [hev]
  have h14:=((((h13.dr rfl).dr rfl).put (d:=7) (by decide) (.v (.pointer (some ⟨L.pt i,0,none⟩))) (srep_of_rep (.c (.v _ rfl)))))
  rw [hev] at h14
  obtain ⟨a14,ha14⟩ : ∃ a14,a14 = ((a10.put (some 17) (.tuple #[e.key,.pointer (some ⟨L.pt i,0,none⟩)])).put (some 18) (.pointer (some ⟨L.pt i,0,none⟩))).put (some 7) (.pointer (some ⟨L.pt i,0,none⟩)):=⟨_,rfl⟩
  have h14 : AS 25 w L p [(7,.v (.pointer (some ⟨L.pt i,0,none⟩))),(14,.v (.pointer (some ⟨r,0,none⟩))),(5,aI n'),(3,.ept (vac st) 0)] S7 L7 τ mv a14 W2:=by rw [ha14]; exact h14
  show Code.wp Try.prog (Code.region _ _ _) _ (((a10.put (some 17) (.tuple #[e.key,.pointer (some ⟨L.pt i,0,none⟩)])).put (some 18) (.pointer (some ⟨L.pt i,0,none⟩))).put (some 7) (.pointer (some ⟨L.pt i,0,none⟩))) W2
  rw [← ha14]
  clear ha14 h13 h12 h11 hent e17 e18 e15
  have hm14 : ASM (fun g=>g = m ∨ g = r) 25 W2 L7 p [(7,.v (.pointer (some ⟨L.pt i,0,none⟩))),(14,.v (.pointer (some ⟨r,0,none⟩))),(5,aI n'),(3,.ept (vac st) 0)] S7 L7 τ mv a14 W2:=⟨h14.again,fun g hg=>by
   rcases hg with rfl | rfl
   ·exact (Array.getElem?_eq_some_iff.1 hm2).1
   ·exact (Array.getElem?_eq_some_iff.1 hnew2).1,fun g _=>rfl,fun g hg hs=>by
   rcases hg with rfl | rfl
   ·have:=h14.ap g hs; rw [hom] at this; cases this
   ·exact hSr hs⟩
  refine wp_region_list ?_
  refine hm14.pre (E:={ n:=25 }) 3 [(21,.agg (vac st)),(20,.v (.pointer (some ⟨L.pt i,0,none⟩))),(19,aI n'),(14,.v (.pointer (some ⟨r,0,none⟩))),(3,.ept (vac st) 0)] rfl (fun F C hF hC=>?_) fun S15 a15 w15 h15=>?_
  ·cbv
   exact ⟨100,(le_of [] (by simp [leSl,leOb,injK,memK,parK,noTup,lk,rn0,rnA,plain] <;> first | rfl | decide | (repeat (first | rfl | trivial | refine And.intro ?_ ?_))))⟩
  clear hm14
  have r21 : a15.eval (.tmp 21) = .agg (vvs st):=rep_agg_v (xs:=(vvs st).toList) (h15.hi.slots 21 _ rfl).2
  refine callW [.pointer (some ⟨L.pt i,0,none⟩),.agg (vvs st)] rfl rfl (enterT Try.func34 (by kernel_rfl) rfl) (by simp [h15.val (t:=20) rfl,r21]) ?_
  have hoka:=hok a (List.mem_of_getElem? ha)
  have hda:=nDead_le ha
  have hda : a.dd.length ≤ nDead σ:=hda
  rw [← hpt]
  refine (collect_ok w15 L7 p τ mv h15.sp i a hτi hoka.1 hoka.2 (by omega) st).mono ?_
  rintro q w16 ⟨L16,D',rfl,hF,hsp16,hpt16,hx16,hk16,hmp16⟩
  refine ⟨_,rfl,?_⟩
  have h16:=(h15.wr hsp16 hk16 hx16 (fun g hg=>by
   rcases hg with rfl | rfl
   ·exact hmp16 g hom
   ·exact hk16.block g (Nat.lt_of_lt_of_le (h15.lt g (.inr rfl)) h15.kp.size) (fun hd=>hd hLr))).put (d:=22) (by decide) (aI ((a.dd.length : Int) - (D'.length : Int))) (srep_of_rep (.c (.v _ rfl)))
  clear h15
  obtain ⟨c,hc⟩ : ∃ c : Int,c = (a.dd.length : Int) - (D'.length : Int):=⟨_,rfl⟩
  obtain ⟨n2,hn2⟩ : ∃ n2 : Int,n2 = n' + c:=⟨_,rfl⟩
  have hdl:=hF.red.len
  have hle:=hcs.le
  obtain ⟨hcs2,hnD⟩:=hcs.step hnd hie hτi hens hF
  rw [← hc] at h16 hnD ⊢
  refine h16.pcl (E:={ n:=25 }) [(14,.v (.pointer (some ⟨r,0,none⟩))),(5,aI n2),(3,.ept (vac st) 0)] rfl (fun F C hF' hC=>?_) fun S17 a17 w17 h17=>?_
  ·have tl : F .ar .add .i64 n' c = n2:=by rw [hF',hn2]; exact wrap_in (by omega) (by omega)
   cbv
   rw [tl]
   exact ⟨100,(le_of [] (by simp [leSl,leOb,injK,memK,parK,noTup,lk,rn0,rnA,plain] <;> first | rfl | decide | (repeat (first | rfl | trivial | refine And.intro ?_ ?_))))⟩
  clear h16
  refine ⟨(leftOf es (seen.push e.born)).size,⟨S17,L16,_,seen.push e.born,n2,h14.sub2 h17.ws,(h17.mk' r (.inr rfl)).trans hnew2,(h17.mk' m (.inl rfl)).trans hm2,hx16.o m _ hom,h17.ns r (.inr rfl),?_,hpt16,hcs2,by rw [hn2,hn',hnD]; omega,rfl⟩,by rw [hk]; exact left_shrinks es seen e hel0⟩
  cases ho : L16.o r with
  | none=>rfl
  | some t =>
   exfalso
   rcases h17.ex.new r (by rw [ho]; simp) with h1 | h1
   ·exact h1 hLr
   ·have:=h17.lt r (.inr rfl); omega
end Go.Proofs.Ytdnaadcbimbfmaa
namespace Go.Proofs.Ytdnaadcbimbfmaa
open Go Go.RowKit Am
noncomputable def Sp.appK (σ : Sp) (e : Ev) : Sp:=(σ.at e.op.key).app (σ.idx e.op.key) e
theorem idx_eq {σ : Sp} {key : ByteArray} (hn : (σ.at key).ks.Nodup) {i : Nat} (hi : (σ.at key).ks[i]? = some key) : σ.idx key = i:=by
 unfold Sp.idx
 have hil:=(List.getElem?_eq_some_iff.1 hi).1
 rw [List.findIdx_eq hil]
 refine ⟨?_,fun j hj=>?_⟩
 ·rw [(List.getElem?_eq_some_iff.1 hi).2]; simp
 ·simp only [decide_eq_false_iff_not]
  intro e
  have h2 : (σ.at key).ks[j]? = some key:=by rw [List.getElem?_eq_getElem (by omega),e]
  have:=(List.getElem?_inj hil hn).1 (hi.trans h2.symm)
  omega
open Classical in
noncomputable def seenS (s : Sp × List Ev) (e : Ev) : Sp × List Ev:=if ReadyP s.1.vv e then (s.1.appK e,s.2 ++ [e]) else s
structure SeenI (l : List Ev) (s : Sp × List Ev) : Prop where
 g : SpG s.1 s.2
 sub : ∀ x ∈ s.2,x ∈ l
 nd : s.2.Nodup
theorem SeenI.len {l : List Ev} {s : Sp × List Ev} (h : SeenI l s) : s.2.length ≤ l.length:=nodup_len _ _ h.nd h.sub
theorem SpG.mem {σ : Sp} {g1 g2 : List Ev} (h : SpG σ g1) (hm : ∀ x,x ∈ g1 ↔ x ∈ g2) : SpG σ g2 :=
 ⟨h.vr,h.len,h.nd,h.ok,fun i k en x a b c=>⟨(hm x).1 (h.lg i k en x a b c).1,(h.lg i k en x a b c).2⟩,fun i k en x a b c=>⟨(hm _).1 (h.dg i k en x a b c).1,(h.dg i k en x a b c).2⟩,fun x hx=>h.gv x ((hm x).2 hx),fun x hx y hy=>h.gu x ((hm x).2 hx) y ((hm y).2 hy),fun x hx=>h.go x ((hm x).2 hx)⟩
theorem seenI0 (l : List Ev) : SeenI l (sp0,[]):=⟨spg0,fun x h=>by simp at h,List.nodup_nil⟩
theorem SeenI.app {l : List Ev} {s : Sp × List Ev} (h : SeenI l s) {e : Ev} (he : e ∈ l) (hr : ReadyP s.1.vv e) {i : Nat} (hk : (s.1.at e.op.key).ks[i]? = some e.op.key) : (s.1.at e.op.key).app i e = s.1.appK e∧SeenI l (s.1.appK e,s.2 ++ [e]):=by
 have hi:=idx_eq (h.g.atk e.op.key).nd hk
 have he' : (s.1.at e.op.key).app i e = s.1.appK e:=by unfold Sp.appK; rw [hi]
 refine ⟨he',?_,fun x hx=>?_,?_⟩
 ·have:=h.g.app hr (evok_of hr.rt (canB_sz hr.rt.can)) hk
  rw [he'] at this
  exact this.mem fun x=>by simp [or_comm]
 ·rcases List.mem_append.1 hx with hx | hx
  ·exact h.sub x hx
  ·rw [List.mem_singleton.1 hx]; exact he
 ·show (s.2 ++ [e]).Nodup
  rw [List.nodup_append]
  refine ⟨h.nd,by simp,fun a ha b hb e1=>?_⟩
  rw [List.mem_singleton.1 hb] at e1
  subst e1
  have:=(h.g.gv a ha).2.2
  have:=hr.nx
  omega
theorem SeenI.step {l : List Ev} {s : Sp × List Ev} (h : SeenI l s) {e : Ev} (he : e ∈ l) : SeenI l (seenS s e):=by
 unfold seenS
 split
 ·rename_i hr
  have hin : e.op.key ∈ (s.1.at e.op.key).ks:=by
   by_cases hk : e.op.key ∈ s.1.ks
   ·rw [Sp.at_hit hk]; exact hk
   ·rw [Sp.at_miss hk]; simp
  obtain ⟨i,hi⟩:=List.getElem?_of_mem hin
  exact (h.app he hr hi).2
 ·exact h
def ordL (l : List Ev) (back : Bool) : List Ev:=if back = true then l.reverse else l
noncomputable def seenI' (l : List Ev) (back : Bool) (a : Nat) : Sp × List Ev:=(List.replicate a (ordL l back)).flatten.foldl seenS (sp0,[])
noncomputable def seenF (l : List Ev) (back : Bool) : Sp × List Ev:=seenI' l back l.length
theorem ordL_len (l : List Ev) (back : Bool) : (ordL l back).length = l.length:=by unfold ordL; split <;> simp
theorem ordL_mem {l : List Ev} {back : Bool} {x : Ev} (h : x ∈ ordL l back) : x ∈ l:=by unfold ordL at h; split at h <;> simpa using h
theorem seen_succ (l : List Ev) (back : Bool) (a : Nat) : seenI' l back (a + 1) = (ordL l back).foldl seenS (seenI' l back a):=by
 unfold seenI'
 rw [List.replicate_succ',List.flatten_append,List.foldl_append]
 simp
theorem foldS_inv {l : List Ev} : ∀ (q : List Ev) (s : Sp × List Ev),SeenI l s→(∀ x ∈ q,x ∈ l)→SeenI l (q.foldl seenS s)
 | [],s,h,_=>h
 | e :: q,s,h,hq=>foldS_inv q _ (h.step (hq e (.head _))) fun x hx=>hq x (.tail _ hx)
theorem seenI_inv (l : List Ev) (back : Bool) : ∀ a,SeenI l (seenI' l back a)
 | 0=>seenI0 l
 | a + 1=>by rw [seen_succ]; exact foldS_inv _ _ (seenI_inv l back a) fun x hx=>ordL_mem hx
theorem seenF_inv (l : List Ev) (back : Bool) : SeenI l (seenF l back):=seenI_inv l back _
theorem ordL_get {l : List Ev} {back : Bool} {b j : Nat} {e : Ev} (hb : b < l.length) (hj : j = if back = true then l.length - 1 - b else b) (he : l[j]? = some e) : (ordL l back)[b]? = some e:=by
 unfold ordL
 split
 ·rename_i h
  rw [if_pos h] at hj
  rw [List.getElem?_reverse hb,← hj]
  exact he
 ·rename_i h
  rw [if_neg h] at hj
  rw [← hj]; exact he
theorem take_foldS {q : List Ev} {b : Nat} {e : Ev} (s : Sp × List Ev) (h : q[b]? = some e) : (q.take (b + 1)).foldl seenS s = seenS ((q.take b).foldl seenS s) e:=by
 rw [List.take_add_one,h,List.foldl_append]; rfl
theorem SpG.nd_le {σ : Sp} {got : List Ev} (h : SpG σ got) : nDead σ ≤ got.length:=by
 have hl : ((σ.es.flatMap fun en=>en.dd.map (·.1)).length) = nDead σ:=by
  unfold nDead
  rw [List.length_flatMap]
  congr 1
  apply List.map_congr_left
  intro en _
  simp
 rw [← hl]
 refine nodup_len _ _ ?_ fun x hx=>?_
 ·show List.Pairwise (· ≠ ·) _
  rw [List.pairwise_flatMap]
  refine ⟨fun en hen=>?_,?_⟩
  ·have hr : Rise (fun x : Ev=>x.dot) (en.dd.map (·.1)):=List.pairwise_map.2 (h.ok en hen).dr
   exact riseE_nodup hr
  ·rw [List.pairwise_iff_getElem]
   intro i j hi hj hij x hx y hy e
   obtain ⟨x',hx',rfl⟩:=List.mem_map.1 hx
   obtain ⟨y',hy',rfl⟩:=List.mem_map.1 hy
   have ki:=List.getElem?_eq_getElem (l:=σ.ks) (i:=i) (by rw [← h.len]; exact hi)
   have kj:=List.getElem?_eq_getElem (l:=σ.ks) (i:=j) (by rw [← h.len]; exact hj)
   have e1:=(h.dg i _ _ x' ki (List.getElem?_eq_getElem hi) hx').2
   have e2:=(h.dg j _ _ y' kj (List.getElem?_eq_getElem hj) hy').2
   rw [← e1] at ki
   rw [← e2,← e] at kj
   have:=h.ij ki kj
   omega
 ·obtain ⟨en,hen,hx⟩:=List.mem_flatMap.1 hx
  obtain ⟨y,hy,rfl⟩:=List.mem_map.1 hx
  obtain ⟨i,k,q1,q2⟩:=h.ix hen
  exact (h.dg i k en y q1 q2 hy).1
theorem SpG.lv_le {σ : Sp} {got : List Ev} (h : SpG σ got) {en : Ent} (hen : en ∈ σ.es) : en.lv.length ≤ got.length:=by
 obtain ⟨i,k,q1,q2⟩:=h.ix hen
 exact nodup_len _ _ (riseE_nodup (h.ok en hen).lr) fun x hx=>(h.lg i k en x q1 q2 hx).1
end Go.Proofs.Ytdnaadcbimbfmaa
namespace Go.Proofs.Ytdnaadcbimbfmaa
open Go Go.RowKit Am
theorem AS.grown {n p : Nat} {w0 w w' : World} {L0 L : Lay} {sl : List (Nat × AV)} {S : Nat→Prop} {σ : Sp} {mv : Value} {a : Act} (h : AS n w0 L0 p sl S L σ mv a w) {row : Option Nat} (hg : w.grownBy w' row) (hrow : ∀ r,row = some r→¬ S r∧L.o r = none∧w0.heap.size ≤ r) : AS n w0 L0 p sl S L σ mv a w' :=
 ⟨h.hi.out (fun g hs=>hg.5 g (h.hi.lt g hs) (fun e=>(hrow g e.symm).1 hs)) hg.4,h.sp.keep (fun g t ht=>hg.5 g (h.sp.dom g t ht) (fun e=>by rw [(hrow g e.symm).2.1] at ht; cases ht)) hg.4,h.ap,⟨hg.1.trans h.kp.os,hg.2.trans h.kp.tape,hg.3.trans h.kp.output,Nat.le_trans h.kp.size hg.4,fun g hl hd=>(hg.5 g (Nat.lt_of_lt_of_le hl h.kp.size) (fun e=>by have:=(hrow g e.symm).2.2; omega)).trans (h.kp.block g hl hd)⟩,h.ex⟩
theorem calls_hand {f : Nat} {fn : Func} {c : Code} {args : List AV} {xs : List Value} {R : Ending→World→Prop} (n : Nat) (hf : Try.prog.funcs[f]? = some fn) (hb : fn.body = some c) (hn : fn.ntmps = n) (ha : args.length ≤ n) (w : World) (S : Nat→Prop) (hS : ∀ g,S g→g < w.heap.size) (hreps : Reps w S args xs)
  (h : ∀ (a : Act),PS n w S (st0 0 args) S a w→c.wp Try.prog (bodyPost Try.prog fn R) a w) : Calls Try.prog f xs.toArray w R:=by
 refine calls_of_wp hf hb ?_
 rw [hn]
 refine h _ ⟨⟨?_,rfl,hS,gd_all _ _,fun t x ht=>?_⟩,gr_below hS (Below.refl _ _)⟩
 ·have:=hreps.1
  simp
  omega
 ·obtain ⟨h1,h2⟩:=st0_get args 0 t x ht
  simp only [Nat.sub_zero] at h2
  have hlt : t < args.length:=(List.getElem?_eq_some_iff.1 h2).1
  have hx : t < xs.length:=by rw [← hreps.1]; exact hlt
  refine ⟨by omega,?_⟩
  have hv : (xs.toArray ++ Array.replicate (n - xs.toArray.size) undef).getD t undef = xs[t]:=by
   rw [Array.getD_eq_getD_getElem?,Array.getElem?_append_left (by simpa using hx)]
   simp [hx]
  show SRep w S _ [] x ((xs.toArray ++ Array.replicate (n - xs.toArray.size) undef).getD t undef)
  rw [hv]
  exact srep_of_rep (hreps.2 t x _ h2 (List.getElem?_eq_getElem hx))
theorem infoEv : ∃ i z,Try.prog.info? 37 = some i∧i.zero = some z∧i.size = 26∧z.cells.size = 26∧(∀ v ∈ z.cells.toList,v.oneCell' = true)∧i.bytes ≤ 300:=by
 have h : (match Try.prog.info? 37 with | some i=>(match i.zero with | some z=>i.size == 26 && z.cells.size == 26 && z.cells.toList.all (fun v=>v.oneCell') && Nat.ble i.bytes 300 | none=>false) | none=>false) = true:=by kernel_rfl
 cases h1 : Try.prog.info? 37 with
 | none=>rw [h1] at h; cases h
 | some i =>
  rw [h1] at h
  cases h2 : i.zero with
  | none=>simp only [h2] at h; cases h
  | some z =>
   simp only [h2,Bool.and_eq_true,beq_iff_eq,List.all_eq_true,Nat.ble_eq] at h
   exact ⟨i,z,rfl,h2,h.1.1.1,h.1.1.2,h.1.2,h.2⟩
def evV (l : List Ev) : List Value:=(l.map fun e=>e.vs.toList).flatten
theorem evV_snoc (l : List Ev) (e : Ev) : evV (l ++ [e]) = evV l ++ e.vs.toList:=by simp [evV]
structure RowB (B : Nat) (S : Nat→Prop) (L : Lay) (gv : Value) (got : List Ev) (w : World) : Prop where
 own : w.ownsRow 0 37 26 gv got.length (evV got)
 new : ∀ g,gv.ownBlock = some g→B ≤ g∧¬ S g∧L.o g = none
 one : gv.oneCell' = true
theorem RowB.lt {B : Nat} {S : Nat→Prop} {L : Lay} {gv : Value} {got : List Ev} {w : World} (h : RowB B S L gv got w) : ∀ g,gv.ownBlock = some g→g < w.heap.size:=fun g hg=>by
 rcases h.own.2 with ⟨rfl,_⟩ | ⟨g',cap,cur,rfl,_,h3,_⟩
 ·simp [Value.ownBlock] at hg
 ·injection hg with hg
  subst hg
  exact (Array.getElem?_eq_some_iff.1 h3).1
theorem RowB.via {B n p : Nat} {w0 w : World} {L0 L : Lay} {sl : List (Nat × AV)} {S0 S : Nat→Prop} {σ : Sp} {mv : Value} {a : Act} {gv : Value} {got : List Ev} (h : RowB B S0 L0 gv got w0) (k : ASM (fun g=>gv.ownBlock = some g) n w0 L0 p sl S L σ mv a w) : RowB B S L gv got w :=
 ⟨ownsRow.keep h.own fun g hg=>k.mk' g hg,fun g hg=>⟨(h.new g hg).1,k.ns g hg,by
  cases ho : L.o g with
  | none=>rfl
  | some t =>
   rcases k.ex.new g (by rw [ho]; simp) with h1 | h1
   ·exact absurd (h.new g hg).2.2 h1
   ·have:=k.lt g hg; omega⟩,h.one⟩
theorem AS.asm {B n p : Nat} {w0 w : World} {L0 L : Lay} {sl : List (Nat × AV)} {S : Nat→Prop} {σ : Sp} {mv : Value} {a : Act} {gv : Value} {got : List Ev} (h : AS n w0 L0 p sl S L σ mv a w) (k : RowB B S L gv got w) : ASM (fun g=>gv.ownBlock = some g) n w L p sl S L σ mv a w:=⟨h.again,k.lt,fun _ _=>rfl,fun g hg=>(k.new g hg).2.1⟩
set_option maxHeartbeats 8000000 in
set_option maxRecDepth 100000 in
theorem seen_ok (l : List Ev) (hl : l.length ≤ 60) (back : Bool) (w : World) (S : Nat→Prop) (x : Value) (hS : ∀ g,S g→g < w.heap.size) (hx : Rep w S (.sl (evR l)) x) :
  Calls Try.prog 13 #[x,.bool back] w fun e w'=>∃ p L mv gv,e = .returned (.tuple #[.pointer (some ⟨p,0,none⟩),gv])∧SpAt w' L p (seenF l back).1 mv∧Below w.heap.size w w'∧(∀ g t,L.o g = some t→w.heap.size ≤ g)∧RowB w.heap.size S L gv (seenF l back).2 w':=by
 refine calls_hand (args:=[.sl (evR l),aB back]) (xs:=[x,.bool back]) 53 (fn:=Try.f13) Try.func13 rfl rfl (by simp) w S hS (Reps.cons hx (Reps.cons (.c (.v _ rfl)) (Reps.nil _ _))) fun a h=>?_
 obtain ⟨rows,hrows⟩ : ∃ rows,rows = evR l:=⟨_,rfl⟩
 rw [← hrows] at h
 refine wp_seq (h.pc (E:={ n:=53 }) [(1,aB back),(0,.sl rows)] rfl (fun F C D hF hC=>?_) fun S1 a1 w1 h1=>?_)
 ·clear hrows
  cbv
  exact ⟨100,(le_of [] (by simp [leSl,leOb,injK,memK,parK,noTup,lk,rn0,rnA,plain] <;> first | rfl | decide | (repeat (first | rfl | trivial | refine And.intro ?_ ?_))))⟩
 clear h
 refine wp_seq (wp_region_list ?_)
 refine callW [] rfl rfl (enterT Try.func8 (by kernel_rfl) rfl) (by simp) ?_
 refine (newW_ok w1).mono ?_
 rintro r w3 ⟨rfl,rfl⟩
 refine ⟨_,rfl,?_⟩
 have hgr:=h1.gr
 have hS1 : ∀ g,S g→S1 g:=hgr.sub
 have h3:=AS.fresh h1 (d:=10) (by decide)
 clear h1
 obtain ⟨p,hp⟩ : ∃ p,p = w1.heap.size:=⟨_,rfl⟩
 have hwp : w.heap.size ≤ p:=by rw [hp]; exact hgr.below.size
 have hdone:=fun (n : Nat) (sl : List (Nat × AV)) (S' : Nat→Prop) (L : Lay) (σ : Sp) (mv : Value) (a : Act) (w2 : World)=>AS.done (n:=n) (sl:=sl) (S':=S') (L:=L) (σ:=σ) (mv:=mv) (a:=a) (w2:=w2) hgr hS
 rw [← hp] at h3 hdone ⊢
 obtain ⟨wA,hwA⟩ : ∃ wA,wA = w1.alloc (.cells (spV (.map none) (fun _=>0) 0) 52):=⟨_,rfl⟩
 rw [← hwA] at h3 hdone ⊢
 obtain ⟨LP,hLP⟩ : ∃ LP,LP = layP p:=⟨_,rfl⟩
 rw [← hLP] at h3 hdone
 obtain ⟨n',hn'⟩ : ∃ n' : Int,n' = (l.length : Int):=⟨_,rfl⟩
 have hBA : p + 1 = wA.heap.size:=by rw [hwA,hp]; simp
 refine h3.pcl (E:={ n:=53 }) [(6,.v (.pointer (some ⟨p,0,none⟩))),(1,aB back),(0,.sl rows)] rfl (fun F C hF hC=>?_) fun S4 a4 w4 h4=>?_
 ·clear hrows
  cbv
  exact ⟨100,(le_of [] (by simp [leSl,leOb,injK,memK,parK,noTup,lk,rn0,rnA,plain] <;> first | rfl | decide | (repeat (first | rfl | trivial | refine And.intro ?_ ?_))))⟩
 clear h3
 show Code.wp Try.prog (Code.seq _ _) _ _ _
 refine wp_seq (h4.pc (E:={ n:=53 }) [(7,.v (.slice none 0 0)),(6,.v (.pointer (some ⟨p,0,none⟩))),(1,aB back),(0,.sl rows)] rfl (fun F C D hF hC=>?_) fun S5 a5 w5 h5=>?_)
 ·clear hrows
  cbv
  exact ⟨100,(le_of [] (by simp [leSl,leOb,injK,memK,parK,noTup,lk,rn0,rnA,plain] <;> first | rfl | decide | (repeat (first | rfl | trivial | refine And.intro ?_ ?_))))⟩
 clear h4
 show Code.wp Try.prog (Code.seq _ _) _ _ _
 refine wp_seq (wp_seq (h5.pc (E:={ n:=53 }) [(13,aI 0),(12,aI n'),(7,.v (.slice none 0 0)),(6,.v (.pointer (some ⟨p,0,none⟩))),(1,aB back),(0,.sl rows)] rfl (fun F C D hF hC=>?_) fun S6 a6 w6 h6=>?_))
 ·have tl : F .len rows = n':=by rw [lenF hF,hrows,evR_len,hn']
  clear hrows
  cbv
  rw [tl]
  exact ⟨100,(le_of [] (by simp [leSl,leOb,injK,memK,parK,noTup,lk,rn0,rnA,plain] <;> first | rfl | decide | (repeat (first | rfl | trivial | refine And.intro ?_ ?_))))⟩
 clear h5
 have hrow0 : RowB wA.heap.size S6 LP (.slice none 0 0) [] w6:=⟨⟨rfl,.inl ⟨rfl,rfl⟩⟩,fun g hg=>by simp [Value.ownBlock] at hg,rfl⟩
 refine wp_block (loop_by (fun k a w'=>k ≤ l.length∧∃ S L σ mv gv got k',k' = (k : Int)∧seenI' l back k = (σ,got)∧AS 53 wA LP p [(13,aI k'),(12,aI n'),(7,.v gv),(6,.v (.pointer (some ⟨p,0,none⟩))),(1,aB back),(0,.sl rows)] S L σ mv a w'∧RowB wA.heap.size S L gv got w') (fun k=>l.length - k) 0 ⟨Nat.zero_le _,S6,_,sp0,_,_,[],0,rfl,rfl,h6,hrow0⟩ fun k aa ww hI=>?_)
 clear h6 hrow0
 obtain ⟨hk,S,L,σ,mv,gv,got,k',ek,hsp,hs,hrow⟩:=hI
 by_cases hkl : k < l.length
 ·obtain ⟨k2,ek2⟩ : ∃ k2 : Int,k2 = ((k + 1 : Nat) : Int):=⟨_,rfl⟩
  have hm:=hs.asm hrow
  refine wp_seq (hm.pc (E:={ n:=53 }) [(14,aB true),(13,aI k'),(12,aI n'),(7,.v gv),(6,.v (.pointer (some ⟨p,0,none⟩))),(1,aB back),(0,.sl rows)] rfl (fun F C D hF hC=>?_) fun S1 a1 w1 h1=>?_)
  ·have tl : F .cmp .lss k' n' = true:=(ltF hF k l.length k' n' ek hn').2 hkl
   clear hrows
   cbv
   rw [tl]
   exact ⟨100,(le_of [] (by simp [leSl,leOb,injK,memK,parK,noTup,lk,rn0,rnA,plain] <;> first | rfl | decide | (repeat (first | rfl | trivial | refine And.intro ?_ ?_))))⟩
  clear hm
  refine wp_seq (wp_cond_true (h1.val (t:=14) rfl) (wp_skip ?_))
  refine wp_seq (wp_block (wp_seq (h1.pc (E:={ n:=53 }) [(17,aI 0),(16,aI n'),(13,aI k'),(12,aI n'),(7,.v gv),(6,.v (.pointer (some ⟨p,0,none⟩))),(1,aB back),(0,.sl rows)] rfl (fun F C D hF hC=>?_) fun S2 a2 w2 h2=>?_)))
  ·have tl : F .len rows = n':=by rw [lenF hF,hrows,evR_len,hn']
   clear hrows
   cbv
   rw [tl]
   exact ⟨100,(le_of [] (by simp [leSl,leOb,injK,memK,parK,noTup,lk,rn0,rnA,plain] <;> first | rfl | decide | (repeat (first | rfl | trivial | refine And.intro ?_ ?_))))⟩
  clear h1
  have hrow2:=hrow.via h2
  have h2:=hs.sub2 h2.ws
  clear hs hrow
  refine wp_mono (Q:=fun ex a' w'=>ex = .normal∧∃ S L σ mv gv got,seenI' l back (k + 1) = (σ,got)∧AS 53 wA LP p [(13,aI k'),(12,aI n'),(7,.v gv),(6,.v (.pointer (some ⟨p,0,none⟩))),(1,aB back),(0,.sl rows)] S L σ mv a' w'∧RowB wA.heap.size S L gv got w') ?_ fun ex a9 w9 hh=>?_
  rotate_left
  ·obtain ⟨rfl,S9,L9,σ9,mv9,gv9,got9,hsp9,h9,hrow9⟩:=hh
   have hm:=h9.asm hrow9
   refine hm.pc (E:={ n:=53 }) [(13,aI k2),(12,aI n'),(7,.v gv9),(6,.v (.pointer (some ⟨p,0,none⟩))),(1,aB back),(0,.sl rows)] rfl (fun F C D hF hC=>?_) fun S3 a3 w3 h3=>?_
   ·have tl:=(incF hF ek (by omega)).trans ek2.symm
    clear hrows
    cbv
    rw [tl]
    exact ⟨100,(le_of [] (by simp [leSl,leOb,injK,memK,parK,noTup,lk,rn0,rnA,plain] <;> first | rfl | decide | (repeat (first | rfl | trivial | refine And.intro ?_ ?_))))⟩
   exact ⟨k + 1,⟨hkl,S3,L9,σ9,mv9,gv9,got9,k2,ek2,hsp9,h9.sub2 h3.ws,hrow9.via h3⟩,by omega⟩
  refine wp_block (loop_by (fun b a w'=>b ≤ l.length∧∃ S L σ mv gv got b',b' = (b : Int)∧((ordL l back).take b).foldl seenS (seenI' l back k) = (σ,got)∧AS 53 wA LP p [(17,aI b'),(16,aI n'),(13,aI k'),(12,aI n'),(7,.v gv),(6,.v (.pointer (some ⟨p,0,none⟩))),(1,aB back),(0,.sl rows)] S L σ mv a w'∧RowB wA.heap.size S L gv got w') (fun b=>l.length - b) 0 ⟨Nat.zero_le _,S2,L,σ,mv,gv,got,0,rfl,hsp,h2,hrow2⟩ fun b aa ww hI=>?_)
  clear h2 hrow2 hsp
  obtain ⟨hb,S,L,σ,mv,gv,got,b',eb,hsp,hs,hrow⟩:=hI
  have hm:=hs.asm hrow
  by_cases hbl : b < l.length
  ·obtain ⟨j,hj⟩ : ∃ j,j = if back = true then l.length - 1 - b else b:=⟨_,rfl⟩
   have hjl : j < l.length:=by rw [hj]; split <;> omega
   obtain ⟨e,he⟩ : ∃ e,l[j]? = some e:=⟨_,List.getElem?_eq_getElem hjl⟩
   have hrw : rows[j]? = some e.ac:=by rw [hrows]; exact evR_get he
   obtain ⟨j',ej⟩ : ∃ j' : Int,j' = (j : Int):=⟨_,rfl⟩
   obtain ⟨b2,eb2⟩ : ∃ b2 : Int,b2 = ((b + 1 : Nat) : Int):=⟨_,rfl⟩
   have hel : e ∈ l:=List.mem_of_getElem? he
   have hnext:=take_foldS (seenI' l back k) (ordL_get hbl hj he)
   rw [hsp] at hnext
   have hinv : SeenI l (σ,got):=by
    rw [← hsp]
    exact foldS_inv _ _ (seenI_inv l back k) fun x hx=>ordL_mem (List.mem_of_mem_take hx)
   have hgl:=hinv.len
   refine wp_seq (hm.pc (E:={ n:=53 }) [(18,aB true),(17,aI b'),(16,aI n'),(13,aI k'),(12,aI n'),(7,.v gv),(6,.v (.pointer (some ⟨p,0,none⟩))),(1,aB back),(0,.sl rows)] rfl (fun F C D hF hC=>?_) fun S1 a1 w1 h1=>?_)
   ·have tl : F .cmp .lss b' n' = true:=(ltF hF b l.length b' n' eb hn').2 hbl
    clear hrows hrw
    cbv
    rw [tl]
    exact ⟨100,(le_of [] (by simp [leSl,leOb,injK,memK,parK,noTup,lk,rn0,rnA,plain] <;> first | rfl | decide | (repeat (first | rfl | trivial | refine And.intro ?_ ?_))))⟩
   refine wp_seq (wp_cond_true (h1.val (t:=18) rfl) (wp_skip ?_))
   refine wp_seq (wp_block (wp_seq (h1.pc (E:={ n:=53 }) [(8,aI b'),(17,aI b'),(16,aI n'),(13,aI k'),(12,aI n'),(7,.v gv),(6,.v (.pointer (some ⟨p,0,none⟩))),(1,aB back),(0,.sl rows)] rfl (fun F C D hF hC=>?_) fun S2 a2 w2 h2=>?_)))
   ·clear hrows hrw
    cbv
    exact ⟨100,(le_of [] (by simp [leSl,leOb,injK,memK,parK,noTup,lk,rn0,rnA,plain] <;> first | rfl | decide | (repeat (first | rfl | trivial | refine And.intro ?_ ?_))))⟩
   clear h1
   refine wp_seq (h2.pc (E:={ n:=53 }) [(9,aI b'),(8,aI b'),(17,aI b'),(16,aI n'),(13,aI k'),(12,aI n'),(7,.v gv),(6,.v (.pointer (some ⟨p,0,none⟩))),(1,aB back),(0,.sl rows)] rfl (fun F C D hF hC=>?_) fun S3 a3 w3 h3=>?_)
   ·clear hrows hrw
    cbv
    exact ⟨100,(le_of [] (by simp [leSl,leOb,injK,memK,parK,noTup,lk,rn0,rnA,plain] <;> first | rfl | decide | (repeat (first | rfl | trivial | refine And.intro ?_ ?_))))⟩
   clear h2
   refine wp_seq (h3.pc (E:={ n:=53 }) [(9,aI j'),(17,aI b'),(16,aI n'),(13,aI k'),(12,aI n'),(7,.v gv),(6,.v (.pointer (some ⟨p,0,none⟩))),(1,aB back),(0,.sl rows)] rfl (fun F C D hF hC=>?_) fun S4 a4 w4 h4=>?_)
   ·have tl : F .len rows = n':=by rw [lenF hF,hrows,evR_len,hn']
    cases back with
    | true =>
     obtain ⟨n1,hn1⟩ : ∃ n1 : Int,n1 = n' - 1:=⟨_,rfl⟩
     have t1 : F .ar .sub .i64 n' 1 = n1:=by rw [hF,hn1]; exact wrap_in (by omega) (by omega)
     have hj : j = l.length - 1 - b:=hj
     have t2 : F .ar .sub .i64 n1 b' = j':=by rw [hF,ej,hj]; refine (wrap_in (by omega) (by omega)).trans (by omega)
     clear hrows hrw
     cbv
     refine bT (rfl) ?_
     cbv
     rw [tl,t1,t2]
     exact ⟨100,(le_of [] (by simp [leSl,leOb,injK,memK,parK,noTup,lk,rn0,rnA,plain] <;> first | rfl | decide | (repeat (first | rfl | trivial | refine And.intro ?_ ?_))))⟩
    | false =>
     have hj : j = b:=hj
     have : b' = j':=by rw [eb,ej,hj]
     subst this
     clear hrows hrw
     cbv
     refine bF (rfl) ?_
     cbv
     exact ⟨100,(le_of [] (by simp [leSl,leOb,injK,memK,parK,noTup,lk,rn0,rnA,plain] <;> first | rfl | decide | (repeat (first | rfl | trivial | refine And.intro ?_ ?_))))⟩
   clear h3
   obtain ⟨r,hr⟩ : ∃ r : Bool,(r = true ↔ ReadyP σ.vv e):=⟨@decide (ReadyP σ.vv e) (Classical.propDecidable _),by simp⟩
   refine wp_seq (wp_region_list ?_)
   refine h4.pre (E:={ n:=53 }) 5 [(31,.agg e.ac),(27,.v (.pointer (some ⟨p,0,none⟩))),(9,aI j'),(17,aI b'),(16,aI n'),(13,aI k'),(12,aI n'),(7,.v gv),(6,.v (.pointer (some ⟨p,0,none⟩))),(1,aB back),(0,.sl rows)] rfl (fun F C hF hC=>?_) fun S5 a5 w5 h5=>?_
   ·clear hrows
    cbv
    refine ⟨j,_,ej,hrw,rfl,?_⟩
    cbv
    exact ⟨100,(le_of [] (by simp [leSl,leOb,injK,memK,parK,noTup,lk,rn0,rnA,plain] <;> first | rfl | decide | (repeat (first | rfl | trivial | refine And.intro ?_ ?_))))⟩
   clear h4
   have r31 : a5.eval (.tmp 31) = .agg e.vs:=rep_agg_v (xs:=e.vs.toList) (h5.hi.slots 31 _ rfl).2
   refine callW [.pointer (some ⟨p,0,none⟩),.agg e.vs] rfl rfl (enterT Try.func11 (by kernel_rfl) rfl) (by simp [h5.val (t:=27) rfl,r31]) ?_
   refine (readyW h5.sp hinv.g.vr e r hr).mono ?_
   rintro q w6 ⟨rfl,hb6⟩
   refine ⟨_,rfl,?_⟩
   have h6:=(h5.bw hb6).put (d:=32) (by decide) (aB r) (srep_of_rep (.c (.v _ rfl)))
   clear h5 r31
   by_cases hrd : ReadyP σ.vv e
   ·have hrt : r = true:=hr.2 hrd
    subst hrt
    refine h6.pre (E:={ n:=53 }) 6 [(38,.agg e.ac),(34,.v (.pointer (some ⟨p,0,none⟩))),(33,aB true),(9,aI j'),(17,aI b'),(16,aI n'),(13,aI k'),(12,aI n'),(7,.v gv),(6,.v (.pointer (some ⟨p,0,none⟩))),(1,aB back),(0,.sl rows)] rfl (fun F C hF hC=>?_) fun S7 a7 w7 h7=>?_
    ·clear hrows
     cbv
     repeat (first | (refine bT rfl ?_; cbv) | (refine cT rfl ?_; cbv))
     refine ⟨j,_,ej,hrw,rfl,?_⟩
     cbv
     repeat (first | (refine bT rfl ?_; cbv) | (refine cT rfl ?_; cbv))
     exact ⟨100,(le_of [] (by simp [leSl,leOb,injK,memK,parK,noTup,lk,rn0,rnA,plain] <;> first | rfl | decide | (repeat (first | rfl | trivial | refine And.intro ?_ ?_))))⟩
    clear h6
    have r38 : a7.eval (.tmp 38) = .agg e.vs:=rep_agg_v (xs:=e.vs.toList) (h7.hi.slots 38 _ rfl).2
    refine callWg [.pointer (some ⟨p,0,none⟩),.agg e.vs] (wantedW (d:=33) (b:=true) rfl rfl (by rw [h7.hi.size]; decide) (h7.val (t:=33) rfl)) rfl (enterT Try.func12 (by kernel_rfl) rfl) (by simp [h7.val (t:=34) rfl,r38]) ?_
    refine (apply_ok w7 _ p σ _ e h7.sp hrd hinv.g.vr (fun i en hen=>hinv.g.ents (by show got.length ≤ 1000; have : got.length ≤ l.length:=hgl; omega) hrd i en hen)).mono ?_
    rintro q w8 ⟨L8,mv8,i,rfl,hki,hsp8,hx8,hk8⟩
    refine ⟨_,rfl,?_⟩
    obtain ⟨happ,hinv2⟩:=hinv.app hel hrd hki
    have happ : (σ.at e.op.key).app i e = σ.appK e:=happ
    rw [happ] at hsp8
    have h8:=(h7.wr hsp8 hk8 hx8 (fun g hg=>hk8.block g (Nat.lt_of_lt_of_le (h7.lt g hg) h7.kp.size) (fun hd=>hd (hrow.new g hg).2.2))).put (d:=39) (by decide) (aI 0) (srep_of_rep (.c (.v _ rfl)))
    clear h7 r38
    refine h8.pcl (E:={ n:=53 }) [(41,aB true),(9,aI j'),(17,aI b'),(16,aI n'),(13,aI k'),(12,aI n'),(7,.v gv),(6,.v (.pointer (some ⟨p,0,none⟩))),(1,aB back),(0,.sl rows)] rfl (fun F C hF hC=>?_) fun S9 a9 w9 h9=>?_
    ·have t1 : F .cmp .eql 0 0 = true:=eqF hF _ _
     clear hrows hrw
     cbv
     repeat (first | (refine bT rfl ?_; cbv) | (refine cT rfl ?_; cbv))
     rw [t1]
     repeat (first | (refine bT rfl ?_; cbv) | (refine cT rfl ?_; cbv))
     exact ⟨100,(le_of [] (by simp [leSl,leOb,injK,memK,parK,noTup,lk,rn0,rnA,plain] <;> first | rfl | decide | (repeat (first | rfl | trivial | refine And.intro ?_ ?_))))⟩
    clear h8
    refine wp_cond_true (h9.val (t:=41) rfl) (wp_region_list ?_)
    refine h9.pre (E:={ n:=53 }) 6 [(47,.sl [e.ac]),(42,.v gv),(17,aI b'),(16,aI n'),(13,aI k'),(12,aI n'),(7,.v gv),(6,.v (.pointer (some ⟨p,0,none⟩))),(1,aB back),(0,.sl rows)] rfl (fun F C hF hC=>?_) fun S10 a10 w10 h10=>?_
    ·clear hrows
     cbv
     refine ⟨j,_,ej,hrw,rfl,?_⟩
     cbv
     exact ⟨100,(le_of [] (by simp [leSl,leOb,injK,memK,parK,noTup,lk,rn0,rnA,plain] <;> first | rfl | decide | (repeat (first | rfl | trivial | refine And.intro ?_ ?_))))⟩
    clear h9
    have hrow10:=hrow.via h10
    have hA10:=hs.sub2 h10.ws
    obtain ⟨v47,hv47⟩ : ∃ v,a10.eval (.tmp 47) = v:=⟨_,rfl⟩
    have hs47:=(h10.hi.slots 47 (.sl [e.ac]) rfl).2
    rw [← evT,hv47] at hs47
    clear hs hrow hm h10
    obtain ⟨i0,z,hi0,hz,hsz,hzs,hz1,hby⟩:=infoEv
    rcases src_ok (obs:=[]) (B:=0) (esz:=26) (fun k o h=>by simp [lk] at h) (y:=.sl [e.ac]) rfl hs47 (fun r hr=>by rw [List.mem_singleton.1 hr]; rfl) (by decide) with ⟨_,hrn⟩ | ⟨ad,cc,news,hxv,hnr,hnc⟩
    ·cases hrn
    have hnews : news = e.vs.toList:=by
     have h1 : ([e.ac] : List (List AV)).flatten = (e.vs.toList).map AV.v:=by simp; rfl
     rw [h1] at hnr
     exact repl_v _ _ hnr
    subst hnews
    obtain ⟨gv2,w11,hrun,q1,q2,q3⟩:=run_append_at (P:=Try.prog) w10 22 22 37 i0 z 26 i0.bytes Try.underlying22 hi0 hz hsz rfl hzs (by decide) gv got.length (evV got) (OwnR.of hrow10.own) ad 1 cc e.vs.toList rfl hnc (xvone e) (by have : got.length ≤ l.length:=hgl; unfold maxLen; omega) (by have h1 : got.length ≤ l.length:=hgl; have:=Nat.mul_le_mul (show got.length + 1 ≤ 100 by omega) hby; omega)
    have hxv : v47 = .slice (some ad) 1 cc:=hxv
    rw [hxv] at hv47
    refine list1 (W':=w11) gv2 rfl (by simp [execOp,resolve,invoke,builtin,hA10.val (t:=42) rfl,hv47,hrun]) ?_
    have hA11:=(hA10.grown q2 (fun r hr=>⟨(hrow10.new r hr).2.1,(hrow10.new r hr).2.2,(hrow10.new r hr).1⟩))
    have hone2 : gv2.oneCell' = true:=by
     rcases q1.2 with ⟨h1,_⟩ | ⟨g,cap,cur,fr,h1,_⟩ <;> rw [h1] <;> rfl
    have hrow11 : RowB wA.heap.size S10 L8 gv2 (got ++ [e]) w11:=by
     refine ⟨?_,fun g hg=>?_,hone2⟩
     ·have:=OwnR.owns (by decide) q1
      rw [evV_snoc,List.length_append]
      exact this
     ·rcases q3 with q3 | q3
      ·exact hrow10.new g (q3 ▸ hg)
      ·rw [q3] at hg
       injection hg with hg
       subst hg
       refine ⟨hA10.kp.size,fun hs=>by have:=hA10.hi.lt _ hs; omega,?_⟩
       cases ho : L8.o w10.heap.size with
       | none=>rfl
       | some t=>have:=hA10.sp.dom _ t ho; omega
    have hA12:=hA11.put (d:=48) (by decide) (.v gv2) (srep_of_rep (.c (.v _ hone2)))
    have e48 : (a10.put (some 48) gv2).eval (.tmp 48) = gv2:=hA12.val (t:=48) rfl
    refine list1 gv2 rfl (q_asg rfl e48) ?_
    have hA13:=(((hA12.dr rfl).put (d:=7) (by decide) (.v gv2) (srep_of_rep (.c (.v _ hone2))))).sub (sl':=[(17,aI b'),(16,aI n'),(13,aI k'),(12,aI n'),(7,.v gv2),(6,.v (.pointer (some ⟨p,0,none⟩))),(1,aB back),(0,.sl rows)]) (fun t x ht=>by
     simp only [lk] at ht ⊢
     repeat (first | (split at ht; · (rename_i e1; subst e1; injection ht with ht; subst ht; simp)) | (exact absurd ht (by simp))))
    have hm13:=hA13.asm hrow11
    refine hm13.pc (E:={ n:=53 }) [(17,aI b2),(16,aI n'),(13,aI k'),(12,aI n'),(7,.v gv2),(6,.v (.pointer (some ⟨p,0,none⟩))),(1,aB back),(0,.sl rows)] rfl (fun F C D hF hC=>?_) fun S14 a14 w14 h14=>?_
    ·have tl:=(incF hF eb (by omega)).trans eb2.symm
     clear hrows hrw
     cbv
     rw [tl]
     exact ⟨100,(le_of [] (by simp [leSl,leOb,injK,memK,parK,noTup,lk,rn0,rnA,plain] <;> first | rfl | decide | (repeat (first | rfl | trivial | refine And.intro ?_ ?_))))⟩
    exact ⟨b + 1,⟨hbl,S14,L8,_,mv8,gv2,_,b2,eb2,hnext.trans (by unfold seenS; rw [if_pos hrd]),hA13.sub2 h14.ws,hrow11.via h14⟩,by omega⟩
   ·have hrf : r = false:=by
     cases r with
     | false=>rfl
     | true=>exact absurd (hr.1 rfl) hrd
    subst hrf
    refine h6.pcl (E:={ n:=53 }) [(41,aB false),(17,aI b'),(16,aI n'),(13,aI k'),(12,aI n'),(7,.v gv),(6,.v (.pointer (some ⟨p,0,none⟩))),(1,aB back),(0,.sl rows)] rfl (fun F C hF hC=>?_) fun S9 a9 w9 h9=>?_
    ·clear hrows hrw
     cbv
     repeat (first | (refine bF rfl ?_; cbv) | (refine cF rfl ?_; cbv))
     exact ⟨100,(le_of [] (by simp [leSl,leOb,injK,memK,parK,noTup,lk,rn0,rnA,plain] <;> first | rfl | decide | (repeat (first | rfl | trivial | refine And.intro ?_ ?_))))⟩
    clear h6
    refine wp_cond_false (h9.val (t:=41) rfl) (wp_skip ?_)
    refine h9.pc (E:={ n:=53 }) [(17,aI b2),(16,aI n'),(13,aI k'),(12,aI n'),(7,.v gv),(6,.v (.pointer (some ⟨p,0,none⟩))),(1,aB back),(0,.sl rows)] rfl (fun F C D hF hC=>?_) fun S14 a14 w14 h14=>?_
    ·have tl:=(incF hF eb (by omega)).trans eb2.symm
     clear hrows hrw
     cbv
     rw [tl]
     exact ⟨100,(le_of [] (by simp [leSl,leOb,injK,memK,parK,noTup,lk,rn0,rnA,plain] <;> first | rfl | decide | (repeat (first | rfl | trivial | refine And.intro ?_ ?_))))⟩
    exact ⟨b + 1,⟨hbl,S14,L,σ,mv,gv,got,b2,eb2,hnext.trans (by unfold seenS; rw [if_neg hrd]),hs.sub2 h14.ws,hrow.via h14⟩,by omega⟩
  ·have hbe : b = l.length:=by omega
   refine wp_seq (hm.pc (E:={ n:=53 }) [(18,aB false),(13,aI k'),(12,aI n'),(7,.v gv),(6,.v (.pointer (some ⟨p,0,none⟩))),(1,aB back),(0,.sl rows)] rfl (fun F C D hF hC=>?_) fun S1 a1 w1 h1=>?_)
   ·have tl : F .cmp .lss b' n' = false:=by rw [Bool.eq_false_iff]; exact fun hh=>hbl ((ltF hF b l.length b' n' eb hn').1 hh)
    clear hrows
    cbv
    rw [tl]
    exact ⟨100,(le_of [] (by simp [leSl,leOb,injK,memK,parK,noTup,lk,rn0,rnA,plain] <;> first | rfl | decide | (repeat (first | rfl | trivial | refine And.intro ?_ ?_))))⟩
   refine wp_seq (wp_cond_false (h1.val (t:=18) rfl) (wp_exit ?_))
   refine ⟨rfl,S1,L,σ,mv,gv,got,?_,(hs.sub2 h1.ws).dr rfl,hrow.via h1⟩
   rw [seen_succ,← hsp,hbe,← ordL_len l back,List.take_length]
 ·have hke : k = l.length:=by omega
  have hm:=hs.asm hrow
  refine wp_seq (hm.pc (E:={ n:=53 }) [(14,aB false),(7,.v gv),(6,.v (.pointer (some ⟨p,0,none⟩)))] rfl (fun F C D hF hC=>?_) fun S1 a1 w1 h1=>?_)
  ·have tl : F .cmp .lss k' n' = false:=by rw [Bool.eq_false_iff]; exact fun hh=>hkl ((ltF hF k l.length k' n' ek hn').1 hh)
   clear hrows
   cbv
   rw [tl]
   exact ⟨100,(le_of [] (by simp [leSl,leOb,injK,memK,parK,noTup,lk,rn0,rnA,plain] <;> first | rfl | decide | (repeat (first | rfl | trivial | refine And.intro ?_ ?_))))⟩
  refine wp_seq (wp_cond_false (h1.val (t:=14) rfl) (wp_exit ?_))
  show Code.wp Try.prog (Code.seq _ _) _ _ _
  refine wp_seq (h1.pc (E:={ n:=53 }) [(5,.v gv),(4,.v (.pointer (some ⟨p,0,none⟩)))] rfl (fun F C D hF hC=>?_) fun S2 a2 w2 h2=>?_)
  ·clear hrows
   cbv
   exact ⟨100,(le_of [] (by simp [leSl,leOb,injK,memK,parK,noTup,lk,rn0,rnA,plain] <;> first | rfl | decide | (repeat (first | rfl | trivial | refine And.intro ?_ ?_))))⟩
  have hA2:=hs.sub2 h2.ws
  have hrow2:=hrow.via h2
  have hseen : seenF l back = (σ,got):=by unfold seenF; rw [← hke]; exact hsp
  have hbw:=hdone
  have hz : w.heap.size ≤ wA.heap.size:=by omega
  subst hwA
  subst hLP
  have hb:=hbw _ _ _ _ _ _ _ _ hA2
  refine wp_ret (bodyPost_ret (results_tmp2 rfl _ _ _) hA2.hi.defers ⟨p,L,mv,gv,?_,?_,hb,fun g t ho=>?_,?_⟩)
  ·rw [show a2.tmps.getD 4 undef = .pointer (some ⟨p,0,none⟩) from hA2.val (t:=4) rfl,show a2.tmps.getD 5 undef = gv from hA2.val (t:=5) rfl]
  ·rw [hseen]; exact hA2.sp
  ·rcases hA2.ex.new g (by rw [ho]; simp) with h1 | h1
   ·have h1 : (if g = p then some Tag.sp else none) ≠ none:=h1
    by_cases hgp : g = p
    ·omega
    ·rw [if_neg hgp] at h1; exact absurd rfl h1
   ·omega
  ·rw [hseen]
   exact ⟨hrow2.own,fun g hg=>⟨by have:=(hrow2.new g hg).1; omega,fun hs=>by have:=hS g hs; have:=(hrow2.new g hg).1; omega,(hrow2.new g hg).2.2⟩,hrow2.one⟩
end Go.Proofs.Ytdnaadcbimbfmaa
namespace Go.Proofs.Ytdnaadcbimbfmaa
open Go Go.RowKit Am
structure B2 (n : Nat) (w0 : World) (sl : List (Nat × AV)) (S : Nat→Prop) (L1 : Lay) (p1 : Nat) (σ1 : Sp) (mv1 : Value) (L2 : Lay) (p2 : Nat) (σ2 : Sp) (mv2 : Value) (bo : Nat→Option Obj) (a : Act) (w : World) : Prop where
 hi : HI n sl S a w
 s1 : SpAt w L1 p1 σ1 mv1
 s2 : SpAt w L2 p2 σ2 mv2
 dj : ∀ g,L1.o g ≠ none→L2.o g = none
 a1 : ∀ g,S g→L1.o g = none
 a2 : ∀ g,S g→L2.o g = none
 l1 : ∀ g,L1.o g ≠ none→w0.heap.size ≤ g
 l2 : ∀ g,L2.o g ≠ none→w0.heap.size ≤ g
 bw : Below w0.heap.size w0 w
 bo' : ∀ g o,bo g = some o→w.heap[g]? = some o∧¬ S g∧L1.o g = none∧L2.o g = none∧w0.heap.size ≤ g
section
variable {n p1 p2 : Nat} {w0 w w' : World} {L1 L1' L2 L2' : Lay} {sl sl' : List (Nat × AV)} {S S' : Nat→Prop} {σ1 σ1' σ2 σ2' : Sp} {mv1 mv1' mv2 mv2' : Value} {bo : Nat→Option Obj} {a a' : Act}
theorem B2.symm (h : B2 n w0 sl S L1 p1 σ1 mv1 L2 p2 σ2 mv2 bo a w) : B2 n w0 sl S L2 p2 σ2 mv2 L1 p1 σ1 mv1 bo a w :=
 ⟨h.hi,h.s2,h.s1,fun g hg=>by
  cases ho : L1.o g with
  | none=>rfl
  | some t=>exact absurd (h.dj g (by rw [ho]; simp)) hg,h.a2,h.a1,h.l2,h.l1,h.bw,fun g o hg=>by
  obtain ⟨q1,q2,q3,q4,q5⟩:=h.bo' g o hg
  exact ⟨q1,q2,q4,q3,q5⟩⟩
theorem B2.gr (h : B2 n w0 sl S L1 p1 σ1 mv1 L2 p2 σ2 mv2 bo a w) (h' : HI n sl' S' a' w') (hg : Gr w S w' S') : B2 n w0 sl' S' L1 p1 σ1 mv1 L2 p2 σ2 mv2 bo a' w' :=
 ⟨h',h.s1.below hg.below,h.s2.below hg.below,h.dj,fun g hs=>by
  rcases hg.new g hs with h1 | h1
  ·exact h.a1 g h1
  ·cases ho : L1.o g with
   | none=>rfl
   | some t=>have:=h.s1.dom g t ho; omega,fun g hs=>by
  rcases hg.new g hs with h1 | h1
  ·exact h.a2 g h1
  ·cases ho : L2.o g with
   | none=>rfl
   | some t=>have:=h.s2.dom g t ho; omega,h.l1,h.l2,h.bw.trans (hg.below.mono h.bw.size),fun g o hb=>by
  obtain ⟨q1,q2,q3,q4,q5⟩:=h.bo' g o hb
  have hlt:=(Array.getElem?_eq_some_iff.1 q1).1
  exact ⟨(hg.below.block g hlt).trans q1,fun hs=>(hg.new g hs).elim q2 fun h1=>by omega,q3,q4,q5⟩⟩
theorem B2.wr (h : B2 n w0 sl S L1 p1 σ1 mv1 L2 p2 σ2 mv2 bo a w) (hs : SpAt w' L1' p1 σ1' mv1') (hk : Kp L1.dom w w') (hx : Ext L1 L1' w.heap.size) : B2 n w0 sl S L1' p1 σ1' mv1' L2 p2 σ2 mv2 bo a w':=by
 have hnew : ∀ g,g < w.heap.size→L1.o g = none→L1'.o g = none:=fun g hg hn=>by
  cases ho : L1'.o g with
  | none=>rfl
  | some t =>
   rcases hx.new g (by rw [ho]; simp) with h1 | h1
   ·exact absurd hn h1
   ·omega
 have hout : ∀ g,g < w.heap.size→L1.o g = none→w'.heap[g]? = w.heap[g]?:=fun g hg hn=>hk.block g hg (fun hd=>hd hn)
 have hz:=h.bw.size
 have l1n : ∀ g,g < w0.heap.size→L1.o g = none:=fun g hg=>by
  cases ho : L1.o g with
  | none=>rfl
  | some t=>have:=h.l1 g (by rw [ho]; simp); omega
 have d21 : ∀ g,L2.o g ≠ none→L1.o g = none:=fun g hg=>by
  cases ho : L1.o g with
  | none=>rfl
  | some t=>exact absurd (h.dj g (by rw [ho]; simp)) hg
 refine ⟨h.hi.out (fun g hg=>hout g (h.hi.lt g hg) (h.a1 g hg)) hk.size,hs,h.s2.keep (fun g t hg=>hout g (h.s2.dom g t hg) (d21 g (by rw [hg]; simp))) hk.size,fun g hg=>?_,fun g hg=>hnew g (h.hi.lt g hg) (h.a1 g hg),h.a2,fun g hg=>?_,h.l2,⟨hk.os.trans h.bw.os,hk.tape.trans h.bw.tape,hk.output.trans h.bw.output,Nat.le_trans hz hk.size,fun g hg=>(hout g (by omega) (l1n g hg)).trans (h.bw.block g hg)⟩,fun g o hb=>?_⟩
 ·rcases hx.new g hg with h1 | h1
  ·exact h.dj g h1
  ·cases ho : L2.o g with
   | none=>rfl
   | some t=>have:=h.s2.dom g t ho; omega
 ·rcases hx.new g hg with h1 | h1
  ·exact h.l1 g h1
  ·omega
 ·obtain ⟨q1,q2,q3,q4,q5⟩:=h.bo' g o hb
  have hlt:=(Array.getElem?_eq_some_iff.1 q1).1
  exact ⟨(hout g hlt q3).trans q1,q2,hnew g hlt q3,q4,q5⟩
theorem B2.bw2 (h : B2 n w0 sl S L1 p1 σ1 mv1 L2 p2 σ2 mv2 bo a w) (hb : Below w.heap.size w w') : B2 n w0 sl S L1 p1 σ1 mv1 L2 p2 σ2 mv2 bo a w':=h.wr (h.s1.below hb) (Kp.of hb) (Ext.refl _ _)
theorem B2.put (h : B2 n w0 sl S L1 p1 σ1 mv1 L2 p2 σ2 mv2 bo a w) {d : Nat} (hd : d < n) (x : AV) {v : Value} (hv : SRep w S (fun _=>.bool true) [] x v) : B2 n w0 ((d,x) :: sl) S L1 p1 σ1 mv1 L2 p2 σ2 mv2 bo (a.put (some d) v) w:=⟨h.hi.put hd x hv,h.s1,h.s2,h.dj,h.a1,h.a2,h.l1,h.l2,h.bw,h.bo'⟩
theorem B2.sub (h : B2 n w0 sl S L1 p1 σ1 mv1 L2 p2 σ2 mv2 bo a w) (hs : ∀ t x,lk t sl' = some x→lk t sl = some x) : B2 n w0 sl' S L1 p1 σ1 mv1 L2 p2 σ2 mv2 bo a w:=⟨h.hi.sub hs,h.s1,h.s2,h.dj,h.a1,h.a2,h.l1,h.l2,h.bw,h.bo'⟩
theorem B2.val (h : B2 n w0 sl S L1 p1 σ1 mv1 L2 p2 σ2 mv2 bo a w) {t : Nat} {v : Value} (ht : lk t sl = some (.v v)) : a.eval (.tmp t) = v:=srep_v (h.hi.slots t _ ht).2
theorem B2.dr {k : Nat} {v : AV} (h : B2 n w0 ((k,v) :: sl) S L1 p1 σ1 mv1 L2 p2 σ2 mv2 bo a w) (hk : (sl.all fun q=>q.1 != k) = true) : B2 n w0 sl S L1 p1 σ1 mv1 L2 p2 σ2 mv2 bo a w :=
 h.sub fun t x ht=>by
  have h1:=List.all_eq_true.1 hk (t,x) (lk_mem ht)
  have h1 : ¬ k = t:=fun e=>by simp [e] at h1
  simp only [lk]
  rw [if_neg h1]
  exact ht
theorem B2.pc {E : En} {c : Code} {R : Exit→Act→World→Prop} (sl' : List (Nat × AV)) (h : B2 E.n w0 sl S L1 p1 σ1 mv1 L2 p2 σ2 mv2 bo a w) (hsl : (sl'.all fun q=>fzA q.2) = true)
  (hw : ∀ (F : Sy) (C : Key→List AV→Res→Prop) (D : Code→(AE→St→Prop)→St→Prop),F = sy→(∀ k ar r,CSem Try.prog k ar r→C k ar r)→awp F C D E c (fun e s=>match e with | .normal=>∃ ct,Le s { slots:=sl',obs:=[],ctr:=ct } | _=>False) { slots:=sl,obs:=[],ctr:=0 })
  (k : ∀ S' a' w',B2 E.n w0 sl' S' L1 p1 σ1 mv1 L2 p2 σ2 mv2 bo a' w'→R .normal a' w') : c.wp Try.prog R a w :=
 Ytdnaadcbimbfmaa.pc sl' h.hi (fun q hq=>List.all_eq_true.1 hsl q hq) hw fun S' a' w' h1 h2=>k S' a' w' (h.gr h1 h2)
theorem B2.pcl {E : En} {ops : Array Oper} {rest : List Oper} {R : Exit→Act→World→Prop} (sl' : List (Nat × AV)) (h : B2 E.n w0 sl S L1 p1 σ1 mv1 L2 p2 σ2 mv2 bo a w) (hsl : (sl'.all fun q=>fzA q.2) = true)
  (hw : ∀ (F : Sy) (C : Key→List AV→Res→Prop),F = sy→(∀ k ar r,CSem Try.prog k ar r→C k ar r)→aops F C E ops.toList rest (fun s=>∃ ct,Le s { slots:=sl',obs:=[],ctr:=ct }) { slots:=sl,obs:=[],ctr:=0 })
  (k : ∀ S' a' w',B2 E.n w0 sl' S' L1 p1 σ1 mv1 L2 p2 σ2 mv2 bo a' w'→R .normal a' w') : wpList Try.prog ops R rest a w :=
 Ytdnaadcbimbfmaa.pcl sl' h.hi (fun q hq=>List.all_eq_true.1 hsl q hq) hw fun S' a' w' h1 h2=>k S' a' w' (h.gr h1 h2)
theorem B2.pre {E : En} {ops : Array Oper} {l : List Oper} {R : Exit→Act→World→Prop} (m : Nat) (sl' : List (Nat × AV)) (h : B2 E.n w0 sl S L1 p1 σ1 mv1 L2 p2 σ2 mv2 bo a w) (hsl : (sl'.all fun q=>fzA q.2) = true)
  (hw : ∀ (F : Sy) (C : Key→List AV→Res→Prop),F = sy→(∀ k ar r,CSem Try.prog k ar r→C k ar r)→aops F C E ops.toList (l.take m) (fun s=>∃ ct,Le s { slots:=sl',obs:=[],ctr:=ct }) { slots:=sl,obs:=[],ctr:=0 })
  (k : ∀ S' a' w',B2 E.n w0 sl' S' L1 p1 σ1 mv1 L2 p2 σ2 mv2 bo a' w'→wpList Try.prog ops R (l.drop m) a' w') : wpList Try.prog ops R l a w :=
 wpList_pre m (h.pcl sl' hsl hw fun S' a' w' h'=>k S' a' w' h')
theorem B2.reg (h : B2 n w0 sl S L1 p1 σ1 mv1 L2 p2 σ2 mv2 bo a w) (hz : a'.tmps.size = n) (hd : a'.defers = a.defers) (sh : List (Option Nat × Op)) (hsl : (sl.all fun s=>sh.all fun q=>q.1 != some s.1) = true) (ho : ∀ t,(∀ (j : Nat) (op : Op),sh[j]? ≠ some (some t,op))→a'.eval (.tmp t) = a.eval (.tmp t)) : B2 n w0 sl S L1 p1 σ1 mv1 L2 p2 σ2 mv2 bo a' w :=
 ⟨(PS.reg (w0:=w) (S0:=S) ⟨h.hi,gr_below h.hi.lt (Below.refl _ _)⟩ hz hd sh hsl ho).hi,h.s1,h.s2,h.dj,h.a1,h.a2,h.l1,h.l2,h.bw,h.bo'⟩
theorem B2.new (h : B2 n w0 sl S L1 p1 σ1 mv1 L2 p2 σ2 mv2 bo a w) (o : Obj) (hb : Below w.heap.size w w') (ho : w'.heap[w.heap.size]? = some o) : B2 n w0 sl S L1 p1 σ1 mv1 L2 p2 σ2 mv2 (fun g=>if g = w.heap.size then some o else bo g) a w':=by
 have h':=h.bw2 hb
 refine ⟨h'.hi,h'.s1,h'.s2,h'.dj,h'.a1,h'.a2,h'.l1,h'.l2,h'.bw,fun g o' hg=>?_⟩
 have hg : (if g = w.heap.size then some o else bo g) = some o':=hg
 by_cases e : g = w.heap.size
 ·rw [if_pos e] at hg
  injection hg with hg
  subst hg; subst e
  refine ⟨ho,fun hs=>by have:=h.hi.lt _ hs; omega,?_,?_,h.bw.size⟩
  ·cases hl : L1.o w.heap.size with
   | none=>rfl
   | some t=>have:=h.s1.dom _ t hl; omega
  ·cases hl : L2.o w.heap.size with
   | none=>rfl
   | some t=>have:=h.s2.dom _ t hl; omega
 ·rw [if_neg e] at hg
  exact h'.bo' g o' hg
theorem B2.set {b : Nat} (h : B2 n w0 sl S L1 p1 σ1 mv1 L2 p2 σ2 mv2 bo a w) {o1 : Obj} (hb1 : bo b = some o1) (o : Obj) (hos : w'.os = w.os) (ht : w'.tape = w.tape) (hu : w'.output = w.output) (hz : w.heap.size ≤ w'.heap.size) (hold : ∀ g,g < w.heap.size→g ≠ b→w'.heap[g]? = w.heap[g]?) (ho : w'.heap[b]? = some o) : B2 n w0 sl S L1 p1 σ1 mv1 L2 p2 σ2 mv2 (fun g=>if g = b then some o else bo g) a w':=by
 obtain ⟨q1,q2,q3,q4,q5⟩:=h.bo' b o1 hb1
 refine ⟨h.hi.out (fun g hg=>hold g (h.hi.lt g hg) fun e=>q2 (e ▸ hg)) hz,h.s1.keep (fun g t hg=>hold g (h.s1.dom g t hg) fun e=>by rw [e,q3] at hg; cases hg) hz,h.s2.keep (fun g t hg=>hold g (h.s2.dom g t hg) fun e=>by rw [e,q4] at hg; cases hg) hz,h.dj,h.a1,h.a2,h.l1,h.l2,⟨hos.trans h.bw.os,ht.trans h.bw.tape,hu.trans h.bw.output,Nat.le_trans h.bw.size hz,fun g hg=>(hold g (Nat.lt_of_lt_of_le hg h.bw.size) (by omega)).trans (h.bw.block g hg)⟩,fun g o' hg=>?_⟩
 have hg : (if g = b then some o else bo g) = some o':=hg
 by_cases e : g = b
 ·rw [if_pos e] at hg
  injection hg with hg
  subst hg; subst e
  exact ⟨ho,q2,q3,q4,q5⟩
 ·rw [if_neg e] at hg
  obtain ⟨r1,r2,r3,r4,r5⟩:=h.bo' g o' hg
  exact ⟨(hold g (Array.getElem?_eq_some_iff.1 r1).1 e).trans r1,r2,r3,r4,r5⟩
end
end Go.Proofs.Ytdnaadcbimbfmaa
namespace Go.Proofs.Ytdnaadcbimbfmaa
open Go Go.RowKit Am
theorem vvs_set (u : VV) (x : Int) : ∀ (i : Nat),i < 16→(vvs u).setIfInBounds i (vI x) = vvs (vset u i x)
 | 0,_=>rfl
 | 1,_=>rfl
 | 2,_=>rfl
 | 3,_=>rfl
 | 4,_=>rfl
 | 5,_=>rfl
 | 6,_=>rfl
 | 7,_=>rfl
 | 8,_=>rfl
 | 9,_=>rfl
 | 10,_=>rfl
 | 11,_=>rfl
 | 12,_=>rfl
 | 13,_=>rfl
 | 14,_=>rfl
 | 15,_=>rfl
 | n+16,h=>absurd h (by omega)
theorem vvs_at (u : VV) (i : Nat) (h : i < 16) : (vvs u)[i]? = some (vI (u ⟨i,h⟩)):=by
 have:=vvs_get u i h
 rwa [Nat.mul_one] at this
section
variable {a : Act} {w : World} {o : Oper}
theorem q_ixa {x i m : Nat} {ad : Addr} (hm : m < 16) (h : o.op = .indexAddr 29 (.tmp x) (.tmp i)) (ex : a.eval (.tmp x) = .pointer (some ad)) (ei : a.eval (.tmp i) = .int .i64 (m : Int)) : (execOp a.eval o).run Try.prog w = .ok (.value (.pointer (some (ad.add (m * 1))))) w:=by
 obtain ⟨e,hu,hz⟩:=(gam_ok 29 _ rfl).kind
 have:=run_indexAt_arr (P:=Try.prog) (k:=.i64) (j:=(m : Int)) hu (hz w) (by omega) (by omega) ad
 rw [Int.toNat_natCast] at this
 simp [execOp,h,ex,ei,this]
theorem q_idx {x i m : Nat} {v : VV} (hm : m < 16) (h : o.op = .index 29 (.tmp x) (.tmp i)) (ex : a.eval (.tmp x) = .agg (vvs v)) (ei : a.eval (.tmp i) = .int .i64 (m : Int)) : (execOp a.eval o).run Try.prog w = .ok (.value (vI (v ⟨m,hm⟩))) w:=by
 simp [execOp,h,ex,ei,idxVV v w m hm]
end
def boShape : List (Option Nat × Op):=[(some 45,.move (.tmp 11)),(some 46,.move (.tmp 11)),(some 47,.indexAddr 29 (.tmp 10) (.tmp 46)),(some 48,.load 3 (.tmp 47)),(some 49,.move (.tmp 5)),(some 50,.call { callee:=.value (.func 10),args:=#[.tmp 49],argTypes:=#[25] }),(some 51,.move (.tmp 11)),(some 52,.index 29 (.tmp 50) (.tmp 51)),(some 53,.call { callee:=.builtin .max,args:=#[.tmp 48,.tmp 52],argTypes:=#[3,3] }),(some 54,.indexAddr 29 (.tmp 10) (.tmp 45)),(none,.store 3 (.tmp 54) (.tmp 53))]
def boNeed : Nat→List Nat
 | 2=>[1] | 3=>[2] | 5=>[4] | 7=>[5,6] | 8=>[3,7] | 9=>[0] | 10=>[9,8,5] | _=>[]
def boVal (p b m : Nat) (x y : Int) (q : Nat) : Option Value :=
 match q with
 | 0=>some (.int .i64 (m : Int)) | 1=>some (.int .i64 (m : Int)) | 2=>some (.pointer (some ((⟨b,0,none⟩ : Addr).add (m * 1)))) | 3=>some (vI x) | 4=>some (.pointer (some ⟨p,0,none⟩)) | 6=>some (.int .i64 (m : Int)) | 7=>some (vI y) | 8=>some (vI (max x y)) | 9=>some (.pointer (some ((⟨b,0,none⟩ : Addr).add (m * 1)))) | _=>none
def boT (b : Nat) (v u' : VV) (W : World) (k : Nat) (f : Nat→Value) (w : World) : Prop :=
 match k with
 | 0=>w = W
 | 1=>f 50 = .agg (vvs v)∧Below W.heap.size W w
 | _=>f 50 = .agg (vvs v)∧∃ w1,Below W.heap.size W w1∧w = w1.setRow b (vvs u')
set_option maxHeartbeats 4000000 in
set_option maxRecDepth 100000 in
theorem bo_region {id : Nat} {ops : List Oper} {Q : Exit→Act→World→Prop} {a0 : Act} {w : World} (p b m : Nat) (u v : VV) (hm : m < 16) (hops : ops.map (fun o=>(o.dst,o.op)) = boShape) (hdep : depsC boNeed ops = true) (hz : a0.tmps.size = 73)
  (h5 : a0.eval (.tmp 5) = .pointer (some ⟨p,0,none⟩)) (h10 : a0.eval (.tmp 10) = .pointer (some ⟨b,0,none⟩)) (h11 : a0.eval (.tmp 11) = .int .i64 (m : Int)) (cb : w.heap[b]? = some (.cells (vvs u) 29 (0,0)))
  (hc : Calls Try.prog 10 #[.pointer (some ⟨p,0,none⟩)] w.drew fun r w2=>r = .returned (.agg (vvs v))∧Below w.drew.heap.size w.drew w2)
  (hQ : ∀ a' w1,a'.tmps.size = 73→a'.defers = a0.defers→Below w.heap.size w w1→(∀ t,(∀ (j : Nat) (op : Op),boShape[j]? ≠ some (some t,op))→a'.eval (.tmp t) = a0.eval (.tmp t))→Q .normal a' (w1.setRow b (vvs (vset u m (max (u ⟨m,hm⟩) (v ⟨m,hm⟩)))))) : (Code.region id ops.toArray true).wp Try.prog Q a0 w:=by
 have hb : b < w.heap.size:=(Array.getElem?_eq_some_iff.1 cb).1
 have hcell : ∀ w',Below w.drew.heap.size w.drew w'→w'.heap[b]? = some (.cells (vvs u) 29 (0,0)):=fun w' h=>(h.block b hb).trans cb
 refine region_chain mixed 73 hz boShape hops boNeed hdep (by decide) (boVal p b m (u ⟨m,hm⟩) (v ⟨m,hm⟩)) [5,10] (boT b v (vset u m (max (u ⟨m,hm⟩) (v ⟨m,hm⟩))) w.drew) (fun k f f' w1 hT hk=>?_) (by decide) (fun q hq=>?_) (fun m' hm'=>?_) (by decide) (fun q m1 m2 h1 h2=>?_) ?_ ?_ ?_ (fun a' w' hs hd hT hv hoth=>?_)
 ·match k,hT with
  | 0,hT=>exact hT
  | 1,hT=>exact ⟨by rw [hk 5 (by simp) 50 _ rfl]; exact hT.1,hT.2⟩
  | _ + 2,hT=>exact ⟨by rw [hk 5 (by simp) 50 _ rfl]; exact hT.1,hT.2⟩
 ·have hq : q < 11:=hq
  obtain rfl | rfl | rfl | rfl | rfl | rfl | rfl | rfl | rfl | rfl | rfl : q = 0 ∨ q = 1 ∨ q = 2 ∨ q = 3 ∨ q = 4 ∨ q = 5 ∨ q = 6 ∨ q = 7 ∨ q = 8 ∨ q = 9 ∨ q = 10:=by omega
  all_goals first | exact .inl rfl | exact .inr (by simp)
 ·simp only [List.mem_cons,List.not_mem_nil,or_false] at hm'
  rcases hm' with rfl | rfl <;> rfl
 ·match q with
  | 0=>injection h1 with h1; injection h2 with h2; subst h1; subst h2; simp [boNeed]
  | 1=>simp at h2
  | _ + 2=>simp at h1
 ·exact rfl
 ·intro q dd op uu hsh hv k a w' hT hlim hn hpp hk o ho
  have hq : q < 11:=(List.getElem?_eq_some_iff.1 hsh).1
  have e5:=(hk 5 (notD (by rfl))).trans h5
  have e10:=(hk 10 (notD (by rfl))).trans h10
  have e11:=(hk 11 (notD (by rfl))).trans h11
  obtain rfl | rfl | rfl | rfl | rfl | rfl | rfl | rfl | rfl | rfl | rfl : q = 0 ∨ q = 1 ∨ q = 2 ∨ q = 3 ∨ q = 4 ∨ q = 5 ∨ q = 6 ∨ q = 7 ∨ q = 8 ∨ q = 9 ∨ q = 10:=by omega
  all_goals first | (cases hv; done) | (injection hsh with hsh; obtain ⟨rfl,rfl⟩:=Prod.mk.inj hsh; injection hv with hv; subst hv)
  ·exact q_move ho e11
  ·exact q_move ho e11
  ·exact q_ixa hm ho e10 (hn 1 (by decide) _ 46 _ rfl rfl)
  ·have hk1:=hlim 1 10 rfl (by decide)
   have hw' : w'.heap[b]? = some (.cells (vvs u) 29 (0,0)):=by
    match k,hT with
    | 0,hT=>rw [show w' = w.drew from hT]; exact cb
    | 1,hT=>exact hcell w' hT.2
    | _ + 2,_=>omega
   exact q_load1 (ti:=ti3) rfl rfl ho (hn 2 (by decide) _ 47 _ rfl rfl) (by rw [Addr.add_lit,cell_of_row w' _ _ _ _ _ hw',Nat.mul_one,Nat.zero_add]; exact vvs_at u m hm)
  ·exact q_move ho e5
  ·exact q_move ho e11
  ·have h5':=hpp 5 (by decide) 0 rfl
   have e50 : a.eval (.tmp 50) = .agg (vvs v):=by
    match k,hT with
    | 0,_=>omega
    | 1,hT=>exact hT.1
    | _ + 2,hT=>exact hT.1
   exact q_idx hm ho e50 (hn 6 (by decide) _ 51 _ rfl rfl)
  ·exact q_max (ty:=0) ho (hn 3 (by decide) _ 48 _ rfl rfl) (hn 7 (by decide) _ 52 _ rfl rfl)
  ·exact q_ixa hm ho e10 (hn 0 (by decide) _ 45 _ rfl rfl)
 ·intro k m' dd op hkm hsh a w' hza hT hn hk o hd ho
  match k with
  | 0 =>
   injection hkm with hkm; subst hkm; injection hsh with hsh; obtain ⟨rfl,rfl⟩:=Prod.mk.inj hsh
   have hT : w' = w.drew:=hT
   subst hT
   have hen:=run_call (P:=Try.prog) (a:=a) (w:=w.drew) (g:=10) (caps:=[]) ho rfl (enterT Try.func10 (by kernel_rfl) rfl)
   simp only [List.map_cons,List.map_nil,List.append_nil,(hn 4 (by decide) _ 49 _ rfl rfl)] at hen
   refine wp_enter hen (hc.mono ?_)
   rintro r w2 ⟨rfl,hb'⟩
   refine ⟨_,rfl,_,by rw [hd],?_,hb'⟩
   rw [hd,tf,put_eq (by rw [hza]; decide)]
  | 1 =>
   injection hkm with hkm; subst hkm; injection hsh with hsh; obtain ⟨rfl,rfl⟩:=Prod.mk.inj hsh
   obtain ⟨h50,hb'⟩:=hT
   have hw':=hcell w' hb'
   have ad0 : ((⟨b,0,none⟩ : Addr).add (m * 1)) = ⟨b,m,none⟩:=by rw [Addr.add_lit,Nat.mul_one,Nat.zero_add]
   have e54:=hn 9 (by decide) _ 54 _ rfl rfl
   rw [ad0] at e54
   have hst:=q_store1 (w:=w') (a:=a) (u:=vI (u ⟨m,hm⟩)) (ti:=ti3) rfl rfl ho e54 (hn 8 (by decide) _ 53 _ rfl rfl) rfl rfl (by rw [cell_of_row w' _ _ _ _ _ hw']; exact vvs_at u m hm) (by simp [World.frozen?,hw'])
   rw [setCell_eq_setRow w' b m _ _ _ _ hw',vvs_set u _ m hm] at hst
   refine exec_skip hst ⟨undef,by rw [hd],?_,w',hb',rfl⟩
   rw [hd]; exact h50
  | _ + 2=>simp at hkm
 ·obtain ⟨_,w1,hb',rfl⟩:=hT
  exact hQ a' w1 hs hd ((Below.refl _ _).drew.trans hb') fun t ht=>hoth t fun j op=>ht j op
end Go.Proofs.Ytdnaadcbimbfmaa
