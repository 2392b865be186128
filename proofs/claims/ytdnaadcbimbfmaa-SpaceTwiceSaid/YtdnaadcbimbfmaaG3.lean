import Derived.Laws.CopyRow
import Derived.Laws.OwnMore
import Derived.Maps.AppendAt
import Derived.Test.YtdnaadcbimbfmaaG2
set_option linter.unusedSimpArgs false
set_option linter.unusedVariables false
namespace Go.Proofs.Ytdnaadcbimbfmaa.Am
open Go Go.RowKit
theorem run_storeCells_B (P : Program) (g o : Nat) (t : TypeId) (fr : Nat × Nat) : ∀ (vs : List Value) (i : Nat) (cur : Array Value) (w : World),w.heap[g]? = some (.cells cur t fr)→frB t fr cur.size→o + i + vs.length ≤ cur.size→(∀ v ∈ vs,v.oneCell' = true) →
  (storeCells ⟨g,o,none⟩ vs i).run P w = .ok () (w.setRow g (cur.toList.take (o + i) ++ vs ++ cur.toList.drop (o + i + vs.length)).toArray)
 | [],i,cur,w,hg,_,_,_=>by
  simp only [storeCells,List.append_nil,List.length_nil,Nat.add_zero,List.take_append_drop,Array.toArray_toList]
  rw [setRow_self w g cur t fr hg]
  rfl
 | v :: rest,i,cur,w,hg,hfr,hl,h1=>by
  have hi : o + i < cur.size:=by simp at hl; omega
  have hcell : w.cell? ⟨g,o + i,none⟩ = some cur[o + i]:=by simp [World.cell?,hg,hi]
  have hfro : w.frozen? ⟨g,o + i,none⟩ = false:=by
   rcases hfr with rfl | ⟨_,hfr⟩
   ·simp [World.frozen?,hg]
   ·obtain ⟨lo,hi'⟩:=fr
    simp only [World.frozen?,hg,Bool.and_eq_false_iff,decide_eq_false_iff_not]
    left
    simp only at hfr
    omega
  have hst : (store ((⟨g,o,none⟩ : Addr).add i) v).run P w = .ok () (w.setRow g (cur.setIfInBounds (o + i) v)):=by
   have hadd : (⟨g,o,none⟩ : Addr).add i = ⟨g,o + i,none⟩:=by unfold Addr.add; split <;> simp_all
   rw [hadd,run_store P w _ v _ (h1 v (by simp)),hcell]
   simp [hfro,setCell_eq_setRow w g (o + i) cur t fr v hg]
  have ih:=run_storeCells_B P g o t fr rest (i + 1) (cur.setIfInBounds (o + i) v) (w.setRow g (cur.setIfInBounds (o + i) v)) (setRow_heap w g cur _ t _ hg) (by simpa using hfr) (by simp at hl ⊢; omega) (fun x hx=>h1 x (by simp [hx]))
  simp only [storeCells,Sem.run_bind,hst,Result.andThen_ok,ih,setRow_setRow]
  congr 3
  have e:=list_seg_step cur.toList (o + i) v rest (by simp at hl ⊢; omega)
  simpa [Array.toList_setIfInBounds,Nat.add_assoc] using e
structure St where
 slots : List (Nat × AV)
 obs : Obs
 ctr : Nat
 par : Nat:=0
def St.put (st : St) (d : Option Nat) (x : AV) : St :=
 match d with
 | none=>st
 | some d=>{ slots:=(d,x) :: st.slots,obs:=st.obs,ctr:=st.ctr,par:=st.par }
def evc : Value→Option AV
 | .bool c=>some (.b c)
 | .int k n=>some (.v (.int k n))
 | .string s=>some (.v (.string s))
 | .slice none 0 0=>some (.v (.slice none 0 0))
 | .pointer none=>some (.v (.pointer none))
 | .map none=>some (.v (.map none))
 | .nilFunc=>some (.v .nilFunc)
 | .nilIface=>some (.v .nilIface)
 | _=>none
def ev (st : St) : Operand→Option AV
 | .tmp t=>lk t st.slots
 | .const x=>evc x
 | .func f=>some (.clo f [])
 | .global _=>none
def isK (keep : List Nat) : Option Nat→Bool
 | none=>false
 | some d=>memN d keep
def mapS (f : AV→AV) : List (Nat × AV)→List (Nat × AV)
 | []=>[]
 | (t,x) :: r=>(t,f x) :: mapS f r
def frz0 (k ver mver : Nat) (rows : List (List AV)) : AV→AV
 | .own j v=>if j = k then (if v = ver then .sl rows else .dead) else .own j v
 | .rel j v m i cs off=>if j = k then (if v = ver then (if m = mver then .ept cs off else .dead) else .dead) else .rel j v m i cs off
 | .osl j v lo=>if j = k then .dead else .osl j v lo
 | x=>x
def frzAV (k ver mver : Nat) (rows : List (List AV)) : AV→AV
 | .tup vs=>.tup (vs.map (frz0 k ver mver rows))
 | x=>frz0 k ver mver rows x
def frzBox (k : Nat) (cs : List AV) : AV→AV
 | .ptr j off=>if j = k then .ept cs off else .ptr j off
 | x=>x
def frzMp (k : Nat) (ks : List ByteArray) (vs : List AV) : AV→AV
 | .mo j=>if j = k then .mp ks vs else .mo j
 | x=>x
def St.freeze (k : Nat) (st : St) : St :=
 if Nat.blt k st.par = true then { slots:=st.slots,obs:=del k st.obs,ctr:=st.ctr,par:=st.par } else
 match lk k st.obs with
 | some (.row e sz rows ver mver)=>{ slots:=mapS (frzAV k ver mver rows) st.slots,obs:=del k st.obs,ctr:=st.ctr,par:=st.par }
 | some (.box ty cs fz)=>{ slots:=mapS (frzBox k cs) st.slots,obs:=del k st.obs,ctr:=st.ctr,par:=st.par }
 | some (.mp ks vs)=>{ slots:=mapS (frzMp k ks vs) st.slots,obs:=del k st.obs,ctr:=st.ctr,par:=st.par }
 | some (.it _ _ _)=>st
 | none=>st
def frzArgs (st : St) : List Operand→St
 | []=>st
 | x :: xs=>match ev st x with
  | some (.own k ver)=>frzArgs (st.freeze k) xs
  | some (.mo k)=>frzArgs (st.freeze k) xs
  | _=>frzArgs st xs
structure Bas where
 W : World
 par : Nat
 M : Nat→Prop
 b0 : Nat→Value
abbrev Bas.heap (b : Bas) : Array Obj:=b.W.heap
structure RelS (W0 : Bas) (S0 : Nat→Prop) (n : Nat) (S : Nat→Prop) (β : Nat→Value) (st : St) (a : Act) (w : World) : Prop where
 gr : GrK W0.M W0.W S0 w S
 par : st.par = W0.par
 defers : a.defers = []
 size : a.tmps.size = n
 slots : ∀ t x,lk t st.slots = some x→t < n∧SRep w S β st.obs x (a.tmps.getD t undef)
 objs : ∀ k o,lk k st.obs = some o→ORep w S 0 (β k) o
 up : ∀ k o g,lk k st.obs = some o→blkOf (β k) = some g→if k < W0.par then W0.M g else W0.heap.size ≤ g ∨ W0.M g
 sep : ∀ k k' o o',lk k st.obs = some o→lk k' st.obs = some o'→k ≠ k'→∀ g,blkOf (β k) = some g→blkOf (β k') = some g→False
 ctr : ∀ k o,lk k st.obs = some o→k < st.ctr
 parc : W0.par ≤ st.ctr
 fix : ∀ k o,k < W0.par→lk k st.obs = some o→β k = W0.b0 k
theorem RelS.gd {W0 : Bas} {S0 : Nat→Prop} {n : Nat} {S : Nat→Prop} {β : Nat→Value} {st : St} {a : Act} {w : World} (h : RelS W0 S0 n S β st a w) : gdOK w S:=h.gr.gd.2
def Rel (W0 : Bas) (S0 : Nat→Prop) (n : Nat) (st : St) (a : Act) (w : World) : Prop:=∃ S β,RelS W0 S0 n S β st a w
theorem lk_del {α : Type} (k j : Nat) (l : List (Nat × α)) : lk j (del k l) = if j = k then none else lk j l:=by
 induction l with
 | nil=>simp [del,lk]
 | cons p l ih =>
  obtain ⟨t,x⟩:=p
  simp only [del]
  by_cases h : t = k
  ·rw [if_pos h,ih]
   by_cases hj : j = k
   ·simp [hj]
   ·simp only [if_neg hj,lk]
    rw [if_neg (by omega)]
  ·rw [if_neg h]
   simp only [lk]
   by_cases hj : j = k
   ·rw [if_pos hj]
    rw [if_neg (by omega),ih,if_pos hj]
   ·rw [if_neg hj,ih,if_neg hj]
theorem lk_mapS (f : AV→AV) (t : Nat) (l : List (Nat × AV)) : lk t (mapS f l) = (lk t l).map f:=by
 induction l with
 | nil=>rfl
 | cons p l ih =>
  obtain ⟨k,x⟩:=p
  simp only [mapS,lk]
  split
  ·rfl
  ·exact ih
theorem srep0_mono {w w' : World} {S S' : Nat→Prop} {β : Nat→Value} {obs : Obs} (hw : SameOn S w w') (hS : ∀ g,S g→S' g) {x : AV} {y : Value} (h : SRep0 w S β obs x y) : SRep0 w' S' β obs x y:=by
 cases x <;> first | exact Rep.mono hw hS h | exact h
theorem srep_eq (w : World) (S : Nat→Prop) (β : Nat→Value) (obs : Obs) {x : AV} (y : Value) (h : ∀ vs,x ≠ .tup vs) : SRep w S β obs x y = SRep0 w S β obs x y:=by
 cases x <;> first | rfl | exact absurd rfl (h _)
def tupMap (f : AV→AV) : AV→AV
 | .tup vs=>.tup (vs.map f)
 | x=>f x
theorem srep_map {w w' : World} {S S' : Nat→Prop} {β β' : Nat→Value} {obs obs' : Obs} {f : AV→AV} (hf : ∀ x y,SRep0 w S β obs x y→SRep0 w' S' β' obs' (f x) y) (ft : ∀ x,(∀ vs,x ≠ .tup vs)→∀ vs,f x ≠ .tup vs) {x : AV} {y : Value} (h : SRep w S β obs x y) :
  SRep w' S' β' obs' (tupMap f x) y:=by
 by_cases hx : ∃ vs,x = .tup vs
 ·obtain ⟨vs,rfl⟩:=hx
  obtain ⟨ys,h1,h2,h3⟩:=h
  refine ⟨ys,h1,by simpa using h2,fun i u x hu hx=>?_⟩
  rw [List.getElem?_map] at hu
  cases hv : vs[i]? with
  | none=>rw [hv] at hu; simp at hu
  | some u' =>
   rw [hv] at hu
   injection hu with hu
   subst hu
   exact hf _ _ (h3 i u' x hv hx)
 ·have hx' : ∀ vs,x ≠ .tup vs:=fun vs e=>hx ⟨vs,e⟩
  have e : tupMap f x = f x:=by
   cases x <;> first | rfl | exact absurd rfl (hx' _)
  rw [e,srep_eq _ _ _ _ _ (ft x hx')]
  rw [srep_eq _ _ _ _ _ hx'] at h
  exact hf _ _ h
theorem srep_mono {w w' : World} {S S' : Nat→Prop} {β : Nat→Value} {obs : Obs} (hw : SameOn S w w') (hS : ∀ g,S g→S' g) {x : AV} {y : Value} (h : SRep w S β obs x y) : SRep w' S' β obs x y:=by
 have:=srep_map (f:=fun x=>x) (w':=w') (S':=S') (β':=β) (obs':=obs) (fun x y h=>srep0_mono hw hS h) (fun x hx=>hx) h
 cases x <;> first | exact this | (simpa [tupMap] using this)
theorem orep_blk {w : World} {S : Nat→Prop} {B : Nat} {x : Value} {o : Ob} (h : ORep w S B x o) {g : Nat} (hg : blkOf x = some g) : B ≤ g∧g < w.heap.size∧¬ S g:=by
 cases o with
 | box ty cells fz =>
  obtain ⟨g',xs,rfl,hB,hS,hh,hr⟩:=h
  simp [blkOf] at hg
  subst hg
  exact ⟨hB,(Array.getElem?_eq_some_iff.1 hh).1,hS⟩
 | row e sz rows ver mver =>
  obtain ⟨xs,hown,hr,hl,hS⟩:=h
  rcases hown.2 with ⟨rfl,_⟩ | ⟨g',cap,cur,fr,rfl,hB,hh,_⟩
  ·simp [blkOf,Value.ownBlock] at hg
  ·simp [blkOf,Value.ownBlock] at hg
   subst hg
   exact ⟨hB,(Array.getElem?_eq_some_iff.1 hh).1,hS _ (by simp [Value.ownBlock])⟩
 | mp ks vs =>
  obtain ⟨r,es,clock,rfl,hB,hS,hh,_⟩:=h
  simp [blkOf] at hg
  subst hg
  exact ⟨hB,(Array.getElem?_eq_some_iff.1 hh).1,hS⟩
 | it ks vs cur =>
  obtain ⟨r,bm,since,seen,c0,es,clock,rfl,hB,hS,hh,_⟩:=h
  simp [blkOf] at hg
  subst hg
  exact ⟨hB,(Array.getElem?_eq_some_iff.1 hh).1,hS⟩
theorem orep_mono {w w' : World} {S S' : Nat→Prop} {B : Nat} {x : Value} {o : Ob} (hw : SameOn S w w') (hS : ∀ g,S g→S' g) (hb : ∀ g,blkOf x = some g→w'.heap[g]? = w.heap[g]?∧¬ S' g) (h : ORep w S B x o) : ORep w' S' B x o:=by
 cases o with
 | box ty cells fz =>
  obtain ⟨g',xs,rfl,hB,hSg,hh,hr⟩:=h
  have:=hb g' rfl
  exact ⟨g',xs,rfl,hB,this.2,this.1.trans hh,hr.mono hw hS⟩
 | row e sz rows ver mver =>
  obtain ⟨xs,hown,hr,hl,hSg⟩:=h
  refine ⟨xs,⟨hown.1,?_⟩,hr.mono hw hS,hl,fun g hg=>?_⟩
  ·rcases hown.2 with h | ⟨g',cap,cur,fr,rfl,hB,hh,r⟩
   ·exact .inl h
   ·exact .inr ⟨g',cap,cur,fr,rfl,hB,(hb g' (by simp [blkOf,Value.ownBlock])).1.trans hh,r⟩
  ·refine (hb g ?_).2
   cases x <;> simp_all [blkOf,Value.ownBlock]
 | mp ks vs =>
  obtain ⟨r,es,clock,rfl,hB,hSg,hh,hk,hl,hn,hbd,hr⟩:=h
  have:=hb r rfl
  exact ⟨r,es,clock,rfl,hB,this.2,this.1.trans hh,hk,hl,hn,hbd,fun i u e hu he=>(hr i u e hu he).mono hw hS⟩
 | it ks vs cur =>
  obtain ⟨r,bm,since,seen,c0,es,clock,rfl,hB,hSg,hh,hSb,hhb,hn,hbd,hsc,hcl,hk,hl,hr,hcur⟩:=h
  have:=hb r rfl
  exact ⟨r,bm,since,seen,c0,es,clock,rfl,hB,this.2,this.1.trans hh,hS _ hSb,(hw _ hSb).trans hhb,hn,hbd,hsc,hcl,hk,hl,fun i u e hu he=>(hr i u e hu he).mono hw hS,fun s v hc=>by
   obtain ⟨e,seen',h1,h2,h3,h4,h5⟩:=hcur s v hc
   exact ⟨e,seen',h1,h2,h3,h4,h5.mono hw hS⟩⟩
theorem getD_put (a : Act) (d t : Nat) (v : Value) (hd : d < a.tmps.size) : (a.put (some d) v).tmps.getD t undef = if t = d then v else a.tmps.getD t undef:=by
 simp only [Act.put]
 by_cases h : t = d
 ·subst h; simp [hd]
 ·rw [if_neg h]
  simp [Array.getElem?_setIfInBounds_ne (Ne.symm h)]
theorem put_size (a : Act) (d : Option Nat) (v : Value) : (a.put d v).tmps.size = a.tmps.size:=by cases d <;> simp [Act.put]
theorem put_defers (a : Act) (d : Option Nat) (v : Value) : (a.put d v).defers = a.defers:=by cases d <;> simp [Act.put]
theorem ownsRow_up {w : World} {B B' e sz m : Nat} {v : Value} {xs : List Value} (h : OwnR w B e sz v m xs) (hB : ∀ g,v.ownBlock = some g→B' ≤ g) : OwnR w B' e sz v m xs:=by
 refine ⟨h.1,?_⟩
 rcases h.2 with h1 | ⟨g',cap,cur,fr,h1,h2,r⟩
 ·exact .inl h1
 ·exact .inr ⟨g',cap,cur,fr,h1,hB _ (by subst h1; rfl),r⟩
theorem ownBlock_blk {B e sz m : Nat} {w : World} {z : Value} {zs : List Value} (h : OwnR w B e sz z m zs) {g : Nat} (hg : blkOf z = some g) : z.ownBlock = some g:=by
 rcases h.2 with ⟨rfl,_⟩ | ⟨g',cap,cur,fr,rfl,_⟩
 ·simp [blkOf,Value.ownBlock] at hg
 ·simpa [blkOf,Value.ownBlock] using hg
theorem blk_of_own {v : Value} {g : Nat} (h : v.ownBlock = some g) : blkOf v = some g:=by
 cases v <;> simp_all [blkOf,Value.ownBlock]
variable {W0 : Bas} {S0 : Nat→Prop} {n : Nat}
theorem RelS.blk {S : Nat→Prop} {β : Nat→Value} {st : St} {a : Act} {w : World} (h : RelS W0 S0 n S β st a w) {k g : Nat} {o : Ob} (ho : lk k st.obs = some o) (hg : blkOf (β k) = some g) : g < w.heap.size∧¬ S g:=(orep_blk (h.objs k o ho) hg).2
theorem rel_quiet {S S' : Nat→Prop} {β : Nat→Value} {st : St} {a : Act} {w w' : World} {d : Option Nat} {x : AV} {v : Value} (h : RelS W0 S0 n S β st a w) (hg : Gr w S w' S') (hd : okD n d = true) (hx : SRep w' S' β st.obs x v) : RelS W0 S0 n S' β (st.put d x) (a.put d v) w':=by
 have hsame:=hg.same h.gr.lt
 have hob : (st.put d x).obs = st.obs:=by cases d <;> rfl
 have hct : (st.put d x).ctr = st.ctr:=by cases d <;> rfl
 refine ⟨h.gr.step hg,by cases d <;> exact h.par,by rw [put_defers]; exact h.defers,by rw [put_size]; exact h.size,fun t y ht=>?_,?_,?_,?_,?_,?_,?_⟩
 ·rw [hob]
  cases d with
  | none =>
   obtain ⟨h1,h2⟩:=h.slots t y ht
   exact ⟨h1,srep_mono hsame hg.sub h2⟩
  | some d =>
   have hdn : d < n:=by simpa [okD] using hd
   rw [getD_put _ _ _ _ (by rw [h.size]; exact hdn)]
   simp only [St.put,lk] at ht
   by_cases e : d = t
   ·rw [if_pos e] at ht
    injection ht with ht
    subst ht e
    exact ⟨hdn,by rw [if_pos rfl]; exact hx⟩
   ·rw [if_neg e] at ht
    obtain ⟨h1,h2⟩:=h.slots t y ht
    exact ⟨h1,by rw [if_neg (by omega)]; exact srep_mono hsame hg.sub h2⟩
 ·rw [hob]
  intro k o ho
  refine orep_mono hsame hg.sub (fun g hgb=>?_) (h.objs k o ho)
  obtain ⟨h1,h2,h3⟩:=orep_blk (h.objs k o ho) hgb
  exact ⟨hg.below.block g h2,fun hs=>by rcases hg.new g hs with h4 | h4; exact h3 h4; omega⟩
 ·rw [hob]; exact h.up
 ·rw [hob]; exact h.sep
 ·rw [hob,hct]; exact h.ctr
 ·rw [hct]; exact h.parc
 ·rw [hob]; exact h.fix
theorem ev_ok {S : Nat→Prop} {β : Nat→Value} {st : St} {a : Act} {w : World} (h : RelS W0 S0 n S β st a w) {x : Operand} {u : AV} (hu : ev st x = some u) : SRep w S β st.obs u (a.eval x):=by
 cases x with
 | tmp t=>exact (h.slots t u hu).2
 | const v =>
  simp only [ev] at hu
  unfold evc at hu
  split at hu <;> simp at hu <;> subst hu <;> first | exact srep_c (.b _) | exact srep_c (.v _ rfl)
 | global g=>simp [ev] at hu
 | func f =>
  simp [ev] at hu
  subst hu
  exact srep_of_rep (.clo (xs:=[]) rfl (fun i u x h=>by simp at h))
theorem frz0_ok {S : Nat→Prop} {β : Nat→Value} {obs : Obs} {w : World} {B k e sz ver mver : Nat} {rows : List (List AV)} (hk : lk k obs = some (.row e sz rows ver mver)) (ho : ORep w S B (β k) (.row e sz rows ver mver)) {x : AV} {y : Value} (h : SRep0 w S β obs x y) :
  SRep0 w (fun g=>S g ∨ blkOf (β k) = some g) β (del k obs) (frz0 k ver mver rows x) y:=by
 have hw : SameOn S w w:=fun _ _=>rfl
 have hS : ∀ g,S g→(S g ∨ blkOf (β k) = some g):=fun g h=>Or.inl h
 cases x <;> try exact Rep.mono hw hS h
 ·exact h
 ·rename_i j v
  simp only [frz0]
  split
  ·rename_i e1
   subst e1
   split
   ·rename_i e2
    subst e2
    have hy : y = β j:=(show ∀ e sz rows m,lk j obs = some (.row e sz rows v m)→y = β j from h) _ _ _ _ hk
    obtain ⟨xs,hown,hr,hl,hSg⟩:=ho
    rw [hy]
    exact .c (repc_of_own hown (hr.mono hw hS) hl (fun g hg=>Or.inr (by cases hb : β j <;> simp_all [blkOf,Value.ownBlock])))
   ·trivial
  ·rename_i e1
   intro e' sz' rows' m' h'
   rw [lk_del,if_neg e1] at h'
   exact (show ∀ e sz rows m,lk j obs = some (.row e sz rows v m)→y = β j from h) _ _ _ _ h'
 ·rename_i j v m i cs off
  simp only [frz0]
  split
  ·rename_i e1
   subst e1
   split
   ·rename_i e2
    subst e2
    split
    ·rename_i e3
     subst e3
     obtain ⟨_,_,⟨g,n,c,hb,hy⟩,hrow⟩:=(show RelP β obs j v m i cs off y from h) _ _ _ _ hk
     have hrow:=hrow rfl
     obtain ⟨xs,hown,hr,hl,hSg⟩:=ho
     have hrep:=repc_of_own hown (hr.mono hw hS) hl (fun g' hg'=>Or.inr (by rw [hb] at hg' ⊢; simpa [blkOf,Value.ownBlock] using hg'))
     obtain ⟨b,c',sz',hbe,hcs,hca⟩:=sl_elem hrep hrow
     rw [hb] at hbe
     injection hbe with hb1 hb2 hb3
     injection hb1 with hb1
     subst hb1
     have hszz : sz' = sz:=by rw [← hcs,hl cs (List.mem_of_getElem? hrow)]
     subst hszz
     rw [hy,← add_add]
     exact .ept hca
    ·trivial
   ·trivial
  ·rename_i e1
   intro e' sz' rows' m' h'
   rw [lk_del,if_neg e1] at h'
   exact (show RelP β obs j v m i cs off y from h) _ _ _ _ h'
 ·rename_i j v lo
  simp only [frz0]
  split
  ·exact trivial
  ·rename_i e1
   intro e' sz' rows' m' h'
   rw [lk_del,if_neg e1] at h'
   exact (show ∀ e sz rows m,lk j obs = some (.row e sz rows v m)→OslP β j lo sz rows.length y from h) _ _ _ _ h'
 ·rename_i j
  intro ks vs h'
  rw [lk_del] at h'
  split at h'
  ·simp at h'
  ·exact (show ∀ ks vs,lk j obs = some (.mp ks vs)→y = β j from h) _ _ h'
 ·exact trivial
theorem srep_sub {w : World} {S : Nat→Prop} {β : Nat→Value} {obs obs' : Obs} (hob : ∀ j o,lk j obs' = some o→lk j obs = some o) {x : AV} {y : Value} (h : SRep w S β obs x y) : SRep w S β obs' x y:=by
 have:=srep_map (f:=fun x=>x) (w':=w) (S':=S) (β':=β) (obs':=obs') (fun x y hxy=>by
  cases x <;> try exact hxy
  ·rename_i j v
   intro e sz rows m hj
   exact (show ∀ e sz rows m,lk j obs = some (.row e sz rows v m)→y = β j from hxy) _ _ _ _ (hob _ _ hj)
  ·rename_i j v m i cs off
   intro e sz rows m' hj
   exact (show RelP β obs j v m i cs off y from hxy) _ _ _ _ (hob _ _ hj)
  ·rename_i j v lo
   intro e sz rows m' hj
   exact (show ∀ e sz rows m,lk j obs = some (.row e sz rows v m)→OslP β j lo sz rows.length y from hxy) _ _ _ _ (hob _ _ hj)
  ·rename_i j
   intro ks vs hj
   exact (show ∀ ks vs,lk j obs = some (.mp ks vs)→y = β j from hxy) _ _ (hob _ _ hj)) (fun x hx=>hx) h
 cases x <;> first | exact this | (simpa [tupMap] using this)
theorem rel_sub {S : Nat→Prop} {β : Nat→Value} {st : St} {a : Act} {w : World} (h : RelS W0 S0 n S β st a w) {obs' : Obs} (hob : ∀ j o,lk j obs' = some o→lk j st.obs = some o) : RelS W0 S0 n S β { slots:=st.slots,obs:=obs',ctr:=st.ctr,par:=st.par } a w :=
 ⟨h.gr,h.par,h.defers,h.size,fun t x ht=>⟨(h.slots t x ht).1,srep_sub hob (h.slots t x ht).2⟩,fun k o hk=>h.objs k o (hob k o hk),fun k o g hk=>h.up k o g (hob k o hk),fun k k' o o' h1 h2=>h.sep k k' o o' (hob k o h1) (hob k' o' h2),fun k o hk=>h.ctr k o (hob k o hk),h.parc,fun k o hp hk=>h.fix k o hp (hob k o hk)⟩
theorem rel_freeze {S : Nat→Prop} {β : Nat→Value} {st : St} {a : Act} {w : World} (k : Nat) (h : RelS W0 S0 n S β st a w) : ∃ S',RelS W0 S0 n S' β (st.freeze k) a w:=by
 unfold St.freeze
 by_cases hpk : Nat.blt k st.par = true
 ·rw [if_pos hpk]
  refine ⟨S,rel_sub h (fun j o hj=>?_)⟩
  rw [lk_del] at hj
  split at hj
  ·simp at hj
  ·exact hj
 rw [if_neg hpk]
 have hpk : ¬ k < W0.par:=by rw [← h.par]; simpa using hpk
 have hw : SameOn S w w:=fun _ _=>rfl
 have hS : ∀ g,S g→(S g ∨ blkOf (β k) = some g):=fun g h=>Or.inl h
 have common : ∀ o,lk k st.obs = some o→∀ (f : AV→AV),(∀ x y,SRep w S β st.obs x y→SRep w (fun g=>S g ∨ blkOf (β k) = some g) β (del k st.obs) (f x) y) →
   RelS W0 S0 n (fun g=>S g ∨ blkOf (β k) = some g) β { slots:=mapS f st.slots,obs:=del k st.obs,ctr:=st.ctr,par:=st.par } a w:=by
  intro o ho f hf
  have hob:=h.objs k o ho
  refine ⟨⟨h.gr.os,h.gr.tape,h.gr.output,h.gr.size,h.gr.block,fun g hg=>Or.inl (h.gr.sub g hg),fun g hg=>?_,fun g hg=>?_,h.gr.gd.1,h.gd.mono hw hS⟩,h.par,h.defers,h.size,fun t x ht=>?_,fun j o' ho'=>?_,fun j o' g ho'=>?_,fun j j' o1 o2 h1 h2 hne=>?_,fun j o' ho'=>?_,h.parc,fun j o' hp ho'=>?_⟩
  ·rcases hg with hg | hg
   ·exact h.gr.new g hg
   ·have:=h.up k o g ho hg
    rw [if_neg hpk] at this
    exact .inr this
  ·rcases hg with hg | hg
   ·exact h.gr.lt g hg
   ·exact (orep_blk hob hg).2.1
  ·simp only [lk_mapS] at ht
   cases hx : lk t st.slots with
   | none=>rw [hx] at ht; simp at ht
   | some x' =>
    rw [hx] at ht
    injection ht with ht
    subst ht
    obtain ⟨h1,h2⟩:=h.slots t x' hx
    exact ⟨h1,hf _ _ h2⟩
  ·simp only [lk_del] at ho'
   split at ho'
   ·simp at ho'
   ·rename_i hjk
    refine orep_mono hw hS (fun g hg=>⟨rfl,fun hs=>?_⟩) (h.objs j o' ho')
    rcases hs with hs | hs
    ·exact (orep_blk (h.objs j o' ho') hg).2.2 hs
    ·exact h.sep j k o' o ho' ho hjk g hg hs
  ·simp only [lk_del] at ho'
   split at ho'
   ·simp at ho'
   ·exact h.up j o' g ho'
  ·simp only [lk_del] at h1 h2
   split at h1
   ·simp at h1
   ·split at h2
    ·simp at h2
    ·exact h.sep j j' o1 o2 h1 h2 hne
  ·simp only [lk_del] at ho'
   split at ho'
   ·simp at ho'
   ·exact h.ctr j o' ho'
  ·simp only [lk_del] at ho'
   split at ho'
   ·simp at ho'
   ·exact h.fix j o' hp ho'
 have base : ∀ x y,SRep0 w S β st.obs x y→SRep0 w (fun g=>S g ∨ blkOf (β k) = some g) β (del k st.obs) x y:=by
  intro x y hx
  cases x <;> try exact Rep.mono hw hS hx
  ·exact hx
  ·rename_i j v
   intro e' sz' rows' m' h'
   rw [lk_del] at h'
   split at h'
   ·simp at h'
   ·exact (show ∀ e sz rows m,lk j st.obs = some (.row e sz rows v m)→y = β j from hx) _ _ _ _ h'
  ·rename_i j v m i cs off
   intro e' sz' rows' m' h'
   rw [lk_del] at h'
   split at h'
   ·simp at h'
   ·exact (show RelP β st.obs j v m i cs off y from hx) _ _ _ _ h'
  ·rename_i j v lo
   intro e' sz' rows' m' h'
   rw [lk_del] at h'
   split at h'
   ·simp at h'
   ·exact (show ∀ e sz rows m,lk j st.obs = some (.row e sz rows v m)→OslP β j lo sz rows.length y from hx) _ _ _ _ h'
  ·rename_i j
   intro ks vs h'
   rw [lk_del] at h'
   split at h'
   ·simp at h'
   ·exact (show ∀ ks vs,lk j st.obs = some (.mp ks vs)→y = β j from hx) _ _ h'
  ·exact trivial
 have base2 : ∀ x y,SRep w S β st.obs x y→SRep w (fun g=>S g ∨ blkOf (β k) = some g) β (del k st.obs) x y:=by
  intro x y hx
  have:=srep_map (f:=fun x=>x) base (fun x hx=>hx) hx
  cases x <;> first | exact this | (simpa [tupMap] using this)
 split
 ·rename_i e sz rows ver mver hk
  refine ⟨_,common _ hk _ fun x y hx=>?_⟩
  have:=srep_map (f:=frz0 k ver mver rows) (fun x y h'=>frz0_ok hk (h.objs _ _ hk) h') (fun x hx vs=>by
   cases x <;> simp only [frz0] <;> first | exact hx _ | (simp; done) | (repeat' split) <;> simp) hx
  cases x <;> exact this
 ·rename_i ty cs fz hk
  refine ⟨_,common _ hk _ fun x y hx=>?_⟩
  by_cases hp : ∃ j off,x = .ptr j off
  ·obtain ⟨j,off,rfl⟩:=hp
   simp only [frzBox]
   split
   ·rename_i e1
    subst e1
    obtain ⟨g,h1,h2⟩:=(show ∃ g,β j = .pointer (some ⟨g,0,none⟩)∧y = .pointer (some ((⟨g,0,none⟩ : Addr).add off)) from hx)
    obtain ⟨g',xs,he,hB,hSg,hh,hr⟩:=h.objs _ _ hk
    rw [h1] at he
    injection he with he
    injection he with he
    injection he with he
    subst he
    rw [h2]
    refine srep_of_rep (.ept ⟨Or.inr (by rw [h1]; rfl),fun i u hu=>?_⟩)
    obtain ⟨x,hx1,hx2⟩:=hr.get hu
    exact ⟨x,by rw [add_mk,cell_of_row w g i _ _ _ hh]; simpa using hx1,hx2.mono hw hS⟩
   ·exact hx
  ·have e : frzBox k cs x = x:=by
    cases x <;> first | rfl | exact absurd ⟨_,_,rfl⟩ hp
   rw [e]
   exact base2 _ _ hx
 ·rename_i ks vs hk
  refine ⟨_,common _ hk _ fun x y hx=>?_⟩
  by_cases hp : ∃ j,x = .mo j
  ·obtain ⟨j,rfl⟩:=hp
   simp only [frzMp]
   split
   ·rename_i e1
    subst e1
    have hy : y = β j:=(show ∀ ks vs,lk j st.obs = some (.mp ks vs)→y = β j from hx) _ _ hk
    obtain ⟨r,es,clock,he,hB,hSg,hh,h1,h2,hn,hbd,h3⟩:=h.objs _ _ hk
    have hbk : blkOf (β j) = some r:=by rw [he]; rfl
    have hm : Rep w (fun g=>S g ∨ blkOf (β j) = some g) (.mp ks vs) (.map (some r)):=.mp (Or.inr hbk) hh h1 h2 hn hbd (fun i u e hu he'=>(h3 i u e hu he').mono hw hS)
    rw [hy]
    have hm:=srep_of_rep (β:=β) (obs:=del j st.obs) hm
    rw [← he] at hm
    exact hm
   ·exact base2 _ _ hx
  ·have e : frzMp k ks vs x = x:=by
    cases x <;> first | rfl | exact absurd ⟨_,rfl⟩ hp
   rw [e]
   exact base2 _ _ hx
 ·exact ⟨S,h⟩
 ·exact ⟨S,h⟩
theorem rel_frzArgs : ∀ (l : List Operand) {S : Nat→Prop} {β : Nat→Value} {st : St} {a : Act} {w : World},RelS W0 S0 n S β st a w→∃ S',RelS W0 S0 n S' β (frzArgs st l) a w:=by
 intro l
 induction l with
 | nil=>intro S β st a w h; exact ⟨S,h⟩
 | cons x l ih =>
  intro S β st a w h
  simp only [frzArgs]
  split
  ·obtain ⟨S',h'⟩:=rel_freeze _ h
   exact ih h'
  ·obtain ⟨S',h'⟩:=rel_freeze _ h
   exact ih h'
  ·exact ih h
end Go.Proofs.Ytdnaadcbimbfmaa.Am
namespace Go.Proofs.Ytdnaadcbimbfmaa.Am
open Go Go.RowKit
inductive LenIs (ds : List AV) (n : Nat) : Prop where
 | mk (h : ds.length = n) : LenIs ds n
def canon (obs : Obs) : Nat→List AV→Option (List AV × Obs)
 | _,[]=>some ([],[])
 | p,.own k ver :: r=>match lk k obs with
  | some (.row e sz rows ver' m)=>if ver = ver' then (match canon obs (p + 1) r with | some (as,ps)=>some (.own p 0 :: as,(p,.row e sz rows 0 0) :: ps) | none=>none) else none
  | _=>none
 | p,.ptr k off :: r=>match lk k obs with
  | some (.box ty cs fz)=>(match canon obs (p + 1) r with | some (as,ps)=>some (.ptr p off :: as,(p,.box ty cs false) :: ps) | none=>none)
  | _=>none
 | p,x :: r=>if okArg x = true then (match canon obs (p + 1) r with | some (as,ps)=>some (plain x :: as,ps) | none=>none) else none
def keysOf : Nat→List AV→List (Nat × Nat)
 | _,[]=>[]
 | p,.own k _ :: r=>(p,k) :: keysOf (p + 1) r
 | p,.ptr k _ :: r=>(p,k) :: keysOf (p + 1) r
 | p,_ :: r=>keysOf (p + 1) r
def memV (k : Nat) : List (Nat × Nat)→Bool
 | []=>false
 | (_,j) :: r=>if j = k then true else memV k r
def nodV : List (Nat × Nat)→Bool
 | []=>true
 | (_,k) :: r=>if memV k r = true then false else nodV r
def obMerge (old new : Ob) : Option Ob :=
 match old,new with
 | .row e sz _ ver m,.row e' sz' rows' _ _=>if e' = e then (if sz' = sz then some (.row e sz rows' ver (m + 1)) else none) else none
 | .box ty _ fz,.box ty' cs' _=>if ty' = ty then some (.box ty cs' fz) else none
 | _,_=>none
def wback (obs pars' : Obs) : List (Nat × Nat)→Option Obs
 | []=>some obs
 | (p,k) :: r=>match wback obs pars' r with
  | none=>none
  | some o1=>match lk p pars' with
   | none=>some (del k o1)
   | some new=>match lk k obs with
    | none=>none
    | some old=>match obMerge old new with
     | none=>none
     | some o=>some ((k,o) :: del k o1)
section
variable (F : Sy) (C : Key→List AV→Res→Prop)
def wop (ev : Operand→Option AV) (obs : Obs) (op : Op) (K : Obs→AV→Prop) : Prop :=
 match op with
 | .store t x v=>match gam t,ev x,ev v with
  | some ti,some (.ptr k off),some u=>(match lk k obs,cellsOf u with
   | some (.box ty cs fz),some ds=>if ds.length = ti.size then (match setCells off ds cs with
     | some cs'=>K ((k,.box ty cs' fz) :: del k obs) (.tup [])
     | none=>False) else False
   | _,_=>False)
  | some ti,some (.rel k ver mver i _ off),some u=>(match lk k obs,cellsOf u with
   | some (.row e sz rows ver' m),some ds=>if ver = ver' then LenIs ds ti.size∧(if ti.size = sz then (if off = 0 then K ((k,.row e sz (F .set rows i ds) ver (m + 1)) :: del k obs) (.tup []) else False)
     else ∃ r r',rows[i]? = some r∧setCells off ds r = some r'∧K ((k,.row e sz (F .set rows i r') ver (m + 1)) :: del k obs) (.tup [])) else False
   | _,_=>False)
  | _,_,_=>False
 | .call { callee:=.value f,args,argTypes }=>match ev f,evs ev args.toList with
  | some (.clo g caps),some as=>(match canon obs 0 as with
   | some (as',pars)=>if nodV (keysOf 0 as) = true then ∃ pars' xs,C (.wr g pars pars') (as' ++ caps) (.pure xs)∧(match wback obs pars' (keysOf 0 as) with
     | some obs'=>K obs' (tupOf xs)
     | none=>False) else False
   | none=>False)
  | _,_=>False
 | .call { callee:=.builtin .clear,args,argTypes }=>match args.toList,argTypes.toList with
  | [x],[t]=>(match gam t,ev x with
   | some ti,some (.osl k ver lo)=>(match ti.kind,lk k obs with
    | .sli e esz _,some (.row e' sz rows ver' m)=>if ver = ver' then (if sz = esz then (match gam e with
     | some te=>∃ rows',rows' = rows.take lo ++ List.replicate (rows.length - lo) te.zero∧K ((k,.row e' sz rows' ver (m + 1)) :: del k obs) (.tup [])
     | none=>False) else False) else False
    | _,_=>False)
   | _,_=>False)
  | _,_=>False
 | .mapUpdate t m x v=>match gam t,ev m,ev x,ev v with
  | some ti,some (.mo k),some (.v (.string s)),some u=>(match ti.kind,lk k obs with
   | .mp _ _,some (.mp ks vs)=>if okArg u = true then ∃ ks' vs',MP ks vs s (plain u) ks' vs'∧K ((k,.mp ks' vs') :: del k obs) (.tup []) else False
   | _,_=>False)
  | _,_,_,_=>False
 | .convert s d x=>match gam d,ev x with
  | some ti,some (.own k ver)=>(match ti.kind,lk k obs with
   | .sli e 1 1,some (.row e' sz rows ver' m)=>if s = d then (if ver = ver' then (if e' = e then (if sz = 1 then (if byteT e = true then (0 < rows.length∧K ((k,.row e' sz rows ver (m + 1)) :: del k obs) (.own k ver)) else False) else False) else False) else False) else False
   | _,_=>False)
  | _,_=>False
 | _=>False
end
def WGood (P : Program) (ev : Operand→Option AV) (obs : Obs) (op : Op) (obs' : Obs) (x : AV) : Prop :=
 ∀ (a : Act) (w : World) (S : Nat→Prop) (β : Nat→Value),(∀ g,S g→g < w.heap.size)→gdOK w S→(∀ o ∈ op.operands,∀ u,ev o = some u→SRep w S β obs u (a.eval o)) →
  (∀ k o,lk k obs = some o→ORep w S 0 (β k) o)→(∀ k k' o o',lk k obs = some o→lk k' obs = some o'→k ≠ k'→∀ g,blkOf (β k) = some g→blkOf (β k') = some g→False) →
  ∀ oper : Oper,oper.op = op→∀ (K : Act→World→Prop) (Q : Exit→Act→World→Prop),
  (∀ v w' S',GrK (obsBlk obs β) w S w' S'→(∀ k o,lk k obs' = some o→ORep w' S' 0 (β k) o)→(∀ x y,SRep0 w S β obs x y→SRep0 w' S' β obs' x y)→SRep w' S' β obs' x v→K (a.put oper.dst v) w')→oper.wp P a w K Q
variable {W0 : Bas} {S0 : Nat→Prop} {n : Nat}
theorem srep_of0 {w w' : World} {S S' : Nat→Prop} {β β' : Nat→Value} {obs obs' : Obs} (h : ∀ x y,SRep0 w S β obs x y→SRep0 w' S' β' obs' x y) {x : AV} {y : Value} (hx : SRep w S β obs x y) : SRep w' S' β' obs' x y:=by
 have:=srep_map (f:=fun x=>x) h (fun x hx=>hx) hx
 cases x <;> first | exact this | (simpa [tupMap] using this)
theorem rel_wrote {P : Program} {S S' : Nat→Prop} {β : Nat→Value} {st : St} {a : Act} {w w' : World} {o : Oper} {x : AV} {v : Value} {obs' : Obs} (h : RelS W0 S0 n S β st a w) (hd : okD n o.dst = true)
  (hkeys : ∀ k u,lk k obs' = some u→∃ u',lk k st.obs = some u') (hgr : GrK (obsBlk st.obs β) w S w' S') (hobj : ∀ k o,lk k obs' = some o→ORep w' S' 0 (β k) o) (hsr : ∀ x y,SRep0 w S β st.obs x y→SRep0 w' S' β obs' x y) (hx : SRep w' S' β obs' x v) : RelS W0 S0 n S' β (St.put { slots:=st.slots,obs:=obs',ctr:=st.ctr,par:=st.par } o.dst x) (a.put o.dst v) w':=by
 have hob : (St.put { slots:=st.slots,obs:=obs',ctr:=st.ctr,par:=st.par } o.dst x).obs = obs':=by cases o.dst <;> rfl
 have hct : (St.put { slots:=st.slots,obs:=obs',ctr:=st.ctr,par:=st.par } o.dst x).ctr = st.ctr:=by cases o.dst <;> rfl
 refine ⟨h.gr.trans hgr (fun g hg=>?_),by cases o.dst <;> exact h.par,by rw [put_defers]; exact h.defers,by rw [put_size]; exact h.size,fun t y ht=>?_,by rw [hob]; exact hobj,?_,?_,?_,by rw [hct]; exact h.parc,fun k u hp hu=>by
  rw [hob] at hu
  obtain ⟨u',hu'⟩:=hkeys k u hu
  exact h.fix k u' hp hu'⟩
 ·obtain ⟨k,u,h1,h2⟩:=hg
  have:=h.up k u g h1 h2
  split at this
  ·exact .inl this
  ·exact this.symm
 ·rw [hob]
  cases hdd : o.dst with
  | none =>
   rw [hdd] at ht
   obtain ⟨h1,h2⟩:=h.slots t y ht
   exact ⟨h1,srep_of0 hsr h2⟩
  | some d =>
   rw [hdd] at ht hd
   have hdn : d < n:=by simpa [okD] using hd
   rw [getD_put _ _ _ _ (by rw [h.size]; exact hdn)]
   simp only [St.put,lk] at ht
   by_cases e : d = t
   ·rw [if_pos e] at ht
    injection ht with ht
    subst ht e
    exact ⟨hdn,by rw [if_pos rfl]; exact hx⟩
   ·rw [if_neg e] at ht
    obtain ⟨h1,h2⟩:=h.slots t y ht
    exact ⟨h1,by rw [if_neg (fun h=>e h.symm)]; exact srep_of0 hsr h2⟩
 ·rw [hob]
  intro k u g hu
  obtain ⟨u',hu'⟩:=hkeys k u hu
  exact h.up k u' g hu'
 ·rw [hob]
  intro k k' u u' hu hu'
  obtain ⟨v1,h1⟩:=hkeys k u hu
  obtain ⟨v2,h2⟩:=hkeys k' u' hu'
  exact h.sep k k' v1 v2 h1 h2
 ·rw [hob,hct]
  intro k u hu
  obtain ⟨u',hu'⟩:=hkeys k u hu
  exact h.ctr k u' hu'
theorem rel_write {P : Program} {S : Nat→Prop} {β : Nat→Value} {st : St} {a : Act} {w : World} {o : Oper} {x : AV} {obs' : Obs} {K : St→Prop} {Kr : Act→World→Prop} {Q : Exit→Act→World→Prop} (h : RelS W0 S0 n S β st a w) (hd : okD n o.dst = true) (hg : WGood P (ev st) st.obs o.op obs' x)
  (hkeys : ∀ k u,lk k obs' = some u→∃ u',lk k st.obs = some u') (hk : K (St.put { slots:=st.slots,obs:=obs',ctr:=st.ctr,par:=st.par } o.dst x)) (hK : ∀ st' a' w',K st'→Rel W0 S0 n st' a' w'→Kr a' w') : o.wp P a w Kr Q :=
 hg a w S β h.gr.lt h.gd (fun o _ u hu=>ev_ok h hu) h.objs h.sep o rfl Kr Q (fun v w' S' hgr hobj hsr hx=>hK _ _ _ hk ⟨S',β,rel_wrote (P:=P) h hd hkeys hgr hobj hsr hx⟩)
end Go.Proofs.Ytdnaadcbimbfmaa.Am
namespace Go.Proofs.Ytdnaadcbimbfmaa.Am
open Go Go.RowKit
variable {P : Program}
theorem tup_nil0 {w : World} {S : Nat→Prop} {β : Nat→Value} {obs : Obs} : SRep w S β obs (.tup []) undef:=⟨[],rfl,rfl,fun i u x h=>by simp at h⟩
theorem splice_take {α : Type} (A ys : List α) (a N : Nat) (h : a + ys.length ≤ N) (h2 : N ≤ A.length) : (A.take a ++ ys ++ A.drop (a + ys.length)).take N = (A.take N).take a ++ ys ++ (A.take N).drop (a + ys.length):=by
 have e0 : (A.take a ++ ys).length = a + ys.length:=by simp; omega
 rw [List.take_append,List.take_of_length_le (by omega),e0,List.take_take,Nat.min_eq_left (by omega),List.drop_take]
theorem setCells_mk : ∀ (off : Nat) (ds cs : List AV),off + ds.length ≤ cs.length→setCells off ds cs = some (cs.take off ++ ds ++ cs.drop (off + ds.length)):=by
 intro off
 induction off with
 | zero =>
  intro ds
  induction ds with
  | nil=>intro cs h; simp [setCells]
  | cons x xs ih =>
   intro cs h
   cases cs with
   | nil=>simp at h
   | cons c cs =>
    have:=ih cs (by simp at h; omega)
    simp only [setCells,this]
    simp
 | succ o ih =>
  intro ds cs h
  cases cs with
  | nil=>simp at h
  | cons c cs =>
   have:=ih ds cs (by simp at h; omega)
   simp only [setCells,this]
   simp [show o + 1 + ds.length = o + ds.length + 1 by omega]
theorem setCells_len {off : Nat} {ds cs es : List AV} (h : setCells off ds cs = some es) : es.length = cs.length:=by
 obtain ⟨h1,h2⟩:=setCells_ok _ _ _ _ h
 rw [h1]
 simp
 omega
theorem flatten_set {sz : Nat} {r r' ds : List AV} {off : Nat} (hs : setCells off ds r = some r') : ∀ (rows : List (List AV)) (i : Nat),(∀ q ∈ rows,q.length = sz)→rows[i]? = some r→setCells (i * sz + off) ds rows.flatten = some (rows.set i r').flatten:=by
 obtain ⟨h1,h2⟩:=setCells_ok _ _ _ _ hs
 intro rows
 induction rows with
 | nil=>intro i _ h; simp at h
 | cons q rows ih =>
  intro i hl hi
  have hq : q.length = sz:=hl q List.mem_cons_self
  cases i with
  | zero =>
   simp at hi
   subst hi
   rw [setCells_mk _ _ _ (by simp; omega)]
   simp only [Nat.zero_mul,Nat.zero_add,List.flatten_cons,List.set_cons_zero,h1]
   rw [List.take_append_of_le_length (by omega),List.drop_append_of_le_length (by omega)]
   simp
  | succ i =>
   have:=ih i (fun q hq=>hl q (List.mem_cons_of_mem _ hq)) (by simpa using hi)
   obtain ⟨h3,h4⟩:=setCells_ok _ _ _ _ this
   rw [setCells_mk _ _ _ (by rw [List.flatten_cons,List.length_append,Nat.succ_mul]; omega)]
   simp only [List.flatten_cons,List.set_cons_succ,h3]
   rw [show (i + 1) * sz + off = q.length + (i * sz + off) by rw [Nat.succ_mul,hq]; omega]
   rw [List.take_length_add_append,Nat.add_assoc,List.drop_length_add_append]
   simp
theorem store_run {a : Act} {w : World} {o : Oper} {t : Nat} {x v : Operand} {ti : TI} {g off ty : Nat} {cur : Array Value} {ys : List Value} (hop : o.op = .store t x v) (ht : TOK P t ti) (hx : a.eval x = .pointer (some ⟨g,off,none⟩)) (hy : (a.eval v).cells = ys.toArray) (hl : ys.length = ti.size)
  {fr : Nat × Nat} (hh : w.heap[g]? = some (.cells cur ty fr)) (hfr : frB ty fr cur.size) (hle : off + ys.length ≤ cur.size) (hone : ∀ y ∈ ys,y.oneCell' = true) :
  ∃ w',(execOp a.eval o).run P w = .ok .skip w'∧w'.heap[g]? = some (.cells (cur.toList.take off ++ ys ++ cur.toList.drop (off + ys.length)).toArray ty fr)∧(∀ j,j ≠ g→w'.heap[j]? = w.heap[j]?)∧w'.heap.size = w.heap.size∧w'.os = w.os∧w'.tape = w.tape∧w'.output = w.output:=by
 have hrun:=run_storeCells_B P g off ty fr ys 0 cur w hh hfr (by omega) hone
 simp only [Nat.add_zero] at hrun
 refine ⟨w.setRow g (cur.toList.take off ++ ys ++ cur.toList.drop (off + ys.length)).toArray,?_,setRow_heap w g _ _ ty _ hh,fun j hj=>setRow_other w g j _ hj,by simp,rfl,rfl,rfl⟩
 have hsize : ¬ ((a.eval v).cells.size ≠ ti.size):=by rw [hy]; simp [hl]
 simp only [execOp,hop,hx]
 simp [Instr.storeAt,Instr.sureAddr,storeVar,ht.size,hsize,hy,hl,hrun]
theorem write_one {w w' : World} {S : Nat→Prop} {β : Nat→Value} {obs : Obs} {k g : Nat} {old new : Ob} (hk : lk k obs = some old) (hbk : blkOf (β k) = some g) (hS : ∀ g,S g→g < w.heap.size) (ho : ∀ k o,lk k obs = some o→ORep w S 0 (β k) o)
  (hsep : ∀ k k' o o',lk k obs = some o→lk k' obs = some o'→k ≠ k'→∀ g,blkOf (β k) = some g→blkOf (β k') = some g→False)
  (hother : ∀ j,j ≠ g→w'.heap[j]? = w.heap[j]?) (hsz : w'.heap.size = w.heap.size) (hnew : ORep w' S 0 (β k) new)
  (hrel : match old,new with
   | .row e sz rows ver m,.row e' sz' rows' ver' m'=>e' = e∧sz' = sz∧rows'.length = rows.length∧ver' = ver∧m < m'
   | .box _ _ _,.box _ _ _=>True
   | .mp _ _,.mp _ _=>True
   | .it _ _ _,.it _ _ _=>True
   | _,_=>False) :
  SameOn S w w'∧(∀ j o,lk j ((k,new) :: del k obs) = some o→ORep w' S 0 (β j) o)∧(∀ x y,SRep0 w S β obs x y→SRep0 w' S β ((k,new) :: del k obs) x y):=by
 have hSg : ¬ S g:=(orep_blk (ho k old hk) hbk).2.2
 have hsame : SameOn S w w':=fun j hj=>hother j (fun e=>hSg (e ▸ hj))
 refine ⟨hsame,fun j o hj=>?_,fun x y hxy=>?_⟩
 ·simp only [lk] at hj
  split at hj
  ·rename_i e
   injection hj with hj
   subst hj e
   exact hnew
  ·rename_i e
   rw [lk_del,if_neg (fun h=>e h.symm)] at hj
   refine orep_mono hsame (fun _ h=>h) (fun j' hj'=>⟨hother j' (fun e'=>?_),(orep_blk (ho j o hj) hj').2.2⟩) (ho j o hj)
   subst e'
   exact hsep k j _ o hk hj e j' hbk hj'
 ·have get : ∀ j e sz rows v m,lk j ((k,new) :: del k obs) = some (.row e sz rows v m)→(lk j obs = some (.row e sz rows v m)) ∨ ∃ rows0 m0,lk j obs = some (.row e sz rows0 v m0)∧rows.length = rows0.length∧m0 < m:=by
   intro j e sz rows v m hj
   simp only [lk] at hj
   split at hj
   ·rename_i ee
    injection hj with hj
    subst hj ee
    cases old with
    | box ty cs fz=>exact hrel.elim
    | mp ks vs=>exact hrel.elim
    | it ks vs cur=>exact hrel.elim
    | row e0 sz0 rows0 v0 m0 =>
     obtain ⟨h1,h2,h3,h4,h5⟩:=hrel
     subst h1 h2 h4
     exact .inr ⟨rows0,m0,hk,h3,h5⟩
   ·rename_i ee
    rw [lk_del,if_neg (fun h=>ee h.symm)] at hj
    exact .inl hj
  cases x <;> try exact Rep.mono hsame (fun _ h=>h) hxy
  ·exact hxy
  ·rename_i j v
   intro e sz rows m hj
   rcases get _ _ _ _ _ _ hj with h | ⟨rows0,m0,h,_⟩
   ·exact (show ∀ e sz rows m,lk j obs = some (.row e sz rows v m)→y = β j from hxy) _ _ _ _ h
   ·exact (show ∀ e sz rows m,lk j obs = some (.row e sz rows v m)→y = β j from hxy) _ _ _ _ h
  ·rename_i j v m i cs off
   intro e sz rows m' hj
   rcases get _ _ _ _ _ _ hj with h | ⟨rows0,m0,h,hl,hm⟩
   ·exact (show RelP β obs j v m i cs off y from hxy) _ _ _ _ h
   ·obtain ⟨h1,h2,h3,h4⟩:=(show RelP β obs j v m i cs off y from hxy) _ _ _ _ h
    exact ⟨by omega,by omega,h3,fun e=>by omega⟩
  ·rename_i j v lo
   intro e sz rows m' hj
   rcases get _ _ _ _ _ _ hj with h | ⟨rows0,m0,h,hl,hm⟩
   ·exact (show ∀ e sz rows m,lk j obs = some (.row e sz rows v m)→OslP β j lo sz rows.length y from hxy) _ _ _ _ h
   ·rw [hl]; exact (show ∀ e sz rows m,lk j obs = some (.row e sz rows v m)→OslP β j lo sz rows.length y from hxy) _ _ _ _ h
  ·rename_i j
   intro ks vs hj
   simp only [lk] at hj
   split at hj
   ·rename_i ee
    injection hj with hj
    subst hj ee
    cases old with
    | mp ks0 vs0=>exact (show ∀ ks vs,lk k obs = some (.mp ks vs)→y = β k from hxy) _ _ hk
    | box ty cs fz=>exact hrel.elim
    | it ks vs cur=>exact hrel.elim
    | row e sz rows ver m=>exact hrel.elim
   ·rename_i ee
    rw [lk_del,if_neg (fun h=>ee h.symm)] at hj
    exact (show ∀ ks vs,lk j obs = some (.mp ks vs)→y = β j from hxy) _ _ hj
  ·exact trivial
theorem wgood_ptr {ev : Operand→Option AV} {obs : Obs} {t k off ty : Nat} {x v : Operand} {ti : TI} {u : AV} {cs ds cs' : List AV} {fz : Bool} (ht : TOK P t ti) (hx : ev x = some (.ptr k off)) (hu : ev v = some u) (hk : lk k obs = some (.box ty cs fz)) (hc : cellsOf u = some ds) (hl : ds.length = ti.size) (hs : setCells off ds cs = some cs') :
  WGood P ev obs (.store t x v) ((k,.box ty cs' fz) :: del k obs) (.tup []):=by
 intro a w S β hS hgd hev ho hsep o hop K Q hK
 obtain ⟨g,h1,h2⟩:=(show ∃ g,β k = .pointer (some ⟨g,0,none⟩)∧a.eval x = .pointer (some ((⟨g,0,none⟩ : Addr).add off)) from hev x (by simp [Op.operands]) _ hx)
 obtain ⟨g',xs,he,hB,hSg,hh,hr⟩:=ho _ _ hk
 rw [h1] at he
 injection he with he
 injection he with he
 injection he with he
 subst he
 obtain ⟨ys,hy,hry⟩:=cells_of hc (hev v (by simp [Op.operands]) _ hu)
 have hyl : ys.length = ti.size:=by rw [← hry.1,hl]
 have hle:=(setCells_ok _ _ _ _ hs).2
 have hset:=repl_set hs hr hry
 rw [add_mk] at h2
 have hcl:=hr.1
 obtain ⟨w',hexec,hheap,hother,hsz,e1,e2,e3⟩:=store_run (P:=P) hop ht (by simpa using h2) hy hyl hh (.inl rfl) (by simp; omega) hry.one
 simp only [] at hheap
 have hsame0 : SameOn S w w':=fun j hj=>hother j (fun e=>hSg (e ▸ hj))
 obtain ⟨hsame,hobj,hsr⟩:=write_one (new:=.box ty cs' fz) hk (by rw [h1]; rfl) hS ho hsep hother hsz ⟨g,_,h1,Nat.zero_le _,hSg,hheap,hset.mono hsame0 (fun _ h=>h)⟩ trivial
 unfold Oper.wp
 rw [hexec]
 exact hK undef w' S ⟨e1,e2,e3,by omega,fun j _ hT=>hother j (fun e=>hT ⟨k,_,hk,by rw [h1,e]; rfl⟩),fun _ h=>h,fun _ h=>.inl h,fun j hj=>by rw [hsz]; exact hS j hj,hgd,hgd.mono hsame (fun _ h=>h)⟩ hobj hsr tup_nil0
theorem wgood_rel {ev : Operand→Option AV} {obs : Obs} {t k e sz ver mver m i off : Nat} {rows : List (List AV)} {x v : Operand} {ti : TI} {u : AV} {cs0 ds : List AV} {r r' : List AV} (ht : TOK P t ti) (hx : ev x = some (.rel k ver mver i cs0 off)) (hu : ev v = some u) (hk : lk k obs = some (.row e sz rows ver m)) (hc : cellsOf u = some ds) (hl : ds.length = ti.size)
  (hr : rows[i]? = some r) (hs : setCells off ds r = some r') :
  WGood P ev obs (.store t x v) ((k,.row e sz (rows.set i r') ver (m + 1)) :: del k obs) (.tup []):=by
 intro a w S β hS hgd hev ho hsep o hop K Q hK
 obtain ⟨hmv,hi,⟨g,n,c,h1,h2⟩,_⟩:=(show RelP β obs k ver mver i cs0 off (a.eval x) from hev x (by simp [Op.operands]) _ hx) _ _ _ _ hk
 obtain ⟨xs,hown,hrep,hlen,hSv⟩:=ho _ _ hk
 obtain ⟨ys,hy,hry⟩:=cells_of hc (hev v (by simp [Op.operands]) _ hu)
 have hyl : ys.length = ti.size:=by rw [← hry.1,hl]
 have hfs:=flatten_set hs rows i hlen hr
 have hle:=(setCells_ok _ _ _ _ hfs).2
 have hset:=repl_set hfs hrep hry
 rw [add_mk] at h2
 have hxl : xs.length = rows.flatten.length:=hrep.1.symm
 rcases hown.2 with ⟨hv,_⟩ | ⟨g',cap,cur,fr,hv,_,hh,hfr,hn,hm,hcs,htake⟩
 ·rw [h1] at hv; simp at hv
 ·rw [h1] at hv
  injection hv with h3 h4 h5
  injection h3 with h3
  injection h3 with h3
  subst h3 h4 h5
  have hfl : rows.flatten.length = rows.length * sz:=flatten_len rows hlen
  have hcap : rows.length * sz ≤ c * sz:=Nat.mul_le_mul_right _ hn
  obtain ⟨w',hexec,hheap,hother,hsz,e1,e2,e3⟩:=store_run (P:=P) hop ht (by simpa using h2) hy hyl hh hfr (by rw [← hry.1]; omega) hry.one
  have hSg : ¬ S g:=hSv g (by rw [h1]; rfl)
  have hsame0 : SameOn S w w':=fun j hj=>hother j (fun e=>hSg (e ▸ hj))
  have hdl : ds.length = ys.length:=hry.1
  have hown' : OwnR w' 0 e sz (β k) (rows.set i r').length (xs.take (i * sz + off) ++ ys ++ xs.drop (i * sz + off + ys.length)):=by
   refine ⟨?_,.inr ⟨g,c,_,fr,by rw [h1,List.length_set],Nat.zero_le _,hheap,?_,by simpa using hn,hm,?_,?_⟩⟩
   ·simp
    omega
   ·rw [show (cur.toList.take (i * sz + off) ++ ys ++ cur.toList.drop (i * sz + off + ys.length)).toArray.size = cur.size by simp; omega]; exact hfr
   ·simp
    omega
   ·simp only [List.length_set]
    have hx : xs = cur.toList.take (rows.length * sz):=htake.symm
    have hcl : (cur.toList).length = c * sz:=by simpa using hcs
    have:=splice_take cur.toList ys (i * sz + off) (rows.length * sz) (by omega) (by omega)
    rw [hx]
    simpa using this
  obtain ⟨hsame,hobj,hsr⟩:=write_one (new:=.row e sz (rows.set i r') ver (m + 1)) hk (by rw [h1]; rfl) hS ho hsep hother hsz ⟨_,hown',hset.mono hsame0 (fun _ h=>h),fun q hq=>by
    rcases List.mem_or_eq_of_mem_set hq with h | h
    ·exact hlen q h
    ·subst h; rw [setCells_len hs]; exact hlen r (List.mem_of_getElem? hr),hSv⟩ ⟨rfl,rfl,by simp,rfl,by omega⟩
  unfold Oper.wp
  rw [hexec]
  exact hK undef w' S ⟨e1,e2,e3,by omega,fun j _ hT=>hother j (fun e=>hT ⟨k,_,hk,by rw [h1,e]; rfl⟩),fun _ h=>h,fun _ h=>.inl h,fun j hj=>by rw [hsz]; exact hS j hj,hgd,hgd.mono hsame (fun _ h=>h)⟩ hobj hsr tup_nil0
theorem write_none {w : World} {S : Nat→Prop} {β : Nat→Value} {obs : Obs} {k e sz ver m : Nat} {rows : List (List AV)} (hk : lk k obs = some (.row e sz rows ver m)) (ho : ∀ k o,lk k obs = some o→ORep w S 0 (β k) o) :
  (∀ j o,lk j ((k,Ob.row e sz rows ver (m + 1)) :: del k obs) = some o→ORep w S 0 (β j) o)∧(∀ x y,SRep0 w S β obs x y→SRep0 w S β ((k,Ob.row e sz rows ver (m + 1)) :: del k obs) x y):=by
 have get : ∀ j o,lk j ((k,Ob.row e sz rows ver (m + 1)) :: del k obs) = some o→(lk j obs = some o) ∨ (j = k∧o = .row e sz rows ver (m + 1)):=by
  intro j o hj
  simp only [lk] at hj
  split at hj
  ·rename_i ee
   injection hj with hj
   exact .inr ⟨ee.symm,hj.symm⟩
  ·rename_i ee
   rw [lk_del,if_neg (fun h=>ee h.symm)] at hj
   exact .inl hj
 refine ⟨fun j o hj=>?_,fun x y hxy=>?_⟩
 ·rcases get j o hj with h | ⟨rfl,rfl⟩
  ·exact ho j o h
  ·exact (show ORep w S 0 (β j) (.row e sz rows ver (m + 1)) from ho j (.row e sz rows ver m) hk)
 ·cases x <;> try exact hxy
  ·rename_i j v
   intro e2 sz2 rows2 m2 hj
   rcases get _ _ hj with h | ⟨rfl,h⟩
   ·exact (show ∀ e sz rows m,lk j obs = some (.row e sz rows v m)→y = β j from hxy) _ _ _ _ h
   ·injection h with h1 h2 h3 h4 h5
    subst h1 h2 h3 h4 h5
    exact (show ∀ e sz rows m,lk j obs = some (.row e sz rows v m)→y = β j from hxy) _ _ _ _ hk
  ·rename_i j v m1 i cs off
   intro e2 sz2 rows2 m2 hj
   rcases get _ _ hj with h | ⟨rfl,h⟩
   ·exact (show RelP β obs j v m1 i cs off y from hxy) _ _ _ _ h
   ·injection h with h1 h2 h3 h4 h5
    subst h1 h2 h3 h4 h5
    obtain ⟨h1,h2,h3,h4⟩:=(show RelP β obs j v m1 i cs off y from hxy) _ _ _ _ hk
    exact ⟨by omega,h2,h3,fun e=>by omega⟩
  ·rename_i j v lo
   intro e2 sz2 rows2 m2 hj
   rcases get _ _ hj with h | ⟨rfl,h⟩
   ·exact (show ∀ e sz rows m,lk j obs = some (.row e sz rows v m)→OslP β j lo sz rows.length y from hxy) _ _ _ _ h
   ·injection h with h1 h2 h3 h4 h5
    subst h1 h2 h3 h4 h5
    exact (show ∀ e sz rows m,lk j obs = some (.row e sz rows v m)→OslP β j lo sz rows.length y from hxy) _ _ _ _ hk
  ·rename_i j
   intro ks vs hj
   rcases get _ _ hj with h | ⟨rfl,h⟩
   ·exact (show ∀ ks vs,lk j obs = some (.mp ks vs)→y = β j from hxy) _ _ h
   ·cases h
theorem flat_rep {α : Type} (l : List α) : ∀ (n i : Nat),((List.replicate n l).flatten)[i]? = if i < n * l.length then l[i % l.length]? else none:=by
 intro n
 induction n with
 | zero=>intro i; simp
 | succ n ih =>
  intro i
  rw [List.replicate_succ,List.flatten_cons,Nat.succ_mul]
  by_cases h : i < l.length
  ·rw [List.getElem?_append_left h,if_pos (by omega),Nat.mod_eq_of_lt h]
  ·rw [List.getElem?_append_right (by omega),ih]
   by_cases h2 : i < n * l.length + l.length
   ·rw [if_pos (by omega),if_pos h2,← Nat.mod_eq_sub_mod (by omega)]
   ·rw [if_neg (by omega),if_neg h2]
theorem zeroCells_list (zc : Array Value) (n : Nat) : (Builtin.zeroCells zc n).toList = (List.replicate n zc.toList).flatten:=by
 refine List.ext_getElem? fun i=>?_
 rw [flat_rep]
 unfold Builtin.zeroCells
 simp only [Array.toList_map,Array.toList_range,List.getElem?_map,Array.length_toList]
 by_cases h : i < n * zc.size
 ·have h0 : 0 < zc.size:=by
   rcases Nat.eq_zero_or_pos zc.size with e | e
   ·rw [e] at h; simp at h
   ·exact e
  rw [if_pos h,List.getElem?_range h]
  have hm:=Nat.mod_lt i h0
  simp [hm]
 ·rw [if_neg h,List.getElem?_eq_none (by simp; omega)]; rfl
theorem repl_rep {w : World} {S : Nat→Prop} {cs : List AV} {xs : List Value} (h : RepL w S cs xs) : ∀ n,RepL w S (List.replicate n cs).flatten (List.replicate n xs).flatten:=by
 intro n
 induction n with
 | zero=>exact RepL.nil _ _
 | succ n ih=>simp only [List.replicate_succ,List.flatten_cons]; exact h.append ih
theorem wgood_clear {ev : Operand→Option AV} {obs : Obs} {t k e e' sz ver m lo bytes : Nat} {rows : List (List AV)} {x : Operand} {ti te : TI} (ht : TOK P t ti) (hkd : ti.kind = .sli e sz bytes) (hte : TOK P e te) (hx : ev x = some (.osl k ver lo)) (hk : lk k obs = some (.row e' sz rows ver m)) :
  WGood P ev obs (.call { callee:=.builtin .clear,args:=#[x],argTypes:=#[t] }) ((k,.row e' sz (rows.take lo ++ List.replicate (rows.length - lo) te.zero) ver (m + 1)) :: del k obs) (.tup []):=by
 intro a w S β hS hgd hev ho hsep o hop K Q hK
 obtain ⟨hlo,ad,c',hy,hnz⟩:=(show ∀ e sz rows m,lk k obs = some (.row e sz rows ver m)→OslP β k lo sz rows.length (a.eval x) from hev x (by simp [Op.operands,Call.operands]) _ hx) _ _ _ _ hk
 obtain ⟨xs,hown,hrep,hlen,hSv⟩:=ho _ _ hk
 have hkd':=ht.kind
 rw [hkd] at hkd'
 obtain ⟨hu,⟨hpos,hposb⟩,inf,z0,hinf,hz0,hsz0,hby,hzs⟩:=hkd'
 obtain ⟨z,hz,hzl,hzr⟩:=hte.zero w
 have hzsz : te.size = sz:=by
  have h1:=hte.size w
  rw [run_sizeOf_info (P:=P) hinf hsz0 w] at h1
  injection h1 with h1
  exact h1.symm
 by_cases hn : rows.length - lo = 0
 ·have hrows : rows.take lo ++ List.replicate (rows.length - lo) te.zero = rows:=by rw [hn,List.take_of_length_le (by omega)]; simp
  rw [hrows] at hK
  obtain ⟨hobj,hsr⟩:=write_none hk ho
  rw [hn] at hy
  have hexec : (execOp a.eval o).run P w = .ok (.value (.tuple #[])) w:=by
   cases ad with
   | none=>simp [execOp,hop,resolve,invoke,builtin,Builtin.clear_,hy,run_underlying hu]
   | some ad=>simp [execOp,hop,resolve,invoke,builtin,Builtin.clear_,hy,run_underlying hu]
  refine wp_val hexec ?_
  exact hK _ w S ⟨rfl,rfl,rfl,Nat.le_refl _,fun _ _ _=>rfl,fun _ h=>h,fun _ h=>.inl h,hS,hgd,hgd⟩ hobj hsr tup_nil0
 ·obtain ⟨g,n',c,hβ,had⟩:=hnz (by omega)
  subst had
  rcases hown.2 with ⟨hv,_⟩ | ⟨g',cap,cur,fr,hv,_,hh,hfr,hnc,hm,hcs,htake⟩
  ·rw [hβ] at hv; simp at hv
  ·rw [hβ] at hv
   injection hv with h3 h4 h5
   injection h3 with h3
   injection h3 with h3
   subst h3 h4 h5
   have hSg : ¬ S g:=hSv g (by rw [hβ]; rfl)
   have hfl : rows.flatten.length = rows.length * sz:=flatten_len rows hlen
   have hxl : xs.length = rows.length * sz:=by rw [← hrep.1,hfl]
   obtain ⟨ys,hys⟩ : ∃ ys,ys = (List.replicate (rows.length - lo) z.cells.toList).flatten:=⟨_,rfl⟩
   have hzl2 : z.cells.toList.length = sz:=by simp [hzl,hzsz]
   have hyl : ys.length = (rows.length - lo) * sz:=by rw [hys]; simp [List.length_flatten,hzl2]
   have hcap : rows.length * sz ≤ c * sz:=Nat.mul_le_mul_right _ hnc
   have hsub : lo * sz + (rows.length - lo) * sz = rows.length * sz:=by rw [← Nat.add_mul]; congr 1; omega
   have hzc : (Builtin.zeroCells z.cells (rows.length - lo)).toList = ys:=by rw [zeroCells_list,hys]
   have hone : ∀ y ∈ ys,y.oneCell' = true:=((repl_rep (hzr w S) (rows.length - lo)).one) |> fun h=>by rw [hys]; exact h
   have hrun:=run_storeCells_B P g (lo * sz) _ fr ys 0 cur w hh hfr (by omega) hone
   simp only [Nat.add_zero] at hrun
   have hexec : (execOp a.eval o).run P w = .ok (.value (.tuple #[])) (w.setRow g (cur.toList.take (lo * sz) ++ ys ++ cur.toList.drop (lo * sz + ys.length)).toArray):=by
    have hnn : ∃ q,rows.length - lo = q + 1:=⟨rows.length - lo - 1,by omega⟩
    obtain ⟨q,hq⟩:=hnn
    rw [hq] at hy hzc
    rw [add_mk] at hy
    simp only [execOp,hop,resolve,invoke,builtin,Builtin.clear_]
    simp [hy,run_underlying hu,hz,hzc,hrun]
   have hheap:=setRow_heap w g cur (cur.toList.take (lo * sz) ++ ys ++ cur.toList.drop (lo * sz + ys.length)).toArray _ _ hh
   have hother : ∀ j,j ≠ g→(w.setRow g (cur.toList.take (lo * sz) ++ ys ++ cur.toList.drop (lo * sz + ys.length)).toArray).heap[j]? = w.heap[j]?:=fun j hj=>setRow_other w g j _ hj
   have hsize : (w.setRow g (cur.toList.take (lo * sz) ++ ys ++ cur.toList.drop (lo * sz + ys.length)).toArray).heap.size = w.heap.size:=by simp
   generalize hw' : w.setRow g (cur.toList.take (lo * sz) ++ ys ++ cur.toList.drop (lo * sz + ys.length)).toArray = w' at *
   have hsame0 : SameOn S w w':=fun j hj=>hother j (fun e=>hSg (e ▸ hj))
   have hlen2 : (rows.take lo ++ List.replicate (rows.length - lo) te.zero).length = rows.length:=by simp; omega
   have hzz : te.zero.length = sz:=by rw [(hzr w S).1,hzl2]
   have hrep' : RepL w S (rows.take lo ++ List.replicate (rows.length - lo) te.zero).flatten (xs.take (lo * sz) ++ ys):=by
    rw [List.flatten_append]
    refine RepL.append ?_ (by rw [hys]; exact repl_rep (hzr w S) _)
    have : (rows.take lo).flatten = rows.flatten.take (lo * sz):=by
     have h1 : rows.flatten = (rows.take lo).flatten ++ (rows.drop lo).flatten:=by rw [← List.flatten_append,List.take_append_drop]
     have h2 : (rows.take lo).flatten.length = lo * sz:=by
      rw [flatten_len (sz:=sz) _ (fun r hr=>hlen r (List.mem_of_mem_take hr)),List.length_take,Nat.min_eq_left hlo]
     conv=>rhs; rw [h1,List.take_append_of_le_length (by omega),List.take_of_length_le (by omega)]
    rw [this]
    exact hrep.take _
   have hcl : (cur.toList).length = c * sz:=by simpa using hcs
   have hown' : OwnR w' 0 e' sz (β k) (rows.take lo ++ List.replicate (rows.length - lo) te.zero).length (xs.take (lo * sz) ++ ys):=by
    rw [hlen2]
    refine ⟨by rw [List.length_append,List.length_take,hyl,hxl]; omega,.inr ⟨g,c,_,fr,hβ,Nat.zero_le _,hheap,?_,hnc,hm,?_,?_⟩⟩
    ·rw [show (cur.toList.take (lo * sz) ++ ys ++ cur.toList.drop (lo * sz + ys.length)).toArray.size = cur.size by simp; omega]; exact hfr
    ·simp
     omega
    ·have hx : xs = cur.toList.take (rows.length * sz):=htake.symm
     have:=splice_take cur.toList ys (lo * sz) (rows.length * sz) (by omega) (by omega)
     simp only [List.toList_toArray] at this ⊢
     rw [this,hx,List.take_take,Nat.min_eq_left (by omega),List.drop_of_length_le (l:=List.take _ _) (by simp; omega)]
     simp
   obtain ⟨hsame,hobj,hsr⟩:=write_one (new:=.row e' sz (rows.take lo ++ List.replicate (rows.length - lo) te.zero) ver (m + 1)) hk (by rw [hβ]; rfl) hS ho hsep hother hsize ⟨_,hown',hrep'.mono hsame0 (fun _ h=>h),fun q hq=>by
     rcases List.mem_append.1 hq with h | h
     ·exact hlen q (List.mem_of_mem_take h)
     ·rw [(List.mem_replicate.1 h).2]; exact hzz,hSv⟩ ⟨rfl,rfl,hlen2,rfl,by omega⟩
   refine wp_val hexec ?_
   have e1 : w'.os = w.os:=by rw [← hw']; rfl
   have e2 : w'.tape = w.tape:=by rw [← hw']; rfl
   have e3 : w'.output = w.output:=by rw [← hw']; rfl
   exact hK _ w' S ⟨e1,e2,e3,by omega,fun j _ hT=>hother j (fun e=>hT ⟨k,_,hk,by rw [hβ,e]; rfl⟩),fun _ h=>h,fun _ h=>.inl h,fun j hj=>by rw [hsize]; exact hS j hj,hgd,hgd.mono hsame (fun _ h=>h)⟩ hobj hsr tup_nil0
theorem ent_miss {s : ByteArray} {v : AV} : ∀ (ks : List ByteArray) (vs : List AV) (es : List MapEntry) (i : Nat),es.map (·.key) = ks.map Value.string→vs.length = ks.length→fnd ks es s i = none→mputK ks s = ks ++ [s]∧mputV ks vs s v = vs ++ [v]
 | [],[],_,_,_,_,_=>⟨rfl,rfl⟩
 | [],_ :: _,_,_,_,h,_=>by simp at h
 | _ :: _,[],_,_,_,h,_=>by simp at h
 | _ :: _,_ :: _,[],_,h,_,_=>by cases h
 | k :: ks,u :: vs,e :: es,i,hk,hl,hf=>by
  simp only [List.map_cons,List.cons.injEq] at hk
  unfold fnd at hf
  split at hf
  ·cases hf
  ·rename_i hne
   obtain ⟨h1,h2⟩:=ent_miss (s:=s) (v:=v) ks vs es (i + 1) hk.2 (by simpa using hl) hf
   unfold mputK mputV
   rw [if_neg hne,if_neg hne,h1,h2]
   exact ⟨rfl,rfl⟩
theorem ent_hit {w : World} {S : Nat→Prop} {s : ByteArray} {v : AV} {y : Value} (hv : Rep w S v y) : ∀ (ks : List ByteArray) (vs : List AV) (es : List MapEntry) (i j : Nat) (y0 : Value),es.map (·.key) = ks.map Value.string→vs.length = ks.length→(∀ (j : Nat) (u : AV) (e : MapEntry),vs[j]? = some u→es[j]? = some e→Rep w S u e.val)→fnd ks es s i = some (j,y0) →
  ∃ n,j = i + n∧(∃ e,es[n]? = some e∧e.key = .string s)∧(es.modify n fun e=>{ e with key:=.string s,val:=y }).map (·.key) = (mputK ks s).map Value.string∧(mputV ks vs s v).length = (mputK ks s).length ∧
   ∀ (j : Nat) (u : AV) (e : MapEntry),(mputV ks vs s v)[j]? = some u→(es.modify n fun e=>{ e with key:=.string s,val:=y })[j]? = some e→Rep w S u e.val
 | [],_,_,_,_,_,_,_,_,h=>by simp [fnd] at h
 | _ :: _,[],_,_,_,_,_,h,_,_=>by simp at h
 | _ :: _,_ :: _,[],_,_,_,h,_,_,_=>by cases h
 | k :: ks,u :: vs,e :: es,i,j,y0,hk,hl,hr,hf=>by
  simp only [List.map_cons,List.cons.injEq] at hk
  unfold fnd at hf
  by_cases hks : k = s
  ·rw [if_pos hks] at hf
   injection hf with hf
   injection hf with hf1 hf2
   subst hks
   refine ⟨0,by omega,⟨e,rfl,hk.1⟩,?_,?_,?_⟩
   ·unfold mputK; rw [if_pos rfl]; simp [hk.2]
   ·unfold mputK mputV; rw [if_pos rfl,if_pos rfl]; simpa using hl
   ·intro j u' e' hu he
    unfold mputV at hu
    rw [if_pos rfl] at hu
    cases j with
    | zero=>simp at hu he; subst hu he; exact hv
    | succ j=>exact hr (j + 1) u' e' (by simpa using hu) (by simpa using he)
  ·rw [if_neg hks] at hf
   obtain ⟨n,h1,h2,h3,h4,h5⟩:=ent_hit hv ks vs es (i + 1) j y0 hk.2 (by simpa using hl) (fun j u e' hu he=>hr (j + 1) u e' (by simpa using hu) (by simpa using he)) hf
   refine ⟨n + 1,by omega,?_,?_,?_,?_⟩
   ·obtain ⟨e',he,hke⟩:=h2; exact ⟨e',by simpa using he,hke⟩
   ·unfold mputK; rw [if_neg hks]; simp only [List.modify_succ_cons,List.map_cons]; rw [h3,hk.1]
   ·unfold mputK mputV; rw [if_neg hks,if_neg hks]; simp [h4]
   ·intro j u' e' hu he
    unfold mputV at hu
    rw [if_neg hks] at hu
    cases j with
    | zero=>simp at hu he; subst hu he; exact hr 0 _ _ rfl rfl
    | succ j=>exact h5 j u' e' (by simpa using hu) (by simpa using he)
theorem stays_str (s : ByteArray) (w : World) : (Instr.keyThatStays (.string s) (.string s)).run P w = .ok (.string s) w:=by
 unfold Instr.keyThatStays
 have : Instr.sameBits 10000 (.string s) (.string s) = true:=by
  show Instr.sameBits (9999 + 1) (.string s) (.string s) = true
  unfold Instr.sameBits
  rw [bytes_beqA]; exact decide_eq_true rfl
 simp [this]
theorem setObj_map {w : World} {r : Nat} {es : Array MapEntry} {clock : Nat} (o : Obj) (hb : w.heap[r]? = some (.map es clock)) : (setObj r o).run P w = .ok () { w with heap:=w.heap.setIfInBounds r o }:=by simp [setObj,Sem.run,hb]
theorem births_push {es : Array MapEntry} {clock : Nat} (hn : (es.toList.map (·.born)).Nodup) (hb : ∀ x ∈ es.toList,x.born < clock) (e : MapEntry) (he : e.born = clock) : ((es.push e).toList.map (·.born)).Nodup:=by
 rw [Array.toList_push,List.map_append,List.nodup_append]
 refine ⟨hn,by simp,fun a ha b hb' hab=>?_⟩
 obtain ⟨x,hx,rfl⟩:=List.mem_map.1 ha
 simp at hb'
 have:=hb x hx
 omega
theorem born_push {es : Array MapEntry} {clock : Nat} (hb : ∀ x ∈ es.toList,x.born < clock) (e : MapEntry) (he : e.born = clock) : ∀ x ∈ (es.push e).toList,x.born < clock + 1:=fun x hx=>by
 rw [Array.toList_push,List.mem_append] at hx
 rcases hx with hx | hx
 ·have:=hb x hx; omega
 ·simp at hx; subst hx; omega
theorem births_modify (es : Array MapEntry) (j : Nat) (f : MapEntry→MapEntry) (hf : ∀ e,(f e).born = e.born) : (es.modify j f).toList.map (·.born) = es.toList.map (·.born):=by
 rw [Array.toList_modify]
 apply List.ext_getElem?
 intro i
 rw [List.getElem?_map,List.getElem?_map,List.getElem?_modify]
 cases es.toList[i]? with
 | none=>rfl
 | some e=>simp only [Option.map_some]; split <;> simp [hf]
theorem born_modify {es : Array MapEntry} {clock : Nat} (hb : ∀ x ∈ es.toList,x.born < clock) (j : Nat) (f : MapEntry→MapEntry) (hf : ∀ e,(f e).born = e.born) : ∀ x ∈ (es.modify j f).toList,x.born < clock:=fun x hx=>by
 have h1 : x.born ∈ (es.modify j f).toList.map (·.born):=List.mem_map_of_mem hx
 rw [births_modify es j f hf] at h1
 obtain ⟨y,hy,he⟩:=List.mem_map.1 h1
 have:=hb y hy
 omega
theorem wgood_map {ev : Operand→Option AV} {obs : Obs} {t k e ko : Nat} {m x v : Operand} {ti : TI} {s : ByteArray} {u : AV} {ks ks' : List ByteArray} {vs vs' : List AV} (ht : TOK P t ti) (hkd : ti.kind = .mp k e) (hm : ev m = some (.mo ko)) (hx : ev x = some (.v (.string s))) (hu : ev v = some u) (hok : okArg u = true) (hk : lk ko obs = some (.mp ks vs)) (hmp : MP ks vs s (plain u) ks' vs') :
  WGood P ev obs (.mapUpdate t m x v) ((ko,.mp ks' vs') :: del ko obs) (.tup []):=by
 intro a w S β hS hgd hev ho hsep o hop K Q hK
 obtain ⟨r,es,clock,hb,hB,hSr,hh,h1,h2,hnd,hbd,h3⟩:=ho _ _ hk
 have hy : a.eval m = .map (some r):=((show ∀ ks vs,lk ko obs = some (.mp ks vs)→a.eval m = β ko from hev m (by simp [Op.operands]) _ hm) _ _ hk).trans hb
 have hxs : a.eval x = .string s:=srep_v (hev x (by simp [Op.operands]) _ hx)
 have hv : Rep w S (plain u) (a.eval v):=rep_plain (by have:=hev v (by simp [Op.operands]) _ hu; cases u <;> first | exact this | simp [okArg] at hok)
 have hkk:=ht.kind
 rw [hkd] at hkk
 obtain ⟨hun,hks⟩:=hkk
 obtain ⟨e1,e2⟩:=hmp
 have hf:=findKey_str hks s ks es.toList h1 w
 have hg:=getObj_map (P:=P) hh
 obtain ⟨es',clock',hrun,g1,g2,hnd',hbd',g3⟩ : ∃ es' clock',(execOp a.eval o).run P w = .ok .skip { w with heap:=w.heap.setIfInBounds r (.map es' clock') }∧es'.toList.map (·.key) = ks'.map Value.string∧vs'.length = ks'.length∧(es'.toList.map (·.born)).Nodup∧(∀ x ∈ es'.toList,x.born < clock')∧∀ (i : Nat) (u : AV) (e : MapEntry),vs'[i]? = some u→es'.toList[i]? = some e→Rep w S u e.val:=by
  cases hfd : fnd ks es.toList s 0 with
  | none =>
   obtain ⟨q1,q2⟩:=ent_miss (s:=s) (v:=plain u) ks vs es.toList 0 h1 h2 hfd
   refine ⟨es.push { key:=.string s,val:=a.eval v,born:=clock },clock + 1,?_,?_,?_,births_push hnd hbd _ rfl,born_push hbd _ rfl,?_⟩
   ·have hso:=setObj_map (P:=P) (Obj.map (es.push { key:=.string s,val:=a.eval v,born:=clock }) (clock + 1)) hh
    simp [execOp,hop,Instr.mapUpdate,run_underlying hun,hy,hxs,hg,checkKey_str _ 9999 hks,hf,hfd,hso]
   ·rw [e1,q1]; simp [h1]
   ·rw [e1,e2,q1,q2]; simp [h2]
   ·intro i u' e' hu' he'
    rw [e2,q2] at hu'
    rw [Array.toList_push] at he'
    have hel : es.toList.length = vs.length:=by rw [h2,← List.length_map (f:=fun x : MapEntry=>x.key),h1,List.length_map]
    by_cases hi : i < vs.length
    ·rw [List.getElem?_append_left hi] at hu'
     rw [List.getElem?_append_left (by omega)] at he'
     exact h3 i u' e' hu' he'
    ·rw [List.getElem?_append_right (by omega)] at hu'
     rw [List.getElem?_append_right (by omega),hel] at he'
     have hi0 : i - vs.length = 0:=by
      by_cases h0 : i - vs.length = 0
      ·exact h0
      ·rw [List.getElem?_eq_none (by simp; omega)] at hu'; cases hu'
     rw [hi0] at hu' he'
     simp at hu' he'
     subst hu' he'
     exact hv
  | some jy =>
   obtain ⟨j,y0⟩:=jy
   obtain ⟨n,q1,⟨e0,q2,q3⟩,q4,q5,q6⟩:=ent_hit hv ks vs es.toList 0 j y0 h1 h2 h3 hfd
   have hj : j = n:=by omega
   subst hj
   have hej : es[j]? = some e0:=by simpa using q2
   refine ⟨es.modify j fun e=>{ e with key:=.string s,val:=a.eval v },clock,?_,?_,?_,by rw [births_modify es j (fun e : MapEntry=>{ e with key:=.string s,val:=a.eval v }) (fun _=>rfl)]; exact hnd,fun x hx=>born_modify hbd j (fun e : MapEntry=>{ e with key:=.string s,val:=a.eval v }) (fun _=>rfl) x hx,?_⟩
   ·have hso:=setObj_map (P:=P) (Obj.map (es.modify j fun e=>{ e with key:=.string s,val:=a.eval v }) clock) hh
    have hst:=stays_str (P:=P) s w
    simp [execOp,hop,Instr.mapUpdate,run_underlying hun,hy,hxs,hg,checkKey_str _ 9999 hks,hf,hfd,hej,q3,hst,hso]
   ·rw [e1,Array.toList_modify]; exact q4
   ·rw [e1,e2]; exact q5
   ·intro i u' e' hu' he'
    rw [Array.toList_modify] at he'
    rw [e2] at hu'
    exact q6 i u' e' hu' he'
 have hlt : r < w.heap.size:=(Array.getElem?_eq_some_iff.1 hh).1
 obtain ⟨w',hw'⟩ : ∃ w',w' = ({ w with heap:=w.heap.setIfInBounds r (.map es' clock') } : World):=⟨_,rfl⟩
 rw [← hw'] at hrun
 have hheap : w'.heap[r]? = some (.map es' clock'):=by rw [hw']; simp [hlt]
 have hother : ∀ j,j ≠ r→w'.heap[j]? = w.heap[j]?:=fun j hj=>by rw [hw']; simp [Array.getElem?_setIfInBounds_ne (Ne.symm hj)]
 have hsz : w'.heap.size = w.heap.size:=by rw [hw']; simp
 have hsame0 : SameOn S w w':=fun j hj=>hother j (fun e=>hSr (e ▸ hj))
 obtain ⟨hsame,hobj,hsr⟩:=write_one (new:=.mp ks' vs') hk (by rw [hb]; rfl) hS ho hsep hother hsz ⟨r,es',clock',hb,Nat.zero_le _,hSr,hheap,g1,g2,hnd',hbd',fun i u e hu he=>(g3 i u e hu he).mono hsame0 (fun _ h=>h)⟩ trivial
 unfold Oper.wp
 rw [hrun]
 exact hK undef w' S ⟨by rw [hw'],by rw [hw'],by rw [hw'],by omega,fun j _ hT=>hother j (fun e=>hT ⟨ko,_,hk,by rw [hb,e]; rfl⟩),fun _ h=>h,fun _ h=>.inl h,fun j hj=>by rw [hsz]; exact hS j hj,hgd,hgd.mono hsame (fun _ h=>h)⟩ hobj hsr tup_nil0
end Go.Proofs.Ytdnaadcbimbfmaa.Am
namespace Go.Proofs.Ytdnaadcbimbfmaa.Am
open Go Go.RowKit
variable {P : Program}
theorem keysOf_le : ∀ (l : List AV) (p q : Nat) (k : Nat),lk q (keysOf p l) = some k→p ≤ q:=by
 intro l
 induction l with
 | nil=>intro p q k h; simp [keysOf,lk] at h
 | cons x l ih =>
  intro p q k h
  cases x <;> simp only [keysOf,lk] at h <;> first
   | (have:=ih _ _ _ h; omega)
   | (split at h <;> first | omega | (have:=ih _ _ _ h; omega))
theorem lk_memV : ∀ (l : List (Nat × Nat)) (q k : Nat),lk q l = some k→memV k l = true:=by
 intro l
 induction l with
 | nil=>intro q k h; simp [lk] at h
 | cons p l ih =>
  obtain ⟨a,b⟩:=p
  intro q k h
  simp only [lk] at h
  simp only [memV]
  split at h
  ·injection h with h; subst h; simp
  ·split
   ·rfl
   ·exact ih _ _ h
theorem nodV_inj : ∀ (l : List (Nat × Nat)),nodV l = true→∀ q q' k,lk q l = some k→lk q' l = some k→q = q':=by
 intro l
 induction l with
 | nil=>intro _ q q' k h; simp [lk] at h
 | cons p l ih =>
  obtain ⟨a,b⟩:=p
  intro hn q q' k h h'
  simp only [nodV] at hn
  split at hn
  ·simp at hn
  ·rename_i hm
   simp only [lk] at h h'
   split at h <;> split at h'
   ·omega
   ·injection h with h; subst h; exact absurd (lk_memV _ _ _ h') hm
   ·injection h' with h'; subst h'; exact absurd (lk_memV _ _ _ h) hm
   ·exact ih hn q q' k h h'
def sameOb (u o : Ob) : Prop:=match u,o with
 | .row e sz rows _ _,.row e' sz' rows' v m=>e' = e∧sz' = sz∧rows' = rows∧v = 0∧m = 0
 | .box ty cs _,.box ty' cs' _=>ty' = ty∧cs' = cs
 | _,_=>False
theorem canon_ok {w : World} {S : Nat→Prop} {β : Nat→Value} {obs : Obs} : ∀ (l : List AV) (p : Nat) (as : List AV) (pars : Obs) (β' : Nat→Value),canon obs p l = some (as,pars)→(∀ q k,lk q (keysOf p l) = some k→β' q = β k) →
  (∀ q o,lk q pars = some o→∃ k u,lk q (keysOf p l) = some k∧lk k obs = some u∧(∀ B x,ORep w S B x u→ORep w S B x o)∧sameOb u o) ∧
  (∀ q k,lk q (keysOf p l) = some k→∃ o,lk q pars = some o) ∧
  as.length = l.length∧∀ (i : Nat) (u c : AV) (y : Value),l[i]? = some u→as[i]? = some c→SRep w S β obs u y→(okArg c = true∧Rep w S c y) ∨ (∃ off,c = .ptr (p + i) off∧SRep0 w S β' pars c y) ∨ (∃ e sz rows,c = .own (p + i) 0∧lk (p + i) pars = some (.row e sz rows 0 0)∧y = β' (p + i)):=by
 intro l
 induction l with
 | nil =>
  intro p as pars β' h hβ
  simp [canon] at h
  obtain ⟨rfl,rfl⟩:=h
  exact ⟨fun q o h=>by simp [lk] at h,fun q k h=>by simp [keysOf,lk] at h,rfl,fun i u c y h=>by simp at h⟩
 | cons x l ih =>
  intro p as pars β' h hβ
  have plainCase : ∀ (hx : okArg x = true),(∀ (q : Nat),keysOf q (x :: l) = keysOf (q + 1) l)→(∃ as1 ps1,canon obs (p + 1) l = some (as1,ps1)∧as = plain x :: as1∧pars = ps1) →
    (∀ q o,lk q pars = some o→∃ k u,lk q (keysOf p (x :: l)) = some k∧lk k obs = some u∧(∀ B x,ORep w S B x u→ORep w S B x o)∧sameOb u o) ∧
    (∀ q k,lk q (keysOf p (x :: l)) = some k→∃ o,lk q pars = some o) ∧
    as.length = (x :: l).length∧∀ (i : Nat) (u c : AV) (y : Value),(x :: l)[i]? = some u→as[i]? = some c→SRep w S β obs u y→(okArg c = true∧Rep w S c y) ∨ (∃ off,c = .ptr (p + i) off∧SRep0 w S β' pars c y) ∨ (∃ e sz rows,c = .own (p + i) 0∧lk (p + i) pars = some (.row e sz rows 0 0)∧y = β' (p + i)):=by
   rintro hx hkeys ⟨as1,ps1,h1,rfl,rfl⟩
   rw [hkeys]
   rw [hkeys] at hβ
   obtain ⟨i1,i2,i3,i4⟩:=ih (p + 1) as1 pars β' h1 hβ
   refine ⟨i1,i2,by simp [i3],fun i u c y hu hc hs=>?_⟩
   cases i with
   | zero =>
    simp at hu hc
    subst hu hc
    refine .inl ⟨by cases x <;> simp_all [okArg,plain],?_⟩
    refine rep_plain ?_
    cases x <;> first | exact hs | simp [okArg] at hx
   | succ i =>
    rcases i4 i u c y (by simpa using hu) (by simpa using hc) hs with h | h | h
    ·exact .inl h
    ·rw [show p + 1 + i = p + (i + 1) by omega] at h; exact .inr (.inl h)
    ·rw [show p + 1 + i = p + (i + 1) by omega] at h; exact .inr (.inr h)
  have shiftCase : ∀ (as1 : List AV) (ps1 : Obs) (c0 : AV) (o0 : Ob) (k0 : Nat),canon obs (p + 1) l = some (as1,ps1)→as = c0 :: as1→pars = (p,o0) :: ps1→keysOf p (x :: l) = (p,k0) :: keysOf (p + 1) l →
    (∃ u,lk k0 obs = some u∧(∀ B x,ORep w S B x u→ORep w S B x o0)∧sameOb u o0) →
    (∀ y,SRep w S β obs x y→(∃ off,c0 = .ptr p off∧SRep0 w S β' pars c0 y) ∨ (∃ e sz rows,c0 = .own p 0∧o0 = .row e sz rows 0 0∧y = β' p)) →
    (∀ q o,lk q pars = some o→∃ k u,lk q (keysOf p (x :: l)) = some k∧lk k obs = some u∧(∀ B x,ORep w S B x u→ORep w S B x o)∧sameOb u o) ∧
    (∀ q k,lk q (keysOf p (x :: l)) = some k→∃ o,lk q pars = some o) ∧
    as.length = (x :: l).length∧∀ (i : Nat) (u c : AV) (y : Value),(x :: l)[i]? = some u→as[i]? = some c→SRep w S β obs u y→(okArg c = true∧Rep w S c y) ∨ (∃ off,c = .ptr (p + i) off∧SRep0 w S β' pars c y) ∨ (∃ e sz rows,c = .own (p + i) 0∧lk (p + i) pars = some (.row e sz rows 0 0)∧y = β' (p + i)):=by
   rintro as1 ps1 c0 o0 k0 h1 has hps hkeys hk0 hc0
   subst has
   have hkl : ∀ q,q ≠ p→lk q (keysOf p (x :: l)) = lk q (keysOf (p + 1) l):=fun q hq=>by rw [hkeys]; simp only [lk]; rw [if_neg (fun e=>hq e.symm)]
   have hkp : lk p (keysOf p (x :: l)) = some k0:=by rw [hkeys]; simp [lk]
   obtain ⟨i1,i2,i3,i4⟩:=ih (p + 1) as1 ps1 β' h1 (fun q k hq=>hβ q k (by rw [hkl q (by have:=keysOf_le _ _ _ _ hq; omega)]; exact hq))
   have hpl : ∀ q,q ≠ p→lk q pars = lk q ps1:=fun q hq=>by rw [hps]; simp only [lk]; rw [if_neg (fun e=>hq e.symm)]
   have hpp : lk p pars = some o0:=by rw [hps]; simp [lk]
   refine ⟨fun q o hq=>?_,fun q k hq=>?_,by simp [i3],fun i u c y hu hc hs=>?_⟩
   ·by_cases e : q = p
    ·subst e
     rw [hpp] at hq
     injection hq with hq
     subst hq
     obtain ⟨u,hu⟩:=hk0
     exact ⟨k0,u,hkp,hu⟩
    ·rw [hpl q e] at hq
     rw [hkl q e]
     exact i1 q o hq
   ·by_cases e : q = p
    ·subst e; exact ⟨_,hpp⟩
    ·rw [hkl q e] at hq
     rw [hpl q e]
     exact i2 q k hq
   ·cases i with
    | zero =>
     simp at hu hc
     subst hu hc
     rcases hc0 y hs with h | ⟨e,sz,rows,h1,h2,h3⟩
     ·exact .inr (.inl h)
     ·exact .inr (.inr ⟨e,sz,rows,h1,by simpa [h2] using hpp,h3⟩)
    | succ i =>
     rcases i4 i u c y (by simpa using hu) (by simpa using hc) hs with h | ⟨off,h1,h2⟩ | ⟨e,sz,rows,h1,h2,h3⟩
     ·exact .inl h
     ·refine .inr (.inl ⟨off,by rw [h1]; congr 1; omega,?_⟩)
      subst h1
      exact h2
     ·refine .inr (.inr ⟨e,sz,rows,by rw [h1]; congr 1; omega,?_,by rw [h3]; congr 1; omega⟩)
      rw [show p + (i + 1) = p + 1 + i by omega,hpl _ (by omega)]
      exact h2
  cases x with
  | own k ver =>
   simp only [canon] at h
   split at h
   ·rename_i e sz rows ver' m hk
    split at h
    ·rename_i ev
     subst ev
     split at h
     ·rename_i as1 ps1 h1
      injection h with h
      injection h with h2 h3
      refine shiftCase as1 ps1 _ _ k h1 h2.symm h3.symm rfl ⟨_,hk,fun B x h=>h,⟨rfl,rfl,rfl,rfl,rfl⟩⟩ (fun y hy=>.inr ⟨e,sz,rows,rfl,rfl,?_⟩)
      rw [hβ p k (by simp [keysOf,lk])]
      exact (show ∀ e sz rows m,lk k obs = some (.row e sz rows ver m)→y = β k from hy) _ _ _ _ hk
     ·simp at h
    ·simp at h
   ·simp at h
  | ptr k off =>
   simp only [canon] at h
   split at h
   ·rename_i ty cs fz hk
    split at h
    ·rename_i as1 ps1 h1
     injection h with h
     injection h with h2 h3
     refine shiftCase as1 ps1 _ _ k h1 h2.symm h3.symm rfl ⟨_,hk,fun B x h=>h,⟨rfl,rfl⟩⟩ (fun y hy=>.inl ⟨off,rfl,?_⟩)
     obtain ⟨g,h4,h5⟩:=(show ∃ g,β k = .pointer (some ⟨g,0,none⟩)∧y = .pointer (some ((⟨g,0,none⟩ : Addr).add off)) from hy)
     exact ⟨g,by rw [hβ p k (by simp [keysOf,lk])]; exact h4,h5⟩
    ·simp at h
   ·simp at h
  | _ =>
   simp only [canon] at h
   split at h
   ·rename_i hok
    split at h
    ·rename_i as1 ps1 h1
     injection h with h
     injection h with h2 h3
     exact plainCase hok (fun q=>rfl) ⟨as1,ps1,h1,h2.symm,h3.symm⟩
    ·simp at h
   ·simp at h
end Go.Proofs.Ytdnaadcbimbfmaa.Am
namespace Go.Proofs.Ytdnaadcbimbfmaa.Am
open Go Go.RowKit
variable {P : Program}
theorem lk_mem {α : Type} {t : Nat} {x : α} : ∀ {l : List (Nat × α)},lk t l = some x→(t,x) ∈ l:=by
 intro l
 induction l with
 | nil=>intro h; simp [lk] at h
 | cons p l ih =>
  obtain ⟨k,y⟩:=p
  intro h
  simp only [lk] at h
  split at h
  ·rename_i e; injection h with h; subst e h; exact List.mem_cons_self
  ·exact List.mem_cons_of_mem _ (ih h)
theorem keysOf_mem : ∀ (l : List AV) (p q k : Nat),(q,k) ∈ keysOf p l→p ≤ q∧lk q (keysOf p l) = some k:=by
 intro l
 induction l with
 | nil=>intro p q k h; simp [keysOf] at h
 | cons x l ih =>
  intro p q k h
  have step : keysOf p (x :: l) = keysOf (p + 1) l→p ≤ q∧lk q (keysOf p (x :: l)) = some k:=by
   intro e
   rw [e] at h ⊢
   obtain ⟨h1,h2⟩:=ih _ _ _ h
   exact ⟨by omega,h2⟩
  have step2 : ∀ k0,keysOf p (x :: l) = (p,k0) :: keysOf (p + 1) l→p ≤ q∧lk q (keysOf p (x :: l)) = some k:=by
   intro k0 e
   rw [e] at h ⊢
   rcases List.mem_cons.1 h with h | h
   ·injection h with h1 h2
    subst h1 h2
    exact ⟨Nat.le_refl _,by simp [lk]⟩
   ·obtain ⟨h1,h2⟩:=ih _ _ _ h
    exact ⟨by omega,by simp only [lk]; rw [if_neg (by omega)]; exact h2⟩
  cases x <;> first | exact step rfl | exact step2 _ rfl
theorem wback_ok {obs pars' : Obs} : ∀ (κ : List (Nat × Nat)) (obs' : Obs),wback obs pars' κ = some obs'→∀ k o,lk k obs' = some o →
  ((∀ q,(q,k) ∉ κ)∧lk k obs = some o) ∨ ∃ q old new,(q,k) ∈ κ∧lk q pars' = some new∧lk k obs = some old∧obMerge old new = some o:=by
 intro κ
 induction κ with
 | nil=>intro obs' h k o hk; simp [wback] at h; subst h; exact .inl ⟨fun q h=>by simp at h,hk⟩
 | cons pk κ ih =>
  obtain ⟨p,k0⟩:=pk
  intro obs' h k o hk
  simp only [wback] at h
  have lift : k ≠ k0→∀ o1,wback obs pars' κ = some o1→lk k o1 = some o→((∀ q,(q,k) ∉ (p,k0) :: κ)∧lk k obs = some o) ∨ ∃ q old new,(q,k) ∈ (p,k0) :: κ∧lk q pars' = some new∧lk k obs = some old∧obMerge old new = some o:=by
   intro hne o1 h1 h2
   rcases ih o1 h1 k o h2 with ⟨h3,h4⟩ | ⟨q,old,new,h3,h4⟩
   ·refine .inl ⟨fun q hq=>?_,h4⟩
    rcases List.mem_cons.1 hq with hq | hq
    ·injection hq with _ hq; exact hne hq
    ·exact h3 q hq
   ·exact .inr ⟨q,old,new,List.mem_cons_of_mem _ h3,h4⟩
  split at h
  ·simp at h
  ·rename_i o1 ho1
   split at h
   ·rename_i hp
    injection h with h
    subst h
    rw [lk_del] at hk
    split at hk
    ·simp at hk
    ·rename_i hne; exact lift hne o1 ho1 hk
   ·rename_i new hp
    split at h
    ·simp at h
    ·rename_i old hold
     split at h
     ·simp at h
     ·rename_i om hom
      injection h with h
      subst h
      simp only [lk] at hk
      split at hk
      ·rename_i e
       injection hk with hk
       subst hk e
       exact .inr ⟨p,old,new,List.mem_cons_self,hp,hold,hom⟩
      ·rename_i e
       rw [lk_del,if_neg (fun h=>e h.symm)] at hk
       exact lift (fun h=>e h.symm) o1 ho1 hk
theorem orep_merge {w : World} {S : Nat→Prop} {B : Nat} {x : Value} {old new o : Ob} (h : obMerge old new = some o) (hn : ORep w S B x new) : ORep w S B x o:=by
 cases old <;> cases new <;> simp only [obMerge] at h <;> (try (simp at h; done))
 ·split at h
  ·rename_i e
   injection h with h; subst h e; exact hn
  ·simp at h
 ·split at h
  ·rename_i e1
   split at h
   ·rename_i e2
    injection h with h; subst h e1 e2; exact hn
   ·simp at h
  ·simp at h
theorem orep_row_len {w : World} {S : Nat→Prop} {B e sz ver m n c : Nat} {rows : List (List AV)} {x : Value} {ad : Option Addr} (h : ORep w S B x (.row e sz rows ver m)) (hx : x = .slice ad n c) : rows.length = n:=by
 obtain ⟨xs,hown,_⟩:=h
 rcases hown.2 with ⟨hv,hn⟩ | ⟨g,cap,cur,fr,hv,_⟩
 ·rw [hx] at hv; injection hv with _ h2 _; omega
 ·rw [hx] at hv; injection hv with _ h2 _; exact h2.symm
theorem wcall_core {ev : Operand→Option AV} {obs obs' pars pars' : Obs} {f : Operand} {args : Array Operand} {ats : Array TypeId} {g : Nat} {caps as as' : List AV} {res : Res} (hf : ev f = some (.clo g caps)) (ha : evs ev args.toList = some as) (hc : canon obs 0 as = some (as',pars)) (hn : nodV (keysOf 0 as) = true)
  (h : CSem P (.wr g pars pars') (as' ++ caps) res) (hw : wback obs pars' (keysOf 0 as) = some obs') {a : Act} {w : World} {S : Nat→Prop} {β : Nat→Value} (hS : ∀ g,S g→g < w.heap.size) (hgd : gdOK w S) (hev : ∀ o ∈ (Op.call { callee:=.value f,args:=args,argTypes:=ats }).operands,∀ u,ev o = some u→SRep w S β obs u (a.eval o))
  (ho : ∀ k o,lk k obs = some o→ORep w S 0 (β k) o) (hsep : ∀ k k' o o',lk k obs = some o→lk k' obs = some o'→k ≠ k'→∀ g,blkOf (β k) = some g→blkOf (β k') = some g→False)
  {o : Oper} (hop : o.op = .call { callee:=.value f,args:=args,argTypes:=ats }) {K : Act→World→Prop} {Q : Exit→Act→World→Prop}
  (hK : ∀ y w' S' β',(∀ q k,lk q (keysOf 0 as) = some k→β' q = β k)→(∀ g,obsBlk pars β' g→∃ q k u,lk q (keysOf 0 as) = some k∧lk k obs = some u∧blkOf (β k) = some g)→GrK (obsBlk obs β) w S w' S'→SameOn S w w'→(∀ g,S g→S' g)→(∀ k o,lk k obs' = some o→ORep w' S' 0 (β k) o)→(∀ x y,SRep0 w S β obs x y→SRep0 w' S' β obs' x y)→ResM (obsBlk pars β') pars' β' w w' S S' res y→K (a.put o.dst y) w') : o.wp P a w K Q:=by
 obtain ⟨he,h⟩:=h
 obtain ⟨cs,hfv,hcaps⟩:=srep_clo (hev f (by simp [Op.operands,Call.operands]) _ hf)
 obtain ⟨β',hβ'⟩ : ∃ β' : Nat→Value,β' = fun q=>match lk q (keysOf 0 as) with | some k=>β k | none=>.bool true:=⟨_,rfl⟩
 have hβ : ∀ q k,lk q (keysOf 0 as) = some k→β' q = β k:=fun q k hq=>by rw [hβ']; simp only [hq]
 obtain ⟨c1,c2,c3,c4⟩:=canon_ok (w:=w) (S:=S) (β:=β) as 0 as' pars β' hc hβ
 have hsub : ∀ g,obsBlk pars β' g→∃ q k u,lk q (keysOf 0 as) = some k∧lk k obs = some u∧blkOf (β k) = some g:=by
  rintro g ⟨q,o,h1,h2⟩
  obtain ⟨k,u,h3,h4,_⟩:=c1 q o h1
  exact ⟨q,k,u,h3,h4,by rw [← hβ q k h3]; exact h2⟩
 have hargs : ∀ (l : List Operand) (bs : List AV),evs ev l = some bs→(∀ o ∈ l,∀ u,ev o = some u→SRep w S β obs u (a.eval o))→bs.length = l.length∧∀ (i : Nat) (u : AV) (y : Value),bs[i]? = some u→(l.map a.eval)[i]? = some y→SRep w S β obs u y:=by
  intro l
  induction l with
  | nil=>intro bs hb _; simp [evs] at hb; subst hb; exact ⟨rfl,fun i u y h=>by simp at h⟩
  | cons x l ih =>
   intro bs hb hh
   simp only [evs] at hb
   split at hb
   ·simp at hb
   ·rename_i u hu
    split at hb
    ·simp at hb
    ·rename_i r hr
     injection hb with hb
     subst hb
     obtain ⟨i1,i2⟩:=ih r hr (fun o ho=>hh o (List.mem_cons_of_mem _ ho))
     refine ⟨by simp [i1],fun i u' y hu' hy=>?_⟩
     cases i with
     | zero=>simp at hu' hy; subst hu' hy; exact hh x List.mem_cons_self _ hu
     | succ i=>exact i2 i u' y (by simpa using hu') (by simpa using hy)
 obtain ⟨a1,a2⟩:=hargs args.toList as ha (fun o ho u hu=>hev o (by simp [Op.operands,Call.operands] at ho ⊢; simp [ho]) u hu)
 refine wp_enter (run_call hop hfv he) ((h w S β' (args.toList.map a.eval ++ cs) hS hgd (fun q o hq=>?_) (fun q q' o o' hq hq' hne g hg hg'=>?_) ⟨?_,fun i u y hu hy=>?_⟩).mono ?_)
 ·obtain ⟨k,u,h1,h2,h3,_⟩:=c1 q o hq
  rw [hβ q k h1]
  exact h3 _ _ (ho k u h2)
 ·obtain ⟨k,u,h1,h2,_⟩:=c1 q o hq
  obtain ⟨k',u',h1',h2',_⟩:=c1 q' o' hq'
  rw [hβ q k h1] at hg
  rw [hβ q' k' h1'] at hg'
  refine hsep k k' u u' h2 h2' (fun e=>?_) g hg hg'
  subst e
  exact hne (nodV_inj _ hn _ _ _ h1 h1')
 ·have:=hcaps.1
  simp [c3,a1,this]
 ·by_cases hi : i < as'.length
  ·rw [List.getElem?_append_left hi] at hu
   rw [List.getElem?_append_left (by simp; simp at a1; omega)] at hy
   have hi2 : i < as.length:=by omega
   rcases c4 i as[i] u y (List.getElem?_eq_getElem hi2) hu (a2 i _ y (List.getElem?_eq_getElem hi2) hy) with ⟨h1,h2⟩ | ⟨off,h1,h2⟩ | ⟨e,sz,rows,h1,h2,h3⟩
   ·cases u <;> first | exact h2 | simp [okArg] at h1
   ·exact h2
   ·subst h1
    intro e' sz' rows' m' _
    exact h3
  ·rw [List.getElem?_append_right (by omega)] at hu
   rw [List.getElem?_append_right (by simp; simp at a1; omega)] at hy
   have hl : (args.toList.map a.eval).length = as'.length:=by simp; simp at a1; omega
   rw [hl] at hy
   have:=hcaps.2 _ u y hu hy
   cases u <;> first | exact this | (cases this with | c h=>cases h)
 ·rintro e' w' ⟨y,S',rfl,hg,hobj,hres⟩
  refine ⟨y,rfl,?_⟩
  have hTS : ∀ g,S g→¬ obsBlk pars β' g:=by
   intro g hs hT
   obtain ⟨q,k,u,h1,h2,h3⟩:=hsub g hT
   exact (orep_blk (ho k u h2) h3).2.2 hs
  have hsame : SameOn S w w':=fun g hs=>hg.block g (hS g hs) (hTS g hs)
  refine hK y w' S' β' hβ hsub ⟨hg.os,hg.tape,hg.output,hg.size,fun g hlt hn'=>hg.block g hlt (fun hT=>?_),hg.sub,fun g hs=>(hg.new g hs).elim .inl (fun h=>h.elim (fun h=>.inr (.inl h)) (fun hT=>by obtain ⟨q,k,u,h1,h2,h3⟩:=hsub g hT; exact .inr (.inr ⟨k,u,h2,h3⟩))),hg.lt,hgd,hg.gd.2⟩ hsame hg.sub (fun k o hk=>?_) (fun x y hxy=>?_) hres
  ·obtain ⟨q,k,u,h1,h2,h3⟩:=hsub g hT
   exact hn' ⟨k,u,h2,h3⟩
  ·rcases wback_ok _ _ hw k o hk with ⟨h1,h2⟩ | ⟨q,old,new,h1,h2,h3,h4⟩
   ·refine orep_mono hsame hg.sub (fun g hgb=>?_) (ho k o h2)
    obtain ⟨_,h5,h6⟩:=orep_blk (ho k o h2) hgb
    have hnT : ¬ obsBlk pars β' g:=fun hT=>by
     obtain ⟨q,k',u,h7,h8,h9⟩:=hsub g hT
     refine hsep k k' o u h2 h8 (fun e=>?_) g hgb h9
     subst e
     exact h1 q (lk_mem h7)
    exact ⟨hg.block g h5 hnT,fun hs=>by rcases hg.new g hs with h7 | h7 | h7; exact h6 h7; omega; exact hnT h7⟩
   ·have h5:=(keysOf_mem _ _ _ _ h1).2
    refine orep_merge h4 ?_
    rw [← hβ q k h5]
    exact hobj q new h2
  ·have get : ∀ j e sz rows v m,lk j obs' = some (.row e sz rows v m)→(lk j obs = some (.row e sz rows v m)) ∨ ∃ rows0 m0,lk j obs = some (.row e sz rows0 v m0)∧(∀ ad n c,β j = .slice ad n c→rows.length = rows0.length)∧m0 < m:=by
    intro j e sz rows v m hj
    rcases wback_ok _ _ hw j _ hj with ⟨h1,h2⟩ | ⟨q,old,new,h1,h2,h3,h4⟩
    ·exact .inl h2
    ·right
     have h5:=(keysOf_mem _ _ _ _ h1).2
     cases old <;> cases new <;> simp only [obMerge] at h4 <;> (try (simp at h4; done)) <;> split at h4 <;> (try (simp at h4; done))
     split at h4
     ·rename_i e0 sz0 rows0 v0 m0 e1 sz1 rows1 v1 m1 hh1 hh2
      injection h4 with h4
      injection h4 with g1 g2 g3 g4 g5
      subst g1 g2 g3 g4 g5
      refine ⟨rows0,m0,h3,fun ad n c hb=>?_,by omega⟩
      have l1:=orep_row_len (ho _ _ h3) hb
      have l2:=orep_row_len (hobj q _ h2) (by rw [hβ q j h5]; exact hb)
      omega
     ·simp at h4
   cases x <;> try exact Rep.mono hsame hg.sub hxy
   ·exact hxy
   ·rename_i j v
    intro e sz rows m hj
    rcases get _ _ _ _ _ _ hj with h | ⟨rows0,m0,h,_⟩
    ·exact (show ∀ e sz rows m,lk j obs = some (.row e sz rows v m)→y = β j from hxy) _ _ _ _ h
    ·exact (show ∀ e sz rows m,lk j obs = some (.row e sz rows v m)→y = β j from hxy) _ _ _ _ h
   ·rename_i j v m i cs off
    intro e sz rows m' hj
    rcases get _ _ _ _ _ _ hj with h | ⟨rows0,m0,h,hl,hm⟩
    ·exact (show RelP β obs j v m i cs off y from hxy) _ _ _ _ h
    ·obtain ⟨h1,h2,⟨g,n,c,h3,h3'⟩,h4⟩:=(show RelP β obs j v m i cs off y from hxy) _ _ _ _ h
     exact ⟨by omega,by rw [hl _ _ _ h3]; exact h2,⟨g,n,c,h3,h3'⟩,fun e=>by omega⟩
   ·rename_i j v lo
    intro e sz rows m' hj
    rcases get _ _ _ _ _ _ hj with h | ⟨rows0,m0,h,hl,hm⟩
    ·exact (show ∀ e sz rows m,lk j obs = some (.row e sz rows v m)→OslP β j lo sz rows.length y from hxy) _ _ _ _ h
    ·have h3:=(show ∀ e sz rows m,lk j obs = some (.row e sz rows v m)→OslP β j lo sz rows.length y from hxy) _ _ _ _ h
     obtain ⟨zs,hz,_⟩:=ho _ _ h
     obtain ⟨ad,c,hb,_⟩:=own_shape hz
     rw [hl _ _ _ hb]; exact h3
   ·rename_i j
    intro ks vs hj
    rcases wback_ok _ _ hw j _ hj with ⟨h1,h2⟩ | ⟨q,old,new,h1,h2,h3,h4⟩
    ·exact (show ∀ ks vs,lk j obs = some (.mp ks vs)→y = β j from hxy) _ _ h2
    ·exfalso
     unfold obMerge at h4
     split at h4
     ·split at h4
      ·split at h4
       ·cases h4
       ·cases h4
      ·cases h4
     ·split at h4
      ·cases h4
      ·cases h4
     ·cases h4
   ·exact trivial
theorem wgood_call {ev : Operand→Option AV} {obs obs' pars pars' : Obs} {f : Operand} {args : Array Operand} {ats : Array TypeId} {g : Nat} {caps as as' xs : List AV} (hf : ev f = some (.clo g caps)) (ha : evs ev args.toList = some as) (hc : canon obs 0 as = some (as',pars)) (hn : nodV (keysOf 0 as) = true)
  (h : CSem P (.wr g pars pars') (as' ++ caps) (.pure xs)) (hw : wback obs pars' (keysOf 0 as) = some obs') : WGood P ev obs (.call { callee:=.value f,args:=args,argTypes:=ats }) obs' (tupOf xs):=by
 intro a w S β hS hgd hev ho hsep o hop K Q hK
 refine wcall_core hf ha hc hn h hw hS hgd hev ho hsep hop (fun y w' S' β' _ _ hg hsame hsub ho' hs hres=>?_)
 obtain ⟨ys,hy,hreps⟩:=hres
 exact hK y w' S' hg ho' hs (srep_res (w:=w) (S:=S) hy hreps)
theorem wgood_mark {ev : Operand→Option AV} {obs : Obs} {d k e ver m : Nat} {rows : List (List AV)} {x : Operand} {ti : TI} {bytes : Nat} (ht : TOK P d ti) (hkd : ti.kind = .sli e 1 bytes) (hp : ev x = some (.own k ver)) (hk : lk k obs = some (.row e 1 rows ver m)) (hb : byteT e = true) (hu8 : P.underlying e = some (.int .u8)) (h0 : 0 < rows.length) :
  WGood P ev obs (.convert d d x) ((k,.row e 1 rows ver (m + 1)) :: del k obs) (.own k ver):=by
 intro a w S β hS hgd hev ho hsep o hop K Q hK
 have hx : a.eval x = β k:=(show ∀ e sz rows m,lk k obs = some (.row e sz rows ver m)→a.eval x = β k from hev x (by simp [Op.operands]) _ hp) _ _ _ _ hk
 have hkd':=ht.kind
 rw [hkd] at hkd'
 obtain ⟨hu,_⟩:=hkd'
 obtain ⟨xs,hown,hrep,hlen,hSv⟩:=ho _ _ hk
 rcases hown.2 with ⟨hv,hn⟩ | ⟨g,cap,cur,fr,hv,_,hh,hfr,hnc,hm,hcs,htake⟩
 ·omega
 ·have hSg : ¬ S g:=hSv g (by rw [hv]; rfl)
  have hsh : w.shape? g = some (e,cur.size):=by simp [World.shape?,hh]
  have hexec : (execOp a.eval o).run P w = .ok (.value (β k)) (w.freeze ⟨g,cur.size,none⟩ 1):=by
   simp [execOp,hop,hx,hv,convert,run_underlying hu,run_underlying hu8,markStringish,hsh]
  have hfrz : ∃ fr',frB e fr' cur.size∧(w.freeze ⟨g,cur.size,none⟩ 1).heap[g]? = some (.cells cur e fr'):=by
   obtain ⟨lo,hi⟩:=fr
   refine ⟨if lo == hi then (cur.size,cur.size + 1) else (min lo cur.size,max hi (cur.size + 1)),?_,?_⟩
   ·refine .inr ⟨hb,?_⟩
    split
    ·exact Nat.le_refl _
    ·rename_i hne
     rcases hfr with h | ⟨_,h⟩
     ·injection h with h1 h2
      subst h1 h2
      simp at hne
     ·simp only at h ⊢
      omega
   ·simp [World.freeze,Array.getElem?_modify,hh]
  obtain ⟨fr',hfr',hheap⟩:=hfrz
  have hother : ∀ j,j ≠ g→(w.freeze ⟨g,cur.size,none⟩ 1).heap[j]? = w.heap[j]?:=fun j hj=>by
   simp [World.freeze,Array.getElem?_modify,Ne.symm hj]
  have hsize : (w.freeze ⟨g,cur.size,none⟩ 1).heap.size = w.heap.size:=by simp [World.freeze]
  have e1 : (w.freeze ⟨g,cur.size,none⟩ 1).os = w.os:=rfl
  have e2 : (w.freeze ⟨g,cur.size,none⟩ 1).tape = w.tape:=rfl
  have e3 : (w.freeze ⟨g,cur.size,none⟩ 1).output = w.output:=rfl
  generalize w.freeze ⟨g,cur.size,none⟩ 1 = w' at *
  have hsame0 : SameOn S w w':=fun j hj=>hother j (fun e=>hSg (e ▸ hj))
  have hown' : OwnR w' 0 e 1 (β k) rows.length xs:=⟨hown.1,.inr ⟨g,cap,cur,fr',hv,Nat.zero_le _,hheap,hfr',hnc,hm,hcs,htake⟩⟩
  obtain ⟨hsame,hobj,hsr⟩:=write_one (new:=.row e 1 rows ver (m + 1)) hk (by rw [hv]; rfl) hS ho hsep hother hsize ⟨_,hown',hrep.mono hsame0 (fun _ h=>h),hlen,hSv⟩ ⟨rfl,rfl,rfl,rfl,by omega⟩
  refine wp_val hexec ?_
  refine hK _ w' S ⟨e1,e2,e3,by omega,fun j _ hT=>hother j (fun e=>hT ⟨k,_,hk,by rw [hv,e]; rfl⟩),fun _ h=>h,fun _ h=>.inl h,fun j hj=>by rw [hsize]; exact hS j hj,hgd,hgd.mono hsame (fun _ h=>h)⟩ hobj hsr ?_
  intro e' sz' rows' m' _
  rfl
theorem wop_ok (hΓ : TOKs P) {ev : Operand→Option AV} {obs : Obs} {op : Op} {K : Obs→AV→Prop} (h : wop sy (CSem P) ev obs op K) : ∃ obs' x,K obs' x∧WGood P ev obs op obs' x∧(∀ k u,lk k obs' = some u→∃ u',lk k obs = some u'):=by
 have keys1 : ∀ k0 (o0 o1 : Ob),lk k0 obs = some o0→∀ k u,lk k ((k0,o1) :: del k0 obs) = some u→∃ u',lk k obs = some u':=by
  intro k0 o0 o1 h0 k u hk
  simp only [lk] at hk
  split at hk
  ·rename_i e; subst e; exact ⟨_,h0⟩
  ·rename_i e; rw [lk_del,if_neg (fun h=>e h.symm)] at hk; exact ⟨_,hk⟩
 unfold wop at h
 split at h
 ·rename_i t x v
  split at h
  ·rename_i ti k off u hti hx hu
   split at h
   ·rename_i ty cs fz ds hk hc
    split at h
    ·rename_i hl
     split at h
     ·rename_i cs' hs
      exact ⟨_,_,h,wgood_ptr (hΓ _ _ hti) hx hu hk hc hl hs,keys1 _ _ _ hk⟩
     ·exact h.elim
    ·exact h.elim
   ·exact h.elim
  ·rename_i ti k ver mver i cs0 off u hti hx hu
   split at h
   ·rename_i e sz rows ver' m ds hk hc
    split at h
    ·rename_i e1
     subst e1
     obtain ⟨⟨hl⟩,h⟩:=h
     ·split at h
      ·rename_i hsz
       split at h
       ·rename_i hoff
        subst hoff
        refine ⟨_,_,h,?_,keys1 _ _ _ hk⟩
        intro a w S β hS hgd hev ho hsep
        obtain ⟨_,hi,_⟩:=(show RelP β obs k ver mver i cs0 0 (a.eval x) from hev x (by simp [Op.operands]) _ hx) _ _ _ _ hk
        obtain ⟨_,_,_,hlen,_⟩:=ho _ _ hk
        have hr : rows[i]? = some rows[i]:=List.getElem?_eq_getElem hi
        have hs : setCells 0 ds rows[i] = some ds:=by
         have h1 : rows[i].length = ds.length:=by rw [hlen _ (List.getElem_mem hi),hl,hsz]
         rw [setCells_mk _ _ _ (by omega)]
         simp [← h1]
        exact wgood_rel (hΓ _ _ hti) hx hu hk hc hl hr hs a w S β hS hgd hev ho hsep
       ·exact h.elim
      ·obtain ⟨r,r',hr,hs,h⟩:=h
       exact ⟨_,_,h,wgood_rel (hΓ _ _ hti) hx hu hk hc hl hr hs,keys1 _ _ _ hk⟩
    ·exact h.elim
   ·exact h.elim
  ·exact h.elim
 ·rename_i f args ats
  split at h
  ·rename_i g caps as hf ha
   split at h
   ·rename_i as' pars hc
    split at h
    ·rename_i hn
     obtain ⟨pars',xs,hC,h⟩:=h
     split at h
     ·rename_i obs' hw
      refine ⟨_,_,h,wgood_call hf ha hc hn hC hw,fun k u hk=>?_⟩
      rcases wback_ok _ _ hw k u hk with ⟨_,h2⟩ | ⟨q,old,new,_,_,h3,_⟩
      ·exact ⟨_,h2⟩
      ·exact ⟨_,h3⟩
     ·exact h.elim
    ·exact h.elim
   ·exact h.elim
  ·exact h.elim
 ·rename_i args ats
  split at h
  ·rename_i x t hargs hats
   split at h
   ·rename_i ti k ver lo hti hx
    split at h
    ·rename_i e esz bytes e' sz rows ver' m hkd hk
     split at h
     ·rename_i e1
      subst e1
      split at h
      ·rename_i e2
       subst e2
       split at h
       ·rename_i te hte
        obtain ⟨rows',rfl,h⟩:=h
        have e3 : args = #[x]:=by rw [← Array.toList_inj]; simpa using hargs
        have e4 : ats = #[t]:=by rw [← Array.toList_inj]; simpa using hats
        subst e3 e4
        exact ⟨_,_,h,wgood_clear (hΓ _ _ hti) hkd (hΓ _ _ hte) hx hk,keys1 _ _ _ hk⟩
       ·exact h.elim
      ·exact h.elim
     ·exact h.elim
    ·exact h.elim
   ·exact h.elim
  ·exact h.elim
 ·rename_i t m x v
  split at h
  ·rename_i ti k s u hti hm hx hu
   split at h
   ·rename_i e1 e2 ks vs hkd hk
    split at h
    ·rename_i hok
     obtain ⟨ks',vs',hmp,h⟩:=h
     exact ⟨_,_,h,wgood_map (hΓ _ _ hti) hkd hm hx hu hok hk hmp,keys1 _ _ _ hk⟩
    ·exact h.elim
   ·exact h.elim
  ·exact h.elim
 ·rename_i s d x
  split at h
  ·rename_i ti k ver hti hx
   split at h
   ·rename_i e e' sz rows ver' m hkd hk
    split at h
    ·rename_i e1
     split at h
     ·rename_i e2
      split at h
      ·rename_i e3
       split at h
       ·rename_i e4
        split at h
        ·rename_i hb
         subst e1 e2 e3 e4
         refine ⟨_,_,h.2,wgood_mark (hΓ _ _ hti) hkd hx hk hb ?_ h.1,keys1 _ _ _ hk⟩
         unfold byteT at hb
         split at hb
         ·rename_i te hte
          split at hb
          ·rename_i hk8
           have:=(hΓ _ _ hte).kind
           rw [hk8] at this
           exact this
          ·cases hb
         ·cases hb
        ·exact h.elim
       ·exact h.elim
      ·exact h.elim
     ·exact h.elim
    ·exact h.elim
   ·exact h.elim
  ·exact h.elim
 ·exact h.elim
end Go.Proofs.Ytdnaadcbimbfmaa.Am
