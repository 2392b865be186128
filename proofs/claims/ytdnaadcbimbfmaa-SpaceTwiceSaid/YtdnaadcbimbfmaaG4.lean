import Derived.Lib.AppendStr
import Derived.Test.YtdnaadcbimbfmaaG3
set_option linter.unusedSimpArgs false
set_option linter.unusedVariables false
namespace Go.Proofs.Ytdnaadcbimbfmaa.Am
open Go Go.RowKit
def fr0 (c : Nat) : AV→Bool
 | .own j _=>Nat.blt j c
 | .ptr j _=>Nat.blt j c
 | .rel j _ _ _ _ _=>Nat.blt j c
 | .osl j _ _=>Nat.blt j c
 | .mo j=>Nat.blt j c
 | _=>true
def frS (c : Nat) : List (Nat × AV)→Bool
 | []=>true
 | (_,.tup vs) :: r=>if vs.all (fr0 c) = true then frS c r else false
 | (_,x) :: r=>if fr0 c x = true then frS c r else false
def isWr (l : List Nat) : Option AV→Bool
 | some (.clo g _)=>memN g l
 | _=>false
def ownKey : AV→Option Nat
 | .own k _=>some k
 | _=>none
def prefixOf (E : En) (d : Option Nat) (st : St) (x : Operand) (lo hi max : Option Operand) : Option (Nat × Nat × Operand) :=
 if isK E.keep d = true then (match lo,hi,max,ev st x with
  | none,some o,none,some (.own k ver)=>some (k,ver,o)
  | _,_,_,_=>none) else none
section
variable (F : Sy) (C : Key→List AV→Res→Prop) (E : En)
def mkRow (e sz : Nat) (rows : List (List AV)) (dst : Option Nat) (st : St) (K : St→Prop) : Prop :=
 if isK E.keep dst = true then
  (if frS st.ctr st.slots = true then K (St.put { slots:=st.slots,obs:=(st.ctr,.row e sz rows 0 0) :: st.obs,ctr:=st.ctr + 1,par:=st.par } dst (.own st.ctr 0)) else False)
 else K (st.put dst (.sl rows))
def app1 (e esz bytes : Nat) (rows src : List (List AV)) (dst : Option Nat) (st : St) (K : St→Prop) : Prop :=
 (∀ r ∈ src,r.length = esz)∧(F .len rows + F .len src) * (bytes : Int) ≤ 140737488355328∧mkRow E e esz (F .app rows src) dst st K
def aop (o : Oper) (st : St) (K : St→Prop) : Prop :=
 if okD E.n o.dst = true then
  match o.op with
  | .alloc t=>match gam t with
   | some ti=>if frS st.ctr st.slots = true then K (St.put { slots:=st.slots,obs:=(st.ctr,.box t ti.zero (if isK E.keep o.dst then false else true)) :: st.obs,ctr:=st.ctr + 1,par:=st.par } o.dst (.ptr st.ctr 0)) else False
   | none=>False
  | .store t x v=>match o.dst with
   | none=>wop F C (ev (frzArgs st [v])) (frzArgs st [v]).obs (.store t x v) (fun obs' u=>match ev (frzArgs st [v]) x with
    | some (.ptr k _)=>(match lk k obs' with
     | some (.box _ _ true)=>K (St.freeze k { slots:=(frzArgs st [v]).slots,obs:=obs',ctr:=(frzArgs st [v]).ctr,par:=(frzArgs st [v]).par })
     | _=>K { slots:=(frzArgs st [v]).slots,obs:=obs',ctr:=(frzArgs st [v]).ctr,par:=(frzArgs st [v]).par })
    | _=>K { slots:=(frzArgs st [v]).slots,obs:=obs',ctr:=(frzArgs st [v]).ctr,par:=(frzArgs st [v]).par })
   | some _=>False
  | .makeMap t none=>match gam t with
   | some ti=>(match ti.kind with
    | .mp _ _=>if frS st.ctr st.slots = true then K (St.put { slots:=st.slots,obs:=(st.ctr,.mp [] []) :: st.obs,ctr:=st.ctr + 1,par:=st.par } o.dst (.mo st.ctr)) else False
    | _=>False)
   | none=>False
  | .range t x=>match gam t,ev st x with
   | some ti,some (.mp ks vs)=>(match ti.kind with
    | .mp _ _=>if frS st.ctr st.slots = true then K (St.put { slots:=st.slots,obs:=(st.ctr,.it ks vs none) :: st.obs,ctr:=st.ctr + 1,par:=st.par } o.dst (.ptr st.ctr 0)) else False
    | _=>False)
   | _,_=>False
  | .next x false=>match ev st x with
   | some (.ptr k 0)=>(match lk k st.obs with
    | some (.it ks vs _)=>(NXe ks→K (St.put { slots:=st.slots,obs:=st.obs,ctr:=st.ctr,par:=st.par } o.dst (.tup [.b false])))∧∀ (s : ByteArray) (v : AV) (ks' : List ByteArray) (vs' : List AV),NX ks vs s v ks' vs'→K (St.put { slots:=st.slots,obs:=(k,.it ks' vs' (some (s,v))) :: del k st.obs,ctr:=st.ctr,par:=st.par } o.dst (.tup [.b true,.v (.string s),v]))
    | _=>False)
   | _=>False
  | .mapUpdate t m x v=>match o.dst with
   | none=>wop F C (ev (frzArgs st [v])) (frzArgs st [v]).obs (.mapUpdate t m x v) (fun obs' u=>K { slots:=(frzArgs st [v]).slots,obs:=obs',ctr:=(frzArgs st [v]).ctr,par:=(frzArgs st [v]).par })
   | some _=>False
  | .call { callee:=.builtin .append,args,argTypes }=>match args.toList,argTypes.toList with
   | [s,x],[t,t']=>if t = t' then (match gam t,ev st s,ev st x with
    | some ti,some d,some y=>(match ti.kind,rowsOf st.obs y with
     | .sli e esz bytes,some src=>(match d with
      | .v (.slice none 0 0)=>app1 F E e esz bytes [] src o.dst st K
      | .own k ver=>if Nat.blt k st.par = true then False else (match lk k st.obs with
       | some (.row e' sz' rows ver' m)=>if ver = ver' then (if e' = e then (if sz' = esz then (match ownKey y with
         | some k'=>if k' = k then False else app1 F E e esz bytes rows src o.dst { slots:=st.slots,obs:=del k st.obs,ctr:=st.ctr,par:=st.par } K
         | none=>app1 F E e esz bytes rows src o.dst { slots:=st.slots,obs:=del k st.obs,ctr:=st.ctr,par:=st.par } K) else False) else False) else False
       | _=>False)
      | _=>False)
     | _,_=>False)
    | _,_,_=>False) else (match gam t,gam t',ev st s,ev st x with
    | some ti,some tj,some d,some (.v (.string q))=>(match ti.kind,tj.kind with
     | .sli e 1 1,.str=>(match d with
      | .v (.slice none 0 0)=>app1 F E e 1 1 [] (F .sb q) o.dst st K
      | .own k ver=>if Nat.blt k st.par = true then False else (match lk k st.obs with
       | some (.row e' sz' rows ver' m)=>if ver = ver' then (if e' = e then (if sz' = 1 then app1 F E e 1 1 rows (F .sb q) o.dst { slots:=st.slots,obs:=del k st.obs,ctr:=st.ctr,par:=st.par } K else False) else False) else False
       | _=>False)
      | _=>False)
     | _,_=>False)
    | _,_,_,_=>False)
   | _,_=>False
  | .call { callee:=.builtin .clear,args,argTypes }=>wop F C (ev st) st.obs (.call { callee:=.builtin .clear,args,argTypes }) (fun obs' x=>K (St.put { slots:=st.slots,obs:=obs',ctr:=st.ctr,par:=st.par } o.dst x))
  | .slice t x lo hi max=>match prefixOf E o.dst st x lo hi max with
   | some (k,ver,hi)=>(match gam t,ev st hi,lk k st.obs with
    | some ti,some (.v (.int .i64 j)),some (.row e sz rows ver' m)=>(match ti.kind with
     | .sli e' esz bytes=>if ver = ver' then (if sz = esz then (if frS st.ctr st.slots = true then ∃ (n : Nat) (rows' : List (List AV)),j = (n : Int)∧(n : Int) ≤ F .len rows∧rows' = rows.take n∧K (St.put { slots:=st.slots,obs:=(st.ctr,.row e sz rows' 0 0) :: del k st.obs,ctr:=st.ctr + 1,par:=st.par } o.dst (.own st.ctr 0)) else False) else False) else False
     | _=>False)
    | _,_,_=>False)
   | none=>dop F C (ev st) st.obs (.slice t x lo hi max) (fun x=>K (st.put o.dst x))
  | .call { callee:=.value f,args,argTypes } =>
   if isWr E.wrs (ev st f) = true then if isK E.keep o.dst = true then (match ev st f,evs (ev st) args.toList with
    | some (.clo g caps),some as=>(match canon st.obs 0 as with
     | some (as',pars)=>if nodV (keysOf 0 as) = true then ∃ pars' e sz rows rest,C (.wr g pars pars') (as' ++ caps) (.own e sz rows rest)∧(match wback st.obs pars' (keysOf 0 as) with
      | some obs'=>if frS st.ctr st.slots = true then K (St.put { slots:=st.slots,obs:=(st.ctr,.row e sz rows 0 0) :: obs',ctr:=st.ctr + 1,par:=st.par } o.dst (tupOf (.own st.ctr 0 :: rest))) else False
      | none=>False) else False
     | none=>False)
    | _,_=>False) else wop F C (ev st) st.obs (.call { callee:=.value f,args,argTypes }) (fun obs' x=>K (St.put { slots:=st.slots,obs:=obs',ctr:=st.ctr,par:=st.par } o.dst x)) else
   if isK E.keep o.dst = true then (match ev (frzArgs st args.toList) f,evs (ev (frzArgs st args.toList)) args.toList with
    | some (.clo g caps),some as=>if as.all okArg = true then (if frS (frzArgs st args.toList).ctr (frzArgs st args.toList).slots = true then
      if isK E.bxs o.dst = true then ∃ ty cells rest,C (.fn g) (as.map plain ++ caps) (.bx ty cells rest)∧K (St.put { slots:=(frzArgs st args.toList).slots,obs:=((frzArgs st args.toList).ctr,.box ty cells false) :: (frzArgs st args.toList).obs,ctr:=(frzArgs st args.toList).ctr + 1,par:=(frzArgs st args.toList).par } o.dst (tupOf (.ptr (frzArgs st args.toList).ctr 0 :: rest)))
      else ∃ e sz rows rest,C (.fn g) (as.map plain ++ caps) (.own e sz rows rest)∧K (St.put { slots:=(frzArgs st args.toList).slots,obs:=((frzArgs st args.toList).ctr,.row e sz rows 0 0) :: (frzArgs st args.toList).obs,ctr:=(frzArgs st args.toList).ctr + 1,par:=(frzArgs st args.toList).par } o.dst (tupOf (.own (frzArgs st args.toList).ctr 0 :: rest)))
      else False) else False
    | _,_=>False)
   else dop F C (ev (frzArgs st args.toList)) (frzArgs st args.toList).obs o.op (fun x=>K ((frzArgs st args.toList).put o.dst x))
  | .build t ps=>dop F C (ev (frzArgs st (ps.toList.map (·.2)))) (frzArgs st (ps.toList.map (·.2))).obs o.op (fun x=>K ((frzArgs st (ps.toList.map (·.2))).put o.dst x))
  | .buildSlice t n ps=>if isK E.keep o.dst = true then (match gam t with
   | some ti=>(match ti.kind with
    | .sli e esz bytes=>(match partRows (ev (frzArgs st (ps.toList.map (·.2)))) esz 0 ps.toList with
     | some rows=>if rows.length = n then (if n * esz ≤ 16777216 then (if frS (frzArgs st (ps.toList.map (·.2))).ctr (frzArgs st (ps.toList.map (·.2))).slots = true then K (St.put { slots:=(frzArgs st (ps.toList.map (·.2))).slots,obs:=((frzArgs st (ps.toList.map (·.2))).ctr,.row e esz rows 0 0) :: (frzArgs st (ps.toList.map (·.2))).obs,ctr:=(frzArgs st (ps.toList.map (·.2))).ctr + 1,par:=(frzArgs st (ps.toList.map (·.2))).par } o.dst (.own (frzArgs st (ps.toList.map (·.2))).ctr 0)) else False) else False) else False
     | none=>False)
    | _=>False)
   | none=>False) else dop F C (ev (frzArgs st (ps.toList.map (·.2)))) (frzArgs st (ps.toList.map (·.2))).obs o.op (fun x=>K ((frzArgs st (ps.toList.map (·.2))).put o.dst x))
  | .box t x=>if isK E.keep o.dst = true then (match gam t,ev (frzArgs st [x]) x with
   | some ti,some u=>(match cellsOf u with
    | some cs=>if cs.length = ti.size then (if frS (frzArgs st [x]).ctr (frzArgs st [x]).slots = true then K (St.put { slots:=(frzArgs st [x]).slots,obs:=((frzArgs st [x]).ctr,.box t cs false) :: (frzArgs st [x]).obs,ctr:=(frzArgs st [x]).ctr + 1,par:=(frzArgs st [x]).par } o.dst (.ptr (frzArgs st [x]).ctr 0)) else False) else False
    | none=>False)
   | _,_=>False) else dop F C (ev (frzArgs st [x])) (frzArgs st [x]).obs o.op (fun x'=>K ((frzArgs st [x]).put o.dst x'))
  | .convert s d x=>match ev st x,(if s = d then true else false) with
   | some (.own _ _),true=>wop F C (ev st) st.obs (.convert s d x) (fun obs' u=>K (St.put { slots:=st.slots,obs:=obs',ctr:=st.ctr,par:=st.par } o.dst u))
   | _,_=>if isK E.keep o.dst = true then (match ev (frzArgs st [x]) x with
   | some u=>if okArg u = true then (if frS (frzArgs st [x]).ctr (frzArgs st [x]).slots = true then ∃ e sz rows,C (.conv s d) [plain u] (.own e sz rows [])∧K (St.put { slots:=(frzArgs st [x]).slots,obs:=((frzArgs st [x]).ctr,.row e sz rows 0 0) :: (frzArgs st [x]).obs,ctr:=(frzArgs st [x]).ctr + 1,par:=(frzArgs st [x]).par } o.dst (.own (frzArgs st [x]).ctr 0)) else False) else False
   | none=>False) else dop F C (ev (frzArgs st [x])) (frzArgs st [x]).obs o.op (fun x'=>K ((frzArgs st [x]).put o.dst x'))
  | _=>dop F C (ev st) st.obs o.op (fun x=>K (st.put o.dst x))
 else False
end
variable {P : Program} {W0 : Bas} {S0 : Nat→Prop}
theorem srep0_obs {w : World} {S : Nat→Prop} {β β' : Nat→Value} {obs obs' : Obs} {c : Nat} (hβ : ∀ j,j < c→β' j = β j) (hob : ∀ j o,j < c→lk j obs' = some o→lk j obs = some o) {x : AV} {y : Value} (hx : fr0 c x = true) (h : SRep0 w S β obs x y) : SRep0 w S β' obs' x y:=by
 cases x <;> try exact h
 ·rename_i k off
  have hk : k < c:=by simpa [fr0] using hx
  obtain ⟨g,h1,h2⟩:=(show ∃ g,β k = .pointer (some ⟨g,0,none⟩)∧y = .pointer (some ((⟨g,0,none⟩ : Addr).add off)) from h)
  exact ⟨g,by rw [hβ k hk]; exact h1,h2⟩
 ·rename_i k v
  have hk : k < c:=by simpa [fr0] using hx
  intro e sz rows m h'
  rw [hβ k hk]
  exact (show ∀ e sz rows m,lk k obs = some (.row e sz rows v m)→y = β k from h) _ _ _ _ (hob k _ hk h')
 ·rename_i k v m i cs off
  have hk : k < c:=by simpa [fr0] using hx
  intro e sz rows m' h'
  rw [hβ k hk]
  exact (show RelP β obs k v m i cs off y from h) _ _ _ _ (hob k _ hk h')
 ·rename_i k v lo
  have hk : k < c:=by simpa [fr0] using hx
  intro e sz rows m' h'
  have:=(show ∀ e sz rows m,lk k obs = some (.row e sz rows v m)→OslP β k lo sz rows.length y from h) _ _ _ _ (hob k _ hk h')
  unfold OslP at this ⊢
  rw [hβ k hk]
  exact this
 ·rename_i k
  have hk : k < c:=by simpa [fr0] using hx
  intro ks vs h'
  rw [hβ k hk]
  exact (show ∀ ks vs,lk k obs = some (.mp ks vs)→y = β k from h) _ _ (hob k _ hk h')
theorem frS_get {c : Nat} : ∀ {l : List (Nat × AV)},frS c l = true→∀ t x,lk t l = some x→(∃ vs,x = .tup vs∧vs.all (fr0 c) = true) ∨ ((∀ vs,x ≠ .tup vs)∧fr0 c x = true):=by
 intro l
 induction l with
 | nil=>intro _ t x h; simp [lk] at h
 | cons p l ih =>
  obtain ⟨k,u⟩:=p
  intro h t x hx
  have hu : ((∃ vs,u = .tup vs∧vs.all (fr0 c) = true) ∨ ((∀ vs,u ≠ .tup vs)∧fr0 c u = true))∧frS c l = true:=by
   by_cases hu : ∃ vs,u = .tup vs
   ·obtain ⟨vs,rfl⟩:=hu
    simp only [frS] at h
    split at h
    ·rename_i he; exact ⟨.inl ⟨vs,rfl,he⟩,h⟩
    ·simp at h
   ·have hn : ∀ vs,u ≠ .tup vs:=fun vs e=>hu ⟨vs,e⟩
    have e : frS c ((k,u) :: l) = if fr0 c u = true then frS c l else false:=by
     cases u <;> first | rfl | exact absurd rfl (hn _)
    rw [e] at h
    split at h
    ·rename_i he; exact ⟨.inr ⟨hn,he⟩,h⟩
    ·simp at h
  simp only [lk] at hx
  split at hx
  ·injection hx with hx; subst hx; exact hu.1
  ·exact ih hu.2 t x hx
theorem srep_obs {w : World} {S : Nat→Prop} {β β' : Nat→Value} {obs obs' : Obs} {c : Nat} (hβ : ∀ j,j < c→β' j = β j) (hob : ∀ j o,j < c→lk j obs' = some o→lk j obs = some o) {x : AV} {y : Value} (hx : (∃ vs,x = .tup vs∧vs.all (fr0 c) = true) ∨ ((∀ vs,x ≠ .tup vs)∧fr0 c x = true)) (h : SRep w S β obs x y) : SRep w S β' obs' x y:=by
 rcases hx with ⟨vs,rfl,hv⟩ | ⟨hn,hf⟩
 ·obtain ⟨ys,h1,h2,h3⟩:=h
  exact ⟨ys,h1,h2,fun i u x hu hx=>srep0_obs hβ hob (List.all_eq_true.1 hv u (List.mem_of_getElem? hu)) (h3 i u x hu hx)⟩
 ·rw [srep_eq _ _ _ _ _ hn] at h ⊢
  exact srep0_obs hβ hob hf h
theorem orep_base {w : World} {S : Nat→Prop} {B B' : Nat} {x : Value} {o : Ob} (h : ORep w S B x o) (hB : B' ≤ B) : ORep w S B' x o:=by
 cases o with
 | box ty cells fz =>
  obtain ⟨g',xs,rfl,h1,h2⟩:=h
  exact ⟨g',xs,rfl,by omega,h2⟩
 | row e sz rows ver mver =>
  obtain ⟨xs,hown,h2⟩:=h
  exact ⟨xs,ownsRow_up hown (fun g hg=>by have:=(hown.lt g hg).1; omega),h2⟩
 | mp ks vs =>
  obtain ⟨r,es,clock,rfl,h1,h2⟩:=h
  exact ⟨r,es,clock,rfl,by omega,h2⟩
 | it ks vs cur =>
  obtain ⟨r,bm,since,seen,c0,es,clock,rfl,h1,h2⟩:=h
  exact ⟨r,bm,since,seen,c0,es,clock,rfl,by omega,h2⟩
theorem rel_new {n : Nat} {S S' : Nat→Prop} {β : Nat→Value} {st : St} {a : Act} {w w' : World} {d : Option Nat} {x : AV} {v nv : Value} {o : Ob} {obs1 : Obs} (h : RelS W0 S0 n S β st a w) (hfr : frS st.ctr st.slots = true) (hobs : ∀ j u,lk j obs1 = some u→lk j st.obs = some u)
  (hgr : GrK W0.M W0.W S0 w' S') (hsame : SameOn S w w') (hsub : ∀ g,S g→S' g) (hold : ∀ j u,lk j obs1 = some u→∀ g,blkOf (β j) = some g→w'.heap[g]? = w.heap[g]?∧¬ S' g) (hd : okD n d = true) (hnew : ORep w' S' 0 nv o) (hnb : ∀ g,blkOf nv = some g→W0.heap.size ≤ g ∨ W0.M g)
  (hsep : ∀ j u,lk j obs1 = some u→∀ g,blkOf (β j) = some g→blkOf nv = some g→False)
  (hx : SRep w' S' (fun j=>if j = st.ctr then nv else β j) ((st.ctr,o) :: obs1) x v) : Rel W0 S0 n (St.put { slots:=st.slots,obs:=(st.ctr,o) :: obs1,ctr:=st.ctr + 1,par:=st.par } d x) (a.put d v) w':=by
 have hlt : ∀ j u,lk j obs1 = some u→j < st.ctr:=fun j u hj=>h.ctr j u (hobs j u hj)
 have hob : (St.put { slots:=st.slots,obs:=(st.ctr,o) :: obs1,ctr:=st.ctr + 1,par:=st.par } d x).obs = (st.ctr,o) :: obs1:=by cases d <;> rfl
 have hct : (St.put { slots:=st.slots,obs:=(st.ctr,o) :: obs1,ctr:=st.ctr + 1,par:=st.par } d x).ctr = st.ctr + 1:=by cases d <;> rfl
 have hβ : ∀ j,j < st.ctr→(fun j=>if j = st.ctr then nv else β j) j = β j:=fun j hj=>by simp only; rw [if_neg (by omega)]
 have hob2 : ∀ j u,j < st.ctr→lk j ((st.ctr,o) :: obs1) = some u→lk j st.obs = some u:=fun j u hj hu=>by
  simp only [lk] at hu
  rw [if_neg (by omega)] at hu
  exact hobs j u hu
 have hold2 : ∀ t y,lk t st.slots = some y→t < n∧SRep w' S' (fun j=>if j = st.ctr then nv else β j) ((st.ctr,o) :: obs1) y (a.tmps.getD t undef):=by
  intro t y ht
  obtain ⟨h1,h2⟩:=h.slots t y ht
  exact ⟨h1,srep_obs hβ hob2 (frS_get hfr t y ht) (srep_mono hsame hsub h2)⟩
 refine ⟨S',fun j=>if j = st.ctr then nv else β j,hgr,by cases d <;> exact h.par,by rw [put_defers]; exact h.defers,by rw [put_size]; exact h.size,fun t y ht=>?_,?_,?_,?_,?_,by rw [hct]; have:=h.parc; omega,fun k u hp hu=>by
  rw [hob] at hu
  have hne : ¬ st.ctr = k:=by have:=h.parc; omega
  simp only [lk] at hu
  rw [if_neg hne] at hu
  rw [if_neg (fun e=>hne e.symm)]
  exact h.fix k u hp (hobs k u hu)⟩
 ·rw [hob]
  cases d with
  | none=>exact hold2 t y ht
  | some d =>
   have hdn : d < n:=by simpa [okD] using hd
   rw [getD_put _ _ _ _ (by rw [h.size]; exact hdn)]
   simp only [St.put,lk] at ht
   by_cases e : d = t
   ·rw [if_pos e] at ht
    injection ht with ht
    subst ht e
    exact ⟨hdn,by rw [if_pos rfl]; exact hx⟩
   ·rw [if_neg e] at ht
    obtain ⟨h1,h2⟩:=hold2 t y ht
    exact ⟨h1,by rw [if_neg (by omega)]; exact h2⟩
 ·rw [hob]
  intro k u hu
  simp only [lk] at hu
  by_cases e : st.ctr = k
  ·rw [if_pos e] at hu
   injection hu with hu
   subst hu e
   simp only [if_true]
   exact orep_base hnew (Nat.zero_le _)
  ·rw [if_neg e] at hu
   try simp only
   rw [if_neg (by omega)]
   exact orep_mono hsame hsub (hold k u hu) (h.objs k u (hobs k u hu))
 ·rw [hob]
  intro k u g hu hg
  simp only [lk] at hu
  by_cases e : st.ctr = k
  ·rw [if_pos e] at hu
   injection hu with hu
   subst hu e
   simp only [if_true] at hg
   rw [if_neg (by have:=h.parc; omega)]
   exact hnb g hg
  ·rw [if_neg e] at hu
   try simp only at hg
   rw [if_neg (by omega)] at hg
   exact h.up k u g (hobs k u hu) hg
 ·rw [hob]
  intro k k' u u' hu hu' hne g hg hg'
  simp only [lk] at hu hu'
  by_cases e : st.ctr = k
  ·rw [if_neg (by omega)] at hu'
   simp only [if_pos e.symm] at hg
   try simp only at hg'
   rw [if_neg (by omega)] at hg'
   exact hsep k' u' hu' g hg' hg
  ·rw [if_neg e] at hu
   try simp only at hg
   rw [if_neg (by omega)] at hg
   by_cases e' : st.ctr = k'
   ·simp only [if_pos e'.symm] at hg'
    exact hsep k u hu g hg hg'
   ·rw [if_neg e'] at hu'
    try simp only at hg'
    rw [if_neg (by omega)] at hg'
    exact h.sep k k' u u' (hobs k u hu) (hobs k' u' hu') hne g hg hg'
 ·rw [hob,hct]
  intro k u hu
  simp only [lk] at hu
  by_cases e : st.ctr = k
  ·omega
  ·rw [if_neg e] at hu
   have:=hlt k u hu
   omega
end Go.Proofs.Ytdnaadcbimbfmaa.Am
namespace Go.Proofs.Ytdnaadcbimbfmaa.Am
open Go Go.RowKit
variable {P : Program} {W0 : Bas} {S0 : Nat→Prop} {n : Nat}
theorem aop_dop (hΓ : TOKs P) {S : Nat→Prop} {β : Nat→Value} {st : St} {a : Act} {w : World} {o : Oper} {K : St→Prop} {Kr : Act→World→Prop} {Q : Exit→Act→World→Prop} (h1 : RelS W0 S0 n S β st a w) (hd : okD n o.dst = true)
  (h : dop sy (CSem P) (ev st) st.obs o.op (fun x=>K (st.put o.dst x))) (hK : ∀ st' a' w',K st'→Rel W0 S0 n st' a' w'→Kr a' w') : o.wp P a w Kr Q:=by
 obtain ⟨x,hk,hg⟩:=dop_ok hΓ h
 exact hg a w S β 0 h1.gr.lt h1.gd (fun o _ u hu=>ev_ok h1 hu) h1.objs o rfl Kr Q (fun v w' S' hgr hx=>hK _ _ _ hk ⟨S',β,rel_quiet h1 hgr hd hx⟩)
theorem aop_alloc {S : Nat→Prop} {β : Nat→Value} {st : St} {a : Act} {w : World} {o : Oper} {K : St→Prop} {Kr : Act→World→Prop} {Q : Exit→Act→World→Prop} {t : Nat} {ti : TI} {fz : Bool} (h : RelS W0 S0 n S β st a w) (hd : okD n o.dst = true) (hop : o.op = .alloc t) (ht : TOK P t ti) (hfr : frS st.ctr st.slots = true)
  (hk : K (St.put { slots:=st.slots,obs:=(st.ctr,.box t ti.zero fz) :: st.obs,ctr:=st.ctr + 1,par:=st.par } o.dst (.ptr st.ctr 0))) (hK : ∀ st' a' w',K st'→Rel W0 S0 n st' a' w'→Kr a' w') : o.wp P a w Kr Q:=by
 obtain ⟨z,hz,hzs,hzr⟩:=ht.zero w
 have hzl : z.cells = z.cells.toList.toArray:=by simp
 have hS:=h.gr.lt
 have hbl : Below w.heap.size w (w.alloc (.cells z.cells t (0,0))):=(Below.refl _ _).alloc (Nat.le_refl _) _
 have hne : ¬ S w.heap.size:=fun hs=>by have:=hS _ hs; omega
 refine wp_val (w':=w.alloc (.cells z.cells t (0,0))) (v:=.pointer (some ⟨w.heap.size,0,none⟩)) ?_ (hK _ _ _ hk ?_)
 ·simp [execOp,hop,Instr.alloc,hz,newVar,newRow,newObj,Sem.run]
 ·refine rel_new (nv:=.pointer (some ⟨w.heap.size,0,none⟩)) (S':=S) h hfr (fun j u hj=>hj) (h.gr.step (⟨hbl,fun _ h=>h,fun _ h=>.inl h,fun g hg=>Nat.lt_of_lt_of_le (hS g hg) (by simp)⟩ : Gr w S _ S))
   (fun g hg=>hbl.block g (hS g hg)) (fun g hg=>hg) (fun j u hj g hg=>?_) hd ?_ (fun g hg=>by simp [blkOf] at hg; subst hg; exact .inl h.gr.size) (fun j u hj g hg hg'=>?_) ?_
  ·obtain ⟨h1,h2,h3⟩:=orep_blk (h.objs j u hj) hg
   exact ⟨hbl.block g h2,h3⟩
  ·exact ⟨w.heap.size,z.cells.toList,rfl,Nat.zero_le _,hne,by rw [← hzl]; exact heap_alloc_new w _,hzr _ _⟩
  ·obtain ⟨h1,h2,h3⟩:=orep_blk (h.objs j u hj) hg
   simp [blkOf] at hg'
   omega
  ·exact ⟨w.heap.size,by simp,by rw [add_mk]⟩
theorem aop_makeMap {S : Nat→Prop} {β : Nat→Value} {st : St} {a : Act} {w : World} {o : Oper} {K : St→Prop} {Kr : Act→World→Prop} {Q : Exit→Act→World→Prop} {t : Nat} (h : RelS W0 S0 n S β st a w) (hd : okD n o.dst = true) (hop : o.op = .makeMap t none) (hfr : frS st.ctr st.slots = true)
  (hk : K (St.put { slots:=st.slots,obs:=(st.ctr,.mp [] []) :: st.obs,ctr:=st.ctr + 1,par:=st.par } o.dst (.mo st.ctr))) (hK : ∀ st' a' w',K st'→Rel W0 S0 n st' a' w'→Kr a' w') : o.wp P a w Kr Q:=by
 have hS:=h.gr.lt
 have hbl : Below w.heap.size w (w.alloc (.map #[] 0)):=(Below.refl _ _).alloc (Nat.le_refl _) _
 have hne : ¬ S w.heap.size:=fun hs=>by have:=hS _ hs; omega
 refine wp_val (w':=w.alloc (.map #[] 0)) (v:=.map (some w.heap.size)) ?_ (hK _ _ _ hk ?_)
 ·simp [execOp,hop,Instr.makeMap,newObj,Sem.run]
 ·refine rel_new (nv:=.map (some w.heap.size)) (S':=S) h hfr (fun j u hj=>hj) (h.gr.step (⟨hbl,fun _ h=>h,fun _ h=>.inl h,fun g hg=>Nat.lt_of_lt_of_le (hS g hg) (by simp)⟩ : Gr w S _ S))
   (fun g hg=>hbl.block g (hS g hg)) (fun g hg=>hg) (fun j u hj g hg=>?_) hd ?_ (fun g hg=>by simp [blkOf] at hg; subst hg; exact .inl h.gr.size) (fun j u hj g hg hg'=>?_) ?_
  ·obtain ⟨h1,h2,h3⟩:=orep_blk (h.objs j u hj) hg
   exact ⟨hbl.block g h2,h3⟩
  ·exact ⟨w.heap.size,#[],0,rfl,Nat.zero_le _,hne,heap_alloc_new w _,rfl,rfl,List.nodup_nil,fun x hx=>by simp at hx,fun i u e h=>by simp at h⟩
  ·obtain ⟨h1,h2,h3⟩:=orep_blk (h.objs j u hj) hg
   simp [blkOf] at hg'
   omega
  ·intro ks vs _
   simp
theorem aop_range {S : Nat→Prop} {β : Nat→Value} {st : St} {a : Act} {w : World} {o : Oper} {K : St→Prop} {Kr : Act→World→Prop} {Q : Exit→Act→World→Prop} {t kt et : Nat} {ti : TI} {x : Operand} {ks : List ByteArray} {vs : List AV} (h : RelS W0 S0 n S β st a w) (hd : okD n o.dst = true) (hop : o.op = .range t x) (ht : TOK P t ti) (hkd : ti.kind = .mp kt et) (hx : ev st x = some (.mp ks vs)) (hfr : frS st.ctr st.slots = true)
  (hk : K (St.put { slots:=st.slots,obs:=(st.ctr,.it ks vs none) :: st.obs,ctr:=st.ctr + 1,par:=st.par } o.dst (.ptr st.ctr 0))) (hK : ∀ st' a' w',K st'→Rel W0 S0 n st' a' w'→Kr a' w') : o.wp P a w Kr Q:=by
 have hS:=h.gr.lt
 have hkk:=ht.kind
 rw [hkd] at hkk
 obtain ⟨hun,hks⟩:=hkk
 have hm : Rep w S (.mp ks vs) (a.eval x):=ev_ok h hx
 obtain ⟨bm,es,clock,hy,hSb,hhb,h1,h2,hn,hbd,h3⟩ : ∃ r es clock,a.eval x = .map (some r)∧S r∧w.heap[r]? = some (.map es clock)∧es.toList.map (·.key) = ks.map Value.string∧vs.length = ks.length∧(es.toList.map (·.born)).Nodup∧(∀ x ∈ es.toList,x.born < clock)∧∀ (i : Nat) (u : AV) (e : MapEntry),vs[i]? = some u→es.toList[i]? = some e→Rep w S u e.val:=by
  obtain ⟨es,clock,r,hy,hs,hh,hk,hl,hn,hbd,hr⟩:=Rep.mp_inv hm
  exact ⟨r,es,clock,hy,hs,hh,hk,hl,hn,hbd,hr⟩
 have hbl : Below w.heap.size w (w.alloc (.mapIter (some bm) clock #[] clock)):=(Below.refl _ _).alloc (Nat.le_refl _) _
 have hne : ¬ S w.heap.size:=fun hs=>by have:=hS _ hs; omega
 have hsame : SameOn S w (w.alloc (.mapIter (some bm) clock #[] clock)):=fun g hg=>hbl.block g (hS g hg)
 have hleft : (leftOf es #[]).toList = es.toList:=by unfold leftOf; simp
 refine wp_val (w':=w.alloc (.mapIter (some bm) clock #[] clock)) (v:=.pointer (some ⟨w.heap.size,0,none⟩)) ?_ (hK _ _ _ hk ?_)
 ·have:=run_range_map (P:=P) w t _ _ bm es clock hun hhb
  simp [execOp,hop,hy,this]
 ·refine rel_new (nv:=.pointer (some ⟨w.heap.size,0,none⟩)) (S':=S) h hfr (fun j u hj=>hj) (h.gr.step (⟨hbl,fun _ h=>h,fun _ h=>.inl h,fun g hg=>Nat.lt_of_lt_of_le (hS g hg) (by simp)⟩ : Gr w S _ S))
   hsame (fun g hg=>hg) (fun j u hj g hg=>?_) hd ?_ (fun g hg=>by simp [blkOf] at hg; subst hg; exact .inl h.gr.size) (fun j u hj g hg hg'=>?_) ?_
  ·obtain ⟨h1,h2,h3⟩:=orep_blk (h.objs j u hj) hg
   exact ⟨hbl.block g h2,h3⟩
  ·exact ⟨w.heap.size,bm,clock,#[],clock,es,clock,rfl,Nat.zero_le _,hne,heap_alloc_new w _,hSb,(hsame _ hSb).trans hhb,hn,hbd,Nat.le_refl _,Nat.le_refl _,by rw [hleft]; exact h1,h2,fun i u e hu he=>by rw [hleft] at he; exact (h3 i u e hu he).mono hsame (fun _ h=>h),fun s v hc=>by cases hc⟩
  ·obtain ⟨h1,h2,h3⟩:=orep_blk (h.objs j u hj) hg
   simp [blkOf] at hg'
   omega
  ·exact ⟨w.heap.size,by simp,by rw [add_mk]⟩
theorem filter_erase {α : Type} (b : α→Nat) (p : α→Bool) : ∀ (l : List α) (j : Nat) (e : α),(l.map b).Nodup→(l.filter p)[j]? = some e→l.filter (fun x=>p x && !(b x == b e)) = (l.filter p).eraseIdx j
 | [],j,e,_,h=>by simp at h
 | a :: l,j,e,hn,h=>by
  simp only [List.map_cons,List.nodup_cons] at hn
  by_cases hp : p a = true
  ·rw [List.filter_cons_of_pos hp] at h ⊢
   cases j with
   | zero =>
    simp at h
    subst h
    rw [List.filter_cons_of_neg (by simp)]
    simp only [List.eraseIdx_cons_zero]
    apply List.filter_congr
    intro x hx
    have : b x ≠ b a:=fun he=>hn.1 (he ▸ List.mem_map_of_mem hx)
    simp [this]
   | succ j =>
    simp at h
    have hmem : e ∈ l:=(List.mem_filter.1 (List.mem_of_getElem? h)).1
    have hae : b a ≠ b e:=fun he=>hn.1 (he ▸ List.mem_map_of_mem hmem)
    rw [List.filter_cons_of_pos (by simp [hp,hae])]
    simp only [List.eraseIdx_cons_succ]
    rw [filter_erase b p l j e hn.2 h]
  ·rw [List.filter_cons_of_neg hp] at h ⊢
   rw [List.filter_cons_of_neg (by simp [hp])]
   exact filter_erase b p l j e hn.2 h
theorem left_push {es : Array MapEntry} {seen : Array Nat} {e : MapEntry} {j : Nat} (hn : (es.toList.map (·.born)).Nodup) (hj : (leftOf es seen).toList[j]? = some e) : (leftOf es (seen.push e.born)).toList = (leftOf es seen).toList.eraseIdx j:=by
 have h1 : ∀ s : Array Nat,(leftOf es s).toList = es.toList.filter (fun x=>!s.contains x.born):=fun s=>by unfold leftOf; simp
 rw [h1] at hj ⊢
 rw [h1,← filter_erase (·.born) _ es.toList j e hn hj]
 apply List.filter_congr
 intro x _
 simp [Bool.not_or,Array.contains_push]
 rfl
theorem aop_next {S : Nat→Prop} {β : Nat→Value} {st : St} {a : Act} {w : World} {o : Oper} {K : St→Prop} {Kr : Act→World→Prop} {Q : Exit→Act→World→Prop} {x : Operand} {k : Nat} {ks : List ByteArray} {vs : List AV} {cur : Option (ByteArray × AV)} (h : RelS W0 S0 n S β st a w) (hd : okD n o.dst = true) (hop : o.op = .next x false) (hx : ev st x = some (.ptr k 0)) (hlk : lk k st.obs = some (.it ks vs cur))
  (hk0 : NXe ks→K (St.put { slots:=st.slots,obs:=st.obs,ctr:=st.ctr,par:=st.par } o.dst (.tup [.b false])))
  (hk1 : ∀ (s : ByteArray) (v : AV) (ks' : List ByteArray) (vs' : List AV),NX ks vs s v ks' vs'→K (St.put { slots:=st.slots,obs:=(k,.it ks' vs' (some (s,v))) :: del k st.obs,ctr:=st.ctr,par:=st.par } o.dst (.tup [.b true,.v (.string s),v])))
  (hK : ∀ st' a' w',K st'→Rel W0 S0 n st' a' w'→Kr a' w') : o.wp P a w Kr Q:=by
 have hS:=h.gr.lt
 obtain ⟨g,hβ,h2⟩:=(show ∃ g,β k = .pointer (some ⟨g,0,none⟩)∧a.eval x = .pointer (some ((⟨g,0,none⟩ : Addr).add 0)) from ev_ok h hx)
 obtain ⟨r,bm,since,seen,c0,es,clock,he,hB,hSr,hh,hSb,hhb,hn,hbd,hsc,hcl,hkk,hl,hr,hcur⟩:=h.objs _ _ hlk
 rw [hβ] at he
 injection he with he
 injection he with he
 injection he with he
 subst he
 have hy : a.eval x = .pointer (some ⟨g,0,none⟩):=by rw [h2]; rfl
 have hlen : ks.length = (leftOf es seen).toList.length:=by rw [← List.length_map (f:=Value.string),← hkk,List.length_map]
 rcases run_next_at (P:=P) w o.type g bm since c0 seen es clock hh hhb hbd hsc with ⟨h0,hrun⟩ | ⟨e,hem,w1,hw1,hrun⟩
 ·have hks : ks = []:=List.eq_nil_of_length_eq_zero (by rw [hlen]; simpa using h0)
  refine wp_val (w':=w) (v:=.tuple #[.bool false]) (by simp [execOp,hop,hy,hrun]) (hK _ _ _ (hk0 ⟨hks⟩) ⟨S,β,?_⟩)
  exact rel_quiet h (Gr.refl hS) hd ⟨[.bool false],rfl,rfl,fun i u y hu hy'=>by
   match i with
   | 0=>simp at hu hy'; subst hu hy'; exact srep0_ofR (.c (.b _))
   | i + 1=>simp at hu⟩
 ·obtain ⟨j,hj,hje⟩:=List.getElem_of_mem hem
  have hje : (leftOf es seen).toList[j]? = some e:=by rw [List.getElem?_eq_getElem hj,hje]
  have hjk : j < ks.length:=by rw [hlen]; exact hj
  have hjv : j < vs.length:=by rw [hl]; exact hjk
  obtain ⟨s,hs⟩ : ∃ s,ks[j]? = some s:=⟨_,List.getElem?_eq_getElem hjk⟩
  obtain ⟨v,hv⟩ : ∃ v,vs[j]? = some v:=⟨_,List.getElem?_eq_getElem hjv⟩
  have hkey : e.key = .string s:=by
   have:=congrArg (·[j]?) hkk
   simp only [List.getElem?_map,hje,hs,Option.map_some] at this
   injection this
  have hval : Rep w S v e.val:=hr j v e hv hje
  have hee : e ∈ es.toList:=by
   have:=List.mem_of_getElem? hje
   unfold leftOf at this
   simp at this
   simpa using this.1
  have hlt : g < w.heap.size:=(Array.getElem?_eq_some_iff.1 hh).1
  obtain ⟨w',hw'⟩ : ∃ w',w' = Go.ChangeMaps.setBlock w1 g (.mapIter (some bm) since (seen.push e.born) clock):=⟨_,rfl⟩
  rw [← hw'] at hrun
  have hwh : w1.heap = w.heap:=by rcases hw1 with rfl | rfl <;> rfl
  have hheap : w'.heap[g]? = some (.mapIter (some bm) since (seen.push e.born) clock):=by
   rw [hw']; simp [Go.ChangeMaps.setBlock,hwh,hlt]
  have hother : ∀ j,j ≠ g→w'.heap[j]? = w.heap[j]?:=fun j hj=>by
   rw [hw']; simp [Go.ChangeMaps.setBlock,hwh,Array.getElem?_setIfInBounds_ne (Ne.symm hj)]
  have hsz : w'.heap.size = w.heap.size:=by rw [hw']; simp [Go.ChangeMaps.setBlock,hwh]
  have e1 : w'.os = w.os:=by rcases hw1 with rfl | rfl <;> rw [hw'] <;> rfl
  have e2 : w'.tape = w.tape:=by rcases hw1 with rfl | rfl <;> rw [hw'] <;> rfl
  have e3 : w'.output = w.output:=by rcases hw1 with rfl | rfl <;> rw [hw'] <;> rfl
  have hsame0 : SameOn S w w':=fun j hj=>hother j (fun e=>hSr (e ▸ hj))
  have hleft:=left_push hn hje
  obtain ⟨hsame,hobj,hsr⟩:=write_one (new:=.it (ks.eraseIdx j) (vs.eraseIdx j) (some (s,v))) hlk (by rw [hβ]; rfl) hS h.objs h.sep hother hsz ⟨g,bm,since,seen.push e.born,clock,es,clock,hβ,Nat.zero_le _,hSr,hheap,hSb,(hsame0 _ hSb).trans hhb,hn,hbd,hcl,hcl,(by rw [hleft,Go.ChangeMaps.map_eraseIdx,hkk,← Go.ChangeMaps.map_eraseIdx]),(by rw [List.length_eraseIdx,List.length_eraseIdx,hl]),(fun i u e' hu he'=>by
   rw [hleft] at he'
   rw [List.getElem?_eraseIdx] at hu he'
   split at hu
   ·rename_i hlt'; rw [if_pos hlt'] at he'; exact (hr _ _ _ hu he').mono hsame0 (fun _ h=>h)
   ·rename_i hlt'; rw [if_neg hlt'] at he'; exact (hr _ _ _ hu he').mono hsame0 (fun _ h=>h)),fun s' v' hc=>by
   injection hc with hc
   injection hc with hc1 hc2
   subst hc1 hc2
   exact ⟨e,seen,hee,rfl,rfl,hkey,hval.mono hsame0 (fun _ h=>h)⟩⟩ trivial
  refine wp_val (w':=w') (v:=.tuple #[.bool true,e.key,e.val]) (by simp [execOp,hop,hy,hrun]) (hK _ _ _ (hk1 _ _ _ _ ⟨j,hs,hv,rfl,rfl⟩) ⟨S,β,rel_wrote (P:=P) h hd (fun k' u hu=>?_) ⟨e1,e2,e3,by omega,fun j _ hT=>hother j (fun e=>hT ⟨k,_,hlk,by rw [hβ,e]; rfl⟩),fun _ h=>h,fun _ h=>.inl h,fun j hj=>by rw [hsz]; exact hS j hj,h.gd,h.gd.mono hsame (fun _ h=>h)⟩ hobj hsr ?_⟩)
  ·simp only [lk] at hu
   split at hu
   ·rename_i e'; exact ⟨_,e' ▸ hlk⟩
   ·rename_i e'; rw [lk_del,if_neg (fun h=>e' h.symm)] at hu; exact ⟨_,hu⟩
  ·refine ⟨[.bool true,e.key,e.val],rfl,rfl,fun i u y hu hy'=>?_⟩
   match i with
   | 0=>simp at hu hy'; subst hu hy'; exact srep0_ofR (.c (.b _))
   | 1=>simp at hu hy'; subst hu hy'; rw [hkey]; exact srep0_ofR (.c (.v _ rfl))
   | 2=>simp at hu hy'; subst hu hy'; exact srep0_ofR (hval.mono hsame (fun _ h=>h))
   | i + 3=>simp at hu
theorem aop_buildK {S : Nat→Prop} {β : Nat→Value} {st : St} {a : Act} {w : World} {o : Oper} {K : St→Prop} {Kr : Act→World→Prop} {Q : Exit→Act→World→Prop} {t m : Nat} {parts : Array (Nat × Operand)} {rows : List (List AV)} {ti : TI} {e esz bytes : Nat} (h : RelS W0 S0 n S β st a w) (hd : okD n o.dst = true) (hop : o.op = .buildSlice t m parts)
  (ht : TOK P t ti) (hkd : ti.kind = .sli e esz bytes) (hp : partRows (ev st) esz 0 parts.toList = some rows) (hn : rows.length = m) (hb : m * esz ≤ 16777216) (hfr : frS st.ctr st.slots = true)
  (hk : K (St.put { slots:=st.slots,obs:=(st.ctr,.row e esz rows 0 0) :: st.obs,ctr:=st.ctr + 1,par:=st.par } o.dst (.own st.ctr 0))) (hK : ∀ st' a' w',K st'→Rel W0 S0 n st' a' w'→Kr a' w') : o.wp P a w Kr Q:=by
 have hS:=h.gr.lt
 obtain ⟨xs,hrun,hr,hl,hxl,hpos⟩:=run_buildSlice (obs:=st.obs) (S:=S) (β:=β) (a:=a) (w:=w) ht hkd hp hn hb (fun o _ u hu=>ev_ok h hu) hop
 have hbl : Below w.heap.size w (w.alloc (.cells xs.toArray e (0,0))):=(Below.refl _ _).alloc (Nat.le_refl _) _
 have hne : ¬ S w.heap.size:=fun hs=>by have:=hS _ hs; omega
 have hgr : Gr w S (w.alloc (.cells xs.toArray e (0,0))) S:=⟨hbl,fun _ h=>h,fun _ h=>.inl h,fun g hg=>Nat.lt_of_lt_of_le (hS g hg) (by simp)⟩
 refine wp_val (w':=w.alloc (.cells xs.toArray e (0,0))) (v:=.slice (some ⟨w.heap.size,0,none⟩) m m) hrun (hK _ _ _ hk ?_)
 have hmm : m ≤ maxLen:=by
  have : m * 1 ≤ m * esz:=Nat.mul_le_mul_left _ hpos
  unfold maxLen
  omega
 refine rel_new (nv:=.slice (some ⟨w.heap.size,0,none⟩) m m) (S':=S) h hfr (fun j u hj=>hj) (h.gr.step hgr) (fun g hg=>hbl.block g (hS g hg)) (fun g hg=>hg) (fun j u hj g hg=>?_) hd ⟨xs,?_,hr.mono (fun g hg=>hbl.block g (hS g hg)) (fun _ h=>h),hl,fun g hg=>?_⟩ (fun g hg=>by simp [blkOf,Value.ownBlock] at hg; subst hg; exact .inl h.gr.size) (fun j u hj g hg hg'=>?_) ?_
 ·obtain ⟨h1,h2,h3⟩:=orep_blk (h.objs j u hj) hg
  exact ⟨hbl.block g h2,h3⟩
 ·rw [hn]
  exact ⟨hxl,.inr ⟨w.heap.size,m,xs.toArray,(0,0),rfl,Nat.zero_le _,heap_alloc_new w _,.inl rfl,Nat.le_refl _,hmm,by simp [hxl],by rw [List.take_of_length_le (by simp [hxl])]⟩⟩
 ·simp [Value.ownBlock] at hg
  subst hg
  exact hne
 ·obtain ⟨h1,h2,h3⟩:=orep_blk (h.objs j u hj) hg
  simp [blkOf,Value.ownBlock] at hg'
  omega
 ·intro e' sz' rows' m' hl'
  simp
end Go.Proofs.Ytdnaadcbimbfmaa.Am
namespace Go.Proofs.Ytdnaadcbimbfmaa.Am
open Go Go.RowKit
variable {P : Program} {W0 : Bas} {S0 : Nat→Prop}
theorem flatten_inv {sz : Nat} : ∀ (rows : List (List AV)) (i : Nat) (u : AV),(∀ r ∈ rows,r.length = sz)→rows.flatten[i]? = some u→∃ j r k,rows[j]? = some r∧r[k]? = some u∧i = j * sz + k:=by
 intro rows
 induction rows with
 | nil=>intro i u _ h; simp at h
 | cons r rs ih =>
  intro i u hl h
  have hr0 : r.length = sz:=hl r List.mem_cons_self
  rw [List.flatten_cons] at h
  by_cases hi : i < r.length
  ·rw [List.getElem?_append_left hi] at h
   exact ⟨0,r,i,rfl,h,by omega⟩
  ·rw [List.getElem?_append_right (by omega)] at h
   obtain ⟨j,r',k,h1,h2,h3⟩:=ih (i - r.length) u (fun r hr=>hl r (List.mem_cons_of_mem _ hr)) h
   exact ⟨j + 1,r',k,by simpa using h1,h2,by rw [Nat.succ_mul]; omega⟩
theorem choose_cells {w : World} {cs : List AV} {S : Nat→Prop} {f : Nat→Addr} (hf : ∀ (i : Nat) (u : AV),cs[i]? = some u→∃ x,w.cell? (f i) = some x∧RepC w S u x) : ∃ xs : List Value,RepL w S cs xs∧∀ (j : Nat) (x : Value),xs[j]? = some x→w.cell? (f j) = some x:=by
 have hex : ∀ i : Nat,∃ x : Value,∀ u : AV,cs[i]? = some u→w.cell? (f i) = some x∧RepC w S u x:=by
  intro i
  cases hu : cs[i]? with
  | none=>exact ⟨.bool true,fun u h=>by simp at h⟩
  | some u =>
   obtain ⟨x,hx,hr⟩:=hf _ _ hu
   exact ⟨x,fun u' h=>by injection h with h; subst h; exact ⟨hx,hr⟩⟩
 obtain ⟨g,hg⟩ : ∃ g : Nat→Value,∀ (i : Nat) (u : AV),cs[i]? = some u→w.cell? (f i) = some (g i)∧RepC w S u (g i):=⟨fun i=>(hex i).choose,fun i u hu=>(hex i).choose_spec u hu⟩
 refine ⟨(List.range cs.length).map g,⟨by simp,fun i u x hu hx=>?_⟩,fun j x hx=>?_⟩
 ·have hi : i < cs.length:=(List.getElem?_eq_some_iff.1 hu).1
  simp [List.getElem?_map,List.getElem?_range hi] at hx
  subst hx
  exact (hg i u hu).2
 ·have hj : j < cs.length:=by have:=(List.getElem?_eq_some_iff.1 hx).1; simpa using this
  simp [List.getElem?_map,List.getElem?_range hj] at hx
  subst hx
  exact (hg j _ (List.getElem?_eq_getElem hj)).1
theorem src_ok {w : World} {S : Nat→Prop} {β : Nat→Value} {obs : Obs} {B esz : Nat} (ho : ∀ k o,lk k obs = some o→ORep w S B (β k) o) {y : AV} {v : Value} {src : List (List AV)} (hr : rowsOf obs y = some src) (hy : SRep w S β obs y v) (hl : ∀ r ∈ src,r.length = esz) (hpos : 0 < esz) :
  (v = .slice none 0 0∧src = []) ∨ ∃ ad c news,v = .slice (some ad) src.length c∧RepL w S src.flatten news∧∀ (j : Nat) (x : Value),news[j]? = some x→w.cell? (ad.add j) = some x:=by
 cases y with
 | v x =>
  have hv:=srep_v hy
  cases x with
  | slice a n c =>
   cases a with
   | none =>
    cases n with
    | zero =>
     cases c with
     | zero=>simp [rowsOf] at hr; subst hr; exact .inl ⟨hv,rfl⟩
     | succ c=>simp [rowsOf] at hr
    | succ n=>simp [rowsOf] at hr
   | some a=>simp [rowsOf] at hr
  | _=>simp [rowsOf] at hr
 | sl rs =>
  simp [rowsOf] at hr
  subst hr
  cases srep_sl hy with
  | nil a c hn =>
   cases a with
   | none=>rw [hn rfl]; exact .inl ⟨rfl,rfl⟩
   | some a=>exact .inr ⟨a,c,[],rfl,RepL.nil _ _,fun j x h=>by simp at h⟩
  | sl rows a c sz f ha hlen hc hm h h' =>
   obtain ⟨news,h1,h2⟩:=choose_cells (w:=w) (S:=S) (cs:=rs.flatten) (f:=fun i=>a.add i) (fun i u hu=>by
    obtain ⟨j,r,k,hj,hk,hi⟩:=flatten_inv rs i u hlen hu
    subst hi
    exact ⟨f j k,h j r hj k u hk,h' j r hj k u hk⟩)
   exact .inr ⟨a,c,news,rfl,h1,h2⟩
 | own k ver =>
  simp only [rowsOf] at hr
  split at hr
  ·rename_i e sz rs ver' mver hk
   split at hr
   ·rename_i e1
    subst e1
    injection hr with hr
    subst hr
    have hv : v = β k:=(show ∀ e sz rows m,lk k obs = some (.row e sz rows ver m)→v = β k from hy) _ _ _ _ hk
    obtain ⟨xs,hown,hrep,hlen,hS⟩:=ho _ _ hk
    rcases hown.2 with ⟨hv2,hn⟩ | ⟨g,cap,cur,fr,hv2,hB,hh,hfr,hn,hm,hcs,htake⟩
    ·have hrs : rs = []:=List.eq_nil_of_length_eq_zero hn
     exact .inl ⟨by rw [hv,hv2],hrs⟩
    ·refine .inr ⟨⟨g,0,none⟩,cap,xs,by rw [hv,hv2],hrep,fun j x hx=>?_⟩
     rw [add_mk,cell_of_row w g _ _ _ _ hh]
     rw [← htake,List.getElem?_take] at hx
     split at hx
     ·simpa using hx
     ·simp at hx
   ·simp at hr
  ·simp at hr
 | _=>simp [rowsOf] at hr
variable {E : En}
theorem aop_append_core {S : Nat→Prop} {β : Nat→Value} {st : St} {obs1 : Obs} {a : Act} {w w' : World} {o : Oper} {K : St→Prop} {Kr : Act→World→Prop} {Q : Exit→Act→World→Prop} {e esz : Nat} {rows src : List (List AV)} {zs : List Value} {v v' : Value}
  (h : RelS W0 S0 E.n S β st a w) (hd : okD E.n o.dst = true) (hexec : (execOp a.eval o).run P w = .ok (.value v') w') (hown' : OwnR w' 0 e esz v' (rows ++ src).length zs) (hrepz : RepL w S (rows ++ src).flatten zs) (hrep' : ∀ r ∈ rows ++ src,r.length = esz) (hgrow : w.grownBy w' v.ownBlock) (hblk : v'.ownBlock = v.ownBlock ∨ v'.ownBlock = some w.heap.size)
  (hobs : ∀ j u,lk j obs1 = some u→lk j st.obs = some u) (hup : ∀ g,v.ownBlock = some g→W0.heap.size ≤ g ∨ W0.M g) (hSv : ∀ g,v.ownBlock = some g→¬ S g)
  (hsep : ∀ j u,lk j obs1 = some u→∀ g,blkOf (β j) = some g→v.ownBlock = some g→False)
  (hnew : mkRow E e esz (sy .app rows src) o.dst { slots:=st.slots,obs:=obs1,ctr:=st.ctr,par:=st.par } K) (hK : ∀ st' a' w',K st'→Rel W0 S0 E.n st' a' w'→Kr a' w') : o.wp P a w Kr Q:=by
 have hS:=h.gr.lt
 have hup' : ∀ g,v'.ownBlock = some g→W0.heap.size ≤ g ∨ W0.M g:=fun g hg=>by
  rcases hblk with e1 | e1
  ·exact hup g (e1 ▸ hg)
  ·rw [e1] at hg; injection hg with hg; subst hg; exact .inl h.gr.size
 have hsame : SameOn S w w':=fun g hg=>hgrow.block g (hS g hg) (fun e'=>hSv g e'.symm hg)
 have hgr : GrK W0.M W0.W S0 w' S:=h.gr.trans (T':=fun g=>v.ownBlock = some g) ⟨hgrow.os,hgrow.tape,hgrow.output,hgrow.size,fun k hk hn=>hgrow.block k hk (fun e=>hn e.symm),fun _ h=>h,fun _ h=>.inl h,fun g hg=>Nat.lt_of_lt_of_le (hS g hg) hgrow.size,h.gd,h.gd.mono hsame (fun _ h=>h)⟩ (fun g hg=>(hup g hg).symm)
 have hlt':=hown'.lt
 have hSv' : ∀ g,v'.ownBlock = some g→¬ S g:=by
  intro g hg hs
  rcases hblk with e1 | e1
  ·exact hSv g (e1 ▸ hg) hs
  ·rw [e1] at hg; injection hg with hg; have:=hS g hs; omega
 refine wp_val hexec ?_
 have hold : ∀ j u,lk j obs1 = some u→∀ g,blkOf (β j) = some g→w'.heap[g]? = w.heap[g]?∧¬ S g:=by
  intro j u hj g hg
  obtain ⟨h1,h2,h3⟩:=orep_blk (h.objs j u (hobs j u hj)) hg
  exact ⟨hgrow.block g h2 (fun e'=>hsep j u hj g hg e'.symm),h3⟩
 have hvblk : ∀ g,blkOf v' = some g→v'.ownBlock = some g:=by
  intro g hg
  rcases hown'.2 with ⟨rfl,_⟩ | ⟨g',cap,cur,fr,rfl,_⟩
  ·simp [blkOf,Value.ownBlock] at hg
  ·simpa [blkOf,Value.ownBlock] using hg
 have hrel : RelS W0 S0 E.n S β { slots:=st.slots,obs:=obs1,ctr:=st.ctr,par:=st.par } a w:=rel_sub h hobs
 unfold mkRow at hnew
 split at hnew
 ·split at hnew
  ·rename_i hfr
   refine hK _ _ _ hnew (rel_new (nv:=v') (S':=S) (obs1:=obs1) hrel hfr (fun _ _ h=>h) hgr hsame (fun _ h=>h) hold hd ⟨zs,hown',hrepz.mono hsame (fun _ h=>h),hrep',hSv'⟩ (fun g hg=>hup' g (hvblk g hg)) (fun j u hj g hg hg'=>?_) ?_)
   ·rcases hblk with e1 | e1
    ·exact hsep j u hj g hg (e1 ▸ hvblk g hg')
    ·have:=hvblk g hg'
     rw [e1] at this
     injection this with this
     have:=(orep_blk (hrel.objs j u hj) hg).2.1
     omega
   ·intro e' sz' rows' m' hl'
    simp
  ·exact hnew.elim
 ·refine hK _ _ _ hnew ⟨fun g=>S g ∨ v'.ownBlock = some g,β,?_⟩
  have hS2 : ∀ g,S g→(S g ∨ v'.ownBlock = some g):=fun g h=>Or.inl h
  have hob : (St.put { slots:=st.slots,obs:=obs1,ctr:=st.ctr,par:=st.par } o.dst (.sl (sy .app rows src))).obs = obs1:=by cases o.dst <;> rfl
  have hct : (St.put { slots:=st.slots,obs:=obs1,ctr:=st.ctr,par:=st.par } o.dst (.sl (sy .app rows src))).ctr = st.ctr:=by cases o.dst <;> rfl
  have hxv : SRep w' (fun g=>S g ∨ v'.ownBlock = some g) β obs1 (.sl (sy .app rows src)) v':=srep_c (repc_of_own (rows:=rows ++ src) hown' (hrepz.mono hsame hS2) hrep' (fun g hg=>Or.inr hg))
  refine ⟨⟨hgr.os,hgr.tape,hgr.output,hgr.size,hgr.block,fun g hg=>Or.inl (hgr.sub g hg),fun g hg=>?_,fun g hg=>?_,hgr.gd.1,hgr.gd.2.mono (fun _ _=>rfl) hS2⟩,by cases o.dst <;> exact h.par,by rw [put_defers]; exact h.defers,by rw [put_size]; exact h.size,fun t y hty=>?_,?_,?_,?_,?_,by rw [hct]; exact h.parc,by rw [hob]; exact hrel.fix⟩
  ·rcases hg with hg | hg
   ·exact hgr.new g hg
   ·exact .inr (hup' g hg)
  ·rcases hg with hg | hg
   ·exact hgr.lt g hg
   ·exact (hlt' g hg).2
  ·rw [hob]
   cases hdst : o.dst with
   | none =>
    rw [hdst] at hty
    obtain ⟨h1,h2⟩:=hrel.slots t y hty
    exact ⟨h1,srep_mono hsame hS2 h2⟩
   | some d =>
    rw [hdst] at hty hd
    have hdn : d < E.n:=by simpa [okD] using hd
    rw [getD_put _ _ _ _ (by rw [h.size]; exact hdn)]
    simp only [St.put,lk] at hty
    by_cases e : d = t
    ·rw [if_pos e] at hty
     injection hty with hty
     subst hty e
     exact ⟨hdn,by rw [if_pos rfl]; exact hxv⟩
    ·rw [if_neg e] at hty
     obtain ⟨h1,h2⟩:=hrel.slots t y hty
     exact ⟨h1,by rw [if_neg (fun h=>e h.symm)]; exact srep_mono hsame hS2 h2⟩
  ·rw [hob]
   intro k u hu
   refine orep_mono hsame hS2 (fun g hg=>⟨(hold k u hu g hg).1,fun hs=>?_⟩) (hrel.objs k u hu)
   rcases hs with hs | hs
   ·exact (hold k u hu g hg).2 hs
   ·rcases hblk with e1 | e1
    ·exact hsep k u hu g hg (e1 ▸ hs)
    ·rw [e1] at hs
     injection hs with hs
     have:=(orep_blk (hrel.objs k u hu) hg).2.1
     omega
  ·rw [hob]; exact hrel.up
  ·rw [hob]; exact hrel.sep
  ·rw [hob,hct]; exact hrel.ctr
theorem run_append_at (w : World) (t ty e : TypeId) (i : TypeInfo) (z : Value) (size bytes : Nat) (ht : P.underlying t = some (.slice e)) (hi : P.info? e = some i) (hz : i.zero = some z)
  (hsize : i.size = size) (hby : i.bytes = bytes) (hzs : z.cells.size = size) (hsz : 0 < size) (v : Value) (n : Nat) (xs : List Value) (hown : OwnR w 0 e size v n xs)
  (a : Addr) (m c : Nat) (news : List Value) (hl : news.length = m * size) (hnews : ∀ j u,news[j]? = some u→w.cell? (a.add j) = some u) (h1 : ∀ u ∈ news,u.oneCell' = true) (h63 : n + m ≤ maxLen) (hbytes : (n + m) * bytes ≤ 140737488355328) :
  ∃ v' w',(Builtin.append_ #[t,t] ty #[v,.slice (some a) m c]).run P w = .ok v' w'∧OwnR w' 0 e size v' (n + m) (xs ++ news)∧w.grownBy w' v.ownBlock∧(v'.ownBlock = v.ownBlock ∨ v'.ownBlock = some w.heap.size):=by
 subst hsize
 subst hby
 have hsmall : n + m ≤ 9223372036854775807:=by simp only [maxLen] at h63; omega
 have hlen : (xs ++ news).length = (n + m) * i.size:=by rw [List.length_append,hown.1,hl,Nat.add_mul]
 have grown : ∀ (old : Nat),old < n + m→∀ (row : Option Nat),
   OwnR (w.drew.alloc (.cells (xs.toArray ++ news.toArray ++ Builtin.zeroCells z.cells (grownCap w (n + m) old e - (n + m))) e)) 0 e i.size
    (.slice (some ⟨w.heap.size,0,none⟩) (n + m) (grownCap w (n + m) old e)) (n + m) (xs ++ news) ∧
   w.grownBy (w.drew.alloc (.cells (xs.toArray ++ news.toArray ++ Builtin.zeroCells z.cells (grownCap w (n + m) old e - (n + m))) e)) row:=by
  intro old ho row
  have hge:=grownCap_ge w (n + m) old e
  have hcm : grownCap w (n + m) old e ≤ maxLen:=grownCap_le_maxLen w (n + m) old e h63
  refine ⟨⟨hlen,.inr ⟨w.heap.size,_,_,(0,0),rfl,Nat.zero_le _,heap_alloc_new w.drew _,.inl rfl,hge,hcm,?_,?_⟩⟩,⟨rfl,rfl,rfl,by simp,fun k hk _=>((Below.refl w.drew.heap.size w.drew).alloc (Nat.le_refl _) _).block k hk⟩⟩
  ·simp only [Array.size_append,List.size_toArray,size_zeroCells,hzs,hown.1,hl,← Nat.add_mul]
   congr 1
   omega
  ·simp only [Array.toList_append,List.append_assoc]
   rw [← List.append_assoc,← hlen]
   exact List.take_left
 rcases hown.2 with ⟨rfl,rfl⟩ | ⟨g,cap,cur,fr,rfl,hbg,hg,hfr,hnc,hcm,hcs,htake⟩
 ·have hx : xs = []:=List.eq_nil_of_length_eq_zero (by simpa using hown.1)
  subst hx
  by_cases hm : m = 0
  ·subst hm
   have hn : news = []:=List.eq_nil_of_length_eq_zero (by simpa using hl)
   subst hn
   refine ⟨.slice none 0 0,w,?_,OwnR.nil w 0 e i.size,⟨rfl,rfl,rfl,Nat.le_refl _,fun _ _ _=>rfl⟩,Or.inl rfl⟩
   simp [Builtin.append_,run_underlying ht,sizeOf,typeInfo,hi,Builtin.lenOf,Builtin.firstCells,loadCells,loadCellsFrom]
  ·have hr:=run_append_nil (P:=P) w t ty e i z ht hi hz a m c news hl hnews (by omega) (by omega) (by have hb:=hbytes; simp only [Nat.zero_add] at hb; omega)
   have hgr:=grown 0 (by omega) (Value.ownBlock (.slice none 0 0))
   simp only [Nat.zero_add,List.nil_append,Array.empty_append] at hgr ⊢
   exact ⟨_,_,hr,hgr.1,hgr.2,Or.inr rfl⟩
 ·by_cases hroom : n + m ≤ cap
  ·have hfit : n * i.size + news.length ≤ cur.size:=by rw [hl,hcs,← Nat.add_mul]; exact Nat.mul_le_mul_right _ hroom
   have hr : (Builtin.append_ #[t,t] ty #[.slice (some ⟨g,0,none⟩) n cap,.slice (some a) m c]).run P w = .ok (.slice (some ⟨g,0,none⟩) (n + m) cap) (w.setRow g (cur.toList.take (n * i.size) ++ news ++ cur.toList.drop (n * i.size + news.length)).toArray):=by
    have hf:=run_firstCells_some (P:=P) w i.size m a m c news hl hnews
    have hst:=run_storeCells_B P g (n * i.size) e fr news 0 cur w hg hfr (by simpa using hfit) h1
    simp only [Nat.add_zero] at hst
    simp [Builtin.append_,run_underlying ht,sizeOf,typeInfo,hi,Builtin.lenOf,hroom,hf,Addr.add_lit,hst]
   refine ⟨_,_,hr,⟨hlen,.inr ⟨g,cap,_,fr,rfl,hbg,setRow_heap w g cur _ e _ hg,?_,hroom,hcm,?_,?_⟩⟩,⟨rfl,rfl,rfl,by simp,fun k _ hk=>setRow_other w g k _ (fun e=>hk (by simp [Value.ownBlock,e]))⟩,Or.inl rfl⟩
   ·rw [show (cur.toList.take (n * i.size) ++ news ++ cur.toList.drop (n * i.size + news.length)).toArray.size = cur.size by simp; omega]; exact hfr
   ·simp only [List.size_toArray,List.length_append,List.length_take,List.length_drop,Array.length_toList]
    omega
   ·rw [htake,← hlen]
    exact List.take_left
  ·have holds : ∀ j u,xs[j]? = some u→w.cell? ((⟨g,0,none⟩ : Addr).add j) = some u:=hown.cells (g:=g) rfl
   have hr:=run_append_grow (P:=P) w t ty e i z ht hi hz ⟨g,0,none⟩ n cap xs hown.1 holds a m c news hl hnews (by omega) (by omega) (growslice_fits (by omega) hbytes)
   have hgr:=grown cap (by omega) (Value.ownBlock (.slice (some ⟨g,0,none⟩) n cap))
   exact ⟨_,_,hr,hgr.1,hgr.2,Or.inr rfl⟩
theorem aop_append (hΓ : TOKs P) {S : Nat→Prop} {β : Nat→Value} {st : St} {obs1 : Obs} {a : Act} {w : World} {o : Oper} {K : St→Prop} {Kr : Act→World→Prop} {Q : Exit→Act→World→Prop} {t e esz bytes : Nat} {s x : Operand} {ti : TI} {y : AV} {rows src : List (List AV)} {xs : List Value} {v : Value}
  (h : RelS W0 S0 E.n S β st a w) (hd : okD E.n o.dst = true) (hop : o.op = .call { callee:=.builtin .append,args:=#[s,x],argTypes:=#[t,t] }) (ht : TOK P t ti) (hk : ti.kind = .sli e esz bytes)
  (hobs : ∀ j u,lk j obs1 = some u→lk j st.obs = some u) (hv : a.eval s = v) (hown : OwnR w 0 e esz v rows.length xs) (hup : ∀ g,v.ownBlock = some g→W0.heap.size ≤ g ∨ W0.M g) (hrep : RepL w S rows.flatten xs) (hlr : ∀ r ∈ rows,r.length = esz) (hSv : ∀ g,v.ownBlock = some g→¬ S g)
  (hsep : ∀ j u,lk j obs1 = some u→∀ g,blkOf (β j) = some g→v.ownBlock = some g→False)
  (hy : ev st x = some y) (hsrc : rowsOf st.obs y = some src) (h' : app1 sy E e esz bytes rows src o.dst { slots:=st.slots,obs:=obs1,ctr:=st.ctr,par:=st.par } K) (hK : ∀ st' a' w',K st'→Rel W0 S0 E.n st' a' w'→Kr a' w') : o.wp P a w Kr Q:=by
 obtain ⟨hls,hb,hnew⟩:=h'
 have hkd:=ht.kind
 rw [hk] at hkd
 obtain ⟨hu,⟨hpos,hposb⟩,inf,z,hinf,hz,hsz,hby,hzs⟩:=hkd
 have hS:=h.gr.lt
 simp only [sy] at hb
 have hb2 : (rows.length + src.length) * bytes ≤ 140737488355328:=by
  have : (((rows.length + src.length) * bytes : Nat) : Int) ≤ 140737488355328:=by rw [Int.natCast_mul,Int.natCast_add]; exact hb
  omega
 obtain ⟨v',w',hrun,hown',hrep',hgrow,hblk⟩ : ∃ v' w',(Builtin.append_ #[t,t] o.type #[v,a.eval x]).run P w = .ok v' w'∧(∃ zs,OwnR w' 0 e esz v' (rows ++ src).length zs∧RepL w S (rows ++ src).flatten zs)∧(∀ r ∈ rows ++ src,r.length = esz)∧w.grownBy w' v.ownBlock∧(v'.ownBlock = v.ownBlock ∨ v'.ownBlock = some w.heap.size):=by
  have hlall : ∀ r ∈ rows ++ src,r.length = esz:=fun r hr=>by
   rcases List.mem_append.1 hr with h | h
   ·exact hlr r h
   ·exact hls r h
  rcases src_ok h.objs hsrc (ev_ok h hy) hls hpos with ⟨hx,rfl⟩ | ⟨ad,c,news,hx,hnr,hnc⟩
  ·refine ⟨v,w,?_,⟨xs,by rw [List.append_nil]; exact hown,by rw [List.append_nil]; exact hrep⟩,hlall,⟨rfl,rfl,rfl,Nat.le_refl _,fun _ _ _=>rfl⟩,.inl rfl⟩
   rw [hx]
   rcases hown.2 with ⟨e1,e2⟩ | ⟨g,cap,cur,fr,e1,_,_,_,hnc,_⟩
   ·rw [e1]; simp [Builtin.append_,run_underlying hu,sizeOf,typeInfo,hinf,Builtin.lenOf,Builtin.firstCells]
   ·rw [e1]; simp [Builtin.append_,run_underlying hu,sizeOf,typeInfo,hinf,Builtin.lenOf,Builtin.firstCells,hnc,storeCells]
  ·have hnl : news.length = src.length * esz:=by rw [← hnr.1,flatten_len src hls]
   have hlenle : rows.length + src.length ≤ maxLen:=by
    have h1 : (rows.length + src.length) * 1 ≤ (rows.length + src.length) * bytes:=Nat.mul_le_mul_left _ hposb
    unfold maxLen
    omega
   obtain ⟨v',w',h1,h2,h3,h5⟩:=run_append_at (P:=P) w t o.type e inf z esz bytes hu hinf hz hsz hby hzs hpos v rows.length xs hown ad src.length c news hnl hnc hnr.one hlenle hb2
   exact ⟨v',w',by rw [hx]; exact h1,⟨xs ++ news,by rw [List.length_append]; exact h2,by rw [List.flatten_append]; exact hrep.append hnr⟩,hlall,h3,h5⟩
 obtain ⟨zs,hown',hrepz⟩:=hown'
 exact aop_append_core h hd (by simp [execOp,hop,resolve,invoke,builtin,hv,hrun]) hown' hrepz hrep' hgrow hblk hobs hup hSv hsep hnew hK
end Go.Proofs.Ytdnaadcbimbfmaa.Am
namespace Go.Proofs.Ytdnaadcbimbfmaa.Am
open Go Go.RowKit
variable {P : Program} {W0 : Bas} {S0 : Nat→Prop} {E : En}
theorem srep0_of_rep {w : World} {S : Nat→Prop} {β : Nat→Value} {obs : Obs} {x : AV} {y : Value} (h : Rep w S x y) : SRep0 w S β obs x y:=by
 have h1:=srep_of_rep (β:=β) (obs:=obs) h
 cases x <;> first | exact h1 | skip
 cases h with
 | c h=>cases h
theorem aop_call {S : Nat→Prop} {β : Nat→Value} {st : St} {a : Act} {w : World} {o : Oper} {K : St→Prop} {Kr : Act→World→Prop} {Q : Exit→Act→World→Prop} {f : Operand} {args : Array Operand} {ats : Array TypeId} {g e sz : Nat} {caps as rest : List AV} {rows : List (List AV)}
  (h : RelS W0 S0 E.n S β st a w) (hd : okD E.n o.dst = true) (hop : o.op = .call { callee:=.value f,args:=args,argTypes:=ats }) (hf : ev st f = some (.clo g caps)) (ha : evs (ev st) args.toList = some as) (hk : ∀ c ∈ as,okArg c = true) (hfr : frS st.ctr st.slots = true)
  (hc : CSem P (.fn g) (as.map plain ++ caps) (.own e sz rows rest)) (hK' : K (St.put { slots:=st.slots,obs:=(st.ctr,.row e sz rows 0 0) :: st.obs,ctr:=st.ctr + 1,par:=st.par } o.dst (tupOf (.own st.ctr 0 :: rest)))) (hK : ∀ st' a' w',K st'→Rel W0 S0 E.n st' a' w'→Kr a' w') : o.wp P a w Kr Q:=by
 obtain ⟨he,hc⟩:=hc
 obtain ⟨xs,hfv,hcaps⟩:=srep_clo (ev_ok h hf)
 have hreps:=(evs_reps (a:=a) args.toList as ha (fun o _ u hu=>ev_ok h hu) (fun c hc=>by have:=hk c hc; cases c <;> simp_all [okArg])).append hcaps
 refine wp_enter (run_call hop hfv he) ((hc w S _ h.gr.lt h.gd hreps).mono ?_)
 rintro e' w' ⟨y,S',rfl,hg,z,ys,zs,hy,hown,hr,hl,hSz,hrest,_⟩
 refine ⟨y,rfl,hK _ _ _ hK' ?_⟩
 have hsame:=hg.same h.gr.lt
 have hzb : ∀ g,blkOf z = some g→w.heap.size ≤ g∧¬ S' g:=fun g hgz=>⟨(hown.lt g (ownBlock_blk hown hgz)).1,hSz g (ownBlock_blk hown hgz)⟩
 refine rel_new (nv:=z) (S':=S') (obs1:=st.obs) h hfr (fun _ _ h=>h) (h.gr.step hg) hsame hg.sub (fun j u hj g' hg'=>?_) hd ⟨zs,?_,hr,hl,hSz⟩ (fun g' hg2=>.inl (Nat.le_trans h.gr.size (hzb g' hg2).1)) (fun j u hj g' hg1 hg2=>?_) ?_
 ·obtain ⟨h1,h2,h3⟩:=orep_blk (h.objs j u hj) hg'
  exact ⟨hg.below.block g' h2,fun hs=>by rcases hg.new g' hs with h4 | h4; exact h3 h4; omega⟩
 ·refine ⟨hown.1,?_⟩
  rcases hown.2 with h1 | ⟨g',cap,cur,fr,h1,hB,r⟩
  ·exact .inl h1
  ·exact .inr ⟨g',cap,cur,fr,h1,Nat.zero_le _,r⟩
 ·have:=(orep_blk (h.objs j u hj) hg1).2.1
  have:=(hzb g' hg2).1
  omega
 ·subst hy
  have hz0 : SRep0 w' S' (fun j=>if j = st.ctr then z else β j) ((st.ctr,.row e sz rows 0 0) :: st.obs) (.own st.ctr 0) z:=by
   intro e' sz' rows' m' hl'
   simp
  cases rest with
  | nil =>
   rw [hrest.unnil]
   exact hz0
  | cons r rs =>
   obtain ⟨y1,ys1,rfl,h1,h2⟩:=hrest.uncons
   refine ⟨z :: y1 :: ys1,rfl,by simp [h2.1],fun i u x hu hx=>?_⟩
   cases i with
   | zero=>simp at hu hx; subst hu hx; exact hz0
   | succ i=>exact srep0_of_rep (hrest.2 i u x (by simpa using hu) (by simpa using hx))
theorem flatten_take {sz : Nat} {rows : List (List AV)} (hlen : ∀ r ∈ rows,r.length = sz) (lo : Nat) (hlo : lo ≤ rows.length) : (rows.take lo).flatten = rows.flatten.take (lo * sz):=by
 have h1 : rows.flatten = (rows.take lo).flatten ++ (rows.drop lo).flatten:=by rw [← List.flatten_append,List.take_append_drop]
 have h2 : (rows.take lo).flatten.length = lo * sz:=by
  rw [flatten_len (sz:=sz) _ (fun r hr=>hlen r (List.mem_of_mem_take hr)),List.length_take,Nat.min_eq_left hlo]
 conv=>rhs; rw [h1,List.take_append_of_le_length (by omega),List.take_of_length_le (by omega)]
theorem aop_prefix {S : Nat→Prop} {β : Nat→Value} {st : St} {a : Act} {w : World} {o : Oper} {K : St→Prop} {Kr : Act→World→Prop} {Q : Exit→Act→World→Prop} {t k ver m e e' sz bytes n : Nat} {x hi : Operand} {ti : TI} {rows : List (List AV)}
  (h : RelS W0 S0 E.n S β st a w) (hd : okD E.n o.dst = true) (hop : o.op = .slice t x none (some hi) none) (ht : TOK P t ti) (hkd : ti.kind = .sli e' sz bytes) (hx : ev st x = some (.own k ver)) (hk : lk k st.obs = some (.row e sz rows ver m)) (hhi : ev st hi = some (.v (.int .i64 (n : Int)))) (hn : n ≤ rows.length)
  (hfr : frS st.ctr st.slots = true) (hK' : K (St.put { slots:=st.slots,obs:=(st.ctr,.row e sz (rows.take n) 0 0) :: del k st.obs,ctr:=st.ctr + 1,par:=st.par } o.dst (.own st.ctr 0))) (hK : ∀ st' a' w',K st'→Rel W0 S0 E.n st' a' w'→Kr a' w') : o.wp P a w Kr Q:=by
 have hxv : a.eval x = β k:=(show ∀ e sz rows m,lk k st.obs = some (.row e sz rows ver m)→a.eval x = β k from ev_ok h hx) _ _ _ _ hk
 have hkd':=ht.kind
 rw [hkd] at hkd'
 obtain ⟨hu,⟨hpos,hposb⟩,inf,z,hinf,hz,hsz,hby,hzs⟩:=hkd'
 have e1 : a.eval hi = .int .i64 (n : Int):=srep_v (ev_ok h hhi)
 have hz0 : (0 : Int) ≤ (n : Int):=by omega
 have hso:=run_sizeOf_info (P:=P) hinf hsz w
 obtain ⟨xs,hown,hrep,hlen,hSv⟩:=h.objs _ _ hk
 obtain ⟨ad,c,hy,hc,hpos2,hnn,hoff⟩:=own_shape hown
 have hnc : n ≤ c:=Nat.le_trans hn hc
 have hxv':=hxv
 rw [hy] at hxv'
 have hblk : ∀ g,blkOf (Value.slice ad n c) = some g→blkOf (β k) = some g:=fun g hg=>by
  rw [hy]
  cases ad with
  | none=>simp [blkOf,Value.ownBlock] at hg
  | some ad=>simpa [blkOf,Value.ownBlock] using hg
 refine wp_val (w':=w) (v:=.slice ad n c) ?_ (hK _ _ _ hK' ?_)
 ·have hadd : (if c = 0 then ad else ad.map (·.add (0 * sz))) = ad:=by
   split
   ·rfl
   ·cases ad with
    | none=>rfl
    | some ad=>simp [Addr.add]
  simp [execOp,hop,hxv',e1,Instr.sliceAt,Instr.slice,run_underlying hu,Instr.sliceBounds,Instr.sliceBound,asIntOf,hnc,hso]
  simpa using hadd
 ·refine rel_new (nv:=.slice ad n c) (S':=S) (obs1:=del k st.obs) h hfr (fun j u hj=>?_) h.gr (fun _ _=>rfl) (fun _ h=>h) (fun j u hj g hg=>?_) hd ⟨xs.take (n * sz),?_,?_,fun r hr=>hlen r (List.mem_of_mem_take hr),fun g hg=>hSv g ?_⟩ (fun g hg=>?_) (fun j u hj g hg hg'=>?_) ?_
  ·rw [lk_del] at hj
   split at hj
   ·simp at hj
   ·exact hj
  ·rw [lk_del] at hj
   split at hj
   ·simp at hj
   ·exact ⟨rfl,(orep_blk (h.objs j u hj) hg).2.2⟩
  ·rw [List.length_take,Nat.min_eq_left hn]
   have hxl : xs.length = rows.length * sz:=hown.1
   have hle : n * sz ≤ rows.length * sz:=Nat.mul_le_mul_right _ hn
   rcases hown.2 with ⟨hv,hn0⟩ | ⟨g,cap,cur,fr,hv,hB,hh,hfr,hn1,hm,hcs,htake⟩
   ·rw [hy] at hv
    injection hv with h1 h2 h3
    subst h1 h3
    have : n = 0:=by omega
    subst this
    simpa using OwnR.nil _ _ _ _
   ·rw [hy] at hv
    injection hv with h1 h2 h3
    subst h1 h3
    refine ⟨by rw [List.length_take]; omega,.inr ⟨g,c,cur,fr,rfl,hB,hh,hfr,hnc,hm,hcs,?_⟩⟩
    rw [← htake,List.take_take,Nat.min_eq_left hle]
  ·rw [flatten_take hlen n hn]; exact hrep.take _
  ·rw [hy]
   cases ad with
   | none=>simp [Value.ownBlock] at hg
   | some ad=>simpa [Value.ownBlock] using hg
  ·have:=h.up k _ g hk (hblk g hg)
   split at this
   ·exact .inr this
   ·exact this
  ·rw [lk_del] at hj
   split at hj
   ·simp at hj
   ·rename_i hne
    exact h.sep j k u _ hj hk hne g hg (hblk g hg')
  ·intro e' sz' rows' m' hl'
   simp
theorem aop_callW {S : Nat→Prop} {β : Nat→Value} {st : St} {a : Act} {w : World} {o : Oper} {K : St→Prop} {Kr : Act→World→Prop} {Q : Exit→Act→World→Prop} {f : Operand} {args : Array Operand} {ats : Array TypeId} {g e sz : Nat} {caps as as' rest : List AV} {rows : List (List AV)} {pars pars' obs' : Obs}
  (h : RelS W0 S0 E.n S β st a w) (hd : okD E.n o.dst = true) (hop : o.op = .call { callee:=.value f,args:=args,argTypes:=ats }) (hf : ev st f = some (.clo g caps)) (ha : evs (ev st) args.toList = some as) (hcan : canon st.obs 0 as = some (as',pars)) (hn : nodV (keysOf 0 as) = true)
  (hc : CSem P (.wr g pars pars') (as' ++ caps) (.own e sz rows rest)) (hw : wback st.obs pars' (keysOf 0 as) = some obs') (hfr : frS st.ctr st.slots = true)
  (hK' : K (St.put { slots:=st.slots,obs:=(st.ctr,.row e sz rows 0 0) :: obs',ctr:=st.ctr + 1,par:=st.par } o.dst (tupOf (.own st.ctr 0 :: rest)))) (hK : ∀ st' a' w',K st'→Rel W0 S0 E.n st' a' w'→Kr a' w') : o.wp P a w Kr Q:=by
 refine wcall_core hf ha hcan hn hc hw h.gr.lt h.gd (fun o _ u hu=>ev_ok h hu) h.objs h.sep hop (fun y w' S' β' hβ' hTsub hg hsame hsub hobj hsr hres=>hK _ _ _ hK' ?_)
 obtain ⟨z,ys,zs,hy,hown,hr,hl,hzb,hrest⟩:=hres
 have hkeys : ∀ k u,lk k obs' = some u→∃ u',lk k st.obs = some u':=fun k u hk=>by
  rcases wback_ok _ _ hw k u hk with ⟨_,h2⟩ | ⟨q,old,new,_,_,h3,_⟩
  ·exact ⟨_,h2⟩
  ·exact ⟨_,h3⟩
 have hrel : RelS W0 S0 E.n S' β { slots:=st.slots,obs:=obs',ctr:=st.ctr,par:=st.par } a w':=by
  refine ⟨h.gr.trans hg (fun g' hg'=>?_),h.par,h.defers,h.size,fun t x ht=>⟨(h.slots t x ht).1,srep_of0 hsr (h.slots t x ht).2⟩,hobj,fun k o g' hk hg'=>?_,fun k k' o o' hk hk' hne g' h1 h2=>?_,fun k o hk=>?_,h.parc,fun k o hp hk=>?_⟩
  ·obtain ⟨k,u,h1,h2⟩:=hg'
   have:=h.up k u g' h1 h2
   split at this
   ·exact .inl this
   ·exact this.symm
  ·obtain ⟨u,hu⟩:=hkeys k o hk; exact h.up k u g' hu hg'
  ·obtain ⟨u,hu⟩:=hkeys k o hk
   obtain ⟨u',hu'⟩:=hkeys k' o' hk'
   exact h.sep k k' u u' hu hu' hne g' h1 h2
  ·obtain ⟨u,hu⟩:=hkeys k o hk; exact h.ctr k u hu
  ·obtain ⟨u,hu⟩:=hkeys k o hk; exact h.fix k u hp hu
 have hzblk : ∀ g',blkOf z = some g'→z.ownBlock = some g':=fun g' hg'=>by
  rcases hown.2 with ⟨rfl,_⟩ | ⟨g2,cap,cur,fr,rfl,_⟩
  ·simp [blkOf,Value.ownBlock] at hg'
  ·simpa [blkOf,Value.ownBlock] using hg'
 refine rel_new (st:={ slots:=st.slots,obs:=obs',ctr:=st.ctr,par:=st.par }) (nv:=z) (S':=S') (obs1:=obs') hrel hfr (fun j u hj=>hj) hrel.gr (fun _ _=>rfl) (fun _ h=>h) (fun j u hj g' hg'=>⟨rfl,(orep_blk (hobj j u hj) hg').2.2⟩) hd ⟨zs,hown,hr,hl,fun g' hg'=>(hzb g' hg').1⟩ (fun g' hg'=>?_) (fun j u hj g' h1 h2=>?_) ?_
 ·rcases (hzb g' (hzblk g' hg')).2.1 with hT | hT
  ·obtain ⟨q,k,u,h1,h2,h3⟩:=hTsub g' hT
   have:=h.up k u g' h2 h3
   split at this
   ·exact .inr this
   ·exact this
  ·exact .inl (Nat.le_trans h.gr.size hT)
 ·obtain ⟨_,hz2,hz3⟩:=hzb g' (hzblk g' h2)
  rcases wback_ok _ _ hw j u hj with ⟨n1,n2⟩ | ⟨q,old,new,n1,n2,n3,n4⟩
  ·rcases hz2 with hT | hT
   ·obtain ⟨q,k,u',m1,m2,m3⟩:=hTsub g' hT
    refine h.sep j k u u' n2 m2 (fun e=>?_) g' h1 m3
    subst e
    exact n1 q (lk_mem m1)
   ·have:=(orep_blk (h.objs j u n2) h1).2.1
    omega
  ·have n5:=(keysOf_mem _ _ _ _ n1).2
   exact hz3 ⟨q,new,n2,by rw [hβ' q j n5]; exact h1⟩
 ·subst hy
  have hz0 : SRep0 w' S' (fun j=>if j = st.ctr then z else β j) ((st.ctr,.row e sz rows 0 0) :: obs') (.own st.ctr 0) z:=by
   intro e' sz' rows' m' hl'
   simp
  cases rest with
  | nil =>
   rw [hrest.unnil]
   exact hz0
  | cons r rs =>
   obtain ⟨y1,ys1,rfl,h1,h2⟩:=hrest.uncons
   refine ⟨z :: y1 :: ys1,rfl,by simp [h2.1],fun i u x hu hx=>?_⟩
   cases i with
   | zero=>simp at hu hx; subst hu hx; exact hz0
   | succ i=>exact srep0_of_rep (hrest.2 i u x (by simpa using hu) (by simpa using hx))
theorem sb_str (q : ByteArray) (w : World) (S : Nat→Prop) : RepL w S ((sy .sb q).flatten) (Lib.strCells q)∧(∀ r ∈ sy .sb q,r.length = 1)∧(sy .sb q).length = q.size:=by
 have e : ∀ l : List UInt8,RepL w S ((l.map fun b=>[AV.v (.int .u8 b.toNat)]).flatten) (l.map fun b=>Value.int .u8 b.toNat):=by
  intro l
  induction l with
  | nil=>exact RepL.nil _ _
  | cons b l ih=>exact RepL.cons (.v _ rfl) ih
 refine ⟨e _,fun r hr=>?_,?_⟩
 ·simp only [sy,List.mem_map] at hr
  obtain ⟨b,_,rfl⟩:=hr
  rfl
 ·simp [sy]
theorem run_append_string_at (w : World) (t u ty e : TypeId) (i : TypeInfo) (z : Value) (ht : P.underlying t = some (.slice e)) (hu : P.underlying u = some .string) (hi : P.info? e = some i) (hz : i.zero = some z) (hzs : z.cells.size = 1)
  (hsize : i.size = 1) (hby : i.bytes = 1) (v : Value) (n : Nat) (xs : List Value) (hown : OwnR w 0 e 1 v n xs) (s : ByteArray) (h63 : n + s.size ≤ maxLen) (hbytes : n + s.size ≤ 140737488355328) :
  ∃ v' w',(Builtin.append_ #[t,u] ty #[v,.string s]).run P w = .ok v' w'∧OwnR w' 0 e 1 v' (n + s.size) (xs ++ Lib.strCells s)∧w.grownBy w' v.ownBlock∧(v'.ownBlock = v.ownBlock ∨ v'.ownBlock = some w.heap.size):=by
 have hxl : xs.length = n:=by simpa using hown.1
 have hlen : (xs ++ Lib.strCells s).length = (n + s.size) * 1:=by rw [List.length_append,hxl,Lib.strCells_length,Nat.mul_one]
 have grown : ∀ (old : Nat),old < n + s.size→∀ (row : Option Nat),
   OwnR (w.drew.alloc (.cells (xs.toArray ++ (Lib.strCells s).toArray ++ Builtin.zeroCells z.cells (grownCap w (n + s.size) old e - (n + s.size))) e)) 0 e 1
    (.slice (some ⟨w.heap.size,0,none⟩) (n + s.size) (grownCap w (n + s.size) old e)) (n + s.size) (xs ++ Lib.strCells s) ∧
   w.grownBy (w.drew.alloc (.cells (xs.toArray ++ (Lib.strCells s).toArray ++ Builtin.zeroCells z.cells (grownCap w (n + s.size) old e - (n + s.size))) e)) row:=by
  intro old ho row
  have hge:=grownCap_ge w (n + s.size) old e
  have hcm : grownCap w (n + s.size) old e ≤ maxLen:=grownCap_le_maxLen w (n + s.size) old e h63
  refine ⟨⟨hlen,.inr ⟨w.heap.size,_,_,(0,0),rfl,Nat.zero_le _,heap_alloc_new w.drew _,.inl rfl,hge,hcm,?_,?_⟩⟩,⟨rfl,rfl,rfl,by simp,fun k hk _=>((Below.refl w.drew.heap.size w.drew).alloc (Nat.le_refl _) _).block k hk⟩⟩
  ·simp only [Array.size_append,List.size_toArray,size_zeroCells,hzs,hxl,Lib.strCells_length]
   omega
  ·simp only [Array.toList_append,List.append_assoc]
   rw [← List.append_assoc,← hlen]
   exact List.take_left
 rcases hown.2 with ⟨rfl,rfl⟩ | ⟨g,cap,cur,fr,rfl,hbg,hg,hfr,hnc,hcm,hcs,htake⟩
 ·have hx : xs = []:=List.eq_nil_of_length_eq_zero hxl
  subst hx
  by_cases hm : s.size = 0
  ·have hn : Lib.strCells s = []:=List.eq_nil_of_length_eq_zero (by rw [Lib.strCells_length]; exact hm)
   refine ⟨.slice none 0 0,w,?_,by rw [hm,hn]; exact OwnR.nil w 0 e 1,⟨rfl,rfl,rfl,Nat.le_refl _,fun _ _ _=>rfl⟩,.inl rfl⟩
   have hf:=Lib.run_firstCells_string (P:=P) w 1 s
   rw [hm] at hf
   simp [Builtin.append_,run_underlying ht,run_underlying hu,sizeOf,typeInfo,hi,hsize,Builtin.lenOf,hm,hf]
  ·have hr:=run_append_nil_string (P:=P) w t u ty e i z ht hu hi hz s (by omega) (by omega) (by rw [hby]; omega)
   have hgr:=grown 0 (by omega) (Value.ownBlock (.slice none 0 0))
   simp only [Nat.zero_add,List.nil_append,Array.empty_append] at hgr ⊢
   have e1 : (s.data.map fun b=>Value.int .u8 b.toNat) = (Lib.strCells s).toArray:=by
    apply Array.ext'
    simp [Lib.strCells]
   rw [e1] at hr
   exact ⟨_,_,hr,hgr.1,hgr.2,.inr rfl⟩
 ·by_cases hroom : n + s.size ≤ cap
  ·have hcs' : cur.size = cap:=by simpa using hcs
   have hr : (Builtin.append_ #[t,u] ty #[.slice (some ⟨g,0,none⟩) n cap,.string s]).run P w = .ok (.slice (some ⟨g,0,none⟩) (n + s.size) cap) (w.setRow g (cur.toList.take n ++ Lib.strCells s ++ cur.toList.drop (n + s.size)).toArray):=by
    have hf:=Lib.run_firstCells_string (P:=P) w 1 s
    have hst:=run_storeCells_B P g n e fr (Lib.strCells s) 0 cur w hg hfr (by rw [Lib.strCells_length]; omega) (Lib.strCells_oneCell s)
    simp only [Nat.add_zero,Lib.strCells_length] at hst
    simp [Builtin.append_,run_underlying ht,run_underlying hu,sizeOf,typeInfo,hi,hsize,Builtin.lenOf,hroom,hf,Addr.add_lit,hst]
   refine ⟨_,_,hr,⟨hlen,.inr ⟨g,cap,_,fr,rfl,hbg,setRow_heap w g cur _ e _ hg,?_,hroom,hcm,?_,?_⟩⟩,⟨rfl,rfl,rfl,by simp,fun k _ hk=>setRow_other w g k _ (fun e=>hk (by simp [Value.ownBlock,e]))⟩,.inl rfl⟩
   ·rw [show (cur.toList.take n ++ Lib.strCells s ++ cur.toList.drop (n + s.size)).toArray.size = cur.size by simp [Lib.strCells_length]; omega]; exact hfr
   ·simp only [List.size_toArray,List.length_append,List.length_take,List.length_drop,Array.length_toList,Lib.strCells_length]
    omega
   ·have ht' : cur.toList.take n = xs:=by simpa using htake
    rw [ht',← hlen]
    exact List.take_left
  ·have holds : ∀ j u,xs[j]? = some u→w.cell? ((⟨g,0,none⟩ : Addr).add j) = some u:=hown.cells (g:=g) rfl
   have hr:=Lib.run_append_grow_string (P:=P) w t u ty e i z ht hu hi hz ⟨g,0,none⟩ n cap xs (by rw [hsize]; simpa using hxl) holds s (by omega) (by simp only [maxLen] at h63; omega) (by rw [hby]; exact growslice_fits (by omega) (by omega))
   have hgr:=grown cap (by omega) (Value.ownBlock (.slice (some ⟨g,0,none⟩) n cap))
   exact ⟨_,_,hr,hgr.1,hgr.2,.inr rfl⟩
theorem aop_appendS (hΓ : TOKs P) {S : Nat→Prop} {β : Nat→Value} {st : St} {obs1 : Obs} {a : Act} {w : World} {o : Oper} {K : St→Prop} {Kr : Act→World→Prop} {Q : Exit→Act→World→Prop} {t t' e : Nat} {s x : Operand} {ti tj : TI} {q : ByteArray} {rows : List (List AV)} {xs : List Value} {v : Value}
  (h : RelS W0 S0 E.n S β st a w) (hd : okD E.n o.dst = true) (hop : o.op = .call { callee:=.builtin .append,args:=#[s,x],argTypes:=#[t,t'] }) (ht : TOK P t ti) (hk : ti.kind = .sli e 1 1) (ht' : TOK P t' tj) (hk' : tj.kind = .str)
  (hobs : ∀ j u,lk j obs1 = some u→lk j st.obs = some u) (hv : a.eval s = v) (hown : OwnR w 0 e 1 v rows.length xs) (hup : ∀ g,v.ownBlock = some g→W0.heap.size ≤ g ∨ W0.M g) (hrep : RepL w S rows.flatten xs) (hlr : ∀ r ∈ rows,r.length = 1) (hSv : ∀ g,v.ownBlock = some g→¬ S g)
  (hsep : ∀ j u,lk j obs1 = some u→∀ g,blkOf (β j) = some g→v.ownBlock = some g→False)
  (hy : ev st x = some (.v (.string q))) (h' : app1 sy E e 1 1 rows (sy .sb q) o.dst { slots:=st.slots,obs:=obs1,ctr:=st.ctr,par:=st.par } K) (hK : ∀ st' a' w',K st'→Rel W0 S0 E.n st' a' w'→Kr a' w') : o.wp P a w Kr Q:=by
 obtain ⟨hls,hb,hnew⟩:=h'
 have hkd:=ht.kind
 rw [hk] at hkd
 obtain ⟨hu,⟨hpos,hposb⟩,inf,z,hinf,hz,hsz,hby,hzs⟩:=hkd
 have hkd':=ht'.kind
 rw [hk'] at hkd'
 have hu' : P.underlying t' = some .string:=hkd'
 obtain ⟨b1,b2,b3⟩:=sb_str q w S
 have hxe : a.eval x = .string q:=srep_v (ev_ok h hy)
 have hb2 : rows.length + q.size ≤ 140737488355328:=by
  have hb : ((rows.length : Int) + ((sy .sb q).length : Int)) * 1 ≤ 140737488355328:=hb
  rw [b3] at hb
  omega
 obtain ⟨v',w',hrun,hown',hgrow,hblk⟩:=run_append_string_at (P:=P) w t t' o.type e inf z hu hu' hinf hz hzs hsz hby v rows.length xs hown q (by unfold maxLen; omega) hb2
 refine aop_append_core (rows:=rows) (src:=sy .sb q) h hd (by simp [execOp,hop,resolve,invoke,builtin,hv,hxe,hrun]) (by rw [List.length_append,b3]; exact hown') (by rw [List.flatten_append]; exact hrep.append b1) (fun r hr=>?_) hgrow hblk hobs hup hSv hsep hnew hK
 rcases List.mem_append.1 hr with h | h
 ·exact hlr r h
 ·exact b2 r h
theorem aop_boxK {S : Nat→Prop} {β : Nat→Value} {st : St} {a : Act} {w : World} {o : Oper} {K : St→Prop} {Kr : Act→World→Prop} {Q : Exit→Act→World→Prop} {t : Nat} {x : Operand} {u : AV} {cs : List AV} (h : RelS W0 S0 E.n S β st a w) (hd : okD E.n o.dst = true) (hop : o.op = .box t x)
  (hu : ev st x = some u) (hc : cellsOf u = some cs) (hfr : frS st.ctr st.slots = true)
  (hk : K (St.put { slots:=st.slots,obs:=(st.ctr,.box t cs false) :: st.obs,ctr:=st.ctr + 1,par:=st.par } o.dst (.ptr st.ctr 0))) (hK : ∀ st' a' w',K st'→Rel W0 S0 E.n st' a' w'→Kr a' w') : o.wp P a w Kr Q:=by
 have hS:=h.gr.lt
 obtain ⟨xs,hx,hr⟩:=cells_of hc (ev_ok h hu)
 have hbl : Below w.heap.size w (w.alloc (.cells xs.toArray t (0,0))):=(Below.refl _ _).alloc (Nat.le_refl _) _
 have hne : ¬ S w.heap.size:=fun hs=>by have:=hS _ hs; omega
 refine wp_val (w':=w.alloc (.cells xs.toArray t (0,0))) (v:=.pointer (some ⟨w.heap.size,0,none⟩)) ?_ (hK _ _ _ hk ?_)
 ·simp only [execOp,hop]
  generalize a.eval x = y at hx
  simp [Instr.box,newVar,newRow,newObj,hx,Sem.run]
 ·refine rel_new (nv:=.pointer (some ⟨w.heap.size,0,none⟩)) (S':=S) h hfr (fun j u hj=>hj) (h.gr.step (⟨hbl,fun _ h=>h,fun _ h=>.inl h,fun g hg=>Nat.lt_of_lt_of_le (hS g hg) (by simp)⟩ : Gr w S _ S))
   (fun g hg=>hbl.block g (hS g hg)) (fun g hg=>hg) (fun j u hj g hg=>?_) hd ?_ (fun g hg=>by simp [blkOf] at hg; subst hg; exact .inl h.gr.size) (fun j u hj g hg hg'=>?_) ?_
  ·obtain ⟨h1,h2,h3⟩:=orep_blk (h.objs j u hj) hg
   exact ⟨hbl.block g h2,h3⟩
  ·exact ⟨w.heap.size,xs,rfl,Nat.zero_le _,hne,heap_alloc_new w _,hr.mono (fun g hg=>hbl.block g (hS g hg)) (fun _ h=>h)⟩
  ·obtain ⟨h1,h2,h3⟩:=orep_blk (h.objs j u hj) hg
   simp [blkOf] at hg'
   omega
  ·exact ⟨w.heap.size,by simp,by rw [add_mk]⟩
theorem aop_convK {S : Nat→Prop} {β : Nat→Value} {st : St} {a : Act} {w : World} {o : Oper} {K : St→Prop} {Kr : Act→World→Prop} {Q : Exit→Act→World→Prop} {s d e sz : Nat} {x : Operand} {u : AV} {rows : List (List AV)}
  (h : RelS W0 S0 E.n S β st a w) (hd : okD E.n o.dst = true) (hop : o.op = .convert s d x) (hu : ev st x = some u) (hk : okArg u = true) (hfr : frS st.ctr st.slots = true)
  (hc : CSem P (.conv s d) [plain u] (.own e sz rows [])) (hK' : K (St.put { slots:=st.slots,obs:=(st.ctr,.row e sz rows 0 0) :: st.obs,ctr:=st.ctr + 1,par:=st.par } o.dst (.own st.ctr 0))) (hK : ∀ st' a' w',K st'→Rel W0 S0 E.n st' a' w'→Kr a' w') : o.wp P a w Kr Q:=by
 obtain ⟨A,e1,hc⟩:=hc
 simp at e1
 subst e1
 have h1:=ev_ok h hu
 have h2 : Rep w S (plain u) (a.eval x):=rep_plain (by cases u <;> first | exact h1 | simp [okArg] at hk)
 obtain ⟨y,w',S',hrun,hg,z,ys,zs,hy,hown,hr,hl,hSz,hrest,_⟩:=hc w S _ h.gr.lt h2
 have hy : y = z:=by rw [hy,hrest.unnil]; rfl
 subst hy
 refine wp_val (w':=w') (v:=y) (by simp [execOp,hop,hrun]) (hK _ _ _ hK' ?_)
 have hsame:=hg.same h.gr.lt
 have hzb : ∀ g,blkOf y = some g→w.heap.size ≤ g∧¬ S' g:=fun g hgz=>⟨(hown.lt g (ownBlock_blk hown hgz)).1,hSz g (ownBlock_blk hown hgz)⟩
 refine rel_new (nv:=y) (S':=S') (obs1:=st.obs) h hfr (fun _ _ h=>h) (h.gr.step hg) hsame hg.sub (fun j u hj g' hg'=>?_) hd ⟨zs,?_,hr,hl,hSz⟩ (fun g' hg2=>.inl (Nat.le_trans h.gr.size (hzb g' hg2).1)) (fun j u hj g' hg1 hg2=>?_) ?_
 ·obtain ⟨h1,h2,h3⟩:=orep_blk (h.objs j u hj) hg'
  exact ⟨hg.below.block g' h2,fun hs=>by rcases hg.new g' hs with h4 | h4; exact h3 h4; omega⟩
 ·refine ⟨hown.1,?_⟩
  rcases hown.2 with h1 | ⟨g',cap,cur,fr,h1,hB,r⟩
  ·exact .inl h1
  ·exact .inr ⟨g',cap,cur,fr,h1,Nat.zero_le _,r⟩
 ·have:=(orep_blk (h.objs j u hj) hg1).2.1
  have:=(hzb g' hg2).1
  omega
 ·intro e' sz' rows' m' hl'
  simp
theorem aop_callB {S : Nat→Prop} {β : Nat→Value} {st : St} {a : Act} {w : World} {o : Oper} {K : St→Prop} {Kr : Act→World→Prop} {Q : Exit→Act→World→Prop} {f : Operand} {args : Array Operand} {ats : Array TypeId} {g ty : Nat} {caps as rest cells : List AV}
  (h : RelS W0 S0 E.n S β st a w) (hd : okD E.n o.dst = true) (hop : o.op = .call { callee:=.value f,args:=args,argTypes:=ats }) (hf : ev st f = some (.clo g caps)) (ha : evs (ev st) args.toList = some as) (hk : ∀ c ∈ as,okArg c = true) (hfr : frS st.ctr st.slots = true)
  (hc : CSem P (.fn g) (as.map plain ++ caps) (.bx ty cells rest)) (hK' : K (St.put { slots:=st.slots,obs:=(st.ctr,.box ty cells false) :: st.obs,ctr:=st.ctr + 1,par:=st.par } o.dst (tupOf (.ptr st.ctr 0 :: rest)))) (hK : ∀ st' a' w',K st'→Rel W0 S0 E.n st' a' w'→Kr a' w') : o.wp P a w Kr Q:=by
 obtain ⟨he,hc⟩:=hc
 obtain ⟨xs,hfv,hcaps⟩:=srep_clo (ev_ok h hf)
 have hreps:=(evs_reps (a:=a) args.toList as ha (fun o _ u hu=>ev_ok h hu) (fun c hc=>by have:=hk c hc; cases c <;> simp_all [okArg])).append hcaps
 refine wp_enter (run_call hop hfv he) ((hc w S _ h.gr.lt h.gd hreps).mono ?_)
 rintro e' w' ⟨y,S',rfl,hg,b,ys,zs,hy,hle,hSb,hh,hr,hrest⟩
 refine ⟨y,rfl,hK _ _ _ hK' ?_⟩
 have hsame:=hg.same h.gr.lt
 refine rel_new (nv:=.pointer (some ⟨b,0,none⟩)) (S':=S') (obs1:=st.obs) h hfr (fun _ _ h=>h) (h.gr.step hg) hsame hg.sub (fun j u hj g' hg'=>?_) hd ⟨b,zs,rfl,Nat.zero_le _,hSb,hh,hr⟩ (fun g' hg2=>?_) (fun j u hj g' hg1 hg2=>?_) ?_
 ·obtain ⟨h1,h2,h3⟩:=orep_blk (h.objs j u hj) hg'
  exact ⟨hg.below.block g' h2,fun hs=>by rcases hg.new g' hs with h4 | h4; exact h3 h4; omega⟩
 ·simp [blkOf] at hg2; subst hg2; exact .inl (Nat.le_trans h.gr.size hle)
 ·have:=(orep_blk (h.objs j u hj) hg1).2.1
  simp [blkOf] at hg2
  omega
 ·subst hy
  have hz0 : SRep0 w' S' (fun j=>if j = st.ctr then .pointer (some ⟨b,0,none⟩) else β j) ((st.ctr,.box ty cells false) :: st.obs) (.ptr st.ctr 0) (.pointer (some ⟨b,0,none⟩)):=⟨b,by simp,by rw [add_mk]⟩
  cases rest with
  | nil =>
   rw [hrest.unnil]
   exact hz0
  | cons r rs =>
   obtain ⟨y1,ys1,rfl,h1,h2⟩:=hrest.uncons
   refine ⟨.pointer (some ⟨b,0,none⟩) :: y1 :: ys1,rfl,by simp [h2.1],fun i u x hu hx=>?_⟩
   cases i with
   | zero=>simp at hu hx; subst hu hx; exact hz0
   | succ i=>exact srep0_of_rep (hrest.2 i u x (by simpa using hu) (by simpa using hx))
theorem aop_ok (hΓ : TOKs P) {o : Oper} {st : St} {K : St→Prop} (h : aop sy (CSem P) E o st K) {a : Act} {w : World} (hr : Rel W0 S0 E.n st a w) {Kr : Act→World→Prop} {Q : Exit→Act→World→Prop} (hK : ∀ st' a' w',K st'→Rel W0 S0 E.n st' a' w'→Kr a' w') : o.wp P a w Kr Q:=by
 obtain ⟨S,β,hr⟩:=hr
 unfold aop at h
 split at h
 ·rename_i hd
  split at h
  ·
   rename_i t hop
   split at h
   ·rename_i ti hti
    split at h
    ·rename_i hfr; exact aop_alloc hr hd hop (hΓ _ _ hti) hfr h hK
    ·exact h.elim
   ·exact h.elim
  ·
   rename_i t x v hop
   split at h
   ·rename_i hdst
    obtain ⟨S',hr'⟩:=rel_frzArgs [v] hr
    obtain ⟨obs',u,h,hw,hkeys⟩:=wop_ok hΓ h
    refine rel_write (K:=fun st'=>match ev (frzArgs st [v]) x with
     | some (.ptr k _)=>(match lk k obs' with
      | some (.box _ _ true)=>K (St.freeze k st')
      | _=>K st')
     | _=>K st') hr' hd (by rw [hop]; exact hw) hkeys (by rw [hdst]; exact h) (fun st' a' w' h' hrel=>?_)
    split at h'
    ·split at h'
     ·obtain ⟨S2,β2,h2⟩:=hrel
      obtain ⟨S3,h3⟩:=rel_freeze _ h2
      exact hK _ _ _ h' ⟨S3,_,h3⟩
     ·exact hK _ _ _ h' hrel
    ·exact hK _ _ _ h' hrel
   ·exact h.elim
  ·
   rename_i t hop
   split at h
   ·split at h
    ·split at h
     ·rename_i hfr; exact aop_makeMap hr hd hop hfr h hK
     ·exact h.elim
    ·exact h.elim
   ·exact h.elim
  ·
   rename_i t x hop
   split at h
   ·rename_i ti ks vs hti hx
    split at h
    ·rename_i kt et hkd
     split at h
     ·rename_i hfr; exact aop_range hr hd hop (hΓ _ _ hti) hkd hx hfr h hK
     ·exact h.elim
    ·exact h.elim
   ·exact h.elim
  ·
   rename_i x hop
   split at h
   ·rename_i k hx
    split at h
    ·rename_i ks vs cur hlk; exact aop_next hr hd hop hx hlk h.1 h.2 hK
    ·exact h.elim
   ·exact h.elim
  ·
   rename_i t m x v hop
   split at h
   ·rename_i hdst
    obtain ⟨S',hr'⟩:=rel_frzArgs [v] hr
    obtain ⟨obs',u,h,hw,hkeys⟩:=wop_ok hΓ h
    exact rel_write (K:=K) hr' hd (by rw [hop]; exact hw) hkeys (by rw [hdst]; exact h) hK
   ·exact h.elim
  ·
   rename_i args ats hop
   split at h
   ·rename_i s x t t' hs ht'
    split at h
    ·rename_i hte
     subst hte
     have hargs : args = #[s,x]:=by rw [← Array.toList_inj]; simpa using hs
     have hats : ats = #[t,t]:=by rw [← Array.toList_inj]; simpa using ht'
     subst hargs hats
     split at h
     ·rename_i ti d y hti hd' hy
      split at h
      ·rename_i e esz bytes src hk hsrc
       split at h
       ·
        have hv : a.eval s = .slice none 0 0:=srep_v (ev_ok hr hd')
        exact aop_append (obs1:=st.obs) (rows:=[]) (xs:=[]) hΓ hr hd hop (hΓ _ _ hti) hk (fun _ _ h=>h) hv (OwnR.nil _ _ _ _) (fun g hg=>by simp [Value.ownBlock] at hg) (RepL.nil _ _) (fun r h=>by simp at h) (fun g hg=>by simp [Value.ownBlock] at hg) (fun j u _ g _ hg=>by simp [Value.ownBlock] at hg) hy hsrc h hK
       ·
        rename_i k ver
        split at h
        ·exact h.elim
        rename_i hnp
        split at h
        ·rename_i e' sz' rows ver' m hlk
         split at h
         ·rename_i e1
          split at h
          ·rename_i e2
           split at h
           ·rename_i e3
            subst e1 e2 e3
            have hv : a.eval s = β k:=(show ∀ e sz rows m,lk k st.obs = some (.row e sz rows ver m)→a.eval s = β k from ev_ok hr hd') _ _ _ _ hlk
            obtain ⟨xs,hown,hrep,hlr,hSv⟩:=hr.objs _ _ hlk
            have go : app1 sy E e' sz' bytes rows src o.dst { slots:=st.slots,obs:=del k st.obs,ctr:=st.ctr,par:=st.par } K→o.wp P a w Kr Q:=by
             intro h'
             refine aop_append (obs1:=del k st.obs) (xs:=xs) hΓ hr hd hop (hΓ _ _ hti) hk (fun j u hj=>?_) hv hown (fun g hg=>by
              have:=hr.up k _ g hlk (blk_of_own hg)
              rw [if_neg (by rw [← hr.par]; simpa using hnp)] at this
              exact this) hrep hlr hSv (fun j u hj g hg hgv=>?_) hy hsrc h' hK
             ·rw [lk_del] at hj
              split at hj
              ·simp at hj
              ·exact hj
             ·rw [lk_del] at hj
              split at hj
              ·simp at hj
              ·rename_i hne
               refine hr.sep j k u _ hj hlk hne g hg ?_
               cases hb : β k <;> simp_all [blkOf,Value.ownBlock]
            split at h
            ·split at h
             ·exact h.elim
             ·exact go h
            ·exact go h
           ·exact h.elim
          ·exact h.elim
         ·exact h.elim
        ·exact h.elim
       ·exact h.elim
      ·exact h.elim
     ·exact h.elim
    ·split at h
     ·rename_i ti tj d q hti htj hd' hy
      have hargs : args = #[s,x]:=by rw [← Array.toList_inj]; simpa using hs
      have hats : ats = #[t,t']:=by rw [← Array.toList_inj]; simpa using ht'
      subst hargs hats
      split at h
      ·rename_i e hk hk'
       split at h
       ·have hv : a.eval s = .slice none 0 0:=srep_v (ev_ok hr hd')
        exact aop_appendS (obs1:=st.obs) (rows:=[]) (xs:=[]) hΓ hr hd hop (hΓ _ _ hti) hk (hΓ _ _ htj) hk' (fun _ _ h=>h) hv (OwnR.nil _ _ _ _) (fun g hg=>by simp [Value.ownBlock] at hg) (RepL.nil _ _) (fun r h=>by simp at h) (fun g hg=>by simp [Value.ownBlock] at hg) (fun j u _ g _ hg=>by simp [Value.ownBlock] at hg) hy h hK
       ·rename_i k ver
        split at h
        ·exact h.elim
        rename_i hnp
        split at h
        ·rename_i e' sz' rows ver' m hlk
         split at h
         ·rename_i e1
          split at h
          ·rename_i e2
           split at h
           ·rename_i e3
            subst e1 e2 e3
            have hv : a.eval s = β k:=(show ∀ e sz rows m,lk k st.obs = some (.row e sz rows ver m)→a.eval s = β k from ev_ok hr hd') _ _ _ _ hlk
            obtain ⟨xs,hown,hrep,hlr,hSv⟩:=hr.objs _ _ hlk
            refine aop_appendS (obs1:=del k st.obs) (xs:=xs) hΓ hr hd hop (hΓ _ _ hti) hk (hΓ _ _ htj) hk' (fun j u hj=>?_) hv hown (fun g hg=>by
              have:=hr.up k _ g hlk (blk_of_own hg)
              rw [if_neg (by rw [← hr.par]; simpa using hnp)] at this
              exact this) hrep hlr hSv (fun j u hj g hg hgv=>?_) hy h hK
            ·rw [lk_del] at hj
             split at hj
             ·simp at hj
             ·exact hj
            ·rw [lk_del] at hj
             split at hj
             ·simp at hj
             ·rename_i hne
              refine hr.sep j k u _ hj hlk hne g hg ?_
              cases hb : β k <;> simp_all [blkOf,Value.ownBlock]
           ·exact h.elim
          ·exact h.elim
         ·exact h.elim
        ·exact h.elim
       ·exact h.elim
      ·exact h.elim
     ·exact h.elim
   ·exact h.elim
  ·
   rename_i args ats hop
   obtain ⟨obs',u,h,hw,hkeys⟩:=wop_ok hΓ h
   exact rel_write hr hd (by rw [hop]; exact hw) hkeys h hK
  ·
   rename_i t x lo hi max hop
   split at h
   ·rename_i k ver hi' hpre
    split at h
    ·rename_i ti j e sz rows ver' m hti hhi hk
     split at h
     ·rename_i e' esz bytes hkd
      split at h
      ·rename_i e1
       split at h
       ·rename_i e2
        split at h
        ·rename_i hfr
         obtain ⟨n,rows',rfl,hle,rfl,h⟩:=h
         subst e1 e2
         unfold prefixOf at hpre
         split at hpre
         ·split at hpre
          ·rename_i o1 k1 v1 hx
           simp only [Option.some.injEq,Prod.mk.injEq] at hpre
           obtain ⟨rfl,rfl,rfl⟩:=hpre
           exact aop_prefix hr hd hop (hΓ _ _ hti) hkd hx hk hhi (by simp [sy] at hle; omega) hfr h hK
          ·simp at hpre
         ·simp at hpre
        ·exact h.elim
       ·exact h.elim
      ·exact h.elim
     ·exact h.elim
    ·exact h.elim
   ·exact aop_dop hΓ hr hd (by rw [hop]; exact h) hK
  ·
   rename_i f args ats hop
   split at h
   ·split at h
    ·split at h
     ·rename_i g caps as hf ha
      split at h
      ·rename_i as' pars hcan
       split at h
       ·rename_i hn
        obtain ⟨pars',e,sz,rows,rest,hc,h⟩:=h
        split at h
        ·rename_i obs' hw
         split at h
         ·rename_i hfr
          exact aop_callW hr hd hop hf ha hcan hn hc hw hfr h hK
         ·exact h.elim
        ·exact h.elim
       ·exact h.elim
      ·exact h.elim
     ·exact h.elim
    ·obtain ⟨obs',u,h,hw,hkeys⟩:=wop_ok hΓ h
     exact rel_write hr hd (by rw [hop]; exact hw) hkeys h hK
   obtain ⟨S',hr'⟩:=rel_frzArgs args.toList hr
   split at h
   ·split at h
    ·rename_i g caps as hf ha
     split at h
     ·rename_i hall
      split at h
      ·rename_i hfr
       split at h
       ·obtain ⟨ty,cells,rest,hc,hk⟩:=h
        exact aop_callB hr' hd hop hf ha (fun c hc=>List.all_eq_true.1 hall c hc) hfr hc hk hK
       obtain ⟨e,sz,rows,rest,hc,hk⟩:=h
       exact aop_call hr' hd hop hf ha (fun c hc=>List.all_eq_true.1 hall c hc) hfr hc hk hK
      ·exact h.elim
     ·exact h.elim
    ·exact h.elim
   ·exact aop_dop hΓ hr' hd h hK
  ·obtain ⟨S',hr'⟩:=rel_frzArgs _ hr
   exact aop_dop hΓ hr' hd h hK
  ·
   rename_i t m ps hop
   split at h
   ·split at h
    ·rename_i ti hti
     split at h
     ·rename_i e esz bytes hkd
      split at h
      ·rename_i rows hrows
       split at h
       ·rename_i hn
        split at h
        ·rename_i hb
         split at h
         ·rename_i hfr
          obtain ⟨S',hr'⟩:=rel_frzArgs _ hr
          exact aop_buildK hr' hd hop (hΓ _ _ hti) hkd hrows hn hb hfr h hK
         ·exact h.elim
        ·exact h.elim
       ·exact h.elim
      ·exact h.elim
     ·exact h.elim
    ·exact h.elim
   ·obtain ⟨S',hr'⟩:=rel_frzArgs _ hr
    exact aop_dop hΓ hr' hd h hK
  ·
   rename_i t x hop
   obtain ⟨S',hr'⟩:=rel_frzArgs [x] hr
   split at h
   ·split at h
    ·rename_i ti u hti hu
     split at h
     ·rename_i cs hcs
      split at h
      ·split at h
       ·rename_i hfr; exact aop_boxK hr' hd hop hu hcs hfr h hK
       ·exact h.elim
      ·exact h.elim
     ·exact h.elim
    ·exact h.elim
   ·exact aop_dop hΓ hr' hd h hK
  ·
   rename_i s d x hop
   obtain ⟨S',hr'⟩:=rel_frzArgs [x] hr
   split at h
   ·obtain ⟨obs',u,h,hw,hkeys⟩:=wop_ok hΓ h
    exact rel_write hr hd (by rw [hop]; exact hw) hkeys h hK
   split at h
   ·split at h
    ·rename_i u hu
     split at h
     ·rename_i hok
      split at h
      ·rename_i hfr
       obtain ⟨e,sz,rows,hc,hk⟩:=h
       exact aop_convK hr' hd hop hu hok hfr hc hk hK
      ·exact h.elim
     ·exact h.elim
    ·exact h.elim
   ·exact aop_dop hΓ hr' hd h hK
  ·exact aop_dop hΓ hr hd h hK
 ·exact h.elim
end Go.Proofs.Ytdnaadcbimbfmaa.Am
namespace Go.Proofs.Ytdnaadcbimbfmaa.Am
open Go Go.RowKit
section
variable (F : Sy) (C : Key→List AV→Res→Prop) (E : En)
def aops (all : List Oper) : List Oper→(St→Prop)→St→Prop
 | [],K,st=>K st
 | o :: rest,K,st=>match o.guard with
  | none=>aop F C E o st (aops all rest K)
  | some (j,b)=>match dstOf all j with
   | none=>False
   | some d=>match lk d st.slots with
    | some (.b c)=>(match c,b with
     | true,true=>aop F C E o st (aops all rest K)
     | false,false=>aop F C E o st (aops all rest K)
     | _,_=>if okD E.n o.dst = true then aops all rest K (st.put o.dst (.tup [])) else False)
    | some (.v (.bool c))=>(match b with
     | true=>(c = true→aop F C E o (st.put (some d) (.b true)) (aops all rest K))∧(c = false→if okD E.n o.dst = true then aops all rest K ((st.put (some d) (.b false)).put o.dst (.tup [])) else False)
     | false=>(c = false→aop F C E o (st.put (some d) (.b false)) (aops all rest K))∧(c = true→if okD E.n o.dst = true then aops all rest K ((st.put (some d) (.b true)).put o.dst (.tup [])) else False))
    | some (.tup [])=>if okD E.n o.dst = true then aops all rest K (st.put o.dst (.tup [])) else False
    | _=>False
def adr (all : List Oper) : List Oper→(St→Prop)→St→Prop
 | [],K,st=>K st
 | o :: rest,K,st=>if okD E.n o.dst = true then (if isW E o = true then (match o.guard with
  | none=>wop F C (ev st) st.obs o.op (fun obs' x=>adr all rest K (St.put { slots:=st.slots,obs:=obs',ctr:=st.ctr,par:=st.par } o.dst x))
  | some _=>False) else match o.guard with
  | none=>dop F C (ev st) st.obs o.op (fun x=>adr all rest K (st.put o.dst x))
  | some (j,b)=>match dstOf all j with
   | none=>False
   | some d=>match lk d st.slots with
    | some (.b c)=>(match c,b with
     | true,true=>dop F C (ev st) st.obs o.op (fun x=>adr all rest K (st.put o.dst x))
     | false,false=>dop F C (ev st) st.obs o.op (fun x=>adr all rest K (st.put o.dst x))
     | _,_=>adr all rest K (st.put o.dst (.tup [])))
    | some (.v (.bool c))=>(match b with
     | true=>(c = true→dop F C (ev (st.put (some d) (.b true))) st.obs o.op (fun x=>adr all rest K ((st.put (some d) (.b true)).put o.dst x)))∧(c = false→adr all rest K ((st.put (some d) (.b false)).put o.dst (.tup [])))
     | false=>(c = false→dop F C (ev (st.put (some d) (.b false))) st.obs o.op (fun x=>adr all rest K ((st.put (some d) (.b false)).put o.dst x)))∧(c = true→adr all rest K ((st.put (some d) (.b true)).put o.dst (.tup []))))
    | some (.tup [])=>adr all rest K (st.put o.dst (.tup []))
    | _=>False) else False
end
variable {P : Program} {W0 : Bas} {S0 : Nat→Prop} {E : En}
theorem srep_plain {w : World} {S : Nat→Prop} {β : Nat→Value} {obs : Obs} {x y : AV} {v : Value} (h : plain x = plain y) (hx : SRep w S β obs x v) : SRep w S β obs y v:=by
 have one : ∀ (c : Bool),(SRep w S β obs (.b c) v ↔ SRep w S β obs (.v (.bool c)) v):=by
  intro c
  constructor
  ·intro h; rw [srep_b h]; exact srep_c (.v _ rfl)
  ·intro h; rw [srep_v h]; exact srep_c (.b _)
 cases x <;> cases y <;> simp [plain] at h <;> first | (subst h; first | exact hx | exact (one _).1 hx | exact (one _).2 hx) | (obtain ⟨rfl,rfl⟩:=h; exact hx) | (obtain ⟨rfl,rfl,rfl,rfl,rfl,rfl⟩:=h; exact hx) | exact hx
theorem yielded_of {ops : Array Oper} {a : Act} {j d : Nat} (h : dstOf ops.toList j = some d) (hd : d < a.tmps.size) : yielded ops a.tmps j = (match a.tmps.getD d undef with | .bool b=>some b | _=>none):=by
 unfold yielded
 have : (ops[j]?).bind (·.dst) = some d:=by
  unfold dstOf at h
  cases ho : ops[j]? with
  | none=>simp [ho] at h
  | some o=>simp [ho] at h; simpa using h
 rw [this]
 have hg : a.tmps[d]? = some (a.tmps.getD d undef):=by simp [hd]
 simp only [Option.bind_some,hg]
 generalize a.tmps.getD d undef = v
 cases v <;> rfl
theorem tup_nil {w : World} {S : Nat→Prop} {β : Nat→Value} {obs : Obs} : SRep w S β obs (.tup []) undef:=⟨[],rfl,rfl,fun i u x h=>by simp at h⟩
theorem tup_nil_inv {w : World} {S : Nat→Prop} {β : Nat→Value} {obs : Obs} {v : Value} (h : SRep w S β obs (.tup []) v) : v = .tuple #[]:=by
 obtain ⟨ys,h1,h2,_⟩:=h
 have : ys = []:=List.eq_nil_of_length_eq_zero (by simpa using h2.symm)
 subst this
 exact h1
theorem rel_skip {st : St} {a : Act} {w : World} {d : Option Nat} (h : Rel W0 S0 E.n st a w) (hd : okD E.n d = true) : Rel W0 S0 E.n (st.put d (.tup [])) (a.put d undef) w:=by
 obtain ⟨S,β,h⟩:=h
 exact ⟨S,β,rel_quiet h (Gr.refl h.gr.lt) hd tup_nil⟩
theorem rel_relabel {st : St} {a : Act} {w : World} {d : Nat} {x y : AV} (h : Rel W0 S0 E.n st a w) (hx : lk d st.slots = some x) (hxy : plain x = plain y) : Rel W0 S0 E.n (st.put (some d) y) a w:=by
 obtain ⟨S,β,h⟩:=h
 refine ⟨S,β,h.gr,h.par,h.defers,h.size,fun t u ht=>?_,h.objs,h.up,h.sep,h.ctr,h.parc,h.fix⟩
 simp only [St.put,lk] at ht
 by_cases e : d = t
 ·rw [if_pos e] at ht
  injection ht with ht
  subst ht e
  obtain ⟨h1,h2⟩:=h.slots d x hx
  exact ⟨h1,srep_plain hxy h2⟩
 ·rw [if_neg e] at ht
  exact h.slots t u ht
theorem aops_ok (hΓ : TOKs P) {ops : Array Oper} {K : St→Prop} {Q : Exit→Act→World→Prop} (hK : ∀ st' a' w',K st'→Rel W0 S0 E.n st' a' w'→Q .normal a' w') : ∀ (rest : List Oper) (st : St) (a : Act) (w : World),aops sy (CSem P) E ops.toList rest K st→Rel W0 S0 E.n st a w→wpList P ops Q rest a w:=by
 intro rest
 induction rest with
 | nil=>intro st a w h hr; exact hK _ _ _ h hr
 | cons o rest ih =>
  intro st a w h hr
  have run : ∀ st a w,aop sy (CSem P) E o st (aops sy (CSem P) E ops.toList rest K)→Rel W0 S0 E.n st a w→Region.wanted o (yielded ops a.tmps) = true→wpList P ops Q (o :: rest) a w:=by
   intro st a w h hr hw
   unfold wpList
   rw [if_pos hw]
   exact .inl (aop_ok hΓ h hr (fun st' a' w' h' hr'=>ih st' a' w' h' hr'))
  have skip : ∀ st a w,okD E.n o.dst = true→aops sy (CSem P) E ops.toList rest K (st.put o.dst (.tup []))→Rel W0 S0 E.n st a w→Region.wanted o (yielded ops a.tmps) = false→wpList P ops Q (o :: rest) a w:=by
   intro st a w hd h hr hw
   unfold wpList
   rw [if_neg (by simp [hw])]
   exact ih _ _ _ h (rel_skip hr hd)
  simp only [aops] at h
  split at h
  ·rename_i hg
   exact run st a w h hr (by simp [Region.wanted,hg])
  ·rename_i j b hg
   split at h
   ·exact h.elim
   ·rename_i d hdj
    have yl : ∀ (st : St) (x : AV),Rel W0 S0 E.n st a w→lk d st.slots = some x→∃ S β,SRep w S β st.obs x (a.tmps.getD d undef)∧yielded ops a.tmps j = (match a.tmps.getD d undef with | .bool b=>some b | _=>none):=by
     intro st x hr hx
     obtain ⟨S,β,hr⟩:=hr
     obtain ⟨h1,h2⟩:=hr.slots d x hx
     exact ⟨S,β,h2,yielded_of hdj (by rw [hr.size]; exact h1)⟩
    split at h
    ·rename_i c hc
     obtain ⟨S,β,h1,h2⟩:=yl st _ hr hc
     rw [srep_b h1] at h2
     split at h
     ·exact run st a w h hr (by simp [Region.wanted,hg,h2])
     ·exact run st a w h hr (by simp [Region.wanted,hg,h2])
     ·rename_i hne1 hne2
      split at h
      ·rename_i hd
       refine skip st a w hd h hr ?_
       simp only [Region.wanted,hg,h2]
       cases c <;> cases b <;> first | rfl | exact (hne1 rfl rfl).elim | exact (hne2 rfl rfl).elim
      ·exact h.elim
    ·rename_i c hc
     obtain ⟨S,β,h1,h2⟩:=yl st _ hr hc
     rw [srep_v h1] at h2
     have yes : c = b→aop sy (CSem P) E o (st.put (some d) (.b b)) (aops sy (CSem P) E ops.toList rest K)→wpList P ops Q (o :: rest) a w:=fun hcb h=>run _ a w h (rel_relabel hr hc (by simp [plain,hcb])) (by simp [Region.wanted,hg,h2,hcb])
     have no : c ≠ b→(if okD E.n o.dst = true then aops sy (CSem P) E ops.toList rest K ((st.put (some d) (.b c)).put o.dst (.tup [])) else False)→wpList P ops Q (o :: rest) a w:=by
      intro hcb h
      split at h
      ·rename_i hd
       refine skip _ a w hd h (rel_relabel hr hc rfl) ?_
       simp only [Region.wanted,hg,h2]
       cases c <;> cases b <;> first | rfl | exact absurd rfl hcb
      ·exact h.elim
     cases b <;> cases c
     ·exact yes rfl (h.1 rfl)
     ·exact no (by simp) (h.2 rfl)
     ·exact no (by simp) (h.2 rfl)
     ·exact yes rfl (h.1 rfl)
    ·rename_i hc
     obtain ⟨S,β,h1,h2⟩:=yl st _ hr hc
     rw [tup_nil_inv h1] at h2
     split at h
     ·rename_i hd
      exact skip st a w hd h hr (by simp [Region.wanted,hg,h2])
     ·exact h.elim
    ·exact h.elim
end Go.Proofs.Ytdnaadcbimbfmaa.Am
