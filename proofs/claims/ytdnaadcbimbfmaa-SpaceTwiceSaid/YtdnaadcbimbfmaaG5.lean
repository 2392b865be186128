import Derived.LoopN
import Derived.Scope
import Derived.Test.YtdnaadcbimbfmaaG4
set_option linter.unusedSimpArgs false
set_option linter.unusedVariables false
namespace Go.Proofs.Ytdnaadcbimbfmaa.Am
open Go Go.RowKit
variable {P : Program} {W0 : Bas} {S0 : Nat→Prop} {E : En}
def Src (all : List Oper) (st0 : St) (X : Nat→AV) (i : Nat) (st : St) : Prop :=
 ∀ t u,lk t st.slots = some u→(∃ j,j < i∧dstOf all j = some t∧plain u = plain (X j)) ∨ ((∀ j,j < i→dstOf all j ≠ some t)∧∃ u0,lk t st0.slots = some u0∧plain u = plain u0)
theorem Src.congr {all : List Oper} {st0 st : St} {X X' : Nat→AV} {i : Nat} (h : Src all st0 X i st) (hx : ∀ j,j < i→X' j = X j) : Src all st0 X' i st:=by
 intro t u ht
 rcases h t u ht with ⟨j,h1,h2,h3⟩ | h
 ·exact .inl ⟨j,h1,h2,by rw [hx j h1]; exact h3⟩
 ·exact .inr h
theorem Src.put {all : List Oper} {st0 st : St} {X : Nat→AV} {i : Nat} {d : Option Nat} (h : Src all st0 X i st) (hd : dstOf all i = d) : Src all st0 X (i + 1) (st.put d (X i)):=by
 intro t u ht
 have old : lk t st.slots = some u→(d ≠ some t)→(∃ j,j < i + 1∧dstOf all j = some t∧plain u = plain (X j)) ∨ ((∀ j,j < i + 1→dstOf all j ≠ some t)∧∃ u0,lk t st0.slots = some u0∧plain u = plain u0):=by
  intro ht hne
  rcases h t u ht with ⟨j,h1,h2,h3⟩ | ⟨h1,h2⟩
  ·exact .inl ⟨j,by omega,h2,h3⟩
  ·refine .inr ⟨fun j hj=>?_,h2⟩
   by_cases e : j = i
   ·subst e; rw [hd]; exact hne
   ·exact h1 j (by omega)
 cases d with
 | none=>exact old ht (by simp)
 | some d =>
  simp only [St.put,lk] at ht
  by_cases e : d = t
  ·rw [if_pos e] at ht
   injection ht with ht
   subst ht e
   exact .inl ⟨i,by omega,hd,rfl⟩
  ·rw [if_neg e] at ht
   exact old ht (by simpa using e)
theorem Src.relabel {all : List Oper} {st0 st : St} {X : Nat→AV} {i d : Nat} {x y : AV} (h : Src all st0 X i st) (hx : lk d st.slots = some x) (hxy : plain x = plain y) : Src all st0 X i (st.put (some d) y):=by
 intro t u ht
 simp only [St.put,lk] at ht
 by_cases e : d = t
 ·rw [if_pos e] at ht
  injection ht with ht
  subst ht e
  rw [← hxy]
  exact h d x hx
 ·rw [if_neg e] at ht
  exact h t u ht
def StepOk (P : Program) (E : En) (all : List Oper) (st0 : St) (OB : Nat→Obs) (X : Nat→AV) (i : Nat) (o : Oper) : Prop :=
 okD E.n o.dst = true∧(isW E o = false→OB (i + 1) = OB i)∧∃ sti : St,Src all st0 X i sti ∧
  ((o.guard = none∧isW E o = false∧Good P (ev sti) (OB i) o.op (X i)∧(triv o = true→∀ obs,Good P (ev sti) obs o.op (X i))) ∨
   (o.guard = none∧isW E o = true∧WGood P (ev sti) (OB i) o.op (OB (i + 1)) (X i)∧∀ k u,lk k (OB (i + 1)) = some u→∃ u',lk k (OB i) = some u') ∨
   (isW E o = false∧∃ j b d u,o.guard = some (j,b)∧dstOf all j = some d∧lk d sti.slots = some u ∧
    ((∃ c,plain u = .v (.bool c)∧((c = b∧Good P (ev sti) (OB i) o.op (X i)∧(triv o = true→∀ obs,Good P (ev sti) obs o.op (X i))) ∨ (c ≠ b∧X i = .tup []))) ∨ (u = .tup []∧X i = .tup []))))
theorem dop_tr (hΓ : TOKs P) {ev : Operand→Option AV} {obs : Obs} {o : Oper} {K : AV→Prop} (h : dop sy (CSem P) ev obs o.op K) : ∃ x,K x∧Good P ev obs o.op x∧(triv o = true→∀ obs,Good P ev obs o.op x):=by
 by_cases ht : triv o = true
 ·suffices h' : ∃ x,K x∧∀ obs,Good P ev obs o.op x by
   obtain ⟨x,h1,h2⟩:=h'
   exact ⟨x,h1,h2 obs,fun _=>h2⟩
  obtain ⟨dst,op,type,pos,after,guard⟩:=o
  simp only [triv] at ht
  simp only at h ⊢
  split at ht <;> (try (simp at ht; done)) <;> simp only [dop] at h
  ·split at h
   ·rename_i u hu; exact ⟨u,h,fun obs=>good_move hu⟩
   ·exact h.elim
  ·split at h
   ·rename_i u hu; exact ⟨u,h,fun obs=>good_assign hu⟩
   ·exact h.elim
  ·split at h
   ·rename_i hc
    split at h
    ·rename_i u hu; exact ⟨u,h,fun obs=>good_pick (t:=true) hc (.inl rfl) hu⟩
    ·exact h.elim
   ·rename_i hc
    split at h
    ·rename_i u hu; exact ⟨u,h,fun obs=>good_pick (t:=false) hc (.inl rfl) hu⟩
    ·exact h.elim
   ·rename_i t hc
    split at h
    ·rename_i u hu
     split at h
     ·rename_i v hv
      cases t with
      | true=>exact ⟨u,h.1 rfl,fun obs=>good_pick (t:=true) hc (.inr rfl) hu⟩
      | false=>exact ⟨v,h.2 rfl,fun obs=>good_pick (t:=false) hc (.inr rfl) hv⟩
     ·exact h.elim
    ·exact h.elim
   ·exact h.elim
  ·split at h
   ·rename_i p q hp hq
    split at h
    ·rename_i r hr; exact ⟨_,h,fun obs=>good_binA hp hq hr⟩
    ·split at h
     ·obtain ⟨r,hc,hk⟩:=h; exact ⟨_,hk,fun obs=>(good_eq hp hq hc).1⟩
     ·obtain ⟨r,hc,hk⟩:=h; exact ⟨_,hk,fun obs=>(good_eq hp hq hc).2⟩
     ·obtain ⟨h1,h2,h3⟩:=h; exact ⟨_,h3,fun obs=>good_binO hp hq (.inl ⟨.inl rfl,h1,h2⟩)⟩
     ·obtain ⟨h1,h2,h3⟩:=h; exact ⟨_,h3,fun obs=>good_binO hp hq (.inl ⟨.inr rfl,h1,h2⟩)⟩
     ·obtain ⟨h1,h3⟩:=h; exact ⟨_,h3,fun obs=>good_binO hp hq (.inr ⟨.inl rfl,h1⟩)⟩
     ·obtain ⟨h1,h3⟩:=h; exact ⟨_,h3,fun obs=>good_binO hp hq (.inr ⟨.inr rfl,h1⟩)⟩
     ·exact ⟨_,h.2,fun obs=>good_cat hp hq h.1⟩
     ·exact ⟨_,h.2,fun obs=>(good_nilp (b:=false) hp hq h.1 (.inl ⟨.inl ⟨_,_,rfl⟩,rfl⟩)).1⟩
     ·exact ⟨_,h.2,fun obs=>(good_nilp (b:=false) hp hq h.1 (.inl ⟨.inl ⟨_,_,rfl⟩,rfl⟩)).2⟩
     ·exact ⟨_,h.2,fun obs=>(good_nilp (b:=false) hp hq h.1 (.inl ⟨.inr ⟨_,_,rfl⟩,rfl⟩)).1⟩
     ·exact ⟨_,h.2,fun obs=>(good_nilp (b:=false) hp hq h.1 (.inl ⟨.inr ⟨_,_,rfl⟩,rfl⟩)).2⟩
     ·exact ⟨_,h.2,fun obs=>(good_nilp (b:=false) hp hq h.1 (.inr (.inr ⟨⟨_,rfl⟩,rfl⟩))).1⟩
     ·exact ⟨_,h.2,fun obs=>(good_nilp (b:=false) hp hq h.1 (.inr (.inr ⟨⟨_,rfl⟩,rfl⟩))).2⟩
     ·exact ⟨_,h.2,fun obs=>(good_nilp (b:=true) hp hq h.1 (.inr (.inl ⟨rfl,rfl⟩))).1⟩
     ·exact ⟨_,h.2,fun obs=>(good_nilp (b:=true) hp hq h.1 (.inr (.inl ⟨rfl,rfl⟩))).2⟩
     ·split at h
      ·exact ⟨_,h.2,fun obs=>(good_nili hp hq ⟨_,rfl⟩ h.1).1⟩
      ·exact h.elim
     ·split at h
      ·exact ⟨_,h.2,fun obs=>(good_nili hp hq ⟨_,rfl⟩ h.1).2⟩
      ·exact h.elim
     ·obtain ⟨r,hr,hk⟩:=h; exact ⟨_,hk,fun obs=>(good_bq hp hq (.inr rfl) hr).1⟩
     ·obtain ⟨r,hr,hk⟩:=h; exact ⟨_,hk,fun obs=>(good_bq hp hq (.inr rfl) hr).2⟩
     ·obtain ⟨r,hr,hk⟩:=h; exact ⟨_,hk,fun obs=>(good_bq hp hq (.inl rfl) hr).1⟩
     ·obtain ⟨r,hr,hk⟩:=h; exact ⟨_,hk,fun obs=>(good_bq hp hq (.inl rfl) hr).2⟩
     ·exact h.elim
   ·exact h.elim
  ·split at h <;> (try (exact h.elim)) <;> rename_i e1 <;> (try (injection e1)) <;> split at h
   ·rename_i c hp; subst_vars; exact ⟨_,h,fun obs=>good_unNot hp (.inl rfl) (.inl rfl)⟩
   ·rename_i c hp; subst_vars; exact ⟨_,h,fun obs=>good_unNot hp (.inr rfl) (.inr rfl)⟩
   ·exact h.elim
   ·rename_i k n hp; subst_vars; exact ⟨_,h,fun obs=>good_unNeg hp⟩
   ·exact h.elim
  ·split at h
   ·rename_i vs hp
    split at h
    ·exact h.elim
    ·rename_i u hn hu; exact ⟨_,h,fun obs=>good_extract hp hu (fun r e=>hn r e)⟩
    ·exact h.elim
   ·exact h.elim
 ·obtain ⟨x,h1,h2⟩:=dop_ok hΓ h
  exact ⟨x,h1,h2,fun e=>absurd e ht⟩
theorem adr_tr (hΓ : TOKs P) {all : List Oper} {st0 : St} {K : St→Prop} : ∀ (rest : List Oper) (i : Nat) (st : St) (X : Nat→AV) (OB : Nat→Obs),all.drop i = rest→Src all st0 X i st→st.obs = OB i→st.ctr = st0.ctr→st.par = st0.par→adr sy (CSem P) E all rest K st →
  ∃ (X' : Nat→AV) (OB' : Nat→Obs),(∀ j,j < i→X' j = X j)∧(∀ j,j ≤ i→OB' j = OB j)∧(∀ j o,i ≤ j→all[j]? = some o→StepOk P E all st0 OB' X' j o)∧∃ stN,K stN∧Src all st0 X' all.length stN∧stN.obs = OB' (max i all.length)∧stN.ctr = st0.ctr∧stN.par = st0.par:=by
 intro rest
 induction rest with
 | nil =>
  intro i st X OB hdrop hsrc hobs hctr hpar h
  have hle : all.length ≤ i:=by simpa using hdrop
  refine ⟨X,OB,fun _ _=>rfl,fun _ _=>rfl,fun j o hj ho=>?_,st,h,?_,by rw [Nat.max_eq_left hle]; exact hobs,hctr,hpar⟩
  ·have:=(List.getElem?_eq_some_iff.1 ho).1
   omega
  ·intro t u ht
   rcases hsrc t u ht with ⟨j,h1,h2,h3⟩ | ⟨h1,h2⟩
   ·refine .inl ⟨j,?_,h2,h3⟩
    unfold dstOf at h2
    split at h2
    ·rename_i o ho; exact (List.getElem?_eq_some_iff.1 ho).1
    ·simp at h2
   ·exact .inr ⟨fun j hj=>h1 j (by omega),h2⟩
 | cons o rest ih =>
  intro i st X OB hdrop hsrc hobs hctr hpar h
  have hi : all[i]? = some o:=by
   have:=congrArg (·[0]?) hdrop
   simpa using this
  have hlt : i < all.length:=(List.getElem?_eq_some_iff.1 hi).1
  have hdrop' : all.drop (i + 1) = rest:=by
   have:=congrArg (List.drop 1) hdrop
   simpa using this
  have hdst : dstOf all i = o.dst:=by unfold dstOf; rw [hi]
  have step : ∀ (sti : St) (x : AV) (obs' : Obs),Src all st0 X i sti→sti.obs = obs'→sti.ctr = st0.ctr→sti.par = st0.par→adr sy (CSem P) E all rest K (sti.put o.dst x) →
    (∀ (X' : Nat→AV) (OB' : Nat→Obs),(∀ j,j < i→X' j = X j)→X' i = x→OB' i = OB i→OB' (i + 1) = obs'→StepOk P E all st0 OB' X' i o) →
    ∃ (X' : Nat→AV) (OB' : Nat→Obs),(∀ j,j < i→X' j = X j)∧(∀ j,j ≤ i→OB' j = OB j)∧(∀ j o,i ≤ j→all[j]? = some o→StepOk P E all st0 OB' X' j o)∧∃ stN,K stN∧Src all st0 X' all.length stN∧stN.obs = OB' (max i all.length)∧stN.ctr = st0.ctr∧stN.par = st0.par:=by
   intro sti x obs' hs ho hc hp hk hok
   obtain ⟨X1,hX1⟩ : ∃ X1 : Nat→AV,X1 = fun j=>if j = i then x else X j:=⟨_,rfl⟩
   obtain ⟨O1,hO1⟩ : ∃ O1 : Nat→Obs,O1 = fun j=>if j = i + 1 then obs' else OB j:=⟨_,rfl⟩
   have e1 : X1 i = x:=by rw [hX1]; simp
   have e2 : ∀ j,j < i→X1 j = X j:=fun j hj=>by rw [hX1]; simp only; rw [if_neg (by omega)]
   have f1 : O1 (i + 1) = obs':=by rw [hO1]; simp
   have f2 : ∀ j,j ≤ i→O1 j = OB j:=fun j hj=>by rw [hO1]; simp only; rw [if_neg (by omega)]
   have hs1 : Src all st0 X1 (i + 1) (sti.put o.dst x):=by
    have:=(hs.congr e2).put hdst
    rwa [e1] at this
   obtain ⟨X',OB',h1,h1',h2,h3⟩:=ih (i + 1) (sti.put o.dst x) X1 O1 hdrop' hs1 (by rw [f1]; cases o.dst <;> exact ho) (by cases o.dst <;> exact hc) (by cases o.dst <;> exact hp) hk
   refine ⟨X',OB',fun j hj=>by rw [h1 j (by omega),e2 j hj],fun j hj=>by rw [h1' j (by omega),f2 j hj],fun j o' hj ho'=>?_,by rw [show max i all.length = max (i + 1) all.length by omega]; exact h3⟩
   by_cases e : j = i
   ·subst e
    rw [hi] at ho'
    injection ho' with ho'
    subst ho'
    exact hok X' OB' (fun j hj=>by rw [h1 j (by omega),e2 j hj]) (by rw [h1 j (by omega),e1]) (by rw [h1' j (by omega),f2 j (Nat.le_refl _)]) (by rw [h1' (j + 1) (Nat.le_refl _),f1])
   ·exact h2 j o' (by omega) ho'
  simp only [adr] at h
  split at h
  ·rename_i hd
   split at h
   ·rename_i hw
    split at h
    ·rename_i hg
     obtain ⟨obs',x,hk,hgood,hkeys⟩:=wop_ok hΓ h
     exact step { slots:=st.slots,obs:=obs',ctr:=st.ctr,par:=st.par } x obs' hsrc rfl hctr hpar hk (fun X' OB' h1 h2 h3 h4=>⟨hd,fun e=>(by rw [hw] at e; simp at e),st,hsrc.congr h1,.inr (.inl ⟨hg,hw,by rw [h2,h3,h4,← hobs]; exact hgood,by rw [h3,h4,← hobs]; exact hkeys⟩)⟩)
    ·exact h.elim
   rename_i hw
   have hw : isW E o = false:=by simpa using hw
   split at h
   ·rename_i hg
    obtain ⟨x,hk,hgood,htr⟩:=dop_tr hΓ h
    exact step st x (OB i) hsrc hobs hctr hpar hk (fun X' OB' h1 h2 h3 h4=>⟨hd,fun _=>by rw [h3,h4],st,hsrc.congr h1,.inl ⟨hg,hw,by rw [h2,h3,← hobs]; exact hgood,by rw [h2]; exact htr⟩⟩)
   ·rename_i j b hg
    split at h
    ·exact h.elim
    ·rename_i d hdj
     split at h
     ·rename_i c hc
      have yes : c = b→dop sy (CSem P) (ev st) st.obs o.op (fun x=>adr sy (CSem P) E all rest K (st.put o.dst x))→∃ (X' : Nat→AV) (OB' : Nat→Obs),(∀ j,j < i→X' j = X j)∧(∀ j,j ≤ i→OB' j = OB j)∧(∀ j o,i ≤ j→all[j]? = some o→StepOk P E all st0 OB' X' j o)∧∃ stN,K stN∧Src all st0 X' all.length stN∧stN.obs = OB' (max i all.length)∧stN.ctr = st0.ctr∧stN.par = st0.par:=by
       intro hcb h
       obtain ⟨x,hk,hgood,htr⟩:=dop_tr hΓ h
       exact step st x (OB i) hsrc hobs hctr hpar hk (fun X' OB' h1 h2 h3 h4=>⟨hd,fun _=>by rw [h3,h4],st,hsrc.congr h1,.inr (.inr ⟨hw,j,b,d,_,hg,hdj,hc,.inl ⟨c,rfl,.inl ⟨hcb,by rw [h2,h3,← hobs]; exact hgood,by rw [h2]; exact htr⟩⟩⟩)⟩)
      split at h
      ·exact yes rfl h
      ·exact yes rfl h
      ·rename_i hn1 hn2
       exact step st _ (OB i) hsrc hobs hctr hpar h (fun X' OB' h1 h2 h3 h4=>⟨hd,fun _=>by rw [h3,h4],st,hsrc.congr h1,.inr (.inr ⟨hw,j,b,d,_,hg,hdj,hc,.inl ⟨c,rfl,.inr ⟨(fun e=>by cases c <;> cases b <;> first | exact hn1 rfl rfl | exact hn2 rfl rfl | cases e),h2⟩⟩⟩)⟩)
     ·rename_i c hc
      have yes : c = b→dop sy (CSem P) (ev (st.put (some d) (.b b))) st.obs o.op (fun x=>adr sy (CSem P) E all rest K ((st.put (some d) (.b b)).put o.dst x))→∃ (X' : Nat→AV) (OB' : Nat→Obs),(∀ j,j < i→X' j = X j)∧(∀ j,j ≤ i→OB' j = OB j)∧(∀ j o,i ≤ j→all[j]? = some o→StepOk P E all st0 OB' X' j o)∧∃ stN,K stN∧Src all st0 X' all.length stN∧stN.obs = OB' (max i all.length)∧stN.ctr = st0.ctr∧stN.par = st0.par:=by
       intro hcb h
       have hp : plain (.v (.bool c)) = plain (.b b):=by simp [plain,hcb]
       obtain ⟨x,hk,hgood,htr⟩:=dop_tr hΓ h
       exact step (st.put (some d) (.b b)) x (OB i) (hsrc.relabel hc hp) hobs hctr hpar hk (fun X' OB' h1 h2 h3 h4=>⟨hd,fun _=>by rw [h3,h4],st.put (some d) (.b b),(hsrc.relabel hc hp).congr h1,.inr (.inr ⟨hw,j,b,d,.b b,hg,hdj,by simp [St.put,lk],.inl ⟨b,rfl,.inl ⟨rfl,by rw [h2,h3,← hobs]; exact hgood,by rw [h2]; exact htr⟩⟩⟩)⟩)
      have no : c ≠ b→adr sy (CSem P) E all rest K ((st.put (some d) (.b c)).put o.dst (.tup []))→∃ (X' : Nat→AV) (OB' : Nat→Obs),(∀ j,j < i→X' j = X j)∧(∀ j,j ≤ i→OB' j = OB j)∧(∀ j o,i ≤ j→all[j]? = some o→StepOk P E all st0 OB' X' j o)∧∃ stN,K stN∧Src all st0 X' all.length stN∧stN.obs = OB' (max i all.length)∧stN.ctr = st0.ctr∧stN.par = st0.par:=by
       intro hcb h
       exact step (st.put (some d) (.b c)) _ (OB i) (hsrc.relabel hc rfl) hobs hctr hpar h (fun X' OB' h1 h2 h3 h4=>⟨hd,fun _=>by rw [h3,h4],st,hsrc.congr h1,.inr (.inr ⟨hw,j,b,d,_,hg,hdj,hc,.inl ⟨c,rfl,.inr ⟨hcb,h2⟩⟩⟩)⟩)
      cases b <;> cases c
      ·exact yes rfl (h.1 rfl)
      ·exact no (by simp) (h.2 rfl)
      ·exact no (by simp) (h.2 rfl)
      ·exact yes rfl (h.1 rfl)
     ·rename_i hc
      exact step st _ (OB i) hsrc hobs hctr hpar h (fun X' OB' h1 h2 h3 h4=>⟨hd,fun _=>by rw [h3,h4],st,hsrc.congr h1,.inr (.inr ⟨hw,j,b,d,_,hg,hdj,hc,.inr ⟨rfl,h2⟩⟩)⟩)
     ·exact h.elim
  ·exact h.elim
inductive Ahead (all : List Oper) (i : Nat) : Oper→Prop
 | one {q : Oper} {e : Edge} (h1 : e ∈ q.after) (h2 : e.on = i) (h3 : Region.binds .any e = true) : Ahead all i q
 | more {q k : Oper} {e : Edge} (h1 : e ∈ q.after) (h2 : Region.binds .any e = true) (h3 : all[e.on]? = some k) (h4 : Ahead all i k) : Ahead all i q
theorem Ahead.via {all : List Oper} {L : Nat→Prop} (hcl : ∀ j q,all[j]? = some q→L j→∀ e ∈ q.after,Region.binds .any e = true→L e.on) {i : Nat} {q : Oper} (h : Ahead all i q) : (∀ e ∈ q.after,Region.binds .any e = true→L e.on)→L i:=by
 induction h with
 | one h1 h2 h3=>intro hq; rw [← h2]; exact hq _ h1 h3
 | more h1 h2 h3 _ ih=>intro hq; exact ih fun e he hb=>hcl _ _ h3 (hq _ h1 h2) e he hb
theorem any_edge {as : Array Edge} {p : Edge→Bool} (h7 : as.any p = true) : ∃ e ∈ as,p e = true:=by
 obtain ⟨i,hi,he⟩:=Array.any_eq_true.1 h7
 exact ⟨_,Array.getElem_mem hi,he⟩
theorem aheadN_spec {all : List Oper} {i : Nat} : ∀ (n : Nat) (q : Oper),aheadN all i n q = true→Ahead all i q:=by
 intro n
 induction n with
 | zero=>intro q h; simp [aheadN] at h
 | succ n ih =>
  intro q h
  obtain ⟨e,he,h1⟩:=any_edge h
  simp only [Bool.and_eq_true,Bool.or_eq_true,beq_iff_eq] at h1
  obtain ⟨h1,h2 | h2⟩:=h1
  ·exact .one he h2 h1
  ·split at h2
   ·rename_i k hk; exact .more he h1 hk (ih k h2)
   ·simp at h2
theorem ahead_spec {all : List Oper} {i : Nat} {q : Oper} (h : ahead all i q = true) : Ahead all i q:=aheadN_spec _ _ h
theorem benign_spec {all : List Oper} (h : benign E all = true) {i : Nat} {o : Oper} (ho : all[i]? = some o) :
  (∀ j d,dstOf all j = some d→(j = i ∨ o.dst ≠ some d)∧(d ∈ looks all o→(j < i∧∃ e ∈ o.after,e.on = j∧Region.binds .any e = true) ∨ (i < j∧∃ q,all[j]? = some q∧Ahead all i q)))∧(∀ e ∈ o.after,Region.binds .any e = true→e.on < i)∧(∀ j b,o.guard = some (j,b)→∃ d,dstOf all j = some d)∧(∀ j q,all[j]? = some q→isW E q = true→j ≠ i→triv o = false→(j < i∧Ahead all j o) ∨ (i < j∧Ahead all i q)):=by
 have hi : i < all.length:=(List.getElem?_eq_some_iff.1 ho).1
 have:=List.all_eq_true.1 h i (List.mem_range.2 hi)
 rw [ho] at this
 simp only [Bool.and_eq_true] at this
 obtain ⟨⟨⟨h0,h1⟩,h2⟩,h3⟩:=this
 refine ⟨fun j d hd=>?_,fun e he hbd=>?_,fun j b hg=>?_,fun j q hq hw hne ht=>?_⟩
 ·have hj : j < all.length:=by
   unfold dstOf at hd
   split at hd
   ·rename_i o' ho'; exact (List.getElem?_eq_some_iff.1 ho').1
   ·simp at hd
  have:=List.all_eq_true.1 h1 j (List.mem_range.2 hj)
  simp only [hd,Bool.and_eq_true,Bool.or_eq_true] at this
  obtain ⟨h4,h5⟩:=this
  refine ⟨?_,fun hl=>?_⟩
  ·rcases h4 with h4 | h4
   ·exact .inl (by simpa using h4)
   ·exact .inr (by simpa using h4)
  ·rcases h5 with (h5 | h5) | h5
   ·simp only [Bool.not_eq_true',List.contains_eq_mem,decide_eq_false_iff_not] at h5
    exact absurd hl h5
   ·obtain ⟨h6,h7⟩:=h5
    refine .inl ⟨by simpa using h6,?_⟩
    obtain ⟨i,hi,he⟩:=Array.any_eq_true.1 h7
    simp only [Bool.and_eq_true,beq_iff_eq] at he
    exact ⟨_,Array.getElem_mem hi,he.1,he.2⟩
   ·obtain ⟨h6,h7⟩:=h5
    refine .inr ⟨by simpa using h6,?_⟩
    split at h7
    ·rename_i q hq; exact ⟨q,hq,ahead_spec h7⟩
    ·simp at h7
 ·have:=Array.all_eq_true_iff_forall_mem.1 h2 e he
  rw [hbd] at this
  simpa using this
 ·rw [hg] at h3
  simpa [Option.isSome_iff_exists] using h3
 ·have hj : j < all.length:=(List.getElem?_eq_some_iff.1 hq).1
  have h4:=List.all_eq_true.1 h0 j (List.mem_range.2 hj)
  simp only [hq,hw,if_true,Bool.or_eq_true,ht] at h4
  rcases h4 with (h4 | h4) | h4
  ·exact absurd (by simpa using h4) hne
  ·simp at h4
  ·split at h4
   ·rename_i hlt; exact .inl ⟨hlt,ahead_spec h4⟩
   ·exact .inr ⟨by omega,ahead_spec h4⟩
end Go.Proofs.Ytdnaadcbimbfmaa.Am
namespace Go.Proofs.Ytdnaadcbimbfmaa.Am
open Go Go.RowKit
variable {P : Program} {W0 : Bas} {S0 : Nat→Prop} {E : En}
def Inv (W0 : Bas) (S0 : Nat→Prop) (E : En) (all : List Oper) (st0 : St) (β : Nat→Value) (OB : Nat→Obs) (X : Nat→AV) (listed : Array Bool) (a : Act) (w : World) : Prop :=
 ∃ S p,GrK W0.M W0.W S0 w S∧a.defers = []∧a.tmps.size = E.n∧(∀ k o,lk k (OB p) = some o→ORep w S 0 (β k) o) ∧
  (∀ j t,listed.getD j false = true→dstOf all j = some t→t < E.n∧SRep w S β (OB p) (X j) (a.tmps.getD t undef)) ∧
  (∀ t u,(∀ j,listed.getD j false = true→dstOf all j ≠ some t)→lk t st0.slots = some u→t < E.n∧SRep w S β (OB p) u (a.tmps.getD t undef)) ∧
  p ≤ all.length∧(∀ j q,all[j]? = some q→isW E q = true→(listed.getD j false = true ↔ j < p)) ∧
  (∀ j q,all[j]? = some q→listed.getD j false = true→∀ e ∈ q.after,Region.binds .any e = true→listed.getD e.on false = true)
theorem ob_eq {all : List Oper} {OB : Nat→Obs} (hOB : ∀ i o,all[i]? = some o→isW E o = false→OB (i + 1) = OB i) : ∀ (d p : Nat),p + d ≤ all.length→(∀ j q,all[j]? = some q→isW E q = true→p ≤ j→p + d ≤ j)→OB (p + d) = OB p:=by
 intro d
 induction d with
 | zero=>intro p _ _; rfl
 | succ d ih =>
  intro p hl h
  have hlt : p + d < all.length:=by omega
  have ho : all[p + d]? = some all[p + d]:=List.getElem?_eq_getElem hlt
  by_cases hw : isW E all[p + d] = true
  ·have:=h (p + d) _ ho hw (by omega); omega
  ·rw [show p + (d + 1) = p + d + 1 by omega,hOB (p + d) _ ho (by simpa using hw)]
   exact ih p (by omega) (fun j q hq hqw hj=>by have:=h j q hq hqw hj; omega)
theorem ob_eq2 {all : List Oper} {OB : Nat→Obs} (hOB : ∀ i o,all[i]? = some o→isW E o = false→OB (i + 1) = OB i) {p i : Nat} (hp : p ≤ all.length) (hi : i ≤ all.length) (h : ∀ j q,all[j]? = some q→isW E q = true→(j < p ↔ j < i)) : OB p = OB i:=by
 by_cases hle : p ≤ i
 ·have:=ob_eq hOB (i - p) p (by omega) (fun j q hq hw hj=>by have:=(h j q hq hw); omega)
  rw [show p + (i - p) = i by omega] at this
  exact this.symm
 ·have:=ob_eq hOB (p - i) i (by omega) (fun j q hq hw hj=>by have:=(h j q hq hw); omega)
  rw [show i + (p - i) = p by omega] at this
  exact this
theorem ev_const {w : World} {S : Nat→Prop} {β : Nat→Value} {obs : Obs} {st : St} {a : Act} {x : Operand} {u : AV} (hx : isTmp x = none) (hu : ev st x = some u) : SRep w S β obs u (a.eval x):=by
 cases x with
 | tmp t=>simp [isTmp] at hx
 | const v =>
  simp only [ev] at hu
  unfold evc at hu
  split at hu <;> simp at hu <;> subst hu <;> first | exact srep_c (.b _) | exact srep_c (.v _ rfl)
 | global g=>simp [ev] at hu
 | func f =>
  simp [ev] at hu
  subst hu
  exact srep_of_rep (.clo (xs:=[]) rfl (fun i u x h=>by simp at h))
theorem getD_set {listed : Array Bool} {i j : Nat} (hi : i < listed.size) : (listed.setIfInBounds i true).getD j false = if j = i then true else listed.getD j false:=by
 by_cases h : j = i
 ·subst h; simp [hi]
 ·rw [if_neg h]; simp [Array.getElem?_setIfInBounds_ne (Ne.symm h)]
theorem inv_step {all : List Oper} {st0 : St} {β : Nat→Value} {OB : Nat→Obs} {X : Nat→AV} {listed : Array Bool} {a : Act} {w w' : World} {i p p' : Nat} {o : Oper} {v : Value} {S S' : Nat→Prop} {T : Nat→Prop} (hb : benign E all = true) (ho : all[i]? = some o) (hd : okD E.n o.dst = true) (hi : i < listed.size)
  (hgr : GrK W0.M W0.W S0 w S) (hdef : a.defers = []) (hsz : a.tmps.size = E.n)
  (hA : ∀ j t,listed.getD j false = true→dstOf all j = some t→t < E.n∧SRep w S β (OB p) (X j) (a.tmps.getD t undef)) (hB : ∀ t u,(∀ j,listed.getD j false = true→dstOf all j ≠ some t)→lk t st0.slots = some u→t < E.n∧SRep w S β (OB p) u (a.tmps.getD t undef))
  (hg : GrK T w S w' S') (hT : ∀ g,T g→W0.M g ∨ W0.heap.size ≤ g) (hobj' : ∀ k o,lk k (OB p') = some o→ORep w' S' 0 (β k) o) (hmap : ∀ x y,SRep w S β (OB p) x y→SRep w' S' β (OB p') x y) (hv : SRep w' S' β (OB p') (X i) v)
  (hp' : p' ≤ all.length) (hwr : ∀ j q,all[j]? = some q→isW E q = true→((listed.setIfInBounds i true).getD j false = true ↔ j < p')) (hcl : ∀ j q,all[j]? = some q→listed.getD j false = true→∀ e ∈ q.after,Region.binds .any e = true→listed.getD e.on false = true)
  (hafter : ∀ e ∈ o.after,Region.binds .any e = true→listed.getD e.on false = true) : Inv W0 S0 E all st0 β OB X (listed.setIfInBounds i true) (a.put o.dst v) w':=by
 have hdst : dstOf all i = o.dst:=by unfold dstOf; rw [ho]
 have hget : ∀ t,o.dst ≠ some t→(a.put o.dst v).tmps.getD t undef = a.tmps.getD t undef:=by
  intro t ht
  cases hdd : o.dst with
  | none=>rfl
  | some d =>
   rw [hdd] at ht hd
   have hdn : d < E.n:=by simpa [okD] using hd
   rw [getD_put _ _ _ _ (by rw [hsz]; exact hdn),if_neg (fun e=>ht (by rw [e]))]
 refine ⟨S',p',hgr.trans hg hT,by rw [put_defers]; exact hdef,by rw [put_size]; exact hsz,hobj',fun j t hj hjt=>?_,fun t u ht hu=>?_,hp',hwr,fun j q hq hj e he hbd=>?_⟩
 ·rw [getD_set hi] at hj
  by_cases e : j = i
  ·subst e
   rw [hdst] at hjt
   rw [hjt] at hd ⊢
   have hdn : t < E.n:=by simpa [okD] using hd
   refine ⟨hdn,?_⟩
   rw [getD_put _ _ _ _ (by rw [hsz]; exact hdn),if_pos rfl]
   exact hv
  ·rw [if_neg e] at hj
   obtain ⟨h1,h2⟩:=hA j t hj hjt
   have hne : o.dst ≠ some t:=by
    rcases ((benign_spec hb ho).1 j t hjt).1 with h | h
    ·exact absurd h e
    ·exact h
   exact ⟨h1,by rw [hget t hne]; exact hmap _ _ h2⟩
 ·have hne : o.dst ≠ some t:=by
   have:=ht i (by rw [getD_set hi,if_pos rfl])
   rwa [hdst] at this
  obtain ⟨h1,h2⟩:=hB t u (fun j hj=>ht j (by rw [getD_set hi]; split <;> first | rfl | exact hj)) hu
  exact ⟨h1,by rw [hget t hne]; exact hmap _ _ h2⟩
 ·rw [getD_set hi]
  split
  ·rfl
  ·rw [getD_set hi] at hj
   by_cases e1 : j = i
   ·subst e1
    rw [ho] at hq
    injection hq with hq
    subst hq
    exact hafter e he hbd
   ·rw [if_neg e1] at hj
    exact hcl j q hq hj e he hbd
theorem ready_or {ops : Array Oper} (hb : benign E ops.toList = true) {listed : Array Bool} (hs : listed.size = ops.size) (hr : Region.ready .any ops listed = []) : ∀ j,j < ops.size→listed.getD j false = true:=by
 intro j
 induction j using Nat.strongRecOn with
 | _ j ih =>
  intro hj
  by_cases h : listed.getD j false = true
  ·exact h
  ·exfalso
   have hlt : j < listed.size:=by omega
   have hf : listed.getD j true = false:=by
    have : listed.getD j false = listed.getD j true:=by simp [hlt]
    rw [← this]; simpa using h
   have ho : ops[j]? = some ops[j]:=Array.getElem?_eq_getElem hj
   have ho' : ops.toList[j]? = some ops[j]:=by simp
   have : j ∈ Region.ready .any ops listed:=mem_ready.2 ⟨hf,ops[j],ho,fun e he hbd=>by
    have h1:=(benign_spec hb ho').2.1 e he hbd
    exact ih e.on h1 (by omega)⟩
   rw [hr] at this
   simp at this
theorem any_ok {ops : Array Oper} {st0 : St} {β : Nat→Value} {OB : Nat→Obs} {X : Nat→AV} (hb : benign E ops.toList = true) (hok : ∀ j o,ops.toList[j]? = some o→StepOk P E ops.toList st0 OB X j o)
  (hsep : ∀ p k k' o o',lk k (OB p) = some o→lk k' (OB p) = some o'→k ≠ k'→∀ g,blkOf (β k) = some g→blkOf (β k') = some g→False) (hup : ∀ p k o g,lk k (OB p) = some o→blkOf (β k) = some g→W0.M g ∨ W0.heap.size ≤ g) {Q : Exit→Act→World→Prop}
  (hfin : ∀ listed a w,(∀ j,j < ops.size→listed.getD j false = true)→Inv W0 S0 E ops.toList st0 β OB X listed a w→Q .normal a w) :
  ∀ (fuel : Nat) (listed : Array Bool) (a : Act) (w : World),listed.size = ops.size→((List.range ops.size).filter (fun j=>listed.getD j false == false)).length ≤ fuel→Inv W0 S0 E ops.toList st0 β OB X listed a w→wpAny P .any ops Q fuel listed a w:=by
 intro fuel
 induction fuel with
 | zero =>
  intro listed a w hs hf hinv
  have hall : ∀ j,j < ops.size→listed.getD j false = true:=by
   intro j hj
   have : (List.range ops.size).filter (fun j=>listed.getD j false == false) = []:=List.eq_nil_of_length_eq_zero (by omega)
   rw [List.filter_eq_nil_iff] at this
   have:=this j (List.mem_range.2 hj)
   simpa using this
  refine ⟨?_,hfin _ _ _ hall hinv⟩
  rw [List.eq_nil_iff_forall_not_mem]
  intro j hj
  obtain ⟨h1,o,ho,_⟩:=mem_ready.1 hj
  have hlt : j < ops.size:=(Array.getElem?_eq_some_iff.1 ho).1
  have h2:=hall j hlt
  have : listed.getD j false = listed.getD j true:=by simp [show j < listed.size by omega]
  rw [this,h1] at h2
  simp at h2
 | succ fuel ih =>
  intro listed a w hs hf hinv
  refine ⟨fun hr=>hfin _ _ _ (ready_or hb hs hr) hinv,fun i hi=>?_⟩
  obtain ⟨h1,o,ho,hafter⟩:=mem_ready.1 hi
  have hlt : i < ops.size:=(Array.getElem?_eq_some_iff.1 ho).1
  have hil : i < listed.size:=by omega
  have hif : listed.getD i false = false:=by
   have : listed.getD i false = listed.getD i true:=by simp [hil]
   rw [this]; exact h1
  have ho' : ops.toList[i]? = some o:=by simpa using ho
  have hfuel : ((List.range ops.size).filter (fun j=>(listed.setIfInBounds i true).getD j false == false)).length ≤ fuel:=by
   have : (List.range ops.size).filter (fun j=>(listed.setIfInBounds i true).getD j false == false) = ((List.range ops.size).filter (fun j=>listed.getD j false == false)).filter (fun j=>!(j == i)):=by
    rw [List.filter_filter]
    apply List.filter_congr
    intro j _
    rw [getD_set hil]
    by_cases e : j = i <;> simp [e]
   rw [this]
   have hlt2 : (((List.range ops.size).filter (fun j=>listed.getD j false == false)).filter (fun j=>!(j == i))).length < ((List.range ops.size).filter (fun j=>listed.getD j false == false)).length:=by
    rw [List.length_filter_lt_length_iff_exists]
    exact ⟨i,List.mem_filter.2 ⟨List.mem_range.2 hlt,by simpa using hif⟩,by simp⟩
   omega
  have hOB : ∀ i o,ops.toList[i]? = some o→isW E o = false→OB (i + 1) = OB i:=fun i o ho hw=>(hok i o ho).2.1 hw
  obtain ⟨hd,_,sti,hsrc,hstep⟩:=hok i o ho'
  obtain ⟨S,p,hgr,hdef,hsz,hobj,hA,hB,hpl,hpw,hcl⟩:=hinv
  obtain ⟨bs1,bs2,bs3,bs4⟩:=benign_spec hb ho'
  have hafter' : ∀ e ∈ o.after,Region.binds .any e = true→listed.getD e.on false = true:=fun e he hbd=>hafter e he hbd
  have via : ∀ (q : Oper) (n : Nat),(∀ e ∈ q.after,Region.binds .any e = true→listed.getD e.on false = true)→Ahead ops.toList n q→listed.getD n false = true:=by
   intro q n hq h
   exact h.via (L:=fun n=>listed.getD n false = true) hcl hq
  have hlook : ∀ t u,t ∈ looks ops.toList o→lk t sti.slots = some u→t < E.n∧SRep w S β (OB p) u (a.tmps.getD t undef):=by
   intro t u ht hu
   rcases hsrc t u hu with ⟨j,hj,hjt,hp⟩ | ⟨hno,u0,hu0,hp⟩
   ·obtain ⟨_,e,he,heon,hbd⟩ | ⟨hji,_⟩:=(bs1 j t hjt).2 ht
    rotate_left
    ·omega
    have hl : listed.getD j false = true:=by rw [← heon]; exact hafter e he hbd
    obtain ⟨h2,h3⟩:=hA j t hl hjt
    exact ⟨h2,srep_plain hp.symm h3⟩
   ·obtain ⟨h2,h3⟩:=hB t u0 (fun j hl hjt=>by
     rcases (bs1 j t hjt).2 ht with ⟨this,_⟩ | ⟨_,q,hq,hah⟩
     ·exact hno j this hjt
     ·have:=via q i (hcl j q hq hl) hah
      rw [hif] at this
      simp at this) hu0
    exact ⟨h2,srep_plain hp.symm h3⟩
  have hops : ∀ x ∈ o.op.operands,∀ u,ev sti x = some u→SRep w S β (OB p) u (a.eval x):=by
   intro x hx u hu
   cases hxt : isTmp x with
   | none=>exact ev_const hxt hu
   | some t =>
    have hxe : x = .tmp t:=by cases x <;> simp [isTmp] at hxt; subst hxt; rfl
    subst hxe
    have ht : t ∈ looks ops.toList o:=by
     unfold looks
     refine List.mem_append_left _ (List.mem_filterMap.2 ⟨_,by simpa using hx,hxt⟩)
    exact (hlook t u ht hu).2
  have hstage : triv o = false→∀ j q,ops.toList[j]? = some q→isW E q = true→j ≠ i→(j < p ↔ j < i):=by
   intro htr j q hq hw hne
   rw [← hpw j q hq hw]
   rcases bs4 j q hq hw hne htr with ⟨h2,h3⟩ | ⟨h2,h3⟩
   ·exact ⟨fun _=>h2,fun _=>via o j hafter' h3⟩
   ·refine ⟨fun hl=>?_,fun h=>by omega⟩
    have:=via q i (hcl j q hq hl) h3
    rw [hif] at this
    simp at this
  have quiet : isW E o = false→∀ v w' S',Gr w S w' S'→SRep w' S' β (OB p) (X i) v→Inv W0 S0 E ops.toList st0 β OB X (listed.setIfInBounds i true) (a.put o.dst v) w':=by
   intro hnw v w' S' hg hv
   have hsame:=hg.same hgr.lt
   refine inv_step (T:=fun _=>False) hb ho' hd hil hgr hdef hsz hA hB (hg.k hgr.lt hgr.gd.2 _) (fun _ h=>h.elim) (fun k o' ho'=>?_) (fun x y h=>srep_mono hsame hg.sub h) hv hpl (fun j q hq hw=>?_) hcl hafter'
   ·refine orep_mono hsame hg.sub (fun g hgb=>?_) (hobj k o' ho')
    obtain ⟨h1,h2,h3⟩:=orep_blk (hobj k o' ho') hgb
    exact ⟨hg.below.block g h2,fun hs=>by rcases hg.new g hs with h4 | h4; exact h3 h4; omega⟩
   ·rw [getD_set hil]
    split
    ·rename_i e
     subst e
     rw [ho'] at hq
     injection hq with hq
     subst hq
     rw [hnw] at hw
     simp at hw
    ·exact hpw j q hq hw
  have run : isW E o = false→Good P (ev sti) (OB i) o.op (X i)→(triv o = true→∀ obs,Good P (ev sti) obs o.op (X i))→Region.wanted o (yielded ops a.tmps) = true→wpOp P ops Q i (wpAny P .any ops Q fuel (listed.setIfInBounds i true)) a w:=by
   intro hnw hgood htr hw
   have hgood : Good P (ev sti) (OB p) o.op (X i):=by
    by_cases ht : triv o = true
    ·exact htr ht _
    ·rw [ob_eq2 (E:=E) (all:=ops.toList) hOB hpl (i:=i) (by simpa using Nat.le_of_lt hlt) (fun j q hq hwq=>by
      by_cases e : j = i
      ·subst e
       rw [ho'] at hq
       injection hq with hq
       subst hq
       rw [hnw] at hwq
       simp at hwq
      ·exact hstage (by simpa using ht) j q hq hwq e)]
     exact hgood
   unfold wpOp
   rw [ho]
   simp only [hw,if_true]
   exact .inl (hgood a w S β 0 hgr.lt hgr.gd.2 hops hobj o rfl _ _ (fun v w' S' hg hv=>ih _ _ _ (by simp [hs]) hfuel (quiet hnw v w' S' hg hv)))
  have skip : isW E o = false→X i = .tup []→Region.wanted o (yielded ops a.tmps) = false→wpOp P ops Q i (wpAny P .any ops Q fuel (listed.setIfInBounds i true)) a w:=by
   intro hnw hx hw
   unfold wpOp
   rw [ho]
   simp only [hw]
   exact ih _ _ _ (by simp [hs]) hfuel (quiet hnw _ _ _ (Gr.refl hgr.lt) (by rw [hx]; exact tup_nil))
  rcases hstep with ⟨hg,hnw,hgood,htr⟩ | ⟨hg,hnw,hgood,hkeys⟩ | ⟨hnw,j,b,d,u,hg,hdj,hu,hcase⟩
  ·exact run hnw hgood htr (by simp [Region.wanted,hg])
  ·
   have hnt : triv o = false:=by
    unfold isW at hnw
    unfold triv
    split at hnw <;> simp_all
   have hpi : OB p = OB i:=by
    refine ob_eq2 (E:=E) (all:=ops.toList) hOB hpl (by simpa using Nat.le_of_lt hlt) (fun j q hq hwq=>?_)
    by_cases e : j = i
    ·subst e
     rw [← hpw j q hq hwq,hif]
     simp
    ·exact hstage hnt j q hq hwq e
   unfold wpOp
   rw [ho]
   have hw : Region.wanted o (yielded ops a.tmps) = true:=by simp [Region.wanted,hg]
   simp only [hw,if_true]
   refine .inl (hgood a w S β hgr.lt hgr.gd.2 (fun x hx u hu=>by rw [← hpi]; exact hops x hx u hu) (by rw [← hpi]; exact hobj) (hsep i) o rfl _ _ (fun v w' S' hg2 hobj2 hmap hv=>ih _ _ _ (by simp [hs]) hfuel ?_))
   refine inv_step (p:=p) (p':=i + 1) hb ho' hd hil hgr hdef hsz hA hB hg2 (fun g hg=>?_) hobj2 (fun x y h=>srep_of0 hmap (by rw [← hpi]; exact h)) hv (Nat.succ_le_of_lt (by simpa using hlt)) (fun j q hq hwq=>?_) hcl hafter'
   ·obtain ⟨k,o2,h1,h2⟩:=hg
    exact hup i k o2 g h1 h2
   ·rw [getD_set hil]
    by_cases e : j = i
    ·rw [if_pos e]; simp; omega
    ·rw [if_neg e,hpw j q hq hwq,hstage hnt j q hq hwq e]
     omega
  ·have ht : d ∈ looks ops.toList o:=by
    unfold looks
    refine List.mem_append_right _ ?_
    rw [hg]
    simp [hdj]
   obtain ⟨hdn,hs1⟩:=hlook d u ht hu
   have hy:=yielded_of (ops:=ops) (a:=a) hdj (by rw [hsz]; exact hdn)
   rcases hcase with ⟨c,hp,hcase⟩ | ⟨rfl,hx⟩
   ·have hv : a.tmps.getD d undef = .bool c:=srep_v (srep_plain (y:=.v (.bool c)) (by rw [hp]; rfl) hs1)
    rw [hv] at hy
    rcases hcase with ⟨hcb,hgood,htr⟩ | ⟨hcb,hx⟩
    ·exact run hnw hgood htr (by simp [Region.wanted,hg,hy,hcb])
    ·refine skip hnw hx ?_
     simp only [Region.wanted,hg,hy]
     cases c <;> cases b <;> first | rfl | exact absurd rfl hcb
   ·rw [tup_nil_inv hs1] at hy
    exact skip hnw hx (by simp [Region.wanted,hg,hy])
theorem adr_ok (hΓ : TOKs P) (hm : P.follows .mixedOrders = true) {ops : Array Oper} {K : St→Prop} {Q : Exit→Act→World→Prop} (hb : benign E ops.toList = true) (hK : ∀ st' a' w',K st'→Rel W0 S0 E.n st' a' w'→Q .normal a' w') {st : St} {a : Act} {w : World} {id : Nat} (h : adr sy (CSem P) E ops.toList ops.toList K st) (hr : Rel W0 S0 E.n st a w) : (Code.region id ops true).wp P Q a w:=by
 obtain ⟨S,β,hr⟩:=hr
 obtain ⟨X,OB,_,hOB0,hok,stN,hk,hsrcN,hobsN,hctrN,hparN⟩:=adr_tr hΓ (st0:=st) ops.toList 0 st (fun _=>.dead) (fun _=>st.obs) rfl (fun t u ht=>.inr ⟨fun j hj=>by omega,u,ht,rfl⟩) rfl rfl rfl h
 have hOB0 : OB 0 = st.obs:=hOB0 0 (Nat.le_refl _)
 have hobsN : stN.obs = OB ops.toList.length:=by simpa using hobsN
 have hkeys : ∀ p k u,p ≤ ops.toList.length→lk k (OB p) = some u→∃ u',lk k st.obs = some u':=by
  intro p
  induction p with
  | zero=>intro k u _ h; rw [hOB0] at h; exact ⟨_,h⟩
  | succ p ih =>
   intro k u hp h
   have ho : ops.toList[p]? = some ops.toList[p]:=List.getElem?_eq_getElem (by omega)
   obtain ⟨_,h1,_,_,h2⟩:=hok p _ (Nat.zero_le _) ho
   by_cases hw : isW E ops.toList[p] = true
   ·rcases h2 with ⟨_,h3,_⟩ | ⟨_,_,_,h3⟩ | ⟨h3,_⟩
    ·rw [h3] at hw; simp at hw
    ·obtain ⟨u',hu'⟩:=h3 k u h
     exact ih k u' (by omega) hu'
    ·rw [h3] at hw; simp at hw
   ·rw [h1 (by simpa using hw)] at h
    exact ih k u (by omega) h
 obtain ⟨OB',hOB'⟩ : ∃ OB' : Nat→Obs,OB' = fun p=>if p ≤ ops.toList.length then OB p else []:=⟨_,rfl⟩
 have eq : ∀ p,p ≤ ops.toList.length→OB' p = OB p:=fun p hp=>by rw [hOB']; simp only; rw [if_pos hp]
 have hkeys' : ∀ p k u,lk k (OB' p) = some u→∃ u',lk k st.obs = some u':=by
  intro p k u h
  rw [hOB'] at h
  simp only at h
  split at h
  ·rename_i hp; exact hkeys p k u hp h
  ·simp [lk] at h
 have hok' : ∀ j o,ops.toList[j]? = some o→StepOk P E ops.toList st OB' X j o:=by
  intro j o ho
  have hlt : j < ops.toList.length:=(List.getElem?_eq_some_iff.1 ho).1
  have:=hok j o (Nat.zero_le _) ho
  unfold StepOk at this ⊢
  rw [eq j (by omega),eq (j + 1) (by omega)]
  exact this
 refine wp_region_any hm (any_ok (W0:=W0) (S0:=S0) (E:=E) (st0:=st) (β:=β) (OB:=OB') (X:=X) hb hok' (fun p k k' o o' h1 h2=>?_) (fun p k o g h1 h2=>?_) (fun listed a' w' hall hinv=>?_) ops.size _ a _ (by simp) ?_ ?_)
 ·obtain ⟨u,hu⟩:=hkeys' p k o h1
  obtain ⟨u',hu'⟩:=hkeys' p k' o' h2
  exact hr.sep k k' u u' hu hu'
 ·obtain ⟨u,hu⟩:=hkeys' p k o h1
  have:=hr.up k u g hu h2
  split at this
  ·exact .inl this
  ·exact this.symm
 ·obtain ⟨S',p,hgr,hdef,hsz,hobj,hA,hB,hpl,hpw,_⟩:=hinv
  have hpe : OB' p = OB ops.toList.length:=by
   rw [← eq _ (Nat.le_refl _)]
   refine ob_eq2 (E:=E) (all:=ops.toList) (fun i o ho hw=>(hok' i o ho).2.1 hw) hpl (Nat.le_refl _) (fun j q hq hw=>?_)
   have hj : j < ops.toList.length:=(List.getElem?_eq_some_iff.1 hq).1
   have:=(hpw j q hq hw).1 (hall j (by simpa using hj))
   exact ⟨fun _=>hj,fun _=>this⟩
  rw [hpe] at hobj hA hB
  have hkN : ∀ k u,lk k stN.obs = some u→∃ u',lk k st.obs = some u':=fun k u h=>hkeys _ k u (Nat.le_refl _) (by rw [← hobsN]; exact h)
  refine hK _ _ _ hk ⟨S',β,hgr,by rw [hparN]; exact hr.par,hdef,hsz,fun t u ht=>?_,by rw [hobsN]; exact hobj,fun k o g h1=>?_,fun k k' o o' h1 h2=>?_,fun k o h1=>?_,by rw [hctrN]; exact hr.parc,fun k o hp h1=>?_⟩
  ·rw [hobsN]
   rcases hsrcN t u ht with ⟨j,hj,hjt,hp⟩ | ⟨hno,u0,hu0,hp⟩
   ·obtain ⟨h1,h2⟩:=hA j t (hall j (by simpa using hj)) hjt
    exact ⟨h1,srep_plain hp.symm h2⟩
   ·obtain ⟨h1,h2⟩:=hB t u0 (fun j _ hjt=>by
     by_cases hj : j < ops.toList.length
     ·exact hno j hj hjt
     ·unfold dstOf at hjt
      rw [List.getElem?_eq_none (by omega)] at hjt
      simp at hjt) hu0
    exact ⟨h1,srep_plain hp.symm h2⟩
  ·obtain ⟨u,hu⟩:=hkN k o h1; exact hr.up k u g hu
  ·obtain ⟨u,hu⟩:=hkN k o h1
   obtain ⟨u',hu'⟩:=hkN k' o' h2
   exact hr.sep k k' u u' hu hu'
  ·obtain ⟨u,hu⟩:=hkN k o h1
   rw [hctrN]
   exact hr.ctr k u hu
  ·obtain ⟨u,hu⟩:=hkN k o h1; exact hr.fix k u hp hu
 ·refine Nat.le_trans (List.length_filter_le _ _) (by simp)
 ·have e0 : OB' 0 = st.obs:=by rw [eq 0 (Nat.zero_le _)]; exact hOB0
  refine ⟨S,0,⟨hr.gr.os,hr.gr.tape,hr.gr.output,hr.gr.size,hr.gr.block,hr.gr.sub,hr.gr.new,hr.gr.lt,hr.gr.gd.1,hr.gr.gd.2.mono (fun _ _=>rfl) (fun _ h=>h)⟩,hr.defers,hr.size,fun k o ho=>?_,fun j t hj=>?_,fun t u _ hu=>?_,Nat.zero_le _,fun j q _ _=>?_,fun j q _ hj=>?_⟩
  ·rw [e0] at ho
   exact orep_mono (w:=w) (fun _ _=>rfl) (fun _ h=>h) (fun g hg=>⟨rfl,(orep_blk (hr.objs k o ho) hg).2.2⟩) (hr.objs k o ho)
  ·exfalso
   by_cases hlt : j < ops.size <;> simp [hlt] at hj
  ·rw [e0]
   obtain ⟨h1,h2⟩:=hr.slots t u hu
   exact ⟨h1,srep_mono (w:=w) (w':={ w with drawn:=w.drawn + 1 }) (S':=S) (fun _ _=>rfl) (fun _ h=>h) h2⟩
  ·have : ¬ ((Array.replicate ops.size false).getD j false = true):=by by_cases hlt : j < ops.size <;> simp [hlt]
   exact ⟨fun h=>absurd h this,fun h=>by omega⟩
  ·exfalso
   by_cases hlt : j < ops.size <;> simp [hlt] at hj
end Go.Proofs.Ytdnaadcbimbfmaa.Am
namespace Go.Proofs.Ytdnaadcbimbfmaa.Am
open Go Go.RowKit
inductive AE where
 | normal
 | ret
 | exit (id : Nat)
def Le (s s' : St) : Prop:=∀ (W0 : Bas) (S0 : Nat→Prop) (n : Nat) (a : Act) (w : World),Rel W0 S0 n s a w→Rel W0 S0 n s' a w
def ALp (body : (AE→St→Prop)→St→Prop) (Q : AE→St→Prop) (st : St) : Prop :=
 ∃ (ι : Type) (sh : ι→St) (inv : ι→Prop) (μ : ι→Nat),(∃ x,inv x∧Le st (sh x)) ∧
  ∀ x,inv x→body (fun e s=>match e with
   | .normal=>∃ y,inv y∧μ y < μ x∧Le s (sh y)
   | .ret=>Q .ret s
   | .exit i=>Q (.exit i) s) (sh x)
def relab (c : Operand) (b : Bool) (st : St) : St :=
 match c with
 | .tmp d=>st.put (some d) (.b b)
 | _=>st
section
variable (F : Sy) (C : Key→List AV→Res→Prop) (D : Code→(AE→St→Prop)→St→Prop) (E : En)
def firstId : Code→Option Nat
 | .region id _ _=>some id
 | .seq x _=>firstId x
 | .block _ c=>firstId c
 | .loop c=>firstId c
 | _=>none
def cutAt (c : Code) : Bool:=match firstId c with | some id=>memN id E.cuts | none=>false
def awp : Code→(AE→St→Prop)→St→Prop
 | .skip,Q,st=>Q .normal st
 | .region _ ops dr,Q,st=>(match dr with
  | true=>C (.ben E ops.toList) [] (.pure [])∧adr F C E ops.toList ops.toList (Q .normal) st
  | false=>aops F C E ops.toList ops.toList (Q .normal) st)
 | .seq x y,Q,st=>awp x (fun e s=>match e with
  | .normal=>(match cutAt E y with | true=>∃ s',Le s s'∧D y Q s' | false=>awp y Q s)
  | .ret=>Q .ret s
  | .exit i=>Q (.exit i) s) st
 | .cond c x y,Q,st=>(match ev st c with
  | some (.b true)=>awp x Q st
  | some (.b false)=>awp y Q st
  | some (.v (.bool t))=>(t = true→awp x Q (relab c true st))∧(t = false→awp y Q (relab c false st))
  | _=>False)
 | .block id c,Q,st=>awp c (fun e s=>match e with
  | .normal=>Q .normal s
  | .ret=>Q .ret s
  | .exit i=>if i = id then Q .normal s else Q (.exit i) s) st
 | .loop c,Q,st=>ALp (awp c) Q st
 | .exit id,Q,st=>Q (.exit id) st
 | .ret,Q,st=>Q .ret st
 | .scope c,Q,st=>awp c Q st
 | .rangeFunc _ _ _ _,_,_=>False
 | .label _,Q,st=>Q .normal st
 | .goto _,_,_=>False
 | .refuse _,_,_=>False
end
def toExit : AE→Exit
 | .normal=>.normal
 | .ret=>.ret
 | .exit i=>.exit i
variable {P : Program} {W0 : Bas} {S0 : Nat→Prop} {E : En}
def Snd (P : Program) (E : En) (c : Code) (Q : AE→St→Prop) (st : St) : Prop :=
 ∀ (W0 : Bas) (S0 : Nat→Prop) (R : Exit→Act→World→Prop) (a : Act) (w : World),Rel W0 S0 E.n st a w→(∀ e st' a' w',Q e st'→Rel W0 S0 E.n st' a' w'→R (toExit e) a' w')→c.wp P R a w
theorem awp_ok (hΓ : TOKs P) (hm : P.follows .mixedOrders = true) : ∀ (c : Code) (Q : AE→St→Prop) (R : Exit→Act→World→Prop) (st : St) (a : Act) (w : World),awp sy (CSem P) (Snd P E) E c Q st→Rel W0 S0 E.n st a w→(∀ e st' a' w',Q e st'→Rel W0 S0 E.n st' a' w'→R (toExit e) a' w')→c.wp P R a w:=by
 intro c
 induction c with
 | skip=>intro Q R st a w h hr hq; exact wp_skip (hq .normal _ _ _ h hr)
 | region id ops dr =>
  intro Q R st a w h hr hq
  simp only [awp] at h
  split at h
  ·obtain ⟨hb,h⟩:=h
   exact adr_ok hΓ hm hb (fun st' a' w' hk hr'=>hq .normal _ _ _ hk hr') h hr
  ·exact wp_region_list (aops_ok hΓ (fun st' a' w' hk hr'=>hq .normal _ _ _ hk hr') ops.toList st a w h hr)
 | seq x y ihx ihy =>
  intro Q R st a w h hr hq
  simp only [awp] at h
  refine wp_seq (ihx _ _ st a w h hr (fun e st' a' w' hk hr'=>?_))
  cases e with
  | normal =>
   simp only at hk
   split at hk
   ·obtain ⟨s',hle,hd⟩:=hk
    exact hd _ _ _ _ _ (hle _ _ _ _ _ hr') hq
   ·exact ihy _ _ st' a' w' hk hr' hq
  | ret=>exact hq .ret _ _ _ hk hr'
  | exit i=>exact hq (.exit i) _ _ _ hk hr'
 | cond c x y ihx ihy =>
  intro Q R st a w h hr hq
  simp only [awp] at h
  have hval : ∀ u,ev st c = some u→∃ S β,SRep w S β st.obs u (a.eval c):=fun u hu=>by
   obtain ⟨S,β,hr⟩:=hr
   exact ⟨S,β,ev_ok hr hu⟩
  have hrel : ∀ t b,ev st c = some (.v (.bool t))→t = b→Rel W0 S0 E.n (relab c b st) a w:=by
   intro t b hc htb
   cases c with
   | tmp d=>exact rel_relabel hr hc (by simp [plain,htb])
   | const v=>exact hr
   | global g=>exact hr
   | func f=>exact hr
  split at h
  ·rename_i hc
   obtain ⟨S,β,hv⟩:=hval _ hc
   exact wp_cond_true (srep_b hv) (ihx _ _ _ _ _ h hr hq)
  ·rename_i hc
   obtain ⟨S,β,hv⟩:=hval _ hc
   exact wp_cond_false (srep_b hv) (ihy _ _ _ _ _ h hr hq)
  ·rename_i t hc
   obtain ⟨S,β,hv⟩:=hval _ hc
   cases t with
   | true=>exact wp_cond_true (srep_v hv) (ihx _ _ _ _ _ (h.1 rfl) (hrel _ _ hc rfl) hq)
   | false=>exact wp_cond_false (srep_v hv) (ihy _ _ _ _ _ (h.2 rfl) (hrel _ _ hc rfl) hq)
  ·exact h.elim
 | block id c ih =>
  intro Q R st a w h hr hq
  simp only [awp] at h
  refine wp_block (ih _ _ st a w h hr (fun e st' a' w' hk hr'=>?_))
  cases e with
  | normal=>exact hq .normal _ _ _ hk hr'
  | ret=>exact hq .ret _ _ _ hk hr'
  | exit i =>
   simp only [toExit,Exit.inBlock]
   by_cases e : i = id
   ·subst e
    simp only [if_true] at hk ⊢
    exact hq .normal _ _ _ hk hr'
   ·rw [if_neg e]
    simp only [if_neg e] at hk
    exact hq (.exit i) _ _ _ hk hr'
 | loop c ih =>
  intro Q R st a w h hr hq
  simp only [awp] at h
  obtain ⟨ι,sh,inv,μ,⟨x0,hx0,hle⟩,hstep⟩:=h
  have key : ∀ n x a w,inv x→μ x < n→Rel W0 S0 E.n (sh x) a w→Code.rounds P c R n a w:=by
   intro n
   induction n with
   | zero=>intro x a w _ h; omega
   | succ n ihn =>
    intro x a w hx hμ hr
    rw [rounds_succ]
    refine ih _ _ (sh x) a w (hstep x hx) hr (fun e st' a' w' hk hr'=>?_)
    cases e with
    | normal =>
     obtain ⟨y,hy,hμy,hley⟩:=hk
     exact ihn y a' w' hy (by omega) (hley _ _ _ _ _ hr')
    | ret=>exact hq .ret _ _ _ hk hr'
    | exit i=>exact hq (.exit i) _ _ _ hk hr'
  exact wp_loop_rounds (μ x0 + 1) (key _ x0 a w hx0 (by omega) (hle _ _ _ _ _ hr))
 | exit id=>intro Q R st a w h hr hq; exact wp_exit (hq (.exit id) _ _ _ h hr)
 | ret=>intro Q R st a w h hr hq; exact wp_ret (hq .ret _ _ _ h hr)
 | scope c ih =>
  intro Q R st a w h hr hq
  exact wp_scope_straight (ih Q (Exit.noGoto R) st a w h hr (fun e st' a' w' hk hr'=>by
   have:=hq e st' a' w' hk hr'
   cases e <;> exact this))
 | rangeFunc f ps x y ih1 ih2=>intro Q R st a w h hr hq; exact h.elim
 | label l=>intro Q R st a w h hr hq; exact wp_label (hq .normal _ _ _ h hr)
 | goto l=>intro Q R st a w h hr hq; exact h.elim
 | refuse y=>intro Q R st a w h hr hq; exact h.elim
def rn0 (κ : List (Nat × Nat)) (k : Nat) : Nat:=match lk k κ with | some j=>j | none=>k
def rnA (κ : List (Nat × Nat)) : AV→AV
 | .own k v=>.own (rn0 κ k) v
 | .ptr k o=>.ptr (rn0 κ k) o
 | .rel k v m i cs o=>.rel (rn0 κ k) v m i cs o
 | .mo k=>.mo (rn0 κ k)
 | x=>x
def noTup : AV→Bool
 | .osl _ _ _=>false
 | .tup (_ :: _)=>false
 | _=>true
def leSl (κ : List (Nat × Nat)) (s : List (Nat × AV)) : List (Nat × AV)→Prop
 | []=>True
 | (t,x) :: r=>(match lk t s with | some y=>plain y = plain (rnA κ x) | none=>False)∧(if noTup x = true then leSl κ s r else False)
def leOb (κ : List (Nat × Nat)) (s : Obs) (c : Nat) : Obs→Prop
 | []=>True
 | (k,o) :: r=>(match lk (rn0 κ k) s with | some o2=>o2 = o | none=>False)∧(if Nat.blt k c = true then leOb κ s c r else False)
def memK (j : Nat) (κ : List (Nat × Nat)) : Obs→Bool
 | []=>false
 | (k,_) :: r=>if rn0 κ k = j then true else memK j κ r
def injK (κ : List (Nat × Nat)) : Obs→Bool
 | []=>true
 | (k,_) :: r=>if memK (rn0 κ k) κ r = true then false else injK κ r
theorem leSl_get {κ : List (Nat × Nat)} {s : List (Nat × AV)} : ∀ {l : List (Nat × AV)},leSl κ s l→∀ t x,(t,x) ∈ l→noTup x = true∧∃ y,lk t s = some y∧plain y = plain (rnA κ x):=by
 intro l
 induction l with
 | nil=>intro _ t x h; simp at h
 | cons p l ih =>
  obtain ⟨k,z⟩:=p
  intro h t x hx
  simp only [leSl] at h
  obtain ⟨h1,h2⟩:=h
  split at h2
  ·rename_i hn
   rcases List.mem_cons.1 hx with e | hx
   ·injection e with e1 e2
    subst e1 e2
    split at h1
    ·rename_i y hy; exact ⟨hn,y,hy,h1⟩
    ·exact h1.elim
   ·exact ih h2 t x hx
  ·exact h2.elim
theorem leOb_get {κ : List (Nat × Nat)} {s : Obs} {c : Nat} : ∀ {l : Obs},leOb κ s c l→∀ k o,(k,o) ∈ l→lk (rn0 κ k) s = some o∧k < c:=by
 intro l
 induction l with
 | nil=>intro _ t x h; simp at h
 | cons p l ih =>
  obtain ⟨k,z⟩:=p
  intro h t x hx
  simp only [leOb] at h
  obtain ⟨h1,h2⟩:=h
  split at h2
  ·rename_i hn
   rcases List.mem_cons.1 hx with e | hx
   ·injection e with e1 e2
    subst e1 e2
    split at h1
    ·rename_i y hy; subst h1; exact ⟨hy,by simpa using hn⟩
    ·exact h1.elim
   ·exact ih h2 t x hx
  ·exact h2.elim
theorem injK_spec {κ : List (Nat × Nat)} : ∀ {l : Obs},injK κ l = true→∀ k k' o o',(k,o) ∈ l→(k',o') ∈ l→k ≠ k'→rn0 κ k ≠ rn0 κ k':=by
 have mem : ∀ (l : Obs) j k o,(k,o) ∈ l→rn0 κ k = j→memK j κ l = true:=by
  intro l
  induction l with
  | nil=>intro j k o h; simp at h
  | cons p l ih =>
   obtain ⟨k0,z⟩:=p
   intro j k o h e
   simp only [memK]
   rcases List.mem_cons.1 h with h | h
   ·injection h with h1 h2; subst h1; rw [if_pos e]
   ·split
    ·rfl
    ·exact ih j k o h e
 intro l
 induction l with
 | nil=>intro _ k k' o o' h; simp at h
 | cons p l ih =>
  obtain ⟨k0,z⟩:=p
  intro h k k' o o' hk hk' hne e
  simp only [injK] at h
  split at h
  ·simp at h
  ·rename_i hm
   rcases List.mem_cons.1 hk with h1 | h1
   ·injection h1 with h1 _
    subst h1
    rcases List.mem_cons.1 hk' with h2 | h2
    ·injection h2 with h2 _; exact hne h2.symm
    ·exact hm (mem l _ k' o' h2 e.symm)
   ·rcases List.mem_cons.1 hk' with h2 | h2
    ·injection h2 with h2 _
     subst h2
     exact hm (mem l _ k o h1 e)
    ·exact ih h k k' o o' h1 h2 hne e
def Ob.fresh : Ob→Ob
 | .row e sz rows ver _=>.row e sz rows ver 0
 | o=>o
def relT : AV→Bool
 | .osl _ _ _=>true
 | .rel _ _ _ _ _ _=>true
 | .tup (_ :: _)=>true
 | _=>false
def killR (x : AV) : AV:=if relT x = true then .dead else x
def freshObs : Obs→Obs
 | []=>[]
 | (k,o) :: r=>(k,o.fresh) :: freshObs r
theorem lk_fresh : ∀ (l : Obs) (k : Nat),lk k (freshObs l) = (lk k l).map Ob.fresh:=by
 intro l k
 induction l with
 | nil=>rfl
 | cons p l ih =>
  obtain ⟨j,o⟩:=p
  simp only [freshObs,lk]
  split
  ·rfl
  ·exact ih
def St.fresh (s : St) : St:={ slots:=mapS killR s.slots,obs:=freshObs s.obs,ctr:=s.ctr,par:=s.par }
theorem orep_fresh {w : World} {S : Nat→Prop} {B : Nat} {x : Value} {o : Ob} (h : ORep w S B x o) : ORep w S B x o.fresh:=by cases o <;> exact h
theorem le_fresh {s : St} : Le s s.fresh:=by
 rintro W0 S0 n a w ⟨S,β,hr⟩
 have hob : ∀ k o,lk k s.fresh.obs = some o→∃ o',lk k s.obs = some o'∧o = o'.fresh:=by
  intro k o hk
  have hk : (lk k s.obs).map Ob.fresh = some o:=by rw [← lk_fresh]; exact hk
  cases ho : lk k s.obs with
  | none=>rw [ho] at hk; simp at hk
  | some o'=>rw [ho] at hk; injection hk with hk; exact ⟨o',rfl,hk.symm⟩
 refine ⟨S,β,hr.gr,hr.par,hr.defers,hr.size,fun t x ht=>?_,fun k o hk=>?_,fun k o g hk=>?_,fun k k' o o' hk hk'=>?_,fun k o hk=>?_,hr.parc,fun k o hp hk=>?_⟩
 ·have ht : (lk t s.slots).map killR = some x:=by rw [← lk_mapS]; exact ht
  cases hy : lk t s.slots with
  | none=>rw [hy] at ht; simp at ht
  | some y =>
   rw [hy] at ht
   injection ht with ht
   obtain ⟨h1,h2⟩:=hr.slots t y hy
   refine ⟨h1,?_⟩
   by_cases hrel : relT y = true
   ·rw [← ht,killR,if_pos hrel]; exact trivial
   ·rw [killR,if_neg hrel] at ht
    subst ht
    cases y <;> try exact h2
    ·rename_i k v
     intro e sz rows m hk
     obtain ⟨o',ho',he⟩:=hob _ _ hk
     cases o' <;> simp [Ob.fresh] at he
     rename_i e0 sz0 rows0 v0 m0
     obtain ⟨rfl,rfl,rfl,rfl,rfl⟩:=he
     exact (show ∀ e sz rows m,lk k s.obs = some (.row e sz rows v m)→a.tmps.getD t undef = β k from h2) _ _ _ _ ho'
    ·exact absurd rfl hrel
    ·exact absurd rfl hrel
    ·rename_i vs
     cases vs with
     | nil=>rw [tup_nil_inv h2]; exact tup_nil
     | cons v vs=>exact absurd rfl hrel
    ·rename_i k
     intro ks vs hk
     obtain ⟨o',ho',he⟩:=hob _ _ hk
     cases o' <;> simp [Ob.fresh] at he
     obtain ⟨rfl,rfl⟩:=he
     exact (show ∀ ks vs,lk k s.obs = some (.mp ks vs)→a.tmps.getD t undef = β k from h2) _ _ ho'
 ·obtain ⟨o',ho',rfl⟩:=hob _ _ hk
  exact orep_fresh (hr.objs _ _ ho')
 ·obtain ⟨o',ho',rfl⟩:=hob _ _ hk
  exact hr.up _ _ g ho'
 ·obtain ⟨o1,h1,rfl⟩:=hob _ _ hk
  obtain ⟨o2,h2,rfl⟩:=hob _ _ hk'
  exact hr.sep _ _ _ _ h1 h2
 ·obtain ⟨o',ho',rfl⟩:=hob _ _ hk
  exact hr.ctr _ _ ho'
 ·obtain ⟨o',ho',rfl⟩:=hob _ _ hk
  exact hr.fix _ _ hp ho'
theorem Le.trans {a b c : St} (h : Le a b) (k : Le b c) : Le a c:=fun W0 S0 n ac w hr=>k _ _ _ _ _ (h _ _ _ _ _ hr)
def parK (κ : List (Nat × Nat)) (par : Nat) : Obs→Bool
 | []=>true
 | (k,_) :: r=>if Nat.blt k par = Nat.blt (rn0 κ k) par then (if Nat.blt k par = true then (if rn0 κ k = k then parK κ par r else false) else parK κ par r) else false
theorem parK_get {κ : List (Nat × Nat)} {par : Nat} : ∀ {l : Obs},parK κ par l = true→∀ k o,(k,o) ∈ l→(k < par ↔ rn0 κ k < par)∧(k < par→rn0 κ k = k):=by
 intro l
 induction l with
 | nil=>intro _ k o h; simp at h
 | cons p l ih =>
  obtain ⟨j,u⟩:=p
  intro h k o hk
  simp only [parK] at h
  split at h
  ·rename_i e
   have h2 : parK κ par l = true∧(j < par→rn0 κ j = j):=by
    split at h
    ·split at h
     ·rename_i e2; exact ⟨h,fun _=>e2⟩
     ·simp at h
    ·rename_i e2; exact ⟨h,fun h3=>absurd (by rw [Nat.blt_eq]; exact h3) e2⟩
   rcases List.mem_cons.1 hk with h1 | h1
   ·injection h1 with h1 _
    subst h1
    exact ⟨by rw [← Nat.blt_eq,← Nat.blt_eq,e],h2.2⟩
   ·exact ih h2.1 k o h1
  ·simp at h
theorem le_of (κ : List (Nat × Nat)) {s s' : St} (h : leSl κ s.slots s'.slots∧leOb κ s.obs s'.ctr s'.obs∧injK κ s'.obs = true∧s'.par = s.par∧Nat.ble s.par s'.ctr = true∧parK κ s.par s'.obs = true) : Le s s':=by
 obtain ⟨h1,h2,h3,h4',h5',h6'⟩:=h
 rintro W0 S0 n a w ⟨S,β,hr⟩
 refine ⟨S,fun k=>β (rn0 κ k),hr.gr,by rw [h4']; exact hr.par,hr.defers,hr.size,fun t x ht=>?_,fun k o hk=>?_,fun k o g hk hg=>?_,fun k k' o o' hk hk' hne=>?_,fun k o hk=>?_,by rw [← hr.par]; simpa using h5',fun k o hp hk=>?_⟩
 ·obtain ⟨hn,y,hy,hp⟩:=leSl_get h1 t x (lk_mem ht)
  obtain ⟨h4,h5⟩:=hr.slots t y hy
  refine ⟨h4,?_⟩
  have h6:=srep_plain hp h5
  have hob : ∀ k o,lk k s'.obs = some o→lk (rn0 κ k) s.obs = some o:=fun k o hk=>(leOb_get h2 k o (lk_mem hk)).1
  cases x <;> try exact h6
  ·rename_i k v
   intro e sz rows m hk
   exact (show ∀ e sz rows m,lk (rn0 κ k) s.obs = some (.row e sz rows v m)→a.tmps.getD t undef = β (rn0 κ k) from h6) _ _ _ _ (hob _ _ hk)
  ·rename_i k v m i cs off
   intro e sz rows m' hk
   exact (show RelP β s.obs (rn0 κ k) v m i cs off (a.tmps.getD t undef) from h6) _ _ _ _ (hob _ _ hk)
  ·simp [noTup] at hn
  ·rename_i vs
   cases vs with
   | nil=>rw [tup_nil_inv h6]; exact tup_nil
   | cons v vs=>simp [noTup] at hn
  ·rename_i k
   intro ks vs hk
   exact (show ∀ ks vs,lk (rn0 κ k) s.obs = some (.mp ks vs)→a.tmps.getD t undef = β (rn0 κ k) from h6) _ _ (hob _ _ hk)
 ·exact hr.objs _ _ (leOb_get h2 k o (lk_mem hk)).1
 ·have:=hr.up _ _ g (leOb_get h2 k o (lk_mem hk)).1 hg
  have hp:=(parK_get h6' k o (lk_mem hk)).1
  rw [hr.par] at hp
  by_cases hlt : k < W0.par
  ·rw [if_pos hlt]; rwa [if_pos (hp.1 hlt)] at this
  ·rw [if_neg hlt]; rwa [if_neg (fun h=>hlt (hp.2 h))] at this
 ·exact hr.sep _ _ _ _ (leOb_get h2 k o (lk_mem hk)).1 (leOb_get h2 k' o' (lk_mem hk')).1 (injK_spec h3 k k' o o' (lk_mem hk) (lk_mem hk') hne)
 ·exact (leOb_get h2 k o (lk_mem hk)).2
 ·have h7:=(parK_get h6' k o (lk_mem hk)).2 (by rw [hr.par]; exact hp)
  rw [h7]
  have:=(leOb_get h2 k o (lk_mem hk)).1
  rw [h7] at this
  exact hr.fix k o hp this
end Go.Proofs.Ytdnaadcbimbfmaa.Am
namespace Go.Proofs.Ytdnaadcbimbfmaa.Am
open Go Go.RowKit
def st0 (i : Nat) : List AV→List (Nat × AV)
 | []=>[]
 | x :: r=>(i,x) :: st0 (i + 1) r
def opOf : ResultVar→Operand
 | .tmp t=>.tmp t
 | .cell p _=>.tmp p
def resVar (st : St) : ResultVar→Option AV
 | .tmp t=>lk t st.slots
 | .cell p T=>match gam T,lk p st.slots with
  | some ti,some q=>(match deref st.obs q with
   | some (cs,off)=>(match cut off ti.size cs with
    | some ds=>if ti.agg = true then some (.agg ds) else (match ds with | [d]=>some d | _=>none)
    | none=>none)
   | none=>none)
  | _,_=>none
def eqR (y x : AV) : Prop :=
 match y,x with
 | .v (.slice none 0 0),.sl rows=>rows = []
 | y,x=>plain y = plain x
def eqRs (st : St) : List ResultVar→List AV→Prop
 | [],[]=>True
 | r :: rs,x :: xs=>(match resVar st r with | some y=>(if okArg y = true then eqR y x else False) | none=>False)∧eqRs st rs xs
 | _,_=>False
def eqCs : List AV→List AV→Prop
 | [],[]=>True
 | y :: ys,x :: xs=>eqR y x∧eqCs ys xs
 | _,_=>False
def retOK (rs : List ResultVar) (res : Res) (st : St) : Prop :=
 match res with
 | .pure xs=>eqRs (frzArgs st (rs.map opOf)) rs xs
 | .own e sz rows rest=>match rs with
  | .tmp t :: rs'=>(match lk t (frzArgs st (rs'.map opOf)).slots with
    | some (.own k ver)=>(match lk k (frzArgs st (rs'.map opOf)).obs with
     | some (.row e' sz' rows' ver' _)=>ver = ver'∧e' = e∧sz' = sz∧rows' = rows
     | _=>False)
    | some (.v (.slice none 0 0))=>rows = []
    | _=>False)∧eqRs (frzArgs st (rs'.map opOf)) rs' rest
  | _=>False
 | .bx ty cells rest=>match rs with
  | .tmp t :: rs'=>(match lk t (frzArgs st (rs'.map opOf)).slots with
    | some (.ptr k 0)=>(match lk k (frzArgs st (rs'.map opOf)).obs with
     | some (.box ty' cs _)=>ty' = ty∧eqCs cs cells
     | _=>False)
    | _=>False)∧eqRs (frzArgs st (rs'.map opOf)) rs' rest
  | _=>False
variable {P : Program} {E : En}
theorem rep_of_okArg {w : World} {S : Nat→Prop} {β : Nat→Value} {obs : Obs} {y : AV} {v : Value} (hk : okArg y = true) (h : SRep w S β obs y v) : Rep w S y v:=by
 cases y <;> first | exact h | simp [okArg] at hk
theorem rep_plain_iff {w : World} {S : Nat→Prop} {x y : AV} {v : Value} (h : plain x = plain y) (hx : Rep w S x v) (hk : okArg x = true) : Rep w S y v:=by
 have h1:=srep_plain (β:=fun _=>.bool true) (obs:=[]) h (srep_of_rep hx)
 refine rep_of_okArg ?_ h1
 cases x <;> cases y <;> simp_all [plain,okArg]
theorem rep_of_eqR {w : World} {S : Nat→Prop} {x y : AV} {v : Value} (hk : okArg y = true) (h : eqR y x) (hy : Rep w S y v) : Rep w S x v:=by
 unfold eqR at h
 split at h
 ·subst h
  cases hy with
  | c h=>cases h; exact .c (.nil _ _ (fun _=>rfl))
 ·exact rep_plain_iff h hy hk
theorem repc_nlit {w : World} {S : Nat→Prop} {y : AV} {v : Value} (h : RepC w S y v) (rows : List (List AV)) : plain y ≠ plain (.lit rows):=by
 cases h <;> simp [plain]
theorem repc_nftp {w : World} {S : Nat→Prop} {y : AV} {v : Value} (h : RepC w S y v) (vs : List AV) : plain y ≠ plain (.ftp vs):=by
 cases h <;> simp [plain]
theorem plain_ept {y : AV} {cs : List AV} {off : Nat} (h : plain y = plain (.ept cs off)) : y = .ept cs off:=by
 cases y <;> simp_all [plain]
theorem plain_mp {y : AV} {ks : List ByteArray} {vs : List AV} (h : plain y = plain (.mp ks vs)) : y = .mp ks vs:=by
 cases y <;> simp_all [plain]
theorem repc_of_eqR {w : World} {S : Nat→Prop} {x y : AV} {v : Value} (h : eqR y x) (hy : RepC w S y v) : RepC w S x v:=by
 unfold eqR at h
 split at h
 ·subst h
  cases hy
  exact .nil _ _ (fun _=>rfl)
 ·have h1 : Rep w S x v:=rep_plain_iff h (.c hy) (by cases hy <;> rfl)
  cases h1 with
  | c h1=>exact h1
  | agg h1=>cases hy <;> simp [plain] at h
  | ept h1=>exact plain_ept h ▸ hy
  | clo h1 h2=>cases hy <;> simp [plain] at h
  | lit h1=>exact absurd h (repc_nlit hy _)
  | ftp h1 h2=>exact absurd h (repc_nftp hy _)
  | mp hs hh hk hl _ _ h1=>exact plain_mp h ▸ hy
theorem repl_of_eqCs {w : World} {S : Nat→Prop} : ∀ (ys xs : List AV) (vs : List Value),eqCs ys xs→RepL w S ys vs→RepL w S xs vs:=by
 intro ys
 induction ys with
 | nil=>intro xs vs h hr; cases xs <;> simp [eqCs] at h; exact hr
 | cons y ys ih =>
  intro xs vs h hr
  cases xs with
  | nil=>simp [eqCs] at h
  | cons x xs =>
   obtain ⟨v,vs',rfl,h1,h2⟩:=hr.uncons
   exact RepL.cons (repc_of_eqR h.1 h1) (ih _ _ h.2 h2)
def R1 (P : Program) (tmps : Array Value) (w : World) (r : ResultVar) (v : Value) : Prop :=
 match r with
 | .tmp t=>v = tmps.getD t undef
 | .cell p T=>∃ a,tmps.getD p undef = .pointer (some a)∧(loadVar T a).run P w = .ok v w
theorem resVar_ok {W0 : Bas} {S0 : Nat→Prop} {n : Nat} (hΓ : TOKs P) {S : Nat→Prop} {β : Nat→Value} {st : St} {a : Act} {w : World} (h : RelS W0 S0 n S β st a w) {r : ResultVar} {y : AV} (hy : resVar st r = some y) : ∃ v,R1 P a.tmps w r v∧SRep w S β st.obs y v:=by
 cases r with
 | tmp t=>exact ⟨_,rfl,(h.slots t y hy).2⟩
 | cell p T =>
  simp only [resVar] at hy
  split at hy
  ·rename_i ti q hti hq
   split at hy
   ·rename_i cs off hd
    split at hy
    ·rename_i ds hds
     obtain ⟨ad,hv,hcells⟩:=deref_ok h.objs hd (h.slots p q hq).2
     obtain ⟨xs,hl,hrep,hx⟩:=cut_ok (f:=fun i=>ad.add i) hcells off ti.size ds hds
     have ht:=hΓ _ _ hti
     have hxl : xs.length = ti.size:=by rw [← hrep.1,hl]
     split at hy
     ·rename_i hag
      injection hy with hy
      subst hy
      have h1:=run_loadCells_ok (P:=P) (w:=w) (b:=ad.add off) (xs:=xs) (fun j x hj=>by rw [add_add]; exact hx j x hj)
      rw [hxl] at h1
      exact ⟨.agg xs.toArray,⟨_,hv,by simp [loadVar,ht.agg,hag,ht.size,h1]⟩,srep_of_rep (.agg hrep)⟩
     ·rename_i hag
      split at hy
      ·rename_i d
       injection hy with hy
       subst hy
       obtain ⟨y1,ys,rfl,hry,hys⟩:=hrep.uncons
       have:=hys.unnil
       subst this
       have h1 : w.cell? (ad.add off) = some y1:=hx 0 y1 rfl
       exact ⟨y1,⟨_,hv,by simp [loadVar,ht.agg,hag,load,Sem.run,h1]⟩,srep_c hry⟩
      ·simp at hy
    ·simp at hy
   ·simp at hy
  ·simp at hy
theorem eqRs_ok {W0 : Bas} {S0 : Nat→Prop} {n : Nat} (hΓ : TOKs P) {S : Nat→Prop} {β : Nat→Value} {st : St} {a : Act} {w : World} (h : RelS W0 S0 n S β st a w) : ∀ (rs : List ResultVar) (xs : List AV),eqRs st rs xs→∃ ys : List Value,rs.length = ys.length∧(∀ (i : Nat) r v,rs[i]? = some r→ys[i]? = some v→R1 P a.tmps w r v)∧Reps w S xs ys:=by
 intro rs
 induction rs with
 | nil =>
  intro xs hx
  cases xs with
  | nil=>exact ⟨[],rfl,fun i r v h=>by simp at h,Reps.nil _ _⟩
  | cons x xs=>simp [eqRs] at hx
 | cons r rs ih =>
  intro xs hx
  cases xs with
  | nil=>simp [eqRs] at hx
  | cons x xs =>
   simp only [eqRs] at hx
   obtain ⟨h1,h2⟩:=hx
   split at h1
   ·rename_i y hy
    split at h1
    ·rename_i hk
     obtain ⟨v,hv,hs⟩:=resVar_ok hΓ h hy
     obtain ⟨ys,h3,h4,h5⟩:=ih xs h2
     refine ⟨v :: ys,by simp [h3],fun i r' v' hr' hv'=>?_,Reps.cons (rep_of_eqR hk h1 (rep_of_okArg hk hs)) h5⟩
     cases i with
     | zero=>simp at hr' hv'; subst hr' hv'; exact hv
     | succ i=>exact h4 i r' v' (by simpa using hr') (by simpa using hv')
    ·exact h1.elim
   ·exact h1.elim
theorem results_run {fn : Func} {tmps : Array Value} {w : World} {ys : List Value} (hl : fn.results.toList.length = ys.length) (h4 : ys.length ≤ 4) (h : ∀ (i : Nat) r v,fn.results.toList[i]? = some r→ys[i]? = some v→R1 P tmps w r v) : (results fn tmps).run P w = .ok (tupV ys) w:=by
 obtain ⟨rs,hrs⟩ : ∃ rs,fn.results = rs:=⟨_,rfl⟩
 obtain ⟨l⟩:=rs
 rw [hrs] at hl h
 have one : ∀ r v,R1 P tmps w r v→(∃ t,r = .tmp t∧v = tmps[t]?.getD undef) ∨ ∃ p T a,r = .cell p T∧tmps[p]?.getD undef = .pointer (some a)∧(loadVar T a).run P w = .ok v w:=by
  intro r v hr
  cases r with
  | tmp t =>
   have hr' : v = tmps.getD t undef:=hr
   simp only [Array.getD_eq_getD_getElem?] at hr'
   exact .inl ⟨t,rfl,hr'⟩
  | cell p T =>
   obtain ⟨a,h1,h2⟩:=hr
   simp only [Array.getD_eq_getD_getElem?] at h1
   exact .inr ⟨p,T,a,rfl,h1,h2⟩
 match l,ys,hl,h4,h with
 | [],[],_,_,_=>simp [results,hrs,tupV]
 | [r],[y],_,_,h =>
  rcases one r y (h 0 r y rfl rfl) with ⟨t,rfl,rfl⟩ | ⟨p,T,a,rfl,h1,h2⟩
  ·simp [results,hrs,tupV]
  ·simp [results,hrs,tupV,asAddr,h1,h2]
 | [r,r2],[y,y2],_,_,h =>
  rcases one r y (h 0 r y rfl rfl) with ⟨t,rfl,rfl⟩ | ⟨p,T,a,rfl,h1,h2⟩ <;> rcases one r2 y2 (h 1 r2 y2 rfl rfl) with ⟨t2,rfl,rfl⟩ | ⟨p2,T2,a2,rfl,h3,h4⟩ <;> simp [results,hrs,tupV,asAddr, *]
 | [r,r2,r3],[y,y2,y3],_,_,h =>
  rcases one r y (h 0 r y rfl rfl) with ⟨t,rfl,rfl⟩ | ⟨p,T,a,rfl,h1,h2⟩ <;> rcases one r2 y2 (h 1 r2 y2 rfl rfl) with ⟨t2,rfl,rfl⟩ | ⟨p2,T2,a2,rfl,h3,h4⟩ <;> rcases one r3 y3 (h 2 r3 y3 rfl rfl) with ⟨t3,rfl,rfl⟩ | ⟨p3,T3,a3,rfl,h5,h6⟩ <;> simp [results,hrs,tupV,asAddr, *]
 | [r,r2,r3,r4],[y,y2,y3,y4],_,_,h =>
  rcases one r y (h 0 r y rfl rfl) with ⟨t,rfl,rfl⟩ | ⟨p,T,a,rfl,h1,h2⟩ <;> rcases one r2 y2 (h 1 r2 y2 rfl rfl) with ⟨t2,rfl,rfl⟩ | ⟨p2,T2,a2,rfl,h3,h4⟩ <;> rcases one r3 y3 (h 2 r3 y3 rfl rfl) with ⟨t3,rfl,rfl⟩ | ⟨p3,T3,a3,rfl,h5,h6⟩ <;> rcases one r4 y4 (h 3 r4 y4 rfl rfl) with ⟨t4,rfl,rfl⟩ | ⟨p4,T4,a4,rfl,h7,h8⟩ <;> simp [results,hrs,tupV,asAddr, *]
 | _ :: _ :: _ :: _ :: _ :: l,ys,hl,h4,_=>simp at hl; omega
theorem st0_get : ∀ (l : List AV) (i t : Nat) (x : AV),lk t (st0 i l) = some x→i ≤ t∧l[t - i]? = some x:=by
 intro l
 induction l with
 | nil=>intro i t x h; simp [st0,lk] at h
 | cons y l ih =>
  intro i t x h
  simp only [st0,lk] at h
  split at h
  ·rename_i e; injection h with h; subst e h; simp
  ·obtain ⟨h1,h2⟩:=ih (i + 1) t x h
   exact ⟨by omega,by rw [show t - i = (t - (i + 1)) + 1 from by omega]; simpa using h2⟩
theorem acalls_of0 (E : En) (hΓ : TOKs P) (hm : P.follows .mixedOrders = true) {f : Nat} {fn : Func} {c : Code} {args : List AV} {res : Res} (hf : P.funcs[f]? = some fn) (hb : fn.body = some c) (hn : fn.ntmps = E.n) (ha : args.length ≤ E.n) (h4 : fn.results.toList.length ≤ 4)
  (h : awp sy (CSem P) (Snd P E) E c (fun e st=>match e with | .normal=>retOK fn.results.toList res st | .ret=>retOK fn.results.toList res st | .exit _=>False) { slots:=st0 0 args,obs:=[],ctr:=0 }) : ACalls P f args res:=by
 intro w S xs hS hgd hreps
 refine calls_of_wp hf hb (awp_ok (W0:={ W:=w,par:=0,M:=fun _=>False,b0:=fun _=>.bool true }) (S0:=S) hΓ hm c _ _ _ _ _ h ?_ (fun e st' a' w' hk hr=>?_))
 ·refine ⟨S,fun _=>.bool true,GrK.refl hS hgd,rfl,rfl,?_,fun t x ht=>?_,fun k o h=>by simp [lk] at h,fun k o g h=>by simp [lk] at h,fun k k' o o' h=>by simp [lk] at h,fun k o h=>by simp [lk] at h,Nat.le_refl _,fun k o _ h=>by simp [lk] at h⟩
  ·have:=hreps.1
   simp
   omega
  ·obtain ⟨h1,h2⟩:=st0_get args 0 t x ht
   simp only [Nat.sub_zero] at h2
   have hlt : t < args.length:=(List.getElem?_eq_some_iff.1 h2).1
   have hx : t < xs.length:=by rw [← hreps.1]; exact hlt
   refine ⟨by omega,?_⟩
   have hv : (xs.toArray ++ Array.replicate (fn.ntmps - xs.toArray.size) undef).getD t undef = xs[t]:=by
    rw [Array.getD_eq_getD_getElem?,Array.getElem?_append_left (by simpa using hx)]
    simp [hx]
   rw [hv]
   exact srep_of_rep (hreps.2 t x _ h2 (List.getElem?_eq_getElem hx))
 ·have fin : retOK fn.results.toList res st'→bodyPost P fn (fun e w'=>∃ y S',e = .returned y∧Gr w S w' S'∧ResR w w' S S' res y) .ret a' w':=by
   intro hret
   obtain ⟨S',β,hr⟩:=hr
   cases res with
   | pure ys =>
    obtain ⟨S2,hr2⟩:=rel_frzArgs (fn.results.toList.map opOf) hr
    obtain ⟨vs,h1,h2,h3⟩:=eqRs_ok hΓ hr2 _ _ hret
    exact ⟨hr.defers,tupV vs,results_run h1 (by omega) h2,_,S2,rfl,hr2.gr.gr (fun _ h=>h),vs,rfl,h3⟩
   | own e sz rows rest =>
    simp only [retOK] at hret
    split at hret
    ·rename_i rs0 t rs' hrs
     obtain ⟨hown,hrest⟩:=hret
     obtain ⟨S2,hr2⟩:=rel_frzArgs (rs'.map opOf) hr
     obtain ⟨vs,h1,h2,h3⟩:=eqRs_ok hΓ hr2 _ _ hrest
     have hlen : fn.results.toList.length = (a'.tmps.getD t undef :: vs).length:=by rw [hrs]; simp [h1]
     have hrun:=results_run (P:=P) (fn:=fn) (tmps:=a'.tmps) (w:=w') (ys:=a'.tmps.getD t undef :: vs) hlen (by rw [← hlen]; exact h4) (fun i r v hri hvi=>by
      rw [hrs] at hri
      cases i with
      | zero=>simp at hri hvi; subst hri hvi; simp [R1]
      | succ i=>exact h2 i r v (by simpa using hri) (by simpa using hvi))
     refine ⟨hr.defers,_,hrun,_,S2,rfl,hr2.gr.gr (fun _ h=>h),a'.tmps.getD t undef,vs,?_⟩
     split at hown
     ·rename_i k ver hk1
      split at hown
      ·rename_i e' sz' rows' ver' m hl
       obtain ⟨rfl,rfl,rfl,rfl⟩:=hown
       have hy : a'.tmps.getD t undef = β k:=(show ∀ e sz rows m,lk k (frzArgs st' (rs'.map opOf)).obs = some (.row e sz rows ver m)→a'.tmps.getD t undef = β k from (hr2.slots t _ hk1).2) _ _ _ _ hl
       obtain ⟨zs,ho1,ho2,ho3,ho4⟩:=hr2.objs _ _ hl
       refine ⟨zs,rfl,by rw [hy]; exact ownsRow_up ho1 (fun g hg=>by simpa using hr2.up _ _ g hl (blk_of_own hg)),ho2,ho3,by rw [hy]; exact ho4,h3,?_⟩
       rcases ho1.2 with ⟨_,h⟩ | ⟨g,cap,cur,fr,_,_,_,_,h5,h6,_⟩
       ·omega
       ·unfold maxLen at h6; omega
      ·exact hown.elim
     ·rename_i hk1
      subst hown
      have hy : a'.tmps.getD t undef = .slice none 0 0:=srep_v (hr2.slots t _ hk1).2
      rw [hy]
      exact ⟨[],rfl,OwnR.nil _ _ _ _,RepL.nil _ _,fun r h=>by simp at h,fun g hg=>by simp [Value.ownBlock] at hg,h3,by simp⟩
     ·exact hown.elim
    ·exact hret.elim
   | bx ty cells rest =>
    simp only [retOK] at hret
    split at hret
    ·rename_i rs0 t rs' hrs
     obtain ⟨hown,hrest⟩:=hret
     obtain ⟨S2,hr2⟩:=rel_frzArgs (rs'.map opOf) hr
     obtain ⟨vs,h1,h2,h3⟩:=eqRs_ok hΓ hr2 _ _ hrest
     have hlen : fn.results.toList.length = (a'.tmps.getD t undef :: vs).length:=by rw [hrs]; simp [h1]
     have hrun:=results_run (P:=P) (fn:=fn) (tmps:=a'.tmps) (w:=w') (ys:=a'.tmps.getD t undef :: vs) hlen (by rw [← hlen]; exact h4) (fun i r v hri hvi=>by
      rw [hrs] at hri
      cases i with
      | zero=>simp at hri hvi; subst hri hvi; simp [R1]
      | succ i=>exact h2 i r v (by simpa using hri) (by simpa using hvi))
     refine ⟨hr.defers,_,hrun,_,S2,rfl,hr2.gr.gr (fun _ h=>h),?_⟩
     split at hown
     ·rename_i k hk1
      split at hown
      ·rename_i ty' cs fz hl
       obtain ⟨rfl,he⟩:=hown
       obtain ⟨g,g1,g2⟩:=(show ∃ g,β k = .pointer (some ⟨g,0,none⟩)∧a'.tmps.getD t undef = .pointer (some ((⟨g,0,none⟩ : Addr).add 0)) from (hr2.slots t _ hk1).2)
       obtain ⟨g',xs,i1,i2,i3,i4,i5⟩:=hr2.objs _ _ hl
       rw [g1] at i1
       injection i1 with i1
       injection i1 with i1
       injection i1 with i1
       subst i1
       rw [add_mk] at g2
       have hup:=hr2.up k _ g hl (by rw [g1]; rfl)
       exact ⟨g,vs,xs,by rw [g2],by simpa using hup,i3,i4,repl_of_eqCs _ _ _ he i5,h3⟩
      ·exact hown.elim
     ·exact hown.elim
    ·exact hret.elim
  cases e with
  | normal=>exact fin hk
  | ret=>exact fin hk
  | exit i=>exact hk.elim
theorem acalls_of (E : En) (hΓ : TOKs P) (hm : P.follows .mixedOrders = true) {f : Nat} {fn : Func} {c : Code} {args : List AV} {res : Res} (hf : P.funcs[f]? = some fn) (hb : fn.body = some c) (hn : fn.ntmps = E.n) (ha : args.length ≤ E.n) (h4 : fn.results.toList.length ≤ 4)
  (h : ∀ (F : Sy) (C : Key→List AV→Res→Prop) (D : Code→(AE→St→Prop)→St→Prop),F = sy→(∀ k as r,CSem P k as r→C k as r)→(∀ c Q s,awp F C D E c Q s→D c Q s)→awp F C D E c (fun e st=>match e with | .normal=>retOK fn.results.toList res st | .ret=>retOK fn.results.toList res st | .exit _=>False) { slots:=st0 0 args,obs:=[],ctr:=0 }) : ACalls P f args res :=
 acalls_of0 E hΓ hm hf hb hn ha h4 (h sy (CSem P) (Snd P E) rfl (fun _ _ _ h=>h) (fun c Q s h W0 S0 R a w hr hq=>awp_ok hΓ hm c Q R s a w h hr hq))
theorem fsem_of {f : Nat} {args : List AV} {res : Res} (he : ∀ as w,(callFunc f as).run P w = .ok (.enter f as) w) (h : ACalls P f args res) : CSem P (.fn f) args res:=⟨he,h⟩
def obEq (o o' : Ob) : Prop :=
 match o,o' with
 | .row e sz rows _ _,.row e' sz' rows' _ _=>e = e'∧sz = sz'∧rows = rows'
 | .box ty cs _,.box ty' cs' _=>ty = ty'∧eqCs cs cs'
 | _,_=>False
def retW (st : St) : Obs→Prop
 | []=>True
 | (k,o') :: r=>(match lk k st.obs with | some o=>obEq o o' | none=>False)∧(if Nat.blt k st.par = true then retW st r else False)
def noKey (k : Nat) : Obs→Bool
 | []=>true
 | (j,_) :: r=>if j = k then false else noKey k r
def retOKW (rs : List ResultVar) (pars' : Obs) (res : Res) (st : St) : Prop :=
 match res with
 | .pure xs=>retW (frzArgs st (rs.map opOf)) pars'∧eqRs (frzArgs st (rs.map opOf)) rs xs
 | .own e sz rows rest=>match rs with
  | .tmp t :: rs'=>retW (frzArgs st (rs'.map opOf)) pars'∧(match lk t (frzArgs st (rs'.map opOf)).slots with
    | some (.own k ver)=>(match lk k (frzArgs st (rs'.map opOf)).obs with
     | some (.row e' sz' rows' ver' _)=>noKey k pars' = true∧ver = ver'∧e' = e∧sz' = sz∧rows' = rows
     | _=>False)
    | some (.v (.slice none 0 0))=>rows = []
    | _=>False)∧eqRs (frzArgs st (rs'.map opOf)) rs' rest
  | _=>False
 | .bx _ _ _=>False
theorem orep_of_obEq {w : World} {S : Nat→Prop} {B : Nat} {x : Value} {o o' : Ob} (h : obEq o o') (ho : ORep w S B x o) : ORep w S B x o':=by
 cases o <;> cases o' <;> simp only [obEq] at h
 ·obtain ⟨rfl,h⟩:=h
  obtain ⟨g,xs,h1,h2,h3,h4,h5⟩:=ho
  exact ⟨g,xs,h1,h2,h3,h4,repl_of_eqCs _ _ _ h h5⟩
 ·obtain ⟨rfl,rfl,rfl⟩:=h
  exact ho
theorem retW_ok {st : St} : ∀ {pars' : Obs},retW st pars'→∀ k o',lk k pars' = some o'→k < st.par∧∃ o,lk k st.obs = some o∧obEq o o':=by
 intro pars'
 induction pars' with
 | nil=>intro _ k o' h; simp [lk] at h
 | cons p l ih =>
  obtain ⟨j,u⟩:=p
  intro h k o' hk
  simp only [retW] at h
  obtain ⟨h1,h2⟩:=h
  split at h2
  ·rename_i hp
   simp only [lk] at hk
   split at hk
   ·rename_i e
    injection hk with hk
    subst hk e
    split at h1
    ·rename_i o ho; exact ⟨by simpa using hp,o,ho,h1⟩
    ·exact h1.elim
   ·exact ih h2 k o' hk
  ·exact h2.elim
theorem noKey_ok {k : Nat} : ∀ {l : Obs},noKey k l = true→∀ j o,lk j l = some o→j ≠ k:=by
 intro l
 induction l with
 | nil=>intro _ j o h; simp [lk] at h
 | cons p l ih =>
  obtain ⟨i,u⟩:=p
  intro h j o hj
  simp only [noKey] at h
  split at h
  ·simp at h
  ·rename_i hne
   simp only [lk] at hj
   split at hj
   ·rename_i e; subst e; exact hne
   ·exact ih h j o hj
def keysLt (n : Nat) : Obs→Bool
 | []=>true
 | (k,_) :: r=>if Nat.blt k n = true then keysLt n r else false
theorem keysLt_ok {n : Nat} : ∀ {l : Obs},keysLt n l = true→∀ k o,lk k l = some o→k < n:=by
 intro l
 induction l with
 | nil=>intro _ j o h; simp [lk] at h
 | cons p l ih =>
  obtain ⟨i,u⟩:=p
  intro h j o hj
  simp only [keysLt] at h
  split at h
  ·rename_i hlt
   simp only [lk] at hj
   split at hj
   ·rename_i e; subst e; simpa using hlt
   ·exact ih h j o hj
  ·simp at h
theorem frzArgs_par : ∀ (l : List Operand) (st : St),(frzArgs st l).par = st.par:=by
 intro l
 induction l with
 | nil=>intro st; rfl
 | cons x l ih =>
  intro st
  simp only [frzArgs]
  split
  ·rw [ih]
   unfold St.freeze
   split
   ·rfl
   ·split <;> rfl
  ·rw [ih]
   unfold St.freeze
   split
   ·rfl
   ·split <;> rfl
  ·exact ih st
theorem mcalls_of0 (E : En) (hΓ : TOKs P) (hm : P.follows .mixedOrders = true) {f : Nat} {fn : Func} {c : Code} {args : List AV} {pars pars' : Obs} {res : Res} (hf : P.funcs[f]? = some fn) (hb : fn.body = some c) (hn : fn.ntmps = E.n) (ha : args.length ≤ E.n) (h4 : fn.results.toList.length ≤ 4) (hkl : keysLt args.length pars = true)
  (h : awp sy (CSem P) (Snd P E) E c (fun e st=>match e with | .normal=>retOKW fn.results.toList pars' res st | .ret=>retOKW fn.results.toList pars' res st | .exit _=>False) { slots:=st0 0 args,obs:=pars,ctr:=args.length,par:=args.length }) : MCalls P f args pars pars' res:=by
 intro w S β xs hS hgd hobj hsep hreps
 refine calls_of_wp hf hb (awp_ok (W0:={ W:=w,par:=args.length,M:=obsBlk pars β,b0:=β }) (S0:=S) hΓ hm c _ _ _ _ _ h ?_ (fun e st' a' w' hk hr=>?_))
 ·refine ⟨S,β,GrK.refl hS hgd,rfl,rfl,?_,fun t x ht=>?_,hobj,fun k o g hk hg=>?_,hsep,fun k o hk=>keysLt_ok hkl k o hk,Nat.le_refl _,fun k o _ _=>rfl⟩
  ·have:=hreps.1
   simp
   omega
  ·obtain ⟨h1,h2⟩:=st0_get args 0 t x ht
   simp only [Nat.sub_zero] at h2
   have hlt : t < args.length:=(List.getElem?_eq_some_iff.1 h2).1
   have hx : t < xs.length:=by rw [← hreps.1]; exact hlt
   refine ⟨by omega,?_⟩
   have hv : (xs.toArray ++ Array.replicate (fn.ntmps - xs.toArray.size) undef).getD t undef = xs[t]:=by
    rw [Array.getD_eq_getD_getElem?,Array.getElem?_append_left (by simpa using hx)]
    simp [hx]
   rw [hv]
   have h3:=hreps.2 t x _ h2 (List.getElem?_eq_getElem hx)
   cases x <;> first | exact h3 | skip
   have h3 : Rep w S _ _:=h3
   cases h3 with
   | c h3=>cases h3
  ·rw [if_pos (keysLt_ok hkl k o hk)]
   exact ⟨k,o,hk,hg⟩
 ·have fin : retOKW fn.results.toList pars' res st'→bodyPost P fn (fun e w'=>∃ y S',e = .returned y∧GrK (obsBlk pars β) w S w' S'∧(∀ k o,lk k pars' = some o→ORep w' S' 0 (β k) o)∧ResM (obsBlk pars β) pars' β w w' S S' res y) .ret a' w':=by
   intro hret
   obtain ⟨S',β',hr⟩:=hr
   have hpar : st'.par = args.length:=hr.par
   cases res with
   | pure ys =>
    obtain ⟨hw,hret⟩:=hret
    obtain ⟨S2,hr2⟩:=rel_frzArgs (fn.results.toList.map opOf) hr
    obtain ⟨vs,h1,h2,h3⟩:=eqRs_ok hΓ hr2 _ _ hret
    refine ⟨hr.defers,tupV vs,results_run h1 (by omega) h2,_,S2,rfl,hr2.gr,fun k o' hk=>?_,vs,rfl,h3⟩
    obtain ⟨hlt,o,ho,he⟩:=retW_ok hw k o' hk
    have hb:=hr2.fix k o (by rw [frzArgs_par,hpar] at hlt; exact hlt) ho
    have:=hr2.objs k o ho
    rw [hb] at this
    exact orep_of_obEq he this
   | own e sz rows rest =>
    simp only [retOKW] at hret
    split at hret
    ·rename_i rs0 t rs' hrs
     obtain ⟨hw,hown,hrest⟩:=hret
     obtain ⟨S2,hr2⟩:=rel_frzArgs (rs'.map opOf) hr
     obtain ⟨vs,h1,h2,h3⟩:=eqRs_ok hΓ hr2 _ _ hrest
     have hlen : fn.results.toList.length = (a'.tmps.getD t undef :: vs).length:=by rw [hrs]; simp [h1]
     have hrun:=results_run (P:=P) (fn:=fn) (tmps:=a'.tmps) (w:=w') (ys:=a'.tmps.getD t undef :: vs) hlen (by rw [← hlen]; exact h4) (fun i r v hri hvi=>by
      rw [hrs] at hri
      cases i with
      | zero=>simp at hri hvi; subst hri hvi; simp [R1]
      | succ i=>exact h2 i r v (by simpa using hri) (by simpa using hvi))
     have hold : ∀ k o',lk k pars' = some o'→ORep w' S2 0 (β k) o'∧β' k = β k∧∃ o,lk k (frzArgs st' (rs'.map opOf)).obs = some o:=by
      intro k o' hk
      obtain ⟨hlt,o,ho,he⟩:=retW_ok hw k o' hk
      have hb:=hr2.fix k o (by rw [frzArgs_par,hpar] at hlt; exact hlt) ho
      have:=hr2.objs k o ho
      rw [hb] at this
      exact ⟨orep_of_obEq he this,hb,o,ho⟩
     refine ⟨hr.defers,_,hrun,_,S2,rfl,hr2.gr,fun k o' hk=>(hold k o' hk).1,a'.tmps.getD t undef,vs,?_⟩
     split at hown
     ·rename_i k ver hk1
      split at hown
      ·rename_i e' sz' rows' ver' m hl
       obtain ⟨hnk,rfl,rfl,rfl,rfl⟩:=hown
       have hy : a'.tmps.getD t undef = β' k:=(show ∀ e sz rows m,lk k (frzArgs st' (rs'.map opOf)).obs = some (.row e sz rows ver m)→a'.tmps.getD t undef = β' k from (hr2.slots t _ hk1).2) _ _ _ _ hl
       obtain ⟨zs,ho1,ho2,ho3,ho4⟩:=hr2.objs _ _ hl
       refine ⟨zs,rfl,by rw [hy]; exact ho1,ho2,ho3,fun g hg=>?_,h3⟩
       rw [hy] at hg
       have hgb:=blk_of_own hg
       refine ⟨ho4 g hg,?_,?_⟩
       ·have:=hr2.up k _ g hl hgb
        split at this
        ·exact .inl this
        ·exact this.symm
       ·rintro ⟨k2,o2,h5,h6⟩
        obtain ⟨_,h7,o3,h8⟩:=hold k2 o2 h5
        exact hr2.sep k2 k o3 _ h8 hl (noKey_ok hnk k2 o2 h5) g (by rw [h7]; exact h6) hgb
      ·exact hown.elim
     ·rename_i hk1
      subst hown
      have hy : a'.tmps.getD t undef = .slice none 0 0:=srep_v (hr2.slots t _ hk1).2
      rw [hy]
      exact ⟨[],rfl,OwnR.nil _ _ _ _,RepL.nil _ _,fun r h=>by simp at h,fun g hg=>by simp [Value.ownBlock] at hg,h3⟩
     ·exact hown.elim
    ·exact hret.elim
   | bx ty cells rest=>exact hret.elim
  cases e with
  | normal=>exact fin hk
  | ret=>exact fin hk
  | exit i=>exact hk.elim
theorem mcalls_of (E : En) (hΓ : TOKs P) (hm : P.follows .mixedOrders = true) {f : Nat} {fn : Func} {c : Code} {args : List AV} {pars pars' : Obs} {res : Res} (hf : P.funcs[f]? = some fn) (hb : fn.body = some c) (hn : fn.ntmps = E.n) (ha : args.length ≤ E.n) (h4 : fn.results.toList.length ≤ 4) (hkl : keysLt args.length pars = true)
  (h : ∀ (F : Sy) (C : Key→List AV→Res→Prop) (D : Code→(AE→St→Prop)→St→Prop),F = sy→(∀ k as r,CSem P k as r→C k as r)→(∀ c Q s,awp F C D E c Q s→D c Q s)→awp F C D E c (fun e st=>match e with | .normal=>retOKW fn.results.toList pars' res st | .ret=>retOKW fn.results.toList pars' res st | .exit _=>False) { slots:=st0 0 args,obs:=pars,ctr:=args.length,par:=args.length }) : MCalls P f args pars pars' res :=
 mcalls_of0 E hΓ hm hf hb hn ha h4 hkl (h sy (CSem P) (Snd P E) rfl (fun _ _ _ h=>h) (fun c Q s h W0 S0 R a w hr hq=>awp_ok hΓ hm c Q R s a w h hr hq))
end Go.Proofs.Ytdnaadcbimbfmaa.Am
namespace Go.Proofs.Ytdnaadcbimbfmaa.Am
open Go Go.RowKit
variable {P : Program}
theorem gam_step {u t : Nat} {ti ui : TI} {o : Option TI} (h : TOK P t ti) (k : o = some ui→TOK P u ui) (hu : (if u = t then some ti else o) = some ui) : TOK P u ui:=by
 split at hu
 ·rename_i e; injection hu with hu; subst e hu; exact h
 ·exact k hu
def OffOK (P : Program) (t : Nat) : Nat→List (Nat × Nat)→Prop
 | _,[]=>True
 | i,(d,_) :: r=>(∀ a w,(Instr.fieldAt t (.pointer (some a)) i).run P w = .ok (.pointer (some (a.add d))) w)∧OffOK P t (i + 1) r
theorem OffOK.get {t : Nat} : ∀ {l : List (Nat × Nat)} {i : Nat},OffOK P t i l→∀ f d s,l[f]? = some (d,s)→∀ a w,(Instr.fieldAt t (.pointer (some a)) (i + f)).run P w = .ok (.pointer (some (a.add d))) w:=by
 intro l
 induction l with
 | nil=>intro i _ f d s h; simp at h
 | cons p l ih =>
  obtain ⟨d0,s0⟩:=p
  intro i h f d s hf
  cases f with
  | zero=>simp at hf; obtain ⟨rfl,rfl⟩:=hf; exact h.1
  | succ f =>
   have:=ih h.2 f d s (by simpa using hf)
   rwa [show i + 1 + f = i + (f + 1) from by omega] at this
def zVal : AV→Value
 | .v x=>x
 | .b c=>.bool c
 | _=>.nilIface
def zOne : AV→Bool
 | .v x=>x.oneCell'
 | .b _=>true
 | _=>false
theorem zRep {w : World} {S : Nat→Prop} : ∀ (cs : List AV),cs.all zOne = true→RepL w S cs (cs.map zVal):=by
 intro cs
 induction cs with
 | nil=>intro _; exact RepL.nil _ _
 | cons c cs ih =>
  intro h
  simp only [List.all_cons,Bool.and_eq_true] at h
  refine RepL.cons ?_ (ih h.2)
  cases c <;> simp [zOne] at h
  ·exact .v _ h.1
  ·exact .b _
theorem tok_flat {t : Nat} {ti : TI} (z : Value) (hu : (P.underlying t).isSome = true) (hs : ∀ w,(Go.sizeOf t).run P w = .ok ti.size w) (ha : ∀ w,(isAgg t).run P w = .ok ti.agg w) (ho : OffOK P t 0 ti.offs) (h1 : ti.agg = true ∨ (ti.size,z.cells) = (1,#[z]))
  (hz : ∀ w,(zeroValue t).run P w = .ok z w) (hzc : z.cells.toList = ti.zero.map zVal) (hzo : ti.zero.all zOne = true) (hzl : ti.zero.length = ti.size) (hk : match ti.kind with
  | .other=>True
  | .struct=>∃ fields,P.underlying t = some (.struct fields)∧∀ w,(fields.mapM fun (f : Field)=>do pure (f.offset,← Go.sizeOf f.type) : Sem (Array (Nat × Nat))).run P w = .ok ti.offs.toArray w
  | .arr n esz=>∃ e,P.underlying t = some (.array n e)∧∀ w,(Go.sizeOf e).run P w = .ok esz w
  | .sli e esz bytes=>P.underlying t = some (.slice e)∧(0 < esz∧0 < bytes)∧∃ i z,P.info? e = some i∧i.zero = some z∧i.size = esz∧i.bytes = bytes∧z.cells.size = esz
  | .mp k e=>P.underlying t = some (.map k e)∧P.underlying k = some .string
  | .int k=>P.underlying t = some (.int k)
  | .str=>P.underlying t = some .string) : TOK P t ti where
 size:=hs
 agg:=ha
 one:=fun h=>by
  rcases h1 with h1 | h1
  ·rw [h] at h1; cases h1
  ·exact (Prod.mk.inj h1).1
 zone:=fun h w z' hz'=>by
  have e : z' = z:=by
   have:=(hz w).symm.trans hz'
   injection this with this
   exact this.symm
  subst e
  rcases h1 with h1 | h1
  ·rw [h] at h1; cases h1
  ·exact (Prod.mk.inj h1).2
 und:=Option.isSome_iff_exists.1 hu
 offs:=fun f d s h a w=>by have:=ho.get f d s h a w; simpa using this
 zero:=fun w=>⟨z,hz w,by rw [← Array.length_toList,hzc,List.length_map,hzl],fun w' S=>by rw [hzc]; exact zRep _ hzo⟩
 kind:=hk
theorem struct_fact {t : Nat} {offs : List (Nat × Nat)} (h : ∀ w, (match P.underlying t with | some (.struct fields) => (fields.mapM fun (f : Field) => do pure (f.offset, ← Go.sizeOf f.type) : Sem (Array (Nat × Nat))).run P w | _ => .halt (.stuck "") w) = .ok offs.toArray w) :
  ∃ fields,P.underlying t = some (.struct fields)∧∀ w,(fields.mapM fun (f : Field)=>do pure (f.offset,← Go.sizeOf f.type) : Sem (Array (Nat × Nat))).run P w = .ok offs.toArray w:=by
 cases hu : P.underlying t with
 | none=>have:=h default; rw [hu] at this; simp at this
 | some d =>
  cases d <;> first | (have:=h default; rw [hu] at this; simp at this; done) | skip
  rename_i fields
  refine ⟨fields,rfl,fun w=>?_⟩
  have:=h w
  rw [hu] at this
  exact this
theorem sli_fact {t e esz bytes : Nat} {z : Value} (hu : P.underlying t = some (.slice e)) (h0 : 0 < esz) (h1 : 0 < bytes) (hi : (P.info? e).map (fun i=>(i.zero,i.size,i.bytes)) = some (some z,esz,bytes)) (hz : z.cells.size = esz) :
  P.underlying t = some (.slice e)∧(0 < esz∧0 < bytes)∧∃ i z,P.info? e = some i∧i.zero = some z∧i.size = esz∧i.bytes = bytes∧z.cells.size = esz:=by
 refine ⟨hu,⟨h0,h1⟩,?_⟩
 cases hx : P.info? e with
 | none=>rw [hx] at hi; simp at hi
 | some i =>
  rw [hx] at hi
  simp at hi
  exact ⟨i,z,rfl,hi.1,hi.2.1,hi.2.2,hz⟩
theorem of_text (hΓ : TOKs P) (hm : P.follows .mixedOrders = true) (E : En) {f : Nat} {fn : Func} {c : Code} {args : List AV} {res : Res} (hf : P.funcs[f]? = some fn) (hname : (fn.name == "runtime.NumGoroutine") = false) (hb : fn.body = some c) (hn : fn.ntmps = E.n) (ha : args.length ≤ E.n) (h4 : fn.results.toList.length ≤ 4)
  (h : ∀ (F : Sy) (C : Key→List AV→Res→Prop) (D : Code→(AE→St→Prop)→St→Prop),F = sy→(∀ k as r,CSem P k as r→C k as r)→(∀ c Q s,awp F C D E c Q s→D c Q s)→awp F C D E c (fun e st=>match e with | .normal=>retOK fn.results.toList res st | .ret=>retOK fn.results.toList res st | .exit _=>False) { slots:=st0 0 args,obs:=[],ctr:=0 }) : CSem P (.fn f) args res:=by
 refine fsem_of (fun as w=>?_) (acalls_of E hΓ hm hf hb hn ha h4 h)
 have h1 : fn.name ≠ "runtime.NumGoroutine" := by simpa using hname
 simp [callFunc,hf,h1,hb]
theorem of_textW (hΓ : TOKs P) (hm : P.follows .mixedOrders = true) (E : En) {f : Nat} {fn : Func} {c : Code} {args : List AV} {pars pars' : Obs} {res : Res} (hf : P.funcs[f]? = some fn) (hname : (fn.name == "runtime.NumGoroutine") = false) (hb : fn.body = some c) (hn : fn.ntmps = E.n) (ha : args.length ≤ E.n) (h4 : fn.results.toList.length ≤ 4) (hkl : keysLt args.length pars = true)
  (h : ∀ (F : Sy) (C : Key→List AV→Res→Prop) (D : Code→(AE→St→Prop)→St→Prop),F = sy→(∀ k as r,CSem P k as r→C k as r)→(∀ c Q s,awp F C D E c Q s→D c Q s)→awp F C D E c (fun e st=>match e with | .normal=>retOKW fn.results.toList pars' res st | .ret=>retOKW fn.results.toList pars' res st | .exit _=>False) { slots:=st0 0 args,obs:=pars,ctr:=args.length,par:=args.length }) : CSem P (.wr f pars pars') args res:=by
 refine ⟨fun as w=>?_,mcalls_of E hΓ hm hf hb hn ha h4 hkl h⟩
 have h1 : fn.name ≠ "runtime.NumGoroutine" := by simpa using hname
 simp [callFunc,hf,h1,hb]
end Go.Proofs.Ytdnaadcbimbfmaa.Am
namespace Go.Proofs.Ytdnaadcbimbfmaa.Am
open Go Go.RowKit
theorem le_nil (t e sz : Nat) {s : St} (ht : lk t s.slots = some (.v (.slice none 0 0))) (hf : frS s.ctr s.slots = true) :
  Le s { slots:=(t,.own s.ctr 0) :: s.slots,obs:=(s.ctr,.row e sz [] 0 0) :: s.obs,ctr:=s.ctr + 1,par:=s.par }:=by
 rintro W0 S0 n a w ⟨S,β,hr⟩
 have hold : ∀ k o,k ≠ s.ctr→lk k ((s.ctr,Ob.row e sz [] 0 0) :: s.obs) = some o→lk k s.obs = some o:=fun k o hk h=>by
  simp only [lk] at h
  rwa [if_neg (fun e=>hk e.symm)] at h
 have hnew : ∀ o,lk s.ctr ((s.ctr,Ob.row e sz [] 0 0) :: s.obs) = some o→o = .row e sz [] 0 0:=fun o h=>by simp [lk] at h; exact h.symm
 refine ⟨S,fun j=>if j = s.ctr then .slice none 0 0 else β j,hr.gr,hr.par,hr.defers,hr.size,fun t' x hx=>?_,fun k o hk=>?_,fun k o g hk hg=>?_,fun k k' o o' hk hk' hne g hg hg'=>?_,fun k o hk=>?_,Nat.le_trans hr.parc (Nat.le_succ _),fun k o hp hk=>?_⟩
 ·simp only [lk] at hx
  split at hx
  ·rename_i e1
   injection hx with hx
   subst e1 hx
   obtain ⟨h1,h2⟩:=hr.slots t _ ht
   refine ⟨h1,?_⟩
   have:=srep_v h2
   intro e' sz' rows' m' h
   simp only [if_true]
   exact this
  ·obtain ⟨h1,h2⟩:=hr.slots t' x hx
   exact ⟨h1,srep_obs (c:=s.ctr) (fun j hj=>if_neg (by omega)) (fun j o hj h=>hold j o (by omega) h) (frS_get hf t' x hx) h2⟩
 ·by_cases e1 : k = s.ctr
  ·subst e1
   rw [hnew o hk]
   simp only [if_true]
   exact ⟨[],OwnR.nil _ _ _ _,RepL.nil _ _,fun r h=>by simp at h,fun g h=>by simp [Value.ownBlock] at h⟩
  ·rw [if_neg e1]; exact hr.objs k o (hold k o e1 hk)
 ·by_cases e1 : k = s.ctr
  ·subst e1; simp [blkOf,Value.ownBlock] at hg
  ·rw [if_neg e1] at hg; exact hr.up k o g (hold k o e1 hk) hg
 ·by_cases e1 : k = s.ctr
  ·subst e1; simp [blkOf,Value.ownBlock] at hg
  ·by_cases e2 : k' = s.ctr
   ·subst e2; simp [blkOf,Value.ownBlock] at hg'
   ·rw [if_neg e1] at hg
    rw [if_neg e2] at hg'
    exact hr.sep k k' o o' (hold k o e1 hk) (hold k' o' e2 hk') hne g hg hg'
 ·by_cases e1 : k = s.ctr
  ·subst e1; exact Nat.lt_succ_self _
  ·exact Nat.lt_succ_of_lt (hr.ctr k o (hold k o e1 hk))
 ·have hpc : k < s.ctr:=Nat.lt_of_lt_of_le hp hr.parc
  rw [if_neg (by omega)]
  exact hr.fix k o hp (hold k o (by omega) hk)
end Go.Proofs.Ytdnaadcbimbfmaa.Am
