import Derived.Test.YtdnaadcbimbfmaaG6
import Derived.Test.YtdnaadcbimbfmaaG9
set_option linter.unusedSimpArgs false
set_option linter.unusedVariables false
namespace Go.Proofs.Ytdnaadcbimbfmaa
open Go Go.RowKit Am
def OutI (A M B : List (List AV)) (i : Nat) (r : List (List AV)) : Prop :=
 ∃ k,1 ≤ k∧i = A.length + k∧r = A ++ (isort ltR (M.take k) ++ (M.drop k ++ B))∧(k ≤ M.length ∨ k = 1)
theorem OutI.start (A M B : List (List AV)) : OutI A M B (A.length + 1) (A ++ (M ++ B)):=by
 refine ⟨1,Nat.le_refl _,rfl,?_,.inr rfl⟩
 cases M with
 | nil=>rfl
 | cons x M=>rfl
theorem OutI.stop {A M B r : List (List AV)} {i : Nat} (h : OutI A M B i r) (hi : A.length + M.length ≤ i) : r = A ++ (isort ltR M ++ B):=by
 obtain ⟨k,h1,rfl,rfl,h2⟩:=h
 have h3 : M.length ≤ k:=by omega
 rw [List.take_of_length_le h3,List.drop_of_length_le h3]
 simp
theorem OutI.inner {A M B r : List (List AV)} {i : Nat} (h : OutI A M B i r) (hi : i < A.length + M.length) :
  ∃ L rest x,InsI A L rest x i r∧Srt ltR L∧A.length + L.length + 1 + rest.length = A.length + M.length + B.length∧OutI A M B (i + 1) (A ++ (ins ltR x L ++ rest))∧(∀ q,q ∈ A ++ (L ++ (x :: rest))→q ∈ A ++ (M ++ B)):=by
 obtain ⟨k,h1,rfl,rfl,h2⟩:=h
 have hk : k < M.length:=by omega
 have hd : M.drop k = M[k] :: M.drop (k + 1):=List.drop_eq_getElem_cons hk
 have ht : M.take (k + 1) = M.take k ++ [M[k]]:=by rw [List.take_succ_eq_append_getElem hk]
 obtain ⟨s1,s2,s3⟩:=isort_ok swo_ltR (M.take k)
 have hl : (isort ltR (M.take k)).length = k:=by rw [s3]; simp; omega
 refine ⟨isort ltR (M.take k),M.drop (k + 1) ++ B,M[k],?_,s1,by simp [hl]; omega,⟨k + 1,by omega,by omega,?_,.inl (by omega)⟩,fun q hq=>?_⟩
 ·have:=InsI.start A (isort ltR (M.take k)) (M.drop (k + 1) ++ B) M[k]
  rw [hl] at this
  rw [hd]
  exact this
 ·rw [ht,isort_snoc]
 ·simp only [List.mem_append,List.mem_cons] at hq ⊢
  rcases hq with h | h | h | h | h
  ·exact .inl h
  ·exact .inr (.inl (List.mem_of_mem_take (isort_mem swo_ltR h)))
  ·subst h; exact .inr (.inl (List.getElem_mem hk))
  ·exact .inr (.inl (List.mem_of_mem_drop h))
  ·exact .inr (.inr h)
theorem insertionSort_ok (rows : List (List AV)) (a b : Nat) (a' b' : Int) (ea : a' = (a : Int)) (eb : b' = (b : Int)) (A M B : List (List AV)) (hrows : rows = A ++ (M ++ B)) (hA : A.length = a) (hM : a + M.length = b) (hlen : rows.length ≤ 1000000000) (hr : ∀ r ∈ rows,isEv r) (rows' : List (List AV)) (hrows' : rows' = A ++ (isort ltR M ++ B)) :
  CSem Try.prog (.wr 112 [(0,.row 37 26 rows 0 0)] [(0,.row 37 26 rows' 0 0)]) [.own 0 0,aI a',aI b',.clo 105 []] (.pure []):=by
 have hlr : rows.length = a + M.length + B.length:=by rw [hrows]; simp; omega
 refine of_textW gam_ok mixed { n:=53 } Try.func112 (by kernel_rfl) rfl rfl (by simp) (by decide) rfl fun F C D hF hC hD=>?_
 have e1 : F .ar .add .i64 a' 1 = ((a + 1 : Nat) : Int):=by rw [hF]; exact (wrap_in (by omega) (by omega)).trans (by omega)
 obtain ⟨i0,hi0⟩ : ∃ i0,F .ar .add .i64 a' 1 = i0:=⟨_,rfl⟩
 rw [hi0] at e1
 cbv
 rw [hi0]
 refine ⟨Nat × Int × List (List AV),fun x=>{ slots:=[(8,aI x.2.1),(0,.own 0 0),(1,aI a'),(2,aI b'),(3,.clo 105 [])],obs:=[(0,.row 37 26 x.2.2 0 0)],ctr:=4,par:=4 },fun x=>x.2.1 = (x.1 : Int)∧OutI A M B x.1 x.2.2,fun x=>b + 1 - x.1,⟨(a + 1,i0,rows),⟨e1,by rw [hrows,← hA]; exact OutI.start A M B⟩,le_of [] (by simp [leSl,leOb,injK,memK,parK,noTup,lk,rn0,rnA,plain,aI])⟩,fun x hx=>?_⟩
 obtain ⟨i,i',r⟩:=x
 obtain ⟨ei,hri⟩:=hx
 simp only at ei hri
 have eb : b' = (b : Int):=eb
 have ea : a' = (a : Int):=ea
 have hlt : F .cmp .lss i' b' = true→i < b:=fun g=>by rw [hF] at g; simp [sy] at g; omega
 have hge : F .cmp .lss i' b' = false→b ≤ i:=fun g=>by rw [hF] at g; simp [sy] at g; omega
 have ep : i < b→F .ar .add .i64 i' 1 = ((i + 1 : Nat) : Int):=fun h=>by rw [hF]; exact (wrap_in (by omega) (by omega)).trans (by omega)
 cbv
 refine ⟨fun h=>?_,fun h=>?_⟩ <;> cbv
 ·have hib:=hlt h
  obtain ⟨L,rest,x,hin,hsL,hlL,hout,hmem⟩:=hri.inner (by omega)
  refine ⟨Nat × Int × List (List AV),fun y=>{ slots:=[(9,aI y.2.1),(8,aI i'),(0,.own 0 0),(1,aI a'),(2,aI b'),(3,.clo 105 [])],obs:=[(0,.row 37 26 y.2.2 0 0)],ctr:=4,par:=4 },fun y=>y.2.1 = (y.1 : Int)∧InsI A L rest x y.1 y.2.2,fun y=>y.1,⟨(i,i',r),⟨ei,hin⟩,le_of [] (by simp [leSl,leOb,injK,memK,parK,noTup,lk,rn0,rnA,plain,aI])⟩,fun y hy=>?_⟩
  obtain ⟨j,j',q⟩:=y
  obtain ⟨ej,hq⟩:=hy
  simp only at ej hq
  have ea : a' = (a : Int):=ea
  have hev : ∀ z,z ∈ q→isEv z:=fun z hz=>hr z (by rw [hrows]; exact hmem z (hq.mem hz))
  have hql : q.length = A.length + L.length + 1 + rest.length:=hq.len
  have hjt : F .cmp .gtr j' a' = true→a < j:=fun g=>by rw [hF] at g; simp [sy] at g; omega
  have hjf : F .cmp .gtr j' a' = false→j ≤ a:=fun g=>by rw [hF] at g; simp [sy] at g; omega
  have hjl : j < q.length:=by
   have:=hq.at
   exact (List.getElem?_eq_some_iff.1 this).1
  have em : a < j→F .ar .sub .i64 j' 1 = ((j - 1 : Nat) : Int):=fun h=>by rw [hF]; exact (wrap_in (by omega) (by omega)).trans (by omega)
  have cn : ∀ n : Int,F .cmp .lss n 0 = true→n < 0:=fun n g=>by rw [hF] at g; simpa [sy] using g
  have cp : ∀ n : Int,F .cmp .lss n 0 = false→¬ n < 0:=fun n g=>by rw [hF] at g; simp [sy] at g; omega
  cbv
  refine ⟨hC _ _ _ (ben_ok (by kernel_rfl)),?_⟩
  cbv
  have next : ∀ i2 : Int,F .ar .add .i64 i' 1 = i2→i2 = ((i + 1 : Nat) : Int):=fun i2 h=>h.symm.trans (ep hib)
  refine ⟨fun g=>?_,fun g=>?_⟩ <;> cbv
  ·have hja:=hjt g
   obtain ⟨y,hy,hstep,hstop⟩:=hq.step (by omega)
   obtain ⟨k,hk⟩ : ∃ k,k = j - 1:=⟨_,rfl⟩
   have hyk : q[k]? = some y:=by rw [hk]; exact hy
   have emk : F .ar .sub .i64 j' 1 = (k : Int):=(em hja).trans (by rw [hk])
   have hxe : isEv x:=hev x (List.mem_of_getElem? hq.at)
   have hye : isEv y:=hev y (List.mem_of_getElem? hy)
   refine ⟨j,x,ej,hq.at,?_⟩
   cbv
   refine ⟨k,y,emk,hyk,?_⟩
   cbv
   refine ⟨_,hC _ _ _ (orderR_ok x y hxe hye _ rfl),?_⟩
   have hneg:=orderR_neg x y
   generalize orderR x y = n at hneg
   cbv
   refine ⟨fun f=>?_,fun f=>?_⟩ <;> cbv
   ·have hxy : ltR x y = true:=hneg.1 (cn n f)
    refine ⟨hC _ _ _ (ben_ok (by kernel_rfl)),?_⟩
    cbv
    have hyl : y.length = 26:=hye.len
    have hxl : x.length = 26:=hxe.len
    refine ⟨k,y,emk,hyk,?_⟩
    cbv
    refine ⟨j,x,ej,hq.at,?_⟩
    cbv
    refine ⟨j,x,ej,hq.at,?_⟩
    cbv
    refine ⟨.mk hyl,?_⟩
    cbv
    obtain ⟨q2,hq2⟩ : ∃ q2,F .set q j y = q2:=⟨_,rfl⟩
    rw [hq2]
    have eq2 : q2 = q.set j y:=by rw [← hq2,hF]; rfl
    obtain ⟨c2,hc2⟩ : ∃ c2,q2[k]? = some c2:=⟨_,List.getElem?_eq_getElem (by rw [eq2]; simp; omega)⟩
    refine ⟨k,c2,emk,hc2,?_⟩
    cbv
    refine ⟨.mk hxl,?_⟩
    cbv
    obtain ⟨q3,hq3⟩ : ∃ q3,F .set q2 k x = q3:=⟨_,rfl⟩
    rw [hq3]
    have eq3 : q3 = (q.set j y).set (j - 1) x:=by rw [← hq3,hF,eq2,hk]; rfl
    obtain ⟨j2,hj2⟩ : ∃ j2,F .ar .sub .i64 j' 1 = j2:=⟨_,rfl⟩
    rw [hj2]
    exact ⟨(k,j2,q3),⟨hj2.symm.trans emk,by rw [eq3,hk]; exact hstep hxy⟩,(by simp; omega),Le.trans le_fresh (le_of [] (by simp [St.fresh,freshObs,Ob.fresh,mapS,killR,relT,leSl,leOb,injK,memK,parK,noTup,lk,rn0,rnA,plain]))⟩
   ·have hxy : ltR x y = false:=by
     rw [Bool.eq_false_iff]
     exact fun h=>cp n f (hneg.2 h)
    have hr2:=hstop hxy hsL
    obtain ⟨i2,hi2⟩ : ∃ i2,F .ar .add .i64 i' 1 = i2:=⟨_,rfl⟩
    rw [hi2]
    exact ⟨(i + 1,i2,q),⟨next i2 hi2,by rw [hr2]; exact hout⟩,(by simp; omega),Le.trans le_fresh (le_of [] (by simp [St.fresh,freshObs,Ob.fresh,mapS,killR,relT,leSl,leOb,injK,memK,parK,noTup,lk,rn0,rnA,plain]))⟩
  ·have hr2:=hq.stop (by have:=hjf g; omega)
   obtain ⟨i2,hi2⟩ : ∃ i2,F .ar .add .i64 i' 1 = i2:=⟨_,rfl⟩
   rw [hi2]
   exact ⟨(i + 1,i2,q),⟨next i2 hi2,by rw [hr2]; exact hout⟩,(by simp; omega),Le.trans le_fresh (le_of [] (by simp [St.fresh,freshObs,Ob.fresh,mapS,killR,relT,leSl,leOb,injK,memK,parK,noTup,lk,rn0,rnA,plain]))⟩
 ·have hr2:=hri.stop (by have:=hge h; omega)
  exact ⟨⟨hr2.trans hrows'.symm,trivial⟩,trivial⟩
end Go.Proofs.Ytdnaadcbimbfmaa
namespace Go.Proofs.Ytdnaadcbimbfmaa
open Go Go.RowKit Am
theorem half_eq5 (i j : Nat) (hi : i ≤ 1000000000) (hj : j ≤ 1000000000) : sy .wrp .i64 (sy .ar .shr .u64 (sy .wrp .u64 ((i + j : Nat) : Int)) 1) = (((i + j) / 2 : Nat) : Int):=by
 have e1 : IntKind.u64.wrap ((i + j : Nat) : Int) = ((i + j : Nat) : Int):=by
  simp [IntKind.wrap,IntKind.signed,IntKind.bits]
  omega
 have e2 : Int.fdiv ((i + j : Nat) : Int) (2 ^ (min (1 : Int).toNat 64)) = (((i + j) / 2 : Nat) : Int):=by
  simp
  rw [Int.fdiv_eq_ediv_of_nonneg _ (by omega)]
 simp only [sy]
 rw [e1]
 show IntKind.i64.wrap (Int.fdiv _ (2 ^ (min (1 : Int).toNat 64))) = _
 rw [e2]
 exact wrap_in (by omega) (by omega)
def FwdI (A R rest : List (List AV)) (x : List AV) (k : Nat) (r : List (List AV)) : Prop :=
 ∃ P Q,R = P ++ Q∧r = A ++ (P ++ (x :: (Q ++ rest)))∧A.length + P.length = k
theorem FwdI.step {A R rest r : List (List AV)} {x : List AV} {k : Nat} (h : FwdI A R rest x k r) (hk : k < A.length + R.length) :
  r[k]? = some x∧∃ y,r[k + 1]? = some y∧FwdI A R rest x (k + 1) ((r.set k y).set (k + 1) x):=by
 obtain ⟨P,Q,rfl,rfl,h1⟩:=h
 cases Q with
 | nil=>simp at hk; omega
 | cons y Q =>
  have e : A ++ (P ++ (x :: ((y :: Q) ++ rest))) = (A ++ P) ++ (x :: y :: (Q ++ rest)):=by simp
  have hl : (A ++ P).length = k:=by simpa using h1
  refine ⟨?_,y,?_,P ++ [y],Q,by simp,?_,by simp; omega⟩
  ·rw [e,List.getElem?_append_right (by omega),hl,Nat.sub_self]; rfl
  ·rw [e,List.getElem?_append_right (by omega),hl,show k + 1 - k = 1 by omega]; rfl
  ·rw [e,List.set_append_right _ _ (by omega),List.set_append_right _ _ (by omega),hl,Nat.sub_self,show k + 1 - k = 1 by omega]
   simp
theorem FwdI.stop {A R rest r : List (List AV)} {x : List AV} {k : Nat} (h : FwdI A R rest x k r) (hk : A.length + R.length ≤ k) : r = A ++ (R ++ (x :: rest)):=by
 obtain ⟨P,Q,rfl,rfl,h1⟩:=h
 have : Q = []:=List.eq_nil_of_length_eq_zero (by simp at hk; omega)
 subst this
 simp
theorem FwdI.mem {A R rest r : List (List AV)} {x : List AV} {k : Nat} (h : FwdI A R rest x k r) {q : List AV} (hq : q ∈ r) : q ∈ A ++ (x :: (R ++ rest)):=by
 obtain ⟨P,Q,rfl,rfl,h1⟩:=h
 simp only [List.mem_append,List.mem_cons] at hq ⊢
 rcases hq with h | h | h | h | h <;> simp [h]
theorem FwdI.len {A R rest r : List (List AV)} {x : List AV} {k : Nat} (h : FwdI A R rest x k r) : r.length = A.length + R.length + 1 + rest.length:=by
 obtain ⟨P,Q,rfl,rfl,h1⟩:=h
 simp; omega
def BwdI (A L rest : List (List AV)) (x : List AV) (k : Nat) (r : List (List AV)) : Prop :=
 ∃ P Q,L = P ++ Q∧r = A ++ (P ++ (x :: (Q ++ rest)))∧A.length + P.length = k
theorem BwdI.step {A R rest r : List (List AV)} {x : List AV} {k : Nat} (h : BwdI A R rest x k r) (hk : A.length < k) :
  r[k]? = some x∧∃ y,r[k - 1]? = some y∧BwdI A R rest x (k - 1) ((r.set k y).set (k - 1) x):=by
 obtain ⟨P,Q,rfl,rfl,h1⟩:=h
 rcases List.eq_nil_or_concat P with rfl | ⟨P,y,rfl⟩
 ·simp at h1; omega
 ·rw [List.concat_eq_append] at h1 ⊢
  have e : A ++ ((P ++ [y]) ++ (x :: (Q ++ rest))) = (A ++ P) ++ (y :: x :: (Q ++ rest)):=by simp
  have hl : (A ++ P).length = k - 1:=by simp at h1 ⊢; omega
  refine ⟨?_,y,?_,P,y :: Q,by simp,?_,by simp at h1 ⊢; omega⟩
  ·rw [e,List.getElem?_append_right (by omega),hl,show k - (k - 1) = 1 by omega]; rfl
  ·rw [e,List.getElem?_append_right (by omega),hl,Nat.sub_self]; rfl
  ·rw [e,List.set_append_right _ _ (by omega),List.set_append_right _ _ (by omega),hl,Nat.sub_self,show k - (k - 1) = 1 by omega]
   simp
theorem BwdI.stop {A R rest r : List (List AV)} {x : List AV} {k : Nat} (h : BwdI A R rest x k r) (hk : k ≤ A.length) : r = A ++ (x :: (R ++ rest)):=by
 obtain ⟨P,Q,rfl,rfl,h1⟩:=h
 have : P = []:=List.eq_nil_of_length_eq_zero (by omega)
 subst this
 simp
theorem BwdI.mem {A R rest r : List (List AV)} {x : List AV} {k : Nat} (h : BwdI A R rest x k r) {q : List AV} (hq : q ∈ r) : q ∈ A ++ (x :: (R ++ rest)):=by
 obtain ⟨P,Q,rfl,rfl,h1⟩:=h
 simp only [List.mem_append,List.mem_cons] at hq ⊢
 rcases hq with h | h | h | h | h <;> simp [h]
theorem BwdI.len {A R rest r : List (List AV)} {x : List AV} {k : Nat} (h : BwdI A R rest x k r) : r.length = A.length + R.length + 1 + rest.length:=by
 obtain ⟨P,Q,rfl,rfl,h1⟩:=h
 simp; omega
theorem low_split (R : List (List AV)) (hR : Srt ltR R) (x : List AV) : ∃ R1 R2,R = R1 ++ R2∧(∀ y ∈ R1,ltR y x = true)∧(∀ y ∈ R2,ltR y x = false):=by
 induction R with
 | nil=>exact ⟨[],[],rfl,fun y h=>by simp at h,fun y h=>by simp at h⟩
 | cons z R ih =>
  obtain ⟨h1,h2⟩:=List.pairwise_cons.1 hR
  by_cases e : ltR z x = true
  ·obtain ⟨R1,R2,rfl,h3,h4⟩:=ih h2
   exact ⟨z :: R1,R2,rfl,fun y hy=>by rcases List.mem_cons.1 hy with rfl | hy; exact e; exact h3 y hy,h4⟩
  ·refine ⟨[],z :: R,rfl,fun y h=>by simp at h,fun y hy=>?_⟩
   have e : ltR z x = false:=by simpa using e
   rcases List.mem_cons.1 hy with rfl | hy
   ·exact e
   ·cases e2 : ltR y x
    ·rfl
    ·rcases swo_ltR.ntr y z x e2 with h | h
     ·rw [h1 y hy] at h; simp at h
     ·rw [e] at h; simp at h
theorem high_split (L : List (List AV)) (hL : Srt ltR L) (x : List AV) : ∃ L1 L2,L = L1 ++ L2∧(∀ y ∈ L1,ltR x y = false)∧(∀ y ∈ L2,ltR x y = true):=by
 induction L with
 | nil=>exact ⟨[],[],rfl,fun y h=>by simp at h,fun y h=>by simp at h⟩
 | cons z R ih =>
  obtain ⟨h1,h2⟩:=List.pairwise_cons.1 hL
  by_cases e : ltR x z = true
  ·refine ⟨[],z :: R,rfl,fun y h=>by simp at h,fun y hy=>?_⟩
   rcases List.mem_cons.1 hy with rfl | hy
   ·exact e
   ·rcases swo_ltR.ntr x y z e with h | h
    ·exact h
    ·rw [h1 y hy] at h; simp at h
  ·obtain ⟨R1,R2,rfl,h3,h4⟩:=ih h2
   exact ⟨z :: R1,R2,rfl,fun y hy=>by rcases List.mem_cons.1 hy with rfl | hy; simpa using e; exact h3 y hy,h4⟩
end Go.Proofs.Ytdnaadcbimbfmaa
namespace Go.Proofs.Ytdnaadcbimbfmaa
open Go Go.RowKit Am
def dropSeq : Nat→Code→Code
 | 0,c=>c
 | n + 1,.seq _ y=>dropSeq n y
 | _,c=>c
noncomputable def body79 : Code:=(Try.f113.body).getD .skip
abbrev E79 : En:={ n:=220,wrs:=[113,114],cuts:=[2,14,32,38,41,43] }
def Mrg (d : Nat) : Prop :=
 ∀ (rows : List (List AV)) (a m b : Nat) (a' m' b' : Int) (ea : a' = (a : Int)) (em : m' = (m : Int)) (eb : b' = (b : Int)) (A L R B : List (List AV)) (hrows : rows = A ++ (L ++ (R ++ B))) (hA : A.length = a) (hL : a + L.length = m) (hR : m + R.length = b) (h0 : 0 < L.length) (h1 : 0 < R.length) (hsL : Srt ltR L) (hsR : Srt ltR R) (hd : b - a ≤ d) (hlen : rows.length ≤ 500000000) (hr : ∀ r ∈ rows,isEv r) (rows' : List (List AV)) (hrows' : rows' = A ++ (isort ltR (L ++ R) ++ B)),
  CSem Try.prog (.wr 113 [(0,.row 37 26 rows 0 0)] [(0,.row 37 26 rows' 0 0)]) [.own 0 0,aI a',aI m',aI b',.clo 105 []] (.pure [])
theorem lt_iffF {F : Sy} (hF : F = sy) (i j : Nat) (i' j' : Int) (hi : i' = (i : Int)) (hj : j' = (j : Int)) : (F .cmp .lss i' j' = true ↔ i < j)∧(F .cmp .gtr i' j' = true ↔ j < i):=by rw [hF,hi,hj]; simp [sy]
theorem isort_one {X Y : List (List AV)} (hX : Srt ltR X) (hY : Srt ltR Y) (h : X.length = 0 ∨ Y.length = 0) : isort ltR (X ++ Y) = X ++ Y:=by
 rcases h with h | h
 ·have:=List.eq_nil_of_length_eq_zero h
  subst this
  exact (isort_unique swo_ltR hY (StP.refl _)).symm
 ·have:=List.eq_nil_of_length_eq_zero h
  subst this
  simp only [List.append_nil]
  exact (isort_unique swo_ltR hX (StP.refl _)).symm
theorem t43 {F : Sy} {C : Key→List AV→Res→Prop} {D : Code→(AE→St→Prop)→St→Prop} (hF : F = sy) (hC : ∀ k l r,CSem Try.prog k l r→C k l r) (hD : ∀ c Q s,awp F C D E79 c Q s→D c Q s)
  (d : Nat) (ih : Mrg d) (z rows' : List (List AV)) (a' m' : Int) (mid e b : Nat) (c' e' b' : Int) (ec : c' = (mid : Int)) (ee : e' = (e : Int)) (eb : b' = (b : Int)) (A L2 R2 B : List (List AV)) (hz : z = A ++ (L2 ++ (R2 ++ B))) (hA : A.length = mid) (lL : mid + L2.length = e) (lR : e + R2.length = b) (sL : Srt ltR L2) (sR : Srt ltR R2) (hd : b - mid ≤ d) (hlen : z.length ≤ 500000000) (hr : ∀ r ∈ z,isEv r)
  (hfin : rows' = A ++ (isort ltR (L2 ++ R2) ++ B)) :
  awp F C D E79 (dropSeq 11 body79) (fun e st=>match e with | .normal=>retOKW Try.f113.results.toList [(0,.row 37 26 rows' 0 0)] (.pure []) st | .ret=>retOKW Try.f113.results.toList [(0,.row 37 26 rows' 0 0)] (.pure []) st | .exit _=>False)
   { slots:=[(18,aI c'),(24,aI e'),(0,.own 0 0),(1,aI a'),(2,aI m'),(3,aI b'),(4,.clo 105 [])],obs:=[(0,.row 37 26 z 0 0)],ctr:=5,par:=5 }:=by
 have tce:=(lt_iffF hF mid e c' e' ec ee).1
 have teb:=(lt_iffF hF e b e' b' ee eb).1
 cbv
 refine ⟨fun y1=>?_,fun y1=>?_⟩ <;> cbv
 ·refine ⟨fun y2=>?_,fun y2=>?_⟩ <;> cbv
  ·have v3:=tce.1 y1
   have v4:=teb.1 y2
   refine ⟨_,_,hC _ _ _ (ih z mid e b c' e' b' ec ee eb A L2 R2 B hz hA lL lR (by omega) (by omega) sL sR hd hlen hr rows' hfin),?_⟩
   cbv
  ·have v5:=nfB teb y2
   have hk2:=isort_one sL sR (by omega)
   exact ⟨⟨by rw [hfin,hz,hk2]; simp,trivial⟩,trivial⟩
 ·have v5:=nfB tce y1
  have hk2:=isort_one sL sR (by omega)
  exact ⟨⟨by rw [hfin,hz,hk2]; simp,trivial⟩,trivial⟩
theorem t41 {F : Sy} {C : Key→List AV→Res→Prop} {D : Code→(AE→St→Prop)→St→Prop} (hF : F = sy) (hC : ∀ k l r,CSem Try.prog k l r→C k l r) (hD : ∀ c Q s,awp F C D E79 c Q s→D c Q s)
  (d : Nat) (ih : Mrg d) (z rows' : List (List AV)) (a i m mid e b : Nat) (a' i' m' c' e' b' : Int) (ea : a' = (a : Int)) (ei : i' = (i : Int)) (ec : c' = (mid : Int)) (ee : e' = (e : Int)) (eb : b' = (b : Int)) (A L1 R1 L2 R2 B : List (List AV)) (hz : z = A ++ (L1 ++ (R1 ++ (L2 ++ (R2 ++ B))))) (hA : A.length = a) (lL1 : a + L1.length = i) (lR1 : i + R1.length = mid) (lL : mid + L2.length = e) (lR : e + R2.length = b)
  (sL1 : Srt ltR L1) (sR1 : Srt ltR R1) (sL : Srt ltR L2) (sR : Srt ltR R2) (hd1 : mid - a ≤ d) (hd : b - mid ≤ d) (hlen : z.length ≤ 500000000) (hr : ∀ r ∈ z,isEv r)
  (hfin : rows' = (A ++ isort ltR (L1 ++ R1)) ++ (isort ltR (L2 ++ R2) ++ B)) :
  awp F C D E79 (dropSeq 10 body79) (fun e st=>match e with | .normal=>retOKW Try.f113.results.toList [(0,.row 37 26 rows' 0 0)] (.pure []) st | .ret=>retOKW Try.f113.results.toList [(0,.row 37 26 rows' 0 0)] (.pure []) st | .exit _=>False)
   { slots:=[(20,aI i'),(18,aI c'),(24,aI e'),(0,.own 0 0),(1,aI a'),(2,aI m'),(3,aI b'),(4,.clo 105 [])],obs:=[(0,.row 37 26 z 0 0)],ctr:=5,par:=5 }:=by
 have tai:=(lt_iffF hF a i a' i' ea ei).1
 have tic:=(lt_iffF hF i mid i' c' ei ec).1
 have len1:=(isort_ok swo_ltR (L1 ++ R1)).2.2
 have mem1 : ∀ q,q ∈ isort ltR (L1 ++ R1)→q ∈ L1 ++ R1:=fun q hq=>isort_mem swo_ltR hq
 have hA2 : (A ++ isort ltR (L1 ++ R1)).length = mid:=by rw [List.length_append,len1,List.length_append]; omega
 obtain ⟨z2,hz2⟩ : ∃ z2,z2 = (A ++ isort ltR (L1 ++ R1)) ++ (L2 ++ (R2 ++ B)):=⟨_,rfl⟩
 have hl2 : z2.length = z.length:=by rw [hz2,hz]; simp only [List.length_append,len1]; omega
 have hr2 : ∀ r ∈ z2,isEv r:=fun r h=>hr r (by
  rw [hz2] at h
  rw [hz]
  simp only [List.mem_append] at h ⊢
  rcases h with (h | h) | h | h | h
  ·simp [h]
  ·have:=mem1 r h
   simp only [List.mem_append] at this
   rcases this with h | h <;> simp [h]
  all_goals simp [h])
 have tail:=t43 hF hC hD d ih z2 rows' a' m' mid e b c' e' b' ec ee eb (A ++ isort ltR (L1 ++ R1)) L2 R2 B hz2 hA2 lL lR sL sR hd (by omega) hr2 hfin
 have skip : (L1.length = 0 ∨ R1.length = 0)→z = z2:=fun h=>by rw [hz2,isort_one sL1 sR1 h,hz]; simp
 cbv
 refine ⟨fun y1=>?_,fun y1=>?_⟩ <;> cbv
 ·refine ⟨fun y2=>?_,fun y2=>?_⟩ <;> cbv
  ·have v3:=tai.1 y1
   have v4:=tic.1 y2
   refine ⟨_,_,hC _ _ _ (ih z a i mid a' i' c' ea ei ec A L1 R1 (L2 ++ (R2 ++ B)) hz hA lL1 lR1 (by omega) (by omega) sL1 sR1 hd1 hlen hr z2 (by rw [hz2]; simp)),?_⟩
   cbv
   exact ⟨_,Le.trans le_fresh (le_of [] (by simp [St.fresh,freshObs,Ob.fresh,mapS,killR,relT,leSl,leOb,injK,memK,parK,noTup,lk,rn0,rnA,plain,aI])),hD _ _ _ tail⟩
  ·have v5:=nfB tic y2
   have hq:=skip (by omega)
   subst hq
   exact ⟨_,Le.trans le_fresh (le_of [] (by simp [St.fresh,freshObs,Ob.fresh,mapS,killR,relT,leSl,leOb,injK,memK,parK,noTup,lk,rn0,rnA,plain,aI])),hD _ _ _ tail⟩
 ·have v5:=nfB tai y1
  have hq:=skip (by omega)
  subst hq
  exact ⟨_,Le.trans le_fresh (le_of [] (by simp [St.fresh,freshObs,Ob.fresh,mapS,killR,relT,leSl,leOb,injK,memK,parK,noTup,lk,rn0,rnA,plain,aI])),hD _ _ _ tail⟩
theorem t38 {F : Sy} {C : Key→List AV→Res→Prop} {D : Code→(AE→St→Prop)→St→Prop} (hF : F = sy) (hC : ∀ k l r,CSem Try.prog k l r→C k l r) (hD : ∀ c Q s,awp F C D E79 c Q s→D c Q s)
  (d : Nat) (ih : Mrg d) (z rows' : List (List AV)) (a i m mid n e b : Nat) (a' i' m' c' n' b' : Int) (ea : a' = (a : Int)) (ei : i' = (i : Int)) (em : m' = (m : Int)) (ec : c' = (mid : Int)) (en : n' = (n : Int)) (eb : b' = (b : Int)) (hn : n = mid + m) (hie : i + e = n) (A L1 R1 L2 R2 B : List (List AV)) (hz : z = A ++ (L1 ++ (L2 ++ (R1 ++ (R2 ++ B))))) (hA : A.length = a) (lL1 : a + L1.length = i) (lL2 : i + L2.length = m) (lR1 : m + R1.length = e) (lR : e + R2.length = b)
  (sL1 : Srt ltR L1) (sR1 : Srt ltR R1) (sL : Srt ltR L2) (sR : Srt ltR R2) (hd1 : mid - a ≤ d) (hd : b - mid ≤ d) (hlen : z.length ≤ 500000000) (hr : ∀ r ∈ z,isEv r)
  (hfin : rows' = (A ++ isort ltR (L1 ++ R1)) ++ (isort ltR (L2 ++ R2) ++ B)) :
  awp F C D E79 (dropSeq 8 body79) (fun e st=>match e with | .normal=>retOKW Try.f113.results.toList [(0,.row 37 26 rows' 0 0)] (.pure []) st | .ret=>retOKW Try.f113.results.toList [(0,.row 37 26 rows' 0 0)] (.pure []) st | .exit _=>False)
   { slots:=[(20,aI i'),(19,aI n'),(18,aI c'),(0,.own 0 0),(1,aI a'),(2,aI m'),(3,aI b'),(4,.clo 105 [])],obs:=[(0,.row 37 26 z 0 0)],ctr:=5,par:=5 }:=by
 have hzl : z.length = b + B.length:=by rw [hz]; simp only [List.length_append]; omega
 have ee0 : F .ar .sub .i64 n' i' = (e : Int):=by rw [en,ei,hF]; exact (wrap_in (by omega) (by omega)).trans (by omega)
 obtain ⟨e',he'⟩ : ∃ e',F .ar .sub .i64 n' i' = e':=⟨_,rfl⟩
 have ee : e' = (e : Int):=he'.symm.trans ee0
 have tls:=(lt_iffF hF i m i' m' ei em).1
 have tme:=(lt_iffF hF m e m' e' em ee).1
 obtain ⟨z2,hz2⟩ : ∃ z2,z2 = A ++ (L1 ++ (R1 ++ (L2 ++ (R2 ++ B)))):=⟨_,rfl⟩
 have hl2 : z2.length = z.length:=by rw [hz2,hz]; simp only [List.length_append]; omega
 have hr2 : ∀ r ∈ z2,isEv r:=fun r h=>hr r (by
  rw [hz2] at h
  rw [hz]
  simp only [List.mem_append] at h ⊢
  rcases h with h | h | h | h | h | h <;> simp [h])
 have tail:=t41 hF hC hD d ih z2 rows' a i m mid e b a' i' m' c' e' b' ea ei ec ee eb A L1 R1 L2 R2 B hz2 hA lL1 (by omega) (by omega) lR sL1 sR1 sL sR hd1 hd (by omega) hr2 hfin
 have skip : (L2.length = 0 ∨ R1.length = 0)→z = z2:=fun h=>by
  rw [hz2,hz]
  rcases h with h | h
  ·have:=List.eq_nil_of_length_eq_zero h
   subst this; simp
  ·have:=List.eq_nil_of_length_eq_zero h
   subst this; simp
 cbv
 rw [he']
 refine ⟨fun y1=>?_,fun y1=>?_⟩ <;> cbv
 ·refine ⟨fun y2=>?_,fun y2=>?_⟩ <;> cbv
  ·have v3:=tls.1 y1
   have v4:=tme.1 y2
   refine ⟨_,_,hC _ _ _ (rotate_ok z i m e i' m' e' ei em ee (A ++ L1) L2 R1 (R2 ++ B) (by rw [hz]; simp) (by rw [List.length_append]; omega) lL2 lR1 (by omega) (by omega) (by omega) (fun r h=>(hr r h).len) z2 (by rw [hz2]; simp)),?_⟩
   cbv
   exact ⟨_,Le.trans le_fresh (le_of [] (by simp [St.fresh,freshObs,Ob.fresh,mapS,killR,relT,leSl,leOb,injK,memK,parK,noTup,lk,rn0,rnA,plain,aI])),hD _ _ _ tail⟩
  ·have v5:=nfB tme y2
   have hq:=skip (by omega)
   subst hq
   exact ⟨_,Le.trans le_fresh (le_of [] (by simp [St.fresh,freshObs,Ob.fresh,mapS,killR,relT,leSl,leOb,injK,memK,parK,noTup,lk,rn0,rnA,plain,aI])),hD _ _ _ tail⟩
 ·have v5:=nfB tls y1
  have hq:=skip (by omega)
  subst hq
  exact ⟨_,Le.trans le_fresh (le_of [] (by simp [St.fresh,freshObs,Ob.fresh,mapS,killR,relT,leSl,leOb,injK,memK,parK,noTup,lk,rn0,rnA,plain,aI])),hD _ _ _ tail⟩
end Go.Proofs.Ytdnaadcbimbfmaa
namespace Go.Proofs.Ytdnaadcbimbfmaa
open Go Go.RowKit Am
def nav : List Nat→Code→Code
 | 0 :: r,.seq x _=>nav r x
 | 1 :: r,.seq _ y=>nav r y
 | 0 :: r,.cond _ x _=>nav r x
 | 1 :: r,.cond _ _ y=>nav r y
 | _ :: r,.block _ c=>nav r c
 | _ :: r,.loop c=>nav r c
 | _,c=>c
set_option maxHeartbeats 2000000 in
theorem c2 {F : Sy} {C : Key→List AV→Res→Prop} {D : Code→(AE→St→Prop)→St→Prop} (hF : F = sy) (hC : ∀ k l r,CSem Try.prog k l r→C k l r) (hD : ∀ c Q s,awp F C D E79 c Q s→D c Q s) (rows : List (List AV)) (a m b : Nat) (a' m' b' : Int) (ea : a' = (a : Int)) (em : m' = (m : Int)) (eb : b' = (b : Int)) (A L R B : List (List AV)) (hrows : rows = A ++ (L ++ (R ++ B))) (hA : A.length = a) (hL : a + L.length = m) (hR : m + R.length = b) (h0 : 0 < L.length) (h1 : 0 < R.length) (hsL : Srt ltR L) (hsR : Srt ltR R) (hlen : rows.length ≤ 500000000) (hr : ∀ r ∈ rows,isEv r) (rows' : List (List AV)) (hrows' : rows' = A ++ (isort ltR (L ++ R) ++ B)) (hl1 : L.length = 1)
  (Q : AE→St→Prop) (hQ : ∀ s,retOKW Try.f113.results.toList [(0,.row 37 26 rows' 0 0)] (.pure []) s→Q .ret s) :
  awp F C D E79 (nav [0,1,0,1] body79) Q { slots:=[(10,aI m'),(0,.own 0 0),(1,aI a'),(2,aI m'),(3,aI b'),(4,.clo 105 [])],obs:=[(0,.row 37 26 rows 0 0)],ctr:=5,par:=5 }:=by
 have hlr : rows.length = b + B.length:=by rw [hrows]; simp; omega
 have es : ∀ k : Nat,k ≤ 1000000000→∀ l : Nat,l ≤ k→F .ar .sub .i64 (k : Int) (l : Int) = ((k - l : Nat) : Int):=fun k hk l hl=>by rw [hF]; exact (wrap_in (by omega) (by omega)).trans (by omega)
 have ep : ∀ k : Nat,k ≤ 1000000000→∀ l : Nat,l ≤ 1000000000→F .ar .add .i64 (k : Int) (l : Int) = ((k + l : Nat) : Int):=fun k hk l hl=>by rw [hF]; exact (wrap_in (by omega) (by omega)).trans (by omega)
 have eh : ∀ (i j : Nat) (i' j' : Int),i' = (i : Int)→j' = (j : Int)→i ≤ 1000000000→j ≤ 1000000000→F .wrp .i64 (F .ar .shr .u64 (F .wrp .u64 (F .ar .add .i64 i' j')) 1) = (((i + j) / 2 : Nat) : Int):=fun i j i' j' hi hj h2 h3=>by rw [hi,hj,ep i h2 j h3,hF]; exact half_eq5 i j h2 h3
 have lt_iff : ∀ (i j : Nat) (i' j' : Int),i' = (i : Int)→j' = (j : Int)→(F .cmp .lss i' j' = true ↔ i < j)∧(F .cmp .gtr i' j' = true ↔ j < i):=fun i j i' j' hi hj=>by rw [hF,hi,hj]; simp [sy]
 have cn : ∀ n : Int,F .cmp .lss n 0 = true ↔ n < 0:=fun n=>by rw [hF]; simp [sy]
 obtain ⟨x,rfl⟩:=List.length_eq_one_iff.1 hl1
 obtain ⟨R1,R2,hRs,q1,q2⟩:=low_split R hsR x
 have hfin : rows' = A ++ (R1 ++ (x :: (R2 ++ B))):=by
  rw [hrows',hRs,← merge_one swo_ltR x R1 R2 (hRs ▸ hsR) q1 q2]; simp
 have hmm : m = a + 1:=by simp at hL; omega
 have hbb : m + R1.length + R2.length = b:=by rw [← hR,hRs]; simp; omega
 have hxe : isEv x:=hr x (by rw [hrows]; simp)
 have hxa : rows[a]? = some x:=by rw [hrows,List.getElem?_append_right (by omega),hA,Nat.sub_self]; rfl
 have hat : ∀ k,m ≤ k→k < b→∃ y,rows[k]? = some y∧isEv y∧(ltR y x = true ↔ k < m + R1.length):=by
  intro k hk1 hk2
  have e1 : rows[k]? = (R1 ++ R2)[k - m]?:=by
   rw [hrows,List.getElem?_append_right (by omega),List.getElem?_append_right (by simp; omega),List.getElem?_append_left (by simp; omega),hRs,hA]
   congr 1; simp; omega
  by_cases e : k - m < R1.length
  ·have e2 : rows[k]? = some R1[k - m]:=by rw [e1,List.getElem?_append_left e,List.getElem?_eq_getElem e]
   exact ⟨_,e2,hr _ (List.mem_of_getElem? e2),⟨fun _=>by omega,fun _=>q1 _ (List.getElem_mem e)⟩⟩
  ·have e3 : k - m - R1.length < R2.length:=by omega
   have e2 : rows[k]? = some R2[k - m - R1.length]:=by rw [e1,List.getElem?_append_right (by omega),List.getElem?_eq_getElem e3]
   exact ⟨_,e2,hr _ (List.mem_of_getElem? e2),⟨fun h=>by rw [q2 _ (List.getElem_mem e3)] at h; simp at h,fun h=>by omega⟩⟩
 obtain ⟨s,hs⟩ : ∃ s,s = m + R1.length:=⟨_,rfl⟩
 rw [← hs] at hat
 cbv
 refine ⟨Nat × Nat × Int × Int,fun y=>{ slots:=[(10,aI y.2.2.1),(11,aI y.2.2.2),(0,.own 0 0),(1,aI a'),(2,aI m'),(3,aI b'),(4,.clo 105 [])],obs:=[(0,.row 37 26 rows 0 0)],ctr:=5,par:=5 },fun y=>y.2.2.1 = (y.1 : Int)∧y.2.2.2 = (y.2.1 : Int)∧m ≤ y.1∧y.1 ≤ s∧s ≤ y.2.1∧y.2.1 ≤ b,fun y=>y.2.1 - y.1,⟨(m,b,m',b'),⟨em,eb,Nat.le_refl _,(show m ≤ s by omega),(show s ≤ b by omega),Nat.le_refl _⟩,le_of [] (by simp [leSl,leOb,injK,memK,parK,noTup,lk,rn0,rnA,plain,aI])⟩,fun y hy=>?_⟩
 obtain ⟨i,j,i',j'⟩:=y
 obtain ⟨ei,ej,g1,g2,g3,g4⟩:=hy
 simp only at ei ej g1 g2 g3 g4
 have tl:=(lt_iff i j i' j' ei ej).1
 have thalf:=eh i j i' j' ei ej (by omega) (by omega)
 have tp : ∀ (k : Nat) (k' : Int),k' = (k : Int)→k ≤ 500000000→F .ar .add .i64 k' 1 = ((k + 1 : Nat) : Int):=fun k k' hk h=>by rw [hk]; exact ep k (by omega) 1 (by omega)
 have tm : F .ar .sub .i64 i' 1 = ((i - 1 : Nat) : Int):=by rw [ei]; exact es i (by omega) 1 (by omega)
 cbv
 refine ⟨fun f=>?_,fun f=>?_⟩ <;> cbv
 ·have hij:=tl.1 f
  obtain ⟨k,hk⟩ : ∃ k,k = (i + j) / 2:=⟨_,rfl⟩
  obtain ⟨k',hk'⟩ : ∃ k',F .wrp .i64 (F .ar .shr .u64 (F .wrp .u64 (F .ar .add .i64 i' j')) 1) = k':=⟨_,rfl⟩
  have ek : k' = (k : Int):=hk'.symm.trans (thalf.trans (by rw [hk]))
  obtain ⟨y,hy,hye,hyx⟩:=hat k (by omega) (by omega)
  have ek1:=tp k k' ek (by omega)
  rw [hk']
  refine ⟨hC _ _ _ (ben_ok (by kernel_rfl)),?_⟩
  cbv
  refine ⟨k,y,ek,hy,?_⟩
  cbv
  refine ⟨a,x,ea,hxa,?_⟩
  cbv
  refine ⟨_,hC _ _ _ (orderR_ok y x hye hxe _ rfl),?_⟩
  have hneg:=orderR_neg y x
  generalize orderR y x = n at hneg
  have hn1 : F .cmp .lss n 0 = true→k < s:=fun g=>hyx.1 (hneg.1 ((cn n).1 g))
  have hn2 : F .cmp .lss n 0 = false→¬ k < s:=fun g g2=>by
   have:=(cn n).2 (hneg.2 (hyx.2 g2))
   rw [g] at this
   simp at this
  cbv
  refine ⟨fun e=>?_,fun e=>?_⟩ <;> cbv
  ·obtain ⟨i2,hi2⟩ : ∃ i2,F .ar .add .i64 k' 1 = i2:=⟨_,rfl⟩
   rw [hi2]
   exact ⟨(k + 1,j,i2,j'),⟨hi2.symm.trans ek1,ej,(show m ≤ k + 1 by omega),(show k + 1 ≤ s from hn1 e),g3,g4⟩,(show j - (k + 1) < j - i by omega),le_of [] (by simp [leSl,leOb,injK,memK,parK,noTup,lk,rn0,rnA,plain])⟩
  ·exact ⟨(i,k,i',k'),⟨ei,ek,g1,g2,(show s ≤ k by have:=hn2 e; omega),(show k ≤ b by omega)⟩,(show k - i < j - i by omega),le_of [] (by simp [leSl,leOb,injK,memK,parK,noTup,lk,rn0,rnA,plain])⟩
 ·have hij : ¬ i < j:=fun g=>by have:=tl.2 g; rw [f] at this; simp at this
  have his : i = s:=by omega
  have hstart : FwdI A R1 (R2 ++ B) x a rows:=⟨[],R1,rfl,by rw [hrows,hRs]; simp,by simpa using hA⟩
  refine ⟨Nat × Int × List (List AV),fun y=>{ slots:=[(13,aI y.2.1),(10,aI i'),(0,.own 0 0),(1,aI a'),(2,aI m'),(3,aI b'),(4,.clo 105 [])],obs:=[(0,.row 37 26 y.2.2 0 0)],ctr:=5,par:=5 },fun y=>y.2.1 = (y.1 : Int)∧a ≤ y.1∧y.1 ≤ i - 1∧FwdI A R1 (R2 ++ B) x y.1 y.2.2,fun y=>i - y.1,⟨(a,a',rows),⟨ea,Nat.le_refl _,(show a ≤ i - 1 by omega),hstart⟩,le_of [] (by simp [leSl,leOb,injK,memK,parK,noTup,lk,rn0,rnA,plain,aI])⟩,fun y hy=>?_⟩
  obtain ⟨k,k',q⟩:=y
  obtain ⟨ek,t1,t2,hq⟩:=hy
  simp only at ek t1 t2 hq
  have hqev : ∀ z,z ∈ q→isEv z:=fun z hz=>hr z (by
   have:=hq.mem hz
   rw [hrows,hRs]
   simp only [List.mem_append,List.mem_cons] at this ⊢
   rcases this with h | h | h | h | h <;> simp [h])
  have hql : q.length = rows.length:=by rw [hq.len,hrows,hRs]; simp; omega
  have tl2:=(lt_iff k (i - 1) k' (F .ar .sub .i64 i' 1) ek tm).1
  have ek1:=tp k k' ek (by omega)
  cbv
  refine ⟨fun e=>?_,fun e=>?_⟩ <;> cbv
  ·have hki:=tl2.1 e
   obtain ⟨u1,y,u2,u3⟩:=hq.step (by omega)
   obtain ⟨k1,hk1⟩ : ∃ k1,k1 = k + 1:=⟨_,rfl⟩
   have ek2 : F .ar .add .i64 k' 1 = (k1 : Int):=ek1.trans (by rw [hk1])
   have u2 : q[k1]? = some y:=by rw [hk1]; exact u2
   have hyl : y.length = 26:=(hqev y (List.mem_of_getElem? u2)).len
   have hxl : x.length = 26:=hxe.len
   have hkq : k1 < q.length:=(List.getElem?_eq_some_iff.1 u2).1
   refine ⟨hC _ _ _ (ben_ok (by kernel_rfl)),?_⟩
   cbv
   refine ⟨k1,y,ek2,u2,?_⟩
   cbv
   refine ⟨k,x,ek,u1,?_⟩
   cbv
   refine ⟨k,x,ek,u1,?_⟩
   cbv
   refine ⟨.mk hyl,?_⟩
   cbv
   obtain ⟨q2,hq2⟩ : ∃ q2,F .set q k y = q2:=⟨_,rfl⟩
   rw [hq2]
   have eq2 : q2 = q.set k y:=by rw [← hq2,hF]; rfl
   obtain ⟨c2,hc2⟩ : ∃ c2,q2[k1]? = some c2:=⟨_,List.getElem?_eq_getElem (by rw [eq2]; simpa using hkq)⟩
   refine ⟨k1,c2,ek2,hc2,?_⟩
   cbv
   refine ⟨.mk hxl,?_⟩
   cbv
   obtain ⟨q3,hq3⟩ : ∃ q3,F .set q2 k1 x = q3:=⟨_,rfl⟩
   rw [hq3]
   have eq3 : q3 = (q.set k y).set (k + 1) x:=by rw [← hq3,hF,eq2,hk1]; rfl
   obtain ⟨k2,hk2⟩ : ∃ k2,F .ar .add .i64 k' 1 = k2:=⟨_,rfl⟩
   rw [hk2]
   exact ⟨(k1,k2,q3),⟨hk2.symm.trans ek2,(show a ≤ k1 by omega),(show k1 ≤ i - 1 by omega),by rw [eq3,hk1]; exact u3⟩,(show i - k1 < i - k by omega),Le.trans le_fresh (le_of [] (by simp [St.fresh,freshObs,Ob.fresh,mapS,killR,relT,leSl,leOb,injK,memK,parK,noTup,lk,rn0,rnA,plain]))⟩
  ·have hki : ¬ k < i - 1:=fun g=>by have:=tl2.2 g; rw [e] at this; simp at this
   have:=hq.stop (by omega)
   exact hQ _ (by cbv; exact ⟨⟨this.trans hfin.symm,trivial⟩,trivial⟩)
set_option maxHeartbeats 2000000 in
theorem c14 {F : Sy} {C : Key→List AV→Res→Prop} {D : Code→(AE→St→Prop)→St→Prop} (hF : F = sy) (hC : ∀ k l r,CSem Try.prog k l r→C k l r) (hD : ∀ c Q s,awp F C D E79 c Q s→D c Q s) (rows : List (List AV)) (a m b : Nat) (a' m' b' : Int) (ea : a' = (a : Int)) (em : m' = (m : Int)) (eb : b' = (b : Int)) (A L R B : List (List AV)) (hrows : rows = A ++ (L ++ (R ++ B))) (hA : A.length = a) (hL : a + L.length = m) (hR : m + R.length = b) (h0 : 0 < L.length) (h1 : 0 < R.length) (hsL : Srt ltR L) (hsR : Srt ltR R) (hlen : rows.length ≤ 500000000) (hr : ∀ r ∈ rows,isEv r) (rows' : List (List AV)) (hrows' : rows' = A ++ (isort ltR (L ++ R) ++ B)) (hr1 : R.length = 1)
  (Q : AE→St→Prop) (hQ : ∀ s,retOKW Try.f113.results.toList [(0,.row 37 26 rows' 0 0)] (.pure []) s→Q .ret s) :
  awp F C D E79 (nav [1,0,1,0,1] body79) Q { slots:=[(14,aI a'),(0,.own 0 0),(1,aI a'),(2,aI m'),(3,aI b'),(4,.clo 105 [])],obs:=[(0,.row 37 26 rows 0 0)],ctr:=5,par:=5 }:=by
 have hlr : rows.length = b + B.length:=by rw [hrows]; simp; omega
 have es : ∀ k : Nat,k ≤ 1000000000→∀ l : Nat,l ≤ k→F .ar .sub .i64 (k : Int) (l : Int) = ((k - l : Nat) : Int):=fun k hk l hl=>by rw [hF]; exact (wrap_in (by omega) (by omega)).trans (by omega)
 have ep : ∀ k : Nat,k ≤ 1000000000→∀ l : Nat,l ≤ 1000000000→F .ar .add .i64 (k : Int) (l : Int) = ((k + l : Nat) : Int):=fun k hk l hl=>by rw [hF]; exact (wrap_in (by omega) (by omega)).trans (by omega)
 have eh : ∀ (i j : Nat) (i' j' : Int),i' = (i : Int)→j' = (j : Int)→i ≤ 1000000000→j ≤ 1000000000→F .wrp .i64 (F .ar .shr .u64 (F .wrp .u64 (F .ar .add .i64 i' j')) 1) = (((i + j) / 2 : Nat) : Int):=fun i j i' j' hi hj h2 h3=>by rw [hi,hj,ep i h2 j h3,hF]; exact half_eq5 i j h2 h3
 have lt_iff : ∀ (i j : Nat) (i' j' : Int),i' = (i : Int)→j' = (j : Int)→(F .cmp .lss i' j' = true ↔ i < j)∧(F .cmp .gtr i' j' = true ↔ j < i):=fun i j i' j' hi hj=>by rw [hF,hi,hj]; simp [sy]
 have cn : ∀ n : Int,F .cmp .lss n 0 = true ↔ n < 0:=fun n=>by rw [hF]; simp [sy]
 obtain ⟨x,rfl⟩:=List.length_eq_one_iff.1 hr1
 obtain ⟨L1,L2,hLs,q1,q2⟩:=high_split L hsL x
 have hfin : rows' = (A ++ L1) ++ (x :: (L2 ++ B)):=by
  rw [hrows',hLs,← merge_last swo_ltR x L1 L2 (hLs ▸ hsL) q1 q2]; simp
 have hbb : b = m + 1:=by simp at hR; omega
 have hmm : a + L1.length + L2.length = m:=by rw [← hL,hLs]; simp; omega
 have hxe : isEv x:=hr x (by rw [hrows]; simp)
 have hxm : rows[m]? = some x:=by rw [hrows,List.getElem?_append_right (by omega),List.getElem?_append_right (by omega),show m - A.length - L.length = 0 by omega]; rfl
 have hat : ∀ k,a ≤ k→k < m→∃ y,rows[k]? = some y∧isEv y∧(ltR x y = false ↔ k < a + L1.length):=by
  intro k hk1 hk2
  have e1 : rows[k]? = (L1 ++ L2)[k - a]?:=by
   rw [hrows,List.getElem?_append_right (by omega),List.getElem?_append_left (by omega),hLs,hA]
  by_cases e : k - a < L1.length
  ·have e2 : rows[k]? = some L1[k - a]:=by rw [e1,List.getElem?_append_left e,List.getElem?_eq_getElem e]
   exact ⟨_,e2,hr _ (List.mem_of_getElem? e2),⟨fun _=>by omega,fun _=>q1 _ (List.getElem_mem e)⟩⟩
  ·have e3 : k - a - L1.length < L2.length:=by omega
   have e2 : rows[k]? = some L2[k - a - L1.length]:=by rw [e1,List.getElem?_append_right (by omega),List.getElem?_eq_getElem e3]
   exact ⟨_,e2,hr _ (List.mem_of_getElem? e2),⟨fun h=>by rw [q2 _ (List.getElem_mem e3)] at h; simp at h,fun h=>by omega⟩⟩
 obtain ⟨s,hs⟩ : ∃ s,s = a + L1.length:=⟨_,rfl⟩
 rw [← hs] at hat
 cbv
 refine ⟨Nat × Nat × Int × Int,fun y=>{ slots:=[(14,aI y.2.2.1),(15,aI y.2.2.2),(0,.own 0 0),(1,aI a'),(2,aI m'),(3,aI b'),(4,.clo 105 [])],obs:=[(0,.row 37 26 rows 0 0)],ctr:=5,par:=5 },fun y=>y.2.2.1 = (y.1 : Int)∧y.2.2.2 = (y.2.1 : Int)∧a ≤ y.1∧y.1 ≤ s∧s ≤ y.2.1∧y.2.1 ≤ m,fun y=>y.2.1 - y.1,⟨(a,m,a',m'),⟨ea,em,Nat.le_refl _,(show a ≤ s by omega),(show s ≤ m by omega),Nat.le_refl _⟩,le_of [] (by simp [leSl,leOb,injK,memK,parK,noTup,lk,rn0,rnA,plain,aI])⟩,fun y hy=>?_⟩
 obtain ⟨i,j,i',j'⟩:=y
 obtain ⟨ei,ej,g1,g2,g3,g4⟩:=hy
 simp only at ei ej g1 g2 g3 g4
 have tl:=(lt_iff i j i' j' ei ej).1
 have thalf:=eh i j i' j' ei ej (by omega) (by omega)
 have tp : ∀ (k : Nat) (k' : Int),k' = (k : Int)→k ≤ 500000000→F .ar .add .i64 k' 1 = ((k + 1 : Nat) : Int):=fun k k' hk h=>by rw [hk]; exact ep k (by omega) 1 (by omega)
 have ts : ∀ (k : Nat) (k' : Int),k' = (k : Int)→1 ≤ k→k ≤ 500000000→F .ar .sub .i64 k' 1 = ((k - 1 : Nat) : Int):=fun k k' hk h h2=>by rw [hk]; exact es k (by omega) 1 (by omega)
 cbv
 refine ⟨fun f=>?_,fun f=>?_⟩ <;> cbv
 ·have hij:=tl.1 f
  obtain ⟨k,hk⟩ : ∃ k,k = (i + j) / 2:=⟨_,rfl⟩
  obtain ⟨k',hk'⟩ : ∃ k',F .wrp .i64 (F .ar .shr .u64 (F .wrp .u64 (F .ar .add .i64 i' j')) 1) = k':=⟨_,rfl⟩
  have ek : k' = (k : Int):=hk'.symm.trans (thalf.trans (by rw [hk]))
  obtain ⟨y,hy,hye,hyx⟩:=hat k (by omega) (by omega)
  have ek1:=tp k k' ek (by omega)
  rw [hk']
  refine ⟨hC _ _ _ (ben_ok (by kernel_rfl)),?_⟩
  cbv
  refine ⟨m,x,em,hxm,?_⟩
  cbv
  refine ⟨k,y,ek,hy,?_⟩
  cbv
  refine ⟨_,hC _ _ _ (orderR_ok x y hxe hye _ rfl),?_⟩
  have hneg:=orderR_neg x y
  generalize orderR x y = n at hneg
  have hn1 : F .bnot (F .cmp .lss n 0) = true→k < s:=fun g=>hyx.1 (by
   rw [Bool.eq_false_iff]
   intro g2
   have:=(cn n).2 (hneg.2 g2)
   rw [this,hF] at g
   simp [sy] at g)
  have hn2 : F .bnot (F .cmp .lss n 0) = false→¬ k < s:=fun g g2=>by
   have h3 : F .cmp .lss n 0 = true:=by rw [hF] at g ⊢; simpa [sy] using g
   have:=hneg.1 ((cn n).1 h3)
   rw [hyx.2 g2] at this
   simp at this
  cbv
  refine ⟨fun e=>?_,fun e=>?_⟩ <;> cbv
  ·obtain ⟨i2,hi2⟩ : ∃ i2,F .ar .add .i64 k' 1 = i2:=⟨_,rfl⟩
   rw [hi2]
   exact ⟨(k + 1,j,i2,j'),⟨hi2.symm.trans ek1,ej,(show a ≤ k + 1 by omega),(show k + 1 ≤ s from hn1 e),g3,g4⟩,(show j - (k + 1) < j - i by omega),le_of [] (by simp [leSl,leOb,injK,memK,parK,noTup,lk,rn0,rnA,plain])⟩
  ·exact ⟨(i,k,i',k'),⟨ei,ek,g1,g2,(show s ≤ k by have:=hn2 e; omega),(show k ≤ m by omega)⟩,(show k - i < j - i by omega),le_of [] (by simp [leSl,leOb,injK,memK,parK,noTup,lk,rn0,rnA,plain])⟩
 ·have hij : ¬ i < j:=fun g=>by have:=tl.2 g; rw [f] at this; simp at this
  have his : i = s:=by omega
  have hstart : BwdI (A ++ L1) L2 B x m rows:=⟨L2,[],by simp,by rw [hrows,hLs]; simp,by simp; omega⟩
  refine ⟨Nat × Int × List (List AV),fun y=>{ slots:=[(17,aI y.2.1),(14,aI i'),(0,.own 0 0),(1,aI a'),(2,aI m'),(3,aI b'),(4,.clo 105 [])],obs:=[(0,.row 37 26 y.2.2 0 0)],ctr:=5,par:=5 },fun y=>y.2.1 = (y.1 : Int)∧i ≤ y.1∧y.1 ≤ m∧BwdI (A ++ L1) L2 B x y.1 y.2.2,fun y=>y.1,⟨(m,m',rows),⟨em,(show i ≤ m by omega),Nat.le_refl _,hstart⟩,le_of [] (by simp [leSl,leOb,injK,memK,parK,noTup,lk,rn0,rnA,plain,aI])⟩,fun y hy=>?_⟩
  obtain ⟨k,k',q⟩:=y
  obtain ⟨ek,t1,t2,hq⟩:=hy
  simp only at ek t1 t2 hq
  have hqev : ∀ z,z ∈ q→isEv z:=fun z hz=>hr z (by
   have:=hq.mem hz
   rw [hrows,hLs]
   simp only [List.mem_append,List.mem_cons] at this ⊢
   rcases this with (h | h) | h | h | h <;> simp [h])
  have hql : q.length = rows.length:=by rw [hq.len,hrows,hLs]; simp; omega
  have tl2:=(lt_iff k i k' i' ek ei).2
  have hal : (A ++ L1).length = i:=by simp; omega
  have ts1:=fun h=>ts k k' ek h (by omega)
  cbv
  refine ⟨fun e=>?_,fun e=>?_⟩ <;> cbv
  ·have hki:=tl2.1 e
   obtain ⟨u1,y,u2,u3⟩:=hq.step (by omega)
   obtain ⟨k1,hk1⟩ : ∃ k1,k1 = k - 1:=⟨_,rfl⟩
   have ek2 : F .ar .sub .i64 k' 1 = (k1 : Int):=(ts1 (by omega)).trans (by rw [hk1])
   have u2 : q[k1]? = some y:=by rw [hk1]; exact u2
   have hyl : y.length = 26:=(hqev y (List.mem_of_getElem? u2)).len
   have hxl : x.length = 26:=hxe.len
   have hkq : k1 < q.length:=(List.getElem?_eq_some_iff.1 u2).1
   refine ⟨hC _ _ _ (ben_ok (by kernel_rfl)),?_⟩
   cbv
   refine ⟨k1,y,ek2,u2,?_⟩
   cbv
   refine ⟨k,x,ek,u1,?_⟩
   cbv
   refine ⟨k,x,ek,u1,?_⟩
   cbv
   refine ⟨.mk hyl,?_⟩
   cbv
   obtain ⟨q2,hq2⟩ : ∃ q2,F .set q k y = q2:=⟨_,rfl⟩
   rw [hq2]
   have eq2 : q2 = q.set k y:=by rw [← hq2,hF]; rfl
   obtain ⟨c2,hc2⟩ : ∃ c2,q2[k1]? = some c2:=⟨_,List.getElem?_eq_getElem (by rw [eq2]; simpa using hkq)⟩
   refine ⟨k1,c2,ek2,hc2,?_⟩
   cbv
   refine ⟨.mk hxl,?_⟩
   cbv
   obtain ⟨q3,hq3⟩ : ∃ q3,F .set q2 k1 x = q3:=⟨_,rfl⟩
   rw [hq3]
   have eq3 : q3 = (q.set k y).set (k - 1) x:=by rw [← hq3,hF,eq2,hk1]; rfl
   obtain ⟨k2,hk2⟩ : ∃ k2,F .ar .sub .i64 k' 1 = k2:=⟨_,rfl⟩
   rw [hk2]
   exact ⟨(k1,k2,q3),⟨hk2.symm.trans ek2,(show i ≤ k1 by omega),(show k1 ≤ m by omega),by rw [eq3,hk1]; exact u3⟩,(show k1 < k by omega),Le.trans le_fresh (le_of [] (by simp [St.fresh,freshObs,Ob.fresh,mapS,killR,relT,leSl,leOb,injK,memK,parK,noTup,lk,rn0,rnA,plain]))⟩
  ·have hki : ¬ i < k:=fun g=>by have:=tl2.2 g; rw [e] at this; simp at this
   have:=hq.stop (by omega)
   exact hQ _ (by cbv; exact ⟨⟨this.trans hfin.symm,trivial⟩,trivial⟩)
set_option maxHeartbeats 2000000 in
theorem t32 {F : Sy} {C : Key→List AV→Res→Prop} {D : Code→(AE→St→Prop)→St→Prop} (hF : F = sy) (hC : ∀ k l r,CSem Try.prog k l r→C k l r) (hD : ∀ c Q s,awp F C D E79 c Q s→D c Q s) (d : Nat) (ih : Mrg d) (rows : List (List AV)) (a m b : Nat) (a' m' b' : Int) (ea : a' = (a : Int)) (em : m' = (m : Int)) (eb : b' = (b : Int)) (A L R B : List (List AV)) (hrows : rows = A ++ (L ++ (R ++ B))) (hA : A.length = a) (hL : a + L.length = m) (hR : m + R.length = b) (h0 : 0 < L.length) (h1 : 0 < R.length) (hsL : Srt ltR L) (hsR : Srt ltR R) (hlen : rows.length ≤ 500000000) (hr : ∀ r ∈ rows,isEv r) (rows' : List (List AV)) (hrows' : rows' = A ++ (isort ltR (L ++ R) ++ B)) (hd : b - a ≤ d + 1)
  (mid n s0 r0 : Nat) (c' n' s0' r0' : Int) (hmid : mid = (a + b) / 2) (ec : c' = (mid : Int)) (hn : n = mid + m) (en : n' = (n : Int)) (es0 : s0' = (s0 : Int)) (er0 : r0' = (r0 : Int)) (k1 : a ≤ s0) (k2 : n ≤ b + s0) (k3 : s0 ≤ r0) (k4 : r0 ≤ m) (k5 : r0 ≤ mid) (k6 : r0 = m ∨ r0 = mid) (k7 : s0 = a ∨ n = b + s0) (hl2 : 2 ≤ L.length) (hr2 : 2 ≤ R.length) :
  awp F C D E79 (dropSeq 6 body79) (fun e st=>match e with | .normal=>retOKW Try.f113.results.toList [(0,.row 37 26 rows' 0 0)] (.pure []) st | .ret=>retOKW Try.f113.results.toList [(0,.row 37 26 rows' 0 0)] (.pure []) st | .exit _=>False)
   { slots:=[(20,aI s0'),(21,aI r0'),(19,aI n'),(18,aI c'),(0,.own 0 0),(1,aI a'),(2,aI m'),(3,aI b'),(4,.clo 105 [])],obs:=[(0,.row 37 26 rows 0 0)],ctr:=5,par:=5 }:=by
 have hlr : rows.length = b + B.length:=by rw [hrows]; simp; omega
 have es : ∀ k : Nat,k ≤ 1000000000→∀ l : Nat,l ≤ k→F .ar .sub .i64 (k : Int) (l : Int) = ((k - l : Nat) : Int):=fun k hk l hl=>by rw [hF]; exact (wrap_in (by omega) (by omega)).trans (by omega)
 have ep : ∀ k : Nat,k ≤ 1000000000→∀ l : Nat,l ≤ 1000000000→F .ar .add .i64 (k : Int) (l : Int) = ((k + l : Nat) : Int):=fun k hk l hl=>by rw [hF]; exact (wrap_in (by omega) (by omega)).trans (by omega)
 have eh : ∀ (i j : Nat) (i' j' : Int),i' = (i : Int)→j' = (j : Int)→i ≤ 1000000000→j ≤ 1000000000→F .wrp .i64 (F .ar .shr .u64 (F .wrp .u64 (F .ar .add .i64 i' j')) 1) = (((i + j) / 2 : Nat) : Int):=fun i j i' j' hi hj h2 h3=>by rw [hi,hj,ep i h2 j h3,hF]; exact half_eq5 i j h2 h3
 have lt_iff : ∀ (i j : Nat) (i' j' : Int),i' = (i : Int)→j' = (j : Int)→(F .cmp .lss i' j' = true ↔ i < j)∧(F .cmp .gtr i' j' = true ↔ j < i):=fun i j i' j' hi hj=>by rw [hF,hi,hj]; simp [sy]
 have cn : ∀ n : Int,F .cmp .lss n 0 = true ↔ n < 0:=fun n=>by rw [hF]; simp [sy]
 obtain ⟨p',hp'⟩ : ∃ p',F .ar .sub .i64 n' 1 = p':=⟨_,rfl⟩
 have epp : p' = ((n - 1 : Nat) : Int):=by rw [← hp',en]; exact es n (by omega) 1 (by omega)
 have hLat : ∀ k,a ≤ k→k < m→rows[k]? = L[k - a]?:=fun k h1 h2=>by
  rw [hrows,List.getElem?_append_right (by omega),List.getElem?_append_left (by omega),hA]
 have hRat : ∀ k,m ≤ k→k < b→rows[k]? = R[k - m]?:=fun k h1 h2=>by
  rw [hrows,List.getElem?_append_right (by omega),List.getElem?_append_right (by omega),List.getElem?_append_left (by omega),hA]
  congr 1; omega
 have hget : ∀ k,k < b→∃ y,rows[k]? = some y∧isEv y:=fun k hk=>by
  have : k < rows.length:=by omega
  exact ⟨_,List.getElem?_eq_getElem this,hr _ (List.getElem_mem this)⟩
 obtain ⟨Pf,hPf⟩ : ∃ Pf : Nat→Bool,Pf = fun c=>match rows[c]?,rows[n - 1 - c]? with | some x,some y=>!ltR y x | _,_=>false:=⟨_,rfl⟩
 have hPat : ∀ c x y,rows[c]? = some x→rows[n - 1 - c]? = some y→(Pf c = true ↔ ltR y x = false):=fun c x y hx hy=>by rw [hPf]; simp [hx,hy]
 have hmono : ∀ c c',a ≤ c'→c' < c→c < m→m ≤ n - 1 - c→n - 1 - c' < b→Pf c = true→Pf c' = true:=by
  intro c d hd1 hd2 hc1 hc2 hc3 hP
  obtain ⟨x,hx,_⟩:=hget c (by omega)
  obtain ⟨y,hy,_⟩:=hget (n - 1 - c) (by omega)
  obtain ⟨x2,hx2,_⟩:=hget d (by omega)
  obtain ⟨y2,hy2,_⟩:=hget (n - 1 - d) (by omega)
  rw [hPat c x y hx hy] at hP
  rw [hPat d x2 y2 hx2 hy2]
  have l1 : ltR x x2 = false:=srt_get hsL (by rw [← hLat d (by omega) (by omega)]; exact hx2) (by rw [← hLat c (by omega) (by omega)]; exact hx) (by omega)
  have l2 : ltR y2 y = false:=srt_get hsR (by rw [← hRat (n - 1 - c) (by omega) (by omega)]; exact hy) (by rw [← hRat (n - 1 - d) (by omega) (by omega)]; exact hy2) (by omega)
  exact swo_ltR.le_trans (swo_ltR.le_trans l1 hP) l2
 obtain ⟨s,hs1,hs2,hs3⟩:=bsplit Pf s0 (r0 - s0) (fun c c' h1 h2 h3 h4=>hmono c c' (by omega) h2 (by omega) (by omega) (by omega) h4)
 cbv
 rw [hp']
 refine ⟨Nat × Nat × Int × Int,fun y=>{ slots:=[(20,aI y.2.2.1),(21,aI y.2.2.2),(22,aI p'),(18,aI c'),(19,aI n'),(0,.own 0 0),(1,aI a'),(2,aI m'),(3,aI b'),(4,.clo 105 [])],obs:=[(0,.row 37 26 rows 0 0)],ctr:=5,par:=5 },fun y=>y.2.2.1 = (y.1 : Int)∧y.2.2.2 = (y.2.1 : Int)∧s0 ≤ y.1∧y.1 ≤ s∧s ≤ y.2.1∧y.2.1 ≤ r0,fun y=>y.2.1 - y.1,⟨(s0,r0,s0',r0'),⟨es0,er0,Nat.le_refl _,hs1,(show s ≤ r0 by omega),Nat.le_refl _⟩,le_of [] (by simp [leSl,leOb,injK,memK,parK,noTup,lk,rn0,rnA,plain,aI])⟩,fun y hy=>?_⟩
 obtain ⟨i,j,i',j'⟩:=y
 obtain ⟨ei,ej,g1,g2,g3,g4⟩:=hy
 simp only at ei ej g1 g2 g3 g4
 have tl:=(lt_iff i j i' j' ei ej).1
 have thalf:=eh i j i' j' ei ej (by omega) (by omega)
 have tp : ∀ (k : Nat) (k' : Int),k' = (k : Int)→k ≤ 500000000→F .ar .add .i64 k' 1 = ((k + 1 : Nat) : Int):=fun k k' hk h=>by rw [hk]; exact ep k (by omega) 1 (by omega)
 have tpc : ∀ (k : Nat) (k' : Int),k' = (k : Int)→k ≤ n - 1→F .ar .sub .i64 p' k' = ((n - 1 - k : Nat) : Int):=fun k k' hk h=>by rw [hk,epp]; exact es (n - 1) (by omega) k h
 have tend : i ≤ n→F .ar .sub .i64 n' i' = ((n - i : Nat) : Int):=fun h=>by rw [ei,en]; exact es n (by omega) i h
 cbv
 refine ⟨fun f=>?_,fun f=>?_⟩ <;> cbv
 ·have hij:=tl.1 f
  obtain ⟨k,hk⟩ : ∃ k,k = (i + j) / 2:=⟨_,rfl⟩
  obtain ⟨k',hk'⟩ : ∃ k',F .wrp .i64 (F .ar .shr .u64 (F .wrp .u64 (F .ar .add .i64 i' j')) 1) = k':=⟨_,rfl⟩
  have ek : k' = (k : Int):=hk'.symm.trans (thalf.trans (by rw [hk]))
  obtain ⟨x,hx,hxe⟩:=hget k (by omega)
  obtain ⟨l,hl⟩ : ∃ l,l = n - 1 - k:=⟨_,rfl⟩
  obtain ⟨y,hy,hye⟩:=hget l (by omega)
  have ek1:=tp k k' ek (by omega)
  have el : F .ar .sub .i64 p' k' = (l : Int):=(tpc k k' ek (by omega)).trans (by rw [hl])
  have hP:=hPat k x y hx (by rw [← hl]; exact hy)
  have hPs:=hs3 k (by omega) (by omega)
  rw [hk']
  refine ⟨hC _ _ _ (ben_ok (by kernel_rfl)),?_⟩
  cbv
  refine ⟨l,y,el,hy,?_⟩
  cbv
  refine ⟨k,x,ek,hx,?_⟩
  cbv
  refine ⟨_,hC _ _ _ (orderR_ok y x hye hxe _ rfl),?_⟩
  have hneg:=orderR_neg y x
  generalize orderR y x = q at hneg
  have hn1 : F .bnot (F .cmp .lss q 0) = true→k < s:=fun g=>hPs.1 (hP.2 (by
   rw [Bool.eq_false_iff]
   intro g2
   have:=(cn q).2 (hneg.2 g2)
   rw [this,hF] at g
   simp [sy] at g))
  have hn2 : F .bnot (F .cmp .lss q 0) = false→¬ k < s:=fun g g2=>by
   have h3 : F .cmp .lss q 0 = true:=by rw [hF] at g ⊢; simpa [sy] using g
   have:=hneg.1 ((cn q).1 h3)
   rw [hP.1 (hPs.2 g2)] at this
   simp at this
  cbv
  refine ⟨fun e=>?_,fun e=>?_⟩ <;> cbv
  ·obtain ⟨i2,hi2⟩ : ∃ i2,F .ar .add .i64 k' 1 = i2:=⟨_,rfl⟩
   rw [hi2]
   exact ⟨(k + 1,j,i2,j'),⟨hi2.symm.trans ek1,ej,(show s0 ≤ k + 1 by omega),(show k + 1 ≤ s from hn1 e),g3,g4⟩,(show j - (k + 1) < j - i by omega),le_of [] (by simp [leSl,leOb,injK,memK,parK,noTup,lk,rn0,rnA,plain])⟩
  ·exact ⟨(i,k,i',k'),⟨ei,ek,g1,g2,(show s ≤ k by have:=hn2 e; omega),(show k ≤ r0 by omega)⟩,(show k - i < j - i by omega),le_of [] (by simp [leSl,leOb,injK,memK,parK,noTup,lk,rn0,rnA,plain])⟩
 ·have hij : ¬ i < j:=fun g=>by have:=tl.2 g; rw [f] at this; simp at this
  have his : i = s:=by omega
  obtain ⟨e,he⟩ : ∃ e,e = n - i:=⟨_,rfl⟩
  obtain ⟨e',he'⟩ : ∃ e',F .ar .sub .i64 n' i' = e':=⟨_,rfl⟩
  have ee : e' = (e : Int):=he'.symm.trans ((tend (by omega)).trans (by rw [he]))
  have hie : i + e = mid + m:=by omega
  obtain ⟨cf1,cf2⟩:=cut_found swo_ltR hsL hsR (i - a) (e - m) (by omega) (by omega) (fun x y hx hj hy=>by
   have hil : i - a < L.length:=(List.getElem?_eq_some_iff.1 hx).1
   have hx2 : rows[i]? = some x:=by rw [hLat i (by omega) (by omega)]; exact hx
   have hy2 : rows[n - 1 - i]? = some y:=by rw [hRat _ (by omega) (by omega),show n - 1 - i - m = e - m - 1 by omega]; exact hy
   have h1:=hPat i x y hx2 hy2
   have h2:=hs3 i (by omega) (by omega)
   cases h3 : ltR y x
   ·have:=h2.1 (h1.2 h3); omega
   ·rfl) (fun u v hi hu hv=>by
   have hjl : e - m < R.length:=(List.getElem?_eq_some_iff.1 hv).1
   have hu2 : rows[i - 1]? = some u:=by rw [hLat _ (by omega) (by omega),show i - 1 - a = i - a - 1 by omega]; exact hu
   have hv2 : rows[n - 1 - (i - 1)]? = some v:=by rw [hRat _ (by omega) (by omega),show n - 1 - (i - 1) - m = e - m by omega]; exact hv
   exact (hPat (i - 1) u v hu2 hv2).1 ((hs3 (i - 1) (by omega) (by omega)).2 (by omega)))
  obtain ⟨L1,hL1⟩ : ∃ L1,L1 = L.take (i - a):=⟨_,rfl⟩
  obtain ⟨L2,hL2⟩ : ∃ L2,L2 = L.drop (i - a):=⟨_,rfl⟩
  obtain ⟨R1,hR1⟩ : ∃ R1,R1 = R.take (e - m):=⟨_,rfl⟩
  obtain ⟨R2,hR2⟩ : ∃ R2,R2 = R.drop (e - m):=⟨_,rfl⟩
  have hLs : L = L1 ++ L2:=by rw [hL1,hL2,List.take_append_drop]
  have hRs : R = R1 ++ R2:=by rw [hR1,hR2,List.take_append_drop]
  have lL1 : a + L1.length = i:=by rw [hL1]; simp; omega
  have lL2 : i + L2.length = m:=by rw [hL2]; simp; omega
  have lR1 : m + R1.length = e:=by rw [hR1]; simp; omega
  have lR2 : e + R2.length = b:=by rw [hR2]; simp; omega
  have sL:=hLs ▸ hsL
  have sR:=hRs ▸ hsR
  obtain ⟨sL1,sL2,_⟩:=List.pairwise_append.1 sL
  obtain ⟨sR1,sR2,_⟩:=List.pairwise_append.1 sR
  have hmc:=merge_cut swo_ltR L1 L2 R1 R2 sL sR (by rw [hL2,hR1]; exact cf1) (by rw [hL1,hR2]; exact cf2)
  have hfin : rows' = (A ++ isort ltR (L1 ++ R1)) ++ (isort ltR (L2 ++ R2) ++ B):=by
   rw [hrows',hLs,hRs,← hmc]; simp
  have hA1 : (A ++ L1).length = i:=by simp; omega
  have hrows0 : rows = A ++ (L1 ++ (L2 ++ (R1 ++ (R2 ++ B)))):=by rw [hrows,hLs,hRs]; simp
  exact ⟨_,le_of [] (by simp [leSl,leOb,injK,memK,parK,noTup,lk,rn0,rnA,plain,aI]),hD _ _ _ (t38 hF hC hD d ih rows rows' a i m mid n e b a' i' m' c' n' b' ea ei em ec en eb hn (by omega) A L1 R1 L2 R2 B hrows0 hA lL1 lL2 lR1 lR2 sL1 sR1 sL2 sR2 (by omega) (by omega) hlen hr hfin)⟩
set_option maxHeartbeats 2000000 in
theorem symMerge_ok : ∀ (d : Nat),Mrg d:=by
 intro d
 induction d with
 | zero=>intro rows a m b; intros; omega
 | succ d ih =>
 intro rows a m b a' m' b' ea em eb A L R B hrows hA hL hR h0 h1 hsL hsR hd hlen hr rows' hrows'
 have hlr : rows.length = b + B.length:=by rw [hrows]; simp; omega
 refine of_textW gam_ok mixed E79 Try.func113 (by kernel_rfl) rfl rfl (by simp) (by decide) rfl fun F C D hF hC hD=>?_
 have es : ∀ k : Nat,k ≤ 1000000000→∀ l : Nat,l ≤ k→F .ar .sub .i64 (k : Int) (l : Int) = ((k - l : Nat) : Int):=fun k hk l hl=>by rw [hF]; exact (wrap_in (by omega) (by omega)).trans (by omega)
 have ep : ∀ k : Nat,k ≤ 1000000000→∀ l : Nat,l ≤ 1000000000→F .ar .add .i64 (k : Int) (l : Int) = ((k + l : Nat) : Int):=fun k hk l hl=>by rw [hF]; exact (wrap_in (by omega) (by omega)).trans (by omega)
 have eh : ∀ (i j : Nat) (i' j' : Int),i' = (i : Int)→j' = (j : Int)→i ≤ 1000000000→j ≤ 1000000000→F .wrp .i64 (F .ar .shr .u64 (F .wrp .u64 (F .ar .add .i64 i' j')) 1) = (((i + j) / 2 : Nat) : Int):=fun i j i' j' hi hj h2 h3=>by rw [hi,hj,ep i h2 j h3,hF]; exact half_eq5 i j h2 h3
 have lt_iff : ∀ (i j : Nat) (i' j' : Int),i' = (i : Int)→j' = (j : Int)→(F .cmp .lss i' j' = true ↔ i < j)∧(F .cmp .gtr i' j' = true ↔ j < i):=fun i j i' j' hi hj=>by rw [hF,hi,hj]; simp [sy]
 have cn : ∀ n : Int,F .cmp .lss n 0 = true ↔ n < 0:=fun n=>by rw [hF]; simp [sy]
 have c1 : F .cmp .eql (F .ar .sub .i64 m' a') 1 = true→L.length = 1:=fun g=>by
  rw [ea,em,es m (by omega) a (by omega),hF] at g
  simp [sy] at g
  omega
 have c1n : F .cmp .eql (F .ar .sub .i64 m' a') 1 = false→2 ≤ L.length:=fun g=>by
  rw [ea,em,es m (by omega) a (by omega),hF] at g
  simp [sy] at g
  omega
 have c2' : F .cmp .eql (F .ar .sub .i64 b' m') 1 = true→R.length = 1:=fun g=>by
  rw [eb,em,es b (by omega) m (by omega),hF] at g
  simp [sy] at g
  omega
 have c2n : F .cmp .eql (F .ar .sub .i64 b' m') 1 = false→2 ≤ R.length:=fun g=>by
  rw [eb,em,es b (by omega) m (by omega),hF] at g
  simp [sy] at g
  omega
 obtain ⟨mid,hmid⟩ : ∃ mid,mid = (a + b) / 2:=⟨_,rfl⟩
 obtain ⟨c',hc'⟩ : ∃ c',F .wrp .i64 (F .ar .shr .u64 (F .wrp .u64 (F .ar .add .i64 a' b')) 1) = c':=⟨_,rfl⟩
 have ec : c' = (mid : Int):=hc'.symm.trans ((eh a b a' b' ea eb (by omega) (by omega)).trans (by rw [hmid]))
 obtain ⟨n,hn⟩ : ∃ n,n = mid + m:=⟨_,rfl⟩
 obtain ⟨n',hn'⟩ : ∃ n',F .ar .add .i64 c' m' = n':=⟨_,rfl⟩
 have en : n' = (n : Int):=by rw [← hn',ec,em,ep mid (by omega) m (by omega),hn]
 obtain ⟨b0',hb0'⟩ : ∃ b0',F .ar .sub .i64 n' b' = b0':=⟨_,rfl⟩
 have tgm:=(lt_iff m mid m' c' em ec).2
 have efb : b ≤ n→b0' = ((n - b : Nat) : Int):=fun h=>by rw [← hb0',en,eb]; exact es n (by omega) b h
 cbv
 refine ⟨fun h=>?_,fun h=>?_⟩ <;> cbv
 ·exact ⟨_,le_of [] (by simp [leSl,leOb,injK,memK,parK,noTup,lk,rn0,rnA,plain,aI]),hD _ _ _ (c2 hF hC hD rows a m b a' m' b' ea em eb A L R B hrows hA hL hR h0 h1 hsL hsR hlen hr rows' hrows' (c1 h) _ (fun s h=>h))⟩
 have hl2:=c1n h
 refine ⟨fun h'=>?_,fun h'=>?_⟩ <;> cbv
 ·exact ⟨_,le_of [] (by simp [leSl,leOb,injK,memK,parK,noTup,lk,rn0,rnA,plain,aI]),hD _ _ _ (c14 hF hC hD rows a m b a' m' b' ea em eb A L R B hrows hA hL hR h0 h1 hsL hsR hlen hr rows' hrows' (c2' h') _ (fun s h=>h))⟩
 have hr2:=c2n h'
 rw [hc',hn']
 refine ⟨fun e0=>?_,fun e0=>?_⟩ <;> cbv
 ·have hmm:=tgm.1 e0
  rw [hb0']
  exact ⟨_,le_of [] (by simp [leSl,leOb,injK,memK,parK,noTup,lk,rn0,rnA,plain,aI]),hD _ _ _ (t32 hF hC hD d ih rows a m b a' m' b' ea em eb A L R B hrows hA hL hR h0 h1 hsL hsR hlen hr rows' hrows' hd mid n (n - b) mid c' n' b0' c' hmid ec hn en (efb (by omega)) ec (by omega) (by omega) (by omega) (by omega) (by omega) (by omega) (by omega) hl2 hr2)⟩
 ·have hmm : ¬ mid < m:=fun g=>by have:=tgm.2 g; rw [e0] at this; simp at this
  exact ⟨_,le_of [] (by simp [leSl,leOb,injK,memK,parK,noTup,lk,rn0,rnA,plain,aI]),hD _ _ _ (t32 hF hC hD d ih rows a m b a' m' b' ea em eb A L R B hrows hA hL hR h0 h1 hsL hsR hlen hr rows' hrows' hd mid n a m c' n' a' m' hmid ec hn en ea em (by omega) (by omega) (by omega) (by omega) (by omega) (by omega) (by omega) hl2 hr2)⟩
end Go.Proofs.Ytdnaadcbimbfmaa
namespace Go.Proofs.Ytdnaadcbimbfmaa
open Go Go.RowKit Am
noncomputable def body69 : Code:=(Try.f110.body).getD .skip
abbrev E69 : En:={ n:=63,wrs:=[112,113],cuts:=[6,13] }
theorem ev_stp {l l0 : List (List AV)} (h : StP ltR l l0) (hr : ∀ r ∈ l0,isEv r) : ∀ r ∈ l,isEv r:=fun r hm=>hr r (h.mem swo_ltR hm)
abbrev sh69 (sl : List (Nat × AV)) (n' : Int) (q : List (List AV)) : St:={ slots:=sl ++ [(0,.own 0 0),(1,aI n'),(2,.clo 105 [])],obs:=[(0,.row 37 26 q 0 0)],ctr:=3,par:=3 }
theorem addF7 {F : Sy} (hF : F = sy) (i j : Nat) (i' j' : Int) (hi : i' = (i : Int)) (hj : j' = (j : Int)) (h : i + j ≤ 4000000000) : F .ar .add .i64 i' j' = ((i + j : Nat) : Int):=by rw [hF,hi,hj]; exact (wrap_in (by omega) (by omega)).trans (by omega)
theorem mulF {F : Sy} (hF : F = sy) (i j : Nat) (i' j' : Int) (hi : i' = (i : Int)) (hj : j' = (j : Int)) (h : i * j ≤ 4000000000) : F .ar .mul .i64 i' j' = ((i * j : Nat) : Int):=by
 rw [hF,hi,hj]
 have e : (i : Int) * (j : Int) = ((i * j : Nat) : Int):=by simp
 exact (by rw [show sy .ar .mul .i64 (i : Int) (j : Int) = IntKind.i64.wrap ((i : Int) * (j : Int)) from rfl,e]; exact wrap_in (by omega) (by omega))
theorem leF7 {F : Sy} (hF : F = sy) (i j : Nat) (i' j' : Int) (hi : i' = (i : Int)) (hj : j' = (j : Int)) : F .cmp .leq i' j' = true ↔ i ≤ j:=by rw [hF,hi,hj]; simp [sy]
theorem ltF7 {F : Sy} (hF : F = sy) (i j : Nat) (i' j' : Int) (hi : i' = (i : Int)) (hj : j' = (j : Int)) : F .cmp .lss i' j' = true ↔ i < j:=by rw [hF,hi,hj]; simp [sy]
theorem t69_13 {F : Sy} {C : Key→List AV→Res→Prop} {D : Code→(AE→St→Prop)→St→Prop} (hF : F = sy) (hC : ∀ k l r,CSem Try.prog k l r→C k l r)
  (rows q : List (List AV)) (hr : ∀ r ∈ rows,isEv r) (hlen : rows.length ≤ 100000000) (n' : Int) (en : n' = (rows.length : Int)) (bs j a : Nat) (bs' a' : Int) (ebs : bs' = (bs : Int)) (ea : a' = (a : Int)) (haj : a = j * (2 * bs)) (hbs : 0 < bs) (hbn : bs < rows.length)
  (hq : Mrg1 ltR rows bs j q) (hn : rows.length < a + 2 * bs) (han : a ≤ rows.length) (Q : AE→St→Prop)
  (hQ : ∀ (q2 : List (List AV)) (b2 : Int) (s : St),b2 = ((bs * 2 : Nat) : Int)→Mrg1 ltR rows (bs * 2) 0 q2→Le s (sh69 [(6,aI b2)] n' q2)→Q .normal s) :
  awp F C D E69 (nav [1,1,1,1,0,0,1,0,1,1] body69) Q (sh69 [(7,aI a'),(6,aI bs')] n' q):=by
 have e1:=addF7 hF a bs a' bs' ea ebs (by omega)
 have e2:=mulF hF bs 2 bs' 2 ebs rfl (by omega)
 obtain ⟨c',hc'⟩ : ∃ c',F .ar .add .i64 a' bs' = c':=⟨_,rfl⟩
 obtain ⟨b2,hb2⟩ : ∃ b2,F .ar .mul .i64 bs' 2 = b2:=⟨_,rfl⟩
 have ec : c' = ((a + bs : Nat) : Int):=hc'.symm.trans e1
 have eb2 : b2 = ((bs * 2 : Nat) : Int):=hb2.symm.trans e2
 have tl:=ltF7 hF (a + bs) rows.length c' n' ec en
 have hql:=hq.len
 have hqe:=ev_stp hq.stp hr
 have key : a + bs < rows.length→∃ A L R,q = A ++ (L ++ (R ++ []))∧A.length = a∧a + L.length = a + bs∧a + bs + R.length = rows.length∧Srt ltR L∧Srt ltR R∧Mrg1 ltR rows (bs * 2) 0 (A ++ (isort ltR (L ++ R) ++ [])):=fun h=>by
  obtain ⟨A,M,B,h1,h2,h3,h4⟩:=split_at q a rows.length han (by omega)
  have hB : B = []:=List.eq_nil_of_length_eq_zero (by omega)
  subst hB
  obtain ⟨X,L,R,k1,k2,k3,k4⟩:=split_at M 0 bs (by omega) (by omega)
  have hX : X = []:=List.eq_nil_of_length_eq_zero k2
  subst hX
  simp only [List.nil_append] at k1
  have hl : q = A ++ (L ++ (R ++ [])):=by rw [h1,k1]; simp
  obtain ⟨s1,s2,s3⟩:=hq.step swo_ltR hl (by rw [h2,haj]) (by omega) (.inr ⟨by omega,rfl⟩)
  have hfl : (A ++ (isort ltR (L ++ R) ++ [])).length ≤ (j + 1) * (2 * bs):=by
   have:=(isort_ok swo_ltR (L ++ R)).2.2
   rw [Nat.succ_mul]
   simp [this]; omega
  exact ⟨A,L,R,hl,h2,by omega,by omega,s1,s2,by rw [Nat.mul_comm]; exact s3.over hfl⟩
 cbv
 rw [hc']
 refine ⟨fun h=>?_,fun h=>?_⟩ <;> cbv
 ·have hlt:=tl.1 h
  obtain ⟨A,L,R,h1,h2,h3,h4,h5,h6,h7⟩:=key hlt
  obtain ⟨q3,hq3⟩ : ∃ q3,q3 = A ++ (isort ltR (L ++ R) ++ []):=⟨_,rfl⟩
  rw [← hq3] at h7
  have en : n' = (rows.length : Int):=en
  have ea : a' = (a : Int):=ea
  have ec : c' = ((a + bs : Nat) : Int):=ec
  refine ⟨_,_,hC _ _ _ (symMerge_ok (rows.length - a) q a (a + bs) rows.length a' c' n' ea ec en A L R [] h1 h2 h3 h4 (by omega) (by omega) h5 h6 (by omega) (by omega) hqe q3 hq3),?_⟩
  cbv
  rw [hb2]
  exact hQ _ b2 _ eb2 h7 (Le.trans le_fresh (le_of [] (by simp [St.fresh,freshObs,Ob.fresh,mapS,killR,relT,leSl,leOb,injK,memK,parK,noTup,lk,rn0,rnA,plain])))
 ·have hlt:=nfB tl h
  rw [hb2]
  exact hQ _ b2 _ eb2 (by rw [Nat.mul_comm]; exact hq.stop (by omega)) (le_of [] (by simp [leSl,leOb,injK,memK,parK,noTup,lk,rn0,rnA,plain]))
theorem t69_6 {F : Sy} {C : Key→List AV→Res→Prop} {D : Code→(AE→St→Prop)→St→Prop} (hF : F = sy) (hC : ∀ k l r,CSem Try.prog k l r→C k l r) (hD : ∀ c Q s,awp F C D E69 c Q s→D c Q s)
  (rows q : List (List AV)) (hr : ∀ r ∈ rows,isEv r) (hlen : rows.length ≤ 100000000) (n' : Int) (en : n' = (rows.length : Int)) (j a : Nat) (a' : Int) (ea : a' = (a : Int)) (haj : a = j * 20) (han : a ≤ rows.length) (hn : rows.length < a + 20)
  (hq : Ins1 ltR rows 20 j q) (rows' : List (List AV)) (hrows' : rows' = isort ltR rows) :
  awp F C D E69 (nav [1,1,1] body69) (fun e st=>match e with | .normal=>retOKW Try.f110.results.toList [(0,.row 37 26 rows' 0 0)] (.pure []) st | .ret=>retOKW Try.f110.results.toList [(0,.row 37 26 rows' 0 0)] (.pure []) st | .exit _=>False) (sh69 [(7,aI a'),(6,aI 20)] n' q):=by
 have hql:=hq.len
 have hqe:=ev_stp hq.stp hr
 obtain ⟨A,M,B,h1,h2,h3,h4⟩:=split_at q a rows.length han (by omega)
 have hB : B = []:=List.eq_nil_of_length_eq_zero (by omega)
 obtain ⟨q2,hq2⟩ : ∃ q2,q2 = A ++ (isort ltR M ++ B):=⟨_,rfl⟩
 have hi2:=hq.step swo_ltR h1 (by rw [h2,haj]) (.inr ⟨by omega,hB⟩)
 rw [← hq2] at hi2
 have hm2:=Mrg1.of hi2 (by rw [hi2.len,Nat.succ_mul]; omega)
 cbv
 refine ⟨_,_,hC _ _ _ (insertionSort_ok q a rows.length a' n' ea en A M B h1 h2 h3 (by omega) hqe q2 hq2),?_⟩
 cbv
 refine ⟨Nat × Int × List (List AV),fun y=>sh69 [(6,aI y.2.1)] n' y.2.2,fun y=>y.2.1 = (y.1 : Int)∧0 < y.1∧y.1 ≤ 2 * rows.length + 20∧Mrg1 ltR rows y.1 0 y.2.2,fun y=>2 * rows.length + 20 - y.1,⟨(20,20,q2),⟨rfl,(show 0 < 20 by omega),(show 20 ≤ 2 * rows.length + 20 by omega),hm2⟩,Le.trans le_fresh (le_of [] (by simp [St.fresh,freshObs,Ob.fresh,mapS,killR,relT,leSl,leOb,injK,memK,parK,noTup,lk,rn0,rnA,plain,aI]))⟩,fun y hy=>?_⟩
 obtain ⟨bs,bs',r⟩:=y
 obtain ⟨ebs,hb0,hb1,hr1⟩:=hy
 simp only at ebs hb0 hb1 hr1
 have en : n' = (rows.length : Int):=en
 have tl:=ltF7 hF bs rows.length bs' n' ebs en
 have e2:=mulF hF 2 bs 2 bs' rfl ebs (by omega)
 obtain ⟨b2,hb2⟩ : ∃ b2,F .ar .mul .i64 2 bs' = b2:=⟨_,rfl⟩
 have eb2 : b2 = ((2 * bs : Nat) : Int):=hb2.symm.trans e2
 cbv
 refine ⟨fun h=>?_,fun h=>?_⟩ <;> cbv
 ·have hbn:=tl.1 h
  rw [hb2]
  refine ⟨Nat × Nat × Int × Int × List (List AV),fun y=>sh69 [(7,aI y.2.2.1),(8,aI y.2.2.2.1),(6,aI bs')] n' y.2.2.2.2,fun y=>y.2.1 = y.1 * (2 * bs)∧y.2.2.1 = (y.2.1 : Int)∧y.2.2.2.1 = ((y.2.1 + 2 * bs : Nat) : Int)∧y.2.1 ≤ rows.length∧Mrg1 ltR rows bs y.1 y.2.2.2.2,fun y=>rows.length - y.2.1,⟨(0,0,0,b2,r),⟨by simp,rfl,by simp [eb2],Nat.zero_le _,hr1⟩,le_of [] (by simp [leSl,leOb,injK,memK,parK,noTup,lk,rn0,rnA,plain,aI])⟩,fun y hy=>?_⟩
  obtain ⟨k,c,c',d',p⟩:=y
  obtain ⟨hck,ec,ed,hcn,hp⟩:=hy
  simp only at hck ec ed hcn hp
  have ebs : bs' = (bs : Int):=ebs
  have en : n' = (rows.length : Int):=en
  have eb2 : b2 = ((2 * bs : Nat) : Int):=eb2
  have tl2:=leF7 hF (c + 2 * bs) rows.length d' n' ed en
  have e3:=addF7 hF c bs c' bs' ec ebs (by omega)
  have hpl:=hp.len
  have hpe:=ev_stp hp.stp hr
  obtain ⟨m',hm'⟩ : ∃ m',F .ar .add .i64 c' bs' = m':=⟨_,rfl⟩
  have em : m' = ((c + bs : Nat) : Int):=hm'.symm.trans e3
  have e4 : c + 2 * bs ≤ rows.length→F .ar .add .i64 d' b2 = ((c + 2 * bs + 2 * bs : Nat) : Int):=fun h=>addF7 hF (c + 2 * bs) (2 * bs) d' b2 ed eb2 (by omega)
  have hk2 : c + 2 * bs = (k + 1) * (2 * bs):=(congrArg (· + 2 * bs) (show c = k * (2 * bs) from hck)).trans (Nat.succ_mul k (2 * bs)).symm
  have key : c + 2 * bs ≤ rows.length→∃ A L R B,p = A ++ (L ++ (R ++ B))∧A.length = c∧c + L.length = c + bs∧c + bs + R.length = c + 2 * bs∧Srt ltR L∧Srt ltR R∧Mrg1 ltR rows bs (k + 1) (A ++ (isort ltR (L ++ R) ++ B)):=fun h=>by
   obtain ⟨A,M,B,h1,h2,h3,h4⟩:=split_at p c (c + 2 * bs) (by omega) (by omega)
   obtain ⟨X,L,R,k1,k2,k3,k4⟩:=split_at M 0 bs (by omega) (by omega)
   have hX : X = []:=List.eq_nil_of_length_eq_zero k2
   subst hX
   simp only [List.nil_append] at k1
   have hl : p = A ++ (L ++ (R ++ B)):=by rw [h1,k1]; simp
   obtain ⟨s1,s2,s3⟩:=hp.step swo_ltR hl (by rw [h2,hck]) (by omega) (.inl (by omega))
   exact ⟨A,L,R,B,hl,h2,by omega,by omega,s1,s2,s3⟩
  cbv
  refine ⟨fun g=>?_,fun g=>?_⟩ <;> cbv
  ·have hle:=tl2.1 g
   obtain ⟨A,L,R,B,h1,h2,h3,h4,h5,h6,h7⟩:=key hle
   obtain ⟨q3,hq3⟩ : ∃ q3,q3 = A ++ (isort ltR (L ++ R) ++ B):=⟨_,rfl⟩
   rw [← hq3] at h7
   have ec : c' = (c : Int):=ec
   have ed : d' = ((c + 2 * bs : Nat) : Int):=ed
   have em : m' = ((c + bs : Nat) : Int):=em
   obtain ⟨d2,hd2⟩ : ∃ d2,F .ar .add .i64 d' b2 = d2:=⟨_,rfl⟩
   have ed2 : d2 = ((c + 2 * bs + 2 * bs : Nat) : Int):=hd2.symm.trans (e4 hle)
   rw [hm']
   refine ⟨_,_,hC _ _ _ (symMerge_ok (2 * bs) p c (c + bs) (c + 2 * bs) c' m' d' ec em ed A L R B h1 h2 h3 h4 (by omega) (by omega) h5 h6 (by omega) (by omega) hpe q3 hq3),?_⟩
   cbv
   rw [hb2,hd2]
   exact ⟨(k + 1,c + 2 * bs,d',d2,q3),⟨hk2,ed,ed2,hle,h7⟩,(show rows.length - (c + 2 * bs) < rows.length - c by omega),Le.trans le_fresh (le_of [] (by simp [St.fresh,freshObs,Ob.fresh,mapS,killR,relT,leSl,leOb,injK,memK,parK,noTup,lk,rn0,rnA,plain]))⟩
  ·have hle:=nfB tl2 g
   have ec : c' = (c : Int):=ec
   refine ⟨_,le_of [] (by simp [leSl,leOb,injK,memK,parK,noTup,lk,rn0,rnA,plain]),hD _ _ _ (t69_13 hF hC rows p hr hlen n' en bs k c bs' c' ebs ec hck hb0 hbn hp (by omega) hcn _ (fun q4 b4 s eb4 hq4 hs=>?_))⟩
   exact ⟨(bs * 2,b4,q4),⟨eb4,(show 0 < bs * 2 by omega),(show bs * 2 ≤ 2 * rows.length + 20 by omega),hq4⟩,(show 2 * rows.length + 20 - bs * 2 < 2 * rows.length + 20 - bs by omega),hs⟩
 ·have hbn:=nfB tl h
  have:=hr1.done swo_ltR (by have:=hr1.len; omega)
  exact ⟨⟨this.trans hrows'.symm,trivial⟩,trivial⟩
theorem stable_ok (rows : List (List AV)) (n' : Int) (en : n' = (rows.length : Int)) (hlen : rows.length ≤ 100000000) (hr : ∀ r ∈ rows,isEv r) (rows' : List (List AV)) (hrows' : rows' = isort ltR rows) :
  CSem Try.prog (.wr 110 [(0,.row 37 26 rows 0 0)] [(0,.row 37 26 rows' 0 0)]) [.own 0 0,aI n',.clo 105 []] (.pure []):=by
 refine of_textW gam_ok mixed E69 Try.func110 (by kernel_rfl) rfl rfl (by simp) (by decide) rfl fun F C D hF hC hD=>?_
 cbv
 refine ⟨Nat × Nat × Int × Int × List (List AV),fun y=>sh69 [(7,aI y.2.2.1),(8,aI y.2.2.2.1),(6,aI 20)] n' y.2.2.2.2,fun y=>y.2.1 = y.1 * 20∧y.2.2.1 = (y.2.1 : Int)∧y.2.2.2.1 = ((y.2.1 + 20 : Nat) : Int)∧y.2.1 ≤ rows.length∧Ins1 ltR rows 20 y.1 y.2.2.2.2,fun y=>rows.length - y.2.1,⟨(0,0,0,20,rows),⟨by simp,rfl,by simp,Nat.zero_le _,Ins1.start rows 20⟩,le_of [] (by simp [leSl,leOb,injK,memK,parK,noTup,lk,rn0,rnA,plain,aI])⟩,fun y hy=>?_⟩
 obtain ⟨k,c,c',d',p⟩:=y
 obtain ⟨hck,ec,ed,hcn,hp⟩:=hy
 simp only at hck ec ed hcn hp
 have en : n' = (rows.length : Int):=en
 have tl2:=leF7 hF (c + 20) rows.length d' n' ed en
 have hpl:=hp.len
 have hpe:=ev_stp hp.stp hr
 have e4 : c + 20 ≤ rows.length→F .ar .add .i64 d' 20 = ((c + 20 + 20 : Nat) : Int):=fun h=>addF7 hF (c + 20) 20 d' 20 ed rfl (by omega)
 cbv
 refine ⟨fun g=>?_,fun g=>?_⟩ <;> cbv
 ·have hle:=tl2.1 g
  obtain ⟨A,M,B,h1,h2,h3,h4⟩:=split_at p c (c + 20) (by omega) (by omega)
  obtain ⟨q2,hq2⟩ : ∃ q2,q2 = A ++ (isort ltR M ++ B):=⟨_,rfl⟩
  have hi2:=hp.step swo_ltR h1 (by rw [h2,hck]) (.inl (by omega))
  rw [← hq2] at hi2
  have ec : c' = (c : Int):=ec
  have ed : d' = ((c + 20 : Nat) : Int):=ed
  obtain ⟨d2,hd2⟩ : ∃ d2,F .ar .add .i64 d' 20 = d2:=⟨_,rfl⟩
  have ed2 : d2 = ((c + 20 + 20 : Nat) : Int):=hd2.symm.trans (e4 hle)
  refine ⟨_,_,hC _ _ _ (insertionSort_ok p c (c + 20) c' d' ec ed A M B h1 h2 h3 (by omega) hpe q2 hq2),?_⟩
  cbv
  rw [hd2]
  exact ⟨(k + 1,c + 20,d',d2,q2),⟨(by rw [Nat.succ_mul,← hck]),ed,ed2,hle,hi2⟩,(show rows.length - (c + 20) < rows.length - c by omega),Le.trans le_fresh (le_of [] (by simp [St.fresh,freshObs,Ob.fresh,mapS,killR,relT,leSl,leOb,injK,memK,parK,noTup,lk,rn0,rnA,plain]))⟩
 ·have hle:=nfB tl2 g
  have ec : c' = (c : Int):=ec
  exact ⟨_,le_of [] (by simp [leSl,leOb,injK,memK,parK,noTup,lk,rn0,rnA,plain]),hD _ _ _ (t69_6 hF hC hD rows p hr hlen n' en k c c' ec hck hcn (by omega) hp rows' hrows')⟩
theorem sortStable_ok (rows : List (List AV)) (hlen : rows.length ≤ 100000000) (hr : ∀ r ∈ rows,isEv r) (rows' : List (List AV)) (hrows' : rows' = isort ltR rows) :
  CSem Try.prog (.wr 104 [(0,.row 37 26 rows 0 0)] [(0,.row 37 26 rows' 0 0)]) [.own 0 0,.clo 105 []] (.pure []):=by
 refine of_textW gam_ok mixed { n:=9,wrs:=[110] } Try.func104 (by kernel_rfl) rfl rfl (by simp) (by decide) rfl fun F C D hF hC hD=>?_
 have hl : F .len rows = (rows.length : Int):=by rw [hF]; rfl
 obtain ⟨n',hn'⟩ : ∃ n',F .len rows = n':=⟨_,rfl⟩
 have en : n' = (rows.length : Int):=hn'.symm.trans hl
 cbv
 rw [hn']
 refine ⟨_,_,hC _ _ _ (stable_ok rows n' en hlen hr rows' hrows'),?_⟩
 cbv
end Go.Proofs.Ytdnaadcbimbfmaa
namespace Go.Proofs.Ytdnaadcbimbfmaa
open Go Go.RowKit Am
def evR (l : List Ev) : List (List AV):=l.map Ev.ac
theorem evR_len (l : List Ev) : (evR l).length = l.length:=by simp [evR]
theorem evR_get {l : List Ev} {i : Nat} {e : Ev} (h : l[i]? = some e) : (evR l)[i]? = some e.ac:=by simp [evR,h]
theorem all1_ok (b a : Ev) (r : Bool) (hr : r = endsB b a) : CSem Try.prog (.fn 103) [.agg b.ac,.ept a.ac 0] (.pure [aB r]):=by
 refine of_text gam_ok mixed { n:=7 } Try.func103 (by kernel_rfl) rfl rfl (by simp) (by decide) fun F C D hF hC hD=>?_
 have h1:=hC _ _ _ (ends_ok b a r hr)
 cbv
 refine ⟨_,h1,?_⟩
 cbv
 exact ⟨rfl,trivial⟩
def idxP (p : Ev→Bool) (l : List Ev) : Int:=match l.findIdx? p with | some i=>i | none=>-1
theorem idxP_at {p : Ev→Bool} {l : List Ev} {i : Nat} {e : Ev} (h : ∀ (k : Nat) (x : Ev),k < i→l[k]? = some x→p x = false) (hi : l[i]? = some e) (he : p e = true) : idxP p l = i:=by
 have : l.findIdx? p = some i:=by
  rw [List.findIdx?_eq_some_iff_getElem]
  obtain ⟨h1,h2⟩:=List.getElem?_eq_some_iff.1 hi
  exact ⟨h1,by rw [h2]; exact he,fun j hj=>by simpa using h j _ hj (List.getElem?_eq_getElem (by omega))⟩
 rw [idxP,this]
theorem idxP_none {p : Ev→Bool} {l : List Ev} (h : ∀ (k : Nat) (x : Ev),l[k]? = some x→p x = false) : idxP p l = -1:=by
 have : l.findIdx? p = none:=by
  rw [List.findIdx?_eq_none_iff]
  intro x hx
  obtain ⟨k,hk,rfl⟩:=List.getElem_of_mem hx
  exact h k _ (List.getElem?_eq_getElem hk)
 rw [idxP,this]
theorem indexFunc_ok (g : Nat) (caps : List AV) (p : Ev→Bool) (hp : ∀ e,CSem Try.prog (.fn g) (.agg e.ac :: caps) (.pure [aB (p e)])) (l : List Ev) (hl : l.length ≤ 100000000) (rows : List (List AV)) (hrows : rows = evR l) (r : Int) (hr : r = idxP p l) :
  CSem Try.prog (.fn 101) [.sl rows,.clo g caps] (.pure [aI r]):=by
 refine of_text gam_ok mixed { n:=19 } Try.func101 (by kernel_rfl) rfl rfl (by simp) (by decide) fun F C D hF hC hD=>?_
 obtain ⟨n',hn'⟩ : ∃ n',F .len rows = n':=⟨_,rfl⟩
 have en : n' = (l.length : Int):=by rw [← hn',lenF hF,hrows,evR_len]
 cbv
 rw [hn']
 refine ⟨Nat × Int,fun x=>{ slots:=[(8,aI x.2),(7,aI n'),(0,.sl rows),(1,.clo g caps)],obs:=[],ctr:=0 },fun x=>x.2 = (x.1 : Int)∧x.1 ≤ l.length∧∀ k e,k < x.1→l[k]? = some e→p e = false,fun x=>l.length - x.1,⟨(0,0),⟨rfl,Nat.zero_le _,fun k e hk=>by omega⟩,le_of [] (by simp [leSl,leOb,injK,memK,parK,noTup,lk,rn0,rnA,plain,aI])⟩,fun x hx=>?_⟩
 obtain ⟨i,i'⟩:=x
 obtain ⟨ei,hi,hz⟩:=hx
 simp only at ei hi hz
 have en : n' = (l.length : Int):=en
 have tl:=ltF hF i l.length i' n' ei en
 have ep:=incF hF ei (by omega)
 cbv
 refine br (fun h=>?_) (fun h=>?_) <;> cbv
 ·have hil:=tl.1 h
  obtain ⟨e,he⟩ : ∃ e,l[i]? = some e:=⟨_,List.getElem?_eq_getElem hil⟩
  have hrow : rows[i]? = some e.ac:=by rw [hrows]; exact evR_get he
  refine ⟨i,e.ac,ei,hrow,rfl,?_⟩
  cbv
  refine ⟨_,hC _ _ _ (hp e),?_⟩
  generalize hpe : p e = c
  cbv
  refine br (fun g=>?_) (fun g=>?_) <;> cbv
  ·have : i' = r:=by rw [hr,ei]; exact (idxP_at (fun k x hk hx=>hz k x hk hx) he (hpe.trans g)).symm
   rw [this]; exact ⟨rfl,trivial⟩
  ·obtain ⟨j,hj⟩ : ∃ j,F .ar .add .i64 i' 1 = j:=⟨_,rfl⟩
   rw [hj]
   refine ⟨(i + 1,j),⟨hj.symm.trans ep,hil,fun k x hk hx=>?_⟩,(show l.length - (i + 1) < l.length - i by omega),le_of [] (by simp [leSl,leOb,injK,memK,parK,noTup,lk,rn0,rnA,plain])⟩
   by_cases e1 : k < i
   ·exact hz k x e1 hx
   ·have : k = i:=by have:=(show k < i + 1 from hk); omega
    rw [this,he] at hx
    injection hx with hx
    rw [← hx]; exact hpe.trans g
 ·have hge : l.length ≤ i:=by have:=nfB tl h; omega
  have : (-1 : Int) = r:=by rw [hr]; exact (idxP_none (fun k x hx=>hz k x (by have:=(List.getElem?_eq_some_iff.1 hx).1; omega) hx)).symm
  rw [← this]; exact ⟨rfl,trivial⟩
theorem idxP_any (p : Ev→Bool) (l : List Ev) : decide (0 ≤ idxP p l) = l.any p:=by
 unfold idxP
 cases h : l.findIdx? p with
 | none =>
  rw [List.findIdx?_eq_none_iff] at h
  have : l.any p = false:=by rw [List.any_eq_false]; intro x hx; simp [h x hx]
  rw [this]; rfl
 | some i =>
  rw [List.findIdx?_eq_some_iff_getElem] at h
  obtain ⟨h1,h2,_⟩:=h
  have : l.any p = true:=List.any_eq_true.2 ⟨_,List.getElem_mem h1,h2⟩
  rw [this]; simp
theorem containsFunc_ok (g : Nat) (caps : List AV) (p : Ev→Bool) (hp : ∀ e,CSem Try.prog (.fn g) (.agg e.ac :: caps) (.pure [aB (p e)])) (l : List Ev) (hl : l.length ≤ 100000000) (rows : List (List AV)) (hrows : rows = evR l) (r : Bool) (hr : r = l.any p) :
  CSem Try.prog (.fn 102) [.sl rows,.clo g caps] (.pure [aB r]):=by
 refine of_text gam_ok mixed { n:=9 } Try.func102 (by kernel_rfl) rfl rfl (by simp) (by decide) fun F C D hF hC hD=>?_
 have hi:=idxP_any p l
 rw [← hr] at hi
 obtain ⟨j,hj⟩ : ∃ j,j = idxP p l:=⟨_,rfl⟩
 rw [← hj] at hi
 have h1:=hC _ _ _ (indexFunc_ok g caps p hp l hl rows hrows j hj)
 clear hj
 cbv
 refine ⟨_,h1,?_⟩
 cbv
 subst hF; simp [sy,← hi]
end Go.Proofs.Ytdnaadcbimbfmaa
namespace Go.Proofs.Ytdnaadcbimbfmaa
open Go Go.RowKit Am Go.ChangeShapes Go.WideShapes Go.ChangeAt
open Go.ChangeMaps (open_string shut_string)
open Go.Deep (open_slice)
def evR' (l : List Ev) : List (List AV):=l.map fun e=>e.vs.toList.map AV.v
section
variable {H : Type} {enc : TypeId × Value→H} {w : World} {base : Nat} {spare : Nat→Bool} {held : Bool}
theorem cs_one {l : List Value} {i : Nat} {v : Value} (h : (l.drop i).take 1 = [v]) : l[i]? = some v:=by
 have:=congrArg (·[0]?) h
 simpa [List.getElem?_take] using this
theorem fld {n t : Nat} {fs : Array Field} {cs : List Value} {x : DataW H × List MemPlace} (ht : Try.prog.underlying t = some (.struct fs)) (h : DataW.trod enc Try.prog w base spare held n t cs = some x) {i : Nat} {f : Field} (hf : fs[i]? = some f) :
  ∃ m y,DataW.trod enc Try.prog w base spare held m f.type ((cs.drop f.offset).take (Try.prog.cellsOf f.type)) = some y:=by
 obtain ⟨xs,m,_,_,_,hxl,hg⟩:=DataW.trod_struct ht h
 have hi : i < xs.length:=by rw [hxl]; exact (Array.getElem?_eq_some_iff.1 hf).1
 exact ⟨m,xs[i],by rw [hg i f hf]; exact List.getElem?_eq_getElem hi⟩
theorem fI {n t : Nat} {fs : Array Field} {cs : List Value} {x : DataW H × List MemPlace} (ht : Try.prog.underlying t = some (.struct fs)) (h : DataW.trod enc Try.prog w base spare held n t cs = some x) (i off : Nat) {f : Field} (hf : fs[i]? = some f) (h3 : f.type = 3) (ho : f.offset = off) :
  ∃ a : Int,cs[off]? = some (vI a):=by
 obtain ⟨m,y,hy⟩:=fld ht h hf
 rw [h3,ho] at hy
 obtain ⟨a,ha,_⟩:=DataW.trod_int Try.underlying3 hy
 rw [show Try.prog.cellsOf 3 = 1 by kernel_rfl] at ha
 exact ⟨a,cs_one ha⟩
theorem fS {n t : Nat} {fs : Array Field} {cs : List Value} {x : DataW H × List MemPlace} (ht : Try.prog.underlying t = some (.struct fs)) (h : DataW.trod enc Try.prog w base spare held n t cs = some x) (i off : Nat) {f : Field} (hf : fs[i]? = some f) (h3 : f.type = 9) (ho : f.offset = off) :
  ∃ a : ByteArray,cs[off]? = some (.string a):=by
 obtain ⟨m,y,hy⟩:=fld ht h hf
 rw [h3,ho] at hy
 obtain ⟨a,ha,_⟩:=DataW.trod_string Try.underlying9 hy
 rw [show Try.prog.cellsOf 9 = 1 by kernel_rfl] at ha
 exact ⟨a,cs_one ha⟩
theorem dt_of {n : Nat} {cs : List Value} {x : DataW H × List MemPlace} (h : DataW.trod enc Try.prog w base spare held n 33 cs = some x) : ∃ d : Dt,cs = d.vs.toList:=by
 have hl : cs.length = 2:=(DataW.trod_struct Try.underlying33 h).choose_spec.choose_spec.2.2.1.trans (by kernel_rfl)
 obtain ⟨a,ha⟩:=fI Try.underlying33 h 0 0 rfl rfl rfl
 obtain ⟨b,hb⟩:=fI Try.underlying33 h 1 1 rfl rfl rfl
 refine ⟨⟨a,b⟩,List.ext_getElem? fun i=>?_⟩
 match i with
 | 0=>exact ha
 | 1=>exact hb
 | n + 2=>rw [List.getElem?_eq_none (by omega),List.getElem?_eq_none (by simp [Dt.vs])]
theorem vv_of {n : Nat} {cs : List Value} {x : DataW H × List MemPlace} (h : DataW.trod enc Try.prog w base spare held n 29 cs = some x) : ∃ v : VV,cs = (vvs v).toList:=by
 obtain ⟨xs,m,_,_,hl,hxl,hg⟩:=DataW.trod_array Try.underlying29 h
 have hl : cs.length = 16:=hl.trans (by kernel_rfl)
 have c3 : Try.prog.cellsOf 3 = 1:=by kernel_rfl
 have hi : ∀ i : Fin 16,∃ a : Int,cs[i.1]? = some (vI a):=fun i=>by
  have h1:=hg i.1 i.2
  rw [List.getElem?_eq_getElem (by rw [hxl]; exact i.2)] at h1
  obtain ⟨a,ha,_⟩:=DataW.trod_int Try.underlying3 h1
  rw [c3,Nat.mul_one] at ha
  exact ⟨a,cs_one ha⟩
 obtain ⟨v,hv⟩ : ∃ v : VV,∀ i : Fin 16,cs[i.1]? = some (vI (v i)):=⟨fun i=>(hi i).choose,fun i=>(hi i).choose_spec⟩
 refine ⟨v,List.ext_getElem? fun i=>?_⟩
 by_cases e : i < 16
 ·rw [hv ⟨i,e⟩]
  have:=vvs_get v i e
  rw [Nat.mul_one] at this
  rw [Array.getElem?_toList]
  exact this.symm
 ·rw [List.getElem?_eq_none (by omega),List.getElem?_eq_none (by simp [vvs]; omega)]
theorem sub_get {cs ds : List Value} {off n : Nat} (h : (cs.drop off).take n = ds) (i : Nat) (hi : i < n) : cs[off + i]? = ds[i]?:=by
 rw [← h,List.getElem?_take,if_pos hi,List.getElem?_drop]
theorem op_of {n : Nat} {cs : List Value} {x : DataW H × List MemPlace} (h : DataW.trod enc Try.prog w base spare held n 35 cs = some x) : ∃ o : Opn,cs = o.vs.toList:=by
 have hl : cs.length = 7:=(DataW.trod_struct Try.underlying35 h).choose_spec.choose_spec.2.2.1.trans (by kernel_rfl)
 obtain ⟨a0,h0⟩:=fI Try.underlying35 h 0 0 rfl rfl rfl
 obtain ⟨a1,h1⟩:=fS Try.underlying35 h 1 1 rfl rfl rfl
 obtain ⟨a2,h2⟩:=fS Try.underlying35 h 2 2 rfl rfl rfl
 obtain ⟨a3,h3⟩:=fS Try.underlying35 h 3 3 rfl rfl rfl
 obtain ⟨a4,h4⟩:=fI Try.underlying35 h 4 4 rfl rfl rfl
 obtain ⟨m,y,hy⟩:=fld (i:=5) Try.underlying35 h rfl
 obtain ⟨d,hd⟩:=dt_of hy
 have c28 : Try.prog.cellsOf 33 = 2:=by kernel_rfl
 have g0:=sub_get (n:=2) (c28 ▸ hd) 0 (by omega)
 have g1:=sub_get (n:=2) (c28 ▸ hd) 1 (by omega)
 refine ⟨⟨a0,a1,a2,a3,a4,d⟩,List.ext_getElem? fun i=>?_⟩
 match i with
 | 0=>exact h0
 | 1=>exact h1
 | 2=>exact h2
 | 3=>exact h3
 | 4=>exact h4
 | 5=>exact g0
 | 6=>exact g1
 | n + 7=>rw [List.getElem?_eq_none (by omega),List.getElem?_eq_none (by simp [Opn.vs])]
theorem ev_of {n : Nat} {cs : List Value} {x : DataW H × List MemPlace} (h : DataW.trod enc Try.prog w base spare held n 37 cs = some x) : ∃ e : Ev,cs = e.vs.toList:=by
 have hl : cs.length = 26:=(DataW.trod_struct Try.underlying37 h).choose_spec.choose_spec.2.2.1.trans (by kernel_rfl)
 obtain ⟨m0,y0,hy0⟩:=fld (i:=0) Try.underlying37 h rfl
 obtain ⟨d,hd⟩:=dt_of hy0
 obtain ⟨a1,h1⟩:=fI Try.underlying37 h 1 2 rfl rfl rfl
 obtain ⟨m2,y2,hy2⟩:=fld (i:=2) Try.underlying37 h rfl
 obtain ⟨v,hv⟩:=vv_of hy2
 obtain ⟨m3,y3,hy3⟩:=fld (i:=3) Try.underlying37 h rfl
 obtain ⟨o,ho⟩:=op_of hy3
 have c28 : Try.prog.cellsOf 33 = 2:=by kernel_rfl
 have c30 : Try.prog.cellsOf 29 = 16:=by kernel_rfl
 have c32 : Try.prog.cellsOf 35 = 7:=by kernel_rfl
 have gd:=sub_get (n:=2) (c28 ▸ hd)
 have gv:=sub_get (n:=16) (c30 ▸ hv)
 have go:=sub_get (n:=7) (c32 ▸ ho)
 refine ⟨⟨d,a1,v,o⟩,List.ext_getElem? fun i=>?_⟩
 match i with
 | 0=>exact gd 0 (by omega)
 | 1=>exact gd 1 (by omega)
 | 2=>exact h1
 | 3=>exact gv 0 (by omega)
 | 4=>exact gv 1 (by omega)
 | 5=>exact gv 2 (by omega)
 | 6=>exact gv 3 (by omega)
 | 7=>exact gv 4 (by omega)
 | 8=>exact gv 5 (by omega)
 | 9=>exact gv 6 (by omega)
 | 10=>exact gv 7 (by omega)
 | 11=>exact gv 8 (by omega)
 | 12=>exact gv 9 (by omega)
 | 13=>exact gv 10 (by omega)
 | 14=>exact gv 11 (by omega)
 | 15=>exact gv 12 (by omega)
 | 16=>exact gv 13 (by omega)
 | 17=>exact gv 14 (by omega)
 | 18=>exact gv 15 (by omega)
 | 19=>exact go 0 (by omega)
 | 20=>exact go 1 (by omega)
 | 21=>exact go 2 (by omega)
 | 22=>exact go 3 (by omega)
 | 23=>exact go 4 (by omega)
 | 24=>exact go 5 (by omega)
 | 25=>exact go 6 (by omega)
 | n + 26=>rw [List.getElem?_eq_none (by omega),List.getElem?_eq_none (by simp [Ev.vs])]
theorem repl_map (S : Nat→Prop) (xs : List Value) (h : ∀ x ∈ xs,x.oneCell' = true) : RepL w S (xs.map AV.v) xs :=
 ⟨by simp,fun i u x hu hx=>by
  simp only [List.getElem?_map,hx,Option.map_some] at hu
  injection hu with hu
  subst hu
  exact .v _ (h x (List.mem_of_getElem? hx))⟩
theorem ev_one (e : Ev) : ∀ x ∈ e.vs.toList,x.oneCell' = true:=by
 intro x hx
 simp [Ev.vs] at hx
 rcases hx with h | h | h | h | h | h | h | h | h | h | h | h | h | h | h | h | h | h | h | h | h | h | h | h | h | h <;> (subst h; rfl)
set_option maxRecDepth 100000 in
theorem evs_of {v : Value} {d : DataW H} {ps : List MemPlace} {b0 : Nat} (hval : Value.okWide Try.prog w .any b0 22 v) (h : DataW.Trod enc Try.prog w 0 (fun _=>true) true 22 v d ps) : ∃ l : List Ev,Rep w (AllB w) (.sl (evR' l)) v:=by
 obtain ⟨a0,len0,cap0,rfl⟩:=okWide_slice Try.underlying22 hval
 have hlt : ∀ x ∈ ps,x.block < w.heap.size:=by obtain ⟨m,hm⟩:=h; exact DataW.trod_lt m _ _ _ hm
 obtain ⟨fuel,hf⟩:=h
 rcases open_slice Try.underlying22 hf with ⟨hcs,_⟩ | ⟨a,len,cap,m,k,D,Pl,hcs,hb,hlc,hcm,hm,hx,hel⟩
 ·simp [Value.cells] at hcs
  obtain ⟨rfl,rfl,rfl⟩:=hcs
  exact ⟨[],.c (.nil _ _ (fun _=>rfl))⟩
 ·simp [Value.cells] at hcs
  obtain ⟨rfl,rfl,rfl⟩:=hcs
  have hm : m = cap0:=by simpa using hm
  have c34 : Try.prog.cellsOf 37 = 26:=by kernel_rfl
  rw [c34] at hx hel
  have he : ∀ i : Fin len0,∃ e : Ev,∀ j u,e.vs.toList[j]? = some u→w.cell? (a.add (i.1 * 26 + j)) = some u:=fun i=>by
   obtain ⟨cs,hc,ht⟩:=hel i.1 (by have:=i.2; omega)
   obtain ⟨e,rfl⟩:=ev_of ht
   refine ⟨e,fun j u hu=>?_⟩
   obtain ⟨_,_,hat⟩:=World.cells?_some hc
   have hj : j < 26:=by have:=(List.getElem?_eq_some_iff.1 hu).1; simpa [Ev.vs] using this
   rw [← Am.add_add,hat j hj]; exact hu
  obtain ⟨f,hf⟩ : ∃ f : Fin len0→Ev,∀ i j u,(f i).vs.toList[j]? = some u→w.cell? (a.add (i.1 * 26 + j)) = some u:=⟨fun i=>(he i).choose,fun i=>(he i).choose_spec⟩
  by_cases h0 : len0 = 0
  ·subst h0
   exact ⟨[],.c (.nil _ _ (fun h=>by cases h))⟩
  have hblk : a.block < w.heap.size:=by
   have h1:=hf ⟨0,by omega⟩ 0 _ (show _ = some (vI _) from rfl)
   by_cases hlt : a.block < w.heap.size
   ·exact hlt
   ·have h2 : (a.add ((⟨0,by omega⟩ : Fin len0).1 * 26 + 0)).block = a.block:=Am.add_block _ _
    have h3 : w.heap[a.block]? = none:=Array.getElem?_eq_none (by omega)
    unfold World.cell? at h1
    rw [h2,h3] at h1
    cases h1
  have hget : ∀ i r,(evR' (List.ofFn f))[i]? = some r→∃ h : i < len0,r = (f ⟨i,h⟩).vs.toList.map AV.v:=fun i r hr=>by
   simp only [evR',List.getElem?_map] at hr
   by_cases hi : i < len0
   ·refine ⟨hi,?_⟩
    rw [List.getElem?_ofFn,dif_pos hi] at hr
    simpa using hr.symm
   ·rw [List.getElem?_ofFn,dif_neg hi] at hr
    simp at hr
  have hl : (evR' (List.ofFn f)).length = len0:=by simp [evR']
  refine ⟨List.ofFn f,.c ?_⟩
  have:=RepC.sl (w:=w) (S:=AllB w) (evR' (List.ofFn f)) a cap0 26 (fun i j=>if h : i < len0 then (f ⟨i,h⟩).vs.toList.getD j undef else undef) hblk (fun r hr=>by
   obtain ⟨i,hi,rfl⟩:=List.getElem_of_mem hr
   obtain ⟨_,h2⟩:=hget i _ (List.getElem?_eq_getElem hi)
   rw [h2]; simp [Ev.vs]) (by rw [hl]; exact hlc) (by rw [hl]; exact Nat.le_trans hlc hcm) (fun i r hr j u hu=>?_) (fun i r hr j u hu=>?_)
  ·rw [hl] at this; exact this
  ·obtain ⟨hi,rfl⟩:=hget i r hr
   simp only [List.getElem?_map,Option.map_eq_some_iff] at hu
   obtain ⟨x,hx1,rfl⟩:=hu
   simp only [hi,dif_pos]
   rw [List.getD_eq_getElem?_getD,hx1]
   exact hf ⟨i,hi⟩ j x hx1
  ·obtain ⟨hi,rfl⟩:=hget i r hr
   simp only [List.getElem?_map,Option.map_eq_some_iff] at hu
   obtain ⟨x,hx1,rfl⟩:=hu
   simp only [hi,dif_pos]
   rw [List.getD_eq_getElem?_getD,hx1]
   exact .v _ (ev_one _ x (List.mem_of_getElem? hx1))
end
end Go.Proofs.Ytdnaadcbimbfmaa
namespace Go.Proofs.Ytdnaadcbimbfmaa
open Go Go.RowKit Am Go.ChangeShapes Go.WideShapes Go.ChangeAt
theorem rep_vvs' {w : World} {S : Nat→Prop} (u : VV) : Rep w S (.agg (vac u)) (.agg (vvs u)):=.agg (xs:=(vvs u).toList) (repl_map S (vvs u).toList (List.all_eq_true.1 (show ((vvs u).toList).all (fun v=>v.oneCell') = true from rfl)))
set_option maxRecDepth 100000 in
theorem vv1_of {H : Type} {enc : TypeId × Value→H} {w : World} {v : Value} {d : DataW H} {ps : List MemPlace} {b0 : Nat} (hval : Value.okWide Try.prog w .any b0 29 v) (h : DataW.Trod enc Try.prog w 0 (fun _=>true) true 29 v d ps) : ∃ u : VV,Rep w (AllB w) (.agg (vac u)) v:=by
 have hu:=Try.underlying29
 unfold Value.okWide at hval
 rw [hu] at hval
 obtain ⟨cs,rfl,_,_⟩:=hval
 obtain ⟨m,hm⟩:=h
 obtain ⟨u,he⟩:=vv_of hm
 have he : cs.toList = (vvs u).toList:=he
 have : cs = vvs u:=Array.toList_inj.1 he
 subst this
 exact ⟨u,rep_vvs' u⟩
end Go.Proofs.Ytdnaadcbimbfmaa
namespace Go.Proofs.Ytdnaadcbimbfmaa
open Go Go.RowKit Am
def ltE (x y : Ev) : Bool:=laterB y x
theorem swo_ltE : SWO ltE where
 asym x y h:=by
  unfold ltE at h ⊢
  rw [later_iff] at h
  rw [Bool.eq_false_iff]
  intro h2
  rw [later_iff] at h2
  omega
 ntr x y z h:=by
  unfold ltE at h ⊢
  rw [later_iff] at h ⊢
  rw [later_iff]
  omega
theorem ltR_ac (x y : Ev) : ltR x.ac y.ac = ltE x y:=by unfold ltR ltE; rw [getEv_ac,getEv_ac]
theorem ins_ac (x : Ev) : ∀ (l : List Ev),ins ltR x.ac (evR l) = evR (ins ltE x l):=by
 intro l
 induction l with
 | nil=>rfl
 | cons y l ih =>
  show ins ltR x.ac (y.ac :: evR l) = _
  simp only [ins,ltR_ac]
  split
  ·rfl
  ·rw [ih]; rfl
theorem isort_ac (l : List Ev) : isort ltR (evR l) = evR (isort ltE l):=by
 have : ∀ (l acc : List Ev),(evR l).foldl (fun acc x=>ins ltR x acc) (evR acc) = evR (l.foldl (fun acc x=>ins ltE x acc) acc):=by
  intro l
  induction l with
  | nil=>intro acc; rfl
  | cons x l ih =>
   intro acc
   show (evR l).foldl _ (ins ltR x.ac (evR acc)) = _
   rw [ins_ac,ih]; rfl
 exact this l []
theorem evR_ev (l : List Ev) : ∀ r ∈ evR l,isEv r:=fun r h=>by
 obtain ⟨e,_,rfl⟩:=List.mem_map.1 h
 exact ⟨e,rfl⟩
def liveP (l : List Ev) (a : Ev) : Bool:=addsB a.op.kind && !(l.any fun b=>endsB b a)
def liveAll (l : List Ev) : List Ev:=isort ltE (l.filter (liveP l))
abbrev sh21 (i' n' : Int) (rows out : List (List AV)) : St:={ slots:=[(8,aI i'),(7,aI n'),(6,.sl rows),(0,.sl rows),(3,.own 0 0)],obs:=[(0,.row 37 26 out 0 0)],ctr:=1 }
theorem liveAll_ok (l : List Ev) (hl : l.length ≤ 100000000) (rows : List (List AV)) (hrows : rows = evR l) (out : List (List AV)) (hout : out = evR (liveAll l)) : CSem Try.prog (.fn 93) [.sl rows] (.own 37 26 out []):=by
 refine of_text gam_ok mixed { n:=30,keep:=[25],wrs:=[104] } Try.func93 (by kernel_rfl) rfl rfl (by simp) (by decide) fun F C D hF hC hD=>?_
 obtain ⟨n',hn'⟩ : ∃ n',F .len rows = n':=⟨_,rfl⟩
 have en : n' = (l.length : Int):=by rw [← hn',lenF hF,hrows,evR_len]
 cbv
 rw [hn']
 refine ⟨Nat × Int × List (List AV),fun x=>sh21 x.2.1 n' rows x.2.2,fun x=>x.2.1 = (x.1 : Int)∧x.1 ≤ l.length∧x.2.2 = evR ((l.take x.1).filter (liveP l)),fun x=>l.length - x.1,⟨(0,0,[]),⟨rfl,Nat.zero_le _,by simp [evR]⟩,Le.trans (le_nil 3 37 26 (by rfl) (by rfl)) (le_of [] (by simp [leSl,leOb,injK,memK,parK,noTup,lk,rn0,rnA,plain,aI]))⟩,fun x hx=>?_⟩
 obtain ⟨i,i',o⟩:=x
 obtain ⟨ei,hi,ho⟩:=hx
 simp only at ei hi ho
 have en : n' = (l.length : Int):=en
 have tl:=ltF hF i l.length i' n' ei en
 have ep:=incF hF ei (by omega)
 have hol : o.length ≤ l.length:=by
  rw [ho,evR_len]
  exact Nat.le_trans (List.length_filter_le _ _) (by simp; omega)
 have hlen : ∀ r ∈ o,r.length = 26:=fun r h=>by rw [ho] at h; exact (evR_ev _ r h).len
 have room : ∀ q : List (List AV),q.length = 1→(F .len o + F .len q) * 232 ≤ 140737488355328:=fun q hq=>by rw [lenF hF,lenF hF,hq]; omega
 obtain ⟨j,hj⟩ : ∃ j,F .ar .add .i64 i' 1 = j:=⟨_,rfl⟩
 have ej : j = ((i + 1 : Nat) : Int):=hj.symm.trans ep
 cbv
 refine br (fun h=>?_) (fun h=>?_) <;> cbv
 ·have hil:=tl.1 h
  obtain ⟨e,he⟩ : ∃ e,l[i]? = some e:=⟨_,List.getElem?_eq_getElem hil⟩
  have hrow : rows[i]? = some e.ac:=by rw [hrows]; exact evR_get he
  have htake : l.take (i + 1) = l.take i ++ [e]:=by rw [List.take_add_one,he]; rfl
  have hno : liveP l e = false→o = evR ((l.take (i + 1)).filter (liveP l)):=fun h=>by rw [htake,List.filter_append,ho]; simp [evR,h]
  obtain ⟨o2,ho2⟩ : ∃ o2,o2 = F .app o [e.ac]:=⟨_,rfl⟩
  have hyes : liveP l e = true→o2 = evR ((l.take (i + 1)).filter (liveP l)):=fun h=>by rw [ho2,htake,List.filter_append,ho,hF]; simp [evR,h,sy]
  have hrm:=room [e.ac] rfl
  have hel : ∀ r ∈ [e.ac],r.length = 26:=fun r h=>by rw [List.mem_singleton.1 h]; rfl
  generalize ha : addsB e.op.kind = ad
  have hadd:=hC _ _ _ (adds_ok _ _ ha.symm)
  generalize hy : (l.any fun b=>endsB b e) = an
  have hany:=hC _ _ _ (containsFunc_ok 103 [.ept e.ac 0] (fun b=>endsB b e) (fun b=>all1_ok b e _ rfl) l hl rows hrows an hy.symm)
  have hb : F .bnot an = !an:=by rw [hF]; rfl
  have hlp : liveP l e = (ad && !an):=by unfold liveP; rw [ha,hy]
  refine ⟨i,e.ac,ei,hrow,rfl,?_⟩
  cbv
  refine ⟨_,hadd,?_⟩
  cbv
  refine br (fun g=>?_) (fun g=>?_) <;> cbv
  ·refine ⟨_,hany,?_⟩
   cbv
   refine br (fun f=>?_) (fun f=>?_) <;> cbv
   ·refine ⟨hel,hrm,?_⟩
    rw [hj]
    exact ⟨(i + 1,j,o2),⟨ej,hil,hyes (by rw [hlp,g,← hb,f]; rfl)⟩,(show l.length - (i + 1) < l.length - i by omega),le_of [(0,2)] (by simp [leSl,leOb,injK,memK,parK,noTup,lk,rn0,rnA,plain]; exact ⟨ho2.symm,rfl⟩)⟩
   ·rw [hj]
    exact ⟨(i + 1,j,o),⟨ej,hil,hno (by rw [hlp,g,← hb,f]; rfl)⟩,(show l.length - (i + 1) < l.length - i by omega),le_of [] (by simp [leSl,leOb,injK,memK,parK,noTup,lk,rn0,rnA,plain])⟩
  ·rw [hj]
   exact ⟨(i + 1,j,o),⟨ej,hil,hno (by rw [hlp,g]; rfl)⟩,(show l.length - (i + 1) < l.length - i by omega),le_of [] (by simp [leSl,leOb,injK,memK,parK,noTup,lk,rn0,rnA,plain])⟩
 ·have hge : l.length ≤ i:=by have:=nfB tl h; omega
  have hfin : o = evR (l.filter (liveP l)):=by rw [ho,List.take_of_length_le hge]
  refine ⟨_,_,hC _ _ _ (sortStable_ok o (by omega) (by rw [hfin]; exact evR_ev _) out (by rw [hout,hfin,isort_ac]; rfl)),?_⟩
  cbv
end Go.Proofs.Ytdnaadcbimbfmaa
namespace Go.Proofs.Ytdnaadcbimbfmaa
open Go Go.RowKit Am
def typI (k : Int) : Int:=if k = 1 then 1 else if k = 2 then 2 else if k = 3 then 3 else if k = 5 then 4 else if k = 7 then 5 else if k = 9 then 6 else 0
theorem typ_ok (k : Int) (r : Int) (hr : r = typI k) : CSem Try.prog (.fn 92) [aI k] (.pure [aI r]):=by
 refine of_text gam_ok mixed { n:=16 } Try.func92 (by kernel_rfl) rfl rfl (by simp) (by decide) fun F C D hF hC hD=>?_
 cbv
 refine ⟨fun h1=>?_,fun h1=>?_⟩ <;> cbv
 ·subst hF; grind [sy,typI]
 refine ⟨fun h2=>?_,fun h2=>?_⟩ <;> cbv
 ·subst hF; grind [sy,typI]
 refine ⟨fun h3=>?_,fun h3=>?_⟩ <;> cbv
 ·subst hF; grind [sy,typI]
 refine ⟨fun h4=>?_,fun h4=>?_⟩ <;> cbv
 ·subst hF; grind [sy,typI]
 refine ⟨fun h5=>?_,fun h5=>?_⟩ <;> cbv
 ·subst hF; grind [sy,typI]
 refine ⟨fun h6=>?_,fun h6=>?_⟩ <;> cbv
 ·subst hF; grind [sy,typI]
 ·subst hF; grind [sy,typI]
def keyP (key : ByteArray) (e : Ev) : Bool:=e.op.key == key
def ofL (l : List Ev) (key : ByteArray) : List Ev:=liveAll (l.filter (keyP key))
def ofT (l : List Ev) (key : ByteArray) : Int:=match (ofL l key).getLast? with | some e=>typI e.op.kind | none=>0
theorem liveAll_len (l : List Ev) : (liveAll l).length ≤ l.length:=by
 unfold liveAll
 rw [(isort_ok swo_ltE _).2.2]
 exact List.length_filter_le _ _
abbrev sh51 (i' n' : Int) (key : ByteArray) (rows out : List (List AV)) : St:={ slots:=[(11,aI i'),(10,aI n'),(9,.sl rows),(1,aS key),(6,.own 0 0)],obs:=[(0,.row 37 26 out 0 0)],ctr:=1 }
theorem of_ok (l : List Ev) (hl : l.length ≤ 100000000) (key : ByteArray) (rows : List (List AV)) (hrows : rows = evR l) (out : List (List AV)) (hout : out = evR (ofL l key)) (t : Int) (ht : t = ofT l key) : CSem Try.prog (.fn 67) [.sl rows,aS key] (.own 37 26 out [aI t]):=by
 refine of_text gam_ok mixed { n:=40,keep:=[23,26] } Try.func67 (by kernel_rfl) rfl rfl (by simp) (by decide) fun F C D hF hC hD=>?_
 obtain ⟨n',hn'⟩ : ∃ n',F .len rows = n':=⟨_,rfl⟩
 have en : n' = (l.length : Int):=by rw [← hn',lenF hF,hrows,evR_len]
 cbv
 rw [hn']
 refine ⟨Nat × Int × List (List AV),fun x=>sh51 x.2.1 n' key rows x.2.2,fun x=>x.2.1 = (x.1 : Int)∧x.1 ≤ l.length∧x.2.2 = evR ((l.take x.1).filter (keyP key)),fun x=>l.length - x.1,⟨(0,0,[]),⟨rfl,Nat.zero_le _,by simp [evR]⟩,Le.trans (le_nil 6 37 26 (by rfl) (by rfl)) (le_of [] (by simp [leSl,leOb,injK,memK,parK,noTup,lk,rn0,rnA,plain,aI]))⟩,fun x hx=>?_⟩
 obtain ⟨i,i',o⟩:=x
 obtain ⟨ei,hi,ho⟩:=hx
 simp only at ei hi ho
 have en : n' = (l.length : Int):=en
 have tl:=ltF hF i l.length i' n' ei en
 have ep:=incF hF ei (by omega)
 have hol : o.length ≤ l.length:=by
  rw [ho,evR_len]
  exact Nat.le_trans (List.length_filter_le _ _) (by simp; omega)
 have room : ∀ q : List (List AV),q.length = 1→(F .len o + F .len q) * 232 ≤ 140737488355328:=fun q hq=>by rw [lenF hF,lenF hF,hq]; omega
 obtain ⟨j,hj⟩ : ∃ j,F .ar .add .i64 i' 1 = j:=⟨_,rfl⟩
 have ej : j = ((i + 1 : Nat) : Int):=hj.symm.trans ep
 cbv
 refine br (fun h=>?_) (fun h=>?_) <;> cbv
 ·have hil:=tl.1 h
  obtain ⟨e,he⟩ : ∃ e,l[i]? = some e:=⟨_,List.getElem?_eq_getElem hil⟩
  have hrow : rows[i]? = some e.ac:=by rw [hrows]; exact evR_get he
  have htake : l.take (i + 1) = l.take i ++ [e]:=by rw [List.take_add_one,he]; rfl
  have hno : keyP key e = false→o = evR ((l.take (i + 1)).filter (keyP key)):=fun h=>by rw [htake,List.filter_append,ho]; simp [evR,h]
  obtain ⟨o2,ho2⟩ : ∃ o2,o2 = F .app o [e.ac]:=⟨_,rfl⟩
  have hyes : keyP key e = true→o2 = evR ((l.take (i + 1)).filter (keyP key)):=fun h=>by rw [ho2,htake,List.filter_append,ho,hF]; simp [evR,h,sy]
  have hrm:=room [e.ac] rfl
  have hel : ∀ r ∈ [e.ac],r.length = 26:=fun r h=>by rw [List.mem_singleton.1 h]; rfl
  have hk : F .scmp .eql e.op.key key = keyP key e:=by rw [hF,keyP,beq_toListBytes]; rfl
  refine ⟨i,e.ac,ei,hrow,rfl,?_⟩
  cbv
  refine br (fun g=>?_) (fun g=>?_) <;> cbv
  ·refine ⟨hel,hrm,?_⟩
   rw [hj]
   exact ⟨(i + 1,j,o2),⟨ej,hil,hyes (hk.symm.trans g)⟩,(show l.length - (i + 1) < l.length - i by omega),le_of [(0,2)] (by simp [leSl,leOb,injK,memK,parK,noTup,lk,rn0,rnA,plain]; exact ⟨ho2.symm,rfl⟩)⟩
  ·rw [hj]
   exact ⟨(i + 1,j,o),⟨ej,hil,hno (hk.symm.trans g)⟩,(show l.length - (i + 1) < l.length - i by omega),le_of [] (by simp [leSl,leOb,injK,memK,parK,noTup,lk,rn0,rnA,plain])⟩
 ·have hge : l.length ≤ i:=by have:=nfB tl h; omega
  have hfin : o = evR (l.filter (keyP key)):=by rw [ho,List.take_of_length_le hge]
  have hfl : (l.filter (keyP key)).length ≤ 100000000:=Nat.le_trans (List.length_filter_le _ _) hl
  refine ⟨37,26,out,[],hC _ _ _ (liveAll_ok _ hfl o hfin out hout),?_⟩
  have hln : F .len out = (out.length : Int):=lenF hF out
  have hlast : out.length = (ofL l key).length:=by rw [hout,evR_len]
  have h0 : F .cmp .eql (F .len out) 0 = true→out = []∧t = 0:=fun g=>by
   rw [hln,hF] at g
   simp [sy] at g
   refine ⟨g,?_⟩
   have : ofL l key = []:=List.eq_nil_of_length_eq_zero (by rw [← hlast,g]; rfl)
   rw [ht,ofT,this]; rfl
  have h1 : F .cmp .eql (F .len out) 0 = false→∃ (m : Nat) (e : Ev),(ofL l key)[m]? = some e∧F .ar .sub .i64 (F .len out) 1 = (m : Int)∧out[m]? = some e.ac∧t = typI e.op.kind:=fun g=>by
   rw [hln,hF] at g
   simp [sy] at g
   have hpos : 0 < out.length:=List.length_pos_iff.2 g
   have hll:=liveAll_len (l.filter (keyP key))
   have hb : out.length ≤ 100000000:=by rw [hlast]; exact Nat.le_trans hll hfl
   obtain ⟨e,he⟩ : ∃ e,(ofL l key)[out.length - 1]? = some e:=⟨_,List.getElem?_eq_getElem (by omega)⟩
   refine ⟨out.length - 1,e,he,by rw [hln,hF]; exact (wrap_in (by omega) (by omega)).trans (by omega),by rw [show out = evR (ofL l key) from hout] at *; exact evR_get he,?_⟩
   rw [ht,ofT,List.getLast?_eq_getElem?,← hlast,he]
  cbv
  refine br (fun g=>?_) (fun g=>?_) <;> cbv
  ·obtain ⟨g1,g2⟩:=h0 g
   rw [g1,g2]
   exact ⟨rfl,rfl,trivial⟩
  ·obtain ⟨m,e,q1,q2,q3,q4⟩:=h1 g
   refine ⟨m,e.ac,q2,q3,?_⟩
   cbv
   refine ⟨_,hC _ _ _ (typ_ok _ t q4),?_⟩
   cbv
   exact ⟨rfl,trivial⟩
theorem type_ok (l : List Ev) (hl : l.length ≤ 100000000) (key : ByteArray) (rows : List (List AV)) (hrows : rows = evR l) (t : Int) (ht : t = ofT l key) : CSem Try.prog (.fn 39) [.sl rows,aS key] (.pure [aI t]):=by
 refine of_text gam_ok mixed { n:=14 } Try.func39 (by kernel_rfl) rfl rfl (by simp) (by decide) fun F C D hF hC hD=>?_
 obtain ⟨out,hout⟩ : ∃ out,out = evR (ofL l key):=⟨_,rfl⟩
 have h1:=hC _ _ _ (of_ok l hl key rows hrows out hout t ht)
 clear hout
 cbv
 refine ⟨_,h1,?_⟩
 cbv
 exact ⟨rfl,trivial⟩
end Go.Proofs.Ytdnaadcbimbfmaa
