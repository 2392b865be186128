import Derived.Laws.StructEq
import Derived.Test.YtdnaadcbimbfmaaG1
set_option linter.unusedSimpArgs false
set_option linter.unusedVariables false
namespace Go.Proofs.Ytdnaadcbimbfmaa.Am
open Go Go.RowKit
variable {P : Program} {C : Key→List AV→Res→Prop}
theorem wp_val {o : Oper} {a : Act} {w w' : World} {K : Act→World→Prop} {Q : Exit→Act→World→Prop} {v : Value}
  (h : (execOp a.eval o).run P w = .ok (.value v) w') (hK : K (a.put o.dst v) w') : o.wp P a w K Q:=by
 unfold Oper.wp
 rw [h]
 exact hK
def Good (P : Program) (ev : Operand→Option AV) (obs : Obs) (op : Op) (x : AV) : Prop :=
 ∀ (a : Act) (w : World) (S : Nat→Prop) (β : Nat→Value) (B : Nat),(∀ g,S g→g < w.heap.size)→gdOK w S →
  (∀ o,o ∈ op.operands→∀ u,ev o = some u→SRep w S β obs u (a.eval o)) →
  (∀ k o,lk k obs = some o→ORep w S B (β k) o) →
  ∀ (oper : Oper),oper.op = op→∀ (K : Act→World→Prop) (Q : Exit→Act→World→Prop),
   (∀ v w' S',Gr w S w' S'→SRep w' S' β obs x v→K (a.put oper.dst v) w')→oper.wp P a w K Q
theorem srep_v {w : World} {S : Nat→Prop} {β : Nat→Value} {obs : Obs} {x y : Value} (h : SRep w S β obs (.v x) y) : y = x:=by
 have h : Rep w S (.v x) y:=h
 cases h with
 | c h=>cases h with | v _ _=>rfl
theorem srep_b {w : World} {S : Nat→Prop} {β : Nat→Value} {obs : Obs} {c : Bool} {y : Value} (h : SRep w S β obs (.b c) y) : y = .bool c:=by
 have h : Rep w S (.b c) y:=h
 cases h with
 | c h=>cases h with | b=>rfl
theorem srep_agg {w : World} {S : Nat→Prop} {β : Nat→Value} {obs : Obs} {cs : List AV} {y : Value} (h : SRep w S β obs (.agg cs) y) : ∃ xs : List Value,y = .agg xs.toArray∧RepL w S cs xs:=by
 have h : Rep w S (.agg cs) y:=h
 cases h with
 | c h=>cases h
 | agg h'=>exact ⟨_,rfl,h'⟩
theorem srep_sl {w : World} {S : Nat→Prop} {β : Nat→Value} {obs : Obs} {rows : List (List AV)} {y : Value} (h : SRep w S β obs (.sl rows) y) : RepC w S (.sl rows) y:=by
 have h : Rep w S (.sl rows) y:=h
 cases h with
 | c h=>exact h
theorem srep_clo {w : World} {S : Nat→Prop} {β : Nat→Value} {obs : Obs} {g : Nat} {caps : List AV} {y : Value} (h : SRep w S β obs (.clo g caps) y) : ∃ xs : List Value,y = .func (.func g) #[] xs.toArray∧Reps w S caps xs:=by
 have h : Rep w S (.clo g caps) y:=h
 cases h with
 | c h=>cases h
 | clo hl h'=>exact ⟨_,rfl,hl,h'⟩
theorem srep_of_rep {w : World} {S : Nat→Prop} {β : Nat→Value} {obs : Obs} {x : AV} {y : Value} (h : Rep w S x y) : SRep w S β obs x y:=by
 cases h with
 | c h =>
  cases h with
  | v _ h1=>exact .c (.v _ h1)
  | b _=>exact .c (.b _)
  | nil _ _ hn=>exact .c (.nil _ _ hn)
  | sl _ _ _ _ _ ha hlen hc hm h h2=>exact .c (.sl _ _ _ _ _ ha hlen hc hm h h2)
  | ept _ _ _ _ ha h h2=>exact .c (.ept _ _ _ _ ha h h2)
  | mp _ _ _ _ _ hS hh hk hl hn hbd h=>exact .c (.mp _ _ _ _ _ hS hh hk hl hn hbd h)
 | agg h=>exact .agg h
 | ept h=>exact .ept h
 | clo hl h=>exact .clo hl h
 | lit h=>exact .lit h
 | ftp hl h=>exact .ftp hl h
 | mp hs hh hk hl hn hbd h=>exact .mp hs hh hk hl hn hbd h
theorem srep_c {w : World} {S : Nat→Prop} {β : Nat→Value} {obs : Obs} {x : AV} {y : Value} (h : RepC w S x y) : SRep w S β obs x y:=srep_of_rep (.c h)
theorem rep_plain {w : World} {S : Nat→Prop} {x : AV} {y : Value} (h : Rep w S x y) : Rep w S (plain x) y:=by
 cases x <;> try exact h
 rename_i c
 cases h with
 | c h=>cases h; exact .c (.v _ rfl)
theorem rows_ok {w : World} {S : Nat→Prop} {β : Nat→Value} {obs : Obs} {B : Nat} (ho : ∀ k o,lk k obs = some o→ORep w S B (β k) o)
  {p : AV} {y : Value} {rows : List (List AV)} (h : rowsOf obs p = some rows) (hp : SRep w S β obs p y) : ∃ a c,y = .slice a rows.length c∧rows.length ≤ c:=by
 cases p with
 | v x =>
  have hy:=srep_v hp
  cases x with
  | slice a n c =>
   cases a with
   | none =>
    cases n with
    | zero =>
     cases c with
     | zero=>simp [rowsOf] at h; subst h; exact ⟨none,0,hy,Nat.le_refl _⟩
     | succ c=>simp [rowsOf] at h
    | succ n=>simp [rowsOf] at h
   | some a=>simp [rowsOf] at h
  | _=>simp [rowsOf] at h
 | sl rs =>
  simp [rowsOf] at h
  subst h
  cases srep_sl hp with
  | nil a c hn=>exact ⟨a,c,rfl,Nat.zero_le _⟩
  | sl rows a c sz f ha hlen hc hm h h'=>exact ⟨_,_,rfl,hc⟩
 | own k ver =>
  simp only [rowsOf] at h
  split at h
  ·rename_i e sz rs ver' mver hk
   split at h
   ·rename_i e1
    subst e1
    injection h with h
    subst h
    have hy : y = β k:=(show ∀ e sz rows m,lk k obs = some (.row e sz rows ver m)→y = β k from hp) _ _ _ _ hk
    obtain ⟨xs,hown,_⟩:=ho _ _ hk
    rcases hown.2 with ⟨hv,hn⟩ | ⟨g,cap,cur,fr,hv,_,_,_,hn,_⟩
    ·exact ⟨none,0,by rw [hy,hv,hn],by omega⟩
    ·exact ⟨_,_,by rw [hy,hv],hn⟩
   ·simp at h
  ·simp at h
 | _=>simp [rowsOf] at h
theorem good_move {ev : Operand→Option AV} {obs : Obs} {x : Operand} {u : AV} (h : ev x = some u) : Good P ev obs (.move x) u:=by
 intro a w S β B hS hgd hev ho oper hop K Q hK
 exact wp_val (w':=w) (v:=a.eval x) (by simp [execOp,hop]) (hK _ _ _ (Gr.refl hS) (hev x (by simp [Op.operands]) u h))
theorem good_assign {ev : Operand→Option AV} {obs : Obs} {x : Operand} {u : AV} (h : ev x = some u) : Good P ev obs (.assign x) u:=by
 intro a w S β B hS hgd hev ho oper hop K Q hK
 exact wp_val (w':=w) (v:=a.eval x) (by simp [execOp,hop]) (hK _ _ _ (Gr.refl hS) (hev x (by simp [Op.operands]) u h))
theorem good_pick {ev : Operand→Option AV} {obs : Obs} {c x y : Operand} {k u : AV} {t : Bool} (hc : ev c = some k) (hk : k = .b t ∨ k = .v (.bool t)) (hu : ev (if t then x else y) = some u) : Good P ev obs (.pick c x y) u:=by
 intro a w S β B hS hgd hev ho oper hop K Q hK
 have hcv : a.eval c = .bool t:=by
  have:=hev c (by simp [Op.operands]) k hc
  rcases hk with rfl | rfl
  ·exact srep_b this
  ·exact srep_v this
 refine wp_val (w':=w) (v:=a.eval (if t then x else y)) (by simp [execOp,hop,hcv,asBool]; cases t <;> rfl) (hK _ _ _ (Gr.refl hS) (hev _ ?_ u hu))
 cases t <;> simp [Op.operands]
theorem Rep.repc_ept {w : World} {S : Nat→Prop} {cs : List AV} {off : Nat} {y : Value} (h : Rep w S (.ept cs off) y) : RepC w S (.ept cs off) y:=by
 obtain ⟨a,hy,h2⟩:=Rep.ept_inv h
 rw [hy]
 exact CellsAt.repc h2 off
theorem cells_of {w : World} {S : Nat→Prop} {β : Nat→Value} {obs : Obs} {u : AV} {cs : List AV} {y : Value} (h : cellsOf u = some cs) (hu : SRep w S β obs u y) : ∃ xs : List Value,y.cells = xs.toArray∧RepL w S cs xs:=by
 cases u with
 | v x =>
  have hy:=srep_v hu
  subst hy
  cases y <;> simp [cellsOf] at h <;> subst h <;> exact ⟨[_],rfl,RepL.cons (.v _ rfl) (RepL.nil _ _)⟩
 | b c =>
  have hy:=srep_b hu
  subst hy
  simp [cellsOf] at h
  subst h
  exact ⟨[_],rfl,RepL.cons (.v _ rfl) (RepL.nil _ _)⟩
 | agg ds =>
  obtain ⟨xs,rfl,hr⟩:=srep_agg hu
  simp [cellsOf] at h
  subst h
  exact ⟨xs,rfl,hr⟩
 | sl rows =>
  have hr:=srep_sl hu
  simp [cellsOf] at h
  subst h
  refine ⟨[y],?_,RepL.cons hr (RepL.nil _ _)⟩
  cases hr <;> rfl
 | ept ds d =>
  have hr : Rep w S (.ept ds d) y:=hu
  simp [cellsOf] at h
  subst h
  refine ⟨[y],?_,RepL.cons (Rep.repc_ept hr) (RepL.nil _ _)⟩
  obtain ⟨a,hy,_⟩:=Rep.ept_inv hr
  rw [hy]
  rfl
 | _=>simp [cellsOf] at h
theorem gr_new {w : World} {S : Nat→Prop} (hS : ∀ g,S g→g < w.heap.size) (o : Obj) : Gr w S (w.alloc o) (fun g=>S g ∨ g = w.heap.size) :=
 ⟨(Below.refl _ _).alloc (Nat.le_refl _) _,fun _ h=>.inl h,fun g h=>h.imp id (fun e=>by omega),fun g h=>by
  rcases h with h | h
  ·have:=hS g h; simp; omega
  ·subst h; simp⟩
theorem cells_new {w : World} {S : Nat→Prop} (hS : ∀ g,S g→g < w.heap.size) {cs : List AV} {xs : List Value} (t : Nat) (h : RepL w S cs xs) :
  CellsAt (w.alloc (.cells xs.toArray t (0,0))) (fun g=>S g ∨ g = w.heap.size) ⟨w.heap.size,0,none⟩ cs:=by
 refine ⟨.inr rfl,fun i u hu=>?_⟩
 obtain ⟨x,hx,hr⟩:=h.get hu
 refine ⟨x,?_,hr.mono ((gr_new hS _).same hS) (fun _ h=>Or.inl h)⟩
 rw [add_mk,cell_of_row _ w.heap.size i _ _ _ (heap_alloc_new w _)]
 simpa using hx
theorem good_box {ev : Operand→Option AV} {obs : Obs} {t : Nat} {x : Operand} {u : AV} {cs : List AV} (hu : ev x = some u) (hc : cellsOf u = some cs) : Good P ev obs (.box t x) (.ept cs 0):=by
 intro a w S β B hS hgd hev ho oper hop K Q hK
 obtain ⟨xs,hx,hr⟩:=cells_of hc (hev x (by simp [Op.operands]) u hu)
 refine wp_val (w':=w.alloc (.cells xs.toArray t (0,0))) (v:=.pointer (some ⟨w.heap.size,0,none⟩)) ?_ (hK _ _ (fun g=>S g ∨ g = w.heap.size) (gr_new hS _) ?_)
 ·simp only [execOp,hop]
  generalize a.eval x = y at hx
  simp [Instr.box,newVar,newRow,newObj,hx,Sem.run]
 ·exact .ept (off:=0) (cells_new hS t hr)
theorem run_loadCells_ok {w : World} {b : Addr} {xs : List Value} (h : ∀ (j : Nat) (x : Value),xs[j]? = some x→w.cell? (b.add j) = some x) : (loadCells b xs.length).run P w = .ok xs.toArray w :=
 run_loadCells_list (P:=P) w b xs h
theorem good_load {ev : Operand→Option AV} {obs : Obs} {t : Nat} {x : Operand} {p : AV} {ti : TI} {cs ds : List AV} {off : Nat} {r : AV} (ht : TOK P t ti) (hp : ev x = some p) (hd : deref obs p = some (cs,off)) (hc : cut off ti.size cs = some ds)
  (hr : (ti.agg = true∧r = .agg ds) ∨ (ti.agg = false∧ds = [r])) : Good P ev obs (.load t x) r:=by
 intro a w S β B hS hgd hev ho oper hop K Q hK
 obtain ⟨ad,hy,hcells⟩:=deref_ok ho hd (hev x (by simp [Op.operands]) p hp)
 obtain ⟨xs,hl,hrep,hx⟩:=cut_ok (f:=fun i=>ad.add i) hcells off ti.size ds hc
 have hxl : xs.length = ti.size:=by rw [← hrep.1,hl]
 rcases hr with ⟨hag,rfl⟩ | ⟨hag,rfl⟩
 ·refine wp_val (w':=w) (v:=.agg xs.toArray) ?_ (hK _ _ _ (Gr.refl hS) (srep_of_rep (.agg hrep)))
  have h1:=run_loadCells_ok (P:=P) (w:=w) (b:=ad.add off) (xs:=xs) (fun j x hj=>by rw [add_add]; exact hx j x hj)
  rw [hxl] at h1
  simp [execOp,hop,hy,Instr.loadAt,Instr.sureAddr,loadVar,ht.agg,hag,ht.size,h1]
 ·obtain ⟨y,ys,rfl,hry,hys⟩:=hrep.uncons
  have:=hys.unnil
  subst this
  refine wp_val (w':=w) (v:=y) ?_ (hK _ _ _ (Gr.refl hS) (srep_c hry))
  have h1 : w.cell? (ad.add off) = some y:=hx 0 y rfl
  simp [execOp,hop,hy,Instr.loadAt,Instr.sureAddr,loadVar,ht.agg,hag,load,Sem.run,h1]
theorem cut_all : ∀ (cs : List AV),cut 0 cs.length cs = some cs:=by
 intro cs
 induction cs with
 | nil=>rfl
 | cons c cs ih=>simp [cut,ih]
theorem good_whole {ev : Operand→Option AV} {obs : Obs} {t : Nat} {x : Operand} {p : AV} {ti : TI} {cs : List AV} (ht : TOK P t ti) (hp : ev x = some p) (h : wholeOf obs ti p = some cs) : Good P ev obs (.load t x) (.agg cs):=by
 intro a w S β B hS hgd hev ho
 cases p <;> simp only [wholeOf,reduceCtorEq] at h
 rename_i k ver mver i ds off
 split at h
 ·rename_i e sz rows ver' m hk
  split at h
  ·rename_i e1
   split at h
   ·rename_i e2
    split at h
    ·rename_i e3
     split at h
     ·rename_i e4
      split at h
      ·rename_i e5
       injection h with h
       subst h e1 e2 e3
       obtain ⟨_,_,_,hrow⟩:=(show RelP β obs k ver mver i ds 0 (a.eval x) from hev x (by simp [Op.operands]) _ hp) _ _ _ _ hk
       obtain ⟨_,_,_,hlen,_⟩:=ho _ _ hk
       have hl : ds.length = ti.size:=by rw [hlen ds (List.mem_of_getElem? (hrow rfl)),e4]
       exact good_load (cs:=ds) (ds:=ds) (off:=0) ht hp (by simp [deref,hk]) (by rw [← hl]; exact cut_all ds) (.inl ⟨e5,rfl⟩) a w S β B hS hgd hev ho
      ·simp at h
     ·simp at h
    ·simp at h
   ·simp at h
  ·simp at h
 ·simp at h
theorem good_nilCheck {ev : Operand→Option AV} {obs : Obs} {x : Operand} {p : AV} (hp : ev x = some p) (h : (∃ cs off,p = .ept cs off) ∨ (∃ k off,p = .ptr k off) ∨ (∃ g caps,p = .clo g caps) ∨ ∃ ad,p = .v (.pointer (some ad))) : Good P ev obs (.nilCheck x) p:=by
 intro a w S β B hS hgd hev ho oper hop K Q hK
 have hx:=hev x (by simp [Op.operands]) p hp
 have hv : (∃ ad,a.eval x = .pointer (some ad)) ∨ ∃ g xs,a.eval x = .func (.func g) #[] xs:=by
  rcases h with ⟨cs,off,rfl⟩ | ⟨k,off,rfl⟩ | ⟨g,caps,rfl⟩ | ⟨ad,rfl⟩
  ·have hx : Rep w S (.ept cs off) (a.eval x):=hx
   obtain ⟨_,h,_⟩:=Rep.ept_inv hx
   exact .inl ⟨_,h⟩
  ·obtain ⟨g,_,h⟩:=(show ∃ g,β k = .pointer (some ⟨g,0,none⟩)∧a.eval x = .pointer (some ((⟨g,0,none⟩ : Addr).add off)) from hx)
   exact .inl ⟨_,h⟩
  ·obtain ⟨xs,h,_⟩:=srep_clo hx
   exact .inr ⟨_,_,h⟩
  ·exact .inl ⟨_,srep_v hx⟩
 refine wp_val (w':=w) (v:=a.eval x) ?_ (hK _ _ _ (Gr.refl hS) hx)
 rcases hv with ⟨ad,h⟩ | ⟨g,xs,h⟩ <;> simp [execOp,hop,h]
theorem run_binA {op : BinOp} {x y r : AV} (h : binA sy op x y = some r) {w : World} {S : Nat→Prop} {β : Nat→Value} {obs : Obs} {u v : Value} (hu : SRep w S β obs x u) (hv : SRep w S β obs y v) (t : Nat) (ox oy : Operand) :
  ∃ z,r = .v z∧z.oneCell' = true∧(do eqGuard op t ox oy u v; binOp op t u v : Sem Value).run P w = .ok z w:=by
 have hu' : ∃ u',plain x = .v u'→u' = u:=⟨u,fun _=>rfl⟩
 have pv : ∀ (x : AV) (u u' : Value),SRep w S β obs x u→plain x = .v u'→u = u':=by
  intro x u u' hu hp
  cases x <;> simp [plain] at hp
  ·subst hp; exact srep_v hu
  ·subst hp; exact srep_b hu
 unfold binA at h
 split at h
 ·rename_i k a k' b hx hy
  have e1:=pv _ _ _ hu hx
  have e2:=pv _ _ _ hv hy
  subst e1 e2
  split at h
  ·rename_i ek
   subst ek
   split at h <;> simp at h <;> subst h <;> exact ⟨_,rfl,rfl,by simp [eqGuard,binOp,Op.intArith,Op.intCmp,Op.intBits,sy]⟩
  ·simp at h
 ·rename_i a b hx hy
  have e1:=pv _ _ _ hu hx
  have e2:=pv _ _ _ hv hy
  subst e1 e2
  split at h <;> simp at h <;> subst h <;> exact ⟨_,rfl,rfl,by simp [eqGuard,binOp,Op.stringOp,sy]⟩
 ·simp at h
theorem good_binA {ev : Operand→Option AV} {obs : Obs} {op : BinOp} {t u : Nat} {x y : Operand} {p q r : AV} (hp : ev x = some p) (hq : ev y = some q) (h : binA sy op p q = some r) : Good P ev obs (.binOp op t x y u) r:=by
 intro a w S β B hS hgd hev ho oper hop K Q hK
 obtain ⟨z,rfl,hz1,hz⟩:=run_binA (P:=P) h (hev x (by simp [Op.operands]) p hp) (hev y (by simp [Op.operands]) q hq) t x y
 refine wp_val (w':=w) (v:=z) ?_ (hK _ _ _ (Gr.refl hS) (srep_c (.v _ hz1)))
 simp only [execOp,hop]
 simp only [Sem.run_bind,Sem.run_pure] at hz ⊢
 simp [hz]
theorem run_binO {op : BinOp} {k k' : IntKind} {a b : Int} (h : ((op = .rem ∨ op = .quo)∧k = k'∧b ≠ 0) ∨ ((op = .shl ∨ op = .shr)∧0 ≤ b)) {w : World} (t : Nat) (ox oy : Operand) :
  (do eqGuard op t ox oy (.int k a) (.int k' b); binOp op t (.int k a) (.int k' b) : Sem Value).run P w = .ok (.int k (sy .ar op k a b)) w:=by
 rcases h with ⟨h | h,rfl,hb⟩ | ⟨h | h,hb⟩ <;> subst h
 ·simp [eqGuard,binOp,Op.intDiv,hb,sy]
 ·simp [eqGuard,binOp,Op.intDiv,hb,sy]
 ·simp [eqGuard,binOp,Op.shift,show ¬ b < 0 by omega,sy]
 ·simp [eqGuard,binOp,Op.shift,show ¬ b < 0 by omega,sy]
theorem ptr_shape {w : World} {S : Nat→Prop} {β : Nat→Value} {obs : Obs} {x : AV} {y : Value} (hx : (∃ k off,x = .ptr k off) ∨ ∃ cs off,x = .ept cs off) (h : SRep w S β obs x y) : ∃ a,y = .pointer (some a):=by
 rcases hx with ⟨k,off,rfl⟩ | ⟨cs,off,rfl⟩
 ·obtain ⟨g,h1,h2⟩:=(show ∃ g,β k = .pointer (some ⟨g,0,none⟩)∧y = .pointer (some ((⟨g,0,none⟩ : Addr).add off)) from h)
  exact ⟨_,h2⟩
 ·have hp' : Rep w S (.ept cs off) y:=h
  obtain ⟨_,h,_⟩:=Rep.ept_inv hp'
  exact ⟨_,h⟩
theorem good_nilp {ev : Operand→Option AV} {obs : Obs} {t u : Nat} {x y : Operand} {p : AV} {b : Bool} (hp : ev x = some p) (hq : ev y = some (.v (.pointer none))) (hc : CSem P (.nilp t) [] (.pure []))
  (h : ((∃ k off,p = .ptr k off) ∨ (∃ cs off,p = .ept cs off))∧b = false ∨ p = .v (.pointer none)∧b = true ∨ (∃ ad,p = .v (.pointer (some ad)))∧b = false) : Good P ev obs (.binOp .eql t x y u) (.b b)∧Good P ev obs (.binOp .neq t x y u) (.b (!b)):=by
 have he : P.underlying t = some (.pointer (P.pointee t)):=hc
 have main : ∀ {a : Act} {w : World} {S : Nat→Prop} {β : Nat→Value},SRep w S β obs p (a.eval x)→SRep w S β obs (.v (.pointer none)) (a.eval y)→(∀ ox oy,(do eqGuard .eql t ox oy (a.eval x) (a.eval y); binOp .eql t (a.eval x) (a.eval y) : Sem Value).run P w = .ok (.bool b) w)∧(∀ ox oy,(do eqGuard .neq t ox oy (a.eval x) (a.eval y); binOp .neq t (a.eval x) (a.eval y) : Sem Value).run P w = .ok (.bool (!b)) w):=by
  intro a w S β h1 h2
  have hy : a.eval y = .pointer none:=srep_v h2
  rcases h with ⟨hs,rfl⟩ | ⟨rfl,rfl⟩ | ⟨⟨ad,rfl⟩,rfl⟩
  ·obtain ⟨ad,hx⟩:=ptr_shape hs h1
   constructor <;> intro ox oy <;> simp [hx,hy,eqGuard,binOp,run_equal_pointer_nil w t _ he]
  ·have hx : a.eval x = .pointer none:=srep_v h1
   constructor <;> intro ox oy <;> simp [hx,hy,eqGuard,binOp,run_equal_pointer_nil w t _ he]
  ·have hx : a.eval x = .pointer (some ad):=srep_v h1
   constructor <;> intro ox oy <;> simp [hx,hy,eqGuard,binOp,run_equal_pointer_nil w t _ he]
 constructor
 ·intro ac w S β B hS hgd hev ho oper hop K Q hK
  have hz:=(main (hev x (by simp [Op.operands]) p hp) (hev y (by simp [Op.operands]) _ hq)).1 x y
  refine wp_val (w':=w) (v:=.bool b) ?_ (hK _ _ _ (Gr.refl hS) (srep_c (.b _)))
  simp only [execOp,hop]
  simp only [Sem.run_bind,Sem.run_pure] at hz ⊢
  simp [hz]
 ·intro ac w S β B hS hgd hev ho oper hop K Q hK
  have hz:=(main (hev x (by simp [Op.operands]) p hp) (hev y (by simp [Op.operands]) _ hq)).2 x y
  refine wp_val (w':=w) (v:=.bool (!b)) ?_ (hK _ _ _ (Gr.refl hS) (srep_c (.b _)))
  simp only [execOp,hop]
  simp only [Sem.run_bind,Sem.run_pure] at hz ⊢
  simp [hz]
theorem good_nili {ev : Operand→Option AV} {obs : Obs} {t u : Nat} {x y : Operand} (hp : ev x = some (.v .nilIface)) (hq : ev y = some (.v .nilIface)) (hy : ∃ v,y = .const v) (hc : CSem P (.nili t) [] (.pure [])) :
  Good P ev obs (.binOp .eql t x y u) (.b true)∧Good P ev obs (.binOp .neq t x y u) (.b false):=by
 obtain ⟨v,rfl⟩:=hy
 obtain ⟨ms,he⟩ : ∃ ms,P.underlying t = some (.interface ms):=hc
 have hne : ∀ w,(Op.equal t .nilIface .nilIface).run P w = .ok true w:=fun w=>by
  show (Op.equalIn (9999 + 1) t .nilIface .nilIface).run P w = _
  unfold Op.equalIn
  simp [run_underlying he]
 have main : ∀ {a : Act} {w : World},a.eval x = .nilIface→a.eval (.const v) = .nilIface→(∀ ox,(do eqGuard .eql t ox (.const v) (a.eval x) (a.eval (.const v)); binOp .eql t (a.eval x) (a.eval (.const v)) : Sem Value).run P w = .ok (.bool true) w)∧(∀ ox,(do eqGuard .neq t ox (.const v) (a.eval x) (a.eval (.const v)); binOp .neq t (a.eval x) (a.eval (.const v)) : Sem Value).run P w = .ok (.bool false) w):=by
  intro a w hx hy
  constructor <;> intro ox <;> simp [hx,hy,eqGuard,binOp,hne]
 constructor
 ·intro ac w S β B hS hgd hev ho oper hop K Q hK
  have hz:=(main (w:=w) (srep_v (hev x (by simp [Op.operands]) _ hp)) (srep_v (hev (.const v) (by simp [Op.operands]) _ hq))).1 x
  refine wp_val (w':=w) (v:=.bool true) ?_ (hK _ _ _ (Gr.refl hS) (srep_c (.b _)))
  simp only [execOp,hop]
  simp only [Sem.run_bind,Sem.run_pure] at hz ⊢
  simp [hz]
 ·intro ac w S β B hS hgd hev ho oper hop K Q hK
  have hz:=(main (w:=w) (srep_v (hev x (by simp [Op.operands]) _ hp)) (srep_v (hev (.const v) (by simp [Op.operands]) _ hq))).2 x
  refine wp_val (w':=w) (v:=.bool false) ?_ (hK _ _ _ (Gr.refl hS) (srep_c (.b _)))
  simp only [execOp,hop]
  simp only [Sem.run_bind,Sem.run_pure] at hz ⊢
  simp [hz]
theorem good_field {ev : Operand→Option AV} {obs : Obs} {t i : Nat} {x : Operand} {cs : List AV} {r : AV} (hp : ev x = some (.agg cs)) (hc : CSem P (.fld t i) [.agg cs] (.pure [r])) : Good P ev obs (.field t x i) r:=by
 intro a w S β B hS hgd hev ho oper hop K Q hK
 obtain ⟨A,q,e1,e2,h⟩:=hc
 injection e1 with e1
 subst e1
 injection e2 with e2
 injection e2 with e2
 subst e2
 obtain ⟨y,hrun,hr⟩:=h w S (a.eval x) (show Rep w S (.agg cs) _ from hev x (by simp [Op.operands]) _ hp)
 exact wp_val (w':=w) (v:=y) (by simp [execOp,hop,hrun]) (hK _ _ _ (Gr.refl hS) (srep_of_rep hr))
theorem good_idx {ev : Operand→Option AV} {obs : Obs} {t : Nat} {x i : Operand} {cs : List AV} {k : IntKind} {j : Int} {r : AV} (hp : ev x = some (.agg cs)) (hi : ev i = some (.v (.int k j))) (hc : CSem P (.idx t) [.agg cs,.v (.int k j)] (.pure [r])) : Good P ev obs (.index t x i) r:=by
 intro a w S β B hS hgd hev ho oper hop K Q hK
 obtain ⟨A,u,q,e1,e2,h⟩:=hc
 injection e1 with e1 e3
 subst e1
 injection e3 with e3
 injection e3 with e3
 subst e3
 injection e2 with e2
 injection e2 with e2
 subst e2
 have hiv : a.eval i = .int k j:=srep_v (hev i (by simp [Op.operands]) _ hi)
 obtain ⟨y,hrun,hr⟩:=h w S (a.eval x) (show Rep w S (.agg cs) _ from hev x (by simp [Op.operands]) _ hp)
 exact wp_val (w':=w) (v:=y) (by simp [execOp,hop,hiv,hrun]) (hK _ _ _ (Gr.refl hS) (srep_of_rep hr))
theorem good_binO {ev : Operand→Option AV} {obs : Obs} {op : BinOp} {t u : Nat} {x y : Operand} {k k' : IntKind} {a b : Int} (hp : ev x = some (.v (.int k a))) (hq : ev y = some (.v (.int k' b))) (h : ((op = .rem ∨ op = .quo)∧k = k'∧b ≠ 0) ∨ ((op = .shl ∨ op = .shr)∧0 ≤ b)) : Good P ev obs (.binOp op t x y u) (.v (.int k (sy .ar op k a b))):=by
 intro ac w S β B hS hgd hev ho oper hop K Q hK
 have hx : ac.eval x = .int k a:=srep_v (hev x (by simp [Op.operands]) _ hp)
 have hy : ac.eval y = .int k' b:=srep_v (hev y (by simp [Op.operands]) _ hq)
 have hz:=run_binO (P:=P) (a:=a) h (w:=w) t x y
 refine wp_val (w':=w) (v:=.int k (sy .ar op k a b)) ?_ (hK _ _ _ (Gr.refl hS) (srep_c (.v _ rfl)))
 simp only [execOp,hop,hx,hy]
 simp only [Sem.run_bind,Sem.run_pure] at hz ⊢
 simp [hz]
theorem evs_two {ev : Operand→Option AV} {l : List Operand} {p q : AV} (h : evs ev l = some [p,q]) : ∃ x y,l = [x,y]∧ev x = some p∧ev y = some q:=by
 cases l with
 | nil=>simp [evs] at h
 | cons x l =>
  simp only [evs] at h
  split at h
  ·simp at h
  ·rename_i u hu
   split at h
   ·simp at h
   ·rename_i r hr
    injection h with h
    injection h with h1 h2
    subst h1 h2
    cases l with
    | nil=>simp [evs] at hr
    | cons y l =>
     simp only [evs] at hr
     split at hr
     ·simp at hr
     ·rename_i v hv
      split at hr
      ·simp at hr
      ·rename_i r' hr'
       injection hr with hr
       injection hr with h1 h2
       subst h1 h2
       cases l with
       | nil=>exact ⟨x,y,rfl,hu,hv⟩
       | cons z l =>
        simp only [evs] at hr'
        split at hr'
        ·simp at hr'
        ·split at hr' <;> simp at hr'
theorem good_max {ev : Operand→Option AV} {obs : Obs} {args : Array Operand} {ats : Array TypeId} {k k' : IntKind} {a b : Int} (h : evs ev args.toList = some [.v (.int k a),.v (.int k' b)]) : Good P ev obs (.call { callee:=.builtin .max,args:=args,argTypes:=ats }) (.v (.int k (sy .mx a b))):=by
 intro ac w S β B hS hgd hev ho oper hop K Q hK
 obtain ⟨x,y,hl,hp,hq⟩:=evs_two h
 have hargs : args = #[x,y]:=by rw [← Array.toList_inj]; simpa using hl
 subst hargs
 have hx : ac.eval x = .int k a:=srep_v (hev x (by simp [Op.operands,Call.operands]) _ hp)
 have hy : ac.eval y = .int k' b:=srep_v (hev y (by simp [Op.operands,Call.operands]) _ hq)
 refine wp_val (w':=w) (v:=.int k (sy .mx a b)) ?_ (hK _ _ _ (Gr.refl hS) (srep_c (.v _ rfl)))
 simp [execOp,hop,resolve,invoke,builtin,hx,hy,Builtin.max_,Builtin.max2,sy]
theorem evs_three {ev : Operand→Option AV} {l : List Operand} {p q r : AV} (h : evs ev l = some [p,q,r]) : ∃ x y z,l = [x,y,z]∧ev x = some p∧ev y = some q∧ev z = some r:=by
 cases l with
 | nil=>simp [evs] at h
 | cons x l =>
  simp only [evs] at h
  split at h
  ·simp at h
  ·rename_i u hu
   split at h
   ·simp at h
   ·rename_i r hr
    injection h with h
    injection h with h1 h2
    subst h1 h2
    obtain ⟨y,z,rfl,h3,h4⟩:=evs_two hr
    exact ⟨x,y,z,rfl,hu,h3,h4⟩
theorem good_max3 {ev : Operand→Option AV} {obs : Obs} {args : Array Operand} {ats : Array TypeId} {k k' k'' : IntKind} {a b c : Int} (h : evs ev args.toList = some [.v (.int k a),.v (.int k' b),.v (.int k'' c)]) : Good P ev obs (.call { callee:=.builtin .max,args:=args,argTypes:=ats }) (.v (.int k (sy .mx (sy .mx a b) c))):=by
 intro ac w S β B hS hgd hev ho oper hop K Q hK
 obtain ⟨x,y,z,hl,hp,hq,hr⟩:=evs_three h
 have hargs : args = #[x,y,z]:=by rw [← Array.toList_inj]; simpa using hl
 subst hargs
 have hx : ac.eval x = .int k a:=srep_v (hev x (by simp [Op.operands,Call.operands]) _ hp)
 have hy : ac.eval y = .int k' b:=srep_v (hev y (by simp [Op.operands,Call.operands]) _ hq)
 have hz : ac.eval z = .int k'' c:=srep_v (hev z (by simp [Op.operands,Call.operands]) _ hr)
 refine wp_val (w':=w) (v:=.int k (sy .mx (sy .mx a b) c)) ?_ (hK _ _ _ (Gr.refl hS) (srep_c (.v _ rfl)))
 simp [execOp,hop,resolve,invoke,builtin,hx,hy,hz,Builtin.max_,Builtin.max2,sy]
theorem good_min {ev : Operand→Option AV} {obs : Obs} {args : Array Operand} {ats : Array TypeId} {k k' : IntKind} {a b : Int} (h : evs ev args.toList = some [.v (.int k a),.v (.int k' b)]) : Good P ev obs (.call { callee:=.builtin .min,args:=args,argTypes:=ats }) (.v (.int k (sy .mn a b))):=by
 intro ac w S β B hS hgd hev ho oper hop K Q hK
 obtain ⟨x,y,hl,hp,hq⟩:=evs_two h
 have hargs : args = #[x,y]:=by rw [← Array.toList_inj]; simpa using hl
 subst hargs
 have hx : ac.eval x = .int k a:=srep_v (hev x (by simp [Op.operands,Call.operands]) _ hp)
 have hy : ac.eval y = .int k' b:=srep_v (hev y (by simp [Op.operands,Call.operands]) _ hq)
 refine wp_val (w':=w) (v:=.int k (sy .mn a b)) ?_ (hK _ _ _ (Gr.refl hS) (srep_c (.v _ rfl)))
 simp [execOp,hop,resolve,invoke,builtin,hx,hy,Builtin.min_,Builtin.min2,sy]
theorem good_unNot {ev : Operand→Option AV} {obs : Obs} {t : Nat} {x : Operand} {p : AV} {c : Bool} (hp : ev x = some p) (h : p = .b c ∨ p = .v (.bool c)) {r : AV} (hr : r = .b (!c) ∨ r = .v (.bool (!c))) : Good P ev obs (.unOp .not t x) r:=by
 intro a w S β B hS hgd hev ho oper hop K Q hK
 have hx : a.eval x = .bool c:=by
  have:=hev x (by simp [Op.operands]) p hp
  rcases h with rfl | rfl
  ·exact srep_b this
  ·exact srep_v this
 refine wp_val (w':=w) (v:=.bool (!c)) (by simp [execOp,hop,hx,Op.unary]) (hK _ _ _ (Gr.refl hS) ?_)
 rcases hr with rfl | rfl
 ·exact srep_c (.b _)
 ·exact srep_c (.v _ rfl)
theorem good_unNeg {ev : Operand→Option AV} {obs : Obs} {t : Nat} {x : Operand} {k : IntKind} {n : Int} (hp : ev x = some (.v (.int k n))) : Good P ev obs (.unOp .neg t x) (.v (.int k (sy .ar .sub k 0 n))):=by
 intro a w S β B hS hgd hev ho oper hop K Q hK
 have hx : a.eval x = .int k n:=srep_v (hev x (by simp [Op.operands]) _ hp)
 exact wp_val (w':=w) (v:=.int k (sy .ar .sub k 0 n)) (by simp [execOp,hop,hx,Op.unary,Op.intArith,sy]) (hK _ _ _ (Gr.refl hS) (srep_c (.v _ rfl)))
theorem good_eq {ev : Operand→Option AV} {obs : Obs} {t u : Nat} {x y : Operand} {cs ds : List AV} {r : Bool} (hp : ev x = some (.agg cs)) (hq : ev y = some (.agg ds)) (h : CSem P (.eq t) [.agg cs,.agg ds] (.pure [.v (.bool r)])) :
  Good P ev obs (.binOp .eql t x y u) (.v (.bool r))∧Good P ev obs (.binOp .neq t x y u) (.v (.bool (!r))):=by
 obtain ⟨A,B',q,e1,e2,hsem⟩:=h
 simp at e1 e2
 obtain ⟨rfl,rfl⟩:=e1
 subst e2
 constructor <;>
 ·intro a w S β B hS hgd hev ho oper hop K Q hK
  obtain ⟨xs,hx,hxr⟩:=srep_agg (hev x (by simp [Op.operands]) _ hp)
  obtain ⟨ys,hy,hyr⟩:=srep_agg (hev y (by simp [Op.operands]) _ hq)
  obtain ⟨n,h1,h2⟩:=hsem w S _ _ (.agg hxr) (.agg hyr)
  refine wp_val (w':=w.drewN n) ?_ (hK _ _ S ⟨⟨rfl,rfl,rfl,Nat.le_refl _,fun _ _=>rfl⟩,fun _ h=>h,fun _ h=>.inl h,hS⟩ (srep_c (.v _ rfl)))
  first
  | (have h1:=h1 x y; simp only [execOp,hop,hx,hy]; simp only [Sem.run_bind,Sem.run_pure] at h1 ⊢; simp [h1]; done)
  | (have h2:=h2 x y; simp only [execOp,hop,hx,hy]; simp only [Sem.run_bind,Sem.run_pure] at h2 ⊢; simp [h2]; done)
theorem good_bq {ev : Operand→Option AV} {obs : Obs} {t u : Nat} {x y : Operand} {c d r : Bool} {q : AV} (hp : ev x = some (.v (.bool c))) (hq : ev y = some q) (hqd : q = .b d ∨ q = .v (.bool d)) (h : CSem P (.eq t) [.v (.bool c),.v (.bool d)] (.pure [.v (.bool r)])) :
  Good P ev obs (.binOp .eql t x y u) (.v (.bool r))∧Good P ev obs (.binOp .neq t x y u) (.v (.bool (!r))):=by
 obtain ⟨A,B',q',e1,e2,hsem⟩:=h
 simp at e1 e2
 obtain ⟨rfl,rfl⟩:=e1
 subst e2
 constructor <;>
 ·intro a w S β B hS hgd hev ho oper hop K Q hK
  have hx:=srep_v (hev x (by simp [Op.operands]) _ hp)
  have hy : a.eval y = .bool d:=by
   rcases hqd with rfl | rfl
   ·exact srep_b (hev y (by simp [Op.operands]) _ hq)
   ·exact srep_v (hev y (by simp [Op.operands]) _ hq)
  obtain ⟨n,h1,h2⟩:=hsem w S _ _ (.c (.v _ rfl)) (.c (.v _ rfl))
  refine wp_val (w':=w.drewN n) ?_ (hK _ _ S ⟨⟨rfl,rfl,rfl,Nat.le_refl _,fun _ _=>rfl⟩,fun _ h=>h,fun _ h=>.inl h,hS⟩ (srep_c (.v _ rfl)))
  first
  | (have h1:=h1 x y; simp only [execOp,hop,hx,hy]; simp only [Sem.run_bind,Sem.run_pure] at h1 ⊢; simp [h1]; done)
  | (have h2:=h2 x y; simp only [execOp,hop,hx,hy]; simp only [Sem.run_bind,Sem.run_pure] at h2 ⊢; simp [h2]; done)
theorem good_cat {ev : Operand→Option AV} {obs : Obs} {t u : Nat} {x y : Operand} {s q : ByteArray} (hp : ev x = some (.v (.string s))) (hq : ev y = some (.v (.string q))) (h : (s.size : Int) + (q.size : Int) ≤ 9223372036854775807) :
  Good P ev obs (.binOp .add t x y u) (.v (.string (s ++ q))):=by
 intro a w S β B hS hgd hev ho oper hop K Q hK
 have hx : a.eval x = .string s:=srep_v (hev x (by simp [Op.operands]) _ hp)
 have hy : a.eval y = .string q:=srep_v (hev y (by simp [Op.operands]) _ hq)
 refine wp_val (w':=w) (v:=.string (s ++ q)) ?_ (hK _ _ _ (Gr.refl hS) (srep_c (.v _ rfl)))
 have : ¬ (((s.size + q.size : Nat) : Int) > IntKind.i64.max):=by
  have : IntKind.i64.max = 9223372036854775807:=by decide
  omega
 simp only [execOp,hop,hx,hy]
 simp [eqGuard,binOp,Op.stringOp]
 exact h
theorem good_makeFunc {ev : Operand→Option AV} {obs : Obs} {g : Nat} {caps : Array Operand} {cs : List AV} (h : evs ev caps.toList = some cs) (hcap : ∀ c ∈ cs,∃ ds off,c = .ept ds off) : Good P ev obs (.makeFunc (.func g) #[] caps) (.clo g cs):=by
 intro a w S β B hS hgd hev ho oper hop K Q hK
 refine wp_val (w':=w) (v:=.func (.func g) #[] (caps.map a.eval)) (by simp [execOp,hop,Instr.makeFunc]) (hK _ _ _ (Gr.refl hS) ?_)
 have key : ∀ (l : List Operand) (cs : List AV),evs ev l = some cs→l.length = cs.length∧∀ (i : Nat) (u : AV),cs[i]? = some u→∃ o,l[i]? = some o∧ev o = some u:=by
  intro l
  induction l with
  | nil=>intro cs h; simp [evs] at h; subst h; exact ⟨rfl,fun i u h=>by simp at h⟩
  | cons x l ih =>
   intro cs h
   simp only [evs] at h
   split at h
   ·simp at h
   ·rename_i u hu
    split at h
    ·simp at h
    ·rename_i r hr
     injection h with h
     subst h
     obtain ⟨h1,h2⟩:=ih r hr
     refine ⟨by simp [h1],fun i v hv=>?_⟩
     cases i with
     | zero=>simp at hv; subst hv; exact ⟨x,rfl,hu⟩
     | succ i=>simpa using h2 i v (by simpa using hv)
 obtain ⟨hl,hk⟩:=key _ _ h
 have : (caps.map a.eval) = ((caps.toList.map a.eval).toArray):=by rw [← Array.toList_map]
 rw [this]
 refine srep_of_rep (.clo (by rw [List.length_map]; exact hl.symm) fun i u x hu hx=>?_)
 obtain ⟨o,ho1,ho2⟩:=hk i u hu
 simp [List.getElem?_map] at hx
 obtain ⟨o',ho',rfl⟩:=hx
 have : o' = o:=by simp at ho1; rw [ho1] at ho'; injection ho' with h; exact h.symm
 subst this
 obtain ⟨ds,off,rfl⟩:=hcap u (List.mem_of_getElem? hu)
 have hm : o' ∈ caps.toList:=List.mem_of_getElem? ho1
 exact hev o' (by simpa [Op.operands] using hm) _ ho2
theorem good_fieldAddrV {ev : Operand→Option AV} {obs : Obs} {t f d s : Nat} {x : Operand} {ad : Addr} {ti : TI} (ht : TOK P t ti) (hp : ev x = some (.v (.pointer (some ad)))) (hd : ti.offs[f]? = some (d,s)) : Good P ev obs (.fieldAddr t x f) (.v (.pointer (some (ad.add d)))):=by
 intro a w S β B hS hgd hev ho oper hop K Q hK
 have hx : a.eval x = .pointer (some ad):=srep_v (hev x (by simp [Op.operands]) _ hp)
 have hf:=ht.offs f d s hd
 exact wp_val (w':=w) (v:=.pointer (some (ad.add d))) (by simp [execOp,hop,hx,hf]) (hK _ _ _ (Gr.refl hS) (srep_c (.v _ rfl)))
theorem good_fieldAddr {ev : Operand→Option AV} {obs : Obs} {t f d s : Nat} {x : Operand} {p q : AV} {ti : TI} {e : List AV × Nat} (ht : TOK P t ti) (hp : ev x = some p) (hd : ti.offs[f]? = some (d,s)) (he : deref obs p = some e) (hq : movePtr d p = some q) : Good P ev obs (.fieldAddr t x f) q:=by
 intro a w S β B hS hgd hev ho oper hop K Q hK
 have hx:=hev x (by simp [Op.operands]) p hp
 have : ∃ ad,a.eval x = .pointer (some ad)∧SRep w S β obs q (.pointer (some (ad.add d))):=by
  cases p <;> simp [movePtr] at hq
  ·rename_i k off
   subst hq
   obtain ⟨g,h1,h2⟩:=(show ∃ g,β k = .pointer (some ⟨g,0,none⟩)∧a.eval x = .pointer (some ((⟨g,0,none⟩ : Addr).add off)) from hx)
   exact ⟨_,h2,⟨g,h1,by rw [add_add]⟩⟩
  ·rename_i cs off
   subst hq
   have hx : Rep w S (.ept cs off) (a.eval x):=hx
   obtain ⟨_,hy,h⟩:=Rep.ept_inv hx
   exact ⟨_,hy,by rw [add_add]; exact srep_of_rep (.ept h)⟩
  ·rename_i k ver mver i cs off
   subst hq
   simp only [deref] at he
   split at he
   ·rename_i e' sz rows ver' mver' hk
    split at he
    ·rename_i e1
     split at he
     ·rename_i e2
      subst e1 e2
      have hx' : RelP β obs k ver mver i cs off (a.eval x):=hx
      obtain ⟨h0,hi,⟨g,n,c,h2,h3⟩,h1⟩:=hx' _ _ _ _ hk
      refine ⟨_,h3,?_⟩
      intro e2 sz2 rows2 m2 hk2
      rw [hk] at hk2
      injection hk2 with hk2
      injection hk2 with _ h5 h6 _ h7
      subst h5 h6 h7
      exact ⟨h0,hi,⟨g,n,c,h2,by rw [add_add,Nat.add_assoc]⟩,h1⟩
     ·simp at he
    ·simp at he
   ·simp at he
 obtain ⟨ad,h1,h2⟩:=this
 exact wp_val (w':=w) (v:=.pointer (some (ad.add d))) (by simp [execOp,hop,h1,ht.offs f d s hd]) (hK _ _ _ (Gr.refl hS) h2)
theorem run_indexAt_sli {t e : Nat} {k : IntKind} {j : Int} {ad : Option Addr} {n c sz : Nat} {w : World} (hu : P.underlying t = some (.slice e)) (hz : (Go.sizeOf e).run P w = .ok sz w) (h0 : 0 ≤ j) (h1 : j < n) (b : Addr) (hb : ad = some b) :
  (Instr.indexAt t (.slice ad n c) (.int k j)).run P w = .ok (.pointer (some (b.add (j.toNat * sz)))) w:=by
 subst hb
 simp [Instr.indexAt,asIntOf,run_underlying hu,h0,h1,hz]
theorem run_indexAt_arr {t e : Nat} {k : IntKind} {j : Int} {n sz : Nat} {w : World} (hu : P.underlying t = some (.array n e)) (hz : (Go.sizeOf e).run P w = .ok sz w) (h0 : 0 ≤ j) (h1 : j < n) (b : Addr) :
  (Instr.indexAt t (.pointer (some b)) (.int k j)).run P w = .ok (.pointer (some (b.add (j.toNat * sz)))) w:=by
 simp [Instr.indexAt,asIntOf,run_underlying hu,h0,h1,hz,Instr.sureAddr]
theorem run_sizeOf_info {e : Nat} {i : TypeInfo} {sz : Nat} (hi : P.info? e = some i) (hs : i.size = sz) (w : World) : (Go.sizeOf e).run P w = .ok sz w:=by
 subst hs
 simp [Go.sizeOf,typeInfo,hi]
theorem sl_elem {w : World} {S : Nat→Prop} {rows : List (List AV)} {y : Value} (h : RepC w S (.sl rows) y) {j : Nat} {cs : List AV} (hj : rows[j]? = some cs) : ∃ (b : Addr) (c sz : Nat),y = .slice (some b) rows.length c∧cs.length = sz∧CellsAt w S (b.add (j * sz)) cs:=by
 cases h with
 | nil a c hn=>simp at hj
 | sl rows b c sz f ha hlen hc hm h h' =>
  refine ⟨b,c,sz,rfl,hlen cs (List.mem_of_getElem? hj),?_,fun i u hu=>⟨f j i,?_,h' j cs hj i u hu⟩⟩
  ·rw [add_block]; exact ha
  ·rw [add_add]; exact h j cs hj i u hu
theorem good_indexSl {ev : Operand→Option AV} {obs : Obs} {t : Nat} {x i : Operand} {rows : List (List AV)} {cs : List AV} {ti : TI} {k : IntKind} {j : Int} {e esz bytes : Nat} (ht : TOK P t ti) (hk : ti.kind = .sli e esz bytes)
  (hp : ev x = some (.sl rows)) (hi : ev i = some (.v (.int k j))) (h0 : 0 ≤ j) (hj : rows[j.toNat]? = some cs) (hcs : cs.length = esz) : Good P ev obs (.indexAddr t x i) (.ept cs 0):=by
 intro a w S β B hS hgd hev ho oper hop K Q hK
 have hx:=srep_sl (hev x (by simp [Op.operands]) _ hp)
 have hiv : a.eval i = .int k j:=srep_v (hev i (by simp [Op.operands]) _ hi)
 have hkd:=ht.kind
 rw [hk] at hkd
 obtain ⟨hu,⟨hpos,hposb⟩,inf,z,hinf,hz,hsz,hby,hzs⟩:=hkd
 obtain ⟨b,c,sz,hy,hl,hc⟩:=sl_elem hx hj
 have hjlt : j.toNat < rows.length:=(List.getElem?_eq_some_iff.1 hj).1
 have hsz2 : sz = esz:=by rw [← hl,hcs]
 have hj2 : j < (rows.length : Int):=by omega
 subst hsz2
 refine wp_val (w':=w) (v:=.pointer (some (b.add (j.toNat * sz)))) ?_ (hK _ _ _ (Gr.refl hS) ?_)
 ·simp [execOp,hop,hiv,hy,run_indexAt_sli (P:=P) (k:=k) hu (run_sizeOf_info hinf hsz w) h0 hj2 b rfl]
 ·have:=Rep.ept (off:=0) hc
  rw [show (b.add (j.toNat * sz)).add 0 = b.add (j.toNat * sz) from by rw [add_add]; rfl] at this
  exact srep_of_rep this
theorem good_indexOwn {ev : Operand→Option AV} {obs : Obs} {t : Nat} {x i : Operand} {q ver mver : Nat} {rows : List (List AV)} {cs : List AV} {ti : TI} {k : IntKind} {j : Int} {e e' esz bytes sz : Nat} (ht : TOK P t ti) (hk : ti.kind = .sli e esz bytes)
  (hp : ev x = some (.own q ver)) (ho' : lk q obs = some (.row e' sz rows ver mver)) (hi : ev i = some (.v (.int k j))) (h0 : 0 ≤ j) (hj : rows[j.toNat]? = some cs) (hsz' : sz = esz) : Good P ev obs (.indexAddr t x i) (.rel q ver mver j.toNat cs 0):=by
 intro a w S β B hS hgd hev ho oper hop K Q hK
 have hx : a.eval x = β q:=(show ∀ e sz rows m,lk q obs = some (.row e sz rows ver m)→a.eval x = β q from hev x (by simp [Op.operands]) _ hp) _ _ _ _ ho'
 have hiv : a.eval i = .int k j:=srep_v (hev i (by simp [Op.operands]) _ hi)
 have hkd:=ht.kind
 rw [hk] at hkd
 obtain ⟨hu,⟨hpos,hposb⟩,inf,z,hinf,hz,hsz,hby,hzs⟩:=hkd
 obtain ⟨xs,hown,hrep,hlen,hSb⟩:=ho _ _ ho'
 have hjlt : j.toNat < rows.length:=(List.getElem?_eq_some_iff.1 hj).1
 have hj2 : j < (rows.length : Int):=by omega
 subst hsz'
 rcases hown.2 with ⟨hv,hn⟩ | ⟨g,cap,cur,fr,hv,_,_,_,hn,_⟩
 ·omega
 ·refine wp_val (w':=w) (v:=.pointer (some ((⟨g,0,none⟩ : Addr).add (j.toNat * sz)))) ?_ (hK _ _ _ (Gr.refl hS) ?_)
  ·simp [execOp,hop,hiv,hx,hv,run_indexAt_sli (P:=P) (k:=k) hu (run_sizeOf_info hinf hsz w) h0 hj2 _ rfl]
  ·intro e2 sz2 rows2 m2 hk2
   rw [ho'] at hk2
   injection hk2 with hk2
   injection hk2 with h4 h5 h6 _ h7
   subst h5 h6 h7
   exact ⟨Nat.le_refl _,hjlt,⟨g,_,_,hv,by rw [Nat.add_zero]⟩,fun _=>hj⟩
theorem good_indexArr {ev : Operand→Option AV} {obs : Obs} {t : Nat} {x i : Operand} {cs ds : List AV} {off : Nat} {ti : TI} {k : IntKind} {n esz m : Nat} (ht : TOK P t ti) (hk : ti.kind = .arr n esz)
  (hp : ev x = some (.ept cs off)) (hi : ev i = some (.v (.int k (m : Int)))) (hm : m < n) (hc : cut (off + m * esz) esz cs = some ds) : Good P ev obs (.indexAddr t x i) (.ept ds 0):=by
 intro a w S β B hS hgd hev ho oper hop K Q hK
 have hx : Rep w S (.ept cs off) (a.eval x):=hev x (by simp [Op.operands]) _ hp
 have hiv : a.eval i = .int k (m : Int):=srep_v (hev i (by simp [Op.operands]) _ hi)
 have hkd:=ht.kind
 rw [hk] at hkd
 obtain ⟨e,hu,hz⟩:=hkd
 obtain ⟨b,hy,h⟩:=Rep.ept_inv hx
 ·refine wp_val (w':=w) (v:=.pointer (some ((b.add off).add (m * esz)))) ?_ (hK _ _ _ (Gr.refl hS) ?_)
  ·have:=run_indexAt_arr (P:=P) (k:=k) (j:=(m : Int)) hu (hz w) (by omega) (by omega) (b.add off)
   rw [Int.toNat_natCast] at this
   simp [execOp,hop,hiv,hy,this]
  ·rw [add_add]
   obtain ⟨xs,hl,hrep,hx⟩:=cut_ok (f:=fun i=>b.add i) h.2 _ _ _ hc
   have hca : CellsAt w S (b.add (off + m * esz)) ds:=⟨by rw [add_block]; exact h.1,fun i u hu=>by
    obtain ⟨x,hx1,hx2⟩:=hrep.get hu
    exact ⟨x,by rw [add_add]; exact hx i x hx1,hx2⟩⟩
   have:=Rep.ept (off:=0) hca
   rw [show (b.add (off + m * esz)).add 0 = b.add (off + m * esz) from by rw [add_add]; rfl] at this
   exact srep_of_rep this
theorem good_indexPtr {ev : Operand→Option AV} {obs : Obs} {t : Nat} {x i : Operand} {q off : Nat} {ti : TI} {k : IntKind} {n esz m : Nat} (ht : TOK P t ti) (hk : ti.kind = .arr n esz)
  (hp : ev x = some (.ptr q off)) (hi : ev i = some (.v (.int k (m : Int)))) (hm : m < n) : Good P ev obs (.indexAddr t x i) (.ptr q (off + m * esz)):=by
 intro a w S β B hS hgd hev ho oper hop K Q hK
 obtain ⟨g,h1,h2⟩:=(show ∃ g,β q = .pointer (some ⟨g,0,none⟩)∧a.eval x = .pointer (some ((⟨g,0,none⟩ : Addr).add off)) from hev x (by simp [Op.operands]) _ hp)
 have hiv : a.eval i = .int k (m : Int):=srep_v (hev i (by simp [Op.operands]) _ hi)
 have hkd:=ht.kind
 rw [hk] at hkd
 obtain ⟨e,hu,hz⟩:=hkd
 refine wp_val (w':=w) (v:=.pointer (some (((⟨g,0,none⟩ : Addr).add off).add (m * esz)))) ?_ (hK _ _ _ (Gr.refl hS) ?_)
 ·have:=run_indexAt_arr (P:=P) (k:=k) (j:=(m : Int)) hu (hz w) (by omega) (by omega) ((⟨g,0,none⟩ : Addr).add off)
  rw [Int.toNat_natCast] at this
  simp [execOp,hop,hiv,h2,this]
 ·exact ⟨g,h1,by rw [add_add]⟩
theorem good_indexStr {ev : Operand→Option AV} {obs : Obs} {t : Nat} {x i : Operand} {s : ByteArray} {ti : TI} {k : IntKind} {j : Int} (ht : TOK P t ti) (hk : ti.kind = .str) (hp : ev x = some (.v (.string s))) (hi : ev i = some (.v (.int k j))) (h0 : 0 ≤ j) (h1 : j < (s.size : Int)) :
  Good P ev obs (.index t x i) (.v (.int .u8 (sy .bt s j))):=by
 intro a w S β B hS hgd hev ho oper hop K Q hK
 have hx : a.eval x = .string s:=srep_v (hev x (by simp [Op.operands]) _ hp)
 have hiv : a.eval i = .int k j:=srep_v (hev i (by simp [Op.operands]) _ hi)
 have hkd:=ht.kind
 rw [hk] at hkd
 have hu : P.underlying t = some .string:=hkd
 have hlt : j.toNat < s.size:=by omega
 refine wp_val (w':=w) (v:=.int .u8 (sy .bt s j)) ?_ (hK _ _ _ (Gr.refl hS) (srep_c (.v _ rfl)))
 simp only [execOp,hop,hx,hiv]
 simp [Instr.index,asIntOf,run_underlying hu,h0,sy,hlt]
theorem good_sliceStr {ev : Operand→Option AV} {obs : Obs} {t : Nat} {x : Operand} {lo hi : Option Operand} {s : ByteArray} {ti : TI} {l h : Nat} (ht : TOK P t ti) (hk : ti.kind = .str) (hp : ev x = some (.v (.string s)))
  (hl : match lo with | none=>l = 0 | some o=>ev o = some (.v (.int .i64 (l : Int)))) (hh : match hi with | none=>h = s.size | some o=>ev o = some (.v (.int .i64 (h : Int)))) (h1 : l ≤ h) (h2 : h ≤ s.size) : Good P ev obs (.slice t x lo hi none) (.v (.string (s.extract l h))):=by
 intro a w S β B hS hgd hev ho oper hop K Q hK
 have hx : a.eval x = .string s:=srep_v (hev x (by simp [Op.operands]) _ hp)
 have hkd:=ht.kind
 rw [hk] at hkd
 have hu : P.underlying t = some .string:=hkd
 have e1 : ∀ o,lo = some o→a.eval o = .int .i64 (l : Int):=fun o ho=>by subst ho; exact srep_v (hev o (by simp [Op.operands]) _ hl)
 have e2 : ∀ o,hi = some o→a.eval o = .int .i64 (h : Int):=fun o ho=>by subst ho; exact srep_v (hev o (by simp [Op.operands]) _ hh)
 refine wp_val (w':=w) (v:=.string (s.extract l h)) ?_ (hK _ _ _ (Gr.refl hS) (srep_c (.v _ rfl)))
 have hz : (0 : Int) ≤ (l : Int):=by omega
 have hz2 : (0 : Int) ≤ (h : Int):=by omega
 cases lo with
 | none =>
  simp only at hl
  subst hl
  cases hi with
  | none=>simp only at hh; subst hh; simp [execOp,hop,hx,Instr.sliceAt,Instr.slice,run_underlying hu,Instr.sliceBounds]
  | some o2=>simp [execOp,hop,hx,e2 o2 rfl,Instr.sliceAt,Instr.slice,run_underlying hu,Instr.sliceBounds,Instr.sliceBound,asIntOf,h2]
 | some o1 =>
  cases hi with
  | none=>simp only at hh; subst hh; simp [execOp,hop,hx,e1 o1 rfl,Instr.sliceAt,Instr.slice,run_underlying hu,Instr.sliceBounds,Instr.sliceBound,asIntOf,h1]
  | some o2=>simp [execOp,hop,hx,e1 o1 rfl,e2 o2 rfl,Instr.sliceAt,Instr.slice,run_underlying hu,Instr.sliceBounds,Instr.sliceBound,asIntOf,h1,h2]
theorem good_sliceSl {ev : Operand→Option AV} {obs : Obs} {t : Nat} {x : Operand} {lo hi : Option Operand} {rows : List (List AV)} {ti : TI} {e esz bytes l h : Nat} (ht : TOK P t ti) (hk : ti.kind = .sli e esz bytes) (hp : ev x = some (.sl rows)) (hrows : ∀ r ∈ rows,r.length = esz)
  (hl : match lo with | none=>l = 0 | some o=>ev o = some (.v (.int .i64 (l : Int)))) (hh : match hi with | none=>h = rows.length | some o=>ev o = some (.v (.int .i64 (h : Int)))) (h1 : l ≤ h) (h2 : h ≤ rows.length) : Good P ev obs (.slice t x lo hi none) (.sl ((rows.drop l).take (h - l))):=by
 intro a w S β B hS hgd hev ho oper hop K Q hK
 have hx:=srep_sl (hev x (by simp [Op.operands]) _ hp)
 have hkd:=ht.kind
 rw [hk] at hkd
 obtain ⟨hu,⟨hpos,hposb⟩,inf,z,hinf,hz,hsz,hby,hzs⟩:=hkd
 have e1 : ∀ o,lo = some o→a.eval o = .int .i64 (l : Int):=fun o ho=>by subst ho; exact srep_v (hev o (by simp [Op.operands]) _ hl)
 have e2 : ∀ o,hi = some o→a.eval o = .int .i64 (h : Int):=fun o ho=>by subst ho; exact srep_v (hev o (by simp [Op.operands]) _ hh)
 have hz0 : (0 : Int) ≤ (l : Int):=by omega
 have hz2 : (0 : Int) ≤ (h : Int):=by omega
 have hso:=run_sizeOf_info (P:=P) hinf hsz w
 obtain ⟨ad,c,hy,hc,hnn⟩ : ∃ ad c,a.eval x = .slice ad rows.length c∧rows.length ≤ c∧(ad = none→c = 0):=by
  generalize a.eval x = y at hx
  cases hx with
  | nil a c hn=>exact ⟨a,c,rfl,Nat.zero_le _,hn⟩
  | sl rows a c sz f ha hlen hc hm h h'=>exact ⟨_,_,rfl,hc,fun h=>by simp at h⟩
 have h2c : h ≤ c:=Nat.le_trans h2 hc
 refine wp_val (w':=w) (v:=.slice (if c = l then ad else ad.map (·.add (l * esz))) (h - l) (c - l)) ?_ (hK _ _ _ (Gr.refl hS) ?_)
 ·cases lo with
  | none =>
   simp only at hl
   subst hl
   cases hi with
   | none=>simp only at hh; subst hh; simp [execOp,hop,hy,Instr.sliceAt,Instr.slice,run_underlying hu,Instr.sliceBounds,hso]
   | some o2=>simp [execOp,hop,hy,e2 o2 rfl,Instr.sliceAt,Instr.slice,run_underlying hu,Instr.sliceBounds,Instr.sliceBound,asIntOf,h2c,hso]
  | some o1 =>
   cases hi with
   | none=>simp only at hh; subst hh; simp [execOp,hop,hy,e1 o1 rfl,Instr.sliceAt,Instr.slice,run_underlying hu,Instr.sliceBounds,Instr.sliceBound,asIntOf,h1,hso]
   | some o2=>simp [execOp,hop,hy,e1 o1 rfl,e2 o2 rfl,Instr.sliceAt,Instr.slice,run_underlying hu,Instr.sliceBounds,Instr.sliceBound,asIntOf,h1,h2c,hso]
 ·have hlen' : ((rows.drop l).take (h - l)).length = h - l:=by simp; omega
  by_cases he : h = l
  ·subst he
   simp only [Nat.sub_self,List.take_zero]
   refine srep_c (.nil _ _ fun hn=>?_)
   have : ad = none:=by
    split at hn
    ·exact hn
    ·simpa using hn
   have:=hnn this
   omega
  ·rw [hy] at hx
   cases hx with
   | nil a c hn=>simp at h2; omega
   | sl rows b c sz f ha hlen hc hm hh1 hh2 =>
    have hsze : sz = esz:=by
     cases rows with
     | nil=>simp at h2; omega
     | cons r rs=>rw [← hlen r List.mem_cons_self,hrows r List.mem_cons_self]
    subst hsze
    have hcl : ¬ c = l:=by omega
    rw [if_neg hcl]
    refine srep_c ?_
    have hgo : ∀ (i : Nat) r,((rows.drop l).take (h - l))[i]? = some r→rows[l + i]? = some r:=by
     intro i r hr
     rw [List.getElem?_take] at hr
     split at hr
     ·simpa using hr
     ·simp at hr
    have:=RepC.sl (w:=w) (S:=S) ((rows.drop l).take (h - l)) (b.add (l * sz)) (c - l) sz (fun i j=>f (l + i) j) (by rw [add_block]; exact ha) (fun r hr=>hlen r (List.mem_of_mem_drop (List.mem_of_mem_take hr))) (by rw [hlen']; omega) (by rw [hlen']; omega)
     (fun i r hr j u hu=>by rw [add_add,← Nat.add_assoc,← Nat.add_mul]; exact hh1 _ r (hgo i r hr) j u hu) (fun i r hr j u hu=>hh2 _ r (hgo i r hr) j u hu)
    rw [hlen'] at this
    exact this
theorem own_shape {w : World} {e sz n : Nat} {x : Value} {xs : List Value} {B : Nat} (h : OwnR w B e sz x n xs) : ∃ ad c,x = .slice ad n c∧n ≤ c∧(0 < n→∃ g,ad = some ⟨g,0,none⟩)∧(ad = none→c = 0)∧(∀ g : Addr,ad = some g→g.off = 0∧g.spot = none):=by
 rcases h.2 with ⟨hv,hn⟩ | ⟨g,cap,cur,fr,hv,hB,hh,hfr,hn,hm,hcs,htake⟩
 ·exact ⟨none,0,by rw [hv,hn],by omega,fun h=>by omega,fun _=>rfl,fun g h=>by simp at h⟩
 ·exact ⟨_,cap,hv,hn,fun _=>⟨g,rfl⟩,fun h=>by simp at h,fun g' h=>by injection h with h; subst h; exact ⟨rfl,rfl⟩⟩
theorem good_sliceOwn {ev : Operand→Option AV} {obs : Obs} {t : Nat} {x o : Operand} {k ver m e sz l : Nat} {rows : List (List AV)} {ti : TI} {e' bytes : Nat} (ht : TOK P t ti) (hk : ti.kind = .sli e' sz bytes) (hp : ev x = some (.own k ver)) (hob : lk k obs = some (.row e sz rows ver m))
  (hl : ev o = some (.v (.int .i64 (l : Int)))) (h2 : l ≤ rows.length) : Good P ev obs (.slice t x (some o) none none) (.osl k ver l):=by
 intro a w S β B hS hgd hev ho oper hop K Q hK
 have hx : a.eval x = β k:=(show ∀ e sz rows m,lk k obs = some (.row e sz rows ver m)→a.eval x = β k from hev x (by simp [Op.operands]) _ hp) _ _ _ _ hob
 have hkd:=ht.kind
 rw [hk] at hkd
 obtain ⟨hu,⟨hpos,hposb⟩,inf,z,hinf,hz,hsz,hby,hzs⟩:=hkd
 have e1 : a.eval o = .int .i64 (l : Int):=srep_v (hev o (by simp [Op.operands]) _ hl)
 have hz0 : (0 : Int) ≤ (l : Int):=by omega
 have hso:=run_sizeOf_info (P:=P) hinf hsz w
 obtain ⟨xs,hown,_⟩:=ho _ _ hob
 obtain ⟨ad,c,hy,hc,hpos2,hnn,_⟩:=own_shape hown
 rw [hy] at hx
 refine wp_val (w':=w) (v:=.slice (if c = l then ad else ad.map (·.add (l * sz))) (rows.length - l) (c - l)) ?_ (hK _ _ _ (Gr.refl hS) ?_)
 ·simp [execOp,hop,hx,e1,Instr.sliceAt,Instr.slice,run_underlying hu,Instr.sliceBounds,Instr.sliceBound,asIntOf,h2,hso]
 ·show ∀ e sz rows m,lk k obs = some (.row e sz rows ver m)→OslP β k l sz rows.length _
  intro e2 sz2 rows2 m2 hlk
  rw [hob] at hlk
  injection hlk with hlk
  injection hlk with i1 i2 i3 i4 i5
  subst i1 i2 i3
  refine ⟨h2,_,_,rfl,fun hlt=>?_⟩
  obtain ⟨g,hg⟩:=hpos2 (by omega)
  subst hg
  exact ⟨g,_,c,hy,by rw [if_neg (by omega)]; rfl⟩
theorem good_indexOsl {ev : Operand→Option AV} {obs : Obs} {t : Nat} {x i : Operand} {q ver mver lo m : Nat} {rows : List (List AV)} {cs : List AV} {ti : TI} {k : IntKind} {j : Int} {e e' esz bytes sz : Nat} (ht : TOK P t ti) (hk : ti.kind = .sli e esz bytes)
  (hp : ev x = some (.osl q ver lo)) (ho' : lk q obs = some (.row e' sz rows ver mver)) (hi : ev i = some (.v (.int k j))) (hjm : j = (m : Int)) (hj : rows[lo + m]? = some cs) (hsz' : sz = esz) : Good P ev obs (.indexAddr t x i) (.rel q ver mver (lo + m) cs 0):=by
 intro a w S β B hS hgd hev ho oper hop K Q hK
 obtain ⟨hle,ad,c',hx,hpos2⟩:=(show ∀ e sz rows m,lk q obs = some (.row e sz rows ver m)→OslP β q lo sz rows.length (a.eval x) from hev x (by simp [Op.operands]) _ hp) _ _ _ _ ho'
 have hiv : a.eval i = .int k j:=srep_v (hev i (by simp [Op.operands]) _ hi)
 have hkd:=ht.kind
 rw [hk] at hkd
 obtain ⟨hu,⟨hpos,hposb⟩,inf,z,hinf,hz,hsz,hby,hzs⟩:=hkd
 have hlt : lo + m < rows.length:=(List.getElem?_eq_some_iff.1 hj).1
 subst hsz'
 obtain ⟨g,n',c,hv,had⟩:=hpos2 (by omega)
 subst had hjm
 refine wp_val (w':=w) (v:=.pointer (some (((⟨g,0,none⟩ : Addr).add (lo * sz)).add (m * sz)))) ?_ (hK _ _ _ (Gr.refl hS) ?_)
 ·have:=run_indexAt_sli (P:=P) (k:=k) (j:=(m : Int)) (n:=rows.length - lo) (c:=c') (w:=w) hu (run_sizeOf_info hinf hsz w) (by omega) (by omega) ((⟨g,0,none⟩ : Addr).add (lo * sz)) rfl
  simp only [Int.toNat_natCast] at this
  simp [execOp,hop,hiv,hx,this]
 ·intro e2 sz2 rows2 m2 hk2
  rw [ho'] at hk2
  injection hk2 with hk2
  injection hk2 with h4 h5 h6 _ h7
  subst h5 h6 h7
  exact ⟨Nat.le_refl _,hlt,⟨g,_,_,hv,by rw [add_add,Nat.add_zero,Nat.add_mul]⟩,fun _=>hj⟩
theorem good_lenOsl {ev : Operand→Option AV} {obs : Obs} {x : Operand} {q ver mver lo : Nat} {rows : List (List AV)} {t : Nat} {ti : TI} {e e' esz bytes sz : Nat} (ht : TOK P t ti) (hk : ti.kind = .sli e esz bytes) (hp : ev x = some (.osl q ver lo)) (ho' : lk q obs = some (.row e' sz rows ver mver)) : Good P ev obs (.call { callee:=.builtin .len,args:=#[x],argTypes:=#[t] }) (.v (.int .i64 (sy .len (rows.drop lo)))):=by
 intro a w S β B hS hgd hev ho oper hop K Q hK
 obtain ⟨hle,ad,c',hx,hpos2⟩:=(show ∀ e sz rows m,lk q obs = some (.row e sz rows ver m)→OslP β q lo sz rows.length (a.eval x) from hev x (by simp [Op.operands,Call.operands]) _ hp) _ _ _ _ ho'
 have hkd:=ht.kind
 rw [hk] at hkd
 obtain ⟨hu,_⟩:=hkd
 have hl : sy .len (rows.drop lo) = ((rows.length - lo : Nat) : Int):=by show ((rows.drop lo).length : Int) = _; rw [List.length_drop]
 refine wp_val (w':=w) (v:=.int .i64 ((rows.length - lo : Nat) : Int)) (by simp [execOp,hop,hx,resolve,invoke,builtin,Builtin.len_,run_underlying hu,goInt]) (hK _ _ _ (Gr.refl hS) ?_)
 rw [hl]
 exact srep_c (.v _ rfl)
theorem good_extract {ev : Operand→Option AV} {obs : Obs} {x : Operand} {i : Nat} {vs : List AV} {u : AV} (hp : ev x = some (.tup vs)) (hu : vs[i]? = some u) (hn : ∀ r,u ≠ .tup r) : Good P ev obs (.extract x i) u:=by
 intro a w S β B hS hgd hev ho oper hop K Q hK
 obtain ⟨ys,hy,hl,hr⟩:=(show ∃ ys : List Value,a.eval x = .tuple ys.toArray∧vs.length = ys.length∧∀ (i : Nat) (u : AV) (x : Value),vs[i]? = some u→ys[i]? = some x→SRep0 w S β obs u x from hev x (by simp [Op.operands]) _ hp)
 have hi : i < ys.length:=by rw [← hl]; exact (List.getElem?_eq_some_iff.1 hu).1
 refine wp_val (w':=w) (v:=ys[i]) (by simp [execOp,hop,hy,Instr.extract,hi]) (hK _ _ _ (Gr.refl hS) ?_)
 have:=hr i u _ hu (List.getElem?_eq_getElem hi)
 cases u <;> try exact this
 exact absurd rfl (hn _)
theorem good_lenStr {ev : Operand→Option AV} {obs : Obs} {x : Operand} {s : ByteArray} {t : Nat} {ti : TI} (ht : TOK P t ti) (hk : ti.kind = .str) (hp : ev x = some (.v (.string s))) : Good P ev obs (.call { callee:=.builtin .len,args:=#[x],argTypes:=#[t] }) (.v (.int .i64 (sy .slen s))):=by
 intro a w S β B hS hgd hev ho oper hop K Q hK
 have hx : a.eval x = .string s:=srep_v (hev x (by simp [Op.operands,Call.operands]) _ hp)
 have hkd:=ht.kind
 rw [hk] at hkd
 have hu : P.underlying t = some .string:=hkd
 exact wp_val (w':=w) (v:=.int .i64 (s.size : Int)) (by simp [execOp,hop,hx,resolve,invoke,builtin,Builtin.len_,run_underlying hu,goInt]) (hK _ _ _ (Gr.refl hS) (srep_c (.v _ rfl)))
theorem good_lenSl {ev : Operand→Option AV} {obs : Obs} {x : Operand} {p : AV} {rows : List (List AV)} {t : Nat} {ti : TI} {e esz bytes : Nat} (ht : TOK P t ti) (hk : ti.kind = .sli e esz bytes) (hp : ev x = some p) (hr : rowsOf obs p = some rows) : Good P ev obs (.call { callee:=.builtin .len,args:=#[x],argTypes:=#[t] }) (.v (.int .i64 (sy .len rows))):=by
 intro a w S β B hS hgd hev ho oper hop K Q hK
 obtain ⟨ad,c,hy,_⟩:=rows_ok ho hr (hev x (by simp [Op.operands,Call.operands]) _ hp)
 have hkd:=ht.kind
 rw [hk] at hkd
 obtain ⟨hu,_⟩:=hkd
 exact wp_val (w':=w) (v:=.int .i64 (rows.length : Int)) (by simp [execOp,hop,hy,resolve,invoke,builtin,Builtin.len_,run_underlying hu,goInt]) (hK _ _ _ (Gr.refl hS) (srep_c (.v _ rfl)))
theorem getObj_map {w : World} {r : Nat} {es : Array MapEntry} {clock : Nat} (h : w.heap[r]? = some (.map es clock)) : (getObj r).run P w = .ok (.map es clock) w:=by simp [getObj,Sem.run,h]
def fnd : List ByteArray→List MapEntry→ByteArray→Nat→Option (Nat × Value)
 | k :: ks,e :: es,s,i=>if k = s then some (i,e.val) else fnd ks es s (i + 1)
 | _,_,_,_=>none
theorem bytes_beqA (a b : ByteArray) : (a == b) = decide (a = b):=by
 rw [Bool.eq_iff_iff,beq_toListBytes,beq_iff_eq,ByteArray.toList_eq,ByteArray.toList_eq]
 obtain ⟨⟨x⟩⟩:=a
 obtain ⟨⟨y⟩⟩:=b
 simp
theorem findNow_str (s : ByteArray) : ∀ (ks : List ByteArray) (es : List MapEntry) (i : Nat),es.map (·.key) = ks.map Value.string→Instr.findNow .string (.string s) es i = some (fnd ks es s i)
 | [],[],_,_=>rfl
 | [],_ :: _,_,h=>by cases h
 | _ :: _,[],_,h=>by cases h
 | k :: ks,e :: es,i,h=>by
  simp only [List.map_cons,List.cons.injEq] at h
  unfold Instr.findNow fnd
  rw [h.1]
  simp only [Instr.sameNow,bytes_beqA]
  by_cases hk : k = s
  ·rw [if_pos hk,decide_eq_true hk.symm]
  ·rw [if_neg hk,decide_eq_false (fun e=>hk e.symm)]
   exact findNow_str s ks es (i + 1) h.2
theorem fnd_get {w : World} {S : Nat→Prop} (s : ByteArray) : ∀ (ks : List ByteArray) (vs : List AV) (es : List MapEntry) (i : Nat),es.map (·.key) = ks.map Value.string→vs.length = ks.length→(∀ (j : Nat) (u : AV) (e : MapEntry),vs[j]? = some u→es[j]? = some e→Rep w S u e.val) →
  (∀ v,mget ks vs s = some v→∃ j y,fnd ks es s i = some (j,y)∧Rep w S v y)∧(mget ks vs s = none→fnd ks es s i = none)
 | [],_,_,i,_,_,_=>⟨fun v h=>by simp [mget] at h,fun _=>rfl⟩
 | k :: ks,[],_,i,_,h,_=>by simp at h
 | k :: ks,v :: vs,[],i,h,_,_=>by cases h
 | k :: ks,v :: vs,e :: es,i,hk,hl,hr=>by
  simp only [List.map_cons,List.cons.injEq] at hk
  obtain ⟨h1,h2⟩:=fnd_get s ks vs es (i + 1) hk.2 (by simpa using hl) (fun j u e' hu he=>hr (j + 1) u e' (by simpa using hu) (by simpa using he))
  unfold mget fnd
  by_cases hks : k = s
  ·rw [if_pos hks,if_pos hks]
   exact ⟨fun u hu=>by injection hu with hu; subst hu; exact ⟨i,e.val,rfl,hr 0 v e rfl rfl⟩,fun h=>by cases h⟩
  ·rw [if_neg hks,if_neg hks]
   exact ⟨h1,h2⟩
theorem checkKey_str (b : Bool) (n : Nat) {k : TypeId} (hk : P.underlying k = some .string) (s : ByteArray) (w : World) : (Instr.checkKey b (n + 1) k (.string s)).run P w = .ok () w:=by
 unfold Instr.checkKey
 simp [run_underlying hk]
theorem findKey_str {k : TypeId} (hk : P.underlying k = some .string) (s : ByteArray) (ks : List ByteArray) (es : List MapEntry) (h : es.map (·.key) = ks.map Value.string) (w : World) : (Instr.findKey k (.string s) es).run P w = .ok (fnd ks es s 0) w:=by
 unfold Instr.findKey
 simp [run_underlying hk,findNow_str s ks es 0 h]
theorem map_ok {w : World} {S : Nat→Prop} {β : Nat→Value} {obs : Obs} {B : Nat} (ho : ∀ k o,lk k obs = some o→ORep w S B (β k) o) {p : AV} {y : Value} {ks : List ByteArray} {vs : List AV} (h : mapOf obs p = some (ks,vs)) (hp : SRep w S β obs p y) :
  (y = .map none∧ks = []∧vs = []) ∨ ∃ r es clock,y = .map (some r)∧w.heap[r]? = some (.map es clock)∧es.toList.map (·.key) = ks.map Value.string∧vs.length = ks.length∧∀ (i : Nat) (u : AV) (e : MapEntry),vs[i]? = some u→es.toList[i]? = some e→Rep w S u e.val:=by
 unfold mapOf at h
 split at h
 ·injection h with h
  injection h with h1 h2
  subst h1 h2
  have hp' : Rep w S (.mp _ _) y:=hp
  obtain ⟨es,clock,r,rfl,hs,hh,hk,hl,hn,hbd,hr⟩:=Rep.mp_inv hp'
  exact .inr ⟨_,_,_,rfl,hh,hk,hl,hr⟩
 ·injection h with h
  injection h with h1 h2
  exact .inl ⟨srep_v hp,h1.symm,h2.symm⟩
 ·rename_i k
  split at h
  ·rename_i ks' vs' hk
   injection h with h
   injection h with h1 h2
   subst h1 h2
   have hy : y = β k:=(show ∀ ks vs,lk k obs = some (.mp ks vs)→y = β k from hp) _ _ hk
   obtain ⟨r,es,clock,e,hB,hS,hh,h1,h2,_,_,h3⟩:=ho k _ hk
   exact .inr ⟨r,es,clock,hy.trans e,hh,h1,h2,h3⟩
  ·cases h
 ·cases h
theorem srep0_ofR {w : World} {S : Nat→Prop} {β : Nat→Value} {obs : Obs} {u : AV} {y : Value} (h : Rep w S u y) : SRep0 w S β obs u y:=by
 have:=srep_of_rep (β:=β) (obs:=obs) h
 cases u <;> try exact this
 cases h with
 | c h=>cases h
theorem zAV_ok {te : TI} {e : TypeId} (hte : TOK P e te) {w : World} {S : Nat→Prop} {β : Nat→Value} {obs : Obs} : ∃ z,(zeroValue e).run P w = .ok z w∧(zAV te ≠ .dead→Rep w S (zAV te) z):=by
 obtain ⟨z,hz,hs,hr⟩:=hte.zero w
 refine ⟨z,hz,fun hd=>?_⟩
 unfold zAV at hd ⊢
 split at hd
 ·rename_i ha
  rw [if_pos ha]
  split at hd
  ·exact absurd rfl hd
  ·rename_i h1
   rw [if_neg h1]
   cases z with
   | agg cs =>
    have:=hr w S
    have e : (Value.agg cs) = .agg cs.toList.toArray:=by simp
    rw [e]
    exact .agg this
   | _=>exact absurd hs.symm h1
 ·rename_i ha
  rw [if_neg ha]
  have hz1:=hte.zone (by simpa using ha) w z hz
  have hr1:=hr w S
  rw [hz1] at hr1
  split at hd
  ·rename_i x hzx
   rw [hzx] at hr1
   obtain ⟨y,ys,h1,h2,_⟩:=RepL.uncons hr1
   simp at h1
   rw [h1.1]
   exact .c h2
  ·rename_i c hzc
   rw [hzc] at hr1
   obtain ⟨y,ys,h1,h2,_⟩:=RepL.uncons hr1
   simp at h1
   rw [h1.1]
   cases h2
   exact .c (.v _ rfl)
  ·exact absurd rfl hd
theorem good_lookup {ev : Operand→Option AV} {obs : Obs} {t k e : Nat} {m x : Operand} {ck : Bool} {ti te : TI} {p : AV} {s : ByteArray} {ks : List ByteArray} {vs : List AV} {r : AV} (ht : TOK P t ti) (hk : ti.kind = .mp k e) (hte : TOK P e te) (hp : ev m = some p) (hx : ev x = some (.v (.string s))) (hm : mapOf obs p = some (ks,vs))
  (hg : MG te ks vs s ck r) (hd : mget ks vs s = none→zAV te ≠ .dead) : Good P ev obs (.lookup t m x ck) r:=by
 intro a w S β B hS hgd hev ho oper hop K Q hK
 have hkd:=ht.kind
 rw [hk] at hkd
 obtain ⟨hu,hks⟩:=hkd
 have hxs : a.eval x = .string s:=srep_v (hev x (by simp [Op.operands]) _ hx)
 obtain ⟨z,hz,hzr⟩:=zAV_ok (S:=S) (β:=β) (obs:=obs) hte (w:=w)
 have main : ∃ es : List MapEntry,es.map (·.key) = ks.map Value.string∧vs.length = ks.length∧(∀ (i : Nat) (u : AV) (e : MapEntry),vs[i]? = some u→es[i]? = some e→Rep w S u e.val) ∧
   (execOp a.eval oper).run P w = (match fnd ks es s 0 with | some (_,v)=>.ok (.value (if ck then .tuple #[v,.bool true] else v)) w | none=>.ok (.value (if ck then .tuple #[z,.bool false] else z)) w):=by
  rcases map_ok ho hm (hev m (by simp [Op.operands]) _ hp) with ⟨hy,rfl,rfl⟩ | ⟨rr,es,clock,hy,hh,h1,h2,h3⟩
  ·refine ⟨[],rfl,rfl,fun i u e h=>by simp at h,?_⟩
   have hf:=findKey_str hks s [] [] rfl w
   simp [execOp,hop,Instr.lookup,run_underlying hu,hy,hxs,checkKey_str _ 9999 hks,hf,fnd,hz]
  ·refine ⟨es.toList,h1,h2,h3,?_⟩
   have hf:=findKey_str hks s ks es.toList h1 w
   have hg:=getObj_map (P:=P) hh
   cases hfd : fnd ks es.toList s 0 with
   | none=>simp [execOp,hop,Instr.lookup,run_underlying hu,hy,hxs,hg,checkKey_str _ 9999 hks,hf,hfd,hz]
   | some jv =>
    obtain ⟨j,v⟩:=jv
    simp [execOp,hop,Instr.lookup,run_underlying hu,hy,hxs,hg,checkKey_str _ 9999 hks,hf,hfd]
 obtain ⟨es,h1,h2,h3,hrun⟩:=main
 obtain ⟨g1,g2⟩:=fnd_get (w:=w) (S:=S) s ks vs es 0 h1 h2 h3
 have tup : ∀ (v : AV) (y : Value) (b : Bool),Rep w S v y→SRep w S β obs (.tup [v,.v (.bool b)]) (.tuple #[y,.bool b]):=fun v y b hv=>⟨[y,.bool b],rfl,rfl,fun i u x hu hx=>by
  match i with
  | 0=>simp at hu hx; subst hu hx; exact srep0_ofR hv
  | 1=>simp at hu hx; subst hu hx; exact srep0_ofR (.c (.v _ rfl))
  | i + 2=>simp at hu⟩
 cases hg with
 | hit h =>
  obtain ⟨j,y,hf,hr⟩:=g1 _ h
  rw [hf] at hrun
  exact wp_val hrun (hK _ _ _ (Gr.refl hS) (tup _ _ _ hr))
 | miss h =>
  rw [g2 h] at hrun
  exact wp_val hrun (hK _ _ _ (Gr.refl hS) (tup _ _ _ (hzr (hd h))))
 | hit1 h =>
  obtain ⟨j,y,hf,hr⟩:=g1 _ h
  rw [hf] at hrun
  exact wp_val hrun (hK _ _ _ (Gr.refl hS) (srep_of_rep hr))
 | miss1 h =>
  rw [g2 h] at hrun
  exact wp_val hrun (hK _ _ _ (Gr.refl hS) (srep_of_rep (hzr (hd h))))
theorem good_entry {ev : Operand→Option AV} {obs : Obs} {x : Operand} {k : Nat} {ks : List ByteArray} {vs : List AV} {s : ByteArray} {v : AV} (hx : ev x = some (.ptr k 0)) (hk : lk k obs = some (.it ks vs (some (s,v)))) : Good P ev obs (.entry x) (.tup [.v (.string s),v]):=by
 intro a w S β B hS hgd hev ho oper hop K Q hK
 obtain ⟨g,h1,h2⟩:=(show ∃ g,β k = .pointer (some ⟨g,0,none⟩)∧a.eval x = .pointer (some ((⟨g,0,none⟩ : Addr).add 0)) from hev x (by simp [Op.operands]) _ hx)
 obtain ⟨r,bm,since,seen,c0,es,clock,he,hB,hSr,hh,hSb,hhb,hn,hbd,hsc,hcl,_,_,_,hcur⟩:=ho _ _ hk
 rw [h1] at he
 injection he with he
 injection he with he
 injection he with he
 subst he
 obtain ⟨e,seen',hem,hse,hc,hkey,hval⟩:=hcur s v rfl
 subst hse hc
 have hy : a.eval x = .pointer (some ⟨g,0,none⟩):=by rw [h2]; rfl
 have hrun:=run_entry_at (P:=P) w g bm since seen' es c0 e hh hhb hem hn
 refine wp_val (w':=w) (v:=.tuple #[e.key,e.val]) ?_ (hK _ _ _ (Gr.refl hS) ⟨[e.key,e.val],rfl,rfl,fun i u x hu hx=>?_⟩)
 ·simp [execOp,hop,hy,hrun]
 ·match i with
  | 0=>simp at hu hx; subst hu hx; rw [hkey]; exact srep0_ofR (.c (.v _ rfl))
  | 1=>simp at hu hx; subst hu hx; exact srep0_ofR hval
  | i + 2=>simp at hu
end Go.Proofs.Ytdnaadcbimbfmaa.Am
namespace Go.Proofs.Ytdnaadcbimbfmaa.Am
open Go Go.RowKit
variable {P : Program} {C : Key→List AV→Res→Prop}
theorem foldl_set (l : List Value) : ∀ (off k : Nat) (cs : Array Value),off + k + l.length ≤ cs.size →
  ((l.zipIdx k).foldl (fun cs (p : Value × Nat)=>cs.setIfInBounds (off + p.2) p.1) cs).toList = cs.toList.take (off + k) ++ l ++ cs.toList.drop (off + k + l.length):=by
 induction l with
 | nil=>intro off k cs h; simp
 | cons c l ih =>
  intro off k cs h
  simp only [List.zipIdx_cons,List.foldl_cons]
  rw [ih off (k + 1) _ (by simp only [Array.size_setIfInBounds]; simp at h; omega)]
  have hlt : off + k < cs.toList.length:=by simp at h ⊢; omega
  rw [Array.toList_setIfInBounds]
  have e1 : (cs.toList.set (off + k) c).take (off + (k + 1)) = cs.toList.take (off + k) ++ [c]:=by
   rw [show off + (k + 1) = (off + k) + 1 from by omega,List.take_succ_eq_append_getElem (by simpa using hlt)]
   simp [List.take_set_of_le]
  have e2 : (cs.toList.set (off + k) c).drop (off + (k + 1) + l.length) = cs.toList.drop (off + k + (c :: l).length):=by
   rw [List.drop_set_of_lt (by omega)]
   congr 1
   simp; omega
  rw [e1,e2]
  simp
theorem fill_step {place : Nat→Option (Nat × Nat)} {cells : Array Value} {i off size : Nat} {v : Value} {rest : List (Nat × Value)} {xs : List Value} (hp : place i = some (off,size)) (hx : v.cells = xs.toArray) (hs : xs.length = size) (hle : off + size ≤ cells.size) :
  ∃ cells' : Array Value,Instr.fill place cells ((i,v) :: rest) = Instr.fill place cells' rest∧cells'.toList = cells.toList.take off ++ xs ++ cells.toList.drop (off + size)∧cells'.size = cells.size:=by
 refine ⟨(xs.zipIdx 0).foldl (fun cs (p : Value × Nat)=>cs.setIfInBounds (off + p.2) p.1) cells,?_,?_,?_⟩
 ·simp only [Instr.fill,hp,hx]
  have : ¬ ((decide ((xs.toArray).size ≠ size) || decide (off + (xs.toArray).size > cells.size)) = true):=by simp [hs]; omega
  rw [if_neg this]
  congr 1
  rw [← Array.foldl_toList]
  simp
 ·have:=foldl_set xs off 0 cells (by omega)
  rw [this,hs]
  simp
 ·have:=congrArg List.length (foldl_set xs off 0 cells (by omega))
  simp only [Array.length_toList] at this
  rw [this]
  simp
  omega
theorem partRows_ok {ev : Operand→Option AV} {obs : Obs} {w : World} {S : Nat→Prop} {β : Nat→Value} {sz : Nat} {a : Act} : ∀ (l : List (Nat × Operand)) (i : Nat) (rows : List (List AV)) (cells : Array Value),
  (∀ p ∈ l,∀ u,ev p.2 = some u→SRep w S β obs u (a.eval p.2))→partRows ev sz i l = some rows→(i + rows.length) * sz ≤ cells.size →
  ∃ (cells' : Array Value) (xs : List Value),Instr.fill (fun i=>some (i * sz,sz)) cells (l.map fun p=>(p.1,a.eval p.2)) = some cells'∧cells'.toList = cells.toList.take (i * sz) ++ xs ++ cells.toList.drop ((i + rows.length) * sz)∧cells'.size = cells.size∧RepL w S rows.flatten xs∧∀ r ∈ rows,r.length = sz:=by
 intro l
 induction l with
 | nil =>
  intro i rows cells _ h hle
  simp [partRows] at h
  subst h
  exact ⟨cells,[],rfl,by simp,rfl,RepL.nil _ _,fun r h=>by simp at h⟩
 | cons p l ih =>
  obtain ⟨j,x⟩:=p
  intro i rows cells hev h hle
  simp only [partRows] at h
  split at h
  ·rename_i hji
   subst hji
   split at h
   ·rename_i u hu
    split at h
    ·rename_i cs hcs
     split at h
     ·rename_i hl
      split at h
      ·rename_i t ht
       injection h with h
       subst h
       obtain ⟨xs,hx,hr⟩:=cells_of hcs (hev (j,x) List.mem_cons_self u hu)
       have hxl : xs.length = sz:=by rw [← hr.1,hl]
       simp only [List.length_cons] at hle
       obtain ⟨c1,hf,hc1,hs1⟩:=fill_step (place:=fun i=>some (i * sz,sz)) (cells:=cells) (i:=j) (off:=j * sz) (size:=sz) (v:=a.eval x) (rest:=l.map fun p=>(p.1,a.eval p.2)) rfl hx hxl (by have:=Nat.mul_le_mul_right sz (show j + 1 ≤ j + (t.length + 1) by omega); rw [Nat.succ_mul] at this; omega)
       obtain ⟨c2,ys,hf2,hc2,hs2,hr2,hl2⟩:=ih (j + 1) t c1 (fun p hp=>hev p (List.mem_cons_of_mem _ hp)) ht (by rw [hs1]; rw [show j + 1 + t.length = j + (t.length + 1) from by omega]; exact hle)
       refine ⟨c2,xs ++ ys,by simp only [List.map_cons]; rw [hf,hf2],?_,by rw [hs2,hs1],?_,?_⟩
       ·rw [hc2,hc1]
        have hjs : j * sz ≤ cells.toList.length:=by
         have:=Nat.mul_le_mul_right sz (show j ≤ j + (t.length + 1) by omega)
         simp; omega
        have hlen1 : (cells.toList.take (j * sz) ++ xs).length = (j + 1) * sz:=by
         rw [List.length_append,List.length_take,Nat.min_eq_left hjs,hxl,Nat.succ_mul]
        rw [List.take_left' hlen1]
        have e3 : (j + 1 + t.length) * sz = (j + 1) * sz + t.length * sz:=by rw [Nat.add_mul]
        rw [e3,← List.drop_drop,List.drop_left' hlen1,List.drop_drop]
        simp only [List.length_cons]
        rw [show j * sz + sz + t.length * sz = (j + (t.length + 1)) * sz from by rw [Nat.add_mul,Nat.add_mul]; omega]
        simp
       ·rw [List.flatten_cons]; exact hr.append hr2
       ·intro r hr'
        rcases List.mem_cons.1 hr' with rfl | h
        ·exact hl
        ·exact hl2 r h
      ·simp at h
     ·simp at h
    ·simp at h
   ·simp at h
  ·simp at h
theorem flatten_get {sz : Nat} : ∀ (rows : List (List AV)) (j : Nat) (ds : List AV) (i : Nat) (u : AV),(∀ r ∈ rows,r.length = sz)→rows[j]? = some ds→ds[i]? = some u→rows.flatten[j * sz + i]? = some u:=by
 intro rows
 induction rows with
 | nil=>intro j ds i u _ h; simp at h
 | cons r rs ih =>
  intro j ds i u hl hj hu
  have hr0 : r.length = sz:=hl r List.mem_cons_self
  cases j with
  | zero =>
   simp at hj
   subst hj
   have hil : i < r.length:=(List.getElem?_eq_some_iff.1 hu).1
   rw [List.flatten_cons,List.getElem?_append_left (by omega)]
   simpa using hu
  | succ j =>
   rw [List.flatten_cons,List.getElem?_append_right (by rw [hr0,Nat.succ_mul]; omega)]
   have:=ih j ds i u (fun r hr=>hl r (List.mem_cons_of_mem _ hr)) (by simpa using hj) hu
   rw [hr0,Nat.succ_mul,show j * sz + sz + i - sz = j * sz + i from by omega]
   exact this
theorem flatten_len {sz : Nat} : ∀ (rows : List (List AV)),(∀ r ∈ rows,r.length = sz)→rows.flatten.length = rows.length * sz:=by
 intro rows
 induction rows with
 | nil=>intro _; simp
 | cons r rs ih =>
  intro hl
  rw [List.flatten_cons,List.length_append,hl r List.mem_cons_self,ih (fun r hr=>hl r (List.mem_cons_of_mem _ hr)),List.length_cons,Nat.succ_mul,Nat.add_comm]
theorem repc_of_block {w : World} {S : Nat→Prop} {g t : Nat} {cur : Array Value} {fr : Nat × Nat} {rows : List (List AV)} {xs : List Value} {sz c : Nat} (hg : w.heap[g]? = some (.cells cur t fr)) (hS : S g) (hl : ∀ r ∈ rows,r.length = sz) (hr : RepL w S rows.flatten xs)
  (hx : cur.toList.take (rows.length * sz) = xs) (hc : rows.length ≤ c) (hm : rows.length ≤ 9223372036854775807) : RepC w S (.sl rows) (.slice (some ⟨g,0,none⟩) rows.length c):=by
 refine .sl rows ⟨g,0,none⟩ c sz (fun i j=>cur[i * sz + j]?.getD (.bool true)) hS hl hc hm (fun i r hi j u hu=>?_) (fun i r hi j u hu=>?_)
 all_goals
  obtain ⟨x,hx1,hx2⟩:=hr.get (flatten_get rows i r j u hl hi hu)
  have hcur : cur[i * sz + j]? = some x:=by
   rw [← hx,List.getElem?_take] at hx1
   split at hx1
   ·simpa using hx1
   ·simp at hx1
 ·rw [add_mk,cell_of_row w g _ _ _ _ hg,hcur]; rfl
 ·simp only [hcur,Option.getD_some]; exact hx2
theorem repc_of_own {w : World} {S : Nat→Prop} {B e sz : Nat} {z : Value} {rows : List (List AV)} {zs : List Value} (h : OwnR w B e sz z rows.length zs) (hr : RepL w S rows.flatten zs) (hl : ∀ r ∈ rows,r.length = sz) (hS : ∀ g,z.ownBlock = some g→S g) : RepC w S (.sl rows) z:=by
 rcases h.2 with ⟨rfl,hn⟩ | ⟨g,cap,cur,fr,rfl,hB,hh,hfr,hn,hm,hcs,htake⟩
 ·cases rows with
  | nil=>exact .nil _ _ (fun _=>rfl)
  | cons r rs=>simp at hn
 ·exact repc_of_block hh (hS g (by simp [Value.ownBlock])) hl hr htake hn (by unfold maxLen at hm; omega)
theorem run_buildSlice {ev : Operand→Option AV} {obs : Obs} {t n : Nat} {parts : Array (Nat × Operand)} {rows : List (List AV)} {ti : TI} {e esz bytes : Nat} (ht : TOK P t ti) (hk : ti.kind = .sli e esz bytes) (hp : partRows ev esz 0 parts.toList = some rows) (hn : rows.length = n) (hb : n * esz ≤ 16777216) {a : Act} {w : World} {S : Nat→Prop} {β : Nat→Value}
  (hev : ∀ o ∈ (Op.buildSlice t n parts).operands,∀ u,ev o = some u→SRep w S β obs u (a.eval o)) {oper : Oper} (hop : oper.op = .buildSlice t n parts) :
  ∃ xs : List Value,(execOp a.eval oper).run P w = .ok (.value (.slice (some ⟨w.heap.size,0,none⟩) n n)) (w.alloc (.cells xs.toArray e (0,0)))∧RepL w S rows.flatten xs∧(∀ r ∈ rows,r.length = esz)∧xs.length = n * esz∧0 < esz:=by
 have hkd:=ht.kind
 rw [hk] at hkd
 obtain ⟨hu,⟨hpos,hposb⟩,inf,z,hinf,hz,hsz,hby,hzs⟩:=hkd
 have hso:=run_sizeOf_info (P:=P) hinf hsz w
 have hzv : (zeroValue e).run P w = .ok z w:=by simp [zeroValue,typeInfo,hinf,hz]
 obtain ⟨cells',xs,hf,hc,hs,hr,hl⟩:=partRows_ok (ev:=ev) (obs:=obs) (w:=w) (S:=S) (β:=β) (sz:=esz) (a:=a) parts.toList 0 rows ((Array.range (n * esz)).map (z.cells[· % z.cells.size]!)) (fun p hp u hu=>hev p.2 (by
  simp only [Op.operands]
  have : p.2 ∈ (parts.toList.map (·.2)):=List.mem_map_of_mem hp
  simpa using this) u hu) hp (by simp [hn])
 have hc' : cells'.toList = xs:=by rw [hc]; simp [hn]
 have hcells : cells' = xs.toArray:=by rw [← hc']
 have hxl : xs.length = n * esz:=by rw [← hr.1,flatten_len rows hl,hn]
 refine ⟨xs,?_,hr,hl,hxl,hpos⟩
 have hbig : ¬ (n * esz > 2 ^ 24):=by omega
 have hf' : Instr.fill (fun i=>some (i * esz,esz)) (Array.map (fun x=>z.cells[x % z.cells.size]!) (Array.range (n * esz))) (List.map (fun p=>(p.1,a.eval p.2)) parts.toList) = some xs.toArray:=by rw [← hcells]; exact hf
 by_cases h0 : n * esz = 0
 ·have hn0 : n = 0:=by
   rcases Nat.mul_eq_zero.1 h0 with h | h
   ·exact h
   ·omega
  have hr0 : rows = []:=List.eq_nil_of_length_eq_zero (by omega)
  have hp0 : parts.toList = []:=by
   cases hpl : parts.toList with
   | nil=>rfl
   | cons p l =>
    rw [hpl,hr0] at hp
    obtain ⟨j,x⟩:=p
    simp only [partRows] at hp
    repeat' split at hp
    all_goals simp at hp
  have hx0 : xs = []:=by rw [← hc']; have:=hs; rw [h0] at this; simp at this; simpa using this
  subst hx0
  have hpe : parts = #[]:=by rw [← Array.toList_inj]; simpa using hp0
  subst hpe
  simp [execOp,hop,Instr.buildSlice,run_underlying hu,hso,h0,Instr.fill,newRow,newObj,Sem.run]
  have hr00 : Array.map (fun _ : Nat=>(default : Value)) (Array.range 0) = #[]:=by rw [← Array.toList_inj]; simp
  rw [hr00]
 ·simp only [execOp,hop]
  simp only [Instr.buildSlice,Sem.run_bind,run_underlying hu,Result.andThen_ok,hso]
  simp [hbig,h0,hzv,hf',newRow,newObj,Sem.run]
theorem good_buildSlice {ev : Operand→Option AV} {obs : Obs} {t n : Nat} {parts : Array (Nat × Operand)} {rows : List (List AV)} {ti : TI} {e esz bytes : Nat} (ht : TOK P t ti) (hk : ti.kind = .sli e esz bytes) (hp : partRows ev esz 0 parts.toList = some rows) (hn : rows.length = n) (hb : n * esz ≤ 16777216) :
  Good P ev obs (.buildSlice t n parts) (.sl rows):=by
 intro a w S β B hS hgd hev ho oper hop K Q hK
 obtain ⟨xs,hrun,hr,hl,hxl,hpos⟩:=run_buildSlice ht hk hp hn hb hev hop
 refine wp_val (w':=w.alloc (.cells xs.toArray e (0,0))) (v:=.slice (some ⟨w.heap.size,0,none⟩) n n) hrun (hK _ _ (fun g=>S g ∨ g = w.heap.size) (gr_new hS _) ?_)
 rw [← hn]
 refine srep_c (repc_of_block (heap_alloc_new w _) (.inr rfl) hl (hr.mono ((gr_new hS _).same hS) (fun _ h=>Or.inl h)) ?_ (Nat.le_refl _) ?_)
 ·rw [List.take_of_length_le]
  have:=hr.1
  rw [flatten_len rows hl] at this
  simp; omega
 ·have : rows.length ≤ rows.length * esz:=Nat.le_mul_of_pos_right _ hpos
  rw [hn] at this ⊢
  omega
theorem setCells_ok : ∀ (off : Nat) (ds cs es : List AV),setCells off ds cs = some es→es = cs.take off ++ ds ++ cs.drop (off + ds.length)∧off + ds.length ≤ cs.length:=by
 intro off
 induction off with
 | zero =>
  intro ds
  induction ds with
  | nil=>intro cs es h; simp [setCells] at h; subst h; simp
  | cons d ds ih =>
   intro cs es h
   cases cs with
   | nil=>simp [setCells] at h
   | cons c cs =>
    simp only [setCells] at h
    split at h
    ·rename_i r hr
     injection h with h
     subst h
     obtain ⟨h1,h2⟩:=ih cs r hr
     refine ⟨by rw [h1]; simp,by simp at h2 ⊢; omega⟩
    ·simp at h
 | succ off ih =>
  intro ds cs es h
  cases cs with
  | nil=>cases ds <;> simp [setCells] at h
  | cons c cs =>
   simp only [setCells] at h
   split at h
   ·rename_i r hr
    injection h with h
    subst h
    obtain ⟨h1,h2⟩:=ih ds cs r hr
    refine ⟨by rw [h1]; simp [Nat.succ_add],by simp at h2 ⊢; omega⟩
   ·simp at h
theorem repl_set {w : World} {S : Nat→Prop} {cs ds es : List AV} {xs ys : List Value} {off : Nat} (h : setCells off ds cs = some es) (hc : RepL w S cs xs) (hd : RepL w S ds ys) : RepL w S es (xs.take off ++ ys ++ xs.drop (off + ys.length)):=by
 obtain ⟨h1,h2⟩:=setCells_ok _ _ _ _ h
 subst h1
 rw [← hd.1]
 exact ((hc.take off).append hd).append (hc.drop _)
theorem partCells_ok {ev : Operand→Option AV} {obs : Obs} {w : World} {S : Nat→Prop} {β : Nat→Value} {a : Act} {offs : List (Nat × Nat)} {place : Nat→Option (Nat × Nat)} (hpl : ∀ (i : Nat) q,offs[i]? = some q→place i = some q) : ∀ (l : List (Nat × Operand)) (cs es : List AV) (cells : Array Value),
  (∀ p ∈ l,∀ u,ev p.2 = some u→SRep w S β obs u (a.eval p.2))→RepL w S cs cells.toList→partCells ev offs cs l = some es →
  ∃ cells' : Array Value,Instr.fill place cells (l.map fun p=>(p.1,a.eval p.2)) = some cells'∧RepL w S es cells'.toList:=by
 intro l
 induction l with
 | nil =>
  intro cs es cells _ hr h
  simp [partCells] at h
  subst h
  exact ⟨cells,rfl,hr⟩
 | cons p l ih =>
  obtain ⟨j,x⟩:=p
  intro cs es cells hev hr h
  simp only [partCells] at h
  split at h
  ·simp at h
  ·rename_i off size hoff
   split at h
   ·simp at h
   ·rename_i u hu
    split at h
    ·simp at h
    ·rename_i ds hds
     split at h
     ·rename_i hl
      split at h
      ·simp at h
      ·rename_i cs' hcs'
       have hp:=hpl j _ hoff
       obtain ⟨ys,hy,hry⟩:=cells_of hds (hev (j,x) List.mem_cons_self u hu)
       have hyl : ys.length = size:=by rw [← hry.1,hl]
       have hle:=(setCells_ok _ _ _ _ hcs').2
       have hcl:=hr.1
       obtain ⟨c1,hf,hc1,_⟩:=fill_step (place:=place) (cells:=cells) (i:=j) (off:=off) (size:=size) (v:=a.eval x) (rest:=l.map fun p=>(p.1,a.eval p.2)) hp hy hyl (by simp at hcl; omega)
       obtain ⟨c2,hf2,hr2⟩:=ih cs' es c1 (fun p hp=>hev p (List.mem_cons_of_mem _ hp)) (by rw [hc1,← hyl]; exact repl_set hcs' hr hry) h
       exact ⟨c2,by simp only [List.map_cons]; rw [hf,hf2],hr2⟩
     ·simp at h
theorem good_build {ev : Operand→Option AV} {obs : Obs} {t : Nat} {parts : Array (Nat × Operand)} {cs : List AV} {ti : TI} (ht : TOK P t ti) (hk : ti.kind = .struct) (hp : partCells ev ti.offs ti.zero parts.toList = some cs) : Good P ev obs (.build t parts) (.agg cs):=by
 intro a w S β B hS hgd hev ho oper hop K Q hK
 have hkd:=ht.kind
 rw [hk] at hkd
 obtain ⟨fields,hu,hf⟩:=hkd
 obtain ⟨z,hz,hzs,hzr⟩:=ht.zero w
 obtain ⟨cells',hfill,hr⟩:=partCells_ok (ev:=ev) (obs:=obs) (w:=w) (S:=S) (β:=β) (a:=a) (offs:=ti.offs) (place:=(ti.offs.toArray[·]?)) (fun i q h=>by simpa using h) parts.toList ti.zero cs z.cells (fun p hp u hu=>hev p.2 (by
  simp only [Op.operands]
  have : p.2 ∈ (parts.toList.map (·.2)):=List.mem_map_of_mem hp
  simpa using this) u hu) (hzr w S) hp
 refine wp_val (w':=w) (v:=.agg cells') ?_ (hK _ _ _ (Gr.refl hS) ?_)
 ·simp only [execOp,hop]
  simp only [Instr.build,Sem.run_bind,hz,Result.andThen_ok,run_underlying hu,Sem.run_pure,hf]
  simp only [List.getElem?_toArray] at hfill
  simp [hfill]
 ·have : cells' = cells'.toList.toArray:=by simp
  rw [this]
  exact srep_of_rep (.agg hr)
theorem good_buildArr {ev : Operand→Option AV} {obs : Obs} {t n esz : Nat} {parts : Array (Nat × Operand)} {ti : TI} (ht : TOK P t ti) (hk : ti.kind = .arr n esz) (hp : parts.toList = []) : Good P ev obs (.build t parts) (.agg ti.zero):=by
 intro a w S β B hS hgd hev ho oper hop K Q hK
 have hkd:=ht.kind
 rw [hk] at hkd
 obtain ⟨e,hu,hf⟩:=hkd
 obtain ⟨z,hz,hzs,hzr⟩:=ht.zero w
 have hpe : parts = #[]:=by rw [← Array.toList_inj]; simpa using hp
 subst hpe
 refine wp_val (w':=w) (v:=.agg z.cells) ?_ (hK _ _ _ (Gr.refl hS) ?_)
 ·simp only [execOp,hop]
  simp only [Instr.build,Sem.run_bind,hz,Result.andThen_ok,run_underlying hu,Sem.run_pure,hf]
  simp [Instr.fill]
 ·have : z.cells = z.cells.toList.toArray:=by simp
  rw [this]
  exact srep_of_rep (.agg (hzr w S))
theorem srep_res {w w' : World} {S S' : Nat→Prop} {β : Nat→Value} {obs : Obs} {xs : List AV} {y : Value} {ys : List Value} (hy : y = tupV ys) (h : Reps w' S' xs ys) : SRep w' S' β obs (tupOf xs) y:=by
 subst hy
 have tup : ∀ (xs : List AV) (ys : List Value),Reps w' S' xs ys→SRep w' S' β obs (.tup xs) (.tuple ys.toArray):=by
  intro xs ys h
  refine ⟨ys,rfl,h.1,fun i u x hu hx=>?_⟩
  have hr:=h.2 i u x hu hx
  have:=srep_of_rep (β:=β) (obs:=obs) hr
  cases u <;> try exact this
  ·cases hr with
   | c h=>cases h
 match xs,ys,h with
 | [],ys,h=>rw [h.unnil]; exact tup _ _ (Reps.nil _ _)
 | [x],ys,h =>
  obtain ⟨y,ys',rfl,h1,h2⟩:=h.uncons
  rw [h2.unnil]
  exact srep_of_rep h1
 | x :: x2 :: xs,ys,h =>
  obtain ⟨y,ys',rfl,h1,h2⟩:=h.uncons
  obtain ⟨y2,ys2,rfl,h3,h4⟩:=h2.uncons
  exact tup _ _ h
theorem evs_reps {ev : Operand→Option AV} {obs : Obs} {w : World} {S : Nat→Prop} {β : Nat→Value} {a : Act} : ∀ (l : List Operand) (cs : List AV),evs ev l = some cs→(∀ o ∈ l,∀ u,ev o = some u→SRep w S β obs u (a.eval o)) →
  (∀ c ∈ cs,match c with | .ptr _ _=>False | .own _ _=>False | .rel _ _ _ _ _ _=>False | .osl _ _ _=>False | .mo _=>False | .tup _=>False | .dead=>False | _=>True)→Reps w S (cs.map plain) (l.map a.eval):=by
 intro l
 induction l with
 | nil=>intro cs h _ _; simp [evs] at h; subst h; exact Reps.nil _ _
 | cons x l ih =>
  intro cs h hev hk
  simp only [evs] at h
  split at h
  ·simp at h
  ·rename_i u hu
   split at h
   ·simp at h
   ·rename_i r hr
    injection h with h
    subst h
    refine Reps.cons ?_ (ih r hr (fun o ho=>hev o (List.mem_cons_of_mem _ ho)) (fun c hc=>hk c (List.mem_cons_of_mem _ hc)))
    have h1:=hev x List.mem_cons_self u hu
    have h2:=hk u List.mem_cons_self
    refine rep_plain ?_
    cases u <;> first | exact h1 | exact h2.elim
theorem Reps.append {w : World} {S : Nat→Prop} {cs ds : List AV} {xs ys : List Value} (h : Reps w S cs xs) (k : Reps w S ds ys) : Reps w S (cs ++ ds) (xs ++ ys):=by
 refine ⟨by simp [h.1,k.1],fun i u x hu hx=>?_⟩
 by_cases hi : i < cs.length
 ·rw [List.getElem?_append_left hi] at hu
  rw [List.getElem?_append_left (by rw [← h.1]; exact hi)] at hx
  exact h.2 i u x hu hx
 ·rw [List.getElem?_append_right (by omega)] at hu
  rw [List.getElem?_append_right (by rw [← h.1]; omega),← h.1] at hx
  exact k.2 _ u x hu hx
theorem res_frozen {w w' : World} {S S' : Nat→Prop} {β : Nat→Value} {obs : Obs} {r : Res} {y : Value} (hg : Gr w S w' S') (h : ResR w w' S S' r y) : ∃ S2,Gr w S w' S2∧SRep w' S2 β obs (resAV r) y:=by
 cases r with
 | pure xs =>
  obtain ⟨ys,hy,hr⟩:=h
  exact ⟨S',hg,srep_res (w:=w) (S:=S) hy hr⟩
 | own e sz rows rest =>
  obtain ⟨z,ys,zs,hy,hown,hr,hl,hS,hrest,_⟩:=h
  have hblk : ∀ g,z.ownBlock = some g→w.heap.size ≤ g∧g < w'.heap.size:=by
   intro g hgz
   rcases hown.2 with ⟨rfl,_⟩ | ⟨g',cap,cur,fr,rfl,hB,hh,_⟩
   ·simp [Value.ownBlock] at hgz
   ·simp [Value.ownBlock] at hgz
    subst hgz
    exact ⟨hB,(Array.getElem?_eq_some_iff.1 hh).1⟩
  refine ⟨fun g=>S' g ∨ z.ownBlock = some g,⟨hg.below,fun g h=>.inl (hg.sub g h),fun g h=>?_,fun g h=>?_⟩,?_⟩
  ·rcases h with h | h
   ·exact hg.new g h
   ·exact .inr (hblk g h).1
  ·rcases h with h | h
   ·exact hg.lt g h
   ·exact (hblk g h).2
  ·have hm : SameOn S' w' w':=fun _ _=>rfl
   exact srep_res (w:=w) (S:=S) hy (Reps.cons (.c (repc_of_own hown (hr.mono hm (fun _ h=>Or.inl h)) hl (fun g h=>Or.inr h))) (hrest.mono hm (fun _ h=>Or.inl h)))
 | bx ty cells rest =>
  obtain ⟨g,ys,xs,hy,hle,hS,hh,hr,hrest⟩:=h
  have hm : SameOn S' w' w':=fun _ _=>rfl
  have hsub : ∀ j,S' j→(S' j ∨ j = g):=fun _ h=>Or.inl h
  refine ⟨fun j=>S' j ∨ j = g,⟨hg.below,fun g h=>.inl (hg.sub g h),fun j h=>?_,fun j h=>?_⟩,?_⟩
  ·rcases h with h | rfl
   ·exact hg.new j h
   ·exact .inr hle
  ·rcases h with h | rfl
   ·exact hg.lt j h
   ·exact (Array.getElem?_eq_some_iff.1 hh).1
  ·have h0 : Rep w' (fun j=>S' j ∨ j = g) (.ept cells 0) (.pointer (some ((⟨g,0,none⟩ : Addr).add 0))):=.ept ⟨Or.inr rfl,fun i u hu=>by
    obtain ⟨x,hx1,hx2⟩:=hr.get hu
    exact ⟨x,by rw [add_mk,cell_of_row w' g i _ _ _ hh]; simpa using hx1,hx2.mono hm hsub⟩⟩
   exact srep_res (w:=w) (S:=S) hy (Reps.cons h0 (hrest.mono hm hsub))
theorem wp_enter {o : Oper} {a : Act} {w : World} {K : Act→World→Prop} {Q : Exit→Act→World→Prop} {f : Nat} {args : Array Value}
  (h : (execOp a.eval o).run P w = .ok (.enter f args) w) (hc : Calls P f args w fun e w'=>∃ y,e = .returned y∧K (a.put o.dst y) w') : o.wp P a w K Q:=by
 unfold Oper.wp
 rw [h,Oper.upon_enter]
 refine hc.mono ?_
 rintro e w' ⟨y,rfl,hk⟩
 exact hk
theorem run_call {a : Act} {o : Oper} {f : Operand} {args : Array Operand} {ats : Array TypeId} {g : Nat} {caps : List Value} {w : World} (hop : o.op = .call { callee:=.value f,args:=args,argTypes:=ats }) (hf : a.eval f = .func (.func g) #[] caps.toArray)
  (he : ∀ as w,(callFunc g as).run P w = .ok (.enter g as) w) : (execOp a.eval o).run P w = .ok (.enter g (args.toList.map a.eval ++ caps).toArray) w:=by
 have : (args.toList.map a.eval ++ caps).toArray = args.map a.eval ++ caps.toArray:=by
  rw [← Array.toList_inj]; simp
 simp [execOp,hop,resolve,hf,Deferred.ofValue,invoke,he,this]
theorem good_call {ev : Operand→Option AV} {obs : Obs} {f : Operand} {args : Array Operand} {ats : Array TypeId} {g : Nat} {caps as : List AV} {r : Res} (hf : ev f = some (.clo g caps)) (ha : evs ev args.toList = some as) (hk : ∀ c ∈ as,okArg c = true) (h : CSem P (.fn g) (as.map plain ++ caps) r) :
  Good P ev obs (.call { callee:=.value f,args:=args,argTypes:=ats }) (resAV r):=by
 intro a w S β B hS hgd hev ho oper hop K Q hK
 obtain ⟨he,hc⟩:=h
 obtain ⟨xs,hfv,hcaps⟩:=srep_clo (hev f (by simp [Op.operands,Call.operands]) _ hf)
 have hreps:=(evs_reps args.toList as ha (fun o ho'=>hev o (by
  simp only [Op.operands,Call.operands]
  have : o ∈ args:=by simpa using ho'
  simp [this])) (fun c hc=>by have:=hk c hc; cases c <;> simp_all [okArg])).append hcaps
 refine wp_enter (run_call hop hfv he) ((hc w S _ hS hgd hreps).mono ?_)
 rintro e w' ⟨y,S',rfl,hg,hr⟩
 obtain ⟨S2,hg2,hs2⟩:=res_frozen (β:=β) (obs:=obs) hg hr
 exact ⟨y,rfl,hK _ _ _ hg2 hs2⟩
theorem good_conv {ev : Operand→Option AV} {obs : Obs} {s d : Nat} {x : Operand} {u r : AV} (hu : ev x = some u) (hk : okArg u = true) (h : CSem P (.conv s d) [plain u] (.pure [r])) : Good P ev obs (.convert s d x) r:=by
 intro a w S β B hS hgd hev ho oper hop K Q hK
 obtain ⟨A,e1,h⟩:=h
 simp at e1
 subst e1
 have h1:=hev x (by simp [Op.operands]) u hu
 have h2 : Rep w S (plain u) (a.eval x):=rep_plain (by cases u <;> first | exact h1 | simp [okArg] at hk)
 obtain ⟨y,w',S',hrun,hg,hr⟩:=h w S _ hS h2
 obtain ⟨S2,hg2,hs2⟩:=res_frozen (β:=β) (obs:=obs) hg hr
 refine wp_val (w':=w') (v:=y) (by simp [execOp,hop,hrun]) (hK _ _ _ hg2 ?_)
 exact hs2
theorem good_convInt {ev : Operand→Option AV} {obs : Obs} {s d : Nat} {x : Operand} {k k' : IntKind} {n : Int} {ti : TI} {ts : TI} (hts : TOK P s ts) (ht : TOK P d ti) (hk : ti.kind = .int k) (hu : ev x = some (.v (.int k' n))) : Good P ev obs (.convert s d x) (.v (.int k (sy .wrp k n))):=by
 intro a w S β B hS hgd hev ho oper hop K Q hK
 have hx : a.eval x = .int k' n:=srep_v (hev x (by simp [Op.operands]) _ hu)
 have hkd:=ht.kind
 rw [hk] at hkd
 have hd : P.underlying d = some (.int k):=hkd
 obtain ⟨ds,hs⟩:=hts.und
 refine wp_val (w':=w) (v:=.int k (k.wrap n)) ?_ (hK _ _ _ (Gr.refl hS) (srep_c (.v _ rfl)))
 simp [execOp,hop,hx,convert,run_underlying hd,run_underlying hs,Conv.intToInt]
end Go.Proofs.Ytdnaadcbimbfmaa.Am
namespace Go.Proofs.Ytdnaadcbimbfmaa.Am
open Go Go.RowKit
variable {P : Program}
theorem dop_ok (hΓ : TOKs P) {ev : Operand→Option AV} {obs : Obs} {op : Op} {K : AV→Prop} (h : dop sy (CSem P) ev obs op K) : ∃ x,K x∧Good P ev obs op x:=by
 unfold dop at h
 split at h
 ·
  split at h
  ·rename_i u hu; exact ⟨u,h,good_move hu⟩
  ·exact h.elim
 ·
  split at h
  ·rename_i u hu; exact ⟨u,h,good_assign hu⟩
  ·exact h.elim
 ·
  split at h
  ·rename_i hc
   split at h
   ·rename_i u hu; exact ⟨u,h,good_pick (t:=true) hc (.inl rfl) hu⟩
   ·exact h.elim
  ·rename_i hc
   split at h
   ·rename_i u hu; exact ⟨u,h,good_pick (t:=false) hc (.inl rfl) hu⟩
   ·exact h.elim
  ·rename_i t hc
   split at h
   ·rename_i u hu
    split at h
    ·rename_i v hv
     cases t with
     | true=>exact ⟨u,h.1 rfl,good_pick (t:=true) hc (.inr rfl) hu⟩
     | false=>exact ⟨v,h.2 rfl,good_pick (t:=false) hc (.inr rfl) hv⟩
    ·exact h.elim
   ·exact h.elim
  ·exact h.elim
 ·
  split at h
  ·rename_i ti u hti hu
   split at h
   ·rename_i cs hcs
    split at h
    ·exact ⟨_,h,good_box hu hcs⟩
    ·exact h.elim
   ·exact h.elim
  ·exact h.elim
 ·
  split at h
  ·rename_i ti p hti hp
   split at h
   ·rename_i cs hw; exact ⟨_,h,good_whole (hΓ _ _ hti) hp hw⟩
   split at h
   ·rename_i cs off hd
    split at h
    ·rename_i ds hds
     split at h
     ·rename_i hag; exact ⟨_,h,good_load (hΓ _ _ hti) hp hd hds (.inl ⟨hag,rfl⟩)⟩
     ·rename_i hag
      split at h
      ·exact ⟨_,h,good_load (hΓ _ _ hti) hp hd hds (.inr ⟨by simpa using hag,rfl⟩)⟩
      ·exact h.elim
    ·exact h.elim
   ·exact h.elim
  ·exact h.elim
 ·
  split at h
  ·rename_i hp; exact ⟨_,h,good_nilCheck hp (.inl ⟨_,_,rfl⟩)⟩
  ·rename_i hp; exact ⟨_,h,good_nilCheck hp (.inr (.inl ⟨_,_,rfl⟩))⟩
  ·rename_i hp; exact ⟨_,h,good_nilCheck hp (.inr (.inr (.inl ⟨_,_,rfl⟩)))⟩
  ·rename_i hp; exact ⟨_,h,good_nilCheck hp (.inr (.inr (.inr ⟨_,rfl⟩)))⟩
  ·exact h.elim
 ·
  split at h
  ·rename_i p q hp hq
   split at h
   ·rename_i r hr; exact ⟨_,h,good_binA hp hq hr⟩
   ·split at h
    ·obtain ⟨r,hc,hk⟩:=h; exact ⟨_,hk,(good_eq hp hq hc).1⟩
    ·obtain ⟨r,hc,hk⟩:=h; exact ⟨_,hk,(good_eq hp hq hc).2⟩
    ·obtain ⟨h1,h2,h3⟩:=h; exact ⟨_,h3,good_binO hp hq (.inl ⟨.inl rfl,h1,h2⟩)⟩
    ·obtain ⟨h1,h2,h3⟩:=h; exact ⟨_,h3,good_binO hp hq (.inl ⟨.inr rfl,h1,h2⟩)⟩
    ·obtain ⟨h1,h3⟩:=h; exact ⟨_,h3,good_binO hp hq (.inr ⟨.inl rfl,h1⟩)⟩
    ·obtain ⟨h1,h3⟩:=h; exact ⟨_,h3,good_binO hp hq (.inr ⟨.inr rfl,h1⟩)⟩
    ·exact ⟨_,h.2,good_cat hp hq h.1⟩
    ·exact ⟨_,h.2,(good_nilp (b:=false) hp hq h.1 (.inl ⟨.inl ⟨_,_,rfl⟩,rfl⟩)).1⟩
    ·exact ⟨_,h.2,(good_nilp (b:=false) hp hq h.1 (.inl ⟨.inl ⟨_,_,rfl⟩,rfl⟩)).2⟩
    ·exact ⟨_,h.2,(good_nilp (b:=false) hp hq h.1 (.inl ⟨.inr ⟨_,_,rfl⟩,rfl⟩)).1⟩
    ·exact ⟨_,h.2,(good_nilp (b:=false) hp hq h.1 (.inl ⟨.inr ⟨_,_,rfl⟩,rfl⟩)).2⟩
    ·exact ⟨_,h.2,(good_nilp (b:=false) hp hq h.1 (.inr (.inr ⟨⟨_,rfl⟩,rfl⟩))).1⟩
    ·exact ⟨_,h.2,(good_nilp (b:=false) hp hq h.1 (.inr (.inr ⟨⟨_,rfl⟩,rfl⟩))).2⟩
    ·exact ⟨_,h.2,(good_nilp (b:=true) hp hq h.1 (.inr (.inl ⟨rfl,rfl⟩))).1⟩
    ·exact ⟨_,h.2,(good_nilp (b:=true) hp hq h.1 (.inr (.inl ⟨rfl,rfl⟩))).2⟩
    ·split at h
     ·exact ⟨_,h.2,(good_nili hp hq ⟨_,rfl⟩ h.1).1⟩
     ·exact h.elim
    ·split at h
     ·exact ⟨_,h.2,(good_nili hp hq ⟨_,rfl⟩ h.1).2⟩
     ·exact h.elim
    ·obtain ⟨r,hr,hk⟩:=h; exact ⟨_,hk,(good_bq hp hq (.inr rfl) hr).1⟩
    ·obtain ⟨r,hr,hk⟩:=h; exact ⟨_,hk,(good_bq hp hq (.inr rfl) hr).2⟩
    ·obtain ⟨r,hr,hk⟩:=h; exact ⟨_,hk,(good_bq hp hq (.inl rfl) hr).1⟩
    ·obtain ⟨r,hr,hk⟩:=h; exact ⟨_,hk,(good_bq hp hq (.inl rfl) hr).2⟩
    ·exact h.elim
  ·exact h.elim
 ·
  split at h
  ·rename_i c hp; exact ⟨_,h,good_unNot hp (.inl rfl) (.inl rfl)⟩
  ·rename_i c hp; exact ⟨_,h,good_unNot hp (.inr rfl) (.inr rfl)⟩
  ·exact h.elim
 ·
  split at h
  ·rename_i hp; exact ⟨_,h,good_unNeg hp⟩
  ·exact h.elim
 ·
  split at h
  ·rename_i ti u hti hu
   split at h
   ·rename_i k _ k' n hk
    split at h
    ·rename_i ts hts; exact ⟨_,h,good_convInt (hΓ _ _ hts) (hΓ _ _ hti) hk hu⟩
    ·exact h.elim
   ·split at h
    ·rename_i hok; obtain ⟨r,hc,hk⟩:=h; exact ⟨_,hk,good_conv hu hok hc⟩
    ·exact h.elim
  ·exact h.elim
 ·
  split at h
  ·rename_i cs hfs hcs
   split at h
   ·rename_i hall
    rw [Array.toList_eq_nil_iff] at hfs
    subst hfs
    refine ⟨_,h,good_makeFunc hcs fun c hc=>?_⟩
    have:=List.all_eq_true.1 hall c hc
    cases c <;> simp [isEpt] at this
    exact ⟨_,_,rfl⟩
   ·exact h.elim
  ·exact h.elim
 ·
  split at h
  ·rename_i ti ad hti hp
   split at h
   ·rename_i d s hd; exact ⟨_,h,good_fieldAddrV (hΓ _ _ hti) hp hd⟩
   ·exact h.elim
  ·rename_i ti p _ hti hp
   split at h
   ·rename_i d s hd
    split at h
    ·rename_i e he
     split at h
     ·rename_i q hq; exact ⟨_,h,good_fieldAddr (hΓ _ _ hti) hp hd he hq⟩
     ·exact h.elim
    ·exact h.elim
   ·exact h.elim
  ·exact h.elim
 ·
  split at h
  ·rename_i ti p k j hti hp hi
   split at h
   ·rename_i e esz bytes hk
    split at h
    ·rename_i q ver
     split at h
     ·rename_i e' sz rows ver' mver hq
      split at h
      ·rename_i hv
       subst hv
       split at h
       ·rename_i hs
        obtain ⟨m,cs,hjm,hj,hk2⟩:=h
        subst hjm
        have:=good_indexOwn (P:=P) (cs:=cs) (hΓ _ _ hti) hk hp hq hi (Int.natCast_nonneg m) (by simpa using hj) hs
        exact ⟨_,hk2,by simpa using this⟩
       ·exact h.elim
      ·exact h.elim
     ·exact h.elim
    ·obtain ⟨m,cs,hjm,hj,hl,hk2⟩:=h
     subst hjm
     exact ⟨_,hk2,good_indexSl (hΓ _ _ hti) hk hp hi (by omega) (by simpa using hj) hl⟩
    ·rename_i q ver lo
     split at h
     ·rename_i e' sz rows ver' mver hq
      split at h
      ·rename_i hv
       subst hv
       split at h
       ·rename_i hs
        obtain ⟨m,cs,hjm,hj,hk2⟩:=h
        exact ⟨_,hk2,good_indexOsl (hΓ _ _ hti) hk hp hq hi hjm hj hs⟩
       ·exact h.elim
      ·exact h.elim
     ·exact h.elim
    ·exact h.elim
   ·rename_i n esz hk
    split at h
    ·obtain ⟨m,ds,rfl,hm,hc,hk2⟩:=h
     exact ⟨_,hk2,good_indexArr (hΓ _ _ hti) hk hp hi hm hc⟩
    ·obtain ⟨m,rfl,hm,hk2⟩:=h
     exact ⟨_,hk2,good_indexPtr (hΓ _ _ hti) hk hp hi hm⟩
    ·exact h.elim
   ·exact h.elim
  ·exact h.elim
 ·
  split at h
  ·rename_i ti s k j hti hp hi
   split at h
   ·rename_i hk; exact ⟨_,h.2.2,good_indexStr (hΓ _ _ hti) hk hp hi h.1 h.2.1⟩
   ·exact h.elim
  ·rename_i cs k j hp hi; obtain ⟨r,hc,hk⟩:=h; exact ⟨_,hk,good_idx hp hi hc⟩
  ·exact h.elim
 ·
  split at h
  ·rename_i ti s hti hp
   split at h
   ·rename_i hk
    obtain ⟨l,hh,hl,hhi,h1,h2,r,rfl,hk2⟩:=h
    refine ⟨_,hk2,good_sliceStr (hΓ _ _ hti) hk hp hl ?_ h1 (by simp [sy] at h2; omega)⟩
    split <;> split at hhi <;> simp_all [sy]
    all_goals omega
   ·exact h.elim
  ·rename_i ti rows hti hp
   split at h
   ·rename_i e esz bytes hk
    obtain ⟨l,hh,hl,hhi,h1,h2,h3,r,rfl,hk2⟩:=h
    refine ⟨_,hk2,good_sliceSl (hΓ _ _ hti) hk hp h3 hl ?_ h1 (by simp [sy] at h2; omega)⟩
    split <;> split at hhi <;> simp_all [sy]
    all_goals omega
   ·exact h.elim
  ·rename_i ti q ver hti hp
   split at h
   ·rename_i e' esz bytes o e sz rows ver' m hk hob
    split at h
    ·rename_i h1
     subst h1
     split at h
     ·rename_i h2
      subst h2
      obtain ⟨l,hl,hle,hk2⟩:=h
      exact ⟨_,hk2,good_sliceOwn (hΓ _ _ hti) hk hp hob hl (by simp [sy] at hle; omega)⟩
     ·exact h.elim
    ·exact h.elim
   ·exact h.elim
  ·exact h.elim
 ·
  split at h
  ·rename_i vs hp
   split at h
   ·exact h.elim
   ·rename_i u hn hu; exact ⟨_,h,good_extract hp hu (fun r hr=>hn r hr)⟩
   ·exact h.elim
  ·exact h.elim
 ·
  split at h
  ·rename_i k hx
   split at h
   ·rename_i hk; exact ⟨_,h,good_entry hx hk⟩
   ·exact h.elim
  ·exact h.elim
 ·
  split at h
  ·rename_i cs hp; obtain ⟨r,hc,hk⟩:=h; exact ⟨_,hk,good_field hp hc⟩
  ·exact h.elim
 ·
  split at h
  ·rename_i ti p s hti hp hx
   split at h
   ·rename_i k e ks vs hkd hm
    split at h
    ·rename_i te hte
     obtain ⟨r,hg,hd,h⟩:=h
     exact ⟨_,h,good_lookup (hΓ _ _ hti) hkd (hΓ _ _ hte) hp hx hm hg (fun h0 e0=>by have:=hd h0; rw [e0] at this; exact this)⟩
    ·exact h.elim
   ·exact h.elim
  ·exact h.elim
 ·
  split at h
  ·rename_i ti hti
   split at h
   ·rename_i hk
    split at h
    ·rename_i cs hcs; exact ⟨_,h,good_build (hΓ _ _ hti) hk hcs⟩
    ·exact h.elim
   ·rename_i hk
    split at h
    ·rename_i hpe; exact ⟨_,h,good_buildArr (hΓ _ _ hti) hk hpe⟩
    ·exact h.elim
   ·exact h.elim
  ·exact h.elim
 ·
  split at h
  ·rename_i ti hti
   split at h
   ·rename_i e esz bytes hk
    split at h
    ·rename_i rows hr
     split at h
     ·rename_i hn
      split at h
      ·rename_i hb; exact ⟨_,h,good_buildSlice (hΓ _ _ hti) hk hr hn hb⟩
      ·exact h.elim
     ·exact h.elim
    ·exact h.elim
   ·exact h.elim
  ·exact h.elim
 ·
  split at h
  ·rename_i g caps as hf ha
   split at h
   ·rename_i hall
    obtain ⟨r,hc,hk⟩:=h
    exact ⟨_,hk,good_call hf ha (fun c hc=>List.all_eq_true.1 hall c hc) hc⟩
   ·exact h.elim
  ·exact h.elim
 ·
  rename_i args ats
  split at h
  ·rename_i x hx
   have hxe : args = #[x]:=by rw [← Array.toList_inj]; simpa using hx
   subst hxe
   split at h
   ·rename_i s hp
    split at h
    ·rename_i t ht
     have hte : ats = #[t]:=by rw [← Array.toList_inj]; simpa using ht
     subst hte
     split at h
     ·rename_i ti hti
      split at h
      ·rename_i hk; exact ⟨_,h,good_lenStr (hΓ _ _ hti) hk hp⟩
      ·exact h.elim
     ·exact h.elim
    ·exact h.elim
   ·rename_i q ver lo hp
    split at h
    ·rename_i e' sz rows ver' mver hq
     split at h
     ·rename_i t ht
      have hte : ats = #[t]:=by rw [← Array.toList_inj]; simpa using ht
      subst hte
      split at h
      ·rename_i ti hti
       split at h
       ·rename_i e esz bytes hk
        split at h
        ·rename_i hv; subst hv; exact ⟨_,h,good_lenOsl (hΓ _ _ hti) hk hp hq⟩
        ·exact h.elim
       ·exact h.elim
      ·exact h.elim
     ·exact h.elim
    ·exact h.elim
   ·rename_i u hns hns2 hp
    split at h
    ·rename_i rows hr
     split at h
     ·rename_i t ht
      have hte : ats = #[t]:=by rw [← Array.toList_inj]; simpa using ht
      subst hte
      split at h
      ·rename_i ti hti
       split at h
       ·rename_i e esz bytes hk; exact ⟨_,h,good_lenSl (hΓ _ _ hti) hk hp hr⟩
       ·exact h.elim
      ·exact h.elim
     ·exact h.elim
    ·exact h.elim
   ·exact h.elim
  ·exact h.elim
 ·split at h
  ·rename_i hp; exact ⟨_,h,good_max hp⟩
  ·rename_i hp; exact ⟨_,h,good_max3 hp⟩
  ·exact h.elim
 ·split at h
  ·rename_i hp; exact ⟨_,h,good_min hp⟩
  ·exact h.elim
 ·exact h.elim
end Go.Proofs.Ytdnaadcbimbfmaa.Am
