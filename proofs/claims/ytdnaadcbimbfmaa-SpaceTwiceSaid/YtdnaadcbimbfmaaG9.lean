import Derived.Test.YtdnaadcbimbfmaaRows
import Derived.ProofKit
import Derived.OpenShut
import Derived.ShutString
import Derived.ChangeOld
import Derived.Below
import Derived.Deep.Slices
import Derived.WalkKit
import Derived.Test.YtdnaadcbimbfmaaG6
import Derived.Test.YtdnaadcbimbfmaaG8
set_option linter.unusedSimpArgs false
set_option linter.unusedVariables false
namespace Go.Proofs.Ytdnaadcbimbfmaa
open Go Go.RowKit Am
theorem vRight_ok (v : VV) (r : Bool) (hr : r = true ↔ vrightP v) : CSem Try.prog (.fn 49) [.agg (vac v)] (.pure [aB r]):=by
 refine ⟨enterT Try.func49 (by kernel_rfl) rfl,fun w S xs hS hgd hxs=>?_⟩
 obtain ⟨y,rfl,hy⟩:=reps_one hxs
 rw [rep_agg_v (xs:=(vvs v).toList) hy]
 refine (vRightW v r hr w).mono ?_
 rintro e w' ⟨rfl,rfl⟩
 exact ⟨_,S,rfl,gr_below hS ((Below.refl _ _).alloc (Nat.le_refl _) _),[.bool r],rfl,Reps.cons (.c (.v _ rfl)) (Reps.nil _ _)⟩
set_option maxRecDepth 100000 in
set_option maxHeartbeats 8000000 in
theorem with_ok (v : VV) (d : Dt) (m : Nat) (hm : m < 16) (hR : d.R = (m : Int)) (hv : vrightP v) (hd : dotB d = true) (hN : d.N = v ⟨m,hm⟩ + 1) (u : VV) (hu : u = vset v m d.N) : CSem Try.prog (.fn 33) [.agg (vac v),.agg d.ac] (.pure [.agg (vac u),aI 0]):=by
 refine of_text gam_ok mixed { n:=32,keep:=[2] } Try.func33 (by kernel_rfl) rfl rfl (by simp) (by decide) fun F C D hF hC hD=>?_
 have hb:=hv ⟨m,hm⟩
 have hr:=hC _ _ _ (vRight_ok v true (by simp [hv]))
 have hdt:=hC _ _ _ (dot_ok d true hd.symm)
 obtain ⟨dR,dN⟩:=d
 simp only at hR hN hu
 have tbn : F .bnot true = false:=bnotF hF true
 have tN : ∀ x : Int,dN = x + 1→0 ≤ x→x ≤ 1048576→F .cmp .neq dN (F .ar .add .i64 x 1) = false:=fun x h h0 h1=>by
  have : F .ar .add .i64 x 1 = x + 1:=by rw [hF]; exact wrap_in (by omega) (by omega)
  rw [this,neF hF,h]
  simp
 clear hv hd
 obtain rfl | rfl | rfl | rfl | rfl | rfl | rfl | rfl | rfl | rfl | rfl | rfl | rfl | rfl | rfl | rfl : m = 0 ∨ m = 1 ∨ m = 2 ∨ m = 3 ∨ m = 4 ∨ m = 5 ∨ m = 6 ∨ m = 7 ∨ m = 8 ∨ m = 9 ∨ m = 10 ∨ m = 11 ∨ m = 12 ∨ m = 13 ∨ m = 14 ∨ m = 15:=by omega
 ·have tn:=tN (v 0) hN hb.1 hb.2
  have hv : vac u = [aI dN,aI (v 1),aI (v 2),aI (v 3),aI (v 4),aI (v 5),aI (v 6),aI (v 7),aI (v 8),aI (v 9),aI (v 10),aI (v 11),aI (v 12),aI (v 13),aI (v 14),aI (v 15)]:=by rw [hu]; rfl
  clear hu hN hb tN
  cbv
  refine ⟨_,hr,?_⟩
  cbv
  rw [tbn]
  refine cF (rfl) ?_
  cbv
  refine ⟨_,hdt,?_⟩
  cbv
  rw [tbn]
  cbv
  refine bF (rfl) ?_
  cbv
  refine ⟨hC _ _ _ (ben_ok (by kernel_rfl)),?_⟩
  cbv
  refine ⟨0,hR,by decide,?_⟩
  cbv
  rw [tn]
  refine bF (rfl) ?_
  cbv
  refine ⟨0,hR,by decide,?_⟩
  cbv
  exact ⟨congrArg AV.agg hv.symm,rfl,trivial⟩
 ·have tn:=tN (v 1) hN hb.1 hb.2
  have hv : vac u = [aI (v 0),aI dN,aI (v 2),aI (v 3),aI (v 4),aI (v 5),aI (v 6),aI (v 7),aI (v 8),aI (v 9),aI (v 10),aI (v 11),aI (v 12),aI (v 13),aI (v 14),aI (v 15)]:=by rw [hu]; rfl
  clear hu hN hb tN
  cbv
  refine ⟨_,hr,?_⟩
  cbv
  rw [tbn]
  refine cF (rfl) ?_
  cbv
  refine ⟨_,hdt,?_⟩
  cbv
  rw [tbn]
  cbv
  refine bF (rfl) ?_
  cbv
  refine ⟨hC _ _ _ (ben_ok (by kernel_rfl)),?_⟩
  cbv
  refine ⟨1,hR,by decide,?_⟩
  cbv
  rw [tn]
  refine bF (rfl) ?_
  cbv
  refine ⟨1,hR,by decide,?_⟩
  cbv
  exact ⟨congrArg AV.agg hv.symm,rfl,trivial⟩
 ·have tn:=tN (v 2) hN hb.1 hb.2
  have hv : vac u = [aI (v 0),aI (v 1),aI dN,aI (v 3),aI (v 4),aI (v 5),aI (v 6),aI (v 7),aI (v 8),aI (v 9),aI (v 10),aI (v 11),aI (v 12),aI (v 13),aI (v 14),aI (v 15)]:=by rw [hu]; rfl
  clear hu hN hb tN
  cbv
  refine ⟨_,hr,?_⟩
  cbv
  rw [tbn]
  refine cF (rfl) ?_
  cbv
  refine ⟨_,hdt,?_⟩
  cbv
  rw [tbn]
  cbv
  refine bF (rfl) ?_
  cbv
  refine ⟨hC _ _ _ (ben_ok (by kernel_rfl)),?_⟩
  cbv
  refine ⟨2,hR,by decide,?_⟩
  cbv
  rw [tn]
  refine bF (rfl) ?_
  cbv
  refine ⟨2,hR,by decide,?_⟩
  cbv
  exact ⟨congrArg AV.agg hv.symm,rfl,trivial⟩
 ·have tn:=tN (v 3) hN hb.1 hb.2
  have hv : vac u = [aI (v 0),aI (v 1),aI (v 2),aI dN,aI (v 4),aI (v 5),aI (v 6),aI (v 7),aI (v 8),aI (v 9),aI (v 10),aI (v 11),aI (v 12),aI (v 13),aI (v 14),aI (v 15)]:=by rw [hu]; rfl
  clear hu hN hb tN
  cbv
  refine ⟨_,hr,?_⟩
  cbv
  rw [tbn]
  refine cF (rfl) ?_
  cbv
  refine ⟨_,hdt,?_⟩
  cbv
  rw [tbn]
  cbv
  refine bF (rfl) ?_
  cbv
  refine ⟨hC _ _ _ (ben_ok (by kernel_rfl)),?_⟩
  cbv
  refine ⟨3,hR,by decide,?_⟩
  cbv
  rw [tn]
  refine bF (rfl) ?_
  cbv
  refine ⟨3,hR,by decide,?_⟩
  cbv
  exact ⟨congrArg AV.agg hv.symm,rfl,trivial⟩
 ·have tn:=tN (v 4) hN hb.1 hb.2
  have hv : vac u = [aI (v 0),aI (v 1),aI (v 2),aI (v 3),aI dN,aI (v 5),aI (v 6),aI (v 7),aI (v 8),aI (v 9),aI (v 10),aI (v 11),aI (v 12),aI (v 13),aI (v 14),aI (v 15)]:=by rw [hu]; rfl
  clear hu hN hb tN
  cbv
  refine ⟨_,hr,?_⟩
  cbv
  rw [tbn]
  refine cF (rfl) ?_
  cbv
  refine ⟨_,hdt,?_⟩
  cbv
  rw [tbn]
  cbv
  refine bF (rfl) ?_
  cbv
  refine ⟨hC _ _ _ (ben_ok (by kernel_rfl)),?_⟩
  cbv
  refine ⟨4,hR,by decide,?_⟩
  cbv
  rw [tn]
  refine bF (rfl) ?_
  cbv
  refine ⟨4,hR,by decide,?_⟩
  cbv
  exact ⟨congrArg AV.agg hv.symm,rfl,trivial⟩
 ·have tn:=tN (v 5) hN hb.1 hb.2
  have hv : vac u = [aI (v 0),aI (v 1),aI (v 2),aI (v 3),aI (v 4),aI dN,aI (v 6),aI (v 7),aI (v 8),aI (v 9),aI (v 10),aI (v 11),aI (v 12),aI (v 13),aI (v 14),aI (v 15)]:=by rw [hu]; rfl
  clear hu hN hb tN
  cbv
  refine ⟨_,hr,?_⟩
  cbv
  rw [tbn]
  refine cF (rfl) ?_
  cbv
  refine ⟨_,hdt,?_⟩
  cbv
  rw [tbn]
  cbv
  refine bF (rfl) ?_
  cbv
  refine ⟨hC _ _ _ (ben_ok (by kernel_rfl)),?_⟩
  cbv
  refine ⟨5,hR,by decide,?_⟩
  cbv
  rw [tn]
  refine bF (rfl) ?_
  cbv
  refine ⟨5,hR,by decide,?_⟩
  cbv
  exact ⟨congrArg AV.agg hv.symm,rfl,trivial⟩
 ·have tn:=tN (v 6) hN hb.1 hb.2
  have hv : vac u = [aI (v 0),aI (v 1),aI (v 2),aI (v 3),aI (v 4),aI (v 5),aI dN,aI (v 7),aI (v 8),aI (v 9),aI (v 10),aI (v 11),aI (v 12),aI (v 13),aI (v 14),aI (v 15)]:=by rw [hu]; rfl
  clear hu hN hb tN
  cbv
  refine ⟨_,hr,?_⟩
  cbv
  rw [tbn]
  refine cF (rfl) ?_
  cbv
  refine ⟨_,hdt,?_⟩
  cbv
  rw [tbn]
  cbv
  refine bF (rfl) ?_
  cbv
  refine ⟨hC _ _ _ (ben_ok (by kernel_rfl)),?_⟩
  cbv
  refine ⟨6,hR,by decide,?_⟩
  cbv
  rw [tn]
  refine bF (rfl) ?_
  cbv
  refine ⟨6,hR,by decide,?_⟩
  cbv
  exact ⟨congrArg AV.agg hv.symm,rfl,trivial⟩
 ·have tn:=tN (v 7) hN hb.1 hb.2
  have hv : vac u = [aI (v 0),aI (v 1),aI (v 2),aI (v 3),aI (v 4),aI (v 5),aI (v 6),aI dN,aI (v 8),aI (v 9),aI (v 10),aI (v 11),aI (v 12),aI (v 13),aI (v 14),aI (v 15)]:=by rw [hu]; rfl
  clear hu hN hb tN
  cbv
  refine ⟨_,hr,?_⟩
  cbv
  rw [tbn]
  refine cF (rfl) ?_
  cbv
  refine ⟨_,hdt,?_⟩
  cbv
  rw [tbn]
  cbv
  refine bF (rfl) ?_
  cbv
  refine ⟨hC _ _ _ (ben_ok (by kernel_rfl)),?_⟩
  cbv
  refine ⟨7,hR,by decide,?_⟩
  cbv
  rw [tn]
  refine bF (rfl) ?_
  cbv
  refine ⟨7,hR,by decide,?_⟩
  cbv
  exact ⟨congrArg AV.agg hv.symm,rfl,trivial⟩
 ·have tn:=tN (v 8) hN hb.1 hb.2
  have hv : vac u = [aI (v 0),aI (v 1),aI (v 2),aI (v 3),aI (v 4),aI (v 5),aI (v 6),aI (v 7),aI dN,aI (v 9),aI (v 10),aI (v 11),aI (v 12),aI (v 13),aI (v 14),aI (v 15)]:=by rw [hu]; rfl
  clear hu hN hb tN
  cbv
  refine ⟨_,hr,?_⟩
  cbv
  rw [tbn]
  refine cF (rfl) ?_
  cbv
  refine ⟨_,hdt,?_⟩
  cbv
  rw [tbn]
  cbv
  refine bF (rfl) ?_
  cbv
  refine ⟨hC _ _ _ (ben_ok (by kernel_rfl)),?_⟩
  cbv
  refine ⟨8,hR,by decide,?_⟩
  cbv
  rw [tn]
  refine bF (rfl) ?_
  cbv
  refine ⟨8,hR,by decide,?_⟩
  cbv
  exact ⟨congrArg AV.agg hv.symm,rfl,trivial⟩
 ·have tn:=tN (v 9) hN hb.1 hb.2
  have hv : vac u = [aI (v 0),aI (v 1),aI (v 2),aI (v 3),aI (v 4),aI (v 5),aI (v 6),aI (v 7),aI (v 8),aI dN,aI (v 10),aI (v 11),aI (v 12),aI (v 13),aI (v 14),aI (v 15)]:=by rw [hu]; rfl
  clear hu hN hb tN
  cbv
  refine ⟨_,hr,?_⟩
  cbv
  rw [tbn]
  refine cF (rfl) ?_
  cbv
  refine ⟨_,hdt,?_⟩
  cbv
  rw [tbn]
  cbv
  refine bF (rfl) ?_
  cbv
  refine ⟨hC _ _ _ (ben_ok (by kernel_rfl)),?_⟩
  cbv
  refine ⟨9,hR,by decide,?_⟩
  cbv
  rw [tn]
  refine bF (rfl) ?_
  cbv
  refine ⟨9,hR,by decide,?_⟩
  cbv
  exact ⟨congrArg AV.agg hv.symm,rfl,trivial⟩
 ·have tn:=tN (v 10) hN hb.1 hb.2
  have hv : vac u = [aI (v 0),aI (v 1),aI (v 2),aI (v 3),aI (v 4),aI (v 5),aI (v 6),aI (v 7),aI (v 8),aI (v 9),aI dN,aI (v 11),aI (v 12),aI (v 13),aI (v 14),aI (v 15)]:=by rw [hu]; rfl
  clear hu hN hb tN
  cbv
  refine ⟨_,hr,?_⟩
  cbv
  rw [tbn]
  refine cF (rfl) ?_
  cbv
  refine ⟨_,hdt,?_⟩
  cbv
  rw [tbn]
  cbv
  refine bF (rfl) ?_
  cbv
  refine ⟨hC _ _ _ (ben_ok (by kernel_rfl)),?_⟩
  cbv
  refine ⟨10,hR,by decide,?_⟩
  cbv
  rw [tn]
  refine bF (rfl) ?_
  cbv
  refine ⟨10,hR,by decide,?_⟩
  cbv
  exact ⟨congrArg AV.agg hv.symm,rfl,trivial⟩
 ·have tn:=tN (v 11) hN hb.1 hb.2
  have hv : vac u = [aI (v 0),aI (v 1),aI (v 2),aI (v 3),aI (v 4),aI (v 5),aI (v 6),aI (v 7),aI (v 8),aI (v 9),aI (v 10),aI dN,aI (v 12),aI (v 13),aI (v 14),aI (v 15)]:=by rw [hu]; rfl
  clear hu hN hb tN
  cbv
  refine ⟨_,hr,?_⟩
  cbv
  rw [tbn]
  refine cF (rfl) ?_
  cbv
  refine ⟨_,hdt,?_⟩
  cbv
  rw [tbn]
  cbv
  refine bF (rfl) ?_
  cbv
  refine ⟨hC _ _ _ (ben_ok (by kernel_rfl)),?_⟩
  cbv
  refine ⟨11,hR,by decide,?_⟩
  cbv
  rw [tn]
  refine bF (rfl) ?_
  cbv
  refine ⟨11,hR,by decide,?_⟩
  cbv
  exact ⟨congrArg AV.agg hv.symm,rfl,trivial⟩
 ·have tn:=tN (v 12) hN hb.1 hb.2
  have hv : vac u = [aI (v 0),aI (v 1),aI (v 2),aI (v 3),aI (v 4),aI (v 5),aI (v 6),aI (v 7),aI (v 8),aI (v 9),aI (v 10),aI (v 11),aI dN,aI (v 13),aI (v 14),aI (v 15)]:=by rw [hu]; rfl
  clear hu hN hb tN
  cbv
  refine ⟨_,hr,?_⟩
  cbv
  rw [tbn]
  refine cF (rfl) ?_
  cbv
  refine ⟨_,hdt,?_⟩
  cbv
  rw [tbn]
  cbv
  refine bF (rfl) ?_
  cbv
  refine ⟨hC _ _ _ (ben_ok (by kernel_rfl)),?_⟩
  cbv
  refine ⟨12,hR,by decide,?_⟩
  cbv
  rw [tn]
  refine bF (rfl) ?_
  cbv
  refine ⟨12,hR,by decide,?_⟩
  cbv
  exact ⟨congrArg AV.agg hv.symm,rfl,trivial⟩
 ·have tn:=tN (v 13) hN hb.1 hb.2
  have hv : vac u = [aI (v 0),aI (v 1),aI (v 2),aI (v 3),aI (v 4),aI (v 5),aI (v 6),aI (v 7),aI (v 8),aI (v 9),aI (v 10),aI (v 11),aI (v 12),aI dN,aI (v 14),aI (v 15)]:=by rw [hu]; rfl
  clear hu hN hb tN
  cbv
  refine ⟨_,hr,?_⟩
  cbv
  rw [tbn]
  refine cF (rfl) ?_
  cbv
  refine ⟨_,hdt,?_⟩
  cbv
  rw [tbn]
  cbv
  refine bF (rfl) ?_
  cbv
  refine ⟨hC _ _ _ (ben_ok (by kernel_rfl)),?_⟩
  cbv
  refine ⟨13,hR,by decide,?_⟩
  cbv
  rw [tn]
  refine bF (rfl) ?_
  cbv
  refine ⟨13,hR,by decide,?_⟩
  cbv
  exact ⟨congrArg AV.agg hv.symm,rfl,trivial⟩
 ·have tn:=tN (v 14) hN hb.1 hb.2
  have hv : vac u = [aI (v 0),aI (v 1),aI (v 2),aI (v 3),aI (v 4),aI (v 5),aI (v 6),aI (v 7),aI (v 8),aI (v 9),aI (v 10),aI (v 11),aI (v 12),aI (v 13),aI dN,aI (v 15)]:=by rw [hu]; rfl
  clear hu hN hb tN
  cbv
  refine ⟨_,hr,?_⟩
  cbv
  rw [tbn]
  refine cF (rfl) ?_
  cbv
  refine ⟨_,hdt,?_⟩
  cbv
  rw [tbn]
  cbv
  refine bF (rfl) ?_
  cbv
  refine ⟨hC _ _ _ (ben_ok (by kernel_rfl)),?_⟩
  cbv
  refine ⟨14,hR,by decide,?_⟩
  cbv
  rw [tn]
  refine bF (rfl) ?_
  cbv
  refine ⟨14,hR,by decide,?_⟩
  cbv
  exact ⟨congrArg AV.agg hv.symm,rfl,trivial⟩
 ·have tn:=tN (v 15) hN hb.1 hb.2
  have hv : vac u = [aI (v 0),aI (v 1),aI (v 2),aI (v 3),aI (v 4),aI (v 5),aI (v 6),aI (v 7),aI (v 8),aI (v 9),aI (v 10),aI (v 11),aI (v 12),aI (v 13),aI (v 14),aI dN]:=by rw [hu]; rfl
  clear hu hN hb tN
  cbv
  refine ⟨_,hr,?_⟩
  cbv
  rw [tbn]
  refine cF (rfl) ?_
  cbv
  refine ⟨_,hdt,?_⟩
  cbv
  rw [tbn]
  cbv
  refine bF (rfl) ?_
  cbv
  refine ⟨hC _ _ _ (ben_ok (by kernel_rfl)),?_⟩
  cbv
  refine ⟨15,hR,by decide,?_⟩
  cbv
  rw [tn]
  refine bF (rfl) ?_
  cbv
  refine ⟨15,hR,by decide,?_⟩
  cbv
  exact ⟨congrArg AV.agg hv.symm,rfl,trivial⟩
end Go.Proofs.Ytdnaadcbimbfmaa
namespace Go.Proofs.Ytdnaadcbimbfmaa
open Go Go.RowKit Am
structure Us where
 f : Bool
 v : Bool
 n : Bool
 r : Bool
 ok : Bool
def usesU (k : Int) : Us:=⟨decide (k = 3) || decide (k = 4) || decide (k = 6) || decide (k = 8) || decide (k = 5) || decide (k = 7),decide (k = 1) || decide (k = 5) || decide (k = 9),decide (k = 2) || decide (k = 7),decide (k = 9) || decide (k = 10),decide (1 ≤ k) && decide (k ≤ 11)⟩
theorem uses_ok (k : Int) (u : Us) (hu : u = usesU k) : CSem Try.prog (.fn 68) [aI k] (.pure [.agg [aB u.f,aB u.v,aB u.n,aB u.r],aB u.ok]):=by
 refine of_text gam_ok mixed { n:=32 } Try.func68 (by kernel_rfl) rfl rfl (by simp) (by decide) fun F C D hF hC hD=>?_
 have te : ∀ m : Int,F .cmp .eql k m = decide (k = m):=fun m=>eqF hF k m
 clear hC hD
 by_cases hk : 1 ≤ k∧k ≤ 11
 ·obtain rfl | rfl | rfl | rfl | rfl | rfl | rfl | rfl | rfl | rfl | rfl : k = 1 ∨ k = 2 ∨ k = 3 ∨ k = 4 ∨ k = 5 ∨ k = 6 ∨ k = 7 ∨ k = 8 ∨ k = 9 ∨ k = 10 ∨ k = 11:=by omega
  all_goals (subst hu; clear hk te; subst hF; cbv; repeat (first | (refine bT rfl ?_; cbv) | (refine bF rfl ?_; cbv)))
  all_goals (first | exact ⟨rfl,rfl,trivial⟩ | trivial)
 ·have tn : ∀ m : Int,1 ≤ m→m ≤ 11→F .cmp .eql k m = false:=fun m h1 h2=>by rw [te]; exact decide_eq_false (by omega)
  have hu0 : u = ⟨false,false,false,false,false⟩:=by
   have d : ∀ m : Int,1 ≤ m→m ≤ 11→decide (k = m) = false:=fun m h1 h2=>decide_eq_false (by omega)
   rw [hu]
   unfold usesU
   rw [d 3 (by decide) (by decide),d 4 (by decide) (by decide),d 6 (by decide) (by decide),d 8 (by decide) (by decide),d 5 (by decide) (by decide),d 7 (by decide) (by decide),d 1 (by decide) (by decide),d 9 (by decide) (by decide),d 2 (by decide) (by decide),d 10 (by decide) (by decide)]
   have : (decide (1 ≤ k) && decide (k ≤ 11)) = false:=by
    simp only [Bool.and_eq_false_iff,decide_eq_false_iff_not]; omega
   rw [this]; rfl
  subst hu0
  have t1:=tn 1 (by decide) (by decide)
  have t2:=tn 2 (by decide) (by decide)
  have t3:=tn 3 (by decide) (by decide)
  have t4:=tn 4 (by decide) (by decide)
  have t5:=tn 5 (by decide) (by decide)
  have t6:=tn 6 (by decide) (by decide)
  have t7:=tn 7 (by decide) (by decide)
  have t8:=tn 8 (by decide) (by decide)
  have t9:=tn 9 (by decide) (by decide)
  have t10:=tn 10 (by decide) (by decide)
  have t11:=tn 11 (by decide) (by decide)
  clear tn te hk hu
  cbv
  repeat (first | (refine bF rfl ?_; cbv) | rw [t1] | rw [t2] | rw [t3] | rw [t4] | rw [t5] | rw [t6] | rw [t7] | rw [t8] | rw [t9] | rw [t10] | rw [t11])
  all_goals (first | exact ⟨rfl,rfl,trivial⟩ | trivial)
def canB (o : Opn) : Bool:=(usesU o.kind).ok && decide (o.key ≠ BA []) && decide (o.key.size ≤ 64) && decide (o.fld.size ≤ 64) && decide (o.val.size ≤ 64) && decide (-1099511627776 ≤ o.num) && decide (o.num ≤ 1099511627776) &&
 (((usesU o.kind).f || decide (o.fld = BA [])) && ((usesU o.kind).v || decide (o.val = BA [])) && ((usesU o.kind).n || decide (o.num = 0)) && ((usesU o.kind).r || decide (o.ref = ⟨0,0⟩)))
set_option maxRecDepth 100000 in
theorem can_ok (o : Opn) (r : Bool) (hr : r = canB o) : CSem Try.prog (.fn 50) [.agg o.ac] (.pure [aB r]):=by
 refine of_text gam_ok mixed { n:=76 } Try.func50 (by kernel_rfl) rfl rfl (by simp) (by decide) fun F C D hF hC hD=>?_
 obtain ⟨u,hu⟩ : ∃ u,u = usesU o.kind:=⟨_,rfl⟩
 have hus:=hC _ _ _ (uses_ok o.kind u hu)
 obtain ⟨q,hq,heq⟩:=dtEq_ok o.ref ⟨0,0⟩
 have heq:=hC _ _ _ heq
 unfold canB at hr
 rw [← hu] at hr
 have hqd : decide (o.ref = (⟨0,0⟩ : Dt)) = q:=by
  cases hqq : q with
  | true=>exact decide_eq_true (hq.1 hqq)
  | false=>exact decide_eq_false fun h=>by rw [hq.2 h] at hqq; cases hqq
 rw [hqd] at hr
 obtain ⟨uf,uv,un,ur,uo⟩:=u
 obtain ⟨kind,key,fld,val,num,ref⟩:=o
 obtain ⟨rR,rN⟩:=ref
 obtain ⟨k0,e1⟩ : ∃ c,F .scmp .eql key ⟨⟨[]⟩⟩ = c:=⟨_,rfl⟩
 obtain ⟨k1,e2⟩ : ∃ c,F .cmp .gtr (F .mx (F .mx (F .slen key) (F .slen fld)) (F .slen val)) 64 = c:=⟨_,rfl⟩
 obtain ⟨k2,e3⟩ : ∃ c,F .cmp .lss num (-1099511627776) = c:=⟨_,rfl⟩
 obtain ⟨k3,e4⟩ : ∃ c,F .cmp .gtr num 1099511627776 = c:=⟨_,rfl⟩
 obtain ⟨k4,e5⟩ : ∃ c,F .scmp .eql fld ⟨⟨[]⟩⟩ = c:=⟨_,rfl⟩
 obtain ⟨k5,e6⟩ : ∃ c,F .scmp .eql val ⟨⟨[]⟩⟩ = c:=⟨_,rfl⟩
 obtain ⟨k6,e7⟩ : ∃ c,F .cmp .eql num 0 = c:=⟨_,rfl⟩
 have e0:=bnotF hF uo
 have hr2 : r = (uo && !k0 && !k1 && !k2 && !k3 && ((uf || k4) && (uv || k5) && (un || k6) && (ur || q))):=by
  have d1 : decide (key ≠ BA []) = !k0:=by rw [← e1,seqF hF,decide_not]; rfl
  have d4 : decide (fld = BA []) = k4:=by rw [← e5,seqF hF]; rfl
  have d5 : decide (val = BA []) = k5:=by rw [← e6,seqF hF]; rfl
  have d6 : decide (num = 0) = k6:=by rw [← e7,eqF hF]
  have d2 : decide (-1099511627776 ≤ num) = !k2:=by rw [← e3,lsF hF]; by_cases h : num < -1099511627776 <;> simp [h] <;> omega
  have d3 : decide (num ≤ 1099511627776) = !k3:=by rw [← e4,gtF hF]; by_cases h : num > 1099511627776 <;> simp [h] <;> omega
  have dm : ∀ x y : Int,F .mx x y = max x y:=fun x y=>by rw [hF]; show (if x < y then y else x) = max x y; omega
  have dz : (decide (key.size ≤ 64) && decide (fld.size ≤ 64) && decide (val.size ≤ 64)) = !k1:=by
   rw [← e2,gtF hF,dm,dm,slenF hF,slenF hF,slenF hF]
   by_cases h : max (max (key.size : Int) (fld.size : Int)) (val.size : Int) > 64
   ·rw [decide_eq_true h]
    simp only [Bool.not_true,Bool.and_eq_false_iff,decide_eq_false_iff_not]
    omega
   ·rw [decide_eq_false h]
    simp only [Bool.not_false,Bool.and_eq_true,decide_eq_true_eq]
    omega
  simp only at hr
  rw [hr,d1,d4,d5,d6,d2,d3,← dz]
  simp only [Bool.and_assoc]
 clear hr hq hu hqd
 cbv
 refine ⟨_,hus,?_⟩
 cbv
 rw [e0]
 clear e0 hC hD
 cases uo <;> (repeat (first | (refine bT rfl ?_; cbv) | (refine bF rfl ?_; cbv) | (refine cT rfl ?_; cbv) | (refine cF rfl ?_; cbv) | (refine ⟨_,heq,?_⟩; cbv)))
 all_goals (try (rw [e1]; clear e1; cases k0 <;> (repeat (first | (refine bT rfl ?_; cbv) | (refine bF rfl ?_; cbv) | (refine cT rfl ?_; cbv) | (refine cF rfl ?_; cbv) | (refine ⟨_,heq,?_⟩; cbv)))))
 all_goals (try (rw [e2]; clear e2; cases k1 <;> (repeat (first | (refine bT rfl ?_; cbv) | (refine bF rfl ?_; cbv) | (refine cT rfl ?_; cbv) | (refine cF rfl ?_; cbv) | (refine ⟨_,heq,?_⟩; cbv)))))
 all_goals (try (rw [e3]; clear e3; cases k2 <;> (repeat (first | (refine bT rfl ?_; cbv) | (refine bF rfl ?_; cbv) | (refine cT rfl ?_; cbv) | (refine cF rfl ?_; cbv) | (refine ⟨_,heq,?_⟩; cbv)))))
 all_goals (try (rw [e4]; clear e4; cases k3 <;> (repeat (first | (refine bT rfl ?_; cbv) | (refine bF rfl ?_; cbv) | (refine cT rfl ?_; cbv) | (refine cF rfl ?_; cbv) | (refine ⟨_,heq,?_⟩; cbv)))))
 all_goals (try (cases uf <;> (repeat (first | (refine bT rfl ?_; cbv) | (refine bF rfl ?_; cbv) | (refine cT rfl ?_; cbv) | (refine cF rfl ?_; cbv) | (refine ⟨_,heq,?_⟩; cbv)))))
 all_goals (try (rw [e5]; clear e5; cases k4 <;> (repeat (first | (refine bT rfl ?_; cbv) | (refine bF rfl ?_; cbv) | (refine cT rfl ?_; cbv) | (refine cF rfl ?_; cbv) | (refine ⟨_,heq,?_⟩; cbv)))))
 all_goals (try (cases uv <;> (repeat (first | (refine bT rfl ?_; cbv) | (refine bF rfl ?_; cbv) | (refine cT rfl ?_; cbv) | (refine cF rfl ?_; cbv) | (refine ⟨_,heq,?_⟩; cbv)))))
 all_goals (try (rw [e6]; clear e6; cases k5 <;> (repeat (first | (refine bT rfl ?_; cbv) | (refine bF rfl ?_; cbv) | (refine cT rfl ?_; cbv) | (refine cF rfl ?_; cbv) | (refine ⟨_,heq,?_⟩; cbv)))))
 all_goals (try (cases un <;> (repeat (first | (refine bT rfl ?_; cbv) | (refine bF rfl ?_; cbv) | (refine cT rfl ?_; cbv) | (refine cF rfl ?_; cbv) | (refine ⟨_,heq,?_⟩; cbv)))))
 all_goals (try (rw [e7]; clear e7; cases k6 <;> (repeat (first | (refine bT rfl ?_; cbv) | (refine bF rfl ?_; cbv) | (refine cT rfl ?_; cbv) | (refine cF rfl ?_; cbv) | (refine ⟨_,heq,?_⟩; cbv)))))
 all_goals (try (cases ur <;> (repeat (first | (refine bT rfl ?_; cbv) | (refine bF rfl ?_; cbv) | (refine cT rfl ?_; cbv) | (refine cF rfl ?_; cbv) | (refine ⟨_,heq,?_⟩; cbv)))))
 all_goals (try (cases q <;> (repeat (first | (refine bT rfl ?_; cbv) | (refine bF rfl ?_; cbv) | (refine cT rfl ?_; cbv) | (refine cF rfl ?_; cbv) | (refine ⟨_,heq,?_⟩; cbv)))))
 all_goals (subst hr2; clear heq; try simp; try rfl)
end Go.Proofs.Ytdnaadcbimbfmaa
namespace Go.Proofs.Ytdnaadcbimbfmaa
open Go Go.RowKit Am
theorem ev_cut (e : Ev) : ∀ (m : Nat) (h : m < 16),cut (3 + m * 1) 1 e.ac = some [aI (e.deps ⟨m,h⟩)]
 | 0,_=>rfl
 | 1,_=>rfl
 | 2,_=>rfl
 | 3,_=>rfl
 | 4,_=>rfl
 | 5,_=>rfl
 | 6,_=>rfl
 | 7,_=>rfl
 | 8,_=>rfl
 | 9,_=>rfl
 | 10,_=>rfl
 | 11,_=>rfl
 | 12,_=>rfl
 | 13,_=>rfl
 | 14,_=>rfl
 | 15,_=>rfl
 | n+16,h=>absurd h (by omega)
structure RightP (e : Ev) : Prop where
 r0 : 0 ≤ e.dot.R
 r1 : e.dot.R < 16
 n0 : 1 ≤ e.dot.N
 n1 : e.dot.N ≤ 1048576
 t0 : 0 ≤ e.time
 t1 : e.time ≤ 1152921504606846975
 vv : vrightP e.deps
 at' : vget e.deps e.dot.R = e.dot.N - 1
 can : canB e.op = true
 rf : hasB e.deps e.op.ref = true ∨ (e.op.kind ≠ 10∧e.op.ref = ⟨0,0⟩)
set_option maxRecDepth 100000 in
set_option maxHeartbeats 4000000 in
theorem right_ok (e : Ev) (r : Bool) (hr : r = true ↔ RightP e) : CSem Try.prog (.fn 25) [.agg e.ac] (.pure [aB r]):=by
 refine of_text gam_ok mixed { n:=77 } Try.func25 (by kernel_rfl) rfl rfl (by simp) (by decide) fun F C D hF hC hD=>?_
 obtain ⟨⟨R,N⟩,time,deps,op⟩:=e
 obtain ⟨rv,hrv⟩ : ∃ rv : Bool,(rv = true ↔ vrightP deps):=⟨@decide (vrightP deps) (Classical.propDecidable _),by simp⟩
 have kv:=hC _ _ _ (vRight_ok deps rv hrv)
 obtain ⟨rc,hrc⟩ : ∃ rc,rc = canB op:=⟨_,rfl⟩
 have kc:=hC _ _ _ (can_ok op rc hrc)
 obtain ⟨rh,hrh⟩ : ∃ rh,rh = hasB deps op.ref:=⟨_,rfl⟩
 have kh:=hC _ _ _ (has_ok deps op.ref rh hrh)
 obtain ⟨q,hq,heq⟩:=dtEq_ok op.ref ⟨0,0⟩
 have heq:=hC _ _ _ heq
 obtain ⟨kind,key,fld,val,num,rR,rN⟩:=op
 obtain ⟨k0,e0⟩ : ∃ c,F .cmp .lss R 0 = c:=⟨_,rfl⟩
 obtain ⟨k1,e1⟩ : ∃ c,F .cmp .geq R 16 = c:=⟨_,rfl⟩
 obtain ⟨k2,e2⟩ : ∃ c,F .cmp .lss N 1 = c:=⟨_,rfl⟩
 obtain ⟨k3,e3⟩ : ∃ c,F .cmp .gtr N 1048576 = c:=⟨_,rfl⟩
 obtain ⟨k4,e4⟩ : ∃ c,F .cmp .lss time 0 = c:=⟨_,rfl⟩
 obtain ⟨k5,e5⟩ : ∃ c,F .cmp .gtr time 1152921504606846975 = c:=⟨_,rfl⟩
 by_cases hA : 0 ≤ R∧R < 16∧1 ≤ N∧N ≤ 1048576∧0 ≤ time∧time ≤ 1152921504606846975
 ·have z0 : k0 = false:=by rw [← e0,lsF hF]; exact decide_eq_false (by omega)
  have z1 : k1 = false:=by rw [← e1,geF hF]; exact decide_eq_false (by omega)
  have z2 : k2 = false:=by rw [← e2,lsF hF]; exact decide_eq_false (by omega)
  have z3 : k3 = false:=by rw [← e3,gtF hF]; exact decide_eq_false (by omega)
  have z4 : k4 = false:=by rw [← e4,lsF hF]; exact decide_eq_false (by omega)
  have z5 : k5 = false:=by rw [← e5,gtF hF]; exact decide_eq_false (by omega)
  subst z0; subst z1; subst z2; subst z3; subst z4; subst z5
  obtain ⟨m,hR⟩ : ∃ m : Nat,R = (m : Int):=⟨R.toNat,(Int.toNat_of_nonneg hA.1).symm⟩
  have hm : m < 16:=by omega
  have hcut : cut (3 + m * 1) 1 (Ev.ac ⟨⟨R,N⟩,time,deps,⟨kind,key,fld,val,num,⟨rR,rN⟩⟩⟩) = some [aI (deps ⟨m,hm⟩)]:=ev_cut _ m hm
  obtain ⟨x,hx⟩ : ∃ x,x = deps ⟨m,hm⟩:=⟨_,rfl⟩
  rw [← hx] at hcut
  obtain ⟨n1,hn1⟩ : ∃ y,F .ar .sub .i64 N 1 = y:=⟨_,rfl⟩
  have en1 : n1 = N - 1:=by rw [← hn1,hF]; exact wrap_in (by omega) (by omega)
  obtain ⟨kx,ex⟩ : ∃ c,F .cmp .neq x n1 = c:=⟨_,rfl⟩
  obtain ⟨k10,e10⟩ : ∃ c,F .cmp .neq kind 10 = c:=⟨_,rfl⟩
  have bv:=bnotF hF rv
  have bc:=bnotF hF rc
  have hvg : vget deps R = x:=by unfold vget; rw [hR,Int.toNat_natCast,dif_pos hm,hx]
  have hkx : kx = false ↔ x = N - 1:=by rw [← ex,neF hF,en1]; simp
  have hk10 : k10 = true ↔ kind ≠ 10:=by rw [← e10,neF hF]; simp
  have hr2 : r = (rv && !kx && rc && (rh || (k10 && q))):=by
   rw [Bool.eq_iff_iff,hr]
   simp only [Bool.and_eq_true,Bool.or_eq_true,Bool.not_eq_true',hrv,hkx,hk10,hq,hrc,hrh]
   constructor
   ·intro h
    exact ⟨⟨⟨h.vv,by have:=h.at'; rw [← hvg]; exact this⟩,h.can⟩,h.rf⟩
   ·rintro ⟨⟨⟨h1,h2⟩,h3⟩,h4⟩
    exact ⟨hA.1,hA.2.1,hA.2.2.1,hA.2.2.2.1,hA.2.2.2.2.1,hA.2.2.2.2.2,h1,by show vget deps R = N - 1; rw [hvg]; exact h2,h3,h4⟩
  clear hr hA hrv hrc hrh hq hx hvg hkx hk10 en1
  cbv
  rw [e0]
  refine cF (rfl) ?_
  cbv
  rw [e1]
  refine cF (rfl) ?_
  cbv
  rw [e2]
  refine cF (rfl) ?_
  cbv
  rw [e3]
  refine cF (rfl) ?_
  cbv
  rw [e4]
  refine cF (rfl) ?_
  cbv
  rw [e5]
  refine bF (rfl) ?_
  cbv
  refine ⟨hC _ _ _ (ben_ok (by kernel_rfl)),?_⟩
  cbv
  refine ⟨_,kv,?_⟩
  cbv
  rw [bv]
  clear bv kv
  cases rv with
  | false =>
   repeat (first | (refine bT rfl ?_; cbv) | (refine bF rfl ?_; cbv) | (refine cT rfl ?_; cbv) | (refine cF rfl ?_; cbv))
   subst hr2; simp
  | true =>
   repeat (first | (refine bT rfl ?_; cbv) | (refine bF rfl ?_; cbv) | (refine cT rfl ?_; cbv) | (refine cF rfl ?_; cbv))
   refine ⟨m,_,hR,hm,hcut,?_⟩
   cbv
   rw [hn1,ex]
   clear ex hn1 hcut
   cases kx with
   | true =>
    repeat (first | (refine bT rfl ?_; cbv) | (refine bF rfl ?_; cbv) | (refine cT rfl ?_; cbv) | (refine cF rfl ?_; cbv))
    subst hr2; simp
   | false =>
    repeat (first | (refine bT rfl ?_; cbv) | (refine bF rfl ?_; cbv) | (refine cT rfl ?_; cbv) | (refine cF rfl ?_; cbv))
    refine ⟨_,kc,?_⟩
    cbv
    rw [bc]
    clear kc bc
    cases rc with
    | false =>
     repeat (first | (refine bT rfl ?_; cbv) | (refine bF rfl ?_; cbv) | (refine cT rfl ?_; cbv) | (refine cF rfl ?_; cbv))
     subst hr2; simp
    | true =>
     repeat (first | (refine bT rfl ?_; cbv) | (refine bF rfl ?_; cbv) | (refine cT rfl ?_; cbv) | (refine cF rfl ?_; cbv))
     refine ⟨_,kh,?_⟩
     cbv
     clear kh
     cases rh with
     | true =>
      repeat (first | (refine bT rfl ?_; cbv) | (refine bF rfl ?_; cbv) | (refine cT rfl ?_; cbv) | (refine cF rfl ?_; cbv))
      subst hr2; simp
     | false =>
      repeat (first | (refine bT rfl ?_; cbv) | (refine bF rfl ?_; cbv) | (refine cT rfl ?_; cbv) | (refine cF rfl ?_; cbv))
      rw [e10]
      clear e10
      cases k10 with
      | false =>
       repeat (first | (refine bT rfl ?_; cbv) | (refine bF rfl ?_; cbv) | (refine cT rfl ?_; cbv) | (refine cF rfl ?_; cbv))
       subst hr2; simp
      | true =>
       repeat (first | (refine bT rfl ?_; cbv) | (refine bF rfl ?_; cbv) | (refine cT rfl ?_; cbv) | (refine cF rfl ?_; cbv))
       refine ⟨_,heq,?_⟩
       cbv
       subst hr2; simp
 ·have hrf : r = false:=by
   cases hrr : r with
   | false=>rfl
   | true=>have h:=hr.1 hrr; exact absurd ⟨h.r0,h.r1,h.n0,h.n1,h.t0,h.t1⟩ hA
  have hor : ¬ (k0 = false∧k1 = false∧k2 = false∧k3 = false∧k4 = false∧k5 = false):=by
   rintro ⟨z0,z1,z2,z3,z4,z5⟩
   rw [← e0,lsF hF] at z0
   rw [← e1,geF hF] at z1
   rw [← e2,lsF hF] at z2
   rw [← e3,gtF hF] at z3
   rw [← e4,lsF hF] at z4
   rw [← e5,gtF hF] at z5
   have:=of_decide_eq_false z0
   have:=of_decide_eq_false z1
   have:=of_decide_eq_false z2
   have:=of_decide_eq_false z3
   have:=of_decide_eq_false z4
   have:=of_decide_eq_false z5
   exact hA (by omega)
  subst hrf
  clear hr hA hrv hrc hrh hq kv kc kh heq hC hD
  cbv
  rw [e0]
  clear e0
  cases k0 <;> (repeat (first | (refine bT rfl ?_; cbv) | (refine bF rfl ?_; cbv) | (refine cT rfl ?_; cbv) | (refine cF rfl ?_; cbv)))
  all_goals (try (rw [e1]; clear e1; cases k1 <;> (repeat (first | (refine bT rfl ?_; cbv) | (refine bF rfl ?_; cbv) | (refine cT rfl ?_; cbv) | (refine cF rfl ?_; cbv)))))
  all_goals (try (rw [e2]; clear e2; cases k2 <;> (repeat (first | (refine bT rfl ?_; cbv) | (refine bF rfl ?_; cbv) | (refine cT rfl ?_; cbv) | (refine cF rfl ?_; cbv)))))
  all_goals (try (rw [e3]; clear e3; cases k3 <;> (repeat (first | (refine bT rfl ?_; cbv) | (refine bF rfl ?_; cbv) | (refine cT rfl ?_; cbv) | (refine cF rfl ?_; cbv)))))
  all_goals (try (rw [e4]; clear e4; cases k4 <;> (repeat (first | (refine bT rfl ?_; cbv) | (refine bF rfl ?_; cbv) | (refine cT rfl ?_; cbv) | (refine cF rfl ?_; cbv)))))
  all_goals (try (rw [e5]; clear e5; cases k5))
  all_goals (first | (exact absurd ⟨rfl,rfl,rfl,rfl,rfl,rfl⟩ hor) | (repeat (first | (refine bT rfl ?_; cbv) | (refine bF rfl ?_; cbv) | (refine cT rfl ?_; cbv) | (refine cF rfl ?_; cbv)); (try simp)))
end Go.Proofs.Ytdnaadcbimbfmaa
namespace Go.Proofs.Ytdnaadcbimbfmaa
open Go Go.RowKit Am
def spA (mA : AV) (v : VV) (t : Int) : List AV:=[mA,aI (v 0),aI (v 1),aI (v 2),aI (v 3),aI (v 4),aI (v 5),aI (v 6),aI (v 7),aI (v 8),aI (v 9),aI (v 10),aI (v 11),aI (v 12),aI (v 13),aI (v 14),aI (v 15),aI t]
theorem sp_cut (mA : AV) (v : VV) (t : Int) : ∀ (m : Nat) (h : m < 16),cut (1 + m * 1) 1 (spA mA v t) = some [aI (v ⟨m,h⟩)]
 | 0,_=>rfl
 | 1,_=>rfl
 | 2,_=>rfl
 | 3,_=>rfl
 | 4,_=>rfl
 | 5,_=>rfl
 | 6,_=>rfl
 | 7,_=>rfl
 | 8,_=>rfl
 | 9,_=>rfl
 | 10,_=>rfl
 | 11,_=>rfl
 | 12,_=>rfl
 | 13,_=>rfl
 | 14,_=>rfl
 | 15,_=>rfl
 | n+16,h=>absurd h (by omega)
theorem vv_ok (mA : AV) (v : VV) (t : Int) : CSem Try.prog (.fn 10) [.ept (spA mA v t) 0] (.pure [.agg (vac v)]):=by
 refine of_text gam_ok mixed { n:=10 } Try.func10 (by kernel_rfl) rfl rfl (by simp) (by decide) fun F C D hF hC hD=>?_
 cbv
 refine ⟨hC _ _ _ (show Try.prog.underlying 25 = _ from by kernel_rfl),?_⟩
 cbv
 try simp
structure ReadyP (v : VV) (e : Ev) : Prop where
 rt : RightP e
 nx : e.dot.N = vget v e.dot.R + 1
 dp : joinV e.deps v = v
set_option maxRecDepth 100000 in
set_option maxHeartbeats 4000000 in
theorem ready_ok (mA : AV) (v : VV) (t : Int) (hv : vrightP v) (e : Ev) (r : Bool) (hr : r = true ↔ ReadyP v e) : CSem Try.prog (.fn 11) [.ept (spA mA v t) 0,.agg e.ac] (.pure [aB r]):=by
 refine of_text gam_ok mixed { n:=39 } Try.func11 (by kernel_rfl) rfl rfl (by simp) (by decide) fun F C D hF hC hD=>?_
 obtain ⟨rr,hrr⟩ : ∃ rr : Bool,(rr = true ↔ RightP e):=⟨@decide (RightP e) (Classical.propDecidable _),by simp⟩
 have kr:=hC _ _ _ (right_ok e rr hrr)
 have kj:=hC _ _ _ (join_ok e.deps v _ rfl)
 obtain ⟨q,hq,heq0⟩:=vvEq_ok (joinV e.deps v) v
 have heq:=hC _ _ _ heq0
 clear heq0
 obtain ⟨J,hJ⟩ : ∃ J,J = joinV e.deps v:=⟨_,rfl⟩
 rw [← hJ] at kj heq hq
 have br0:=bnotF hF rr
 have nilp:=hC _ _ _ (show CSem Try.prog (.nilp 25) [] (.pure []) from (show Try.prog.underlying 25 = _ from by kernel_rfl))
 by_cases hR : RightP e
 ·have hrt : rr = true:=hrr.2 hR
  obtain ⟨m,hRm⟩ : ∃ m : Nat,e.dot.R = (m : Int):=⟨e.dot.R.toNat,(Int.toNat_of_nonneg hR.r0).symm⟩
  have hm : m < 16:=by have:=hR.r1; omega
  have hcut:=sp_cut mA v t m hm
  obtain ⟨x,hx⟩ : ∃ x,x = v ⟨m,hm⟩:=⟨_,rfl⟩
  rw [← hx] at hcut
  have hxr:=hv ⟨m,hm⟩
  rw [← hx] at hxr
  obtain ⟨x1,hx1⟩ : ∃ y,F .ar .add .i64 x 1 = y:=⟨_,rfl⟩
  have ex1 : x1 = x + 1:=by rw [← hx1,hF]; exact wrap_in (by have:=hxr.1; omega) (by have:=hxr.2; omega)
  have hvg : vget v e.dot.R = x:=by unfold vget; rw [hRm,Int.toNat_natCast,dif_pos hm,hx]
  obtain ⟨kx,ekx⟩ : ∃ c,F .cmp .neq e.dot.N x1 = c:=⟨_,rfl⟩
  have hkx : kx = false ↔ e.dot.N = x + 1:=by rw [← ekx,neF hF,ex1]; simp
  have hr2 : r = (!kx && q):=by
   rw [Bool.eq_iff_iff,hr]
   simp only [Bool.and_eq_true,Bool.not_eq_true',hkx,hq]
   exact ⟨fun h=>⟨by rw [← hvg]; exact h.nx,by rw [hJ]; exact h.dp⟩,fun h=>⟨hR,by rw [hvg]; exact h.1,by rw [← hJ]; exact h.2⟩⟩
  subst hrt
  clear hr hrr hq hJ hx hxr ex1 hvg hkx hR hv
  obtain ⟨⟨R,N⟩,time,deps,kind,key,fld,val,num,rR,rN⟩:=e
  simp only at hRm ekx
  cbv
  refine ⟨hC _ _ _ (ben_ok (by kernel_rfl)),?_⟩
  cbv
  refine ⟨nilp,?_⟩
  cbv
  refine ⟨_,kr,?_⟩
  cbv
  rw [br0]
  clear kr br0
  repeat (first | (refine bT rfl ?_; cbv) | (refine bF rfl ?_; cbv) | (refine cT rfl ?_; cbv) | (refine cF rfl ?_; cbv))
  refine ⟨m,_,hRm,hm,hcut,?_⟩
  cbv
  rw [hx1,ekx]
  clear hx1 ekx
  cases kx with
  | true =>
   repeat (first | (refine bT rfl ?_; cbv) | (refine bF rfl ?_; cbv) | (refine cT rfl ?_; cbv) | (refine cF rfl ?_; cbv))
   subst hr2; simp
  | false =>
   repeat (first | (refine bT rfl ?_; cbv) | (refine bF rfl ?_; cbv) | (refine cT rfl ?_; cbv) | (refine cF rfl ?_; cbv))
   refine ⟨hC _ _ _ (ben_ok (by kernel_rfl)),?_⟩
   cbv
   refine ⟨_,kj,?_⟩
   cbv
   refine ⟨_,heq,?_⟩
   cbv
   subst hr2; simp
 ·have hrf : r = false:=by
   cases hrr : r with
   | false=>rfl
   | true=>exact absurd (hr.1 hrr).rt hR
  have hrt : rr = false:=by
   cases h : rr with
   | false=>rfl
   | true=>exact absurd (hrr.1 h) hR
  subst hrf; subst hrt
  clear hr hrr hq hJ hR hv
  obtain ⟨⟨R,N⟩,time,deps,kind,key,fld,val,num,rR,rN⟩:=e
  cbv
  refine ⟨hC _ _ _ (ben_ok (by kernel_rfl)),?_⟩
  cbv
  refine ⟨nilp,?_⟩
  cbv
  refine ⟨_,kr,?_⟩
  cbv
  rw [br0]
  repeat (first | (refine bT rfl ?_; cbv) | (refine bF rfl ?_; cbv) | (refine cT rfl ?_; cbv) | (refine cF rfl ?_; cbv))
  try simp
end Go.Proofs.Ytdnaadcbimbfmaa
namespace Go.Proofs.Ytdnaadcbimbfmaa
open Go Go.RowKit Am
def stepA (e : Ev) (s : List ElE × List ElT) (x : Ev) : List ElE × List ElT :=
 if endsB e x = true then (delD dE s.1 x.dot,if x.op.kind = 9 then insD dT s.2 (x,e.dot) else s.2) else s
def foldA (e : Ev) (en : Ent) (k : Nat) : List ElE × List ElT:=(en.lv.take k).foldl (stepA e) (en.lv,en.dd)
def applyE (e : Ev) (en : Ent) : Ent :=
 ⟨if addsB e.op.kind = true then insD dE (foldA e en en.lv.length).1 e else (foldA e en en.lv.length).1,(foldA e en en.lv.length).2⟩
structure EntOK (en : Ent) : Prop where
 lr : Rise dE en.lv
 dr : Rise dT en.dd
 ap : ∀ x ∈ en.lv,∀ y ∈ en.dd,dE x ≠ dT y
theorem delD_mem {α : Type} (d : α→Dt) (l : List α) (x : Dt) (a : α) : a ∈ delD d l x ↔ a ∈ l∧d a ≠ x:=by simp [delD]
structure FoldI (e : Ev) (en : Ent) (k : Nat) : Prop where
 lr : Rise dE (foldA e en k).1
 dr : Rise dT (foldA e en k).2
 lsub : ∀ x ∈ (foldA e en k).1,x ∈ en.lv
 rest : ∀ (j : Nat) (x : Ev),k ≤ j→en.lv[j]? = some x→x ∈ (foldA e en k).1
 dsub : ∀ y ∈ (foldA e en k).2,y ∈ en.dd ∨ ∃ (j : Nat) (x : Ev),j < k∧en.lv[j]? = some x∧x ∉ (foldA e en k).1∧dT y = x.dot
 dlen : (foldA e en k).2.length ≤ en.dd.length + k
theorem foldA_succ (e : Ev) (en : Ent) (k : Nat) (x : Ev) (h : en.lv[k]? = some x) : foldA e en (k + 1) = stepA e (foldA e en k) x:=by
 unfold foldA
 rw [List.take_add_one,h,List.foldl_append]; rfl
theorem lv_inj {en : Ent} (h : EntOK en) {i j : Nat} {x y : Ev} (hi : en.lv[i]? = some x) (hj : en.lv[j]? = some y) (hd : x.dot = y.dot) : i = j:=rise_inj h.lr hi hj hd
theorem foldI (e : Ev) (en : Ent) (h : EntOK en) : ∀ k,k ≤ en.lv.length→FoldI e en k
 | 0,_=>⟨h.lr,h.dr,fun x hx=>hx,fun j x _ hx=>List.mem_of_getElem? hx,fun y hy=>.inl hy,by simp [foldA]⟩
 | k + 1,hk=>by
  have ih:=foldI e en h k (by omega)
  obtain ⟨x,hx⟩ : ∃ x,en.lv[k]? = some x:=⟨_,List.getElem?_eq_getElem (by omega)⟩
  have hs:=foldA_succ e en k x hx
  unfold stepA at hs
  by_cases he : endsB e x = true
  ·rw [if_pos he] at hs
   have hnew : ∀ y ∈ (foldA e en k).2,dT y ≠ dT (x,e.dot):=fun y hy hd=>by
    rcases ih.dsub y hy with h1 | ⟨j,x',h1,h2,h3,h4⟩
    ·exact h.ap x (List.mem_of_getElem? hx) y h1 hd.symm
    ·have:=lv_inj h h2 hx (h4.symm.trans hd)
     omega
   have hl : (foldA e en (k + 1)).1 = delD dE (foldA e en k).1 x.dot:=by rw [hs]
   have hd : (foldA e en (k + 1)).2 = if x.op.kind = 9 then insD dT (foldA e en k).2 (x,e.dot) else (foldA e en k).2:=by rw [hs]
   refine ⟨by rw [hl]; exact delD_rise ih.lr _,?_,fun y hy=>?_,fun j y hj hy=>?_,fun y hy=>?_,?_⟩
   ·rw [hd]
    split
    ·exact insD_rise ih.dr hnew
    ·exact ih.dr
   ·rw [hl,delD_mem] at hy; exact ih.lsub y hy.1
   ·rw [hl,delD_mem]
    exact ⟨ih.rest j y (by omega) hy,fun hdy=>by have:=lv_inj h hy hx hdy; omega⟩
   ·have hno : x ∉ (foldA e en (k + 1)).1:=fun hm=>by rw [hl,delD_mem] at hm; exact hm.2 rfl
    have hmono : ∀ z,z ∉ (foldA e en k).1→z ∉ (foldA e en (k + 1)).1:=fun z hz hm=>by rw [hl,delD_mem] at hm; exact hz hm.1
    have old : y ∈ (foldA e en k).2→y ∈ en.dd ∨ ∃ (j : Nat) (x : Ev),j < k + 1∧en.lv[j]? = some x∧x ∉ (foldA e en (k + 1)).1∧dT y = x.dot:=fun hy=>by
     rcases ih.dsub y hy with h1 | ⟨j,x',h1,h2,h3,h4⟩
     ·exact .inl h1
     ·exact .inr ⟨j,x',by omega,h2,hmono x' h3,h4⟩
    rw [hd] at hy
    split at hy
    ·rcases (insD_mem _ _ _ _).1 hy with rfl | hy
     ·exact .inr ⟨k,x,by omega,hx,hno,rfl⟩
     ·exact old hy
    ·exact old hy
   ·rw [hd]
    have:=ih.dlen
    split
    ·rw [insD_len]; omega
    ·omega
  ·rw [if_neg he] at hs
   rw [show FoldI e en (k + 1) = FoldI e en (k + 1) from rfl]
   refine ⟨by rw [hs]; exact ih.lr,by rw [hs]; exact ih.dr,by rw [hs]; exact ih.lsub,fun j y hj hy=>by rw [hs]; exact ih.rest j y (by omega) hy,fun y hy=>?_,by rw [hs]; have:=ih.dlen; omega⟩
   rw [hs] at hy ⊢
   rcases ih.dsub y hy with h1 | ⟨j,x',h1,h2,h3,h4⟩
   ·exact .inl h1
   ·exact .inr ⟨j,x',by omega,h2,h3,h4⟩
theorem delD_len {α : Type} (d : α→Dt) (l : List α) (x : Dt) : (delD d l x).length ≤ l.length:=List.length_filter_le _ _
theorem foldA_len (e : Ev) (en : Ent) : ∀ k,k ≤ en.lv.length→(foldA e en k).1.length ≤ en.lv.length
 | 0,_=>Nat.le_refl _
 | k + 1,hk=>by
  obtain ⟨x,hx⟩ : ∃ x,en.lv[k]? = some x:=⟨_,List.getElem?_eq_getElem (by omega)⟩
  rw [foldA_succ e en k x hx]
  have:=foldA_len e en k (by omega)
  unfold stepA
  split
  ·exact Nat.le_trans (delD_len _ _ _) this
  ·exact this
noncomputable def Sp.idx (σ : Sp) (key : ByteArray) : Nat:=(σ.at key).ks.findIdx fun k=>@decide (k = key) (Classical.propDecidable _)
def EntD : Ent:=⟨[],[]⟩
def Sp.app (σ : Sp) (i : Nat) (e : Ev) : Sp:={ ks:=σ.ks,es:=σ.es.set i (applyE e ((σ.es[i]?).getD EntD)),vv:=vset σ.vv e.dot.R.toNat e.dot.N,tm:=max σ.tm e.time }
end Go.Proofs.Ytdnaadcbimbfmaa
namespace Go.Proofs.Ytdnaadcbimbfmaa
open Go Go.RowKit Am
theorem loop_by {P : Program} {c : Code} {R : Exit→Act→World→Prop} {a : Act} {w : World} (I : Nat→Act→World→Prop) (μ : Nat→Nat) (i0 : Nat) (h0 : I i0 a w)
  (hs : ∀ i a w,I i a w→c.wp P (fun e a' w'=>match e with | .normal=>∃ j,I j a' w'∧μ j < μ i | e=>R e a' w') a w) : (Code.loop c).wp P R a w:=by
 have key : ∀ (n i : Nat) (a : Act) (w : World),I i a w→μ i < n→Code.rounds P c R n a w:=by
  intro n
  induction n with
  | zero=>intro i a w _ h; omega
  | succ n ih =>
   intro i a w hI hn
   rw [rounds_succ]
   refine wp_mono (hs i a w hI) fun e a' w' h=>?_
   cases e with
   | normal=>obtain ⟨j,hj,hm⟩:=h; exact ih j a' w' hj (by omega)
   | _=>exact h
 exact wp_loop_rounds (μ i0 + 1) (key _ i0 a w h0 (by omega))
structure AS (n : Nat) (w0 : World) (L0 : Lay) (p : Nat) (sl : List (Nat × AV)) (S : Nat→Prop) (L : Lay) (σ : Sp) (mv : Value) (a : Act) (w : World) : Prop where
 hi : HI n sl S a w
 sp : SpAt w L p σ mv
 ap : ∀ g,S g→L.o g = none
 kp : Kp L0.dom w0 w
 ex : Ext L0 L w0.heap.size
variable {n p : Nat} {w0 w w' : World} {L0 L L' : Lay} {sl sl' : List (Nat × AV)} {S S' : Nat→Prop} {σ σ' : Sp} {mv mv' : Value} {a a' : Act}
theorem AS.gr (h : AS n w0 L0 p sl S L σ mv a w) (h' : HI n sl' S' a' w') (hg : Gr w S w' S') : AS n w0 L0 p sl' S' L σ mv a' w' :=
 ⟨h',h.sp.below hg.below,fun g hs=>by
  rcases hg.new g hs with h1 | h1
  ·exact h.ap g h1
  ·cases ho : L.o g with
   | none=>rfl
   | some t=>have:=h.sp.dom g t ho; omega,h.kp.trans (Kp.of (U:=L0.dom) hg.below) (fun g hd=>.inl hd),h.ex⟩
theorem AS.wr (h : AS n w0 L0 p sl S L σ mv a w) (hs : SpAt w' L' p σ' mv') (hk : Kp L.dom w w') (hx : Ext L L' w.heap.size) : AS n w0 L0 p sl S L' σ' mv' a w' :=
 ⟨h.hi.out (hk.same h.hi.lt fun g hg hd=>hd (h.ap g hg)) hk.size,hs,fun g hg=>by
  cases ho : L'.o g with
  | none=>rfl
  | some t =>
   rcases hx.new g (by rw [ho]; simp) with h1 | h1
   ·exact absurd (h.ap g hg) h1
   ·have:=h.hi.lt g hg; omega,h.kp.trans hk (fun g hd=>h.ex.new g hd),h.ex.trans hx h.kp.size⟩
theorem AS.bw (h : AS n w0 L0 p sl S L σ mv a w) (hb : Below w.heap.size w w') : AS n w0 L0 p sl S L σ mv a w':=h.wr (h.sp.below hb) (Kp.of hb) (Ext.refl _ _)
theorem AS.put (h : AS n w0 L0 p sl S L σ mv a w) {d : Nat} (hd : d < n) (x : AV) {v : Value} (hv : SRep w S (fun _=>.bool true) [] x v) : AS n w0 L0 p ((d,x) :: sl) S L σ mv (a.put (some d) v) w:=⟨h.hi.put hd x hv,h.sp,h.ap,h.kp,h.ex⟩
theorem AS.sub (h : AS n w0 L0 p sl S L σ mv a w) (hs : ∀ t x,lk t sl' = some x→lk t sl = some x) : AS n w0 L0 p sl' S L σ mv a w:=⟨h.hi.sub hs,h.sp,h.ap,h.kp,h.ex⟩
theorem AS.val (h : AS n w0 L0 p sl S L σ mv a w) {t : Nat} {v : Value} (ht : lk t sl = some (.v v)) : a.eval (.tmp t) = v:=srep_v (h.hi.slots t _ ht).2
theorem AS.pc {E : En} {c : Code} {R : Exit→Act→World→Prop} (sl' : List (Nat × AV)) (h : AS E.n w0 L0 p sl S L σ mv a w) (hsl : (sl'.all fun q=>fzA q.2) = true)
  (hw : ∀ (F : Sy) (C : Key→List AV→Res→Prop) (D : Code→(AE→St→Prop)→St→Prop),F = sy→(∀ k ar r,CSem Try.prog k ar r→C k ar r)→awp F C D E c (fun e s=>match e with | .normal=>∃ ct,Le s { slots:=sl',obs:=[],ctr:=ct } | _=>False) { slots:=sl,obs:=[],ctr:=0 })
  (k : ∀ S' a' w',AS E.n w0 L0 p sl' S' L σ mv a' w'→R .normal a' w') : c.wp Try.prog R a w :=
 Ytdnaadcbimbfmaa.pc sl' h.hi (fun q hq=>List.all_eq_true.1 hsl q hq) hw fun S' a' w' h1 h2=>k S' a' w' (h.gr h1 h2)
theorem AS.pcl {E : En} {ops : Array Oper} {rest : List Oper} {R : Exit→Act→World→Prop} (sl' : List (Nat × AV)) (h : AS E.n w0 L0 p sl S L σ mv a w) (hsl : (sl'.all fun q=>fzA q.2) = true)
  (hw : ∀ (F : Sy) (C : Key→List AV→Res→Prop),F = sy→(∀ k ar r,CSem Try.prog k ar r→C k ar r)→aops F C E ops.toList rest (fun s=>∃ ct,Le s { slots:=sl',obs:=[],ctr:=ct }) { slots:=sl,obs:=[],ctr:=0 })
  (k : ∀ S' a' w',AS E.n w0 L0 p sl' S' L σ mv a' w'→R .normal a' w') : wpList Try.prog ops R rest a w :=
 Ytdnaadcbimbfmaa.pcl sl' h.hi (fun q hq=>List.all_eq_true.1 hsl q hq) hw fun S' a' w' h1 h2=>k S' a' w' (h.gr h1 h2)
theorem wpList_pre {P : Program} {ops : Array Oper} {Q : Exit→Act→World→Prop} {l : List Oper} {a : Act} {w : World} (k : Nat) (h : wpList P ops (thenL P ops Q (l.drop k)) (l.take k) a w) : wpList P ops Q l a w:=by
 have:=wpList_app h
 rwa [List.take_append_drop] at this
theorem AS.pre {E : En} {ops : Array Oper} {l : List Oper} {R : Exit→Act→World→Prop} (m : Nat) (sl' : List (Nat × AV)) (h : AS E.n w0 L0 p sl S L σ mv a w) (hsl : (sl'.all fun q=>fzA q.2) = true)
  (hw : ∀ (F : Sy) (C : Key→List AV→Res→Prop),F = sy→(∀ k ar r,CSem Try.prog k ar r→C k ar r)→aops F C E ops.toList (l.take m) (fun s=>∃ ct,Le s { slots:=sl',obs:=[],ctr:=ct }) { slots:=sl,obs:=[],ctr:=0 })
  (k : ∀ S' a' w',AS E.n w0 L0 p sl' S' L σ mv a' w'→wpList Try.prog ops R (l.drop m) a' w') : wpList Try.prog ops R l a w :=
 wpList_pre m (h.pcl sl' hsl hw fun S' a' w' h'=>k S' a' w' h')
theorem AS.start {xs : List Value} {args : List AV} (ha : a.tmps.size = n) (hd : a.defers = []) (hsp : SpAt w L p σ mv) (hsl : ∀ t x,lk t sl = some x→t < n∧SRep w (fun _=>False) (fun _=>.bool true) [] x (a.tmps.getD t undef)) : AS n w L p sl (fun _=>False) L σ mv a w :=
 ⟨⟨ha,hd,fun g h=>h.elim,gd_all _ _,hsl⟩,hsp,fun g h=>h.elim,Kp.refl _ _,Ext.refl _ _⟩
end Go.Proofs.Ytdnaadcbimbfmaa
namespace Go.Proofs.Ytdnaadcbimbfmaa
open Go Go.RowKit Am
def mapA (σ : Sp) : AV:=match σ.ks with | []=>.v (.map none) | _=>.mp σ.ks (σ.es.map fun en=>.ept [.sl (en.lv.map itE),.sl (en.dd.map itT)] 0)
theorem EntAt.rep {w : World} {o : Nat→Option Tag} {i : Nat} {en : Ent} {a : Nat} {v u : Value} {S : Nat→Prop} (h : EntAt w o i en a v u) (hS : ∀ g,o g ≠ none→S g) : RepC w S (.ept [.sl (en.lv.map itE),.sl (en.dd.map itT)] 0) (.pointer (some ⟨a,0,none⟩)):=by
 have h1 : RepC w S (.sl (en.lv.map itE)) v:=repc_of_own (B:=0) (e:=65) (sz:=28) (zs:=(en.lv.map itvE).flatten) (by rw [List.length_map]; exact OwnR.of h.lv) (repl_rows itvE_ac itvE_one _) (fun r hr=>by obtain ⟨a,_,rfl⟩:=List.mem_map.1 hr; rfl) (fun g hg=>hS g (by rw [h.ol g hg]; simp))
 have h2 : RepC w S (.sl (en.dd.map itT)) u:=repc_of_own (B:=0) (e:=72) (sz:=30) (zs:=(en.dd.map itvT).flatten) (by rw [List.length_map]; exact OwnR.of h.dd) (repl_rows itvT_ac itvT_one _) (fun r hr=>by obtain ⟨a,_,rfl⟩:=List.mem_map.1 hr; rfl) (fun g hg=>hS g (by rw [h.od g hg]; simp))
 have:=CellsAt.repc (w:=w) (S:=S) (a:=⟨a,0,none⟩) (cs:=[.sl (en.lv.map itE),.sl (en.dd.map itT)]) ⟨hS a (by rw [h.oa]; simp),fun j x hx=>?_⟩ 0
 ·simpa [Addr.add_lit] using this
 ·match j with
  | 0=>injection hx with hx; subst hx; exact ⟨v,by rw [Addr.add_lit,cell_of_row _ _ _ _ _ _ h.at']; rfl,h1⟩
  | 1=>injection hx with hx; subst hx; exact ⟨u,by rw [Addr.add_lit,cell_of_row _ _ _ _ _ _ h.at']; rfl,h2⟩
  | j + 2=>simp at hx
theorem SpAt.rep {w : World} {L : Lay} {p : Nat} {σ : Sp} {mv : Value} {S : Nat→Prop} (h : SpAt w L p σ mv) (hS : ∀ g,L.o g ≠ none→S g) : Rep w S (.ept (spA (mapA σ) σ.vv σ.tm) 0) (.pointer (some ⟨p,0,none⟩)):=by
 have hm : RepC w S (mapA σ) mv:=by
  unfold mapA
  rcases h.mp with ⟨rfl,h1⟩ | ⟨h0,m,es,clock,rfl,hm⟩
  ·rw [h1]; exact .v _ rfl
  ·have hel : es.toList.length = σ.ks.length:=by have:=congrArg List.length hm.keys; simpa using this
   have : RepC w S (.mp σ.ks (σ.es.map fun en=>.ept [.sl (en.lv.map itE),.sl (en.dd.map itT)] 0)) (.map (some m)):=.mp _ _ es clock m (hS m (by rw [hm.om]; simp)) hm.at' hm.keys (by rw [List.length_map]; exact h.len) hm.nd hm.bd fun i u e hu he=>by
    rw [List.getElem?_map] at hu
    obtain ⟨en,hen,rfl⟩:=Option.map_eq_some_iff.1 hu
    obtain ⟨q1,v,u,q2⟩:=hm.ents i e en he hen
    rw [q1]
    exact q2.rep hS
   split
   ·rename_i hk; exact absurd hk h0
   ·exact this
 have hl:=RepL.cons hm (repl_map_v (w:=w) (S:=S) (vvs σ.vv ++ #[vI σ.tm]).toList (List.all_eq_true.1 (show ((vvs σ.vv ++ #[vI σ.tm]).toList).all (fun v=>v.oneCell') = true from rfl)))
 have:=Rep.ept (w:=w) (S:=S) (a:=⟨p,0,none⟩) (cs:=spA (mapA σ) σ.vv σ.tm) (off:=0) ⟨hS p (by rw [h.op]; simp),fun j x hx=>?_⟩
 ·simpa [Addr.add_lit] using this
 ·obtain ⟨y,hy,hr⟩:=RepL.get (show RepL w S (spA (mapA σ) σ.vv σ.tm) (mv :: (vvs σ.vv ++ #[vI σ.tm]).toList) from hl) hx
  refine ⟨y,?_,hr⟩
  rw [Addr.add_lit,cell_of_row _ _ _ _ _ _ h.at',Nat.zero_add]
  have : (spV mv σ.vv σ.tm).toList[j]? = some y:=hy
  simpa using this
theorem rep_ev {w : World} {S : Nat→Prop} (e : Ev) : Rep w S (.agg e.ac) (.agg e.vs):=.agg (xs:=e.vs.toList) (repl_map_v e.vs.toList (List.all_eq_true.1 (show (e.vs.toList).all (fun v=>v.oneCell') = true from rfl)))
theorem readyW {w : World} {L : Lay} {p : Nat} {σ : Sp} {mv : Value} (h : SpAt w L p σ mv) (hvv : vrightP σ.vv) (e : Ev) (r : Bool) (hr : r = true ↔ ReadyP σ.vv e) : Calls Try.prog 11 #[.pointer (some ⟨p,0,none⟩),.agg e.vs] w fun x w'=>x = .returned (.bool r)∧Below w.heap.size w w':=by
 refine ((ready_ok (mapA σ) σ.vv σ.tm hvv e r hr).2 w L.dom _ (fun g hg=>?_) (gd_all _ _) (Reps.cons (h.rep fun g hg=>hg) (Reps.cons (rep_ev e) (Reps.nil _ _)))).mono fun x w' hh=>?_
 ·cases ho : L.o g with
  | none=>exact absurd ho hg
  | some t=>exact h.dom g t ho
 ·obtain ⟨y,S',rfl,hg,ys,rfl,hys⟩:=hh
  obtain ⟨z,zs,rfl,h1,hys⟩:=hys.uncons
  have:=hys.unnil
  subst this
  rw [rep_v h1]
  exact ⟨rfl,hg.below⟩
theorem act2 (x y : Value) (n : Nat) (hn : 2 ≤ n) (a : Act) (h : a = { tmps:=(#[x,y] : Array Value) ++ Array.replicate (n - (#[x,y] : Array Value).size) undef,defers:=[] }) : a.tmps.size = n∧a.defers = []∧a.tmps.getD 0 undef = x∧a.tmps.getD 1 undef = y:=by
 subst h
 refine ⟨by simp; omega,rfl,by simp [Array.getD],by simp [Array.getD]; omega⟩
theorem xvone (e : Ev) : ∀ v ∈ e.vs.toList,v.oneCell' = true:=List.all_eq_true.1 (show (e.vs.toList).all (fun v=>v.oneCell') = true from rfl)
theorem repl_rows_uniq {w : World} {S : Nat→Prop} {α : Type} {it : α→List AV} {iv : α→List Value} (h : ∀ a,it a = (iv a).map .v) (l : List α) {zs : List Value} (hr : RepL w S (l.map it).flatten zs) : zs = (l.map iv).flatten:=by
 have : (l.map it).flatten = ((l.map iv).flatten).map .v:=by
  clear hr
  induction l with
  | nil=>rfl
  | cons a l ih=>rw [List.map_cons,List.flatten_cons,List.map_cons,List.flatten_cons,List.map_append,ih,h]
 rw [this] at hr
 exact repl_v _ _ hr
theorem itemsEW {w : World} {b off : Nat} {v : Value} {l : List ElE} (h : BagAt w 65 28 b off v l.length (l.map itvE).flatten) (hl : l.length ≤ 1000000) : Calls Try.prog 21 #[.pointer (some ⟨b,off,none⟩)] w fun r w'=>∃ z,r = .returned z∧Below w.heap.size w w'∧OwnR w' w.heap.size 65 28 z l.length (l.map itvE).flatten:=by
 refine ((itemsE_ok (l.map itE) (by rw [List.length_map]; exact hl) (fun r hr=>by obtain ⟨a,_,rfl⟩:=List.mem_map.1 hr; rfl)).2 w (fun g=>g = b ∨ v.ownBlock = some g) _ (fun g hg=>?_) (gd_all _ _) (Reps.cons (h.rep itvE_ac itvE_one itE_len (.inl rfl) fun g hg=>.inr hg) (Reps.nil _ _))).mono fun r w' hh=>?_
 ·rcases hg with rfl | hg
  ·exact h.lt
  ·exact h.blk g hg
 ·obtain ⟨y,S',rfl,hg,z,ys,zs,rfl,hown,hrep,_,_,hys,_⟩:=hh
  have:=hys.unnil
  subst this
  rw [repl_rows_uniq itvE_ac l hrep,List.length_map] at hown
  exact ⟨z,rfl,hg.below,hown⟩
theorem itemsTW {w : World} {b off : Nat} {v : Value} {l : List ElT} (h : BagAt w 72 30 b off v l.length (l.map itvT).flatten) (hl : l.length ≤ 1000000) : Calls Try.prog 24 #[.pointer (some ⟨b,off,none⟩)] w fun r w'=>∃ z,r = .returned z∧Below w.heap.size w w'∧OwnR w' w.heap.size 72 30 z l.length (l.map itvT).flatten:=by
 refine ((itemsT_ok (l.map itT) (by rw [List.length_map]; exact hl) (fun r hr=>by obtain ⟨a,_,rfl⟩:=List.mem_map.1 hr; rfl)).2 w (fun g=>g = b ∨ v.ownBlock = some g) _ (fun g hg=>?_) (gd_all _ _) (Reps.cons (h.rep itvT_ac itvT_one itT_len (.inl rfl) fun g hg=>.inr hg) (Reps.nil _ _))).mono fun r w' hh=>?_
 ·rcases hg with rfl | hg
  ·exact h.lt
  ·exact h.blk g hg
 ·obtain ⟨y,S',rfl,hg,z,ys,zs,rfl,hown,hrep,_,_,hys,_⟩:=hh
  have:=hys.unnil
  subst this
  rw [repl_rows_uniq itvT_ac l hrep,List.length_map] at hown
  exact ⟨z,rfl,hg.below,hown⟩
theorem AS.row {n p : Nat} {w0 w w' : World} {L0 L : Lay} {sl : List (Nat × AV)} {S : Nat→Prop} {σ : Sp} {mv : Value} {a : Act} {α : Type} {it : α→List AV} {iv : α→List Value} {ety sz d : Nat} {z : Value} {l : List α} (h : AS n w0 L0 p sl S L σ mv a w) (hb : Below w.heap.size w w') (ho : OwnR w' w.heap.size ety sz z l.length (l.map iv).flatten) (hit : ∀ a,it a = (iv a).map .v) (h1 : ∀ a,∀ v ∈ iv a,v.oneCell' = true) (hl : ∀ a,(it a).length = sz) (hd : d < n) :
  ∃ S',AS n w0 L0 p ((d,.sl (l.map it)) :: sl) S' L σ mv (a.put (some d) z) w':=by
 have hbw:=h.bw hb
 have hlt : ∀ g,z.ownBlock = some g→w.heap.size ≤ g∧g < w'.heap.size:=fun g hg=>ho.lt g hg
 have hi' : HI n sl (fun g=>S g ∨ z.ownBlock = some g) a w':=⟨hbw.hi.size,hbw.hi.defers,fun g hg=>hg.elim (hbw.hi.lt g) fun e=>(hlt g e).2,gd_all _ _,fun t x ht=>by
  obtain ⟨q1,q2⟩:=hbw.hi.slots t x ht
  exact ⟨q1,srep_mono (fun _ _=>rfl) (fun g hg=>.inl hg) q2⟩⟩
 have hrc : RepC w' (fun g=>S g ∨ z.ownBlock = some g) (.sl (l.map it)) z:=repc_of_own (B:=w.heap.size) (e:=ety) (sz:=sz) (zs:=(l.map iv).flatten) (by rw [List.length_map]; exact ho) (repl_rows hit h1 l) (fun r hr=>by obtain ⟨a,_,rfl⟩:=List.mem_map.1 hr; exact hl a) fun g hg=>.inr hg
 refine ⟨fun g=>S g ∨ z.ownBlock = some g,hi'.put hd _ (srep_of_rep (.c hrc)),hbw.sp,fun g hg=>hg.elim (hbw.ap g) fun e=>?_,hbw.kp,hbw.ex⟩
 cases hog : L.o g with
 | none=>rfl
 | some t=>have:=h.sp.dom g t hog; have:=(hlt g e).1; omega
end Go.Proofs.Ytdnaadcbimbfmaa
namespace Go.Proofs.Ytdnaadcbimbfmaa
open Go Go.RowKit Am Go.ChangeShapes Go.WideShapes Go.ChangeAt
theorem own : ownKnob Try.prog.godebug = none:=by kernel_rfl
theorem laidOut : laidOutB Try.prog = true:=by kernel_rfl
abbrev AllB (w : World) : Nat→Prop:=fun g=>g < w.heap.size
theorem law_calls {f : Nat} {args : List AV} (h : CSem Try.prog (.fn f) args (.pure [aB true])) (W : World) (xs : List Value) (hr : Reps W (AllB W) args xs) :
  Calls Try.prog f xs.toArray W fun e W'=>e = .returned (.bool true)∧Below W.heap.size W W':=by
 refine (h.2 W (AllB W) xs (fun _ h=>h) (gd_all _ _) hr).mono fun e W' hh=>?_
 obtain ⟨y,S',rfl,hg,ys,rfl,hys⟩:=hh
 obtain ⟨z,zs,rfl,h1,h2⟩:=hys.uncons
 have:=h2.unnil
 subst this
 cases h1 with
 | c h=>cases h; exact ⟨rfl,hg.below⟩
end Go.Proofs.Ytdnaadcbimbfmaa
namespace Go.Proofs.Ytdnaadcbimbfmaa
open Go Go.RowKit Am
def swap1 (r : List (List AV)) (i j : Nat) : List (List AV):=match r[i]?,r[j]? with
 | some x,some y=>(r.set i y).set j x
 | _,_=>r
def swapF (r : List (List AV)) (a b : Nat) : Nat→List (List AV)
 | 0=>r
 | n + 1=>swap1 (swapF r a b n) (a + n) (b + n)
theorem swap1_len (r : List (List AV)) (i j : Nat) : (swap1 r i j).length = r.length:=by
 unfold swap1; split <;> simp
theorem swapF_len (r : List (List AV)) (a b n : Nat) : (swapF r a b n).length = r.length:=by
 induction n with
 | zero=>rfl
 | succ n ih=>simp [swapF,swap1_len,ih]
theorem swap1_mem (r : List (List AV)) (i j : Nat) {x : List AV} (h : x ∈ swap1 r i j) : x ∈ r:=by
 unfold swap1 at h
 split at h
 ·rename_i a b ha hb
  rcases List.mem_or_eq_of_mem_set h with h | h
  ·rcases List.mem_or_eq_of_mem_set h with h | h
   ·exact h
   ·subst h; exact List.mem_of_getElem? hb
  ·subst h; exact List.mem_of_getElem? ha
 ·exact h
theorem swapF_mem (r : List (List AV)) (a b n : Nat) {x : List AV} (h : x ∈ swapF r a b n) : x ∈ r:=by
 induction n with
 | zero=>exact h
 | succ n ih=>exact ih (swap1_mem _ _ _ h)
theorem swapRange_ok (rows : List (List AV)) (a b n : Nat) (a' b' n' : Int) (ea : a' = (a : Int)) (eb : b' = (b : Int)) (en : n' = (n : Int)) (ha : a + n ≤ rows.length) (hb : b + n ≤ rows.length) (hlen : rows.length ≤ 1000000000) (hr : ∀ r ∈ rows,r.length = 26) (rows' : List (List AV)) (hrows' : rows' = swapF rows a b n) :
  CSem Try.prog (.wr 115 [(0,.row 37 26 rows 0 0)] [(0,.row 37 26 rows' 0 0)]) [.own 0 0,aI a',aI b',aI n',.clo 105 []] (.pure []):=by
 refine of_textW gam_ok mixed { n:=38 } Try.func115 (by kernel_rfl) rfl rfl (by simp) (by decide) rfl fun F C D hF hC hD=>?_
 cbv
 refine ⟨Nat × Int × List (List AV),fun x=>{ slots:=[(10,aI x.2.1),(0,.own 0 0),(1,aI a'),(2,aI b'),(3,aI n'),(4,.clo 105 [])],obs:=[(0,.row 37 26 x.2.2 0 0)],ctr:=5,par:=5 },fun x=>x.2.1 = (x.1 : Int)∧x.1 ≤ n∧x.2.2 = swapF rows a b x.1,fun x=>n - x.1,⟨(0,0,rows),⟨rfl,Nat.zero_le _,rfl⟩,le_of [] (by simp [leSl,leOb,injK,memK,parK,noTup,lk,rn0,rnA,plain,aI])⟩,fun x hx=>?_⟩
 obtain ⟨i,i',r⟩:=x
 obtain ⟨hi0,hin,hri⟩:=hx
 simp only at hi0 hin hri
 have hrl : r.length = rows.length:=by rw [hri,swapF_len]
 cbv
 refine ⟨fun h=>?_,fun h=>?_⟩ <;> cbv
 ·refine ⟨hC _ _ _ (ben_ok (by kernel_rfl)),?_⟩
  have ea : a' = (a : Int):=ea
  have eb : b' = (b : Int):=eb
  have en : n' = (n : Int):=en
  have hi0 : i' = (i : Int):=hi0
  have hin' : i < n:=by rw [hF] at h; simp [sy] at h; omega
  obtain ⟨kb,hkb⟩ : ∃ kb,kb = b + i:=⟨_,rfl⟩
  obtain ⟨ka,hka⟩ : ∃ ka,ka = a + i:=⟨_,rfl⟩
  have eb2 : F .ar .add .i64 b' i' = (kb : Int):=by rw [hF]; exact (wrap_in (by omega) (by omega)).trans (by omega)
  have ea2 : F .ar .add .i64 a' i' = (ka : Int):=by rw [hF]; exact (wrap_in (by omega) (by omega)).trans (by omega)
  have ei : F .ar .add .i64 i' 1 = ((i + 1 : Nat) : Int):=by rw [hF]; exact (wrap_in (by omega) (by omega)).trans (by omega)
  have hlb : kb < r.length:=by omega
  have hla : ka < r.length:=by omega
  obtain ⟨cb,hcb⟩ : ∃ cb,r[kb]? = some cb:=⟨_,List.getElem?_eq_getElem hlb⟩
  obtain ⟨ca,hca⟩ : ∃ ca,r[ka]? = some ca:=⟨_,List.getElem?_eq_getElem hla⟩
  have hlca : ca.length = 26:=hr _ (swapF_mem _ _ _ _ (hri ▸ List.mem_of_getElem? hca))
  have hlcb : cb.length = 26:=hr _ (swapF_mem _ _ _ _ (hri ▸ List.mem_of_getElem? hcb))
  cbv
  refine ⟨kb,cb,eb2,hcb,?_⟩
  cbv
  refine ⟨ka,ca,ea2,hca,?_⟩
  cbv
  refine ⟨ka,ca,ea2,hca,?_⟩
  cbv
  refine ⟨.mk hlcb,?_⟩
  cbv
  obtain ⟨r2,hr2⟩ : ∃ r2,F .set r ka cb = r2:=⟨_,rfl⟩
  rw [hr2]
  have er2 : r2 = r.set ka cb:=by rw [← hr2,hF]; rfl
  obtain ⟨c2,hc2⟩ : ∃ c2,r2[kb]? = some c2:=⟨_,List.getElem?_eq_getElem (by rw [er2]; simpa using hlb)⟩
  refine ⟨kb,c2,eb2,hc2,?_⟩
  cbv
  refine ⟨.mk hlca,?_⟩
  cbv
  obtain ⟨r3,hr3⟩ : ∃ r3,F .set r2 kb ca = r3:=⟨_,rfl⟩
  rw [hr3]
  have er3 : r3 = r2.set kb ca:=by rw [← hr3,hF]; rfl
  have e3 : r3 = swapF rows a b (i + 1):=by
   rw [swapF,← hri,← hka,← hkb,er3,er2]
   simp [swap1,hca,hcb]
  obtain ⟨j,hj⟩ : ∃ j,F .ar .add .i64 i' 1 = j:=⟨_,rfl⟩
  rw [hj]
  exact ⟨(i + 1,j,r3),⟨by rw [← hj]; exact ei,by omega,e3⟩,by simp; omega,Le.trans le_fresh (le_of [] (by simp [St.fresh,freshObs,Ob.fresh,mapS,killR,relT,leSl,leOb,injK,memK,parK,noTup,lk,rn0,rnA,plain]))⟩
 ·have en : n' = (n : Int):=en
  have hi0 : i' = (i : Int):=hi0
  rw [hF] at h
  simp [sy] at h
  have : i = n:=by omega
  subst this
  exact ⟨⟨hri.trans hrows'.symm,trivial⟩,trivial⟩
end Go.Proofs.Ytdnaadcbimbfmaa
namespace Go.Proofs.Ytdnaadcbimbfmaa
open Go Go.RowKit Am
theorem swapF_get (r : List (List AV)) (a b : Nat) : ∀ (n : Nat),a + n ≤ b→b + n ≤ r.length→∀ k,(swapF r a b n)[k]? = if a ≤ k∧k < a + n then r[k - a + b]? else if b ≤ k∧k < b + n then r[k - b + a]? else r[k]?:=by
 intro n
 induction n with
 | zero=>intro _ _ k; simp only [swapF]; rw [if_neg (by omega),if_neg (by omega)]
 | succ n ih =>
  intro h1 h2 k
  have ih:=ih (by omega) (by omega)
  have e1 : (swapF r a b n)[a + n]? = r[a + n]?:=by rw [ih,if_neg (by omega),if_neg (by omega)]
  have e2 : (swapF r a b n)[b + n]? = r[b + n]?:=by rw [ih,if_neg (by omega),if_neg (by omega)]
  have ha : a + n < r.length:=by omega
  have hb : b + n < r.length:=by omega
  have hl:=swapF_len r a b n
  rw [List.getElem?_eq_getElem ha] at e1
  rw [List.getElem?_eq_getElem hb] at e2
  simp only [swapF,swap1,e1,e2,List.getElem?_set,List.length_set,hl]
  by_cases hk : b + n = k
  ·subst hk
   rw [if_pos rfl,if_pos hb,if_neg (by omega),if_pos (by omega),show b + n - b + a = a + n by omega,List.getElem?_eq_getElem ha]
  ·rw [if_neg hk]
   by_cases hk2 : a + n = k
   ·subst hk2
    rw [if_pos rfl,if_pos ha,if_pos (by omega),show a + n - a + b = b + n by omega,List.getElem?_eq_getElem hb]
   ·rw [if_neg hk2]
    have i:=ih k
    by_cases c1 : a ≤ k∧k < a + n
    ·rw [if_pos c1] at i
     rw [i,if_pos (by omega)]
    ·rw [if_neg c1] at i
     by_cases c2 : b ≤ k∧k < b + n
     ·rw [if_pos c2] at i
      rw [i,if_neg (by omega),if_pos (by omega)]
     ·rw [if_neg c2] at i
      rw [i,if_neg (by omega),if_neg (by omega)]
theorem swapF_mid (P X M Y Q : List (List AV)) (a b n : Nat) (ha : a = P.length) (hx : X.length = n) (hy : Y.length = n) (hb : b = P.length + n + M.length) : swapF (P ++ (X ++ (M ++ (Y ++ Q)))) a b n = P ++ (Y ++ (M ++ (X ++ Q))):=by
 subst ha hb
 apply List.ext_getElem?
 intro k
 rw [swapF_get _ _ _ _ (by omega) (by simp; omega)]
 simp only [List.getElem?_append]
 (repeat' split) <;> first | rfl | (exfalso; omega) | (congr 1; omega)
end Go.Proofs.Ytdnaadcbimbfmaa
namespace Go.Proofs.Ytdnaadcbimbfmaa
open Go Go.RowKit Am
def RotI (goal : List (List AV)) (m : Nat) (i j : Nat) (r : List (List AV)) : Prop :=
 ∃ P X Y Q : List (List AV),r = P ++ (X ++ (Y ++ Q))∧goal = P ++ (Y ++ (X ++ Q))∧P.length + i = m∧X.length = i∧Y.length = j∧0 < i∧0 < j
theorem rot_gt {goal r : List (List AV)} {m i j : Nat} (h : RotI goal m i j r) (hij : j < i) : RotI goal m (i - j) j (swapF r (m - i) m j)∧m + j ≤ r.length∧i ≤ m:=by
 obtain ⟨P,X,Y,Q,rfl,hg,h1,h2,h3,h4,h5⟩:=h
 have hx : X = X.take j ++ X.drop j:=(List.take_append_drop j X).symm
 have e : P ++ (X ++ (Y ++ Q)) = P ++ (X.take j ++ (X.drop j ++ (Y ++ Q))):=by rw [← List.append_assoc (X.take j),← hx]
 have hl : (X.take j).length = j:=by simp; omega
 refine ⟨⟨P ++ Y,X.drop j,X.take j,Q,?_,?_,by simp; omega,by simp; omega,hl,by omega,h5⟩,by simp; omega,by omega⟩
 ·rw [e,swapF_mid P (X.take j) (X.drop j) Y Q (m - i) m j (by omega) hl h3 (by simp; omega)]
  simp
 ·rw [hg]
  simp only [List.append_assoc]
  rw [← List.append_assoc (X.take j),List.take_append_drop]
theorem rot_lt {goal r : List (List AV)} {m i j : Nat} (h : RotI goal m i j r) (hij : i < j) : RotI goal m i (j - i) (swapF r (m - i) (m + j - i) i)∧m + j ≤ r.length∧i ≤ m:=by
 obtain ⟨P,X,Y,Q,rfl,hg,h1,h2,h3,h4,h5⟩:=h
 have hy : Y = Y.take (j - i) ++ Y.drop (j - i):=(List.take_append_drop _ Y).symm
 have e : P ++ (X ++ (Y ++ Q)) = P ++ (X ++ (Y.take (j - i) ++ (Y.drop (j - i) ++ Q))):=by rw [← List.append_assoc (Y.take (j - i)),← hy]
 have hl : (Y.drop (j - i)).length = i:=by simp; omega
 refine ⟨⟨P,Y.drop (j - i),Y.take (j - i),X ++ Q,?_,?_,h1,hl,by simp; omega,h4,by omega⟩,by simp; omega,by omega⟩
 ·rw [e,swapF_mid P X (Y.take (j - i)) (Y.drop (j - i)) Q (m - i) (m + j - i) i (by omega) h2 hl (by simp; omega)]
 ·rw [hg]
  rw [← List.append_assoc (Y.take (j - i)),List.take_append_drop]
theorem rot_eq {goal r : List (List AV)} {m i : Nat} (h : RotI goal m i i r) : swapF r (m - i) m i = goal∧m + i ≤ r.length∧i ≤ m:=by
 obtain ⟨P,X,Y,Q,rfl,hg,h1,h2,h3,h4,h5⟩:=h
 refine ⟨?_,by simp; omega,by omega⟩
 have:=swapF_mid P X [] Y Q (m - i) m i (by omega) h2 h3 (by simp; omega)
 simp only [List.nil_append] at this
 rw [this,hg]
theorem rotate_ok (rows : List (List AV)) (a m b : Nat) (a' m' b' : Int) (ea : a' = (a : Int)) (em : m' = (m : Int)) (eb : b' = (b : Int)) (A U V B : List (List AV)) (hrows : rows = A ++ (U ++ (V ++ B))) (hA : A.length = a) (hU : a + U.length = m) (hV : m + V.length = b) (h0 : 0 < U.length) (h1 : 0 < V.length) (hlen : rows.length ≤ 1000000000) (hr : ∀ r ∈ rows,r.length = 26) (rows' : List (List AV)) (hrows' : rows' = A ++ (V ++ (U ++ B))) :
  CSem Try.prog (.wr 114 [(0,.row 37 26 rows 0 0)] [(0,.row 37 26 rows' 0 0)]) [.own 0 0,aI a',aI m',aI b',.clo 105 []] (.pure []):=by
 have hlens : rows.length = b + B.length:=by rw [hrows]; simp; omega
 have hrot : RotI rows' m (m - a) (b - m) rows:=⟨A,U,V,B,hrows,hrows',by omega,by omega,by omega,by omega,by omega⟩
 have hmem' : ∀ i j r,RotI rows' m i j r→r.length = rows.length∧∀ q ∈ r,q.length = 26:=by
  rintro i j r ⟨P,X,Y,Q,rfl,hg,_⟩
  have hp : (P ++ (X ++ (Y ++ Q))).Perm rows:=by
   have h2 : rows'.Perm rows:=by rw [hrows',hrows]; exact List.Perm.append_left _ (by rw [← List.append_assoc,← List.append_assoc]; exact List.Perm.append_right _ List.perm_append_comm)
   refine List.Perm.trans ?_ h2
   rw [hg]
   exact List.Perm.append_left _ (by rw [← List.append_assoc,← List.append_assoc]; exact List.Perm.append_right _ List.perm_append_comm)
  exact ⟨hp.length_eq,fun q hq=>hr q (hp.mem_iff.1 hq)⟩
 refine of_textW gam_ok mixed { n:=58,wrs:=[115] } Try.func114 (by kernel_rfl) rfl rfl (by simp) (by decide) rfl fun F C D hF hC hD=>?_
 have e1 : F .ar .sub .i64 m' a' = ((m - a : Nat) : Int):=by rw [hF]; exact (wrap_in (by omega) (by omega)).trans (by omega)
 have e2 : F .ar .sub .i64 b' m' = ((b - m : Nat) : Int):=by rw [hF]; exact (wrap_in (by omega) (by omega)).trans (by omega)
 obtain ⟨i0,hi0⟩ : ∃ i0,F .ar .sub .i64 m' a' = i0:=⟨_,rfl⟩
 obtain ⟨j0,hj0⟩ : ∃ j0,F .ar .sub .i64 b' m' = j0:=⟨_,rfl⟩
 rw [hi0] at e1
 rw [hj0] at e2
 cbv
 rw [hi0,hj0]
 refine ⟨Nat × Nat × Int × Int × List (List AV),fun x=>{ slots:=[(10,aI x.2.2.1),(11,aI x.2.2.2.1),(0,.own 0 0),(2,aI m'),(4,.clo 105 [])],obs:=[(0,.row 37 26 x.2.2.2.2 0 0)],ctr:=5,par:=5 },fun x=>x.2.2.1 = (x.1 : Int)∧x.2.2.2.1 = (x.2.1 : Int)∧RotI rows' m x.1 x.2.1 x.2.2.2.2,fun x=>x.1 + x.2.1,⟨(m - a,b - m,i0,j0,rows),⟨e1,e2,hrot⟩,le_of [] (by simp [leSl,leOb,injK,memK,parK,noTup,lk,rn0,rnA,plain,aI])⟩,fun x hx=>?_⟩
 obtain ⟨i,j,i',j',r⟩:=x
 obtain ⟨ei,ej,hri⟩:=hx
 simp only at ei ej hri
 obtain ⟨hrl,hrm⟩:=hmem' _ _ _ hri
 have em : m' = (m : Int):=em
 have es : ∀ k : Nat,k ≤ 1000000000→∀ l : Nat,l ≤ k→F .ar .sub .i64 (k : Int) (l : Int) = ((k - l : Nat) : Int):=fun k hk l hl=>by rw [hF]; exact (wrap_in (by omega) (by omega)).trans (by omega)
 have ep : ∀ k : Nat,k ≤ 1000000000→∀ l : Nat,l ≤ 1000000000→F .ar .add .i64 (k : Int) (l : Int) = ((k + l : Nat) : Int):=fun k hk l hl=>by rw [hF]; exact (wrap_in (by omega) (by omega)).trans (by omega)
 have hb : m ≤ 1000000000:=by have:=hlens; omega
 have hpos : 0 < i∧0 < j:=by obtain ⟨_,_,_,_,_,_,_,_,_,p1,p2⟩:=hri; exact ⟨p1,p2⟩
 have hgt : F .cmp .gtr i' j' = true→j < i:=fun g=>by rw [hF] at g; simp [sy] at g; omega
 have hle : F .cmp .gtr i' j' = false→¬ j < i:=fun g=>by rw [hF] at g; simp [sy] at g; omega
 have hne : F .cmp .neq i' j' = true→i ≠ j:=fun g=>by rw [hF] at g; simp [sy] at g; omega
 have heq : F .cmp .neq i' j' = false→i = j:=fun g=>by rw [hF] at g; simp [sy] at g; omega
 have f1 : i ≤ m→F .ar .sub .i64 m' i' = ((m - i : Nat) : Int):=fun h=>by rw [em,ei]; exact es _ hb _ h
 have f2 : j < i→i ≤ m→F .ar .sub .i64 i' j' = ((i - j : Nat) : Int):=fun h h2=>by rw [ei,ej]; exact es _ (by omega) _ (by omega)
 have f3 : i < j→j ≤ rows.length→F .ar .sub .i64 j' i' = ((j - i : Nat) : Int):=fun h h2=>by rw [ei,ej]; exact es _ (by omega) _ (by omega)
 have f4 : i < j→m + j ≤ rows.length→F .ar .sub .i64 (F .ar .add .i64 m' j') i' = ((m + j - i : Nat) : Int):=fun h h2=>by rw [em,ei,ej,ep _ hb _ (by omega)]; exact es _ (by omega) _ (by omega)
 cbv
 refine ⟨fun h=>?_,fun h=>?_⟩ <;> cbv
 ·refine ⟨fun g=>?_,fun g=>?_⟩ <;> cbv
  ·have hij:=hgt g
   obtain ⟨q1,q2,q3⟩:=rot_gt hri hij
   obtain ⟨r2,hr2⟩ : ∃ r2,swapF r (m - i) m j = r2:=⟨_,rfl⟩
   rw [hr2] at q1
   refine ⟨_,_,hC _ _ _ (swapRange_ok r (m - i) m j _ _ _ (f1 q3) em ej (by omega) (by omega) (by omega) hrm r2 hr2.symm),?_⟩
   cbv
   obtain ⟨i2,hi2⟩ : ∃ i2,F .ar .sub .i64 i' j' = i2:=⟨_,rfl⟩
   rw [hi2]
   exact ⟨(i - j,j,i2,j',r2),⟨hi2.symm.trans (f2 hij q3),ej,q1⟩,(by simp; omega),Le.trans le_fresh (le_of [] (by simp [St.fresh,freshObs,Ob.fresh,mapS,killR,relT,leSl,leOb,injK,memK,parK,noTup,lk,rn0,rnA,plain]))⟩
  ·have hij : i < j:=by have h1:=hle g; have h2:=hne h; omega
   obtain ⟨q1,q2,q3⟩:=rot_lt hri hij
   obtain ⟨r2,hr2⟩ : ∃ r2,swapF r (m - i) (m + j - i) i = r2:=⟨_,rfl⟩
   rw [hr2] at q1
   refine ⟨_,_,hC _ _ _ (swapRange_ok r (m - i) (m + j - i) i _ _ _ (f1 q3) (f4 hij (by omega)) ei (by omega) (by omega) (by omega) hrm r2 hr2.symm),?_⟩
   cbv
   obtain ⟨j2,hj2⟩ : ∃ j2,F .ar .sub .i64 j' i' = j2:=⟨_,rfl⟩
   rw [hj2]
   exact ⟨(i,j - i,i',j2,r2),⟨ei,hj2.symm.trans (f3 hij (by omega)),q1⟩,(by simp; omega),Le.trans le_fresh (le_of [] (by simp [St.fresh,freshObs,Ob.fresh,mapS,killR,relT,leSl,leOb,injK,memK,parK,noTup,lk,rn0,rnA,plain]))⟩
 ·have hij:=heq h
  subst hij
  obtain ⟨q1,q2,q3⟩:=rot_eq hri
  refine ⟨_,_,hC _ _ _ (swapRange_ok r (m - i) m i _ _ _ (f1 q3) em ei (by omega) (by omega) (by omega) hrm rows' q1.symm),?_⟩
  cbv
end Go.Proofs.Ytdnaadcbimbfmaa
namespace Go.Proofs.Ytdnaadcbimbfmaa
section
variable {α : Type} {lt : α→α→Bool}
structure SWO (lt : α→α→Bool) : Prop where
 asym : ∀ x y,lt x y = true→lt y x = false
 ntr : ∀ x y z,lt x z = true→lt x y = true ∨ lt y z = true
def Srt (lt : α→α→Bool) (l : List α) : Prop:=l.Pairwise fun x y=>lt y x = false
def eqv (lt : α→α→Bool) (x y : α) : Bool:=!lt x y && !lt y x
def StP (lt : α→α→Bool) (l l' : List α) : Prop:=∀ x,l.filter (eqv lt x) = l'.filter (eqv lt x)
theorem StP.refl (l : List α) : StP lt l l:=fun _=>rfl
theorem StP.symm {l l' : List α} (h : StP lt l l') : StP lt l' l:=fun x=>(h x).symm
theorem StP.trans {l m n : List α} (h : StP lt l m) (k : StP lt m n) : StP lt l n:=fun x=>(h x).trans (k x)
theorem StP.append {l l' m m' : List α} (h : StP lt l l') (k : StP lt m m') : StP lt (l ++ m) (l' ++ m'):=fun x=>by rw [List.filter_append,List.filter_append,h x,k x]
theorem SWO.irr (h : SWO lt) (x : α) : lt x x = false:=by
 cases e : lt x x
 ·rfl
 ·have:=h.asym x x e; rw [e] at this; exact this
theorem SWO.eqv_self (h : SWO lt) (x : α) : eqv lt x x = true:=by simp [eqv,h.irr]
theorem SWO.le_trans (h : SWO lt) {x y z : α} (h1 : lt y x = false) (h2 : lt z y = false) : lt z x = false:=by
 cases e : lt z x
 ·rfl
 ·rcases h.ntr z y x e with h3 | h3
  ·rw [h3] at h2; exact h2
  ·rw [h3] at h1; exact h1
theorem StP.mem (h : SWO lt) {l l' : List α} (hp : StP lt l l') {x : α} (hx : x ∈ l) : x ∈ l':=by
 have : x ∈ l.filter (eqv lt x):=List.mem_filter.2 ⟨hx,h.eqv_self x⟩
 rw [hp x] at this
 exact (List.mem_filter.1 this).1
theorem StP.swap (h : SWO lt) {l m : List α} (hs : ∀ x ∈ l,∀ y ∈ m,lt y x = true) : StP lt (l ++ m) (m ++ l):=by
 intro z
 rw [List.filter_append,List.filter_append]
 by_cases e : ∃ x ∈ l,eqv lt z x = true
 ·obtain ⟨x,hx,hzx⟩:=e
  have : m.filter (eqv lt z) = []:=by
   rw [List.filter_eq_nil_iff]
   intro y hy hzy
   simp only [eqv,Bool.and_eq_true,Bool.not_eq_true'] at hzx hzy
   have:=hs x hx y hy
   rcases h.ntr y z x this with h1 | h1
   ·rw [h1] at hzy; simp at hzy
   ·rw [h1] at hzx; simp at hzx
  rw [this]; simp
 ·have : l.filter (eqv lt z) = []:=by
   rw [List.filter_eq_nil_iff]
   intro y hy hzy
   exact e ⟨y,hy,hzy⟩
  rw [this]; simp
theorem Srt.unique (h : SWO lt) : ∀ (l l' : List α),Srt lt l→Srt lt l'→StP lt l l'→l = l':=by
 intro l
 induction l with
 | nil =>
  intro l' _ _ hp
  cases l' with
  | nil=>rfl
  | cons y t=>have:=hp.symm.mem h (x:=y) List.mem_cons_self; simp at this
 | cons x t ih =>
  intro l' h1 h2 hp
  cases l' with
  | nil=>have:=hp.mem h (x:=x) List.mem_cons_self; simp at this
  | cons y t' =>
   have hx : x ∈ y :: t':=hp.mem h List.mem_cons_self
   have hy : y ∈ x :: t:=hp.symm.mem h List.mem_cons_self
   have l1 : lt x y = false:=by
    rcases List.mem_cons.1 hx with e | e
    ·rw [e]; exact h.irr _
    ·exact (List.pairwise_cons.1 h2).1 x e
   have l2 : lt y x = false:=by
    rcases List.mem_cons.1 hy with e | e
    ·rw [e]; exact h.irr _
    ·exact (List.pairwise_cons.1 h1).1 y e
   have e : x = y:=by
    have:=hp x
    rw [List.filter_cons_of_pos (h.eqv_self x),List.filter_cons_of_pos (by simp [eqv,l1,l2])] at this
    injection this
   subst e
   congr 1
   refine ih t' (List.pairwise_cons.1 h1).2 (List.pairwise_cons.1 h2).2 fun z=>?_
   have:=hp z
   by_cases ez : eqv lt z x = true
   ·rw [List.filter_cons_of_pos ez,List.filter_cons_of_pos ez] at this
    injection this
   ·rwa [List.filter_cons_of_neg ez,List.filter_cons_of_neg ez] at this
def ins (lt : α→α→Bool) (x : α) : List α→List α
 | []=>[x]
 | y :: l=>if lt x y = true then x :: y :: l else y :: ins lt x l
def isort (lt : α→α→Bool) (l : List α) : List α:=l.foldl (fun acc x=>ins lt x acc) []
theorem ins_split (h : SWO lt) (x : α) : ∀ (L1 L2 : List α),(∀ y ∈ L1,lt x y = false)→(∀ y ∈ L2,lt x y = true)→ins lt x (L1 ++ L2) = L1 ++ x :: L2:=by
 intro L1
 induction L1 with
 | nil =>
  intro L2 _ h2
  cases L2 with
  | nil=>rfl
  | cons y l=>simp [ins,h2 y List.mem_cons_self]
 | cons z L1 ih =>
  intro L2 h1 h2
  simp only [List.cons_append,ins]
  rw [if_neg (by simp [h1 z List.mem_cons_self]),ih L2 (fun y hy=>h1 y (List.mem_cons_of_mem _ hy)) h2]
theorem ins_mem (x y : α) : ∀ (l : List α),y ∈ ins lt x l ↔ y = x ∨ y ∈ l:=by
 intro l
 induction l with
 | nil=>simp [ins]
 | cons z l ih =>
  simp only [ins]
  split
  ·simp
  ·simp only [List.mem_cons,ih]
   constructor
   ·rintro (h | h | h)
    ·exact .inr (.inl h)
    ·exact .inl h
    ·exact .inr (.inr h)
   ·rintro (h | h | h)
    ·exact .inr (.inl h)
    ·exact .inl h
    ·exact .inr (.inr h)
theorem ins_len (x : α) : ∀ (l : List α),(ins lt x l).length = l.length + 1:=by
 intro l
 induction l with
 | nil=>rfl
 | cons z l ih =>
  simp only [ins]
  split
  ·simp
  ·simp [ih]
theorem ins_srt (h : SWO lt) (x : α) : ∀ (l : List α),Srt lt l→Srt lt (ins lt x l):=by
 intro l
 induction l with
 | nil=>intro _; simp [ins,Srt]
 | cons z l ih =>
  intro hs
  obtain ⟨h1,h2⟩:=List.pairwise_cons.1 hs
  simp only [ins]
  split
  ·rename_i e
   refine List.pairwise_cons.2 ⟨fun y hy=>?_,hs⟩
   rcases List.mem_cons.1 hy with rfl | hy
   ·exact h.asym _ _ e
   ·exact h.le_trans (h.asym _ _ e) (h1 y hy)
  ·rename_i e
   refine List.pairwise_cons.2 ⟨fun y hy=>?_,ih h2⟩
   rcases (ins_mem x y l).1 hy with rfl | hy
   ·simpa using e
   ·exact h1 y hy
theorem ins_stp (h : SWO lt) (x : α) : ∀ (l : List α),Srt lt l→StP lt (ins lt x l) (l ++ [x]):=by
 intro l
 induction l with
 | nil=>intro _; exact StP.refl _
 | cons z l ih =>
  intro hs
  obtain ⟨h1,h2⟩:=List.pairwise_cons.1 hs
  simp only [ins]
  split
  ·rename_i e
   have : StP lt ([x] ++ (z :: l)) ((z :: l) ++ [x]):=(StP.swap h (fun a ha b hb=>by
    simp only [List.mem_singleton] at hb
    subst hb
    rcases List.mem_cons.1 ha with rfl | ha
    ·exact e
    ·rcases h.ntr b a z e with h3 | h3
     ·exact h3
     ·have:=h1 a ha; rw [h3] at this; simp at this)).symm
   exact this
  ·exact StP.append (l:=[z]) (l':=[z]) (StP.refl _) (ih h2)
theorem isort_snoc (l : List α) (x : α) : isort lt (l ++ [x]) = ins lt x (isort lt l):=by simp [isort,List.foldl_append]
theorem isort_ok (h : SWO lt) (l : List α) : Srt lt (isort lt l)∧StP lt (isort lt l) l∧(isort lt l).length = l.length:=by
 have aux : ∀ n,∀ l : List α,l.length = n→Srt lt (isort lt l)∧StP lt (isort lt l) l∧(isort lt l).length = l.length:=by
  intro n
  induction n with
  | zero =>
   intro l hl
   have:=List.eq_nil_of_length_eq_zero hl
   subst this
   exact ⟨List.Pairwise.nil,StP.refl _,rfl⟩
  | succ n ih =>
   intro l hl
   rcases List.eq_nil_or_concat l with rfl | ⟨m,x,rfl⟩
   ·simp at hl
   ·obtain ⟨h1,h2,h3⟩:=ih m (by simpa using hl)
    rw [List.concat_eq_append,isort_snoc]
    exact ⟨ins_srt h x _ h1,(ins_stp h x _ h1).trans (StP.append h2 (StP.refl _)),by simp [ins_len,h3]⟩
 exact aux _ l rfl
theorem isort_unique (h : SWO lt) {l m : List α} (hs : Srt lt m) (hp : StP lt m l) : m = isort lt l :=
 Srt.unique h _ _ hs (isort_ok h l).1 (hp.trans (isort_ok h l).2.1.symm)
theorem isort_mem (h : SWO lt) {l : List α} {x : α} (hx : x ∈ isort lt l) : x ∈ l:=(isort_ok h l).2.1.mem h hx
end
end Go.Proofs.Ytdnaadcbimbfmaa
namespace Go.Proofs.Ytdnaadcbimbfmaa
section
variable {α : Type} {lt : α→α→Bool}
theorem bsplit (P : Nat→Bool) (lo : Nat) : ∀ (d : Nat),(∀ c c',lo ≤ c'→c' < c→c < lo + d→P c = true→P c' = true)→∃ s,lo ≤ s∧s ≤ lo + d∧∀ c,lo ≤ c→c < lo + d→(P c = true ↔ c < s):=by
 intro d
 induction d with
 | zero=>intro _; exact ⟨lo,Nat.le_refl _,Nat.le_refl _,fun c h1 h2=>by omega⟩
 | succ d ih =>
  intro h
  obtain ⟨s,h1,h2,h3⟩:=ih (fun c c' a b e=>h c c' a b (by omega))
  by_cases e : P (lo + d) = true
  ·refine ⟨lo + d + 1,by omega,by omega,fun c hc1 hc2=>⟨fun _=>by omega,fun _=>?_⟩⟩
   by_cases ec : c = lo + d
   ·rw [ec]; exact e
   ·exact h (lo + d) c hc1 (by omega) (by omega) e
  ·refine ⟨s,h1,by omega,fun c hc1 hc2=>?_⟩
   by_cases ec : c = lo + d
   ·subst ec
    exact ⟨fun h=>absurd h e,fun h=>by omega⟩
   ·exact h3 c hc1 (by omega)
theorem srt_get {l : List α} (h : Srt lt l) {i j : Nat} {x y : α} (hi : l[i]? = some x) (hj : l[j]? = some y) (hij : i < j) : lt y x = false:=by
 obtain ⟨h1,rfl⟩:=List.getElem?_eq_some_iff.1 hi
 obtain ⟨h2,rfl⟩:=List.getElem?_eq_some_iff.1 hj
 exact List.pairwise_iff_getElem.1 h i j h1 h2 hij
theorem srt_le (H : SWO lt) {l : List α} (h : Srt lt l) {i j : Nat} {x y : α} (hi : l[i]? = some x) (hj : l[j]? = some y) (hij : i ≤ j) : lt y x = false:=by
 by_cases e : i = j
 ·subst e; rw [hi] at hj; injection hj with hj; subst hj; exact H.irr _
 ·exact srt_get h hi hj (by omega)
theorem merge_one (H : SWO lt) (x : α) (R1 R2 : List α) (hs : Srt lt (R1 ++ R2)) (h1 : ∀ y ∈ R1,lt y x = true) (h2 : ∀ y ∈ R2,lt y x = false) : R1 ++ ([x] ++ R2) = isort lt ([x] ++ (R1 ++ R2)):=by
 obtain ⟨s1,s2,s3⟩:=List.pairwise_append.1 hs
 refine isort_unique H ?_ ?_
 ·refine List.pairwise_append.2 ⟨s1,List.pairwise_append.2 ⟨by simp,s2,fun a ha b hb=>?_⟩,fun a ha b hb=>?_⟩
  ·simp only [List.mem_singleton] at ha; subst ha; exact h2 b hb
  ·rcases List.mem_append.1 hb with hb | hb
   ·simp only [List.mem_singleton] at hb; subst hb; exact H.asym _ _ (h1 a ha)
   ·exact s3 a ha b hb
 ·have : StP lt (R1 ++ [x]) ([x] ++ R1):=(StP.swap H (fun a ha b hb=>by
   simp only [List.mem_singleton] at ha; subst ha; exact h1 b hb)).symm
  have:=StP.append this (StP.refl R2)
  simpa using this
theorem merge_last (H : SWO lt) (x : α) (L1 L2 : List α) (hs : Srt lt (L1 ++ L2)) (h1 : ∀ y ∈ L1,lt x y = false) (h2 : ∀ y ∈ L2,lt x y = true) : L1 ++ ([x] ++ L2) = isort lt ((L1 ++ L2) ++ [x]):=by
 obtain ⟨s1,s2,s3⟩:=List.pairwise_append.1 hs
 refine isort_unique H ?_ ?_
 ·refine List.pairwise_append.2 ⟨s1,List.pairwise_append.2 ⟨by simp,s2,fun a ha b hb=>?_⟩,fun a ha b hb=>?_⟩
  ·simp only [List.mem_singleton] at ha; subst ha; exact H.asym _ _ (h2 b hb)
  ·rcases List.mem_append.1 hb with hb | hb
   ·simp only [List.mem_singleton] at hb; subst hb; exact h1 a ha
   ·exact s3 a ha b hb
 ·have : StP lt ([x] ++ L2) (L2 ++ [x]):=(StP.swap H (fun a ha b hb=>by
   simp only [List.mem_singleton] at hb; subst hb; exact h2 a ha)).symm
  have:=StP.append (StP.refl L1) this
  simpa using this
theorem merge_cut (H : SWO lt) (L1 L2 R1 R2 : List α) (hL : Srt lt (L1 ++ L2)) (hR : Srt lt (R1 ++ R2)) (h1 : ∀ x ∈ L2,∀ y ∈ R1,lt y x = true) (h2 : ∀ u ∈ L1,∀ v ∈ R2,lt v u = false) :
  isort lt (L1 ++ R1) ++ isort lt (L2 ++ R2) = isort lt ((L1 ++ L2) ++ (R1 ++ R2)):=by
 obtain ⟨a1,a2,a3⟩:=List.pairwise_append.1 hL
 obtain ⟨b1,b2,b3⟩:=List.pairwise_append.1 hR
 obtain ⟨p1,p2,p3⟩:=isort_ok H (L1 ++ R1)
 obtain ⟨q1,q2,q3⟩:=isort_ok H (L2 ++ R2)
 refine isort_unique H ?_ ?_
 ·refine List.pairwise_append.2 ⟨p1,q1,fun u hu v hv=>?_⟩
  have hu:=isort_mem H hu
  have hv:=isort_mem H hv
  rcases List.mem_append.1 hu with hu | hu <;> rcases List.mem_append.1 hv with hv | hv
  ·exact a3 u hu v hv
  ·exact h2 u hu v hv
  ·exact H.asym _ _ (h1 v hv u hu)
  ·exact b3 u hu v hv
 ·refine (StP.append p2 q2).trans ?_
  have : StP lt (R1 ++ L2) (L2 ++ R1):=(StP.swap H h1).symm
  have:=StP.append (StP.refl L1) (StP.append this (StP.refl R2))
  simpa using this
theorem cut_found (H : SWO lt) {L R : List α} (hL : Srt lt L) (hR : Srt lt R) (i j : Nat) (hi : i ≤ L.length) (hj : j ≤ R.length)
  (h1 : ∀ x y,L[i]? = some x→0 < j→R[j - 1]? = some y→lt y x = true) (h2 : ∀ u v,0 < i→L[i - 1]? = some u→R[j]? = some v→lt v u = false) :
  (∀ x ∈ L.drop i,∀ y ∈ R.take j,lt y x = true)∧(∀ u ∈ L.take i,∀ v ∈ R.drop j,lt v u = false):=by
 constructor
 ·intro x hx y hy
  obtain ⟨k,hk,rfl⟩:=List.getElem_of_mem hx
  obtain ⟨l,hl,rfl⟩:=List.getElem_of_mem hy
  simp only [List.length_drop] at hk
  simp only [List.length_take] at hl
  simp only [List.getElem_drop,List.getElem_take]
  have ex : L[i + k]? = some L[i + k]:=List.getElem?_eq_getElem (by omega)
  have ey : R[l]? = some R[l]:=List.getElem?_eq_getElem (by omega)
  have e1 : L[i]? = some L[i]:=List.getElem?_eq_getElem (by omega)
  have e2 : R[j - 1]? = some R[j - 1]:=List.getElem?_eq_getElem (by omega)
  have h3:=h1 _ _ e1 (by omega) e2
  have h4:=srt_le H hL e1 ex (by omega)
  have h5:=srt_le H hR ey e2 (by omega)
  rcases H.ntr _ L[i + k] _ h3 with h6 | h6
  ·rcases H.ntr _ R[l] _ h6 with h7 | h7
   ·rw [h7] at h5; simp at h5
   ·exact h7
  ·rw [h6] at h4; simp at h4
 ·intro x hx y hy
  obtain ⟨k,hk,rfl⟩:=List.getElem_of_mem hx
  obtain ⟨l,hl,rfl⟩:=List.getElem_of_mem hy
  simp only [List.length_take] at hk
  simp only [List.length_drop] at hl
  simp only [List.getElem_drop,List.getElem_take]
  have ex : L[k]? = some L[k]:=List.getElem?_eq_getElem (by omega)
  have ey : R[j + l]? = some R[j + l]:=List.getElem?_eq_getElem (by omega)
  have e1 : L[i - 1]? = some L[i - 1]:=List.getElem?_eq_getElem (by omega)
  have e2 : R[j]? = some R[j]:=List.getElem?_eq_getElem (by omega)
  exact H.le_trans (srt_le H hL ex e1 (by omega)) (H.le_trans (h2 _ _ (by omega) e1 e2) (srt_le H hR e2 ey (by omega)))
end
end Go.Proofs.Ytdnaadcbimbfmaa
namespace Go.Proofs.Ytdnaadcbimbfmaa
section
variable {α : Type} {lt : α→α→Bool}
def blk (bs : Nat) (l : List α) (k : Nat) : List α:=(l.drop (k * bs)).take bs
theorem blk_left {bs k : Nat} {A X X' : List α} (h : (k + 1) * bs ≤ A.length) : blk bs (A ++ X) k = blk bs (A ++ X') k:=by
 have e : (k + 1) * bs = k * bs + bs:=by rw [Nat.succ_mul]
 unfold blk
 rw [List.drop_append_of_le_length (by omega),List.drop_append_of_le_length (by omega),List.take_append_of_le_length (by simp; omega),List.take_append_of_le_length (by simp; omega)]
theorem blk_right {bs k : Nat} {A A' X : List α} (h : A.length = A'.length) (h2 : A.length ≤ k * bs) : blk bs (A ++ X) k = blk bs (A' ++ X) k:=by
 unfold blk
 rw [List.drop_append,List.drop_append,List.drop_of_length_le (l:=A) h2,List.drop_of_length_le (l:=A') (by omega),h]
theorem blk_at {bs k : Nat} {A M B : List α} (h : A.length = k * bs) (h2 : M.length = bs ∨ (M.length ≤ bs∧B = [])) : blk bs (A ++ (M ++ B)) k = M:=by
 unfold blk
 rw [List.drop_append,List.drop_of_length_le (by omega),show k * bs - A.length = 0 by omega]
 simp only [List.drop_zero,List.nil_append]
 rcases h2 with h2 | ⟨h2,rfl⟩
 ·rw [List.take_append_of_le_length (by omega),List.take_of_length_le (by omega)]
 ·simp only [List.append_nil]; rw [List.take_of_length_le h2]
theorem blk_nil {bs k : Nat} {l : List α} (h : l.length ≤ k * bs) : blk bs l k = []:=by
 unfold blk
 rw [List.drop_of_length_le h]; simp
theorem srt_nil : Srt lt ([] : List α):=List.Pairwise.nil
structure Ins1 (lt : α→α→Bool) (l0 : List α) (bs j : Nat) (l : List α) : Prop where
 len : l.length = l0.length
 stp : StP lt l l0
 srt : ∀ k,k < j→Srt lt (blk bs l k)
theorem Ins1.start (l0 : List α) (bs : Nat) : Ins1 lt l0 bs 0 l0:=⟨rfl,StP.refl _,fun k h=>by omega⟩
theorem split_at (l : List α) (a b : Nat) (h : a ≤ b) (hb : b ≤ l.length) : ∃ A M B,l = A ++ (M ++ B)∧A.length = a∧a + M.length = b∧B.length = l.length - b:=by
 refine ⟨l.take a,(l.drop a).take (b - a),l.drop b,?_,by simp; omega,by simp; omega,by simp⟩
 conv=>lhs; rw [← List.take_append_drop a l,← List.take_append_drop (b - a) (l.drop a)]
 rw [List.drop_drop,show a + (b - a) = b by omega]
theorem Ins1.step (H : SWO lt) {l0 l : List α} {bs j : Nat} (h : Ins1 lt l0 bs j l) {A M B : List α} (hl : l = A ++ (M ++ B)) (hA : A.length = j * bs) (hM : M.length = bs ∨ (M.length ≤ bs∧B = [])) :
  Ins1 lt l0 bs (j + 1) (A ++ (isort lt M ++ B)):=by
 obtain ⟨s1,s2,s3⟩:=isort_ok H M
 refine ⟨by rw [← h.len,hl]; simp [s3],(StP.append (StP.refl A) (StP.append s2 (StP.refl B))).trans (hl ▸ h.stp),fun k hk=>?_⟩
 by_cases e : k = j
 ·subst e
  rw [blk_at hA (by rw [s3]; exact hM)]; exact s1
 ·have hk' : k < j:=by omega
  have hle : (k + 1) * bs ≤ A.length:=by rw [hA]; exact Nat.mul_le_mul_right _ (by omega)
  rw [blk_left (X':=M ++ B) hle,← hl]
  exact h.srt k hk'
structure Mrg1 (lt : α→α→Bool) (l0 : List α) (bs j : Nat) (l : List α) : Prop where
 len : l.length = l0.length
 stp : StP lt l l0
 two : ∀ k,k < j→Srt lt (blk (2 * bs) l k)
 one : ∀ k,2 * j ≤ k→Srt lt (blk bs l k)
theorem Mrg1.of {l0 l : List α} {bs j : Nat} (h : Ins1 lt l0 bs j l) (hj : l.length ≤ j * bs) : Mrg1 lt l0 bs 0 l :=
 ⟨h.len,h.stp,fun k h=>by omega,fun k _=>by
  by_cases e : k < j
  ·exact h.srt k e
  ·rw [blk_nil (by have:=Nat.mul_le_mul_right bs (show j ≤ k by omega); omega)]; exact srt_nil⟩
theorem Mrg1.step (H : SWO lt) {l0 l : List α} {bs j : Nat} (h : Mrg1 lt l0 bs j l) {A L R B : List α} (hl : l = A ++ (L ++ (R ++ B))) (hA : A.length = j * (2 * bs)) (hL : L.length = bs) (hR : R.length = bs ∨ (R.length ≤ bs∧B = [])) :
  Srt lt L∧Srt lt R∧Mrg1 lt l0 bs (j + 1) (A ++ (isort lt (L ++ R) ++ B)):=by
 have e2 : j * (2 * bs) = 2 * j * bs:=by rw [← Nat.mul_assoc,Nat.mul_comm j 2]
 have e3 : (2 * j + 1) * bs = 2 * j * bs + bs:=by rw [Nat.succ_mul]
 have e4 : (j + 1) * (2 * bs) = j * (2 * bs) + 2 * bs:=by rw [Nat.succ_mul]
 obtain ⟨s1,s2,s3⟩:=isort_ok H (L ++ R)
 have s3' : (isort lt (L ++ R)).length = bs + R.length:=by rw [s3]; simp [hL]
 refine ⟨?_,?_,⟨by rw [← h.len,hl]; simp [s3]; omega,(StP.append (StP.refl A) (StP.append s2 (StP.refl B))).trans (by have:=h.stp; rw [hl] at this; simpa using this),fun k hk=>?_,fun k hk=>?_⟩⟩
 ·have:=h.one (2 * j) (by omega)
  rw [hl,blk_at (by omega) (.inl hL)] at this; exact this
 ·have:=h.one (2 * j + 1) (by omega)
  rw [hl,← List.append_assoc A L,blk_at (by simp; omega) hR] at this; exact this
 ·by_cases e : k = j
  ·subst e
   rw [blk_at hA (hR.elim (fun h1=>.inl (by omega)) (fun h1=>.inr ⟨by omega,h1.2⟩))]; exact s1
  ·have hle : (k + 1) * (2 * bs) ≤ A.length:=by rw [hA]; exact Nat.mul_le_mul_right _ (by omega)
   rw [blk_left (X':=L ++ (R ++ B)) hle,← hl]
   exact h.two k (by omega)
 ·rcases hR with h1 | ⟨h1,h2⟩
  ·have hle : A.length + bs + bs ≤ k * bs:=by
    have:=Nat.mul_le_mul_right bs (show 2 * j + 1 + 1 ≤ k by omega)
    rw [Nat.succ_mul,Nat.succ_mul] at this; omega
   have:=h.one k (by omega)
   rw [hl,show A ++ (L ++ (R ++ B)) = (A ++ (L ++ R)) ++ B by simp] at this
   rw [← List.append_assoc A,blk_right (A':=A ++ (L ++ R)) (by simp [s3]) (by simp [s3,hL,h1]; omega)]
   exact this
  ·subst h2
   have hle : A.length + bs + bs ≤ k * bs:=by
    have:=Nat.mul_le_mul_right bs (show 2 * j + 1 + 1 ≤ k by omega)
    rw [Nat.succ_mul,Nat.succ_mul] at this; omega
   rw [blk_nil (by simp [s3,hL]; omega)]; exact srt_nil
theorem Mrg1.stop {l0 l : List α} {bs j : Nat} (h : Mrg1 lt l0 bs j l) (hj : l.length ≤ j * (2 * bs) + bs) : Mrg1 lt l0 (2 * bs) 0 l :=
 ⟨h.len,h.stp,fun k h=>by omega,fun k _=>by
  by_cases e : k < j
  ·exact h.two k e
  ·by_cases e2 : k = j
   ·have e3 : j * (2 * bs) = 2 * j * bs:=by rw [← Nat.mul_assoc,Nat.mul_comm j 2]
    have:=h.one (2 * j) (by omega)
    have hb : blk (2 * bs) l k = blk bs l (2 * j):=by
     unfold blk
     rw [e2,e3,List.take_of_length_le (by simp; omega),List.take_of_length_le (by simp; omega)]
    rw [hb]; exact this
   ·rw [blk_nil (by have:=Nat.mul_le_mul_right (2 * bs) (show j + 1 ≤ k by omega); rw [Nat.succ_mul] at this; omega)]; exact srt_nil⟩
theorem Mrg1.over {l0 l : List α} {bs j : Nat} (h : Mrg1 lt l0 bs j l) (hj : l.length ≤ j * (2 * bs)) : Mrg1 lt l0 (2 * bs) 0 l:=h.stop (by omega)
theorem Mrg1.done (H : SWO lt) {l0 l : List α} {bs : Nat} (h : Mrg1 lt l0 bs 0 l) (hb : l.length ≤ bs) : l = isort lt l0:=by
 refine isort_unique H ?_ h.stp
 have:=h.one 0 (by omega)
 unfold blk at this
 rwa [Nat.zero_mul,List.drop_zero,List.take_of_length_le hb] at this
end
end Go.Proofs.Ytdnaadcbimbfmaa
namespace Go.Proofs.Ytdnaadcbimbfmaa
open Go Go.RowKit Am
def orderI (a b : Ev) : Int:=if laterB a b then 1 else if laterB b a then -1 else 0
theorem order_ok (a b : Ev) (r : Int) (hr : r = orderI a b) : CSem Try.prog (.fn 105) [.agg a.ac,.agg b.ac] (.pure [aI r]):=by
 refine of_text gam_ok mixed { n:=13 } Try.func105 (by kernel_rfl) rfl rfl (by simp) (by decide) fun F C D hF hC hD=>?_
 cbv
 refine ⟨_,hC _ _ _ (later_ok a b _ rfl),?_⟩
 generalize h1 : laterB a b = c1
 cbv
 refine ⟨fun h=>?_,fun h=>?_⟩ <;> cbv
 ·have : r = 1:=by rw [hr,orderI,h1,h]; rfl
  rw [this]; exact ⟨rfl,trivial⟩
 refine ⟨_,hC _ _ _ (later_ok b a _ rfl),?_⟩
 generalize h2 : laterB b a = c2
 cbv
 refine ⟨fun g=>?_,fun g=>?_⟩ <;> cbv
 ·have : r = -1:=by rw [hr,orderI,h1,h,h2,g]; rfl
  rw [this]; exact ⟨rfl,trivial⟩
 ·have : r = 0:=by rw [hr,orderI,h1,h,h2,g]; rfl
  rw [this]; exact ⟨rfl,trivial⟩
def getI : AV→Int | .v (.int _ n)=>n | _=>0
def getS : AV→ByteArray | .v (.string s)=>s | _=>⟨#[]⟩
def getEv (l : List AV) : Ev :=
 { dot:=⟨getI (l.getD 0 .dead),getI (l.getD 1 .dead)⟩,time:=getI (l.getD 2 .dead),deps:=fun i=>getI (l.getD (3 + i.1) .dead),op:={ kind:=getI (l.getD 19 .dead),key:=getS (l.getD 20 .dead),fld:=getS (l.getD 21 .dead),val:=getS (l.getD 22 .dead),num:=getI (l.getD 23 .dead),ref:=⟨getI (l.getD 24 .dead),getI (l.getD 25 .dead)⟩ } }
theorem getEv_ac (e : Ev) : getEv e.ac = e:=by
 obtain ⟨⟨r,n⟩,t,d,⟨k,ky,f,v,m,⟨rr,rn⟩⟩⟩:=e
 have : (fun i : Fin 16=>getI ((Ev.ac ⟨⟨r,n⟩,t,d,⟨k,ky,f,v,m,⟨rr,rn⟩⟩⟩).getD (3 + i.1) .dead)) = d:=by
  funext i
  match i with
  | ⟨0,_⟩=>rfl | ⟨1,_⟩=>rfl | ⟨2,_⟩=>rfl | ⟨3,_⟩=>rfl | ⟨4,_⟩=>rfl | ⟨5,_⟩=>rfl | ⟨6,_⟩=>rfl | ⟨7,_⟩=>rfl
  | ⟨8,_⟩=>rfl | ⟨9,_⟩=>rfl | ⟨10,_⟩=>rfl | ⟨11,_⟩=>rfl | ⟨12,_⟩=>rfl | ⟨13,_⟩=>rfl | ⟨14,_⟩=>rfl | ⟨15,_⟩=>rfl
  | ⟨k + 16,h⟩=>exact absurd h (by omega)
 unfold getEv
 rw [this]
 rfl
def isEv (l : List AV) : Prop:=∃ e : Ev,l = e.ac
theorem isEv.len {l : List AV} (h : isEv l) : l.length = 26:=by obtain ⟨e,rfl⟩:=h; rfl
theorem isEv.ac {l : List AV} (h : isEv l) : (getEv l).ac = l:=by obtain ⟨e,rfl⟩:=h; rw [getEv_ac]
def ltR (x y : List AV) : Bool:=laterB (getEv y) (getEv x)
theorem swo_ltR : SWO ltR where
 asym x y h:=by
  unfold ltR at h ⊢
  rw [later_iff] at h
  rw [Bool.eq_false_iff]
  intro h2
  rw [later_iff] at h2
  omega
 ntr x y z h:=by
  unfold ltR at h ⊢
  rw [later_iff] at h ⊢
  rw [later_iff]
  omega
def orderR (x y : List AV) : Int:=orderI (getEv x) (getEv y)
theorem orderR_neg (x y : List AV) : orderR x y < 0 ↔ ltR x y = true:=by
 unfold orderR orderI
 have:=swo_ltR.asym x y
 have:=swo_ltR.asym y x
 unfold ltR at *
 split
 ·rename_i h; simp [this h]
 ·split
  ·rename_i h; simp [h]
  ·rename_i h; simp [h]
theorem orderR_ok (x y : List AV) (hx : isEv x) (hy : isEv y) (r : Int) (hr : r = orderR x y) : CSem Try.prog (.fn 105) [.agg x,.agg y] (.pure [aI r]):=by
 have:=order_ok (getEv x) (getEv y) r hr
 rwa [hx.ac,hy.ac] at this
def InsI (A L rest : List (List AV)) (x : List AV) (j : Nat) (r : List (List AV)) : Prop :=
 ∃ L1 L2,L = L1 ++ L2∧r = A ++ (L1 ++ (x :: (L2 ++ rest)))∧A.length + L1.length = j∧∀ y ∈ L2,ltR x y = true
theorem InsI.at {A L rest r : List (List AV)} {x : List AV} {j : Nat} (h : InsI A L rest x j r) : r[j]? = some x:=by
 obtain ⟨L1,L2,rfl,rfl,h1,h2⟩:=h
 rw [List.getElem?_append_right (by omega),List.getElem?_append_right (by omega),show j - A.length - L1.length = 0 by omega]
 rfl
theorem InsI.step {A L rest r : List (List AV)} {x : List AV} {j : Nat} (h : InsI A L rest x j r) (hj : A.length < j) :
  ∃ y,r[j - 1]? = some y∧(ltR x y = true→InsI A L rest x (j - 1) ((r.set j y).set (j - 1) x))∧(ltR x y = false→Srt ltR L→r = A ++ (ins ltR x L ++ rest)):=by
 obtain ⟨L1,L2,rfl,rfl,h1,h2⟩:=h
 rcases List.eq_nil_or_concat L1 with rfl | ⟨L,y,rfl⟩
 ·simp at h1; omega
 ·rw [List.concat_eq_append] at h1 ⊢
  have hl : A.length + L.length + 1 = j:=by simpa [Nat.add_assoc] using h1
  refine ⟨y,?_,fun hxy=>⟨L,y :: L2,by simp,?_,by omega,fun z hz=>?_⟩,fun hxy hs=>?_⟩
  ·rw [List.getElem?_append_right (by omega),List.append_assoc,List.getElem?_append_right (by omega),show j - 1 - A.length - L.length = 0 by omega]
   rfl
  ·have e : A ++ ((L ++ [y]) ++ (x :: (L2 ++ rest))) = (A ++ L) ++ (y :: x :: (L2 ++ rest)):=by simp
   have hAL : (A ++ L).length = j - 1:=by simp; omega
   rw [e,List.set_append_right _ _ (by omega),List.set_append_right _ _ (by omega),hAL,show j - (j - 1) = 1 by omega,show j - 1 - (j - 1) = 0 by omega]
   simp
  ·rcases List.mem_cons.1 hz with rfl | hz
   ·exact hxy
   ·exact h2 z hz
  ·rw [ins_split swo_ltR x (L ++ [y]) L2 (fun z hz=>?_) h2]
   ·simp
   ·have hs1 : Srt ltR (L ++ [y]):=(List.pairwise_append.1 hs).1
    rcases List.mem_append.1 hz with hz | hz
    ·have:=(List.pairwise_append.1 hs1).2.2 z hz y (by simp)
     exact swo_ltR.le_trans this hxy
    ·simp at hz; subst hz; exact hxy
theorem InsI.stop {A L rest r : List (List AV)} {x : List AV} {j : Nat} (h : InsI A L rest x j r) (hj : j ≤ A.length) : r = A ++ (ins ltR x L ++ rest):=by
 obtain ⟨L1,L2,rfl,rfl,h1,h2⟩:=h
 have : L1 = []:=List.eq_nil_of_length_eq_zero (by omega)
 subst this
 have:=ins_split swo_ltR x [] L2 (fun y hy=>by simp at hy) h2
 simp at this
 simp [this]
theorem InsI.start (A L rest : List (List AV)) (x : List AV) : InsI A L rest x (A.length + L.length) (A ++ (L ++ (x :: rest))):=⟨L,[],by simp,by simp,rfl,fun y hy=>by simp at hy⟩
theorem InsI.mem {A L rest r : List (List AV)} {x : List AV} {j : Nat} (h : InsI A L rest x j r) {q : List AV} (hq : q ∈ r) : q ∈ A ++ (L ++ (x :: rest)):=by
 obtain ⟨L1,L2,rfl,rfl,h1,h2⟩:=h
 simp only [List.mem_append,List.mem_cons] at hq ⊢
 rcases hq with h | h | h | h | h <;> simp [h]
theorem InsI.len {A L rest r : List (List AV)} {x : List AV} {j : Nat} (h : InsI A L rest x j r) : r.length = A.length + L.length + 1 + rest.length:=by
 obtain ⟨L1,L2,rfl,rfl,h1,h2⟩:=h
 simp; omega
end Go.Proofs.Ytdnaadcbimbfmaa
