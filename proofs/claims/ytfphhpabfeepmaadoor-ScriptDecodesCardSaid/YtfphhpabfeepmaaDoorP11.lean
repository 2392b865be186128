import Derived.Test.YtfphhpabfeepmaaDoorP10
set_option linter.unusedSimpArgs false
set_option linter.unusedVariables false
namespace Go.Proofs.YtfphhpabfeepmaaDoor
open Go Go.RowKit Am

/-- A row of the caller's own, handed to a writing call that only reads it. -/
theorem wr_own {f e sz v m : Nat} {o0 o0' : Ob} {rows : List (List AV)} {res : List AV} (h : CSem Tryd.prog (.wr f [(0, o0)] [(0, o0')]) [.ptr 0 0, .sl rows] (.pure res)) :
    CSem Tryd.prog (.wr f [(0, o0), (1, .row e sz rows v m)] [(0, o0')]) [.ptr 0 0, .own 1 v] (.pure res) := by
  refine ⟨h.1, fun w S β xs hS hgd ho hsep hx => ?_⟩
  have h0 := ho 0 o0 rfl
  have h1 := ho 1 _ rfl
  have hw : SameOn S w w := fun _ _ => rfl
  have hsub : ∀ g, S g → (S g ∨ blkOf (β 1) = some g) := fun g h => Or.inl h
  obtain ⟨zs, hown, hr, hl, hSg⟩ := h1
  have hrep : ∀ {y}, y = β 1 → Rep w (fun g => S g ∨ blkOf (β 1) = some g) (.sl rows) y := fun {y} e => by
    rw [e]
    exact .c (repc_of_own hown (hr.mono hw hsub) hl (fun g hg => Or.inr (by cases hb : β 1 <;> simp_all [blkOf, Value.ownBlock])))
  have hob0 : ∀ g, blkOf (β 0) = some g → ¬ blkOf (β 1) = some g := fun g hg hg' => hsep 0 1 _ _ rfl rfl (by decide) g hg hg'
  have hO : obsBlk [(0, o0)] β = fun g => blkOf (β 0) = some g := by
    funext g
    refine propext ⟨?_, fun h => ⟨0, o0, rfl, h⟩⟩
    rintro ⟨k, o, hk, hg⟩
    simp only [lk] at hk
    split at hk
    · rename_i e; subst e; exact hg
    · cases hk
  refine (h.2 w (fun g => S g ∨ blkOf (β 1) = some g) β xs (fun g hg => ?_) (hgd.mono hw hsub) (fun k o hk => ?_) (fun k k' o o' hk hk' hne => ?_) ⟨hx.1, fun i u x hu hxi => ?_⟩).mono ?_
  · rcases hg with hg | hg
    · exact hS g hg
    · exact (orep_blk (ho 1 _ rfl) hg).2.1
  · simp only [lk] at hk
    split at hk
    · rename_i e
      subst e
      injection hk with hk
      subst hk
      exact orep_mono hw hsub (fun g hg => ⟨rfl, fun hs => by
        rcases hs with hs | hs
        · exact (orep_blk h0 hg).2.2 hs
        · exact hob0 g hg hs⟩) h0
    · cases hk
  · simp only [lk] at hk hk'
    split at hk
    · split at hk'
      · omega
      · cases hk'
    · cases hk
  · rcases i with _ | _ | i
    · have := hx.2 0 _ x rfl hxi
      injection hu with hu
      subst hu
      exact this
    · have := hx.2 1 _ x rfl hxi
      injection hu with hu
      subst hu
      exact hrep (this _ _ _ _ rfl)
    · simp at hu
  · rintro ex w' ⟨y, S', rfl, hg, hobj, hres⟩
    refine ⟨y, S', rfl, ⟨hg.os, hg.tape, hg.output, hg.size, fun g hg1 hg2 => hg.block g hg1 fun hg3 => hg2 ?_, fun g h => hg.sub g (Or.inl h), fun g hg1 => ?_, hg.lt, hgd, hg.gd.2⟩, hobj, hres⟩
    · rw [hO] at hg3; exact ⟨0, o0, rfl, hg3⟩
    · rcases hg.new g hg1 with h2 | h2 | h2
      · rcases h2 with h2 | h2
        · exact .inl h2
        · exact .inr (.inr ⟨1, _, rfl, h2⟩)
      · exact .inr (.inl h2)
      · rw [hO] at h2; exact .inr (.inr ⟨0, o0, rfl, h2⟩)
def wakeL : List UInt8 := [42, 50, 13, 10, 36, 51, 13, 10, 71, 69, 84, 13, 10, 36, 49, 13, 10, 107, 13, 10]
def wakeC : List (List (List UInt8)) := [[[71, 69, 84], [107]]]
theorem wake_pars : pars (wakeL.length + 1) wakeL [] = (wakeC, [], 0) := by decide
theorem wake_dec : dec (-3) = [45, 51] := by
  unfold dec Lib.itoa
  rw [if_pos (by decide), show (-3 : Int).natAbs = 3 from rfl, Lib.decDigits_one (by decide)]
  rfl
set_option maxHeartbeats 1000000 in
theorem awake_ok : CSem Tryd.prog (.fn 13) [] (.pure [aB true]) := by
  refine of_text gam_ok mixed { n := 28, keep := [4, 9, 10], bxs := [4], wrs := [20] } Tryd.func13 (by kernel_rfl) rfl rfl (by simp) (by decide) fun F C D hF hC hD => ?_
  obtain ⟨rw, hrw⟩ : ∃ rw, [[aU 42], [aU 50], [aU 13], [aU 10], [aU 36], [aU 51], [aU 13], [aU 10], [aU 71], [aU 69], [aU 84], [aU 13], [aU 10], [aU 36], [aU 49], [aU 13], [aU 10], [aU 107], [aU 13], [aU 10]] = rw := ⟨_, rfl⟩
  have erw : rw = byR wakeL := by rw [← hrw]; rfl
  obtain ⟨oc, hoc⟩ : ∃ oc, oc = cR wakeC := ⟨_, rfl⟩
  have hfeed := hC _ _ _ (wr_own (e := 5) (sz := 1) (v := 0) (m := 0) (wr_frz (feed_ok [] wakeL (by decide) [] rw rfl erw wakeC [] 0 wake_pars [] oc rfl hoc 0 rfl)))
  have hsame := hC _ _ _ (same_ok wakeC wakeC (by decide) (by decide) (by decide) (by decide) oc (cR wakeC) hoc rfl true (by simp))
  obtain ⟨rd, hrd⟩ : ∃ rd, rd = byR (58 :: dec (-3) ++ [13, 10]) := ⟨_, rfl⟩
  have henc := hC _ _ _ (encode_int 3 rfl ⟨#[]⟩ (-3) (.v (.slice none 0 0)) (by omega) (by omega) rd hrd)
  obtain ⟨sd, hsd⟩ : ∃ sd, sd = BA (58 :: dec (-3) ++ [13, 10]) := ⟨_, rfl⟩
  have hbs := hC _ _ _ (bs_ok _ rd hrd sd hsd)
  have t0 : F .cmp .eql 0 0 = true := by rw [eqF hF]; rfl
  have t1 : F .scmp .eql sd (BA [58, 45, 51, 13, 10]) = true := by rw [seqF hF, hsd, wake_dec]; rfl
  unfold BA at t1
  have hnew := hC _ _ _ new_ok
  clear hrd hsd hoc erw
  cbv
  refine ⟨_, _, _, hnew, ?_⟩
  cbv
  refine ⟨hC _ _ _ nilp34, ?_⟩
  cbv
  rw [hrw]
  refine ⟨_, _, hfeed, ?_⟩
  cbv
  refine bT (t0) ?_
  cbv
  refine ⟨_, hsame, ?_⟩
  cbv
  refine bT (by first | assumption | rfl) ?_
  cbv
  refine ⟨_, henc, ?_⟩
  cbv
  refine ⟨_, hbs, ?_⟩
  cbv
  rw [t1]
  simp
end Go.Proofs.YtfphhpabfeepmaaDoor
