import Derived.Test.YthepmpfkkhckpaaGreatDoorAm5
set_option linter.unusedVariables false
set_option linter.unusedSimpArgs false
namespace Go.Proofs.YthepmpfkkhckpaaGreatDoor.Am
open Go Go.RowKit
variable {P : Program}

/-! ### 6. All quiet operations -/
theorem dop_ok (hΓ : TOKs P) {ev : Operand → Option AV} {obs : Obs} {op : Op} {K : AV → Prop} (h : dop sy (CSem P) ev obs op K) : ∃ x, K x ∧ Good P ev obs op x := by
  unfold dop at h
  split at h
  · -- move
    split at h
    · rename_i u hu; exact ⟨u, h, good_move hu⟩
    · exact h.elim
  · -- assign
    split at h
    · rename_i u hu; exact ⟨u, h, good_assign hu⟩
    · exact h.elim
  · -- pick
    split at h
    · rename_i hc
      split at h
      · rename_i u hu; exact ⟨u, h, good_pick (t := true) hc (.inl rfl) hu⟩
      · exact h.elim
    · rename_i hc
      split at h
      · rename_i u hu; exact ⟨u, h, good_pick (t := false) hc (.inl rfl) hu⟩
      · exact h.elim
    · rename_i t hc
      split at h
      · rename_i u hu
        split at h
        · rename_i v hv
          cases t with
          | true => exact ⟨u, h.1 rfl, good_pick (t := true) hc (.inr rfl) hu⟩
          | false => exact ⟨v, h.2 rfl, good_pick (t := false) hc (.inr rfl) hv⟩
        · exact h.elim
      · exact h.elim
    · exact h.elim
  · -- box
    split at h
    · rename_i ti u hti hu
      split at h
      · rename_i cs hcs
        split at h
        · exact ⟨_, h, good_box hu hcs⟩
        · exact h.elim
      · exact h.elim
    · exact h.elim
  · -- load
    split at h
    · rename_i ti p hti hp
      split at h
      · rename_i cs hw; exact ⟨_, h, good_whole (hΓ _ _ hti) hp hw⟩
      split at h
      · rename_i cs off hd
        split at h
        · rename_i ds hds
          split at h
          · rename_i hag; exact ⟨_, h, good_load (hΓ _ _ hti) hp hd hds (.inl ⟨hag, rfl⟩)⟩
          · rename_i hag
            split at h
            · exact ⟨_, h, good_load (hΓ _ _ hti) hp hd hds (.inr ⟨by simpa using hag, rfl⟩)⟩
            · exact h.elim
        · exact h.elim
      · exact h.elim
    · exact h.elim
  · -- nilCheck
    split at h
    · rename_i hp; exact ⟨_, h, good_nilCheck hp (.inl ⟨_, _, rfl⟩)⟩
    · rename_i hp; exact ⟨_, h, good_nilCheck hp (.inr (.inl ⟨_, _, rfl⟩))⟩
    · rename_i hp; exact ⟨_, h, good_nilCheck hp (.inr (.inr ⟨_, _, rfl⟩))⟩
    · exact h.elim
  · -- binOp
    split at h
    · rename_i p q hp hq
      split at h
      · rename_i r hr; exact ⟨_, h, good_binA hp hq hr⟩
      · split at h
        · obtain ⟨r, hc, hk⟩ := h; exact ⟨_, hk, (good_eq hp hq hc).1⟩
        · obtain ⟨r, hc, hk⟩ := h; exact ⟨_, hk, (good_eq hp hq hc).2⟩
        · obtain ⟨h1, h2, h3⟩ := h; exact ⟨_, h3, good_binO hp hq (.inl ⟨.inl rfl, h1, h2⟩)⟩
        · obtain ⟨h1, h2, h3⟩ := h; exact ⟨_, h3, good_binO hp hq (.inl ⟨.inr rfl, h1, h2⟩)⟩
        · obtain ⟨h1, h3⟩ := h; exact ⟨_, h3, good_binO hp hq (.inr ⟨.inl rfl, h1⟩)⟩
        · obtain ⟨h1, h3⟩ := h; exact ⟨_, h3, good_binO hp hq (.inr ⟨.inr rfl, h1⟩)⟩
        · exact ⟨_, h.2, good_cat hp hq h.1⟩
        · exact ⟨_, h.2, (good_nilp (b := false) hp hq h.1 (.inl ⟨.inl ⟨_, _, rfl⟩, rfl⟩)).1⟩
        · exact ⟨_, h.2, (good_nilp (b := false) hp hq h.1 (.inl ⟨.inl ⟨_, _, rfl⟩, rfl⟩)).2⟩
        · exact ⟨_, h.2, (good_nilp (b := false) hp hq h.1 (.inl ⟨.inr ⟨_, _, rfl⟩, rfl⟩)).1⟩
        · exact ⟨_, h.2, (good_nilp (b := false) hp hq h.1 (.inl ⟨.inr ⟨_, _, rfl⟩, rfl⟩)).2⟩
        · exact ⟨_, h.2, (good_nilp (b := true) hp hq h.1 (.inr ⟨rfl, rfl⟩)).1⟩
        · exact ⟨_, h.2, (good_nilp (b := true) hp hq h.1 (.inr ⟨rfl, rfl⟩)).2⟩
        · split at h
          · exact ⟨_, h.2, (good_nili hp hq ⟨_, rfl⟩ h.1).1⟩
          · exact h.elim
        · split at h
          · exact ⟨_, h.2, (good_nili hp hq ⟨_, rfl⟩ h.1).2⟩
          · exact h.elim
        · obtain ⟨r, hr, hk⟩ := h; exact ⟨_, hk, (good_bq hp hq (.inr rfl) hr).1⟩
        · obtain ⟨r, hr, hk⟩ := h; exact ⟨_, hk, (good_bq hp hq (.inr rfl) hr).2⟩
        · obtain ⟨r, hr, hk⟩ := h; exact ⟨_, hk, (good_bq hp hq (.inl rfl) hr).1⟩
        · obtain ⟨r, hr, hk⟩ := h; exact ⟨_, hk, (good_bq hp hq (.inl rfl) hr).2⟩
        · exact h.elim
    · exact h.elim
  · -- not
    split at h
    · rename_i c hp; exact ⟨_, h, good_unNot hp (.inl rfl) (.inl rfl)⟩
    · rename_i c hp; exact ⟨_, h, good_unNot hp (.inr rfl) (.inr rfl)⟩
    · exact h.elim
  · -- neg
    split at h
    · rename_i hp; exact ⟨_, h, good_unNeg hp⟩
    · exact h.elim
  · -- convert
    split at h
    · rename_i ti u hti hu
      split at h
      · rename_i k _ k' n hk
        split at h
        · rename_i ts hts; exact ⟨_, h, good_convInt (hΓ _ _ hts) (hΓ _ _ hti) hk hu⟩
        · exact h.elim
      · split at h
        · rename_i hok; obtain ⟨r, hc, hk⟩ := h; exact ⟨_, hk, good_conv hu hok hc⟩
        · exact h.elim
    · exact h.elim
  · -- makeFunc
    split at h
    · rename_i cs hfs hcs
      split at h
      · rename_i hall
        rw [Array.toList_eq_nil_iff] at hfs
        subst hfs
        refine ⟨_, h, good_makeFunc hcs fun c hc => ?_⟩
        have := List.all_eq_true.1 hall c hc
        cases c <;> simp [isEpt] at this
        exact ⟨_, _, rfl⟩
      · exact h.elim
    · exact h.elim
  · -- fieldAddr
    split at h
    · rename_i ti p hti hp
      split at h
      · rename_i d s hd
        split at h
        · rename_i e he
          split at h
          · rename_i q hq; exact ⟨_, h, good_fieldAddr (hΓ _ _ hti) hp hd he hq⟩
          · exact h.elim
        · exact h.elim
      · exact h.elim
    · exact h.elim
  · -- indexAddr
    split at h
    · rename_i ti p k j hti hp hi
      split at h
      · rename_i e esz bytes hk
        split at h
        · rename_i q ver
          split at h
          · rename_i e' sz rows ver' mver hq
            split at h
            · rename_i hv
              subst hv
              split at h
              · rename_i hs
                obtain ⟨m, cs, hjm, hj, hk2⟩ := h
                subst hjm
                have := good_indexOwn (P := P) (cs := cs) (hΓ _ _ hti) hk hp hq hi (Int.natCast_nonneg m) (by simpa using hj) hs
                exact ⟨_, hk2, by simpa using this⟩
              · exact h.elim
            · exact h.elim
          · exact h.elim
        · obtain ⟨m, cs, hjm, hj, hl, hk2⟩ := h
          subst hjm
          exact ⟨_, hk2, good_indexSl (hΓ _ _ hti) hk hp hi (by omega) (by simpa using hj) hl⟩
        · rename_i q ver lo
          split at h
          · rename_i e' sz rows ver' mver hq
            split at h
            · rename_i hv
              subst hv
              split at h
              · rename_i hs
                obtain ⟨m, cs, hjm, hj, hk2⟩ := h
                exact ⟨_, hk2, good_indexOsl (hΓ _ _ hti) hk hp hq hi hjm hj hs⟩
              · exact h.elim
            · exact h.elim
          · exact h.elim
        · exact h.elim
      · rename_i n esz hk
        split at h
        · obtain ⟨m, ds, rfl, hm, hc, hk2⟩ := h
          exact ⟨_, hk2, good_indexArr (hΓ _ _ hti) hk hp hi hm hc⟩
        · exact h.elim
      · exact h.elim
    · exact h.elim
  · -- index
    split at h
    · rename_i ti s k j hti hp hi
      split at h
      · rename_i hk; exact ⟨_, h.2.2, good_indexStr (hΓ _ _ hti) hk hp hi h.1 h.2.1⟩
      · exact h.elim
    · exact h.elim
  · -- slice
    split at h
    · rename_i ti s hti hp
      split at h
      · rename_i hk
        obtain ⟨l, hh, hl, hhi, h1, h2, r, rfl, hk2⟩ := h
        refine ⟨_, hk2, good_sliceStr (hΓ _ _ hti) hk hp hl ?_ h1 (by simp [sy] at h2; omega)⟩
        split <;> split at hhi <;> simp_all [sy]
        all_goals omega
      · exact h.elim
    · rename_i ti rows hti hp
      split at h
      · rename_i e esz bytes hk
        obtain ⟨l, hh, hl, hhi, h1, h2, h3, r, rfl, hk2⟩ := h
        refine ⟨_, hk2, good_sliceSl (hΓ _ _ hti) hk hp h3 hl ?_ h1 (by simp [sy] at h2; omega)⟩
        split <;> split at hhi <;> simp_all [sy]
        all_goals omega
      · exact h.elim
    · rename_i ti q ver hti hp
      split at h
      · rename_i e' esz bytes o e sz rows ver' m hk hob
        split at h
        · rename_i h1
          subst h1
          split at h
          · rename_i h2
            subst h2
            obtain ⟨l, hl, hle, hk2⟩ := h
            exact ⟨_, hk2, good_sliceOwn (hΓ _ _ hti) hk hp hob hl (by simp [sy] at hle; omega)⟩
          · exact h.elim
        · exact h.elim
      · exact h.elim
    · exact h.elim
  · -- extract
    split at h
    · rename_i vs hp
      split at h
      · exact h.elim
      · rename_i u hn hu; exact ⟨_, h, good_extract hp hu (fun r hr => hn r hr)⟩
      · exact h.elim
    · exact h.elim
  · -- entry
    split at h
    · rename_i k hx
      split at h
      · rename_i hk; exact ⟨_, h, good_entry hx hk⟩
      · exact h.elim
    · exact h.elim
  · -- field
    split at h
    · rename_i cs hp; obtain ⟨r, hc, hk⟩ := h; exact ⟨_, hk, good_field hp hc⟩
    · exact h.elim
  · -- lookup
    split at h
    · rename_i ti p s hti hp hx
      split at h
      · rename_i k e ks vs hkd hm
        split at h
        · rename_i te hte
          obtain ⟨r, hg, hd, h⟩ := h
          exact ⟨_, h, good_lookup (hΓ _ _ hti) hkd (hΓ _ _ hte) hp hx hm hg (fun h0 e0 => by have := hd h0; rw [e0] at this; exact this)⟩
        · exact h.elim
      · exact h.elim
    · exact h.elim
  · -- build
    split at h
    · rename_i ti hti
      split at h
      · rename_i hk
        split at h
        · rename_i cs hcs; exact ⟨_, h, good_build (hΓ _ _ hti) hk hcs⟩
        · exact h.elim
      · rename_i hk
        split at h
        · rename_i hpe; exact ⟨_, h, good_buildArr (hΓ _ _ hti) hk hpe⟩
        · exact h.elim
      · exact h.elim
    · exact h.elim
  · -- buildSlice
    split at h
    · rename_i ti hti
      split at h
      · rename_i e esz bytes hk
        split at h
        · rename_i rows hr
          split at h
          · rename_i hn
            split at h
            · rename_i hb; exact ⟨_, h, good_buildSlice (hΓ _ _ hti) hk hr hn hb⟩
            · exact h.elim
          · exact h.elim
        · exact h.elim
      · exact h.elim
    · exact h.elim
  · -- call
    split at h
    · rename_i g caps as hf ha
      split at h
      · rename_i hall
        obtain ⟨r, hc, hk⟩ := h
        exact ⟨_, hk, good_call hf ha (fun c hc => List.all_eq_true.1 hall c hc) hc⟩
      · exact h.elim
    · exact h.elim
  · -- len
    rename_i args ats
    split at h
    · rename_i x hx
      have hxe : args = #[x] := by rw [← Array.toList_inj]; simpa using hx
      subst hxe
      split at h
      · rename_i s hp
        split at h
        · rename_i t ht
          have hte : ats = #[t] := by rw [← Array.toList_inj]; simpa using ht
          subst hte
          split at h
          · rename_i ti hti
            split at h
            · rename_i hk; exact ⟨_, h, good_lenStr (hΓ _ _ hti) hk hp⟩
            · exact h.elim
          · exact h.elim
        · exact h.elim
      · rename_i q ver lo hp
        split at h
        · rename_i e' sz rows ver' mver hq
          split at h
          · rename_i t ht
            have hte : ats = #[t] := by rw [← Array.toList_inj]; simpa using ht
            subst hte
            split at h
            · rename_i ti hti
              split at h
              · rename_i e esz bytes hk
                split at h
                · rename_i hv; subst hv; exact ⟨_, h, good_lenOsl (hΓ _ _ hti) hk hp hq⟩
                · exact h.elim
              · exact h.elim
            · exact h.elim
          · exact h.elim
        · exact h.elim
      · rename_i u hns hns2 hp
        split at h
        · rename_i rows hr
          split at h
          · rename_i t ht
            have hte : ats = #[t] := by rw [← Array.toList_inj]; simpa using ht
            subst hte
            split at h
            · rename_i ti hti
              split at h
              · rename_i e esz bytes hk; exact ⟨_, h, good_lenSl (hΓ _ _ hti) hk hp hr⟩
              · exact h.elim
            · exact h.elim
          · exact h.elim
        · exact h.elim
      · exact h.elim
    · exact h.elim
  · split at h
    · rename_i hp; exact ⟨_, h, good_max hp⟩
    · exact h.elim
  · split at h
    · rename_i hp; exact ⟨_, h, good_min hp⟩
    · exact h.elim
  · exact h.elim
end Go.Proofs.YthepmpfkkhckpaaGreatDoor.Am
