import Derived.Test.YtljpmnifkccbdaaS1
set_option linter.unusedSimpArgs false
set_option linter.unusedVariables false
namespace Go.Proofs.Ytljpmnifkccbdaa
open Go Go.RowKit Am

theorem swapF_get (r : List (List AV)) (a b : Nat) : ∀ (n : Nat), a + n ≤ b → b + n ≤ r.length → ∀ k, (swapF r a b n)[k]? = if a ≤ k ∧ k < a + n then r[k - a + b]? else if b ≤ k ∧ k < b + n then r[k - b + a]? else r[k]? := by
  intro n
  induction n with
  | zero => intro _ _ k; simp only [swapF]; rw [if_neg (by omega), if_neg (by omega)]
  | succ n ih =>
    intro h1 h2 k
    have ih := ih (by omega) (by omega)
    have e1 : (swapF r a b n)[a + n]? = r[a + n]? := by rw [ih, if_neg (by omega), if_neg (by omega)]
    have e2 : (swapF r a b n)[b + n]? = r[b + n]? := by rw [ih, if_neg (by omega), if_neg (by omega)]
    have ha : a + n < r.length := by omega
    have hb : b + n < r.length := by omega
    have hl := swapF_len r a b n
    rw [List.getElem?_eq_getElem ha] at e1
    rw [List.getElem?_eq_getElem hb] at e2
    simp only [swapF, swap1, e1, e2, List.getElem?_set, List.length_set, hl]
    by_cases hk : b + n = k
    · subst hk
      rw [if_pos rfl, if_pos hb, if_neg (by omega), if_pos (by omega), show b + n - b + a = a + n by omega, List.getElem?_eq_getElem ha]
    · rw [if_neg hk]
      by_cases hk2 : a + n = k
      · subst hk2
        rw [if_pos rfl, if_pos ha, if_pos (by omega), show a + n - a + b = b + n by omega, List.getElem?_eq_getElem hb]
      · rw [if_neg hk2]
        have i := ih k
        by_cases c1 : a ≤ k ∧ k < a + n
        · rw [if_pos c1] at i
          rw [i, if_pos (by omega)]
        · rw [if_neg c1] at i
          by_cases c2 : b ≤ k ∧ k < b + n
          · rw [if_pos c2] at i
            rw [i, if_neg (by omega), if_pos (by omega)]
          · rw [if_neg c2] at i
            rw [i, if_neg (by omega), if_neg (by omega)]
theorem swapF_mid (P X M Y Q : List (List AV)) (a b n : Nat) (ha : a = P.length) (hx : X.length = n) (hy : Y.length = n) (hb : b = P.length + n + M.length) : swapF (P ++ (X ++ (M ++ (Y ++ Q)))) a b n = P ++ (Y ++ (M ++ (X ++ Q))) := by
  subst ha hb
  apply List.ext_getElem?
  intro k
  rw [swapF_get _ _ _ _ (by omega) (by simp; omega)]
  simp only [List.getElem?_append]
  (repeat' split) <;> first | rfl | (exfalso; omega) | (congr 1; omega)
end Go.Proofs.Ytljpmnifkccbdaa
