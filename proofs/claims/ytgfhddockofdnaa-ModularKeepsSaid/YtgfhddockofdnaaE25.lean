/- An engine, part 25: a block of rows that stay, handed out. Over any program. -/
import Derived.Test.YtgfhddockofdnaaE24
set_option linter.unusedVariables false
set_option linter.unusedSimpArgs false
namespace Go.Eng
open Go.RowKit (Below)
theorem ACalls.sealB {P : Program} {f : FuncId} {args : List AV} {h : AH} {u : AV} (hc : ACalls P f args h (fun v h' => ∃ b cs n c, v = .bsl b 0 n c ∧ h'.f b = some cs ∧ allB pur cs = true ∧ allB oneA cs = true ∧ n ≤ cs.length ∧ h.n ≤ b ∧ Ext h h' ∧ Up (.tree 1 ((roL cs).take n) .ro) u)) : ACalls P f args h (fun v h' => v = u ∧ h' = h) := fun ρ w argc hR hL =>
  Calls.mono (hc ρ w argc hR hL) fun e w' he => by
    cases e with
    | returned vc =>
      obtain ⟨ρ', v, h', h1, h2, h3, b, cs, n, c, rfl, g1, g2, g3, g4, g5, g6, g7⟩ := he
      obtain ⟨ρ2, k1, k2, k3⟩ := h2.freeze g1 g2 g3
      obtain ⟨q1, q2⟩ := hR.cut (h1.trans k1) k2 (g6.rm g5)
      exact ⟨_, u, h, q2, q1, g7 _ _ (.pure _ _ (show PV ρ2.prot _ _ from k3 n c vc g4 h3)), rfl, rfl⟩
    | panicked c => exact he
    | outgrown => exact he
theorem app_get (D : List AV) (v : AV) (r : List AV) : (D ++ v :: r).getD D.length .junk = v := by simp [List.getD_eq_getElem?_getD]
theorem app_set (D : List AV) (v w : AV) (r : List AV) : (D ++ v :: r).set D.length w = D ++ w :: r := by
  rw [List.set_append_right _ _ (Nat.le_refl _), Nat.sub_self]; rfl
theorem roL_append : ∀ (a b : List AV), roL (a ++ b) = roL a ++ roL b
  | [], b => by simp only [roL, List.nil_append]
  | x :: a, b => by simp only [List.cons_append, roL, roL_append a b]
theorem allB_append {p : AV → Bool} : ∀ {a b : List AV}, allB p a = true → allB p b = true → allB p (a ++ b) = true
  | [], b, _, h => h
  | x :: a, b, h1, h2 => by
    simp only [allB, Bool.and_eq_true] at h1
    simp only [List.cons_append, allB, Bool.and_eq_true]
    exact ⟨h1.1, allB_append h1.2 h2⟩
end Go.Eng
