import Derived.Test.YtgfhddockofdnaaE23
import Derived.Test.YtgfhddockofdnaaW15
open Go Go.Proofs
set_option linter.unusedVariables false
set_option linter.unusedSimpArgs false
set_option maxRecDepth 4000
set_option maxHeartbeats 4000000
namespace Go.Eng
attribute [local irreducible] Good ACalls runL regW stepW opW gdV' gdD condW gifW binW arW loadW storeW idxAW lenW appW appBW cutW onSome onBnd callW fldAW Again thenQ blockQ resW endQ Up loadR
/-! ### the sanity check -/
theorem ret_args1 {f : FuncId} {x x' y : AV} {h : AH} {R : AV → AH → Prop} (hu : Up x x') (hc : ACalls Try.prog f [x', y] h R) : ACalls Try.prog f [x, y] h R := hc.args rfl fun i hi => by
  match i with
  | 0 => exact hu
  | 1 => exact Up.refl _
  | n + 2 => exact absurd hi (by simp)
theorem ret_args2 {f : FuncId} {x y y' : AV} {h : AH} {R : AV → AH → Prop} (hu : Up y y') (hc : ACalls Try.prog f [x, y'] h R) : ACalls Try.prog f [x, y] h R := hc.args rfl fun i hi => by
  match i with
  | 0 => exact Up.refl _
  | 1 => exact hu
  | n + 2 => exact absurd hi (by simp)
theorem aw1 : echR [[2, 4], [1, 1]] 2 = [[1, 1]] ∧ echP [[2, 4], [1, 1]] 2 = [0] ∧ echE [[2, 4], [1, 1]] 2 = 0 := by decide +kernel
theorem aw2 : kernM [[1, 1]] 3 = [[1, 2]] ∧ echE [[1, 1]] 3 = 0 := by decide +kernel
theorem aw3 : invB (2 % 9) 9 = true ∧ invF (2 % 9) 9 % 9 = 5 := by decide +kernel
theorem aw4 : invB (3 % 9) 9 = false := by decide +kernel
theorem c_awake (h : AH) : ACalls Try.prog 16 [] h (fun v h' => v = .bool true ∧ h' = h) := by
  have e1 := aw1.1
  have e2 := aw1.2.1
  have e3 := aw1.2.2
  have k1 := aw2.1
  have k2 := aw2.2
  have i1 := aw3.1
  have i2 := aw3.2
  have i3 := aw4
  refine acalls_of_good 0 73 [.tmp 0] Try.func16 rfl rfl (by kernel_rfl) rfl rfl (by decide) ?_
  simp (disch := first | assumption | omega) only [go_sem, Option.map, List.isEmpty, ↓reduceIte, Nat.reduceEqDiff, Nat.reduceAdd, Nat.reduceSub, Nat.reduceMul, Nat.reduceLT, Nat.reduceLeDiff, reduceCtorEq, Nat.reduceBEq, Nat.reduceBNe, Int.reduceNeg, Int.reduceLE, Int.reduceLT, Int.reduceToNat]
  repeat' (first | (first | refine good_seq ?_ | refine good_reg false (fun K hK => ?_) | (refine runL_nil (hK _ _ ?_); clear hK K) | refine runL_none rfl (fun K2 hK2 => ?_) | refine runL_some rfl rfl (fun R S hR hS => ?_) | (refine hK2 _ _ ?_; clear hK2 K2) | (refine hK2 _ _ ?_ ?_ <;> clear hK2 K2) | (refine regW_nil (hK _ _ ?_); clear hK K) | (refine regW_load rfl rfl rfl (fun F1 F2 hF1 hF2 => ?_)) | (refine hF1 _ ?_ ?_ <;> clear hF1 hF2 F1 F2) | (refine hF2 _ _ (fun K2 hK2 => ?_); clear hF1 hF2 F1 F2) | refine regW_light rfl rfl rfl (fun _ _ => rfl) (fun K2 hK2 => ?_) | refine regW_lguard rfl rfl rfl rfl (fun _ _ => rfl) (fun R S hR hS => ?_) | refine regW_heavy rfl rfl (fun K2 hK2 => ?_) | with_reducible refine log_goal ?_ | (refine hR _ (fun K2 hK2 => ?_); clear hR hS R S) | (refine hS _ ?_; clear hR hS R S) | refine good_block ?_ | refine good_skip ?_ | refine good_exit ?_ | refine good_ret ?_ | refine good_cond ?_ | refine And.intro ?_ ?_ | intro _) <;> try simp (disch := first | assumption | omega) only [go_sem, Option.map, List.isEmpty, ↓reduceIte, Nat.reduceEqDiff, Nat.reduceAdd, Nat.reduceSub, Nat.reduceMul, Nat.reduceLT, Nat.reduceLeDiff, reduceCtorEq, Nat.reduceBEq, Nat.reduceBNe, Int.reduceNeg, Int.reduceLE, Int.reduceLT, Int.reduceToNat] | ((first | (refine ret_args1 (Up.lit [[2, 4], [1, 1]] _ _) ?_; refine ACalls.mono (c_Echelon _ _ _) (fun v h' hv => ?_); obtain ⟨rfl, hh⟩ := hv; subst h'; rw [e1, e2, e3]) | (refine ret_args1 (Up.lit [[1, 1]] _ _) ?_; refine ACalls.mono (c_Kernel _ _ _) (fun v h' hv => ?_); obtain ⟨rfl, hh⟩ := hv; subst h'; rw [k1, k2]) | (refine ret_args1 (Up.lit [[2]] _ _) ?_; refine ACalls.mono (c_Inverse1 2 9 (by decide) _) (fun v h' hv => ?_); obtain ⟨rfl, hh⟩ := hv; subst h'; rw [if_pos i1, if_pos i1, i2]) | (refine ret_args1 (Up.lit [[3]] _ _) ?_; refine ACalls.mono (c_Inverse1 3 9 (by decide) _) (fun v h' hv => ?_); obtain ⟨rfl, hh⟩ := hv; subst h'; rw [i3]) | (refine ret_args2 (Up.lit [[1, 1]] _ _) ?_; refine ACalls.mono (c_Same _ _ (by simp) (by decide) _) (fun v h' hv => ?_); obtain ⟨rfl, hh⟩ := hv; subst h') | (refine ret_args2 (Up.lit [[1, 2]] _ _) ?_; refine ACalls.mono (c_Same _ _ (by simp) (by decide) _) (fun v h' hv => ?_); obtain ⟨rfl, hh⟩ := hv; subst h') | (refine ret_args2 (Up.lit [[5]] _ _) ?_; refine ACalls.mono (c_Same _ _ (by simp) (by decide) _) (fun v h' hv => ?_); obtain ⟨rfl, hh⟩ := hv; subst h')) <;> try simp (disch := first | assumption | omega) only [go_sem, Option.map, List.isEmpty, ↓reduceIte, Nat.reduceEqDiff, Nat.reduceAdd, Nat.reduceSub, Nat.reduceMul, Nat.reduceLT, Nat.reduceLeDiff, reduceCtorEq, Nat.reduceBEq, Nat.reduceBNe, Int.reduceNeg, Int.reduceLE, Int.reduceLT, Int.reduceToNat]) | omega)
  all_goals trace_state
end Go.Eng
