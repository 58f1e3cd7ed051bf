import Derived.Test.YtgfhddockofdnaaE24
import Derived.Test.YtgfhddockofdnaaW16
open Go Go.Proofs
set_option linter.unusedVariables false
set_option linter.unusedSimpArgs false
set_option maxRecDepth 4000
set_option maxHeartbeats 4000000
namespace Go.Eng
attribute [local irreducible] Good ACalls runL regW stepW opW gdV' gdD condW gifW binW arW loadW storeW idxAW lenW appW appBW cutW onSome onBnd callW fldAW Again thenQ blockQ resW endQ Up loadR
/-! ### the law on remainders -/
theorem small_of {a : List (List Int)} (h : ¬ LargeP a) : a.length ≤ 1000000 ∧ ∀ i, i < a.length → (a.getD i []).length ≤ 1000000 := by
  refine ⟨by rcases Nat.lt_or_ge 20 a.length with hl | hl; exact absurd (.inl hl) h; omega, fun i hi => ?_⟩
  rcases Nat.lt_or_ge 20 (a.getD i []).length with hl | hl
  · exact absurd (.inr ⟨i, hi, hl⟩) h
  · omega
theorem redM_small {a : List (List Int)} {m : Int} (h : a.length ≤ 1000000 ∧ ∀ i, i < a.length → (a.getD i []).length ≤ 1000000) : (redM a m).length ≤ 1000000 ∧ ∀ i, i < (redM a m).length → ((redM a m).getD i []).length ≤ 1000000 := by
  refine ⟨by rw [redM_length]; exact h.1, fun i hi => ?_⟩
  rw [redM_length] at hi
  rw [redM_get a m i hi, List.length_map]; exact h.2 i hi
theorem nil_small : ([] : List (List Int)).length ≤ 1000000 ∧ ∀ i, i < ([] : List (List Int)).length → (([] : List (List Int)).getD i []).length ≤ 1000000 := ⟨by simp, fun i hi => absurd hi (Nat.not_lt_zero _)⟩
theorem l_Residues (a : List (List Int)) (k raw : Int) (wild : Bool) (hk : 0 ≤ k ∧ k ≤ 65535) (h : AH) : ACalls Try.prog 6 [matV a, .int .u16 k, .int .i64 raw, .bool wild] h (fun v h' => v = .bool true ∧ h' = h) := by
  refine acalls_of_good 4 44 [.tmp 8] Try.func6 rfl rfl (by kernel_rfl) rfl rfl (by decide) ?_
  simp (disch := first | assumption | omega) only [go_sem, Option.map, List.isEmpty, ↓reduceIte, Nat.reduceEqDiff, Nat.reduceAdd, Nat.reduceSub, Nat.reduceMul, Nat.reduceLT, Nat.reduceLeDiff, reduceCtorEq, Nat.reduceBEq, Nat.reduceBNe, Int.reduceNeg, Int.reduceLE, Int.reduceLT, Int.reduceToNat]
  by_cases hl : LargeP a
  · repeat' (first | (first | refine good_seq ?_ | refine good_reg false (fun K hK => ?_) | (refine runL_nil (hK _ _ ?_); clear hK K) | refine runL_none rfl (fun K2 hK2 => ?_) | refine runL_some rfl rfl (fun R S hR hS => ?_) | (refine hK2 _ _ ?_; clear hK2 K2) | (refine hK2 _ _ ?_ ?_ <;> clear hK2 K2) | (refine regW_nil (hK _ _ ?_); clear hK K) | (refine regW_load rfl rfl rfl (fun F1 F2 hF1 hF2 => ?_)) | (refine hF1 _ ?_ ?_ <;> clear hF1 hF2 F1 F2) | (refine hF2 _ _ (fun K2 hK2 => ?_); clear hF1 hF2 F1 F2) | refine regW_light rfl rfl rfl (fun _ _ => rfl) (fun K2 hK2 => ?_) | refine regW_lguard rfl rfl rfl rfl (fun _ _ => rfl) (fun R S hR hS => ?_) | refine regW_heavy rfl rfl (fun K2 hK2 => ?_) | with_reducible refine log_goal ?_ | (refine hR _ (fun K2 hK2 => ?_); clear hR hS R S) | (refine hS _ ?_; clear hR hS R S) | refine good_block ?_ | refine good_skip ?_ | refine good_exit ?_ | refine good_ret ?_ | refine good_cond ?_ | refine And.intro ?_ ?_ | intro _) <;> try simp (disch := first | assumption | omega) only [go_sem, Option.map, List.isEmpty, ↓reduceIte, Nat.reduceEqDiff, Nat.reduceAdd, Nat.reduceSub, Nat.reduceMul, Nat.reduceLT, Nat.reduceLeDiff, reduceCtorEq, Nat.reduceBEq, Nat.reduceBNe, Int.reduceNeg, Int.reduceLE, Int.reduceLT, Int.reduceToNat] | ((first | (refine ACalls.mono (c_large a _) (fun v h' hv => ?_); obtain ⟨hv1, hh⟩ := hv; subst h'; rcases hv1 with ⟨rfl, -⟩ | ⟨-, hl2⟩; rotate_left; exact absurd hl hl2) | (refine ACalls.mono (c_awake _) (fun v h' hv => ?_); obtain ⟨rfl, hh⟩ := hv; subst h')) <;> try simp (disch := first | assumption | omega) only [go_sem, Option.map, List.isEmpty, ↓reduceIte, Nat.reduceEqDiff, Nat.reduceAdd, Nat.reduceSub, Nat.reduceMul, Nat.reduceLT, Nat.reduceLeDiff, reduceCtorEq, Nat.reduceBEq, Nat.reduceBNe, Int.reduceNeg, Int.reduceLE, Int.reduceLT, Int.reduceToNat]) | omega)
  · have hs := small_of hl
    obtain ⟨m, hm⟩ : ∃ x, x = (if wild = true then raw else 2 + k) := ⟨_, rfl⟩
    have hrs : (resM a m).length ≤ 1000000 ∧ ∀ i, i < (resM a m).length → ((resM a m).getD i []).length ≤ 1000000 := by
      unfold resM; split
      · split
        · exact redM_small hs
        · exact nil_small
      · exact nil_small
    have hee : ((resE a m == resE a m) : Bool) = true := by simp
    repeat' (first | (first | refine good_seq ?_ | refine good_reg false (fun K hK => ?_) | (refine runL_nil (hK _ _ ?_); clear hK K) | refine runL_none rfl (fun K2 hK2 => ?_) | refine runL_some rfl rfl (fun R S hR hS => ?_) | (refine hK2 _ _ ?_; clear hK2 K2) | (refine hK2 _ _ ?_ ?_ <;> clear hK2 K2) | (refine regW_nil (hK _ _ ?_); clear hK K) | (refine regW_load rfl rfl rfl (fun F1 F2 hF1 hF2 => ?_)) | (refine hF1 _ ?_ ?_ <;> clear hF1 hF2 F1 F2) | (refine hF2 _ _ (fun K2 hK2 => ?_); clear hF1 hF2 F1 F2) | refine regW_light rfl rfl rfl (fun _ _ => rfl) (fun K2 hK2 => ?_) | refine regW_lguard rfl rfl rfl rfl (fun _ _ => rfl) (fun R S hR hS => ?_) | refine regW_heavy rfl rfl (fun K2 hK2 => ?_) | with_reducible refine log_goal ?_ | (refine hR _ (fun K2 hK2 => ?_); clear hR hS R S) | (refine hS _ ?_; clear hR hS R S) | refine good_block ?_ | refine good_skip ?_ | refine good_exit ?_ | refine good_ret ?_ | refine good_cond ?_ | refine And.intro ?_ ?_ | intro _) <;> try simp (disch := first | assumption | omega) only [go_sem, Option.map, List.isEmpty, ↓reduceIte, Nat.reduceEqDiff, Nat.reduceAdd, Nat.reduceSub, Nat.reduceMul, Nat.reduceLT, Nat.reduceLeDiff, reduceCtorEq, Nat.reduceBEq, Nat.reduceBNe, Int.reduceNeg, Int.reduceLE, Int.reduceLT, Int.reduceToNat, hee] | ((first | (refine ACalls.mono (c_large a _) (fun v h' hv => ?_); obtain ⟨hv1, hh⟩ := hv; subst h'; rcases hv1 with ⟨-, hl2⟩ | ⟨rfl, -⟩; exact absurd hl2 hl) | (refine ACalls.mono (c_awake _) (fun v h' hv => ?_); obtain ⟨rfl, hh⟩ := hv; subst h') | (refine ACalls.mono (c_lmodulus k raw wild hk _) (fun v h' hv => ?_); obtain ⟨rfl, hh⟩ := hv; subst h'; rw [← hm]) | (refine ACalls.mono (c_mResidues a m _) (fun v h' hv => ?_); obtain ⟨rfl, hh⟩ := hv; subst h') | (refine ACalls.mono (c_rResidues a m _) (fun v h' hv => ?_); obtain ⟨rfl, hh⟩ := hv; subst h') | (refine ACalls.mono (c_Same _ _ hrs.1 hrs.2 _) (fun v h' hv => ?_); obtain ⟨rfl, hh⟩ := hv; subst h')) <;> try simp (disch := first | assumption | omega) only [go_sem, Option.map, List.isEmpty, ↓reduceIte, Nat.reduceEqDiff, Nat.reduceAdd, Nat.reduceSub, Nat.reduceMul, Nat.reduceLT, Nat.reduceLeDiff, reduceCtorEq, Nat.reduceBEq, Nat.reduceBNe, Int.reduceNeg, Int.reduceLE, Int.reduceLT, Int.reduceToNat, hee]) | omega)
    all_goals trace_state
end Go.Eng
