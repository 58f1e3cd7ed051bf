import Derived.Test.YtgfhddockofdnaaE18
import Derived.Test.YtgfhddockofdnaaW2
open Go Go.Proofs
set_option linter.unusedVariables false
set_option linter.unusedSimpArgs false
set_option maxRecDepth 4000
set_option maxHeartbeats 4000000
namespace Go.Eng
attribute [local irreducible] Good ACalls runL regW stepW opW gdV' gdD condW gifW binW arW loadW storeW idxAW lenW appW appBW cutW onSome onBnd callW fldAW Again thenQ blockQ resW endQ Up loadR
/-! ### remainders -/
theorem c_reduced (a : List (List Int)) (k : Nat) (m : Int) (hm : 0 < m ∧ m ≤ 4611686018427387904) (hl : a.length ≤ 1000000 ∧ k ≤ 1000000) (hr : ∀ i, i < a.length → (a.getD i []).length = k) (h : AH) :
    ACalls Try.prog 47 [matV a, .int .i64 m] h (fun v h' => v = .bsl h.n 0 a.length .full ∧ h' = pmH h a.length k (a.map fun r => r.map (· % m))) := by
  refine acalls_of_good 2 45 [.tmp 4] Try.func47 rfl rfl (by kernel_rfl) rfl rfl (by decide) ?_
  simp (disch := omega) only [go_sem, Option.map, List.isEmpty, ↓reduceIte, Nat.reduceEqDiff, Nat.reduceAdd, Nat.reduceSub, Nat.reduceMul, Nat.reduceLT, Nat.reduceLeDiff, reduceCtorEq, Nat.reduceBEq, Nat.reduceBNe, Int.reduceNeg, Int.reduceLE, Int.reduceLT, Int.reduceToNat]
  repeat' (first | (first | refine good_seq ?_ | refine good_reg false (fun K hK => ?_) | (refine runL_nil (hK _ _ ?_); clear hK K) | refine runL_none rfl (fun K2 hK2 => ?_) | refine runL_some rfl rfl (fun R S hR hS => ?_) | (refine hK2 _ _ ?_; clear hK2 K2) | (refine hK2 _ _ ?_ ?_ <;> clear hK2 K2) | (refine regW_nil (hK _ _ ?_); clear hK K) | (refine regW_load rfl rfl rfl (fun F1 F2 hF1 hF2 => ?_)) | (refine hF1 _ ?_ ?_ <;> clear hF1 hF2 F1 F2) | (refine hF2 _ _ (fun K2 hK2 => ?_); clear hF1 hF2 F1 F2) | refine regW_light rfl rfl rfl (fun _ _ => rfl) (fun K2 hK2 => ?_) | refine regW_lguard rfl rfl rfl rfl (fun _ _ => rfl) (fun R S hR hS => ?_) | refine regW_heavy rfl rfl (fun K2 hK2 => ?_) | with_reducible refine log_goal ?_ | (refine hR _ (fun K2 hK2 => ?_); clear hR hS R S) | (refine hS _ ?_; clear hR hS R S) | refine good_block ?_ | refine good_skip ?_ | refine good_exit ?_ | refine good_ret ?_ | refine good_cond ?_ | refine And.intro ?_ ?_ | intro _) <;> try simp (disch := omega) only [go_sem, Option.map, List.isEmpty, ↓reduceIte, Nat.reduceEqDiff, Nat.reduceAdd, Nat.reduceSub, Nat.reduceMul, Nat.reduceLT, Nat.reduceLeDiff, reduceCtorEq, Nat.reduceBEq, Nat.reduceBNe, Int.reduceNeg, Int.reduceLE, Int.reduceLT, Int.reduceToNat] | omega)
  refine good_loop_s (σ := List (List Int)) (fun R => [(0, matV a), (1, .int .i64 m), (5, .bsl h.n 0 a.length .full), (13, matV a), (14, .int .i64 a.length), (15, .int .i64 R.length)]) (fun R => pmH h a.length k R) (fun R => R.length ≤ a.length ∧ R = (a.take R.length).map fun r => r.map (· % m)) (fun R => a.length - R.length) [] ?_ ?_ ⟨by simp, by simp⟩ ?_
  · simp (disch := omega) only [go_sem, Option.map, List.isEmpty, ↓reduceIte, Nat.reduceEqDiff, Nat.reduceAdd, Nat.reduceSub, Nat.reduceMul, Nat.reduceLT, Nat.reduceLeDiff, reduceCtorEq, Nat.reduceBEq, Nat.reduceBNe, Int.reduceNeg, Int.reduceLE, Int.reduceLT, Int.reduceToNat]; (try (refine ⟨?_, ?_⟩ <;> omega)); (try omega)
  · exact pm_zero.symm
  · intro R hR n hn
    repeat' (first | (first | refine good_seq ?_ | refine good_reg false (fun K hK => ?_) | (refine runL_nil (hK _ _ ?_); clear hK K) | refine runL_none rfl (fun K2 hK2 => ?_) | refine runL_some rfl rfl (fun R S hR hS => ?_) | (refine hK2 _ _ ?_; clear hK2 K2) | (refine hK2 _ _ ?_ ?_ <;> clear hK2 K2) | (refine regW_nil (hK _ _ ?_); clear hK K) | (refine regW_load rfl rfl rfl (fun F1 F2 hF1 hF2 => ?_)) | (refine hF1 _ ?_ ?_ <;> clear hF1 hF2 F1 F2) | (refine hF2 _ _ (fun K2 hK2 => ?_); clear hF1 hF2 F1 F2) | refine regW_light rfl rfl rfl (fun _ _ => rfl) (fun K2 hK2 => ?_) | refine regW_lguard rfl rfl rfl rfl (fun _ _ => rfl) (fun R S hR hS => ?_) | refine regW_heavy rfl rfl (fun K2 hK2 => ?_) | with_reducible refine log_goal ?_ | (refine hR _ (fun K2 hK2 => ?_); clear hR hS R S) | (refine hS _ ?_; clear hR hS R S) | refine good_block ?_ | refine good_skip ?_ | refine good_exit ?_ | refine good_ret ?_ | refine good_cond ?_ | refine And.intro ?_ ?_ | intro _) <;> try simp (disch := omega) only [go_sem, Option.map, List.isEmpty, ↓reduceIte, Nat.reduceEqDiff, Nat.reduceAdd, Nat.reduceSub, Nat.reduceMul, Nat.reduceLT, Nat.reduceLeDiff, reduceCtorEq, Nat.reduceBEq, Nat.reduceBNe, Int.reduceNeg, Int.reduceLE, Int.reduceLT, Int.reduceToNat] | omega)
    · rw [hr _ (by omega)]; omega
    · rw [hr _ (by omega)]; omega
    · have hk := hr R.length (by omega)
      refine good_loop_s (σ := Nat) (fun j => [(0, matV a), (1, .int .i64 m), (5, .bsl h.n 0 a.length .full), (6, .int .i64 R.length), (13, matV a), (14, .int .i64 a.length), (15, .int .i64 R.length), (26, rowV (a.getD R.length [])), (27, .int .i64 (a.getD R.length []).length), (28, .int .i64 j)])
        (fun j => pmH h a.length k (R ++ [fill (· % m) (a.getD R.length []) j])) (fun j => j ≤ k) (fun j => k - j) 0 ?_ ?_ (Nat.zero_le _) ?_
      · simp (disch := omega) only [go_sem, Option.map, List.isEmpty, ↓reduceIte, Nat.reduceEqDiff, Nat.reduceAdd, Nat.reduceSub, Nat.reduceMul, Nat.reduceLT, Nat.reduceLeDiff, reduceCtorEq, Nat.reduceBEq, Nat.reduceBNe, Int.reduceNeg, Int.reduceLE, Int.reduceLT, Int.reduceToNat]; (try (refine ⟨?_, ?_⟩ <;> omega)); (try omega)
      · rw [fill_zero, hk]; exact (pm_more (by omega) _).symm
      · intro j hj n' hn'
        have hfl := fill_length (f := (· % m)) (row := a.getD R.length []) (j := j) (by omega)
        repeat' (first | (first | refine good_seq ?_ | refine good_reg false (fun K hK => ?_) | (refine runL_nil (hK _ _ ?_); clear hK K) | refine runL_none rfl (fun K2 hK2 => ?_) | refine runL_some rfl rfl (fun R S hR hS => ?_) | (refine hK2 _ _ ?_; clear hK2 K2) | (refine hK2 _ _ ?_ ?_ <;> clear hK2 K2) | (refine regW_nil (hK _ _ ?_); clear hK K) | (refine regW_load rfl rfl rfl (fun F1 F2 hF1 hF2 => ?_)) | (refine hF1 _ ?_ ?_ <;> clear hF1 hF2 F1 F2) | (refine hF2 _ _ (fun K2 hK2 => ?_); clear hF1 hF2 F1 F2) | refine regW_light rfl rfl rfl (fun _ _ => rfl) (fun K2 hK2 => ?_) | refine regW_lguard rfl rfl rfl rfl (fun _ _ => rfl) (fun R S hR hS => ?_) | refine regW_heavy rfl rfl (fun K2 hK2 => ?_) | with_reducible refine log_goal ?_ | (refine hR _ (fun K2 hK2 => ?_); clear hR hS R S) | (refine hS _ ?_; clear hR hS R S) | refine good_block ?_ | refine good_skip ?_ | refine good_exit ?_ | refine good_ret ?_ | refine good_cond ?_ | refine And.intro ?_ ?_ | intro _) <;> try simp (disch := omega) only [go_sem, Option.map, List.isEmpty, ↓reduceIte, Nat.reduceEqDiff, Nat.reduceAdd, Nat.reduceSub, Nat.reduceMul, Nat.reduceLT, Nat.reduceLeDiff, reduceCtorEq, Nat.reduceBEq, Nat.reduceBNe, Int.reduceNeg, Int.reduceLE, Int.reduceLT, Int.reduceToNat] | ((first | refine good_drw (id := 9) mixed false [[], [], [0, 1], [0, 1, 2], [], [], [], [5, 6], [0, 1, 2, 3, 4, 5, 6, 7], [0, 1, 2, 3, 4, 5, 6, 7, 8]] [0, 1, 2, 3, 4, 5, 6, 7, 8, 9] (by decide +kernel) (fun K hK => ?_) | (refine ACalls.mono (c_residue _ _ hm _) (fun v h' hv => ?_); obtain ⟨rfl, rfl⟩ := hv)) <;> try simp (disch := omega) only [go_sem, Option.map, List.isEmpty, ↓reduceIte, Nat.reduceEqDiff, Nat.reduceAdd, Nat.reduceSub, Nat.reduceMul, Nat.reduceLT, Nat.reduceLeDiff, reduceCtorEq, Nat.reduceBEq, Nat.reduceBNe, Int.reduceNeg, Int.reduceLE, Int.reduceLT, Int.reduceToNat]) | omega)
        · refine Again.to (j + 1) (by omega) (by omega) ?_ ?_
          · simp (disch := omega) only [go_sem, Option.map, List.isEmpty, ↓reduceIte, Nat.reduceEqDiff, Nat.reduceAdd, Nat.reduceSub, Nat.reduceMul, Nat.reduceLT, Nat.reduceLeDiff, reduceCtorEq, Nat.reduceBEq, Nat.reduceBNe, Int.reduceNeg, Int.reduceLE, Int.reduceLT, Int.reduceToNat]; (try (refine ⟨?_, ?_⟩ <;> omega)); (try omega)
          · rw [← fill_set (f := (· % m)) (row := a.getD R.length []) (j := j) (by omega)]
        · refine Again.to (R ++ [(a.getD R.length []).map (· % m)]) ⟨?_, ?_⟩ ?_ ?_ ?_
          · simp; omega
          · have hlt : R.length < a.length := by omega
            rw [List.length_append, List.length_singleton, List.take_add_one, List.map_append, ← hR.2]
            simp [List.getD_eq_getElem?_getD, hlt]
          · simp; omega
          · simp (disch := omega) only [go_sem, Option.map, List.isEmpty, ↓reduceIte, Nat.reduceEqDiff, Nat.reduceAdd, Nat.reduceSub, Nat.reduceMul, Nat.reduceLT, Nat.reduceLeDiff, reduceCtorEq, Nat.reduceBEq, Nat.reduceBNe, Int.reduceNeg, Int.reduceLE, Int.reduceLT, Int.reduceToNat]; (try (refine ⟨?_, ?_⟩ <;> omega)); (try omega)
          · have : j = (a.getD R.length []).length := by omega
            rw [this, fill_full]
    · have : R.length = a.length := by omega
      have h2 := hR.2
      rw [this, List.take_length] at h2
      rw [h2]
/-- The matrix of the remainders. -/
def redM (a : List (List Int)) (m : Int) : List (List Int) := a.map fun r => r.map (· % m)
theorem c_reducedV (a : List (List Int)) (k : Nat) (m : Int) (hm : 0 < m ∧ m ≤ 4611686018427387904) (hl : a.length ≤ 1000000 ∧ k ≤ 1000000) (hr : ∀ i, i < a.length → (a.getD i []).length = k) (h : AH) :
    ACalls Try.prog 47 [matV a, .int .i64 m] h (fun v h' => v = matV (redM a m) ∧ h' = h) := by
  have hl' : (redM a m).length = a.length := by simp [redM]
  refine ACalls.frozen (m := k) (R := redM a m) (fun r hr' => ?_) ?_
  · obtain ⟨q, hq, rfl⟩ := List.mem_map.1 hr'
    obtain ⟨i, hi, rfl⟩ := List.mem_iff_getElem.1 hq
    have := hr i hi
    simpa [List.getD_eq_getElem?_getD, hi] using this
  · rw [hl']; exact c_reduced a k m hm hl hr h
end Go.Eng
