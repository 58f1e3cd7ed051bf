import Derived.Test.YtgfhddockofdnaaE19
import Derived.Test.YtgfhddockofdnaaW9
open Go Go.Proofs
set_option linter.unusedVariables false
set_option linter.unusedSimpArgs false
set_option maxRecDepth 4000
set_option maxHeartbeats 4000000
namespace Go.Eng
attribute [local irreducible] Good ACalls runL regW stepW opW gdV' gdD condW gifW binW arW loadW storeW idxAW lenW appW appBW cutW onSome onBnd callW fldAW Again thenQ blockQ resW endQ Up loadR
/-! ### prime numbers -/
def isP (n : Int) : Bool := decide (2 ≤ n) && decide (n ≤ 2147483647) && (List.range n.toNat).all fun d => decide (d < 2) || decide (n < (d : Int) * d) || !decide (n % (d : Int) = 0)
theorem isP_of {n : Int} (h1 : 2 ≤ n) (h2 : n ≤ 2147483647) (h3 : ∀ d : Int, 2 ≤ d → d * d ≤ n → n % d ≠ 0) : isP n = true := by
  simp only [isP, Bool.and_eq_true, decide_eq_true_eq, List.all_eq_true, List.mem_range, Bool.or_eq_true, Bool.not_eq_true', decide_eq_false_iff_not]
  refine ⟨⟨h1, h2⟩, fun d hd => ?_⟩
  by_cases hd2 : d < 2
  · exact .inl (.inl hd2)
  · by_cases hn : n < (d : Int) * d
    · exact .inl (.inr hn)
    · exact .inr (h3 d (by omega) (by omega))
theorem isP_spec {n : Int} (h : isP n = true) : 2 ≤ n ∧ n ≤ 2147483647 ∧ ∀ d : Int, 2 ≤ d → d * d ≤ n → n % d ≠ 0 := by
  simp only [isP, Bool.and_eq_true, decide_eq_true_eq, List.all_eq_true, List.mem_range, Bool.or_eq_true, Bool.not_eq_true', decide_eq_false_iff_not] at h
  obtain ⟨⟨h1, h2⟩, h3⟩ := h
  refine ⟨h1, h2, fun d hd hn => ?_⟩
  have hlt : d < n := by
    have := Int.mul_le_mul_of_nonneg_right hd (show 0 ≤ d by omega)
    omega
  have := h3 d.toNat (by omega)
  have e : (d.toNat : Int) = d := by omega
  rw [e] at this
  rcases this with (h4 | h4) | h4
  · omega
  · omega
  · exact h4
theorem c_Is (n : Int) (h : AH) : ACalls Try.prog 59 [.int .i64 n] h (fun v h' => v = .bool (isP n) ∧ h' = h) := by
  refine acalls_of_good 1 21 [.tmp 2] Try.func59 rfl rfl (by kernel_rfl) rfl rfl (by decide) ?_
  simp (disch := first | omega | assumption) only [go_sem, Option.map, List.isEmpty, ↓reduceIte, Nat.reduceEqDiff, Nat.reduceAdd, Nat.reduceSub, Nat.reduceMul, Nat.reduceLT, Nat.reduceLeDiff, reduceCtorEq, Nat.reduceBEq, Nat.reduceBNe, Int.reduceNeg, Int.reduceLE, Int.reduceLT, Int.reduceToNat]
  repeat' (first | (first | refine good_seq ?_ | refine good_reg false (fun K hK => ?_) | (refine runL_nil (hK _ _ ?_); clear hK K) | refine runL_none rfl (fun K2 hK2 => ?_) | refine runL_some rfl rfl (fun R S hR hS => ?_) | (refine hK2 _ _ ?_; clear hK2 K2) | (refine hK2 _ _ ?_ ?_ <;> clear hK2 K2) | (refine regW_nil (hK _ _ ?_); clear hK K) | (refine regW_load rfl rfl rfl (fun F1 F2 hF1 hF2 => ?_)) | (refine hF1 _ ?_ ?_ <;> clear hF1 hF2 F1 F2) | (refine hF2 _ _ (fun K2 hK2 => ?_); clear hF1 hF2 F1 F2) | refine regW_light rfl rfl rfl (fun _ _ => rfl) (fun K2 hK2 => ?_) | refine regW_lguard rfl rfl rfl rfl (fun _ _ => rfl) (fun R S hR hS => ?_) | refine regW_heavy rfl rfl (fun K2 hK2 => ?_) | with_reducible refine log_goal ?_ | (refine hR _ (fun K2 hK2 => ?_); clear hR hS R S) | (refine hS _ ?_; clear hR hS R S) | refine good_block ?_ | refine good_skip ?_ | refine good_exit ?_ | refine good_ret ?_ | refine good_cond ?_ | refine And.intro ?_ ?_ | intro _) <;> try simp (disch := first | omega | assumption) only [go_sem, Option.map, List.isEmpty, ↓reduceIte, Nat.reduceEqDiff, Nat.reduceAdd, Nat.reduceSub, Nat.reduceMul, Nat.reduceLT, Nat.reduceLeDiff, reduceCtorEq, Nat.reduceBEq, Nat.reduceBNe, Int.reduceNeg, Int.reduceLE, Int.reduceLT, Int.reduceToNat] | omega)
  · rw [eq_comm, Bool.eq_false_iff]; intro hp; have := isP_spec hp; omega
  · refine good_loop_s (σ := Int) (fun d => [(0, .int .i64 n), (3, .int .i64 d)]) (fun _ => h) (fun d => (2 ≤ d ∧ d ≤ 46341) ∧ ∀ e, 2 ≤ e → e < d → n % e ≠ 0) (fun d => (46341 - d).toNat) 2 ?_ rfl ⟨by omega, fun e h1 h2 => by omega⟩ ?_
    · simp (disch := first | omega | assumption) only [go_sem, Option.map, List.isEmpty, ↓reduceIte, Nat.reduceEqDiff, Nat.reduceAdd, Nat.reduceSub, Nat.reduceMul, Nat.reduceLT, Nat.reduceLeDiff, reduceCtorEq, Nat.reduceBEq, Nat.reduceBNe, Int.reduceNeg, Int.reduceLE, Int.reduceLT, Int.reduceToNat]; (try (refine ⟨?_, ?_⟩ <;> omega)); (try omega)
    · rintro d ⟨hd, hdv⟩ k hk
      have h1 : d * d ≤ 46341 * 46341 := Int.mul_le_mul hd.2 hd.2 (by omega) (by omega)
      have h0 : 0 ≤ d * d := Int.mul_nonneg (by omega) (by omega)
      have hlt : d * d ≤ n → d ≤ 46340 := fun hdn => by
        rcases Int.lt_or_le 46340 d with hx | hx
        · have := Int.mul_le_mul (show 46341 ≤ d by omega) (show 46341 ≤ d by omega) (by omega) (by omega)
          omega
        · exact hx
      have ht : n.tmod d = n % d := Int.tmod_eq_emod_of_nonneg (by omega)
      repeat' (first | (first | refine good_seq ?_ | refine good_reg false (fun K hK => ?_) | (refine runL_nil (hK _ _ ?_); clear hK K) | refine runL_none rfl (fun K2 hK2 => ?_) | refine runL_some rfl rfl (fun R S hR hS => ?_) | (refine hK2 _ _ ?_; clear hK2 K2) | (refine hK2 _ _ ?_ ?_ <;> clear hK2 K2) | (refine regW_nil (hK _ _ ?_); clear hK K) | (refine regW_load rfl rfl rfl (fun F1 F2 hF1 hF2 => ?_)) | (refine hF1 _ ?_ ?_ <;> clear hF1 hF2 F1 F2) | (refine hF2 _ _ (fun K2 hK2 => ?_); clear hF1 hF2 F1 F2) | refine regW_light rfl rfl rfl (fun _ _ => rfl) (fun K2 hK2 => ?_) | refine regW_lguard rfl rfl rfl rfl (fun _ _ => rfl) (fun R S hR hS => ?_) | refine regW_heavy rfl rfl (fun K2 hK2 => ?_) | with_reducible refine log_goal ?_ | (refine hR _ (fun K2 hK2 => ?_); clear hR hS R S) | (refine hS _ ?_; clear hR hS R S) | refine good_block ?_ | refine good_skip ?_ | refine good_exit ?_ | refine good_ret ?_ | refine good_cond ?_ | refine And.intro ?_ ?_ | intro _) <;> try simp (disch := first | omega | assumption) only [go_sem, Option.map, List.isEmpty, ↓reduceIte, Nat.reduceEqDiff, Nat.reduceAdd, Nat.reduceSub, Nat.reduceMul, Nat.reduceLT, Nat.reduceLeDiff, reduceCtorEq, Nat.reduceBEq, Nat.reduceBNe, Int.reduceNeg, Int.reduceLE, Int.reduceLT, Int.reduceToNat] | omega)
      · rw [eq_comm, Bool.eq_false_iff]; intro hp; have := (isP_spec hp).2.2 d (by omega) (by omega); omega
      · refine Again.to (d + 1) ⟨by omega, fun e h2 h3 => ?_⟩ (by omega) ?_ rfl
        · by_cases he : e = d
          · subst he; omega
          · exact hdv e h2 (by omega)
        · simp (disch := first | omega | assumption) only [go_sem, Option.map, List.isEmpty, ↓reduceIte, Nat.reduceEqDiff, Nat.reduceAdd, Nat.reduceSub, Nat.reduceMul, Nat.reduceLT, Nat.reduceLeDiff, reduceCtorEq, Nat.reduceBEq, Nat.reduceBNe, Int.reduceNeg, Int.reduceLE, Int.reduceLT, Int.reduceToNat]; (try (refine ⟨?_, ?_⟩ <;> omega)); (try omega)
      · rw [eq_comm]
        refine isP_of (by omega) (by omega) fun e h2 h3 => ?_
        rcases Int.lt_or_le e d with hx | hx
        · exact hdv e h2 hx
        · have := Int.mul_le_mul hx hx (by omega) (by omega)
          omega
  · rw [eq_comm, Bool.eq_false_iff]; intro hp; have := isP_spec hp; omega
theorem c_rIs (n : Int) (h : AH) : ACalls Try.prog 61 [.int .i64 n] h (fun v h' => v = .bool (isP n) ∧ h' = h) := by
  refine acalls_of_good 1 21 [.tmp 2] Try.func61 rfl rfl (by kernel_rfl) rfl rfl (by decide) ?_
  simp (disch := first | omega | assumption) only [go_sem, Option.map, List.isEmpty, ↓reduceIte, Nat.reduceEqDiff, Nat.reduceAdd, Nat.reduceSub, Nat.reduceMul, Nat.reduceLT, Nat.reduceLeDiff, reduceCtorEq, Nat.reduceBEq, Nat.reduceBNe, Int.reduceNeg, Int.reduceLE, Int.reduceLT, Int.reduceToNat]
  repeat' (first | (first | refine good_seq ?_ | refine good_reg false (fun K hK => ?_) | (refine runL_nil (hK _ _ ?_); clear hK K) | refine runL_none rfl (fun K2 hK2 => ?_) | refine runL_some rfl rfl (fun R S hR hS => ?_) | (refine hK2 _ _ ?_; clear hK2 K2) | (refine hK2 _ _ ?_ ?_ <;> clear hK2 K2) | (refine regW_nil (hK _ _ ?_); clear hK K) | (refine regW_load rfl rfl rfl (fun F1 F2 hF1 hF2 => ?_)) | (refine hF1 _ ?_ ?_ <;> clear hF1 hF2 F1 F2) | (refine hF2 _ _ (fun K2 hK2 => ?_); clear hF1 hF2 F1 F2) | refine regW_light rfl rfl rfl (fun _ _ => rfl) (fun K2 hK2 => ?_) | refine regW_lguard rfl rfl rfl rfl (fun _ _ => rfl) (fun R S hR hS => ?_) | refine regW_heavy rfl rfl (fun K2 hK2 => ?_) | with_reducible refine log_goal ?_ | (refine hR _ (fun K2 hK2 => ?_); clear hR hS R S) | (refine hS _ ?_; clear hR hS R S) | refine good_block ?_ | refine good_skip ?_ | refine good_exit ?_ | refine good_ret ?_ | refine good_cond ?_ | refine And.intro ?_ ?_ | intro _) <;> try simp (disch := first | omega | assumption) only [go_sem, Option.map, List.isEmpty, ↓reduceIte, Nat.reduceEqDiff, Nat.reduceAdd, Nat.reduceSub, Nat.reduceMul, Nat.reduceLT, Nat.reduceLeDiff, reduceCtorEq, Nat.reduceBEq, Nat.reduceBNe, Int.reduceNeg, Int.reduceLE, Int.reduceLT, Int.reduceToNat] | omega)
  · rw [eq_comm, Bool.eq_false_iff]; intro hp; have := isP_spec hp; omega
  · refine good_loop_s (σ := Int) (fun d => [(0, .int .i64 n), (3, .int .i64 d)]) (fun _ => h) (fun d => (2 ≤ d ∧ d ≤ 46341) ∧ ∀ e, 2 ≤ e → e < d → n % e ≠ 0) (fun d => (46341 - d).toNat) 2 ?_ rfl ⟨by omega, fun e h1 h2 => by omega⟩ ?_
    · simp (disch := first | omega | assumption) only [go_sem, Option.map, List.isEmpty, ↓reduceIte, Nat.reduceEqDiff, Nat.reduceAdd, Nat.reduceSub, Nat.reduceMul, Nat.reduceLT, Nat.reduceLeDiff, reduceCtorEq, Nat.reduceBEq, Nat.reduceBNe, Int.reduceNeg, Int.reduceLE, Int.reduceLT, Int.reduceToNat]; (try (refine ⟨?_, ?_⟩ <;> omega)); (try omega)
    · rintro d ⟨hd, hdv⟩ k hk
      have h1 : d * d ≤ 46341 * 46341 := Int.mul_le_mul hd.2 hd.2 (by omega) (by omega)
      have h0 : 0 ≤ d * d := Int.mul_nonneg (by omega) (by omega)
      have hlt : d * d ≤ n → d ≤ 46340 := fun hdn => by
        rcases Int.lt_or_le 46340 d with hx | hx
        · have := Int.mul_le_mul (show 46341 ≤ d by omega) (show 46341 ≤ d by omega) (by omega) (by omega)
          omega
        · exact hx
      have ht : n.tmod d = n % d := Int.tmod_eq_emod_of_nonneg (by omega)
      repeat' (first | (first | refine good_seq ?_ | refine good_reg false (fun K hK => ?_) | (refine runL_nil (hK _ _ ?_); clear hK K) | refine runL_none rfl (fun K2 hK2 => ?_) | refine runL_some rfl rfl (fun R S hR hS => ?_) | (refine hK2 _ _ ?_; clear hK2 K2) | (refine hK2 _ _ ?_ ?_ <;> clear hK2 K2) | (refine regW_nil (hK _ _ ?_); clear hK K) | (refine regW_load rfl rfl rfl (fun F1 F2 hF1 hF2 => ?_)) | (refine hF1 _ ?_ ?_ <;> clear hF1 hF2 F1 F2) | (refine hF2 _ _ (fun K2 hK2 => ?_); clear hF1 hF2 F1 F2) | refine regW_light rfl rfl rfl (fun _ _ => rfl) (fun K2 hK2 => ?_) | refine regW_lguard rfl rfl rfl rfl (fun _ _ => rfl) (fun R S hR hS => ?_) | refine regW_heavy rfl rfl (fun K2 hK2 => ?_) | with_reducible refine log_goal ?_ | (refine hR _ (fun K2 hK2 => ?_); clear hR hS R S) | (refine hS _ ?_; clear hR hS R S) | refine good_block ?_ | refine good_skip ?_ | refine good_exit ?_ | refine good_ret ?_ | refine good_cond ?_ | refine And.intro ?_ ?_ | intro _) <;> try simp (disch := first | omega | assumption) only [go_sem, Option.map, List.isEmpty, ↓reduceIte, Nat.reduceEqDiff, Nat.reduceAdd, Nat.reduceSub, Nat.reduceMul, Nat.reduceLT, Nat.reduceLeDiff, reduceCtorEq, Nat.reduceBEq, Nat.reduceBNe, Int.reduceNeg, Int.reduceLE, Int.reduceLT, Int.reduceToNat] | omega)
      · rw [eq_comm, Bool.eq_false_iff]; intro hp; have := (isP_spec hp).2.2 d (by omega) (by omega); omega
      · refine Again.to (d + 1) ⟨by omega, fun e h2 h3 => ?_⟩ (by omega) ?_ rfl
        · by_cases he : e = d
          · subst he; omega
          · exact hdv e h2 (by omega)
        · simp (disch := first | omega | assumption) only [go_sem, Option.map, List.isEmpty, ↓reduceIte, Nat.reduceEqDiff, Nat.reduceAdd, Nat.reduceSub, Nat.reduceMul, Nat.reduceLT, Nat.reduceLeDiff, reduceCtorEq, Nat.reduceBEq, Nat.reduceBNe, Int.reduceNeg, Int.reduceLE, Int.reduceLT, Int.reduceToNat]; (try (refine ⟨?_, ?_⟩ <;> omega)); (try omega)
      · rw [eq_comm]
        refine isP_of (by omega) (by omega) fun e h2 h3 => ?_
        rcases Int.lt_or_le e d with hx | hx
        · exact hdv e h2 hx
        · have := Int.mul_le_mul hx hx (by omega) (by omega)
          omega
  · rw [eq_comm, Bool.eq_false_iff]; intro hp; have := isP_spec hp; omega
end Go.Eng
