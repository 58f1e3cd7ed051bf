import Derived.Test.YtgfhddockofdnaaE25
import Derived.Test.YtgfhddockofdnaaF2
import Derived.Test.YtgfhddockofdnaaW23
open Go Go.Proofs
set_option linter.unusedVariables false
set_option linter.unusedSimpArgs false
set_option maxRecDepth 4000
set_option maxHeartbeats 4000000
namespace Go.Eng
attribute [local irreducible] Good ACalls runL regW stepW opW gdV' gdD condW gifW binW arW loadW storeW idxAW lenW appW appBW cutW onSome onBnd callW fldAW Again thenQ blockQ resW endQ Up loadR
/-! ### the law on what stays -/
def oddP (k : Int) : Int := [3, 5, 7, 11, 13, 17, 19, 23].getD (k % 8).toNat 0
theorem oddP_ok {k : Int} (hk : 0 ≤ k) : isP (oddP k) = true ∧ modB (oddP k) = true := by
  have h1 := Int.emod_nonneg k (show (8 : Int) ≠ 0 by omega)
  have h2 := Int.emod_lt_of_pos k (show (0 : Int) < 8 by omega)
  unfold oddP
  generalize k % 8 = j at h1 h2
  have : j = 0 ∨ j = 1 ∨ j = 2 ∨ j = 3 ∨ j = 4 ∨ j = 5 ∨ j = 6 ∨ j = 7 := by omega
  rcases this with rfl | rfl | rfl | rfl | rfl | rfl | rfl | rfl <;> decide +kernel
theorem c_OddPrime (k : Int) (hk : 0 ≤ k ∧ k ≤ 255) (h : AH) : ACalls Try.prog 34 [.int .u8 k] h (fun v h' => v = .int .i64 (oddP k) ∧ h' = h) := by
  have h1 := Int.emod_nonneg k (show (8 : Int) ≠ 0 by omega)
  have h2 := Int.emod_lt_of_pos k (show (0 : Int) < 8 by omega)
  have ht : k.tmod 8 = k % 8 := tmod_nn hk.1
  have hg : ∀ x, ([AV.int .i64 3, .int .i64 5, .int .i64 7, .int .i64 11, .int .i64 13, .int .i64 17, .int .i64 19, .int .i64 23].getD x .junk) = if x < 8 then .int .i64 ([3, 5, 7, 11, 13, 17, 19, 23].getD x 0) else .junk := fun x => by
    match x with
    | 0 | 1 | 2 | 3 | 4 | 5 | 6 | 7 => rfl
    | n + 8 => simp [List.getD_eq_getElem?_getD]
  have h8 : (k % 8).toNat < 8 := by omega
  refine acalls_of_good 1 8 [.tmp 2] Try.func34 rfl rfl (by kernel_rfl) rfl rfl (by decide) ?_
  simp (disch := first | assumption | omega) only [go_sem, Option.map, List.isEmpty, ↓reduceIte, Nat.reduceEqDiff, Nat.reduceAdd, Nat.reduceSub, Nat.reduceMul, Nat.reduceLT, Nat.reduceLeDiff, reduceCtorEq, Nat.reduceBEq, Nat.reduceBNe, Int.reduceNeg, Int.reduceLE, Int.reduceLT, Int.reduceToNat]
  repeat' (first | (first | refine good_seq ?_ | refine good_reg false (fun K hK => ?_) | (refine runL_nil (hK _ _ ?_); clear hK K) | refine runL_none rfl (fun K2 hK2 => ?_) | refine runL_some rfl rfl (fun R S hR hS => ?_) | (refine hK2 _ _ ?_; clear hK2 K2) | (refine hK2 _ _ ?_ ?_ <;> clear hK2 K2) | (refine regW_nil (hK _ _ ?_); clear hK K) | (refine regW_load rfl rfl rfl (fun F1 F2 hF1 hF2 => ?_)) | (refine hF1 _ ?_ ?_ <;> clear hF1 hF2 F1 F2) | (refine hF2 _ _ (fun K2 hK2 => ?_); clear hF1 hF2 F1 F2) | refine regW_light rfl rfl rfl (fun _ _ => rfl) (fun K2 hK2 => ?_) | refine regW_lguard rfl rfl rfl rfl (fun _ _ => rfl) (fun R S hR hS => ?_) | refine regW_heavy rfl rfl (fun K2 hK2 => ?_) | with_reducible refine log_goal ?_ | (refine hR _ (fun K2 hK2 => ?_); clear hR hS R S) | (refine hS _ ?_; clear hR hS R S) | refine good_block ?_ | refine good_skip ?_ | refine good_exit ?_ | refine good_ret ?_ | refine good_cond ?_ | refine And.intro ?_ ?_ | intro _) <;> try simp (disch := first | assumption | omega) only [go_sem, Option.map, List.isEmpty, ↓reduceIte, Nat.reduceEqDiff, Nat.reduceAdd, Nat.reduceSub, Nat.reduceMul, Nat.reduceLT, Nat.reduceLeDiff, reduceCtorEq, Nat.reduceBEq, Nat.reduceBNe, Int.reduceNeg, Int.reduceLE, Int.reduceLT, Int.reduceToNat, ht, hg, h8] | ((first | fail) <;> try simp (disch := first | assumption | omega) only [go_sem, Option.map, List.isEmpty, ↓reduceIte, Nat.reduceEqDiff, Nat.reduceAdd, Nat.reduceSub, Nat.reduceMul, Nat.reduceLT, Nat.reduceLeDiff, reduceCtorEq, Nat.reduceBEq, Nat.reduceBNe, Int.reduceNeg, Int.reduceLE, Int.reduceLT, Int.reduceToNat, ht, hg, h8]) | omega)
  all_goals rfl
theorem c_mResB (a : List (List Int)) (m : Int) (hv : ValidP a) (hm : modB m = true) (h : AH) : ACalls Try.prog 28 [matV a, .int .i64 m] h (fun v h' => v = .tup [.bsl h.n 0 a.length .full, .int .i64 0] ∧ h' = pmH h a.length (a.getD 0 []).length (redM a m)) := by
  obtain ⟨k, hk1, hk2, hk3, hk4⟩ := hv.rows
  have hv1 := hv.1
  have hmm := modB_spec hm
  rw [hk4 0 (by omega)]
  refine acalls_of_good 2 15 [.tmp 4, .tmp 5] Try.func28 rfl rfl (by kernel_rfl) rfl rfl (by decide) ?_
  simp (disch := first | assumption | omega) only [go_sem, Option.map, List.isEmpty, ↓reduceIte, Nat.reduceEqDiff, Nat.reduceAdd, Nat.reduceSub, Nat.reduceMul, Nat.reduceLT, Nat.reduceLeDiff, reduceCtorEq, Nat.reduceBEq, Nat.reduceBNe, Int.reduceNeg, Int.reduceLE, Int.reduceLT, Int.reduceToNat]
  repeat' (first | (first | refine good_seq ?_ | refine good_reg false (fun K hK => ?_) | (refine runL_nil (hK _ _ ?_); clear hK K) | refine runL_none rfl (fun K2 hK2 => ?_) | refine runL_some rfl rfl (fun R S hR hS => ?_) | (refine hK2 _ _ ?_; clear hK2 K2) | (refine hK2 _ _ ?_ ?_ <;> clear hK2 K2) | (refine regW_nil (hK _ _ ?_); clear hK K) | (refine regW_load rfl rfl rfl (fun F1 F2 hF1 hF2 => ?_)) | (refine hF1 _ ?_ ?_ <;> clear hF1 hF2 F1 F2) | (refine hF2 _ _ (fun K2 hK2 => ?_); clear hF1 hF2 F1 F2) | refine regW_light rfl rfl rfl (fun _ _ => rfl) (fun K2 hK2 => ?_) | refine regW_lguard rfl rfl rfl rfl (fun _ _ => rfl) (fun R S hR hS => ?_) | refine regW_heavy rfl rfl (fun K2 hK2 => ?_) | with_reducible refine log_goal ?_ | (refine hR _ (fun K2 hK2 => ?_); clear hR hS R S) | (refine hS _ ?_; clear hR hS R S) | refine good_block ?_ | refine good_skip ?_ | refine good_exit ?_ | refine good_ret ?_ | refine good_cond ?_ | refine And.intro ?_ ?_ | intro _) <;> try simp (disch := first | assumption | omega) only [go_sem, Option.map, List.isEmpty, ↓reduceIte, Nat.reduceEqDiff, Nat.reduceAdd, Nat.reduceSub, Nat.reduceMul, Nat.reduceLT, Nat.reduceLeDiff, reduceCtorEq, Nat.reduceBEq, Nat.reduceBNe, Int.reduceNeg, Int.reduceLE, Int.reduceLT, Int.reduceToNat] | ((first | (refine ACalls.mono (c_valid _ _) (fun v h' hv' => ?_); obtain ⟨rfl, rfl⟩ := hv'; rw [decide_eq_true hv]) | (refine ACalls.mono (c_modulus _ _) (fun v h' hv' => ?_); obtain ⟨rfl, rfl⟩ := hv'; rw [hm]) | (refine ACalls.mono (c_reduced a k m (by omega) (by omega) hk4 _) (fun v h' hv' => ?_); obtain ⟨rfl, rfl⟩ := hv')) <;> try simp (disch := first | assumption | omega) only [go_sem, Option.map, List.isEmpty, ↓reduceIte, Nat.reduceEqDiff, Nat.reduceAdd, Nat.reduceSub, Nat.reduceMul, Nat.reduceLT, Nat.reduceLeDiff, reduceCtorEq, Nat.reduceBEq, Nat.reduceBNe, Int.reduceNeg, Int.reduceLE, Int.reduceLT, Int.reduceToNat]) | omega)
  all_goals rfl
theorem grid_valid {r c : Int} {ns : List Int} {most : Int} (hr : 0 ≤ r) (hc : 0 ≤ c) (hm : 1 ≤ most ∧ most ≤ 16) : ValidP (gridM r c ns most) := by
  have g1 := gridN_bd (x := r) (most := most) (by omega) hr
  have g2 := gridN_bd (x := c) (most := most) (by omega) hc
  have hl := gridM_length r c ns most
  have h0 : ((gridM r c ns most).getD 0 []).length = gridN c most := gridM_row (by omega)
  refine ⟨by omega, by omega, by omega, by omega, fun i hi => ?_⟩
  rw [h0, gridM_row (by omega)]
theorem l_Keeps (xr xc : Int) (xn : List Int) (k : Int) (hx : GridOk xr xc xn) (hk : 0 ≤ k ∧ k ≤ 255) (h : AH) :
    ACalls Try.prog 13 [gridV xr xc xn, .int .u8 k] h (fun v h' => v = .bool true ∧ True) := by
  have hmB : ∀ ns, memA (byteV ns) = true := fun ns => rfl
  have hcB : ∀ ns, cellsA (byteV ns) = [byteV ns] := fun ns => rfl
  have hoB : ∀ ns, oneA (byteV ns) = true := fun ns => rfl
  have hd : ∀ p q r : AV, ([p, q, r].drop 0).take 3 = [p, q, r] := fun p q r => rfl
  obtain ⟨A, hA⟩ : ∃ x, x = gridM xr xr xn 5 := ⟨_, rfl⟩
  have hv : ValidP A := by rw [hA]; exact grid_valid hx.r.1 hx.r.1 (by omega)
  obtain ⟨p, hp⟩ : ∃ x, x = oddP k := ⟨_, rfl⟩
  have hpp := oddP_ok hk.1
  rw [← hp] at hpp
  have g1 := gridN_bd (x := xr) (most := 5) (by omega) hx.r.1
  have hsq : A.length = (A.getD 0 []).length := by rw [hA, gridM_length]; exact (gridM_row (by omega)).symm
  have hcp : congP A A := ⟨hv, hv, hsq, rfl⟩
  have eE : echE A p = 0 := by simp [echE, hv, hpp.1]
  have eC : congE A A p = 0 := by simp [congE, hcp, hpp.2]
  have hv1 := hv.1
  have hv2 := hv.2.1
  have hsm : Small A := ⟨by omega, fun i hi => by have := hv.2.2.2.2 i hi; have := hv.2.2.2.1; omega⟩
  have hsame : (decide (A = A) : Bool) = true := by simp
  unfold gridV
  refine acalls_of_good 2 97 [.tmp 4] Try.func13 rfl rfl (by kernel_rfl) rfl rfl (by decide) ?_
  simp (disch := first | assumption | omega) only [go_sem, Option.map, List.isEmpty, ↓reduceIte, Nat.reduceEqDiff, Nat.reduceAdd, Nat.reduceSub, Nat.reduceMul, Nat.reduceLT, Nat.reduceLeDiff, reduceCtorEq, Nat.reduceBEq, Nat.reduceBNe, Int.reduceNeg, Int.reduceLE, Int.reduceLT, Int.reduceToNat]
  repeat' (first | (first | refine good_seq ?_ | refine good_reg false (fun K hK => ?_) | (refine runL_nil (hK _ _ ?_); clear hK K) | refine runL_none rfl (fun K2 hK2 => ?_) | refine runL_some rfl rfl (fun R S hR hS => ?_) | (refine hK2 _ _ ?_; clear hK2 K2) | (refine hK2 _ _ ?_ ?_ <;> clear hK2 K2) | (refine regW_nil (hK _ _ ?_); clear hK K) | (refine regW_load rfl rfl rfl (fun F1 F2 hF1 hF2 => ?_)) | (refine hF1 _ ?_ ?_ <;> clear hF1 hF2 F1 F2) | (refine hF2 _ _ (fun K2 hK2 => ?_); clear hF1 hF2 F1 F2) | refine regW_light rfl rfl rfl (fun _ _ => rfl) (fun K2 hK2 => ?_) | refine regW_lguard rfl rfl rfl rfl (fun _ _ => rfl) (fun R S hR hS => ?_) | refine regW_heavy rfl rfl (fun K2 hK2 => ?_) | with_reducible refine log_goal ?_ | (refine hR _ (fun K2 hK2 => ?_); clear hR hS R S) | (refine hS _ ?_; clear hR hS R S) | refine good_block ?_ | refine good_skip ?_ | refine good_exit ?_ | refine good_ret ?_ | refine good_cond ?_ | refine And.intro ?_ ?_ | intro _) <;> try simp (disch := first | assumption | omega) only [go_sem, Option.map, List.isEmpty, ↓reduceIte, Nat.reduceEqDiff, Nat.reduceAdd, Nat.reduceSub, Nat.reduceMul, Nat.reduceLT, Nat.reduceLeDiff, reduceCtorEq, Nat.reduceBEq, Nat.reduceBNe, Int.reduceNeg, Int.reduceLE, Int.reduceLT, Int.reduceToNat, hmB, hcB, hoB, hd, List.set_cons_zero, List.set_cons_succ] | ((first | refine good_drw (id := 2) mixed false [[], [0], [], [0, 1, 2], [0, 1, 2, 3], [0, 1, 2, 3, 4]] [0, 2, 1, 3, 4, 5] (by decide +kernel) (fun K hK => ?_) | (refine ACalls.mono (c_Ints xr xr xn 5 hx.r hx.r hx.n (by omega) _) (fun v h' hv => ?_); obtain ⟨rfl, hh⟩ := hv; subst h'; rw [← hA]) | (refine ACalls.mono (c_OddPrime k hk _) (fun v h' hv => ?_); obtain ⟨rfl, hh⟩ := hv; subst h'; rw [← hp]) | (refine ACalls.mono (c_Echelon A p _) (fun v h' hv => ?_); obtain ⟨rfl, hh⟩ := hv; subst h'; rw [eE]) | (refine ACalls.mono (c_mResB A p hv hpp.2 _) (fun v h' hv => ?_); obtain ⟨rfl, hh⟩ := hv; subst h') | (refine ACalls.mono (c_Kernel A p _) (fun v h' hv => ?_); obtain ⟨rfl, hh⟩ := hv; subst h'; rw [eE]) | (refine ACalls.mono (c_mCong A A p _) (fun v h' hv => ?_); obtain ⟨rfl, hh⟩ := hv; subst h'; rw [eC])) <;> try simp (disch := first | assumption | omega) only [go_sem, Option.map, List.isEmpty, ↓reduceIte, Nat.reduceEqDiff, Nat.reduceAdd, Nat.reduceSub, Nat.reduceMul, Nat.reduceLT, Nat.reduceLeDiff, reduceCtorEq, Nat.reduceBEq, Nat.reduceBNe, Int.reduceNeg, Int.reduceLE, Int.reduceLT, Int.reduceToNat, hmB, hcB, hoB, hd, List.set_cons_zero, List.set_cons_succ]) | omega)
  obtain ⟨G, hG⟩ : ∃ G, G = h.mk_ [AV.int .u8 xr, AV.int .u8 xr, byteV xn] := ⟨_, rfl⟩
  have hGn : G.n = h.n + 1 := by rw [hG]; rfl
  obtain ⟨n, hn⟩ : ∃ n, n = A.length := ⟨_, rfl⟩
  obtain ⟨m, hm⟩ : ∃ m, m = (A.getD 0 []).length := ⟨_, rfl⟩
  have hM0 : (redM A p).length = n ∧ Wid m (redM A p) := ⟨by rw [redM_length, hn], by rw [hm]; exact redM_wid hv⟩
  have hm16 : m ≤ 16 := by rw [hm]; exact hv.2.2.2.1
  rw [← hG, ← hn, ← hm]
  refine good_loop_s (σ := List (List Int) × Nat) (fun s => [(5, matV A), (6, matV A), (10, .int .i64 0), (11, .bsl (h.n + 1) 0 n .full), (12, .int .i64 0), (14, .int .i64 0), (16, .int .i64 0), (55, .int .i64 n), (56, .int .i64 s.2)]) (fun s => pmH G n m s.1) (fun s => s.2 ≤ n ∧ s.1.length = n ∧ Wid m s.1) (fun s => n - s.2) (redM A p, 0) ?_ rfl ⟨Nat.zero_le _, hM0⟩ ?_
  · simp (disch := first | assumption | omega) only [go_sem, Option.map, List.isEmpty, ↓reduceIte, Nat.reduceEqDiff, Nat.reduceAdd, Nat.reduceSub, Nat.reduceMul, Nat.reduceLT, Nat.reduceLeDiff, reduceCtorEq, Nat.reduceBEq, Nat.reduceBNe, Int.reduceNeg, Int.reduceLE, Int.reduceLT, Int.reduceToNat]; (try (refine ⟨?_, ?_⟩ <;> omega)); (try omega)
  rintro ⟨M, i⟩ ⟨hi, hMl, hMw⟩ n1 hn1
  dsimp only at hi hMl hMw hn1 ⊢
  have q1 : ∀ M : List (List Int), M.length = n → (pmH G n m M).f (h.n + 1) = some (pmC (h.n + 1) m n n) := fun M hM => by rw [← hGn]; have := pm_O (h := G) (n := n) (m := m) (R := M); rw [hM] at this; exact this
  by_cases hin : i < n
  · have r1 := q1 M hMl
    repeat' (first | (first | refine good_seq ?_ | refine good_reg false (fun K hK => ?_) | (refine runL_nil (hK _ _ ?_); clear hK K) | refine runL_none rfl (fun K2 hK2 => ?_) | refine runL_some rfl rfl (fun R S hR hS => ?_) | (refine hK2 _ _ ?_; clear hK2 K2) | (refine hK2 _ _ ?_ ?_ <;> clear hK2 K2) | (refine regW_nil (hK _ _ ?_); clear hK K) | (refine regW_load rfl rfl rfl (fun F1 F2 hF1 hF2 => ?_)) | (refine hF1 _ ?_ ?_ <;> clear hF1 hF2 F1 F2) | (refine hF2 _ _ (fun K2 hK2 => ?_); clear hF1 hF2 F1 F2) | refine regW_light rfl rfl rfl (fun _ _ => rfl) (fun K2 hK2 => ?_) | refine regW_lguard rfl rfl rfl rfl (fun _ _ => rfl) (fun R S hR hS => ?_) | refine regW_heavy rfl rfl (fun K2 hK2 => ?_) | with_reducible refine log_goal ?_ | (refine hR _ (fun K2 hK2 => ?_); clear hR hS R S) | (refine hS _ ?_; clear hR hS R S) | refine good_block ?_ | refine good_skip ?_ | refine good_exit ?_ | refine good_ret ?_ | refine good_cond ?_ | refine And.intro ?_ ?_ | intro _) <;> try simp (disch := first | assumption | omega) only [go_sem, Option.map, List.isEmpty, ↓reduceIte, Nat.reduceEqDiff, Nat.reduceAdd, Nat.reduceSub, Nat.reduceMul, Nat.reduceLT, Nat.reduceLeDiff, reduceCtorEq, Nat.reduceBEq, Nat.reduceBNe, Int.reduceNeg, Int.reduceLE, Int.reduceLT, Int.reduceToNat, r1] | ((first | fail) <;> try simp (disch := first | assumption | omega) only [go_sem, Option.map, List.isEmpty, ↓reduceIte, Nat.reduceEqDiff, Nat.reduceAdd, Nat.reduceSub, Nat.reduceMul, Nat.reduceLT, Nat.reduceLeDiff, reduceCtorEq, Nat.reduceBEq, Nat.reduceBNe, Int.reduceNeg, Int.reduceLE, Int.reduceLT, Int.reduceToNat, r1]) | omega)
    refine good_loop_s (σ := List (List Int) × Nat) (fun s => [(5, matV A), (6, matV A), (10, .int .i64 0), (11, .bsl (h.n + 1) 0 n .full), (12, .int .i64 0), (14, .int .i64 0), (16, .int .i64 0), (17, .int .i64 i), (55, .int .i64 n), (56, .int .i64 i), (63, .int .i64 m), (64, .int .i64 s.2)]) (fun s => pmH G n m s.1) (fun s => s.2 ≤ m ∧ s.1.length = n ∧ Wid m s.1) (fun s => m - s.2) (M, 0) ?_ rfl ⟨Nat.zero_le _, hMl, hMw⟩ ?_
    · simp (disch := first | assumption | omega) only [go_sem, Option.map, List.isEmpty, ↓reduceIte, Nat.reduceEqDiff, Nat.reduceAdd, Nat.reduceSub, Nat.reduceMul, Nat.reduceLT, Nat.reduceLeDiff, reduceCtorEq, Nat.reduceBEq, Nat.reduceBNe, Int.reduceNeg, Int.reduceLE, Int.reduceLT, Int.reduceToNat]; (try (refine ⟨?_, ?_⟩ <;> omega)); (try omega)
    rintro ⟨M2, j⟩ ⟨hj, hMl2, hMw2⟩ n2 hn2
    dsimp only at hj hMl2 hMw2 hn2 ⊢
    have r2 := q1 M2 hMl2
    have r3 : (pmH G n m M2).f (h.n + 1 + 1 + i) = some ((M2.getD i []).map (AV.int .i64)) := by rw [← hGn]; exact pm_row (by omega)
    have r4 : ∀ r : List Int, (pmH G n m M2).put (h.n + 1 + 1 + i) (r.map (AV.int .i64)) = pmH G n m (M2.set i r) := fun r => by rw [← hGn]; exact pm_put (by omega) r
    have r5 := hMw2 i (by omega)
    repeat' (first | (first | refine good_seq ?_ | refine good_reg false (fun K hK => ?_) | (refine runL_nil (hK _ _ ?_); clear hK K) | refine runL_none rfl (fun K2 hK2 => ?_) | refine runL_some rfl rfl (fun R S hR hS => ?_) | (refine hK2 _ _ ?_; clear hK2 K2) | (refine hK2 _ _ ?_ ?_ <;> clear hK2 K2) | (refine regW_nil (hK _ _ ?_); clear hK K) | (refine regW_load rfl rfl rfl (fun F1 F2 hF1 hF2 => ?_)) | (refine hF1 _ ?_ ?_ <;> clear hF1 hF2 F1 F2) | (refine hF2 _ _ (fun K2 hK2 => ?_); clear hF1 hF2 F1 F2) | refine regW_light rfl rfl rfl (fun _ _ => rfl) (fun K2 hK2 => ?_) | refine regW_lguard rfl rfl rfl rfl (fun _ _ => rfl) (fun R S hR hS => ?_) | refine regW_heavy rfl rfl (fun K2 hK2 => ?_) | with_reducible refine log_goal ?_ | (refine hR _ (fun K2 hK2 => ?_); clear hR hS R S) | (refine hS _ ?_; clear hR hS R S) | refine good_block ?_ | refine good_skip ?_ | refine good_exit ?_ | refine good_ret ?_ | refine good_cond ?_ | refine And.intro ?_ ?_ | intro _) <;> try simp (disch := first | assumption | omega) only [go_sem, Option.map, List.isEmpty, ↓reduceIte, Nat.reduceEqDiff, Nat.reduceAdd, Nat.reduceSub, Nat.reduceMul, Nat.reduceLT, Nat.reduceLeDiff, reduceCtorEq, Nat.reduceBEq, Nat.reduceBNe, Int.reduceNeg, Int.reduceLE, Int.reduceLT, Int.reduceToNat, r2, r3, r4] | ((first | fail) <;> try simp (disch := first | assumption | omega) only [go_sem, Option.map, List.isEmpty, ↓reduceIte, Nat.reduceEqDiff, Nat.reduceAdd, Nat.reduceSub, Nat.reduceMul, Nat.reduceLT, Nat.reduceLeDiff, reduceCtorEq, Nat.reduceBEq, Nat.reduceBNe, Int.reduceNeg, Int.reduceLE, Int.reduceLT, Int.reduceToNat, r2, r3, r4]) | omega)
    · refine Again.to (M2.set i ((M2.getD i []).set j (-1)), j + 1) ⟨by omega, by rw [List.length_set]; exact hMl2, hMw2.set i (by rw [List.length_set]; exact r5)⟩ (by show m - (j + 1) < n2; omega) ?_ rfl
      simp (disch := first | assumption | omega) only [go_sem, Option.map, List.isEmpty, ↓reduceIte, Nat.reduceEqDiff, Nat.reduceAdd, Nat.reduceSub, Nat.reduceMul, Nat.reduceLT, Nat.reduceLeDiff, reduceCtorEq, Nat.reduceBEq, Nat.reduceBNe, Int.reduceNeg, Int.reduceLE, Int.reduceLT, Int.reduceToNat]; (try (refine ⟨?_, ?_⟩ <;> omega)); (try omega)
    · refine Again.to (M2, i + 1) ⟨by omega, hMl2, hMw2⟩ (by show n - (i + 1) < n1; omega) ?_ rfl
      simp (disch := first | assumption | omega) only [go_sem, Option.map, List.isEmpty, ↓reduceIte, Nat.reduceEqDiff, Nat.reduceAdd, Nat.reduceSub, Nat.reduceMul, Nat.reduceLT, Nat.reduceLeDiff, reduceCtorEq, Nat.reduceBEq, Nat.reduceBNe, Int.reduceNeg, Int.reduceLE, Int.reduceLT, Int.reduceToNat]; (try (refine ⟨?_, ?_⟩ <;> omega)); (try omega)
  · repeat' (first | (first | refine good_seq ?_ | refine good_reg false (fun K hK => ?_) | (refine runL_nil (hK _ _ ?_); clear hK K) | refine runL_none rfl (fun K2 hK2 => ?_) | refine runL_some rfl rfl (fun R S hR hS => ?_) | (refine hK2 _ _ ?_; clear hK2 K2) | (refine hK2 _ _ ?_ ?_ <;> clear hK2 K2) | (refine regW_nil (hK _ _ ?_); clear hK K) | (refine regW_load rfl rfl rfl (fun F1 F2 hF1 hF2 => ?_)) | (refine hF1 _ ?_ ?_ <;> clear hF1 hF2 F1 F2) | (refine hF2 _ _ (fun K2 hK2 => ?_); clear hF1 hF2 F1 F2) | refine regW_light rfl rfl rfl (fun _ _ => rfl) (fun K2 hK2 => ?_) | refine regW_lguard rfl rfl rfl rfl (fun _ _ => rfl) (fun R S hR hS => ?_) | refine regW_heavy rfl rfl (fun K2 hK2 => ?_) | with_reducible refine log_goal ?_ | (refine hR _ (fun K2 hK2 => ?_); clear hR hS R S) | (refine hS _ ?_; clear hR hS R S) | refine good_block ?_ | refine good_skip ?_ | refine good_exit ?_ | refine good_ret ?_ | refine good_cond ?_ | refine And.intro ?_ ?_ | intro _) <;> try simp (disch := first | assumption | omega) only [go_sem, Option.map, List.isEmpty, ↓reduceIte, Nat.reduceEqDiff, Nat.reduceAdd, Nat.reduceSub, Nat.reduceMul, Nat.reduceLT, Nat.reduceLeDiff, reduceCtorEq, Nat.reduceBEq, Nat.reduceBNe, Int.reduceNeg, Int.reduceLE, Int.reduceLT, Int.reduceToNat, hsame] | ((first | (refine ACalls.mono (c_Same A A hsm.1 hsm.2 _) (fun v h' hv => ?_); obtain ⟨rfl, hh⟩ := hv; subst h') | (refine ACalls.mono (c_awake _) (fun v h' hv => ?_); obtain ⟨rfl, hh⟩ := hv; subst h')) <;> try simp (disch := first | assumption | omega) only [go_sem, Option.map, List.isEmpty, ↓reduceIte, Nat.reduceEqDiff, Nat.reduceAdd, Nat.reduceSub, Nat.reduceMul, Nat.reduceLT, Nat.reduceLeDiff, reduceCtorEq, Nat.reduceBEq, Nat.reduceBNe, Int.reduceNeg, Int.reduceLE, Int.reduceLT, Int.reduceToNat, hsame]) | omega)
end Go.Eng
