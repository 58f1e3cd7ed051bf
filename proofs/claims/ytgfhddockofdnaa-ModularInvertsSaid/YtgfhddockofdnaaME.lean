/- Texts W9 W10 W11 of an engine over abstract values and of the walks of this program, one after the other. -/
import Derived.Test.YtgfhddockofdnaaMD
open Go Go.Proofs
set_option linter.unusedVariables false
set_option linter.unusedSimpArgs false
set_option maxRecDepth 4000
set_option maxHeartbeats 4000000
namespace Go.Eng
attribute [local irreducible] Good ACalls runL regW stepW opW gdV' gdD condW gifW binW arW loadW storeW idxAW lenW appW appBW cutW onSome onBnd callW fldAW Again thenQ blockQ resW endQ Up loadR
/-! ### the inverse of a number -/
/-- x is the inverse of a modulo m, if there is one. -/
def IsInv (a m x : Int) (ok : Bool) : Prop := (ok = true ∧ 0 ≤ x ∧ x < m ∧ (a * x) % m = 1) ∨ (ok = false ∧ x = 0 ∧ ∀ y, (a * y) % m ≠ 1)
structure InvI (a m r s x y : Int) : Prop where
  r0 : 0 ≤ r ∧ r ≤ m
  s0 : 0 ≤ s ∧ s ≤ m
  xb : -m ≤ x ∧ x ≤ m
  yb : -m ≤ y ∧ y ≤ m
  sg : (0 ≤ x ∧ y ≤ 0 ∧ s * x - r * y = m) ∨ (x ≤ 0 ∧ 0 ≤ y ∧ r * y - s * x = m)
  cx : (a * x - r) % m = 0
  cy : (a * y - s) % m = 0
  gc : Int.gcd r s = Int.gcd a m
theorem InvI.next {a m r s x y : Int} (hm : 2 ≤ m) (h : InvI a m r s x y) (hs : s ≠ 0) : (0 ≤ r / s ∧ r / s ≤ m) ∧ (0 ≤ r / s * s ∧ r / s * s ≤ r) ∧ (-m ≤ r / s * y ∧ r / s * y ≤ m ∨ (-(2 * m) ≤ r / s * y ∧ r / s * y ≤ 2 * m)) ∧ 0 ≤ r - r / s * s ∧ r - r / s * s < s ∧ InvI a m s (r - r / s * s) y (x - r / s * y) := by
  have hs0 : 0 < s := by have := h.s0; omega
  have hq0 : 0 ≤ r / s := Int.ediv_nonneg h.r0.1 (by omega)
  have hqm : r / s ≤ r := Int.ediv_le_self s h.r0.1
  have hmod : r - r / s * s = r % s := by have := Int.emod_add_mul_ediv r s; rw [Int.mul_comm] at this; omega
  have hm0 := Int.emod_nonneg r (show s ≠ 0 by omega)
  have hm1 := Int.emod_lt_of_pos r hs0
  generalize hq : r / s = q at *
  have hqs : 0 ≤ q * s := Int.mul_nonneg hq0 (by omega)
  have hr0 := h.r0
  have hss := h.s0
  have hxb := h.xb
  have hyb := h.yb
  have key1 : s * (x - q * y) = s * x - q * s * y := by rw [Int.mul_sub, ← Int.mul_assoc, Int.mul_comm s q]
  have key2 : (r - q * s) * y = r * y - q * s * y := by rw [Int.sub_mul]
  have dv : (a * (x - q * y) - (r - q * s)) % m = 0 := by
    have e : a * (x - q * y) - (r - q * s) = (a * x - r) - q * (a * y - s) := by
      rw [Int.mul_sub, Int.mul_sub, ← Int.mul_assoc a q y, ← Int.mul_assoc q a y, Int.mul_comm a q]; omega
    rw [e]
    exact Int.emod_eq_zero_of_dvd (Int.dvd_sub (Int.dvd_of_emod_eq_zero h.cx) (Int.dvd_mul_of_dvd_right (Int.dvd_of_emod_eq_zero h.cy)))
  have gc : Int.gcd s (r - q * s) = Int.gcd a m := by
    rw [← h.gc, Int.gcd_sub_mul_right_right, Int.gcd_comm]
  -- the new y
  have ny : (-m ≤ x - q * y ∧ x - q * y ≤ m) ∧ ((0 ≤ y ∧ x - q * y ≤ 0 ∧ (r - q * s) * y - s * (x - q * y) = m) ∨ (y ≤ 0 ∧ 0 ≤ x - q * y ∧ s * (x - q * y) - (r - q * s) * y = m)) := by
    rcases h.sg with ⟨h1, h2, h3⟩ | ⟨h1, h2, h3⟩
    · have e0 : q * y ≤ 0 := Int.mul_nonpos_of_nonneg_of_nonpos hq0 h2
      have e1 : s * (x - q * y) - (r - q * s) * y = m := by rw [key1, key2]; omega
      have e2 : (r - q * s) * y ≤ 0 := Int.mul_nonpos_of_nonneg_of_nonpos (by omega) h2
      have e3 : x - q * y ≤ s * (x - q * y) := by
        have := Int.mul_le_mul_of_nonneg_right (show 1 ≤ s by omega) (show 0 ≤ x - q * y by omega)
        omega
      exact ⟨⟨by omega, by omega⟩, .inr ⟨h2, by omega, e1⟩⟩
    · have e0 : 0 ≤ q * y := Int.mul_nonneg hq0 h2
      have e1 : (r - q * s) * y - s * (x - q * y) = m := by rw [key1, key2]; omega
      have e2 : 0 ≤ (r - q * s) * y := Int.mul_nonneg (by omega) h2
      have e3 : s * (x - q * y) ≤ x - q * y := by
        have := Int.mul_le_mul_of_nonneg_right (show 1 ≤ s by omega) (show 0 ≤ -(x - q * y) by omega)
        rw [Int.mul_neg, Int.mul_neg] at this
        omega
      exact ⟨⟨by omega, by omega⟩, .inl ⟨h2, by omega, e1⟩⟩
  refine ⟨⟨hq0, by omega⟩, ⟨hqs, by omega⟩, .inr ⟨by omega, by omega⟩, by omega, by omega, ?_⟩
  exact ⟨⟨by omega, by omega⟩, ⟨by omega, by omega⟩, hyb, ny.1, by
    rcases ny.2 with ⟨h1, h2, h3⟩ | ⟨h1, h2, h3⟩
    · exact .inl ⟨h1, h2, h3⟩
    · exact .inr ⟨h1, h2, h3⟩, h.cy, dv, gc⟩
theorem InvI.start {a m : Int} (hm : 2 ≤ m) (ha : 0 ≤ a ∧ a < m) : InvI a m a m 1 0 :=
  ⟨⟨by omega, by omega⟩, ⟨by omega, by omega⟩, ⟨by omega, by omega⟩, ⟨by omega, by omega⟩, .inl ⟨by omega, by omega, by simp⟩, by simp, by simp, rfl⟩
theorem InvI.done {a m r x y : Int} (hm : 2 ≤ m) (h : InvI a m r 0 x y) : IsInv a m (if r = 1 then x % m else 0) (decide (r = 1)) := by
  have hg : Int.gcd a m = r.natAbs := by rw [← h.gc]; simp
  by_cases hr : r = 1
  · rw [if_pos hr, decide_eq_true hr]
    refine .inl ⟨rfl, Int.emod_nonneg _ (by omega), Int.emod_lt_of_pos _ (by omega), ?_⟩
    subst hr
    rw [Int.mul_emod, Int.emod_emod_of_dvd x (Int.dvd_refl m), ← Int.mul_emod]
    have h1 := h.cx
    have : a * x = (a * x - 1) + 1 := by omega
    rw [this, Int.add_emod, h1, Int.zero_add, Int.emod_emod_of_dvd _ (Int.dvd_refl m)]
    exact Int.emod_eq_of_lt (by omega) (by omega)
  · rw [if_neg hr, decide_eq_false hr]
    refine .inr ⟨rfl, rfl, fun y hy => hr ?_⟩
    have hd : (r.natAbs : Int) ∣ 1 := by
      have h1 : (r.natAbs : Int) ∣ a := by rw [← hg]; exact Int.gcd_dvd_left ..
      have h2 : (r.natAbs : Int) ∣ m := by rw [← hg]; exact Int.gcd_dvd_right ..
      have h3 : (1 : Int) = a * y - m * (a * y / m) := by have := Int.emod_add_mul_ediv (a * y) m; omega
      rw [h3]
      exact Int.dvd_sub (Int.dvd_mul_of_dvd_left h1) (Int.dvd_mul_of_dvd_left h2)
    have := Int.natAbs_dvd_natAbs.2 hd
    have h0 := h.r0.1
    have h4 : r.natAbs = 1 := by simpa using this
    omega
theorem c_inverse (a m : Int) (hm : 2 ≤ m ∧ m ≤ 2147483647) (ha : 0 ≤ a ∧ a < m) (h : AH) : ACalls Try.prog 48 [.int .i64 a, .int .i64 m] h (fun v h' => (∃ x ok, v = .tup [.int .i64 x, .bool ok] ∧ IsInv a m x ok) ∧ h' = h) := by
  refine acalls_of_good 2 35 [.tmp 4, .tmp 5] Try.func48 rfl rfl (by kernel_rfl) rfl rfl (by decide) ?_
  simp (disch := omega) only [go_sem, Option.map, List.isEmpty, ↓reduceIte, Nat.reduceEqDiff, Nat.reduceAdd, Nat.reduceSub, Nat.reduceMul, Nat.reduceLT, Nat.reduceLeDiff, reduceCtorEq, Nat.reduceBEq, Nat.reduceBNe, Int.reduceNeg, Int.reduceLE, Int.reduceLT, Int.reduceToNat]
  repeat' (first | (first | refine good_seq ?_ | refine good_reg false (fun K hK => ?_) | (refine runL_nil (hK _ _ ?_); clear hK K) | refine runL_none rfl (fun K2 hK2 => ?_) | refine runL_some rfl rfl (fun R S hR hS => ?_) | (refine hK2 _ _ ?_; clear hK2 K2) | (refine hK2 _ _ ?_ ?_ <;> clear hK2 K2) | (refine regW_nil (hK _ _ ?_); clear hK K) | (refine regW_load rfl rfl rfl (fun F1 F2 hF1 hF2 => ?_)) | (refine hF1 _ ?_ ?_ <;> clear hF1 hF2 F1 F2) | (refine hF2 _ _ (fun K2 hK2 => ?_); clear hF1 hF2 F1 F2) | refine regW_light rfl rfl rfl (fun _ _ => rfl) (fun K2 hK2 => ?_) | refine regW_lguard rfl rfl rfl rfl (fun _ _ => rfl) (fun R S hR hS => ?_) | refine regW_heavy rfl rfl (fun K2 hK2 => ?_) | with_reducible refine log_goal ?_ | (refine hR _ (fun K2 hK2 => ?_); clear hR hS R S) | (refine hS _ ?_; clear hR hS R S) | refine good_block ?_ | refine good_skip ?_ | refine good_exit ?_ | refine good_ret ?_ | refine good_cond ?_ | refine And.intro ?_ ?_ | intro _) <;> try simp (disch := omega) only [go_sem, Option.map, List.isEmpty, ↓reduceIte, Nat.reduceEqDiff, Nat.reduceAdd, Nat.reduceSub, Nat.reduceMul, Nat.reduceLT, Nat.reduceLeDiff, reduceCtorEq, Nat.reduceBEq, Nat.reduceBNe, Int.reduceNeg, Int.reduceLE, Int.reduceLT, Int.reduceToNat] | omega)
  refine good_loop_s (σ := Int × Int × Int × Int) (fun p => [(0, .int .i64 a), (1, .int .i64 m), (6, .int .i64 p.1), (7, .int .i64 p.2.1), (8, .int .i64 p.2.2.1), (9, .int .i64 p.2.2.2)]) (fun _ => h) (fun p => InvI a m p.1 p.2.1 p.2.2.1 p.2.2.2) (fun p => p.2.1.toNat) (a, m, 1, 0) ?_ rfl (InvI.start hm.1 ha) ?_
  · simp (disch := omega) only [go_sem, Option.map, List.isEmpty, ↓reduceIte, Nat.reduceEqDiff, Nat.reduceAdd, Nat.reduceSub, Nat.reduceMul, Nat.reduceLT, Nat.reduceLeDiff, reduceCtorEq, Nat.reduceBEq, Nat.reduceBNe, Int.reduceNeg, Int.reduceLE, Int.reduceLT, Int.reduceToNat]; (try (refine ⟨?_, ?_⟩ <;> omega)); (try omega)
  · rintro ⟨r, s, x, y⟩ hI n hn
    simp only at hI hn ⊢
    by_cases hs : s = 0
    · subst hs
      have hd := hI.done hm.1
      have hr0 := hI.r0
      by_cases hr : r = 1
      · rw [if_pos hr, decide_eq_true hr] at hd
        repeat' (first | (first | refine good_seq ?_ | refine good_reg false (fun K hK => ?_) | (refine runL_nil (hK _ _ ?_); clear hK K) | refine runL_none rfl (fun K2 hK2 => ?_) | refine runL_some rfl rfl (fun R S hR hS => ?_) | (refine hK2 _ _ ?_; clear hK2 K2) | (refine hK2 _ _ ?_ ?_ <;> clear hK2 K2) | (refine regW_nil (hK _ _ ?_); clear hK K) | (refine regW_load rfl rfl rfl (fun F1 F2 hF1 hF2 => ?_)) | (refine hF1 _ ?_ ?_ <;> clear hF1 hF2 F1 F2) | (refine hF2 _ _ (fun K2 hK2 => ?_); clear hF1 hF2 F1 F2) | refine regW_light rfl rfl rfl (fun _ _ => rfl) (fun K2 hK2 => ?_) | refine regW_lguard rfl rfl rfl rfl (fun _ _ => rfl) (fun R S hR hS => ?_) | refine regW_heavy rfl rfl (fun K2 hK2 => ?_) | with_reducible refine log_goal ?_ | (refine hR _ (fun K2 hK2 => ?_); clear hR hS R S) | (refine hS _ ?_; clear hR hS R S) | refine good_block ?_ | refine good_skip ?_ | refine good_exit ?_ | refine good_ret ?_ | refine good_cond ?_ | refine And.intro ?_ ?_ | intro _) <;> try simp (disch := omega) only [go_sem, Option.map, List.isEmpty, ↓reduceIte, Nat.reduceEqDiff, Nat.reduceAdd, Nat.reduceSub, Nat.reduceMul, Nat.reduceLT, Nat.reduceLeDiff, reduceCtorEq, Nat.reduceBEq, Nat.reduceBNe, Int.reduceNeg, Int.reduceLE, Int.reduceLT, Int.reduceToNat] | ((first | (refine ACalls.mono (c_residue _ _ (by omega) _) (fun v h' hv => ?_); obtain ⟨rfl, rfl⟩ := hv)) <;> try simp (disch := omega) only [go_sem, Option.map, List.isEmpty, ↓reduceIte, Nat.reduceEqDiff, Nat.reduceAdd, Nat.reduceSub, Nat.reduceMul, Nat.reduceLT, Nat.reduceLeDiff, reduceCtorEq, Nat.reduceBEq, Nat.reduceBNe, Int.reduceNeg, Int.reduceLE, Int.reduceLT, Int.reduceToNat]) | omega)
        all_goals first | omega | exact ⟨_, _, rfl, hd⟩
      · rw [if_neg hr, decide_eq_false hr] at hd
        repeat' (first | (first | refine good_seq ?_ | refine good_reg false (fun K hK => ?_) | (refine runL_nil (hK _ _ ?_); clear hK K) | refine runL_none rfl (fun K2 hK2 => ?_) | refine runL_some rfl rfl (fun R S hR hS => ?_) | (refine hK2 _ _ ?_; clear hK2 K2) | (refine hK2 _ _ ?_ ?_ <;> clear hK2 K2) | (refine regW_nil (hK _ _ ?_); clear hK K) | (refine regW_load rfl rfl rfl (fun F1 F2 hF1 hF2 => ?_)) | (refine hF1 _ ?_ ?_ <;> clear hF1 hF2 F1 F2) | (refine hF2 _ _ (fun K2 hK2 => ?_); clear hF1 hF2 F1 F2) | refine regW_light rfl rfl rfl (fun _ _ => rfl) (fun K2 hK2 => ?_) | refine regW_lguard rfl rfl rfl rfl (fun _ _ => rfl) (fun R S hR hS => ?_) | refine regW_heavy rfl rfl (fun K2 hK2 => ?_) | with_reducible refine log_goal ?_ | (refine hR _ (fun K2 hK2 => ?_); clear hR hS R S) | (refine hS _ ?_; clear hR hS R S) | refine good_block ?_ | refine good_skip ?_ | refine good_exit ?_ | refine good_ret ?_ | refine good_cond ?_ | refine And.intro ?_ ?_ | intro _) <;> try simp (disch := omega) only [go_sem, Option.map, List.isEmpty, ↓reduceIte, Nat.reduceEqDiff, Nat.reduceAdd, Nat.reduceSub, Nat.reduceMul, Nat.reduceLT, Nat.reduceLeDiff, reduceCtorEq, Nat.reduceBEq, Nat.reduceBNe, Int.reduceNeg, Int.reduceLE, Int.reduceLT, Int.reduceToNat] | omega)
        all_goals first | omega | exact ⟨_, _, rfl, hd⟩
    · obtain ⟨h1, h2, h3, h4, h5, h6⟩ := hI.next hm.1 hs
      have ht : r.tdiv s = r / s := Int.tdiv_eq_ediv_of_nonneg hI.r0.1
      rw [← ht] at h1 h2 h3 h4 h5 h6
      have b1 := hI.r0
      have b2 := hI.s0
      have b3 := hI.xb
      have b4 := hI.yb
      repeat' (first | (first | refine good_seq ?_ | refine good_reg false (fun K hK => ?_) | (refine runL_nil (hK _ _ ?_); clear hK K) | refine runL_none rfl (fun K2 hK2 => ?_) | refine runL_some rfl rfl (fun R S hR hS => ?_) | (refine hK2 _ _ ?_; clear hK2 K2) | (refine hK2 _ _ ?_ ?_ <;> clear hK2 K2) | (refine regW_nil (hK _ _ ?_); clear hK K) | (refine regW_load rfl rfl rfl (fun F1 F2 hF1 hF2 => ?_)) | (refine hF1 _ ?_ ?_ <;> clear hF1 hF2 F1 F2) | (refine hF2 _ _ (fun K2 hK2 => ?_); clear hF1 hF2 F1 F2) | refine regW_light rfl rfl rfl (fun _ _ => rfl) (fun K2 hK2 => ?_) | refine regW_lguard rfl rfl rfl rfl (fun _ _ => rfl) (fun R S hR hS => ?_) | refine regW_heavy rfl rfl (fun K2 hK2 => ?_) | with_reducible refine log_goal ?_ | (refine hR _ (fun K2 hK2 => ?_); clear hR hS R S) | (refine hS _ ?_; clear hR hS R S) | refine good_block ?_ | refine good_skip ?_ | refine good_exit ?_ | refine good_ret ?_ | refine good_cond ?_ | refine And.intro ?_ ?_ | intro _) <;> try simp (disch := omega) only [go_sem, Option.map, List.isEmpty, ↓reduceIte, Nat.reduceEqDiff, Nat.reduceAdd, Nat.reduceSub, Nat.reduceMul, Nat.reduceLT, Nat.reduceLeDiff, reduceCtorEq, Nat.reduceBEq, Nat.reduceBNe, Int.reduceNeg, Int.reduceLE, Int.reduceLT, Int.reduceToNat] | omega)
      refine Again.to (s, r - r.tdiv s * s, y, x - r.tdiv s * y) h6 ?_ ?_ rfl
      · simp only; omega
      · simp (disch := omega) only [go_sem, Option.map, List.isEmpty, ↓reduceIte, Nat.reduceEqDiff, Nat.reduceAdd, Nat.reduceSub, Nat.reduceMul, Nat.reduceLT, Nat.reduceLeDiff, reduceCtorEq, Nat.reduceBEq, Nat.reduceBNe, Int.reduceNeg, Int.reduceLE, Int.reduceLT, Int.reduceToNat]; (try (refine ⟨?_, ?_⟩ <;> omega)); (try omega)
end Go.Eng
open Go Go.Proofs
set_option linter.unusedVariables false
set_option linter.unusedSimpArgs false
set_option maxRecDepth 4000
set_option maxHeartbeats 4000000
namespace Go.Eng
attribute [local irreducible] Good ACalls runL regW stepW opW gdV' gdD condW gifW binW arW loadW storeW idxAW lenW appW appBW cutW onSome onBnd callW fldAW Again thenQ blockQ resW endQ Up loadR
/-! ### prime numbers -/
def isP (n : Int) : Bool := decide (2 ≤ n) && decide (n ≤ 2147483647) && (List.range n.toNat).all fun d => decide (d < 2) || decide (n < (d : Int) * d) || !decide (n % (d : Int) = 0)
theorem isP_of {n : Int} (h1 : 2 ≤ n) (h2 : n ≤ 2147483647) (h3 : ∀ d : Int, 2 ≤ d → d * d ≤ n → n % d ≠ 0) : isP n = true := by
  simp only [isP, Bool.and_eq_true, decide_eq_true_eq, List.all_eq_true, List.mem_range, Bool.or_eq_true, Bool.not_eq_true', decide_eq_false_iff_not]
  refine ⟨⟨h1, h2⟩, fun d hd => ?_⟩
  by_cases hd2 : d < 2
  · exact .inl (.inl hd2)
  · by_cases hn : n < (d : Int) * d
    · exact .inl (.inr hn)
    · exact .inr (h3 d (by omega) (by omega))
theorem isP_spec {n : Int} (h : isP n = true) : 2 ≤ n ∧ n ≤ 2147483647 ∧ ∀ d : Int, 2 ≤ d → d * d ≤ n → n % d ≠ 0 := by
  simp only [isP, Bool.and_eq_true, decide_eq_true_eq, List.all_eq_true, List.mem_range, Bool.or_eq_true, Bool.not_eq_true', decide_eq_false_iff_not] at h
  obtain ⟨⟨h1, h2⟩, h3⟩ := h
  refine ⟨h1, h2, fun d hd hn => ?_⟩
  have hlt : d < n := by
    have := Int.mul_le_mul_of_nonneg_right hd (show 0 ≤ d by omega)
    omega
  have := h3 d.toNat (by omega)
  have e : (d.toNat : Int) = d := by omega
  rw [e] at this
  rcases this with (h4 | h4) | h4
  · omega
  · omega
  · exact h4
theorem c_Is (n : Int) (h : AH) : ACalls Try.prog 59 [.int .i64 n] h (fun v h' => v = .bool (isP n) ∧ h' = h) := by
  refine acalls_of_good 1 21 [.tmp 2] Try.func59 rfl rfl (by kernel_rfl) rfl rfl (by decide) ?_
  simp (disch := first | omega | assumption) only [go_sem, Option.map, List.isEmpty, ↓reduceIte, Nat.reduceEqDiff, Nat.reduceAdd, Nat.reduceSub, Nat.reduceMul, Nat.reduceLT, Nat.reduceLeDiff, reduceCtorEq, Nat.reduceBEq, Nat.reduceBNe, Int.reduceNeg, Int.reduceLE, Int.reduceLT, Int.reduceToNat]
  repeat' (first | (first | refine good_seq ?_ | refine good_reg false (fun K hK => ?_) | (refine runL_nil (hK _ _ ?_); clear hK K) | refine runL_none rfl (fun K2 hK2 => ?_) | refine runL_some rfl rfl (fun R S hR hS => ?_) | (refine hK2 _ _ ?_; clear hK2 K2) | (refine hK2 _ _ ?_ ?_ <;> clear hK2 K2) | (refine regW_nil (hK _ _ ?_); clear hK K) | (refine regW_load rfl rfl rfl (fun F1 F2 hF1 hF2 => ?_)) | (refine hF1 _ ?_ ?_ <;> clear hF1 hF2 F1 F2) | (refine hF2 _ _ (fun K2 hK2 => ?_); clear hF1 hF2 F1 F2) | refine regW_light rfl rfl rfl (fun _ _ => rfl) (fun K2 hK2 => ?_) | refine regW_lguard rfl rfl rfl rfl (fun _ _ => rfl) (fun R S hR hS => ?_) | refine regW_heavy rfl rfl (fun K2 hK2 => ?_) | with_reducible refine log_goal ?_ | (refine hR _ (fun K2 hK2 => ?_); clear hR hS R S) | (refine hS _ ?_; clear hR hS R S) | refine good_block ?_ | refine good_skip ?_ | refine good_exit ?_ | refine good_ret ?_ | refine good_cond ?_ | refine And.intro ?_ ?_ | intro _) <;> try simp (disch := first | omega | assumption) only [go_sem, Option.map, List.isEmpty, ↓reduceIte, Nat.reduceEqDiff, Nat.reduceAdd, Nat.reduceSub, Nat.reduceMul, Nat.reduceLT, Nat.reduceLeDiff, reduceCtorEq, Nat.reduceBEq, Nat.reduceBNe, Int.reduceNeg, Int.reduceLE, Int.reduceLT, Int.reduceToNat] | omega)
  · rw [eq_comm, Bool.eq_false_iff]; intro hp; have := isP_spec hp; omega
  · refine good_loop_s (σ := Int) (fun d => [(0, .int .i64 n), (3, .int .i64 d)]) (fun _ => h) (fun d => (2 ≤ d ∧ d ≤ 46341) ∧ ∀ e, 2 ≤ e → e < d → n % e ≠ 0) (fun d => (46341 - d).toNat) 2 ?_ rfl ⟨by omega, fun e h1 h2 => by omega⟩ ?_
    · simp (disch := first | omega | assumption) only [go_sem, Option.map, List.isEmpty, ↓reduceIte, Nat.reduceEqDiff, Nat.reduceAdd, Nat.reduceSub, Nat.reduceMul, Nat.reduceLT, Nat.reduceLeDiff, reduceCtorEq, Nat.reduceBEq, Nat.reduceBNe, Int.reduceNeg, Int.reduceLE, Int.reduceLT, Int.reduceToNat]; (try (refine ⟨?_, ?_⟩ <;> omega)); (try omega)
    · rintro d ⟨hd, hdv⟩ k hk
      have h1 : d * d ≤ 46341 * 46341 := Int.mul_le_mul hd.2 hd.2 (by omega) (by omega)
      have h0 : 0 ≤ d * d := Int.mul_nonneg (by omega) (by omega)
      have hlt : d * d ≤ n → d ≤ 46340 := fun hdn => by
        rcases Int.lt_or_le 46340 d with hx | hx
        · have := Int.mul_le_mul (show 46341 ≤ d by omega) (show 46341 ≤ d by omega) (by omega) (by omega)
          omega
        · exact hx
      have ht : n.tmod d = n % d := Int.tmod_eq_emod_of_nonneg (by omega)
      repeat' (first | (first | refine good_seq ?_ | refine good_reg false (fun K hK => ?_) | (refine runL_nil (hK _ _ ?_); clear hK K) | refine runL_none rfl (fun K2 hK2 => ?_) | refine runL_some rfl rfl (fun R S hR hS => ?_) | (refine hK2 _ _ ?_; clear hK2 K2) | (refine hK2 _ _ ?_ ?_ <;> clear hK2 K2) | (refine regW_nil (hK _ _ ?_); clear hK K) | (refine regW_load rfl rfl rfl (fun F1 F2 hF1 hF2 => ?_)) | (refine hF1 _ ?_ ?_ <;> clear hF1 hF2 F1 F2) | (refine hF2 _ _ (fun K2 hK2 => ?_); clear hF1 hF2 F1 F2) | refine regW_light rfl rfl rfl (fun _ _ => rfl) (fun K2 hK2 => ?_) | refine regW_lguard rfl rfl rfl rfl (fun _ _ => rfl) (fun R S hR hS => ?_) | refine regW_heavy rfl rfl (fun K2 hK2 => ?_) | with_reducible refine log_goal ?_ | (refine hR _ (fun K2 hK2 => ?_); clear hR hS R S) | (refine hS _ ?_; clear hR hS R S) | refine good_block ?_ | refine good_skip ?_ | refine good_exit ?_ | refine good_ret ?_ | refine good_cond ?_ | refine And.intro ?_ ?_ | intro _) <;> try simp (disch := first | omega | assumption) only [go_sem, Option.map, List.isEmpty, ↓reduceIte, Nat.reduceEqDiff, Nat.reduceAdd, Nat.reduceSub, Nat.reduceMul, Nat.reduceLT, Nat.reduceLeDiff, reduceCtorEq, Nat.reduceBEq, Nat.reduceBNe, Int.reduceNeg, Int.reduceLE, Int.reduceLT, Int.reduceToNat] | omega)
      · rw [eq_comm, Bool.eq_false_iff]; intro hp; have := (isP_spec hp).2.2 d (by omega) (by omega); omega
      · refine Again.to (d + 1) ⟨by omega, fun e h2 h3 => ?_⟩ (by omega) ?_ rfl
        · by_cases he : e = d
          · subst he; omega
          · exact hdv e h2 (by omega)
        · simp (disch := first | omega | assumption) only [go_sem, Option.map, List.isEmpty, ↓reduceIte, Nat.reduceEqDiff, Nat.reduceAdd, Nat.reduceSub, Nat.reduceMul, Nat.reduceLT, Nat.reduceLeDiff, reduceCtorEq, Nat.reduceBEq, Nat.reduceBNe, Int.reduceNeg, Int.reduceLE, Int.reduceLT, Int.reduceToNat]; (try (refine ⟨?_, ?_⟩ <;> omega)); (try omega)
      · rw [eq_comm]
        refine isP_of (by omega) (by omega) fun e h2 h3 => ?_
        rcases Int.lt_or_le e d with hx | hx
        · exact hdv e h2 hx
        · have := Int.mul_le_mul hx hx (by omega) (by omega)
          omega
  · rw [eq_comm, Bool.eq_false_iff]; intro hp; have := isP_spec hp; omega
theorem c_rIs (n : Int) (h : AH) : ACalls Try.prog 61 [.int .i64 n] h (fun v h' => v = .bool (isP n) ∧ h' = h) := by
  refine acalls_of_good 1 21 [.tmp 2] Try.func61 rfl rfl (by kernel_rfl) rfl rfl (by decide) ?_
  simp (disch := first | omega | assumption) only [go_sem, Option.map, List.isEmpty, ↓reduceIte, Nat.reduceEqDiff, Nat.reduceAdd, Nat.reduceSub, Nat.reduceMul, Nat.reduceLT, Nat.reduceLeDiff, reduceCtorEq, Nat.reduceBEq, Nat.reduceBNe, Int.reduceNeg, Int.reduceLE, Int.reduceLT, Int.reduceToNat]
  repeat' (first | (first | refine good_seq ?_ | refine good_reg false (fun K hK => ?_) | (refine runL_nil (hK _ _ ?_); clear hK K) | refine runL_none rfl (fun K2 hK2 => ?_) | refine runL_some rfl rfl (fun R S hR hS => ?_) | (refine hK2 _ _ ?_; clear hK2 K2) | (refine hK2 _ _ ?_ ?_ <;> clear hK2 K2) | (refine regW_nil (hK _ _ ?_); clear hK K) | (refine regW_load rfl rfl rfl (fun F1 F2 hF1 hF2 => ?_)) | (refine hF1 _ ?_ ?_ <;> clear hF1 hF2 F1 F2) | (refine hF2 _ _ (fun K2 hK2 => ?_); clear hF1 hF2 F1 F2) | refine regW_light rfl rfl rfl (fun _ _ => rfl) (fun K2 hK2 => ?_) | refine regW_lguard rfl rfl rfl rfl (fun _ _ => rfl) (fun R S hR hS => ?_) | refine regW_heavy rfl rfl (fun K2 hK2 => ?_) | with_reducible refine log_goal ?_ | (refine hR _ (fun K2 hK2 => ?_); clear hR hS R S) | (refine hS _ ?_; clear hR hS R S) | refine good_block ?_ | refine good_skip ?_ | refine good_exit ?_ | refine good_ret ?_ | refine good_cond ?_ | refine And.intro ?_ ?_ | intro _) <;> try simp (disch := first | omega | assumption) only [go_sem, Option.map, List.isEmpty, ↓reduceIte, Nat.reduceEqDiff, Nat.reduceAdd, Nat.reduceSub, Nat.reduceMul, Nat.reduceLT, Nat.reduceLeDiff, reduceCtorEq, Nat.reduceBEq, Nat.reduceBNe, Int.reduceNeg, Int.reduceLE, Int.reduceLT, Int.reduceToNat] | omega)
  · rw [eq_comm, Bool.eq_false_iff]; intro hp; have := isP_spec hp; omega
  · refine good_loop_s (σ := Int) (fun d => [(0, .int .i64 n), (3, .int .i64 d)]) (fun _ => h) (fun d => (2 ≤ d ∧ d ≤ 46341) ∧ ∀ e, 2 ≤ e → e < d → n % e ≠ 0) (fun d => (46341 - d).toNat) 2 ?_ rfl ⟨by omega, fun e h1 h2 => by omega⟩ ?_
    · simp (disch := first | omega | assumption) only [go_sem, Option.map, List.isEmpty, ↓reduceIte, Nat.reduceEqDiff, Nat.reduceAdd, Nat.reduceSub, Nat.reduceMul, Nat.reduceLT, Nat.reduceLeDiff, reduceCtorEq, Nat.reduceBEq, Nat.reduceBNe, Int.reduceNeg, Int.reduceLE, Int.reduceLT, Int.reduceToNat]; (try (refine ⟨?_, ?_⟩ <;> omega)); (try omega)
    · rintro d ⟨hd, hdv⟩ k hk
      have h1 : d * d ≤ 46341 * 46341 := Int.mul_le_mul hd.2 hd.2 (by omega) (by omega)
      have h0 : 0 ≤ d * d := Int.mul_nonneg (by omega) (by omega)
      have hlt : d * d ≤ n → d ≤ 46340 := fun hdn => by
        rcases Int.lt_or_le 46340 d with hx | hx
        · have := Int.mul_le_mul (show 46341 ≤ d by omega) (show 46341 ≤ d by omega) (by omega) (by omega)
          omega
        · exact hx
      have ht : n.tmod d = n % d := Int.tmod_eq_emod_of_nonneg (by omega)
      repeat' (first | (first | refine good_seq ?_ | refine good_reg false (fun K hK => ?_) | (refine runL_nil (hK _ _ ?_); clear hK K) | refine runL_none rfl (fun K2 hK2 => ?_) | refine runL_some rfl rfl (fun R S hR hS => ?_) | (refine hK2 _ _ ?_; clear hK2 K2) | (refine hK2 _ _ ?_ ?_ <;> clear hK2 K2) | (refine regW_nil (hK _ _ ?_); clear hK K) | (refine regW_load rfl rfl rfl (fun F1 F2 hF1 hF2 => ?_)) | (refine hF1 _ ?_ ?_ <;> clear hF1 hF2 F1 F2) | (refine hF2 _ _ (fun K2 hK2 => ?_); clear hF1 hF2 F1 F2) | refine regW_light rfl rfl rfl (fun _ _ => rfl) (fun K2 hK2 => ?_) | refine regW_lguard rfl rfl rfl rfl (fun _ _ => rfl) (fun R S hR hS => ?_) | refine regW_heavy rfl rfl (fun K2 hK2 => ?_) | with_reducible refine log_goal ?_ | (refine hR _ (fun K2 hK2 => ?_); clear hR hS R S) | (refine hS _ ?_; clear hR hS R S) | refine good_block ?_ | refine good_skip ?_ | refine good_exit ?_ | refine good_ret ?_ | refine good_cond ?_ | refine And.intro ?_ ?_ | intro _) <;> try simp (disch := first | omega | assumption) only [go_sem, Option.map, List.isEmpty, ↓reduceIte, Nat.reduceEqDiff, Nat.reduceAdd, Nat.reduceSub, Nat.reduceMul, Nat.reduceLT, Nat.reduceLeDiff, reduceCtorEq, Nat.reduceBEq, Nat.reduceBNe, Int.reduceNeg, Int.reduceLE, Int.reduceLT, Int.reduceToNat] | omega)
      · rw [eq_comm, Bool.eq_false_iff]; intro hp; have := (isP_spec hp).2.2 d (by omega) (by omega); omega
      · refine Again.to (d + 1) ⟨by omega, fun e h2 h3 => ?_⟩ (by omega) ?_ rfl
        · by_cases he : e = d
          · subst he; omega
          · exact hdv e h2 (by omega)
        · simp (disch := first | omega | assumption) only [go_sem, Option.map, List.isEmpty, ↓reduceIte, Nat.reduceEqDiff, Nat.reduceAdd, Nat.reduceSub, Nat.reduceMul, Nat.reduceLT, Nat.reduceLeDiff, reduceCtorEq, Nat.reduceBEq, Nat.reduceBNe, Int.reduceNeg, Int.reduceLE, Int.reduceLT, Int.reduceToNat]; (try (refine ⟨?_, ?_⟩ <;> omega)); (try omega)
      · rw [eq_comm]
        refine isP_of (by omega) (by omega) fun e h2 h3 => ?_
        rcases Int.lt_or_le e d with hx | hx
        · exact hdv e h2 hx
        · have := Int.mul_le_mul hx hx (by omega) (by omega)
          omega
  · rw [eq_comm, Bool.eq_false_iff]; intro hp; have := isP_spec hp; omega
end Go.Eng
open Go Go.Proofs
set_option linter.unusedVariables false
set_option linter.unusedSimpArgs false
set_option maxRecDepth 4000
set_option maxHeartbeats 4000000
namespace Go.Eng
attribute [local irreducible] Good ACalls runL regW stepW opW gdV' gdD condW gifW binW arW loadW storeW idxAW lenW appW appBW cutW onSome onBnd callW fldAW Again thenQ blockQ resW endQ Up loadR
/-! ### row y less f times row x -/
def subF (Y X : List Int) (f p : Int) (k : Nat) : Int := (Y.getD k 0 - f * X.getD k 0 % p) % p
theorem put_self {H : AH} {b : Nat} {cs : List AV} (hb : H.f b = some cs) : H.put b cs = H := AH.ext_ (fun c => by
  simp only [AH.put, upd]
  split
  · rename_i hc; rw [hc, hb]
  · rfl) rfl (fun _ => rfl) rfl
theorem c_subtract (H : AH) (y x q m : Nat) (cy cx : Cp) (f p : Int) (Y X : List Int) (hp : 2 ≤ p ∧ p ≤ 2147483647) (hf : 0 ≤ f ∧ f < p) (hy : H.f y = some (Y.map (AV.int .i64))) (hx : H.f x = some (X.map (AV.int .i64))) (hq : H.f q = some [.int .i64 p])
    (hyx : y ≠ x) (hyq : y ≠ q) (hlY : Y.length = m) (hlX : X.length = m) (hm : m ≤ 1000000) (bY : ∀ k, k < m → 0 ≤ Y.getD k 0 ∧ Y.getD k 0 < p) (bX : ∀ k, k < m → 0 ≤ X.getD k 0 ∧ X.getD k 0 < p) :
    ACalls Try.prog 69 [.bsl y 0 m cy, .bsl x 0 m cx, .int .i64 f, .ptr q 0] H (fun v h' => v = .tup [] ∧ h' = H.put y (((List.range m).map (subF Y X f p)).map (AV.int .i64))) := by
  have ex : ∀ cs, (H.put y cs).f x = some (X.map (AV.int .i64)) := fun cs => by rw [AH.put_ne H cs (Ne.symm hyx), hx]
  have eq : ∀ cs, (H.put y cs).f q = some [.int .i64 p] := fun cs => by rw [AH.put_ne H cs (Ne.symm hyq), hq]
  refine acalls_of_good 4 32 [] Try.func69 rfl rfl (by kernel_rfl) rfl rfl (by decide) ?_
  simp (disch := first | omega | assumption) only [go_sem, Option.map, List.isEmpty, ↓reduceIte, Nat.reduceEqDiff, Nat.reduceAdd, Nat.reduceSub, Nat.reduceMul, Nat.reduceLT, Nat.reduceLeDiff, reduceCtorEq, Nat.reduceBEq, Nat.reduceBNe, Int.reduceNeg, Int.reduceLE, Int.reduceLT, Int.reduceToNat]
  repeat' (first | (first | refine good_seq ?_ | refine good_reg false (fun K hK => ?_) | (refine runL_nil (hK _ _ ?_); clear hK K) | refine runL_none rfl (fun K2 hK2 => ?_) | refine runL_some rfl rfl (fun R S hR hS => ?_) | (refine hK2 _ _ ?_; clear hK2 K2) | (refine hK2 _ _ ?_ ?_ <;> clear hK2 K2) | (refine regW_nil (hK _ _ ?_); clear hK K) | (refine regW_load rfl rfl rfl (fun F1 F2 hF1 hF2 => ?_)) | (refine hF1 _ ?_ ?_ <;> clear hF1 hF2 F1 F2) | (refine hF2 _ _ (fun K2 hK2 => ?_); clear hF1 hF2 F1 F2) | refine regW_light rfl rfl rfl (fun _ _ => rfl) (fun K2 hK2 => ?_) | refine regW_lguard rfl rfl rfl rfl (fun _ _ => rfl) (fun R S hR hS => ?_) | refine regW_heavy rfl rfl (fun K2 hK2 => ?_) | with_reducible refine log_goal ?_ | (refine hR _ (fun K2 hK2 => ?_); clear hR hS R S) | (refine hS _ ?_; clear hR hS R S) | refine good_block ?_ | refine good_skip ?_ | refine good_exit ?_ | refine good_ret ?_ | refine good_cond ?_ | refine And.intro ?_ ?_ | intro _) <;> try simp (disch := first | omega | assumption) only [go_sem, Option.map, List.isEmpty, ↓reduceIte, Nat.reduceEqDiff, Nat.reduceAdd, Nat.reduceSub, Nat.reduceMul, Nat.reduceLT, Nat.reduceLeDiff, reduceCtorEq, Nat.reduceBEq, Nat.reduceBNe, Int.reduceNeg, Int.reduceLE, Int.reduceLT, Int.reduceToNat] | omega)
  refine good_loop_s (σ := Nat) (fun k => [(0, .bsl y 0 m cy), (1, .bsl x 0 m cx), (2, .int .i64 f), (3, .ptr q 0), (9, .int .i64 m), (10, .int .i64 k)]) (fun k => H.put y ((upto (subF Y X f p) Y k).map (AV.int .i64))) (fun k => k ≤ m) (fun k => m - k) 0 ?_ ?_ (Nat.zero_le _) ?_
  · simp (disch := first | omega | assumption) only [go_sem, Option.map, List.isEmpty, ↓reduceIte, Nat.reduceEqDiff, Nat.reduceAdd, Nat.reduceSub, Nat.reduceMul, Nat.reduceLT, Nat.reduceLeDiff, reduceCtorEq, Nat.reduceBEq, Nat.reduceBNe, Int.reduceNeg, Int.reduceLE, Int.reduceLT, Int.reduceToNat]; (try (refine ⟨?_, ?_⟩ <;> omega)); (try omega)
  · simp only [upto_zero]; exact put_self hy
  · intro k hk n hn
    have hul := upto_length (subF Y X f p) Y (k := k) (by omega)
    have hge := upto_ge (subF Y X f p) Y (Nat.le_refl k)
    by_cases hkm : k < m
    · have b1 := bY k hkm
      have b2 := bX k hkm
      have b3 := mul_bd hp.2 hf b2
      have b4 : (f * X.getD k 0).tmod p = f * X.getD k 0 % p := tmod_nn b3.1
      have b5 := Int.emod_nonneg (f * X.getD k 0) (show p ≠ 0 by omega)
      have b6 := Int.emod_lt_of_pos (f * X.getD k 0) (show 0 < p by omega)
      repeat' (first | (first | refine good_seq ?_ | refine good_reg false (fun K hK => ?_) | (refine runL_nil (hK _ _ ?_); clear hK K) | refine runL_none rfl (fun K2 hK2 => ?_) | refine runL_some rfl rfl (fun R S hR hS => ?_) | (refine hK2 _ _ ?_; clear hK2 K2) | (refine hK2 _ _ ?_ ?_ <;> clear hK2 K2) | (refine regW_nil (hK _ _ ?_); clear hK K) | (refine regW_load rfl rfl rfl (fun F1 F2 hF1 hF2 => ?_)) | (refine hF1 _ ?_ ?_ <;> clear hF1 hF2 F1 F2) | (refine hF2 _ _ (fun K2 hK2 => ?_); clear hF1 hF2 F1 F2) | refine regW_light rfl rfl rfl (fun _ _ => rfl) (fun K2 hK2 => ?_) | refine regW_lguard rfl rfl rfl rfl (fun _ _ => rfl) (fun R S hR hS => ?_) | refine regW_heavy rfl rfl (fun K2 hK2 => ?_) | with_reducible refine log_goal ?_ | (refine hR _ (fun K2 hK2 => ?_); clear hR hS R S) | (refine hS _ ?_; clear hR hS R S) | refine good_block ?_ | refine good_skip ?_ | refine good_exit ?_ | refine good_ret ?_ | refine good_cond ?_ | refine And.intro ?_ ?_ | intro _) <;> try simp (disch := first | omega | assumption) only [go_sem, Option.map, List.isEmpty, ↓reduceIte, Nat.reduceEqDiff, Nat.reduceAdd, Nat.reduceSub, Nat.reduceMul, Nat.reduceLT, Nat.reduceLeDiff, reduceCtorEq, Nat.reduceBEq, Nat.reduceBNe, Int.reduceNeg, Int.reduceLE, Int.reduceLT, Int.reduceToNat, ex, eq, hge, b4] | ((first | refine good_drw (id := 3) mixed false [[], [], [], [], [2, 3], [2, 3, 4], [], [], [], [7, 8], [7, 8, 9], [6, 7, 8, 9, 10], [], [6, 7, 8, 9, 10, 11, 12], [2, 3, 4, 5, 6, 7, 8, 9, 10, 11, 12, 13], [], [2, 3, 4, 5, 6, 7, 8, 9, 10, 11, 12, 13, 14, 15], [0, 1, 2, 3, 4, 5, 6, 7, 8, 9, 10, 11, 12, 13, 14, 15, 16], [0, 1, 2, 3, 4, 5, 6, 7, 8, 9, 10, 11, 12, 13, 14, 15, 16, 17]] [0, 1, 2, 3, 4, 5, 6, 7, 8, 9, 10, 11, 12, 13, 14, 15, 16, 17, 18] (by decide +kernel) (fun K hK => ?_) | (refine ACalls.mono (c_residue _ _ (by omega) _) (fun v h' hv => ?_); obtain ⟨rfl, rfl⟩ := hv)) <;> try simp (disch := first | omega | assumption) only [go_sem, Option.map, List.isEmpty, ↓reduceIte, Nat.reduceEqDiff, Nat.reduceAdd, Nat.reduceSub, Nat.reduceMul, Nat.reduceLT, Nat.reduceLeDiff, reduceCtorEq, Nat.reduceBEq, Nat.reduceBNe, Int.reduceNeg, Int.reduceLE, Int.reduceLT, Int.reduceToNat, ex, eq, hge, b4]) | omega)
      refine Again.to (k + 1) (by omega) (by omega) ?_ ?_
      · simp (disch := first | omega | assumption) only [go_sem, Option.map, List.isEmpty, ↓reduceIte, Nat.reduceEqDiff, Nat.reduceAdd, Nat.reduceSub, Nat.reduceMul, Nat.reduceLT, Nat.reduceLeDiff, reduceCtorEq, Nat.reduceBEq, Nat.reduceBNe, Int.reduceNeg, Int.reduceLE, Int.reduceLT, Int.reduceToNat]; (try (refine ⟨?_, ?_⟩ <;> omega)); (try omega)
      · rw [← upto_set (subF Y X f p) Y (by omega)]; rfl
    · repeat' (first | (first | refine good_seq ?_ | refine good_reg false (fun K hK => ?_) | (refine runL_nil (hK _ _ ?_); clear hK K) | refine runL_none rfl (fun K2 hK2 => ?_) | refine runL_some rfl rfl (fun R S hR hS => ?_) | (refine hK2 _ _ ?_; clear hK2 K2) | (refine hK2 _ _ ?_ ?_ <;> clear hK2 K2) | (refine regW_nil (hK _ _ ?_); clear hK K) | (refine regW_load rfl rfl rfl (fun F1 F2 hF1 hF2 => ?_)) | (refine hF1 _ ?_ ?_ <;> clear hF1 hF2 F1 F2) | (refine hF2 _ _ (fun K2 hK2 => ?_); clear hF1 hF2 F1 F2) | refine regW_light rfl rfl rfl (fun _ _ => rfl) (fun K2 hK2 => ?_) | refine regW_lguard rfl rfl rfl rfl (fun _ _ => rfl) (fun R S hR hS => ?_) | refine regW_heavy rfl rfl (fun K2 hK2 => ?_) | with_reducible refine log_goal ?_ | (refine hR _ (fun K2 hK2 => ?_); clear hR hS R S) | (refine hS _ ?_; clear hR hS R S) | refine good_block ?_ | refine good_skip ?_ | refine good_exit ?_ | refine good_ret ?_ | refine good_cond ?_ | refine And.intro ?_ ?_ | intro _) <;> try simp (disch := first | omega | assumption) only [go_sem, Option.map, List.isEmpty, ↓reduceIte, Nat.reduceEqDiff, Nat.reduceAdd, Nat.reduceSub, Nat.reduceMul, Nat.reduceLT, Nat.reduceLeDiff, reduceCtorEq, Nat.reduceBEq, Nat.reduceBNe, Int.reduceNeg, Int.reduceLE, Int.reduceLT, Int.reduceToNat, ex, eq, hge] | ((first | refine good_drw (id := 3) mixed false [[], [], [], [], [2, 3], [2, 3, 4], [], [], [], [7, 8], [7, 8, 9], [6, 7, 8, 9, 10], [], [6, 7, 8, 9, 10, 11, 12], [2, 3, 4, 5, 6, 7, 8, 9, 10, 11, 12, 13], [], [2, 3, 4, 5, 6, 7, 8, 9, 10, 11, 12, 13, 14, 15], [0, 1, 2, 3, 4, 5, 6, 7, 8, 9, 10, 11, 12, 13, 14, 15, 16], [0, 1, 2, 3, 4, 5, 6, 7, 8, 9, 10, 11, 12, 13, 14, 15, 16, 17]] [0, 1, 2, 3, 4, 5, 6, 7, 8, 9, 10, 11, 12, 13, 14, 15, 16, 17, 18] (by decide +kernel) (fun K hK => ?_)) <;> try simp (disch := first | omega | assumption) only [go_sem, Option.map, List.isEmpty, ↓reduceIte, Nat.reduceEqDiff, Nat.reduceAdd, Nat.reduceSub, Nat.reduceMul, Nat.reduceLT, Nat.reduceLeDiff, reduceCtorEq, Nat.reduceBEq, Nat.reduceBNe, Int.reduceNeg, Int.reduceLE, Int.reduceLT, Int.reduceToNat, ex, eq, hge]) | omega)
      have : k = m := by omega
      rw [this, upto_full _ _ hlY]
end Go.Eng
