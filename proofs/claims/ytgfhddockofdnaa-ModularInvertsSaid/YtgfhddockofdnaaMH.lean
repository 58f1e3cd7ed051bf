/- Texts W25 W26 W28 of an engine over abstract values and of the walks of this program, one after the other. -/
import Derived.Test.YtgfhddockofdnaaMG
open Go Go.Proofs
set_option linter.unusedVariables false
set_option linter.unusedSimpArgs false
set_option maxRecDepth 4000
set_option maxHeartbeats 4000000
namespace Go.Eng
attribute [local irreducible] Good ACalls runL regW stepW opW gdV' gdD condW gifW binW arW loadW storeW idxAW lenW appW appBW cutW onSome onBnd callW fldAW Again thenQ blockQ resW endQ Up loadR
/-! ### powers -/
theorem pow_emod (x m : Int) : ∀ n : Nat, (x % m) ^ n % m = x ^ n % m
  | 0 => by rw [Int.pow_zero, Int.pow_zero]
  | n + 1 => by
    rw [Int.pow_succ, Int.pow_succ, Int.mul_emod, pow_emod x m n, Int.emod_emod_of_dvd x (Int.dvd_refl m), ← Int.mul_emod]
theorem pow_step {o a m e : Int} (he : 0 < e) : (if e.tmod 2 = 1 then o * a % m else o) * (a * a % m) ^ (e.tdiv 2).toNat % m = o * a ^ e.toNat % m := by
  have h1 : e.tmod 2 = e % 2 := Int.tmod_eq_emod_of_nonneg (by omega)
  have h2 : e.tdiv 2 = e / 2 := Int.tdiv_eq_ediv_of_nonneg (by omega)
  rw [h1, h2, Int.mul_emod, pow_emod, ← Int.mul_emod]
  have h3 : ∀ k : Nat, (a * a) ^ k = a ^ (2 * k) := fun k => by rw [Int.pow_mul]; congr 1; rw [Int.pow_succ, Int.pow_succ, Int.pow_zero, Int.one_mul]
  rw [h3]
  by_cases hc : e % 2 = 1
  · rw [if_pos hc]
    have h4 : e.toNat = 2 * (e / 2).toNat + 1 := by omega
    rw [h4, Int.pow_succ, Int.mul_emod, Int.emod_emod_of_dvd (o * a) (Int.dvd_refl m), ← Int.mul_emod]
    congr 1
    rw [Int.mul_assoc, Int.mul_comm a]
  · rw [if_neg hc]
    have h4 : e.toNat = 2 * (e / 2).toNat := by omega
    rw [h4]
theorem c_ModPow (a e m : Int) (hm : 2 ≤ m ∧ m ≤ 2147483647) (he : 0 ≤ e ∧ e ≤ 2147483647) (h : AH) : ACalls Try.prog 83 [.int .i64 a, .int .i64 e, .int .i64 m] h (fun v h' => v = .int .i64 (a ^ e.toNat % m) ∧ h' = h) := by
  have h1m : (1 : Int).tmod m = 1 := by rw [Int.tmod_eq_emod_of_nonneg (by omega)]; exact Int.emod_eq_of_lt (by omega) (by omega)
  refine acalls_of_good 3 31 [.tmp 6] Try.func83 rfl rfl (by kernel_rfl) rfl rfl (by decide) ?_
  simp (disch := first | assumption | omega) only [go_sem, Option.map, List.isEmpty, ↓reduceIte, Nat.reduceEqDiff, Nat.reduceAdd, Nat.reduceSub, Nat.reduceMul, Nat.reduceLT, Nat.reduceLeDiff, reduceCtorEq, Nat.reduceBEq, Nat.reduceBNe, Int.reduceNeg, Int.reduceLE, Int.reduceLT, Int.reduceToNat]
  repeat' (first | (first | refine good_seq ?_ | refine good_reg false (fun K hK => ?_) | (refine runL_nil (hK _ _ ?_); clear hK K) | refine runL_none rfl (fun K2 hK2 => ?_) | refine runL_some rfl rfl (fun R S hR hS => ?_) | (refine hK2 _ _ ?_; clear hK2 K2) | (refine hK2 _ _ ?_ ?_ <;> clear hK2 K2) | (refine regW_nil (hK _ _ ?_); clear hK K) | (refine regW_load rfl rfl rfl (fun F1 F2 hF1 hF2 => ?_)) | (refine hF1 _ ?_ ?_ <;> clear hF1 hF2 F1 F2) | (refine hF2 _ _ (fun K2 hK2 => ?_); clear hF1 hF2 F1 F2) | refine regW_light rfl rfl rfl (fun _ _ => rfl) (fun K2 hK2 => ?_) | refine regW_lguard rfl rfl rfl rfl (fun _ _ => rfl) (fun R S hR hS => ?_) | refine regW_heavy rfl rfl (fun K2 hK2 => ?_) | with_reducible refine log_goal ?_ | (refine hR _ (fun K2 hK2 => ?_); clear hR hS R S) | (refine hS _ ?_; clear hR hS R S) | refine good_block ?_ | refine good_skip ?_ | refine good_exit ?_ | refine good_ret ?_ | refine good_cond ?_ | refine And.intro ?_ ?_ | intro _) <;> try simp (disch := first | assumption | omega) only [go_sem, Option.map, List.isEmpty, ↓reduceIte, Nat.reduceEqDiff, Nat.reduceAdd, Nat.reduceSub, Nat.reduceMul, Nat.reduceLT, Nat.reduceLeDiff, reduceCtorEq, Nat.reduceBEq, Nat.reduceBNe, Int.reduceNeg, Int.reduceLE, Int.reduceLT, Int.reduceToNat, h1m] | ((first | (refine ACalls.mono (c_Mod _ _ (by omega) _) (fun v h' hv => ?_); obtain ⟨rfl, hh⟩ := hv; subst h')) <;> try simp (disch := first | assumption | omega) only [go_sem, Option.map, List.isEmpty, ↓reduceIte, Nat.reduceEqDiff, Nat.reduceAdd, Nat.reduceSub, Nat.reduceMul, Nat.reduceLT, Nat.reduceLeDiff, reduceCtorEq, Nat.reduceBEq, Nat.reduceBNe, Int.reduceNeg, Int.reduceLE, Int.reduceLT, Int.reduceToNat, h1m]) | omega)
  have hi0 : (0 ≤ a % m ∧ a % m < m) ∧ (0 ≤ e ∧ e ≤ 2147483647) ∧ ((0 : Int) ≤ 1 ∧ 1 < m) ∧ 1 * (a % m) ^ e.toNat % m = a ^ e.toNat % m := ⟨⟨Int.emod_nonneg _ (by omega), Int.emod_lt_of_pos _ (by omega)⟩, he, ⟨by omega, by omega⟩, by rw [Int.one_mul]; exact pow_emod a m _⟩
  refine good_loop_s (σ := Int × Int × Int) (fun s => [(0, .int .i64 s.1), (1, .int .i64 s.2.1), (2, .int .i64 m), (7, .int .i64 s.2.2)]) (fun _ => h)
    (fun s => (0 ≤ s.1 ∧ s.1 < m) ∧ (0 ≤ s.2.1 ∧ s.2.1 ≤ 2147483647) ∧ (0 ≤ s.2.2 ∧ s.2.2 < m) ∧ s.2.2 * s.1 ^ s.2.1.toNat % m = a ^ e.toNat % m) (fun s => s.2.1.toNat) (a % m, e, 1) ?_ rfl hi0 ?_
  · simp (disch := first | assumption | omega) only [go_sem, Option.map, List.isEmpty, ↓reduceIte, Nat.reduceEqDiff, Nat.reduceAdd, Nat.reduceSub, Nat.reduceMul, Nat.reduceLT, Nat.reduceLeDiff, reduceCtorEq, Nat.reduceBEq, Nat.reduceBNe, Int.reduceNeg, Int.reduceLE, Int.reduceLT, Int.reduceToNat]; (try (refine ⟨?_, ?_⟩ <;> omega)); (try omega)
  rintro ⟨b, f, o⟩ ⟨hb, hf, ho, hv⟩ n hn
  dsimp only at hb hf ho hv hn ⊢
  have p1 := mul_bd hm.2 ho hb
  have p2 := mul_bd hm.2 hb hb
  have t1 : (o * b).tmod m = o * b % m := tmod_nn p1.1
  have t2 : (b * b).tmod m = b * b % m := tmod_nn p2.1
  have q1 := Int.emod_nonneg (o * b) (show m ≠ 0 by omega)
  have q2 := Int.emod_lt_of_pos (o * b) (show 0 < m by omega)
  have q3 := Int.emod_nonneg (b * b) (show m ≠ 0 by omega)
  have q4 := Int.emod_lt_of_pos (b * b) (show 0 < m by omega)
  have d1 : f.tdiv 2 = f / 2 := Int.tdiv_eq_ediv_of_nonneg (by omega)
  by_cases hf0 : f = 0
  · subst hf0
    repeat' (first | (first | refine good_seq ?_ | refine good_reg false (fun K hK => ?_) | (refine runL_nil (hK _ _ ?_); clear hK K) | refine runL_none rfl (fun K2 hK2 => ?_) | refine runL_some rfl rfl (fun R S hR hS => ?_) | (refine hK2 _ _ ?_; clear hK2 K2) | (refine hK2 _ _ ?_ ?_ <;> clear hK2 K2) | (refine regW_nil (hK _ _ ?_); clear hK K) | (refine regW_load rfl rfl rfl (fun F1 F2 hF1 hF2 => ?_)) | (refine hF1 _ ?_ ?_ <;> clear hF1 hF2 F1 F2) | (refine hF2 _ _ (fun K2 hK2 => ?_); clear hF1 hF2 F1 F2) | refine regW_light rfl rfl rfl (fun _ _ => rfl) (fun K2 hK2 => ?_) | refine regW_lguard rfl rfl rfl rfl (fun _ _ => rfl) (fun R S hR hS => ?_) | refine regW_heavy rfl rfl (fun K2 hK2 => ?_) | with_reducible refine log_goal ?_ | (refine hR _ (fun K2 hK2 => ?_); clear hR hS R S) | (refine hS _ ?_; clear hR hS R S) | refine good_block ?_ | refine good_skip ?_ | refine good_exit ?_ | refine good_ret ?_ | refine good_cond ?_ | refine And.intro ?_ ?_ | intro _) <;> try simp (disch := first | assumption | omega) only [go_sem, Option.map, List.isEmpty, ↓reduceIte, Nat.reduceEqDiff, Nat.reduceAdd, Nat.reduceSub, Nat.reduceMul, Nat.reduceLT, Nat.reduceLeDiff, reduceCtorEq, Nat.reduceBEq, Nat.reduceBNe, Int.reduceNeg, Int.reduceLE, Int.reduceLT, Int.reduceToNat, t1, t2] | ((first | fail) <;> try simp (disch := first | assumption | omega) only [go_sem, Option.map, List.isEmpty, ↓reduceIte, Nat.reduceEqDiff, Nat.reduceAdd, Nat.reduceSub, Nat.reduceMul, Nat.reduceLT, Nat.reduceLeDiff, reduceCtorEq, Nat.reduceBEq, Nat.reduceBNe, Int.reduceNeg, Int.reduceLE, Int.reduceLT, Int.reduceToNat, t1, t2]) | omega)
    rw [← hv]
    simp only [Int.toNat_zero, Int.pow_zero, Int.mul_one]
    exact (Int.emod_eq_of_lt ho.1 ho.2).symm
  · have hst := pow_step (o := o) (a := b) (m := m) (e := f) (by omega)
    have d2 : 0 ≤ f.tdiv 2 ∧ f.tdiv 2 < f := by rw [d1]; omega
    by_cases hodd : f.tmod 2 = 1
    · rw [if_pos hodd, hv] at hst
      have hI : (0 ≤ b * b % m ∧ b * b % m < m) ∧ (0 ≤ f.tdiv 2 ∧ f.tdiv 2 ≤ 2147483647) ∧ (0 ≤ o * b % m ∧ o * b % m < m) ∧ o * b % m * (b * b % m) ^ (f.tdiv 2).toNat % m = a ^ e.toNat % m := ⟨⟨q3, q4⟩, ⟨d2.1, by omega⟩, ⟨q1, q2⟩, hst⟩
      have hmu : (f.tdiv 2).toNat < n := by omega
      repeat' (first | (first | refine good_seq ?_ | refine good_reg false (fun K hK => ?_) | (refine runL_nil (hK _ _ ?_); clear hK K) | refine runL_none rfl (fun K2 hK2 => ?_) | refine runL_some rfl rfl (fun R S hR hS => ?_) | (refine hK2 _ _ ?_; clear hK2 K2) | (refine hK2 _ _ ?_ ?_ <;> clear hK2 K2) | (refine regW_nil (hK _ _ ?_); clear hK K) | (refine regW_load rfl rfl rfl (fun F1 F2 hF1 hF2 => ?_)) | (refine hF1 _ ?_ ?_ <;> clear hF1 hF2 F1 F2) | (refine hF2 _ _ (fun K2 hK2 => ?_); clear hF1 hF2 F1 F2) | refine regW_light rfl rfl rfl (fun _ _ => rfl) (fun K2 hK2 => ?_) | refine regW_lguard rfl rfl rfl rfl (fun _ _ => rfl) (fun R S hR hS => ?_) | refine regW_heavy rfl rfl (fun K2 hK2 => ?_) | with_reducible refine log_goal ?_ | (refine hR _ (fun K2 hK2 => ?_); clear hR hS R S) | (refine hS _ ?_; clear hR hS R S) | refine good_block ?_ | refine good_skip ?_ | refine good_exit ?_ | refine good_ret ?_ | refine good_cond ?_ | refine And.intro ?_ ?_ | intro _) <;> try simp (disch := first | assumption | omega) only [go_sem, Option.map, List.isEmpty, ↓reduceIte, Nat.reduceEqDiff, Nat.reduceAdd, Nat.reduceSub, Nat.reduceMul, Nat.reduceLT, Nat.reduceLeDiff, reduceCtorEq, Nat.reduceBEq, Nat.reduceBNe, Int.reduceNeg, Int.reduceLE, Int.reduceLT, Int.reduceToNat, t1, t2, hodd] | ((first | fail) <;> try simp (disch := first | assumption | omega) only [go_sem, Option.map, List.isEmpty, ↓reduceIte, Nat.reduceEqDiff, Nat.reduceAdd, Nat.reduceSub, Nat.reduceMul, Nat.reduceLT, Nat.reduceLeDiff, reduceCtorEq, Nat.reduceBEq, Nat.reduceBNe, Int.reduceNeg, Int.reduceLE, Int.reduceLT, Int.reduceToNat, t1, t2, hodd]) | omega)
      refine Again.to (b * b % m, f.tdiv 2, o * b % m) hI hmu ?_ rfl
      simp (disch := first | assumption | omega) only [go_sem, Option.map, List.isEmpty, ↓reduceIte, Nat.reduceEqDiff, Nat.reduceAdd, Nat.reduceSub, Nat.reduceMul, Nat.reduceLT, Nat.reduceLeDiff, reduceCtorEq, Nat.reduceBEq, Nat.reduceBNe, Int.reduceNeg, Int.reduceLE, Int.reduceLT, Int.reduceToNat]; (try (refine ⟨?_, ?_⟩ <;> omega)); (try omega)
    · rw [if_neg hodd, hv] at hst
      have hodd' : (f.tmod 2 == 1) = false := by simpa using hodd
      have hI : (0 ≤ b * b % m ∧ b * b % m < m) ∧ (0 ≤ f.tdiv 2 ∧ f.tdiv 2 ≤ 2147483647) ∧ (0 ≤ o ∧ o < m) ∧ o * (b * b % m) ^ (f.tdiv 2).toNat % m = a ^ e.toNat % m := ⟨⟨q3, q4⟩, ⟨d2.1, by omega⟩, ho, hst⟩
      have hmu : (f.tdiv 2).toNat < n := by omega
      repeat' (first | (first | refine good_seq ?_ | refine good_reg false (fun K hK => ?_) | (refine runL_nil (hK _ _ ?_); clear hK K) | refine runL_none rfl (fun K2 hK2 => ?_) | refine runL_some rfl rfl (fun R S hR hS => ?_) | (refine hK2 _ _ ?_; clear hK2 K2) | (refine hK2 _ _ ?_ ?_ <;> clear hK2 K2) | (refine regW_nil (hK _ _ ?_); clear hK K) | (refine regW_load rfl rfl rfl (fun F1 F2 hF1 hF2 => ?_)) | (refine hF1 _ ?_ ?_ <;> clear hF1 hF2 F1 F2) | (refine hF2 _ _ (fun K2 hK2 => ?_); clear hF1 hF2 F1 F2) | refine regW_light rfl rfl rfl (fun _ _ => rfl) (fun K2 hK2 => ?_) | refine regW_lguard rfl rfl rfl rfl (fun _ _ => rfl) (fun R S hR hS => ?_) | refine regW_heavy rfl rfl (fun K2 hK2 => ?_) | with_reducible refine log_goal ?_ | (refine hR _ (fun K2 hK2 => ?_); clear hR hS R S) | (refine hS _ ?_; clear hR hS R S) | refine good_block ?_ | refine good_skip ?_ | refine good_exit ?_ | refine good_ret ?_ | refine good_cond ?_ | refine And.intro ?_ ?_ | intro _) <;> try simp (disch := first | assumption | omega) only [go_sem, Option.map, List.isEmpty, ↓reduceIte, Nat.reduceEqDiff, Nat.reduceAdd, Nat.reduceSub, Nat.reduceMul, Nat.reduceLT, Nat.reduceLeDiff, reduceCtorEq, Nat.reduceBEq, Nat.reduceBNe, Int.reduceNeg, Int.reduceLE, Int.reduceLT, Int.reduceToNat, t1, t2, hodd'] | ((first | fail) <;> try simp (disch := first | assumption | omega) only [go_sem, Option.map, List.isEmpty, ↓reduceIte, Nat.reduceEqDiff, Nat.reduceAdd, Nat.reduceSub, Nat.reduceMul, Nat.reduceLT, Nat.reduceLeDiff, reduceCtorEq, Nat.reduceBEq, Nat.reduceBNe, Int.reduceNeg, Int.reduceLE, Int.reduceLT, Int.reduceToNat, t1, t2, hodd']) | omega)
      refine Again.to (b * b % m, f.tdiv 2, o) hI hmu ?_ rfl
      simp (disch := first | assumption | omega) only [go_sem, Option.map, List.isEmpty, ↓reduceIte, Nat.reduceEqDiff, Nat.reduceAdd, Nat.reduceSub, Nat.reduceMul, Nat.reduceLT, Nat.reduceLeDiff, reduceCtorEq, Nat.reduceBEq, Nat.reduceBNe, Int.reduceNeg, Int.reduceLE, Int.reduceLT, Int.reduceToNat]; (try (refine ⟨?_, ?_⟩ <;> omega)); (try omega)
theorem isP_prime {p : Int} (h : isP p = true) : PrimeN p.toNat := by
  obtain ⟨h1, h2, h3⟩ := isP_spec h
  have key : ∀ d : Nat, 2 ≤ d → d * d ≤ p.toNat → ¬ d ∣ p.toNat := fun d hd hdd hdv => by
    have hq : (d : Int) * (d : Int) ≤ p := by
      have : ((d * d : Nat) : Int) ≤ p := by omega
      rw [Int.natCast_mul] at this; exact this
    refine h3 d (by omega) hq ?_
    obtain ⟨q, hq2⟩ := hdv
    have : p = (d : Int) * (q : Int) := by rw [← Int.natCast_mul, ← hq2]; omega
    rw [this]; exact Int.mul_emod_right _ _
  refine ⟨by omega, fun d hd hlt hdv => ?_⟩
  obtain ⟨q, hq⟩ := hdv
  rcases Nat.le_total d q with hle | hle
  · exact key d hd (by rw [hq]; exact Nat.mul_le_mul (Nat.le_refl d) hle) ⟨q, hq⟩
  · have hq2 : 2 ≤ q := by
      rcases Nat.lt_or_ge q 2 with h4 | h4
      · have : q = 0 ∨ q = 1 := by omega
        rcases this with rfl | rfl
        · simp at hq; omega
        · simp at hq; omega
      · exact h4
    exact key q hq2 (by rw [hq]; exact Nat.mul_le_mul hle (Nat.le_refl q)) ⟨d, by rw [hq, Nat.mul_comm]⟩
theorem fermat_inv {a p : Int} (hp : isP p = true) (ha : 0 < a ∧ a < p) : a ^ (p - 2).toNat % p = invF a p := by
  have hpp := isP_spec hp
  have hf := fermat (isP_prime hp) (a := a.toNat) (by omega) (by omega)
  have hpow : a ^ (p.toNat - 1) % p = 1 := by
    have e : a = (a.toNat : Int) := by omega
    have e2 : p = (p.toNat : Int) := by omega
    rw [e, ← Int.natCast_pow]
    have h3 : ((a.toNat ^ (p.toNat - 1) % p.toNat : Nat) : Int) = 1 := by rw [hf]; rfl
    rw [Int.natCast_emod] at h3
    rw [← e2] at h3
    simpa using h3
  have hr : a * (a ^ (p - 2).toNat % p) % p = 1 := by
    rw [Int.mul_emod, Int.emod_emod_of_dvd _ (Int.dvd_refl p), ← Int.mul_emod, Int.mul_comm, ← Int.pow_succ]
    have : (p - 2).toNat.succ = p.toNat - 1 := by omega
    rw [this]; exact hpow
  exact (invF_of hpp.1 (.inl ⟨rfl, Int.emod_nonneg _ (by omega), Int.emod_lt_of_pos _ (by omega), hr⟩)).1
theorem c_rinv (a p : Int) (hp : isP p = true) (ha : 0 < a ∧ a < p) (h : AH) : ACalls Try.prog 70 [.int .i64 a, .int .i64 p] h (fun v h' => v = .int .i64 (invF a p) ∧ h' = h) := by
  have hpp := isP_spec hp
  refine acalls_of_good 2 10 [.tmp 4] Try.func70 rfl rfl (by kernel_rfl) rfl rfl (by decide) ?_
  simp (disch := first | assumption | omega) only [go_sem, Option.map, List.isEmpty, ↓reduceIte, Nat.reduceEqDiff, Nat.reduceAdd, Nat.reduceSub, Nat.reduceMul, Nat.reduceLT, Nat.reduceLeDiff, reduceCtorEq, Nat.reduceBEq, Nat.reduceBNe, Int.reduceNeg, Int.reduceLE, Int.reduceLT, Int.reduceToNat]
  repeat' (first | (first | refine good_seq ?_ | refine good_reg false (fun K hK => ?_) | (refine runL_nil (hK _ _ ?_); clear hK K) | refine runL_none rfl (fun K2 hK2 => ?_) | refine runL_some rfl rfl (fun R S hR hS => ?_) | (refine hK2 _ _ ?_; clear hK2 K2) | (refine hK2 _ _ ?_ ?_ <;> clear hK2 K2) | (refine regW_nil (hK _ _ ?_); clear hK K) | (refine regW_load rfl rfl rfl (fun F1 F2 hF1 hF2 => ?_)) | (refine hF1 _ ?_ ?_ <;> clear hF1 hF2 F1 F2) | (refine hF2 _ _ (fun K2 hK2 => ?_); clear hF1 hF2 F1 F2) | refine regW_light rfl rfl rfl (fun _ _ => rfl) (fun K2 hK2 => ?_) | refine regW_lguard rfl rfl rfl rfl (fun _ _ => rfl) (fun R S hR hS => ?_) | refine regW_heavy rfl rfl (fun K2 hK2 => ?_) | with_reducible refine log_goal ?_ | (refine hR _ (fun K2 hK2 => ?_); clear hR hS R S) | (refine hS _ ?_; clear hR hS R S) | refine good_block ?_ | refine good_skip ?_ | refine good_exit ?_ | refine good_ret ?_ | refine good_cond ?_ | refine And.intro ?_ ?_ | intro _) <;> try simp (disch := first | assumption | omega) only [go_sem, Option.map, List.isEmpty, ↓reduceIte, Nat.reduceEqDiff, Nat.reduceAdd, Nat.reduceSub, Nat.reduceMul, Nat.reduceLT, Nat.reduceLeDiff, reduceCtorEq, Nat.reduceBEq, Nat.reduceBNe, Int.reduceNeg, Int.reduceLE, Int.reduceLT, Int.reduceToNat] | ((first | (refine ACalls.mono (c_ModPow a (p - 2) p ⟨hpp.1, hpp.2.1⟩ (by omega) _) (fun v h' hv => ?_); obtain ⟨rfl, hh⟩ := hv; subst h'; rw [fermat_inv hp ha])) <;> try simp (disch := first | assumption | omega) only [go_sem, Option.map, List.isEmpty, ↓reduceIte, Nat.reduceEqDiff, Nat.reduceAdd, Nat.reduceSub, Nat.reduceMul, Nat.reduceLT, Nat.reduceLeDiff, reduceCtorEq, Nat.reduceBEq, Nat.reduceBNe, Int.reduceNeg, Int.reduceLE, Int.reduceLT, Int.reduceToNat]) | omega)
end Go.Eng
open Go Go.Proofs
set_option linter.unusedVariables false
set_option linter.unusedSimpArgs false
set_option maxRecDepth 4000
set_option maxHeartbeats 4000000
namespace Go.Eng
attribute [local irreducible] Good ACalls runL regW stepW opW gdV' gdD condW gifW binW arW loadW storeW idxAW lenW appW appBW cutW onSome onBnd callW fldAW Again thenQ blockQ resW endQ Up loadR
/-! ### the reference's remainders, as rows that may be written -/
theorem take_red (a : List (List Int)) (m : Int) {i : Nat} (hi : i < a.length) : redM (a.take i) m ++ [(a.getD i []).map (· % m)] = redM (a.take (i + 1)) m := by
  unfold redM
  rw [List.take_add_one, List.map_append, List.getElem?_eq_getElem hi, Option.toList_some, List.map_singleton, List.getD_eq_getElem?_getD, List.getElem?_eq_getElem hi]
  rfl
theorem take_mod (r : List Int) (m : Int) {j : Nat} (hj : j < r.length) : (r.take j).map (· % m) ++ [r.getD j 0 % m] = (r.take (j + 1)).map (· % m) := by
  rw [List.take_add_one, List.map_append, List.getElem?_eq_getElem hj, Option.toList_some, List.map_singleton, List.getD_eq_getElem?_getD, List.getElem?_eq_getElem hj]
  rfl
theorem c_ReduceB (a : List (List Int)) (k : Nat) (m : Int) (hm : 0 < m ∧ m ≤ 4611686018427387904) (hl : a.length ≤ 1000000) (hk : 1 ≤ k ∧ k ≤ 1000000) (hr : ∀ i, i < a.length → (a.getD i []).length = k) (h : AH) :
    ACalls Try.prog 54 [matV a, .int .i64 m] h (fun v h' => ∃ O ids, v = basL a.length O ∧ KC (.grow 1) k h h' O ids (redM a m)) := by
  refine acalls_of_good 2 36 [.tmp 4] Try.func54 rfl rfl (by kernel_rfl) rfl rfl (by decide) ?_
  simp (disch := first | assumption | omega) only [go_sem, Option.map, List.isEmpty, ↓reduceIte, Nat.reduceEqDiff, Nat.reduceAdd, Nat.reduceSub, Nat.reduceMul, Nat.reduceLT, Nat.reduceLeDiff, reduceCtorEq, Nat.reduceBEq, Nat.reduceBNe, Int.reduceNeg, Int.reduceLE, Int.reduceLT, Int.reduceToNat]
  repeat' (first | (first | refine good_seq ?_ | refine good_reg false (fun K hK => ?_) | (refine runL_nil (hK _ _ ?_); clear hK K) | refine runL_none rfl (fun K2 hK2 => ?_) | refine runL_some rfl rfl (fun R S hR hS => ?_) | (refine hK2 _ _ ?_; clear hK2 K2) | (refine hK2 _ _ ?_ ?_ <;> clear hK2 K2) | (refine regW_nil (hK _ _ ?_); clear hK K) | (refine regW_load rfl rfl rfl (fun F1 F2 hF1 hF2 => ?_)) | (refine hF1 _ ?_ ?_ <;> clear hF1 hF2 F1 F2) | (refine hF2 _ _ (fun K2 hK2 => ?_); clear hF1 hF2 F1 F2) | refine regW_light rfl rfl rfl (fun _ _ => rfl) (fun K2 hK2 => ?_) | refine regW_lguard rfl rfl rfl rfl (fun _ _ => rfl) (fun R S hR hS => ?_) | refine regW_heavy rfl rfl (fun K2 hK2 => ?_) | with_reducible refine log_goal ?_ | (refine hR _ (fun K2 hK2 => ?_); clear hR hS R S) | (refine hS _ ?_; clear hR hS R S) | refine good_block ?_ | refine good_skip ?_ | refine good_exit ?_ | refine good_ret ?_ | refine good_cond ?_ | refine And.intro ?_ ?_ | intro _) <;> try simp (disch := first | assumption | omega) only [go_sem, Option.map, List.isEmpty, ↓reduceIte, Nat.reduceEqDiff, Nat.reduceAdd, Nat.reduceSub, Nat.reduceMul, Nat.reduceLT, Nat.reduceLeDiff, reduceCtorEq, Nat.reduceBEq, Nat.reduceBNe, Int.reduceNeg, Int.reduceLE, Int.reduceLT, Int.reduceToNat] | omega)
  refine good_loop_s (σ := AH × Nat × List Nat × Nat) (fun s => [(0, matV a), (1, .int .i64 m), (5, basL s.2.2.2 s.2.1), (11, matV a), (12, .int .i64 a.length), (13, .int .i64 s.2.2.2)]) (fun s => s.1)
    (fun s => s.2.2.2 ≤ a.length ∧ KC (.grow 1) k h s.1 s.2.1 s.2.2.1 (redM (a.take s.2.2.2) m)) (fun s => a.length - s.2.2.2) (h, 0, [], 0) ?_ rfl ⟨Nat.zero_le _, by simp only [List.take_zero]; exact KC.start _ _ _⟩ ?_
  · simp (disch := first | assumption | omega) only [go_sem, Option.map, List.isEmpty, ↓reduceIte, Nat.reduceEqDiff, Nat.reduceAdd, Nat.reduceSub, Nat.reduceMul, Nat.reduceLT, Nat.reduceLeDiff, reduceCtorEq, Nat.reduceBEq, Nat.reduceBNe, Int.reduceNeg, Int.reduceLE, Int.reduceLT, Int.reduceToNat]; (try (refine ⟨?_, ?_⟩ <;> omega)); (try omega)
    all_goals exact ⟨rfl, rfl⟩
  rintro ⟨H, O, ids, i⟩ ⟨hi, hK⟩ n1 hn1
  dsimp only at hi hK hn1 ⊢
  have hMl : (redM (a.take i) m).length = i := by rw [redM_length, List.length_take]; omega
  by_cases hil : i < a.length
  · have hrl := hr i hil
    repeat' (first | (first | refine good_seq ?_ | refine good_reg false (fun K hK => ?_) | (refine runL_nil (hK _ _ ?_); clear hK K) | refine runL_none rfl (fun K2 hK2 => ?_) | refine runL_some rfl rfl (fun R S hR hS => ?_) | (refine hK2 _ _ ?_; clear hK2 K2) | (refine hK2 _ _ ?_ ?_ <;> clear hK2 K2) | (refine regW_nil (hK _ _ ?_); clear hK K) | (refine regW_load rfl rfl rfl (fun F1 F2 hF1 hF2 => ?_)) | (refine hF1 _ ?_ ?_ <;> clear hF1 hF2 F1 F2) | (refine hF2 _ _ (fun K2 hK2 => ?_); clear hF1 hF2 F1 F2) | refine regW_light rfl rfl rfl (fun _ _ => rfl) (fun K2 hK2 => ?_) | refine regW_lguard rfl rfl rfl rfl (fun _ _ => rfl) (fun R S hR hS => ?_) | refine regW_heavy rfl rfl (fun K2 hK2 => ?_) | with_reducible refine log_goal ?_ | (refine hR _ (fun K2 hK2 => ?_); clear hR hS R S) | (refine hS _ ?_; clear hR hS R S) | refine good_block ?_ | refine good_skip ?_ | refine good_exit ?_ | refine good_ret ?_ | refine good_cond ?_ | refine And.intro ?_ ?_ | intro _) <;> try simp (disch := first | assumption | omega) only [go_sem, Option.map, List.isEmpty, ↓reduceIte, Nat.reduceEqDiff, Nat.reduceAdd, Nat.reduceSub, Nat.reduceMul, Nat.reduceLT, Nat.reduceLeDiff, reduceCtorEq, Nat.reduceBEq, Nat.reduceBNe, Int.reduceNeg, Int.reduceLE, Int.reduceLT, Int.reduceToNat] | omega)
    refine good_loop_s (σ := AH × Nat × Nat) (fun s => [(0, matV a), (1, .int .i64 m), (5, basL i O), (8, basL s.2.2 s.2.1), (11, matV a), (12, .int .i64 a.length), (13, .int .i64 i), (17, rowV (a.getD i [])), (18, .int .i64 (a.getD i []).length), (19, .int .i64 s.2.2)]) (fun s => s.1)
      (fun s => s.2.2 ≤ k ∧ Ext H s.1 ∧ (0 < s.2.2 → s.1.f s.2.1 = some ((((a.getD i []).take s.2.2).map (· % m)).map (AV.int .i64)) ∧ H.n ≤ s.2.1 ∧ s.2.1 < s.1.n)) (fun s => k - s.2.2) (H, 0, 0) ?_ rfl ⟨Nat.zero_le _, .refl _, fun hh => absurd hh (Nat.lt_irrefl _)⟩ ?_
    · simp (disch := first | assumption | omega) only [go_sem, Option.map, List.isEmpty, ↓reduceIte, Nat.reduceEqDiff, Nat.reduceAdd, Nat.reduceSub, Nat.reduceMul, Nat.reduceLT, Nat.reduceLeDiff, reduceCtorEq, Nat.reduceBEq, Nat.reduceBNe, Int.reduceNeg, Int.reduceLE, Int.reduceLT, Int.reduceToNat]; (try (refine ⟨?_, ?_⟩ <;> omega)); (try omega)
      all_goals exact ⟨rfl, rfl⟩
    rintro ⟨Hi, q, j⟩ ⟨hj, hE, hq⟩ n2 hn2
    dsimp only at hj hE hq hn2 ⊢
    have hEn := hE.n
    by_cases hjk : j < k
    · have hok : 0 < j → (Hi.mk_ [.int .i64 ((a.getD i []).getD j 0 % m)]).f q = some ((((a.getD i []).take j).map (· % m)).map (AV.int .i64)) ∧ ((((a.getD i []).take j).map (· % m)).map (AV.int .i64)).length = j := fun h0 => by
        obtain ⟨f1, f2, f3⟩ := hq h0
        exact ⟨by rw [mk_ne _ _ (by omega)]; exact f1, by rw [List.length_map, List.length_map, List.length_take]; omega⟩
      repeat' (first | ((first | (refine good_reg (id := 9) true (fun K hK => ?_)) | (refine ACalls.mono (c_Mod _ _ hm _) (fun v h' hv => ?_); obtain ⟨rfl, hh⟩ := hv; subst h') | (refine app_basL (y := .int .i64 ((a.getD i []).getD j 0 % m)) hok (AH.mk_f _ _) elT_46 szT_2 byT_2 zrT_2 rfl rfl (by omega) (by decide) (fun H' g1 g2 g3 g4 g5 => ?_))) <;> try simp (disch := first | assumption | omega) only [go_sem, Option.map, List.isEmpty, ↓reduceIte, Nat.reduceEqDiff, Nat.reduceAdd, Nat.reduceSub, Nat.reduceMul, Nat.reduceLT, Nat.reduceLeDiff, reduceCtorEq, Nat.reduceBEq, Nat.reduceBNe, Int.reduceNeg, Int.reduceLE, Int.reduceLT, Int.reduceToNat, mk_n]) | (first | refine good_seq ?_ | refine good_reg false (fun K hK => ?_) | (refine runL_nil (hK _ _ ?_); clear hK K) | refine runL_none rfl (fun K2 hK2 => ?_) | refine runL_some rfl rfl (fun R S hR hS => ?_) | (refine hK2 _ _ ?_; clear hK2 K2) | (refine hK2 _ _ ?_ ?_ <;> clear hK2 K2) | (refine regW_nil (hK _ _ ?_); clear hK K) | (refine regW_load rfl rfl rfl (fun F1 F2 hF1 hF2 => ?_)) | (refine hF1 _ ?_ ?_ <;> clear hF1 hF2 F1 F2) | (refine hF2 _ _ (fun K2 hK2 => ?_); clear hF1 hF2 F1 F2) | refine regW_light rfl rfl rfl (fun _ _ => rfl) (fun K2 hK2 => ?_) | refine regW_lguard rfl rfl rfl rfl (fun _ _ => rfl) (fun R S hR hS => ?_) | refine regW_heavy rfl rfl (fun K2 hK2 => ?_) | with_reducible refine log_goal ?_ | (refine hR _ (fun K2 hK2 => ?_); clear hR hS R S) | (refine hS _ ?_; clear hR hS R S) | refine good_block ?_ | refine good_skip ?_ | refine good_exit ?_ | refine good_ret ?_ | refine good_cond ?_ | refine And.intro ?_ ?_ | intro _) <;> try simp (disch := first | assumption | omega) only [go_sem, Option.map, List.isEmpty, ↓reduceIte, Nat.reduceEqDiff, Nat.reduceAdd, Nat.reduceSub, Nat.reduceMul, Nat.reduceLT, Nat.reduceLeDiff, reduceCtorEq, Nat.reduceBEq, Nat.reduceBNe, Int.reduceNeg, Int.reduceLE, Int.reduceLT, Int.reduceToNat, mk_n] | omega)
      have hmod := take_mod (a.getD i []) m (j := j) (by omega)
      have e2 : H'.f (Hi.n + 1) = some ((((a.getD i []).take (j + 1)).map (· % m)).map (AV.int .i64)) := by
        rw [← hmod, List.map_append]
        by_cases hj0 : j = 0
        · subst hj0; rw [if_pos rfl] at g2; exact g2
        · rw [if_neg hj0] at g2; exact g2
      have hE2 : Ext H H' := ⟨by rw [g1]; show H.n ≤ Hi.n + 1 + 1; omega, by rw [g4]; exact hE.k, fun b hb => by
        rw [g3 b (by show b ≠ Hi.n + 1; omega) (fun h0 => by have := (hq h0).2.1; omega), mk_ne _ _ (by omega)]
        exact hE.f b hb, fun κ hκ => by rw [g5]; exact hE.gr κ hκ⟩
      refine Again.to (H', Hi.n + 1, j + 1) ⟨by show j + 1 ≤ k; omega, hE2, fun _ => ⟨e2, by show H.n ≤ Hi.n + 1; omega, by show Hi.n + 1 < H'.n; rw [g1]; show Hi.n + 1 < Hi.n + 1 + 1; omega⟩⟩ (by show k - (j + 1) < n2; omega) ?_ rfl
      rw [basL_pos (n := j + 1) (Hi.n + 1) (by omega)]
      simp (disch := first | assumption | omega) only [go_sem, Option.map, List.isEmpty, ↓reduceIte, Nat.reduceEqDiff, Nat.reduceAdd, Nat.reduceSub, Nat.reduceMul, Nat.reduceLT, Nat.reduceLeDiff, reduceCtorEq, Nat.reduceBEq, Nat.reduceBNe, Int.reduceNeg, Int.reduceLE, Int.reduceLT, Int.reduceToNat]; (try (refine ⟨?_, ?_⟩ <;> omega)); (try omega)
    · have hjk2 : j = k := by omega
      subst hjk2
      obtain ⟨f1, f2, f3⟩ := hq (by omega)
      rw [List.take_of_length_le (by omega)] at f1
      have hok : 0 < i → (Hi.mk_ [.bsl q 0 j (.grow 1)]).f O = some (ids.map fun b => AV.bsl b 0 j (.grow 1)) ∧ (ids.map fun b => AV.bsl b 0 j (.grow 1)).length = i := fun h0 => by
        obtain ⟨g1, g2, g3, g4⟩ := hK.fO (by omega)
        exact ⟨by rw [mk_ne _ _ (by omega), hE.f _ g3]; exact g1, by rw [List.length_map, hK.il, hMl]⟩
      rw [basL_pos q (by omega)]
      repeat' (first | ((first | (refine good_reg (id := 11) true (fun K hK => ?_)) | (refine app_basL (y := .bsl q 0 j (.grow 1)) hok (AH.mk_f _ _) elT_22 szT_46 byT_46 zrT_46 rfl rfl (by omega) (by decide) (fun H' g1 g2 g3 g4 g5 => ?_))) <;> try simp (disch := first | assumption | omega) only [go_sem, Option.map, List.isEmpty, ↓reduceIte, Nat.reduceEqDiff, Nat.reduceAdd, Nat.reduceSub, Nat.reduceMul, Nat.reduceLT, Nat.reduceLeDiff, reduceCtorEq, Nat.reduceBEq, Nat.reduceBNe, Int.reduceNeg, Int.reduceLE, Int.reduceLT, Int.reduceToNat, mk_n]) | (first | refine good_seq ?_ | refine good_reg false (fun K hK => ?_) | (refine runL_nil (hK _ _ ?_); clear hK K) | refine runL_none rfl (fun K2 hK2 => ?_) | refine runL_some rfl rfl (fun R S hR hS => ?_) | (refine hK2 _ _ ?_; clear hK2 K2) | (refine hK2 _ _ ?_ ?_ <;> clear hK2 K2) | (refine regW_nil (hK _ _ ?_); clear hK K) | (refine regW_load rfl rfl rfl (fun F1 F2 hF1 hF2 => ?_)) | (refine hF1 _ ?_ ?_ <;> clear hF1 hF2 F1 F2) | (refine hF2 _ _ (fun K2 hK2 => ?_); clear hF1 hF2 F1 F2) | refine regW_light rfl rfl rfl (fun _ _ => rfl) (fun K2 hK2 => ?_) | refine regW_lguard rfl rfl rfl rfl (fun _ _ => rfl) (fun R S hR hS => ?_) | refine regW_heavy rfl rfl (fun K2 hK2 => ?_) | with_reducible refine log_goal ?_ | (refine hR _ (fun K2 hK2 => ?_); clear hR hS R S) | (refine hS _ ?_; clear hR hS R S) | refine good_block ?_ | refine good_skip ?_ | refine good_exit ?_ | refine good_ret ?_ | refine good_cond ?_ | refine And.intro ?_ ?_ | intro _) <;> try simp (disch := first | assumption | omega) only [go_sem, Option.map, List.isEmpty, ↓reduceIte, Nat.reduceEqDiff, Nat.reduceAdd, Nat.reduceSub, Nat.reduceMul, Nat.reduceLT, Nat.reduceLeDiff, reduceCtorEq, Nat.reduceBEq, Nat.reduceBNe, Int.reduceNeg, Int.reduceLE, Int.reduceLT, Int.reduceToNat, mk_n] | omega)
      have hK2 := hK.add (x := (a.getD i []).map (· % m)) hE ⟨f2, f3⟩ f1 (H' := H') (by rw [g1]; rfl) (by rw [hMl]; exact g2) (fun b hb hbO => g3 b hb (fun h0 => hbO (by omega))) g4 g5
      rw [take_red a m hil] at hK2
      refine Again.to (H', Hi.n + 1, ids ++ [q], i + 1) ⟨hil, hK2⟩ (by show a.length - (i + 1) < n1; omega) ?_ rfl
      rw [basL_pos (n := i + 1) (Hi.n + 1) (by omega)]
      simp (disch := first | assumption | omega) only [go_sem, Option.map, List.isEmpty, ↓reduceIte, Nat.reduceEqDiff, Nat.reduceAdd, Nat.reduceSub, Nat.reduceMul, Nat.reduceLT, Nat.reduceLeDiff, reduceCtorEq, Nat.reduceBEq, Nat.reduceBNe, Int.reduceNeg, Int.reduceLE, Int.reduceLT, Int.reduceToNat]; (try (refine ⟨?_, ?_⟩ <;> omega)); (try omega)
  · repeat' (first | (first | refine good_seq ?_ | refine good_reg false (fun K hK => ?_) | (refine runL_nil (hK _ _ ?_); clear hK K) | refine runL_none rfl (fun K2 hK2 => ?_) | refine runL_some rfl rfl (fun R S hR hS => ?_) | (refine hK2 _ _ ?_; clear hK2 K2) | (refine hK2 _ _ ?_ ?_ <;> clear hK2 K2) | (refine regW_nil (hK _ _ ?_); clear hK K) | (refine regW_load rfl rfl rfl (fun F1 F2 hF1 hF2 => ?_)) | (refine hF1 _ ?_ ?_ <;> clear hF1 hF2 F1 F2) | (refine hF2 _ _ (fun K2 hK2 => ?_); clear hF1 hF2 F1 F2) | refine regW_light rfl rfl rfl (fun _ _ => rfl) (fun K2 hK2 => ?_) | refine regW_lguard rfl rfl rfl rfl (fun _ _ => rfl) (fun R S hR hS => ?_) | refine regW_heavy rfl rfl (fun K2 hK2 => ?_) | with_reducible refine log_goal ?_ | (refine hR _ (fun K2 hK2 => ?_); clear hR hS R S) | (refine hS _ ?_; clear hR hS R S) | refine good_block ?_ | refine good_skip ?_ | refine good_exit ?_ | refine good_ret ?_ | refine good_cond ?_ | refine And.intro ?_ ?_ | intro _) <;> try simp (disch := first | assumption | omega) only [go_sem, Option.map, List.isEmpty, ↓reduceIte, Nat.reduceEqDiff, Nat.reduceAdd, Nat.reduceSub, Nat.reduceMul, Nat.reduceLT, Nat.reduceLeDiff, reduceCtorEq, Nat.reduceBEq, Nat.reduceBNe, Int.reduceNeg, Int.reduceLE, Int.reduceLT, Int.reduceToNat] | omega)
    have : i = a.length := by omega
    subst this
    rw [List.take_length] at hK
    exact ⟨O, ids, rfl, hK⟩
end Go.Eng
open Go Go.Proofs
set_option linter.unusedVariables false
set_option linter.unusedSimpArgs false
set_option maxRecDepth 4000
set_option maxHeartbeats 40000000
namespace Go.Eng
attribute [local irreducible] Good ACalls runL regW stepW opW gdV' gdD condW gifW binW arW loadW storeW idxAW lenW appW appBW cutW onSome onBnd callW fldAW Again thenQ blockQ resW endQ Up loadR
/-! ### Rank, primes of the laws -/
theorem ech_small (a : List (List Int)) (p : Int) : Small (echR a p) ∧ (echP a p).length ≤ 16 ∧ (echR a p).length = (echP a p).length := by
  by_cases hb : echB a p
  · obtain ⟨h1, h2, h3, h4, h5⟩ := pv_ok hb
    have hv := hb.1
    have := hv.2.1
    have := hv.2.2.2.1
    exact ⟨⟨by omega, fun i hi => by rw [h3 i hi]; omega⟩, by omega, h1⟩
  · simp only [echR, echP, if_neg hb]
    exact ⟨nil_small, by simp, rfl⟩
theorem c_Rank (a : List (List Int)) (p : Int) (h : AH) : ACalls Try.prog 27 [matV a, .int .i64 p] h (fun v h' => v = .tup [.int .i64 (echP a p).length, .int .i64 (echE a p)] ∧ h' = h) := by
  refine acalls_of_good 2 19 [.tmp 4, .tmp 5] Try.func27 rfl rfl (by kernel_rfl) rfl rfl (by decide) ?_
  simp (disch := first | assumption | omega) only [go_sem, Option.map, List.isEmpty, ↓reduceIte, Nat.reduceEqDiff, Nat.reduceAdd, Nat.reduceSub, Nat.reduceMul, Nat.reduceLT, Nat.reduceLeDiff, reduceCtorEq, Nat.reduceBEq, Nat.reduceBNe, Int.reduceNeg, Int.reduceLE, Int.reduceLT, Int.reduceToNat]
  repeat' (first | (first | refine good_seq ?_ | refine good_reg false (fun K hK => ?_) | (refine runL_nil (hK _ _ ?_); clear hK K) | refine runL_none rfl (fun K2 hK2 => ?_) | refine runL_some rfl rfl (fun R S hR hS => ?_) | (refine hK2 _ _ ?_; clear hK2 K2) | (refine hK2 _ _ ?_ ?_ <;> clear hK2 K2) | (refine regW_nil (hK _ _ ?_); clear hK K) | (refine regW_load rfl rfl rfl (fun F1 F2 hF1 hF2 => ?_)) | (refine hF1 _ ?_ ?_ <;> clear hF1 hF2 F1 F2) | (refine hF2 _ _ (fun K2 hK2 => ?_); clear hF1 hF2 F1 F2) | refine regW_light rfl rfl rfl (fun _ _ => rfl) (fun K2 hK2 => ?_) | refine regW_lguard rfl rfl rfl rfl (fun _ _ => rfl) (fun R S hR hS => ?_) | refine regW_heavy rfl rfl (fun K2 hK2 => ?_) | with_reducible refine log_goal ?_ | (refine hR _ (fun K2 hK2 => ?_); clear hR hS R S) | (refine hS _ ?_; clear hR hS R S) | refine good_block ?_ | refine good_skip ?_ | refine good_exit ?_ | refine good_ret ?_ | refine good_cond ?_ | refine And.intro ?_ ?_ | intro _) <;> try simp (disch := first | assumption | omega) only [go_sem, Option.map, List.isEmpty, ↓reduceIte, Nat.reduceEqDiff, Nat.reduceAdd, Nat.reduceSub, Nat.reduceMul, Nat.reduceLT, Nat.reduceLeDiff, reduceCtorEq, Nat.reduceBEq, Nat.reduceBNe, Int.reduceNeg, Int.reduceLE, Int.reduceLT, Int.reduceToNat] | ((first | (refine ACalls.mono (c_Echelon _ _ _) (fun v h' hv' => ?_); obtain ⟨rfl, hh⟩ := hv'; subst h')) <;> try simp (disch := first | assumption | omega) only [go_sem, Option.map, List.isEmpty, ↓reduceIte, Nat.reduceEqDiff, Nat.reduceAdd, Nat.reduceSub, Nat.reduceMul, Nat.reduceLT, Nat.reduceLeDiff, reduceCtorEq, Nat.reduceBEq, Nat.reduceBNe, Int.reduceNeg, Int.reduceLE, Int.reduceLT, Int.reduceToNat]) | omega)
def lawP (k raw : Int) (wild : Bool) : Int := if wild = true then raw else [2, 3, 5, 7, 2, 3, 5, 11, 13, 17, 19, 23, 3, 2, 9973, 10007, 1, 4, 9, -3].getD (k % 20).toNat 0
theorem c_Prime (k : Int) (hk : 0 ≤ k ∧ k ≤ 255) (h : AH) : ACalls Try.prog 41 [.int .u8 k] h (fun v h' => v = .int .i64 ([2, 3, 5, 7, 2, 3, 5, 11, 13, 17, 19, 23, 3, 2, 9973, 10007, 1, 4, 9, -3].getD (k % 20).toNat 0) ∧ h' = h) := by
  have h1 := Int.emod_nonneg k (show (20 : Int) ≠ 0 by omega)
  have h2 := Int.emod_lt_of_pos k (show (0 : Int) < 20 by omega)
  have ht : k.tmod 20 = k % 20 := tmod_nn hk.1
  have hg : ∀ x, ([AV.int .i64 2, .int .i64 3, .int .i64 5, .int .i64 7, .int .i64 2, .int .i64 3, .int .i64 5, .int .i64 11, .int .i64 13, .int .i64 17, .int .i64 19, .int .i64 23, .int .i64 3, .int .i64 2, .int .i64 9973, .int .i64 10007, .int .i64 1, .int .i64 4, .int .i64 9, .int .i64 (-3)].getD x .junk) = if x < 20 then .int .i64 ([2, 3, 5, 7, 2, 3, 5, 11, 13, 17, 19, 23, 3, 2, 9973, 10007, 1, 4, 9, -3].getD x 0) else .junk := fun x => by
    match x with
    | 0 | 1 | 2 | 3 | 4 | 5 | 6 | 7 | 8 | 9 | 10 | 11 | 12 | 13 | 14 | 15 | 16 | 17 | 18 | 19 => rfl
    | n + 20 => simp [List.getD_eq_getElem?_getD]
  have h8 : (k % 20).toNat < 20 := by omega
  have ht2 : k.tmod ((20 : Nat) : Int) = k % 20 := ht
  refine acalls_of_good 1 13 [.tmp 2] Try.func41 rfl rfl (by kernel_rfl) rfl rfl (by decide) ?_
  simp (disch := first | assumption | omega) only [go_sem, Option.map, List.isEmpty, ↓reduceIte, Nat.reduceEqDiff, Nat.reduceAdd, Nat.reduceSub, Nat.reduceMul, Nat.reduceLT, Nat.reduceLeDiff, reduceCtorEq, Nat.reduceBEq, Nat.reduceBNe, Int.reduceNeg, Int.reduceLE, Int.reduceLT, Int.reduceToNat]
  repeat' (first | (first | refine good_seq ?_ | refine good_reg false (fun K hK => ?_) | (refine runL_nil (hK _ _ ?_); clear hK K) | refine runL_none rfl (fun K2 hK2 => ?_) | refine runL_some rfl rfl (fun R S hR hS => ?_) | (refine hK2 _ _ ?_; clear hK2 K2) | (refine hK2 _ _ ?_ ?_ <;> clear hK2 K2) | (refine regW_nil (hK _ _ ?_); clear hK K) | (refine regW_load rfl rfl rfl (fun F1 F2 hF1 hF2 => ?_)) | (refine hF1 _ ?_ ?_ <;> clear hF1 hF2 F1 F2) | (refine hF2 _ _ (fun K2 hK2 => ?_); clear hF1 hF2 F1 F2) | refine regW_light rfl rfl rfl (fun _ _ => rfl) (fun K2 hK2 => ?_) | refine regW_lguard rfl rfl rfl rfl (fun _ _ => rfl) (fun R S hR hS => ?_) | refine regW_heavy rfl rfl (fun K2 hK2 => ?_) | with_reducible refine log_goal ?_ | (refine hR _ (fun K2 hK2 => ?_); clear hR hS R S) | (refine hS _ ?_; clear hR hS R S) | refine good_block ?_ | refine good_skip ?_ | refine good_exit ?_ | refine good_ret ?_ | refine good_cond ?_ | refine And.intro ?_ ?_ | intro _) <;> try simp (disch := first | assumption | omega) only [go_sem, Option.map, List.isEmpty, ↓reduceIte, Nat.reduceEqDiff, Nat.reduceAdd, Nat.reduceSub, Nat.reduceMul, Nat.reduceLT, Nat.reduceLeDiff, reduceCtorEq, Nat.reduceBEq, Nat.reduceBNe, Int.reduceNeg, Int.reduceLE, Int.reduceLT, Int.reduceToNat, ht, ht2, hg, h8] | ((first | fail) <;> try simp (disch := first | assumption | omega) only [go_sem, Option.map, List.isEmpty, ↓reduceIte, Nat.reduceEqDiff, Nat.reduceAdd, Nat.reduceSub, Nat.reduceMul, Nat.reduceLT, Nat.reduceLeDiff, reduceCtorEq, Nat.reduceBEq, Nat.reduceBNe, Int.reduceNeg, Int.reduceLE, Int.reduceLT, Int.reduceToNat, ht, ht2, hg, h8]) | omega)
theorem c_lprime (k raw : Int) (wild : Bool) (hk : 0 ≤ k ∧ k ≤ 255) (h : AH) : ACalls Try.prog 18 [.int .u8 k, .int .i64 raw, .bool wild] h (fun v h' => v = .int .i64 (lawP k raw wild) ∧ h' = h) := by
  unfold lawP
  refine acalls_of_good 3 11 [.tmp 6] Try.func18 rfl rfl (by kernel_rfl) rfl rfl (by decide) ?_
  simp (disch := first | assumption | omega) only [go_sem, Option.map, List.isEmpty, ↓reduceIte, Nat.reduceEqDiff, Nat.reduceAdd, Nat.reduceSub, Nat.reduceMul, Nat.reduceLT, Nat.reduceLeDiff, reduceCtorEq, Nat.reduceBEq, Nat.reduceBNe, Int.reduceNeg, Int.reduceLE, Int.reduceLT, Int.reduceToNat]
  cases wild
  · repeat' (first | (first | refine good_seq ?_ | refine good_reg false (fun K hK => ?_) | (refine runL_nil (hK _ _ ?_); clear hK K) | refine runL_none rfl (fun K2 hK2 => ?_) | refine runL_some rfl rfl (fun R S hR hS => ?_) | (refine hK2 _ _ ?_; clear hK2 K2) | (refine hK2 _ _ ?_ ?_ <;> clear hK2 K2) | (refine regW_nil (hK _ _ ?_); clear hK K) | (refine regW_load rfl rfl rfl (fun F1 F2 hF1 hF2 => ?_)) | (refine hF1 _ ?_ ?_ <;> clear hF1 hF2 F1 F2) | (refine hF2 _ _ (fun K2 hK2 => ?_); clear hF1 hF2 F1 F2) | refine regW_light rfl rfl rfl (fun _ _ => rfl) (fun K2 hK2 => ?_) | refine regW_lguard rfl rfl rfl rfl (fun _ _ => rfl) (fun R S hR hS => ?_) | refine regW_heavy rfl rfl (fun K2 hK2 => ?_) | with_reducible refine log_goal ?_ | (refine hR _ (fun K2 hK2 => ?_); clear hR hS R S) | (refine hS _ ?_; clear hR hS R S) | refine good_block ?_ | refine good_skip ?_ | refine good_exit ?_ | refine good_ret ?_ | refine good_cond ?_ | refine And.intro ?_ ?_ | intro _) <;> try simp (disch := first | assumption | omega) only [go_sem, Option.map, List.isEmpty, ↓reduceIte, Nat.reduceEqDiff, Nat.reduceAdd, Nat.reduceSub, Nat.reduceMul, Nat.reduceLT, Nat.reduceLeDiff, reduceCtorEq, Nat.reduceBEq, Nat.reduceBNe, Int.reduceNeg, Int.reduceLE, Int.reduceLT, Int.reduceToNat] | ((first | (refine ACalls.mono (c_Prime k hk _) (fun v h' hv' => ?_); obtain ⟨rfl, hh⟩ := hv'; subst h')) <;> try simp (disch := first | assumption | omega) only [go_sem, Option.map, List.isEmpty, ↓reduceIte, Nat.reduceEqDiff, Nat.reduceAdd, Nat.reduceSub, Nat.reduceMul, Nat.reduceLT, Nat.reduceLeDiff, reduceCtorEq, Nat.reduceBEq, Nat.reduceBNe, Int.reduceNeg, Int.reduceLE, Int.reduceLT, Int.reduceToNat]) | omega)
    all_goals rfl
  · repeat' (first | (first | refine good_seq ?_ | refine good_reg false (fun K hK => ?_) | (refine runL_nil (hK _ _ ?_); clear hK K) | refine runL_none rfl (fun K2 hK2 => ?_) | refine runL_some rfl rfl (fun R S hR hS => ?_) | (refine hK2 _ _ ?_; clear hK2 K2) | (refine hK2 _ _ ?_ ?_ <;> clear hK2 K2) | (refine regW_nil (hK _ _ ?_); clear hK K) | (refine regW_load rfl rfl rfl (fun F1 F2 hF1 hF2 => ?_)) | (refine hF1 _ ?_ ?_ <;> clear hF1 hF2 F1 F2) | (refine hF2 _ _ (fun K2 hK2 => ?_); clear hF1 hF2 F1 F2) | refine regW_light rfl rfl rfl (fun _ _ => rfl) (fun K2 hK2 => ?_) | refine regW_lguard rfl rfl rfl rfl (fun _ _ => rfl) (fun R S hR hS => ?_) | refine regW_heavy rfl rfl (fun K2 hK2 => ?_) | with_reducible refine log_goal ?_ | (refine hR _ (fun K2 hK2 => ?_); clear hR hS R S) | (refine hS _ ?_; clear hR hS R S) | refine good_block ?_ | refine good_skip ?_ | refine good_exit ?_ | refine good_ret ?_ | refine good_cond ?_ | refine And.intro ?_ ?_ | intro _) <;> try simp (disch := first | assumption | omega) only [go_sem, Option.map, List.isEmpty, ↓reduceIte, Nat.reduceEqDiff, Nat.reduceAdd, Nat.reduceSub, Nat.reduceMul, Nat.reduceLT, Nat.reduceLeDiff, reduceCtorEq, Nat.reduceBEq, Nat.reduceBNe, Int.reduceNeg, Int.reduceLE, Int.reduceLT, Int.reduceToNat] | ((first | (refine ACalls.mono (c_Prime k hk _) (fun v h' hv' => ?_); obtain ⟨rfl, hh⟩ := hv'; subst h')) <;> try simp (disch := first | assumption | omega) only [go_sem, Option.map, List.isEmpty, ↓reduceIte, Nat.reduceEqDiff, Nat.reduceAdd, Nat.reduceSub, Nat.reduceMul, Nat.reduceLT, Nat.reduceLeDiff, reduceCtorEq, Nat.reduceBEq, Nat.reduceBNe, Int.reduceNeg, Int.reduceLE, Int.reduceLT, Int.reduceToNat]) | omega)
    all_goals rfl
end Go.Eng
