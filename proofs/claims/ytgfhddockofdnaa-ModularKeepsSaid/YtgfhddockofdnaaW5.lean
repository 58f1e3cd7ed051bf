import Derived.Test.YtgfhddockofdnaaE18
import Derived.Test.YtgfhddockofdnaaW4
open Go Go.Proofs
set_option linter.unusedVariables false
set_option linter.unusedSimpArgs false
set_option maxRecDepth 4000
set_option maxHeartbeats 4000000
namespace Go.Eng
attribute [local irreducible] Good ACalls runL regW stepW opW gdV' gdD condW gifW binW arW loadW storeW idxAW lenW appW appBW cutW onSome onBnd callW fldAW Again thenQ blockQ resW endQ Up loadR
/-! ### products -/
/-- The first k terms of an entry of the product. -/
def dotm (a b : List (List Int)) (m : Int) (i j : Nat) : Nat → Int
  | 0 => 0
  | k + 1 => (dotm a b m i j k + (a.getD i []).getD k 0 * (b.getD k []).getD j 0) % m
def prodM (a b : List (List Int)) (m : Int) : List (List Int) := (List.range a.length).map fun i => (List.range (b.getD 0 []).length).map fun j => dotm a b m i j b.length
theorem dotm_bd {a b : List (List Int)} {m : Int} (hm : 0 < m) (i j : Nat) : ∀ k, 0 ≤ dotm a b m i j k ∧ dotm a b m i j k < m
  | 0 => ⟨Int.le_refl _, hm⟩
  | k + 1 => ⟨Int.emod_nonneg _ (by omega), Int.emod_lt_of_pos _ hm⟩
/-- A row that is filled from the left. -/
def fillI (f : Nat → Int) (n j : Nat) : List Int := (List.range j).map f ++ List.replicate (n - j) 0
theorem fillI_length {f : Nat → Int} {n j : Nat} (hj : j ≤ n) : (fillI f n j).length = n := by simp [fillI]; omega
theorem fillI_zero (f : Nat → Int) (n : Nat) : fillI f n 0 = List.replicate n 0 := by simp [fillI]
theorem fillI_full (f : Nat → Int) (n : Nat) : fillI f n n = (List.range n).map f := by simp [fillI]
theorem fillI_set {f : Nat → Int} {n j : Nat} (hj : j < n) : (fillI f n j).set j (f j) = fillI f n (j + 1) := by
  refine List.ext_getElem? fun k => ?_
  by_cases hk : k < n
  · by_cases hkj : k = j
    · subst hkj
      rw [List.getElem?_set_self (by rw [fillI_length (by omega)]; exact hk), fillI, List.getElem?_append_left (by simp)]
      simp
    · rw [List.getElem?_set_ne (Ne.symm hkj)]
      by_cases hlt : k < j
      · rw [fillI, fillI, List.getElem?_append_left (by simp; omega), List.getElem?_append_left (by simp; omega)]
        simp [hlt, show k < j + 1 from by omega]
      · rw [fillI, fillI, List.getElem?_append_right (by simp; omega), List.getElem?_append_right (by simp; omega)]
        rw [List.getElem?_replicate, List.getElem?_replicate, if_pos (by simp; omega), if_pos (by simp; omega)]
  · rw [List.getElem?_eq_none (by rw [List.length_set, fillI_length (by omega)]; omega), List.getElem?_eq_none (by rw [fillI_length (by omega)]; omega)]
theorem mul_bd {x y m : Int} (hm : m ≤ 2147483647) (hx : 0 ≤ x ∧ x < m) (hy : 0 ≤ y ∧ y < m) : 0 ≤ x * y ∧ x * y ≤ 4611686009837453316 := by
  refine ⟨Int.mul_nonneg hx.1 hy.1, ?_⟩
  have := Int.mul_le_mul (show x ≤ 2147483646 by omega) (show y ≤ 2147483646 by omega) hy.1 (by omega)
  omega
theorem tmod_nn {a b : Int} (h : 0 ≤ a) : a.tmod b = a % b := Int.tmod_eq_emod_of_nonneg h
theorem range_snoc {α : Type} (f : Nat → α) (n : Nat) : (List.range (n + 1)).map f = (List.range n).map f ++ [f n] := by simp [List.range_succ]
/-- Two matrices of remainders that fit. -/
structure Fits (a b : List (List Int)) (m : Int) (c : Nat) : Prop where
  la : a.length ≤ 1000000
  lb : 1 ≤ b.length ∧ b.length ≤ 1000000
  ra : ∀ i, i < a.length → (a.getD i []).length = b.length
  rb : ∀ k, k < b.length → (b.getD k []).length = c
  c1 : c ≤ 1000000
  ea : ∀ i k, i < a.length → k < b.length → 0 ≤ (a.getD i []).getD k 0 ∧ (a.getD i []).getD k 0 < m
  eb : ∀ k j, k < b.length → j < c → 0 ≤ (b.getD k []).getD j 0 ∧ (b.getD k []).getD j 0 < m
theorem c_productM (a b : List (List Int)) (c : Nat) (m : Int) (hm : 2 ≤ m ∧ m ≤ 2147483647) (hf : Fits a b m c) (h : AH) :
    ACalls Try.prog 65 [matV a, matV b, .int .i64 m] h (fun v h' => v = .bsl h.n 0 a.length .full ∧ h' = pmH h a.length c (prodM a b m)) := by
  have hla := hf.la
  have hlb := hf.lb
  have hc1 := hf.c1
  have hb0 := hf.rb 0 (by omega)
  refine acalls_of_good 3 70 [.tmp 6] Try.func65 rfl rfl (by kernel_rfl) rfl rfl (by decide) ?_
  simp (disch := omega) only [go_sem, Option.map, List.isEmpty, ↓reduceIte, Nat.reduceEqDiff, Nat.reduceAdd, Nat.reduceSub, Nat.reduceMul, Nat.reduceLT, Nat.reduceLeDiff, reduceCtorEq, Nat.reduceBEq, Nat.reduceBNe, Int.reduceNeg, Int.reduceLE, Int.reduceLT, Int.reduceToNat]
  repeat' (first | (first | refine good_seq ?_ | refine good_reg false (fun K hK => ?_) | (refine runL_nil (hK _ _ ?_); clear hK K) | refine runL_none rfl (fun K2 hK2 => ?_) | refine runL_some rfl rfl (fun R S hR hS => ?_) | (refine hK2 _ _ ?_; clear hK2 K2) | (refine hK2 _ _ ?_ ?_ <;> clear hK2 K2) | (refine regW_nil (hK _ _ ?_); clear hK K) | (refine regW_load rfl rfl rfl (fun F1 F2 hF1 hF2 => ?_)) | (refine hF1 _ ?_ ?_ <;> clear hF1 hF2 F1 F2) | (refine hF2 _ _ (fun K2 hK2 => ?_); clear hF1 hF2 F1 F2) | refine regW_light rfl rfl rfl (fun _ _ => rfl) (fun K2 hK2 => ?_) | refine regW_lguard rfl rfl rfl rfl (fun _ _ => rfl) (fun R S hR hS => ?_) | refine regW_heavy rfl rfl (fun K2 hK2 => ?_) | with_reducible refine log_goal ?_ | (refine hR _ (fun K2 hK2 => ?_); clear hR hS R S) | (refine hS _ ?_; clear hR hS R S) | refine good_block ?_ | refine good_skip ?_ | refine good_exit ?_ | refine good_ret ?_ | refine good_cond ?_ | refine And.intro ?_ ?_ | intro _) <;> try simp (disch := omega) only [go_sem, Option.map, List.isEmpty, ↓reduceIte, Nat.reduceEqDiff, Nat.reduceAdd, Nat.reduceSub, Nat.reduceMul, Nat.reduceLT, Nat.reduceLeDiff, reduceCtorEq, Nat.reduceBEq, Nat.reduceBNe, Int.reduceNeg, Int.reduceLE, Int.reduceLT, Int.reduceToNat] | omega)
  refine good_loop_s (σ := List (List Int)) (fun R => [(0, matV a), (1, matV b), (2, .int .i64 m), (7, .bsl h.n 0 a.length .full), (16, .int .i64 a.length), (17, .int .i64 R.length)]) (fun R => pmH h a.length c R) (fun R => R.length ≤ a.length ∧ R = (List.range R.length).map fun i => (List.range c).map fun j => dotm a b m i j b.length) (fun R => a.length - R.length) [] ?_ ?_ ⟨by simp, by simp⟩ ?_
  · simp (disch := omega) only [go_sem, Option.map, List.isEmpty, ↓reduceIte, Nat.reduceEqDiff, Nat.reduceAdd, Nat.reduceSub, Nat.reduceMul, Nat.reduceLT, Nat.reduceLeDiff, reduceCtorEq, Nat.reduceBEq, Nat.reduceBNe, Int.reduceNeg, Int.reduceLE, Int.reduceLT, Int.reduceToNat]; (try (refine ⟨?_, ?_⟩ <;> omega)); (try omega)
  · exact pm_zero.symm
  · intro R hQ n hn
    repeat' (first | (first | refine good_seq ?_ | refine good_reg false (fun K hK => ?_) | (refine runL_nil (hK _ _ ?_); clear hK K) | refine runL_none rfl (fun K2 hK2 => ?_) | refine runL_some rfl rfl (fun R S hR hS => ?_) | (refine hK2 _ _ ?_; clear hK2 K2) | (refine hK2 _ _ ?_ ?_ <;> clear hK2 K2) | (refine regW_nil (hK _ _ ?_); clear hK K) | (refine regW_load rfl rfl rfl (fun F1 F2 hF1 hF2 => ?_)) | (refine hF1 _ ?_ ?_ <;> clear hF1 hF2 F1 F2) | (refine hF2 _ _ (fun K2 hK2 => ?_); clear hF1 hF2 F1 F2) | refine regW_light rfl rfl rfl (fun _ _ => rfl) (fun K2 hK2 => ?_) | refine regW_lguard rfl rfl rfl rfl (fun _ _ => rfl) (fun R S hR hS => ?_) | refine regW_heavy rfl rfl (fun K2 hK2 => ?_) | with_reducible refine log_goal ?_ | (refine hR _ (fun K2 hK2 => ?_); clear hR hS R S) | (refine hS _ ?_; clear hR hS R S) | refine good_block ?_ | refine good_skip ?_ | refine good_exit ?_ | refine good_ret ?_ | refine good_cond ?_ | refine And.intro ?_ ?_ | intro _) <;> try simp (disch := omega) only [go_sem, Option.map, List.isEmpty, ↓reduceIte, Nat.reduceEqDiff, Nat.reduceAdd, Nat.reduceSub, Nat.reduceMul, Nat.reduceLT, Nat.reduceLeDiff, reduceCtorEq, Nat.reduceBEq, Nat.reduceBNe, Int.reduceNeg, Int.reduceLE, Int.reduceLT, Int.reduceToNat] | omega)
    · refine good_loop_s (σ := Nat) (fun j => [(0, matV a), (1, matV b), (2, .int .i64 m), (7, .bsl h.n 0 a.length .full), (8, .int .i64 R.length), (16, .int .i64 a.length), (17, .int .i64 R.length), (31, .int .i64 c), (32, .int .i64 j)])
        (fun j => pmH h a.length c (R ++ [fillI (fun j => dotm a b m R.length j b.length) c j])) (fun j => j ≤ c) (fun j => c - j) 0 ?_ ?_ (Nat.zero_le _) ?_
      · simp (disch := omega) only [go_sem, Option.map, List.isEmpty, ↓reduceIte, Nat.reduceEqDiff, Nat.reduceAdd, Nat.reduceSub, Nat.reduceMul, Nat.reduceLT, Nat.reduceLeDiff, reduceCtorEq, Nat.reduceBEq, Nat.reduceBNe, Int.reduceNeg, Int.reduceLE, Int.reduceLT, Int.reduceToNat]; (try (refine ⟨?_, ?_⟩ <;> omega)); (try omega)
      · rw [fillI_zero, hb0]; exact (pm_more (by omega) _).symm
      · intro j hj n' hn'
        have hfl := fillI_length (f := fun j => dotm a b m R.length j b.length) hj
        repeat' (first | (first | refine good_seq ?_ | refine good_reg false (fun K hK => ?_) | (refine runL_nil (hK _ _ ?_); clear hK K) | refine runL_none rfl (fun K2 hK2 => ?_) | refine runL_some rfl rfl (fun R S hR hS => ?_) | (refine hK2 _ _ ?_; clear hK2 K2) | (refine hK2 _ _ ?_ ?_ <;> clear hK2 K2) | (refine regW_nil (hK _ _ ?_); clear hK K) | (refine regW_load rfl rfl rfl (fun F1 F2 hF1 hF2 => ?_)) | (refine hF1 _ ?_ ?_ <;> clear hF1 hF2 F1 F2) | (refine hF2 _ _ (fun K2 hK2 => ?_); clear hF1 hF2 F1 F2) | refine regW_light rfl rfl rfl (fun _ _ => rfl) (fun K2 hK2 => ?_) | refine regW_lguard rfl rfl rfl rfl (fun _ _ => rfl) (fun R S hR hS => ?_) | refine regW_heavy rfl rfl (fun K2 hK2 => ?_) | with_reducible refine log_goal ?_ | (refine hR _ (fun K2 hK2 => ?_); clear hR hS R S) | (refine hS _ ?_; clear hR hS R S) | refine good_block ?_ | refine good_skip ?_ | refine good_exit ?_ | refine good_ret ?_ | refine good_cond ?_ | refine And.intro ?_ ?_ | intro _) <;> try simp (disch := omega) only [go_sem, Option.map, List.isEmpty, ↓reduceIte, Nat.reduceEqDiff, Nat.reduceAdd, Nat.reduceSub, Nat.reduceMul, Nat.reduceLT, Nat.reduceLeDiff, reduceCtorEq, Nat.reduceBEq, Nat.reduceBNe, Int.reduceNeg, Int.reduceLE, Int.reduceLT, Int.reduceToNat] | omega)
        · refine good_loop_s (σ := Nat) (fun k => [(0, matV a), (1, matV b), (2, .int .i64 m), (7, .bsl h.n 0 a.length .full), (8, .int .i64 R.length), (9, .int .i64 j), (10, .int .i64 (dotm a b m R.length j k)), (16, .int .i64 a.length), (17, .int .i64 R.length), (31, .int .i64 c), (32, .int .i64 j), (36, .int .i64 b.length), (37, .int .i64 k)])
            (fun _ => pmH h a.length c (R ++ [fillI (fun j => dotm a b m R.length j b.length) c j])) (fun k => k ≤ b.length) (fun k => b.length - k) 0 ?_ rfl (Nat.zero_le _) ?_
          · simp (disch := omega) only [go_sem, Option.map, List.isEmpty, ↓reduceIte, Nat.reduceEqDiff, Nat.reduceAdd, Nat.reduceSub, Nat.reduceMul, Nat.reduceLT, Nat.reduceLeDiff, reduceCtorEq, Nat.reduceBEq, Nat.reduceBNe, Int.reduceNeg, Int.reduceLE, Int.reduceLT, Int.reduceToNat]; (try (refine ⟨?_, ?_⟩ <;> omega)); (try omega)
            exact ⟨rfl, rfl⟩
          · intro k hk n2 hn2
            have hd := dotm_bd (a := a) (b := b) (m := m) (by omega) R.length j k
            by_cases hkl : k < b.length
            · have hra := hf.ra R.length (by omega)
              have hrb := hf.rb k hkl
              have hmb := mul_bd hm.2 (hf.ea R.length k (by omega) hkl) (hf.eb k j hkl (by omega))
              repeat' (first | (first | refine good_seq ?_ | refine good_reg false (fun K hK => ?_) | (refine runL_nil (hK _ _ ?_); clear hK K) | refine runL_none rfl (fun K2 hK2 => ?_) | refine runL_some rfl rfl (fun R S hR hS => ?_) | (refine hK2 _ _ ?_; clear hK2 K2) | (refine hK2 _ _ ?_ ?_ <;> clear hK2 K2) | (refine regW_nil (hK _ _ ?_); clear hK K) | (refine regW_load rfl rfl rfl (fun F1 F2 hF1 hF2 => ?_)) | (refine hF1 _ ?_ ?_ <;> clear hF1 hF2 F1 F2) | (refine hF2 _ _ (fun K2 hK2 => ?_); clear hF1 hF2 F1 F2) | refine regW_light rfl rfl rfl (fun _ _ => rfl) (fun K2 hK2 => ?_) | refine regW_lguard rfl rfl rfl rfl (fun _ _ => rfl) (fun R S hR hS => ?_) | refine regW_heavy rfl rfl (fun K2 hK2 => ?_) | with_reducible refine log_goal ?_ | (refine hR _ (fun K2 hK2 => ?_); clear hR hS R S) | (refine hS _ ?_; clear hR hS R S) | refine good_block ?_ | refine good_skip ?_ | refine good_exit ?_ | refine good_ret ?_ | refine good_cond ?_ | refine And.intro ?_ ?_ | intro _) <;> try simp (disch := omega) only [go_sem, Option.map, List.isEmpty, ↓reduceIte, Nat.reduceEqDiff, Nat.reduceAdd, Nat.reduceSub, Nat.reduceMul, Nat.reduceLT, Nat.reduceLeDiff, reduceCtorEq, Nat.reduceBEq, Nat.reduceBNe, Int.reduceNeg, Int.reduceLE, Int.reduceLT, Int.reduceToNat] | ((first | refine good_drw (id := 13) mixed false [[], [], [], [1, 2], [1, 2, 3], [], [1, 2, 3, 4, 5], [1, 2, 3, 4, 5, 6], [], [], [8, 9], [8, 9, 10], [], [8, 9, 10, 11, 12], [8, 9, 10, 11, 12, 13], [1, 2, 3, 4, 5, 6, 7, 8, 9, 10, 11, 12, 13, 14], [0, 1, 2, 3, 4, 5, 6, 7, 8, 9, 10, 11, 12, 13, 14, 15], [], [0, 1, 2, 3, 4, 5, 6, 7, 8, 9, 10, 11, 12, 13, 14, 15, 16, 17], [0, 1, 2, 3, 4, 5, 6, 7, 8, 9, 10, 11, 12, 13, 14, 15, 16, 17, 18]] [0, 1, 2, 3, 4, 5, 6, 7, 8, 9, 10, 11, 12, 13, 14, 15, 16, 17, 18, 19] (by decide +kernel) (fun K hK => ?_)) <;> try simp (disch := omega) only [go_sem, Option.map, List.isEmpty, ↓reduceIte, Nat.reduceEqDiff, Nat.reduceAdd, Nat.reduceSub, Nat.reduceMul, Nat.reduceLT, Nat.reduceLeDiff, reduceCtorEq, Nat.reduceBEq, Nat.reduceBNe, Int.reduceNeg, Int.reduceLE, Int.reduceLT, Int.reduceToNat]) | omega)
              refine Again.to (k + 1) (by omega) (by omega) ?_ rfl
              simp (disch := omega) only [go_sem, Option.map, List.isEmpty, ↓reduceIte, Nat.reduceEqDiff, Nat.reduceAdd, Nat.reduceSub, Nat.reduceMul, Nat.reduceLT, Nat.reduceLeDiff, reduceCtorEq, Nat.reduceBEq, Nat.reduceBNe, Int.reduceNeg, Int.reduceLE, Int.reduceLT, Int.reduceToNat]; (try (refine ⟨?_, ?_⟩ <;> omega)); (try omega)
              exact tmod_nn (by omega)
            · repeat' (first | (first | refine good_seq ?_ | refine good_reg false (fun K hK => ?_) | (refine runL_nil (hK _ _ ?_); clear hK K) | refine runL_none rfl (fun K2 hK2 => ?_) | refine runL_some rfl rfl (fun R S hR hS => ?_) | (refine hK2 _ _ ?_; clear hK2 K2) | (refine hK2 _ _ ?_ ?_ <;> clear hK2 K2) | (refine regW_nil (hK _ _ ?_); clear hK K) | (refine regW_load rfl rfl rfl (fun F1 F2 hF1 hF2 => ?_)) | (refine hF1 _ ?_ ?_ <;> clear hF1 hF2 F1 F2) | (refine hF2 _ _ (fun K2 hK2 => ?_); clear hF1 hF2 F1 F2) | refine regW_light rfl rfl rfl (fun _ _ => rfl) (fun K2 hK2 => ?_) | refine regW_lguard rfl rfl rfl rfl (fun _ _ => rfl) (fun R S hR hS => ?_) | refine regW_heavy rfl rfl (fun K2 hK2 => ?_) | with_reducible refine log_goal ?_ | (refine hR _ (fun K2 hK2 => ?_); clear hR hS R S) | (refine hS _ ?_; clear hR hS R S) | refine good_block ?_ | refine good_skip ?_ | refine good_exit ?_ | refine good_ret ?_ | refine good_cond ?_ | refine And.intro ?_ ?_ | intro _) <;> try simp (disch := omega) only [go_sem, Option.map, List.isEmpty, ↓reduceIte, Nat.reduceEqDiff, Nat.reduceAdd, Nat.reduceSub, Nat.reduceMul, Nat.reduceLT, Nat.reduceLeDiff, reduceCtorEq, Nat.reduceBEq, Nat.reduceBNe, Int.reduceNeg, Int.reduceLE, Int.reduceLT, Int.reduceToNat] | ((first | refine good_drw (id := 13) mixed false [[], [], [], [1, 2], [1, 2, 3], [], [1, 2, 3, 4, 5], [1, 2, 3, 4, 5, 6], [], [], [8, 9], [8, 9, 10], [], [8, 9, 10, 11, 12], [8, 9, 10, 11, 12, 13], [1, 2, 3, 4, 5, 6, 7, 8, 9, 10, 11, 12, 13, 14], [0, 1, 2, 3, 4, 5, 6, 7, 8, 9, 10, 11, 12, 13, 14, 15], [], [0, 1, 2, 3, 4, 5, 6, 7, 8, 9, 10, 11, 12, 13, 14, 15, 16, 17], [0, 1, 2, 3, 4, 5, 6, 7, 8, 9, 10, 11, 12, 13, 14, 15, 16, 17, 18]] [0, 1, 2, 3, 4, 5, 6, 7, 8, 9, 10, 11, 12, 13, 14, 15, 16, 17, 18, 19] (by decide +kernel) (fun K hK => ?_)) <;> try simp (disch := omega) only [go_sem, Option.map, List.isEmpty, ↓reduceIte, Nat.reduceEqDiff, Nat.reduceAdd, Nat.reduceSub, Nat.reduceMul, Nat.reduceLT, Nat.reduceLeDiff, reduceCtorEq, Nat.reduceBEq, Nat.reduceBNe, Int.reduceNeg, Int.reduceLE, Int.reduceLT, Int.reduceToNat]) | omega)
              refine Again.to (j + 1) (by omega) (by omega) ?_ ?_
              · simp (disch := omega) only [go_sem, Option.map, List.isEmpty, ↓reduceIte, Nat.reduceEqDiff, Nat.reduceAdd, Nat.reduceSub, Nat.reduceMul, Nat.reduceLT, Nat.reduceLeDiff, reduceCtorEq, Nat.reduceBEq, Nat.reduceBNe, Int.reduceNeg, Int.reduceLE, Int.reduceLT, Int.reduceToNat]; (try (refine ⟨?_, ?_⟩ <;> omega)); (try omega)
              · have hkb : k = b.length := by omega
                subst hkb
                rw [← fillI_set (f := fun j => dotm a b m R.length j b.length) (by omega)]
        · refine Again.to (R ++ [(List.range c).map fun j => dotm a b m R.length j b.length]) ⟨by simp; omega, ?_⟩ (by simp; omega) ?_ ?_
          · rw [List.length_append, List.length_singleton, range_snoc, ← hQ.2]
          · simp (disch := omega) only [go_sem, Option.map, List.isEmpty, ↓reduceIte, Nat.reduceEqDiff, Nat.reduceAdd, Nat.reduceSub, Nat.reduceMul, Nat.reduceLT, Nat.reduceLeDiff, reduceCtorEq, Nat.reduceBEq, Nat.reduceBNe, Int.reduceNeg, Int.reduceLE, Int.reduceLT, Int.reduceToNat]; (try (refine ⟨?_, ?_⟩ <;> omega)); (try omega)
          · have hjc : j = c := by omega
            rw [hjc, fillI_full]
    · have hRl : R.length = a.length := by omega
      have h2 := hQ.2
      rw [hRl] at h2
      rw [h2, prodM, hb0]
theorem prodM_length (a b : List (List Int)) (m : Int) : (prodM a b m).length = a.length := by simp [prodM]
theorem prodM_rows {a b : List (List Int)} {m : Int} {c : Nat} (h : (b.getD 0 []).length = c) : ∀ r ∈ prodM a b m, r.length = c := fun r hr => by
  obtain ⟨i, hi, rfl⟩ := List.mem_map.1 hr
  rw [List.length_map, List.length_range]; exact h
theorem c_product (a b : List (List Int)) (c : Nat) (m : Int) (hm : 2 ≤ m ∧ m ≤ 2147483647) (hf : Fits a b m c) (h : AH) :
    ACalls Try.prog 65 [matV a, matV b, .int .i64 m] h (fun v h' => v = matV (prodM a b m) ∧ h' = h) := by
  have hb0 := hf.rb 0 (by have := hf.lb; omega)
  refine ACalls.frozen (m := c) (R := prodM a b m) (prodM_rows hb0) ?_
  rw [prodM_length]; exact c_productM a b c m hm hf h
end Go.Eng
