/- Texts W13 W14 W15 W16 W17 W18 W19 W20 of an engine over abstract values and of the walks of this program, one after the other. -/
import Derived.Test.YtgfhddockofdnaaMM
import Derived.Test.YtgfhddockofdnaaRows
open Go Go.Proofs
set_option linter.unusedVariables false
set_option linter.unusedSimpArgs false
set_option maxRecDepth 4000
set_option maxHeartbeats 4000000
namespace Go.Eng
attribute [local irreducible] Good ACalls runL regW stepW opW gdV' gdD condW gifW binW arW loadW storeW idxAW lenW appW appBW cutW onSome onBnd callW fldAW Again thenQ blockQ resW endQ Up loadR
/-! ### Echelon -/
def echB (a : List (List Int)) (p : Int) : Prop := ValidP a ∧ isP p = true
instance (a : List (List Int)) (p : Int) : Decidable (echB a p) := by unfold echB; infer_instance
def echR (a : List (List Int)) (p : Int) : List (List Int) := if echB a p then (echA p (redM a p)).1.take (echA p (redM a p)).2.1 else []
def echP (a : List (List Int)) (p : Int) : List Int := if echB a p then (echA p (redM a p)).2.2 else []
def echE (a : List (List Int)) (p : Int) : Int := if ValidP a then (if isP p = true then 0 else 20) else 3
theorem redM_in {a : List (List Int)} {p : Int} (hp : 2 ≤ p) (hv : ValidP a) : InR p (a.getD 0 []).length (redM a p) := fun i j hi hj => by
  rw [redM_length] at hi
  rw [redM_ent a p i j hi (by rw [hv.2.2.2.2 i hi]; exact hj)]
  exact ⟨Int.emod_nonneg _ (by omega), Int.emod_lt_of_pos _ (by omega)⟩
theorem redM_wid {a : List (List Int)} {p : Int} (hv : ValidP a) : Wid (a.getD 0 []).length (redM a p) := fun i hi => by
  rw [redM_length] at hi
  rw [redM_get a p i hi, List.length_map]; exact hv.2.2.2.2 i hi
theorem wid_mem {m : Nat} {A : List (List Int)} (h : Wid m A) : ∀ r ∈ A, r.length = m := fun r hr => by
  obtain ⟨j, hj, rfl⟩ := List.mem_iff_getElem.1 hr
  have := h j hj
  simpa [List.getD_eq_getElem?_getD, hj] using this
theorem wid0 {m : Nat} {A : List (List Int)} (h : Wid m A) (h0 : 0 < A.length) : (A.getD 0 []).length = m := h 0 h0
/-- echelon on a matrix just made. -/
theorem c_echelonP (A0 : List (List Int)) (m : Nat) (p : Int) (h : AH) (hp : 2 ≤ p ∧ p ≤ 2147483647) (hw : Wid m A0) (hl : 1 ≤ A0.length ∧ A0.length ≤ 1000000) (hm : m ≤ 1000000) (hR : InR p m A0) :
    ACalls Try.prog 43 [.bsl h.n 0 A0.length .full, .int .i64 p] (pmH h A0.length m A0) (fun v h' => ∃ H κ ids A top piv, v = .tup [.bsl h.n 0 top .ro, accO κ (piv.map (AV.int .i64))] ∧ h' = matH H h.n ids m A ∧ echA p A0 = (A, top, piv) ∧ MatOk h.n ids m A ∧ (∀ b ∈ ids, h.n ≤ b) ∧ Ext h H ∧ top ≤ A.length) := by
  refine ACalls.heap (HUp.pm (wid_mem hw)) ?_
  refine ACalls.mono (c_echelon h.n (idsOf h.n A0.length) A0 m p .full { h with n := h.n + 1 + A0.length } hp (pm_ok (wid_mem hw)) (by show h.n < h.n + 1 + A0.length; omega) (fun b hb => by have := mem_idsOf.1 hb; show b < h.n + 1 + A0.length; omega) hl hm hR) fun v h' hv => ?_
  obtain ⟨H, κ, ids, A, top, piv, h1, h2, h3, h4, h5, h6, h7, h8, h9, h10⟩ := hv
  refine ⟨H, κ, ids, A, top, piv, h1, h2, ?_, h4, fun b hb => by have := mem_idsOf.1 (h5 b hb); omega, pmH_ext (n := 0) (m := 0) |>.trans h6, h9⟩
  unfold echA; rw [wid0 hw (by omega)]; exact h3
theorem c_Echelon (a : List (List Int)) (p : Int) (h : AH) : ACalls Try.prog 25 [matV a, .int .i64 p] h (fun v h' => v = .tup [matV (echR a p), rowV (echP a p), .int .i64 (echE a p)] ∧ h' = h) := by
  by_cases hv : ValidP a
  · by_cases hp : isP p = true
    · have hb : echB a p := ⟨hv, hp⟩
      have hpp := isP_spec hp
      obtain ⟨k, hk1, hk2, hk3, hk4⟩ := hv.rows
      have hv1 := hv.1
      have hk0 := hk4 0 (by omega)
      have hin := redM_in (p := p) hpp.1 hv
      have hw := redM_wid (p := p) hv
      rw [hk0] at hin hw
      have hrl := redM_length a p
      rw [show echR a p = (echA p (redM a p)).1.take (echA p (redM a p)).2.1 by simp [echR, hb], show echP a p = (echA p (redM a p)).2.2 by simp [echP, hb], show echE a p = 0 by simp [echE, hv, hp]]
      refine ACalls.frozenE ?_
      refine acalls_of_good 2 25 [.tmp 4, .tmp 5, .tmp 6] Try.func25 rfl rfl (by kernel_rfl) rfl rfl (by decide) ?_
      simp (disch := first | assumption | omega) only [go_sem, Option.map, List.isEmpty, ↓reduceIte, Nat.reduceEqDiff, Nat.reduceAdd, Nat.reduceSub, Nat.reduceMul, Nat.reduceLT, Nat.reduceLeDiff, reduceCtorEq, Nat.reduceBEq, Nat.reduceBNe, Int.reduceNeg, Int.reduceLE, Int.reduceLT, Int.reduceToNat]
      repeat' (first | (first | refine good_seq ?_ | refine good_reg false (fun K hK => ?_) | (refine runL_nil (hK _ _ ?_); clear hK K) | refine runL_none rfl (fun K2 hK2 => ?_) | refine runL_some rfl rfl (fun R S hR hS => ?_) | (refine hK2 _ _ ?_; clear hK2 K2) | (refine hK2 _ _ ?_ ?_ <;> clear hK2 K2) | (refine regW_nil (hK _ _ ?_); clear hK K) | (refine regW_load rfl rfl rfl (fun F1 F2 hF1 hF2 => ?_)) | (refine hF1 _ ?_ ?_ <;> clear hF1 hF2 F1 F2) | (refine hF2 _ _ (fun K2 hK2 => ?_); clear hF1 hF2 F1 F2) | refine regW_light rfl rfl rfl (fun _ _ => rfl) (fun K2 hK2 => ?_) | refine regW_lguard rfl rfl rfl rfl (fun _ _ => rfl) (fun R S hR hS => ?_) | refine regW_heavy rfl rfl (fun K2 hK2 => ?_) | with_reducible refine log_goal ?_ | (refine hR _ (fun K2 hK2 => ?_); clear hR hS R S) | (refine hS _ ?_; clear hR hS R S) | refine good_block ?_ | refine good_skip ?_ | refine good_exit ?_ | refine good_ret ?_ | refine good_cond ?_ | refine And.intro ?_ ?_ | intro _) <;> try simp (disch := first | assumption | omega) only [go_sem, Option.map, List.isEmpty, ↓reduceIte, Nat.reduceEqDiff, Nat.reduceAdd, Nat.reduceSub, Nat.reduceMul, Nat.reduceLT, Nat.reduceLeDiff, reduceCtorEq, Nat.reduceBEq, Nat.reduceBNe, Int.reduceNeg, Int.reduceLE, Int.reduceLT, Int.reduceToNat] | ((first | (refine ACalls.mono (c_valid _ _) (fun v h' hv' => ?_); obtain ⟨rfl, rfl⟩ := hv'; rw [decide_eq_true hv]) | (refine ACalls.mono (c_Is _ _) (fun v h' hv' => ?_); obtain ⟨rfl, rfl⟩ := hv'; rw [hp]) | (refine ACalls.mono (c_reduced a k p (by omega) (by omega) hk4 _) (fun v h' hv' => ?_); obtain ⟨rfl, hh⟩ := hv'; subst h'; rw [show (a.map fun r => r.map (· % p)) = redM a p from rfl]; rw [← hrl]) | (refine ACalls.mono (c_echelonP (redM a p) k p _ (by omega) hw (by omega) (by omega) hin) (fun v h' hv' => ?_); obtain ⟨H, κ, ids, A, top, piv, hh1, hh2, hh3, hh4, hh5, hh6, hh7⟩ := hv'; subst hh1; subst hh2)) <;> try simp (disch := first | assumption | omega) only [go_sem, Option.map, List.isEmpty, ↓reduceIte, Nat.reduceEqDiff, Nat.reduceAdd, Nat.reduceSub, Nat.reduceMul, Nat.reduceLT, Nat.reduceLeDiff, reduceCtorEq, Nat.reduceBEq, Nat.reduceBNe, Int.reduceNeg, Int.reduceLE, Int.reduceLT, Int.reduceToNat]) | omega)
      exact ⟨H, _, κ, ids, k, A, top, by rw [hh3], rfl, hh4, Nat.le_refl _, hh5, hh6, hh7, by rw [hh3]⟩
    · have hb : ¬ echB a p := fun hb => hp hb.2
      have hp' : isP p = false := by simpa using hp
      rw [show echR a p = [] by simp [echR, hb], show echP a p = [] by simp [echP, hb], show echE a p = 20 by simp [echE, hv, hp]]
      refine ACalls.up ?_
      refine acalls_of_good 2 25 [.tmp 4, .tmp 5, .tmp 6] Try.func25 rfl rfl (by kernel_rfl) rfl rfl (by decide) ?_
      simp (disch := first | assumption | omega) only [go_sem, Option.map, List.isEmpty, ↓reduceIte, Nat.reduceEqDiff, Nat.reduceAdd, Nat.reduceSub, Nat.reduceMul, Nat.reduceLT, Nat.reduceLeDiff, reduceCtorEq, Nat.reduceBEq, Nat.reduceBNe, Int.reduceNeg, Int.reduceLE, Int.reduceLT, Int.reduceToNat]
      repeat' (first | (first | refine good_seq ?_ | refine good_reg false (fun K hK => ?_) | (refine runL_nil (hK _ _ ?_); clear hK K) | refine runL_none rfl (fun K2 hK2 => ?_) | refine runL_some rfl rfl (fun R S hR hS => ?_) | (refine hK2 _ _ ?_; clear hK2 K2) | (refine hK2 _ _ ?_ ?_ <;> clear hK2 K2) | (refine regW_nil (hK _ _ ?_); clear hK K) | (refine regW_load rfl rfl rfl (fun F1 F2 hF1 hF2 => ?_)) | (refine hF1 _ ?_ ?_ <;> clear hF1 hF2 F1 F2) | (refine hF2 _ _ (fun K2 hK2 => ?_); clear hF1 hF2 F1 F2) | refine regW_light rfl rfl rfl (fun _ _ => rfl) (fun K2 hK2 => ?_) | refine regW_lguard rfl rfl rfl rfl (fun _ _ => rfl) (fun R S hR hS => ?_) | refine regW_heavy rfl rfl (fun K2 hK2 => ?_) | with_reducible refine log_goal ?_ | (refine hR _ (fun K2 hK2 => ?_); clear hR hS R S) | (refine hS _ ?_; clear hR hS R S) | refine good_block ?_ | refine good_skip ?_ | refine good_exit ?_ | refine good_ret ?_ | refine good_cond ?_ | refine And.intro ?_ ?_ | intro _) <;> try simp (disch := first | assumption | omega) only [go_sem, Option.map, List.isEmpty, ↓reduceIte, Nat.reduceEqDiff, Nat.reduceAdd, Nat.reduceSub, Nat.reduceMul, Nat.reduceLT, Nat.reduceLeDiff, reduceCtorEq, Nat.reduceBEq, Nat.reduceBNe, Int.reduceNeg, Int.reduceLE, Int.reduceLT, Int.reduceToNat] | ((first | (refine ACalls.mono (c_valid _ _) (fun v h' hv' => ?_); obtain ⟨rfl, rfl⟩ := hv'; rw [decide_eq_true hv]) | (refine ACalls.mono (c_Is _ _) (fun v h' hv' => ?_); obtain ⟨rfl, rfl⟩ := hv'; rw [hp'])) <;> try simp (disch := first | assumption | omega) only [go_sem, Option.map, List.isEmpty, ↓reduceIte, Nat.reduceEqDiff, Nat.reduceAdd, Nat.reduceSub, Nat.reduceMul, Nat.reduceLT, Nat.reduceLeDiff, reduceCtorEq, Nat.reduceBEq, Nat.reduceBNe, Int.reduceNeg, Int.reduceLE, Int.reduceLT, Int.reduceToNat]) | omega)
      exact ⟨_, Up.tup3 Up.nmat Up.nrow (Up.refl _), rfl⟩
  · have hb : ¬ echB a p := fun hb => hv hb.1
    rw [show echR a p = [] by simp [echR, hb], show echP a p = [] by simp [echP, hb], show echE a p = 3 by simp [echE, hv]]
    refine ACalls.up ?_
    refine acalls_of_good 2 25 [.tmp 4, .tmp 5, .tmp 6] Try.func25 rfl rfl (by kernel_rfl) rfl rfl (by decide) ?_
    simp (disch := first | assumption | omega) only [go_sem, Option.map, List.isEmpty, ↓reduceIte, Nat.reduceEqDiff, Nat.reduceAdd, Nat.reduceSub, Nat.reduceMul, Nat.reduceLT, Nat.reduceLeDiff, reduceCtorEq, Nat.reduceBEq, Nat.reduceBNe, Int.reduceNeg, Int.reduceLE, Int.reduceLT, Int.reduceToNat]
    repeat' (first | (first | refine good_seq ?_ | refine good_reg false (fun K hK => ?_) | (refine runL_nil (hK _ _ ?_); clear hK K) | refine runL_none rfl (fun K2 hK2 => ?_) | refine runL_some rfl rfl (fun R S hR hS => ?_) | (refine hK2 _ _ ?_; clear hK2 K2) | (refine hK2 _ _ ?_ ?_ <;> clear hK2 K2) | (refine regW_nil (hK _ _ ?_); clear hK K) | (refine regW_load rfl rfl rfl (fun F1 F2 hF1 hF2 => ?_)) | (refine hF1 _ ?_ ?_ <;> clear hF1 hF2 F1 F2) | (refine hF2 _ _ (fun K2 hK2 => ?_); clear hF1 hF2 F1 F2) | refine regW_light rfl rfl rfl (fun _ _ => rfl) (fun K2 hK2 => ?_) | refine regW_lguard rfl rfl rfl rfl (fun _ _ => rfl) (fun R S hR hS => ?_) | refine regW_heavy rfl rfl (fun K2 hK2 => ?_) | with_reducible refine log_goal ?_ | (refine hR _ (fun K2 hK2 => ?_); clear hR hS R S) | (refine hS _ ?_; clear hR hS R S) | refine good_block ?_ | refine good_skip ?_ | refine good_exit ?_ | refine good_ret ?_ | refine good_cond ?_ | refine And.intro ?_ ?_ | intro _) <;> try simp (disch := first | assumption | omega) only [go_sem, Option.map, List.isEmpty, ↓reduceIte, Nat.reduceEqDiff, Nat.reduceAdd, Nat.reduceSub, Nat.reduceMul, Nat.reduceLT, Nat.reduceLeDiff, reduceCtorEq, Nat.reduceBEq, Nat.reduceBNe, Int.reduceNeg, Int.reduceLE, Int.reduceLT, Int.reduceToNat] | ((first | (refine ACalls.mono (c_valid _ _) (fun v h' hv' => ?_); obtain ⟨rfl, rfl⟩ := hv'; rw [decide_eq_false hv])) <;> try simp (disch := first | assumption | omega) only [go_sem, Option.map, List.isEmpty, ↓reduceIte, Nat.reduceEqDiff, Nat.reduceAdd, Nat.reduceSub, Nat.reduceMul, Nat.reduceLT, Nat.reduceLeDiff, reduceCtorEq, Nat.reduceBEq, Nat.reduceBNe, Int.reduceNeg, Int.reduceLE, Int.reduceLT, Int.reduceToNat]) | omega)
    exact ⟨_, Up.tup3 Up.nmat Up.nrow (Up.refl _), rfl⟩
end Go.Eng
open Go Go.Proofs
set_option linter.unusedVariables false
set_option linter.unusedSimpArgs false
set_option maxRecDepth 4000
set_option maxHeartbeats 4000000
namespace Go.Eng
attribute [local irreducible] Good ACalls runL regW stepW opW gdV' gdD condW gifW binW arW loadW storeW idxAW lenW appW appBW cutW onSome onBnd callW fldAW Again thenQ blockQ resW endQ Up loadR
/-! ### one row and column -/
theorem c_det1 (x m : Int) (hm : 2 ≤ m ∧ m ≤ 2147483647) (hx : 0 ≤ x ∧ x < m) (h : AH) : ACalls Try.prog 49 [.bsl h.n 0 1 .full, .int .i64 m] (pmH h 1 1 [[x]]) (fun v h' => v = .int .i64 x ∧ h' = pmH h 1 1 [[x]]) := by
  have hr0 : (pmH h 1 1 [[x]]).f (h.n + 1) = some ([x].map (AV.int .i64)) := by
    have := pm_row (h := h) (n := 1) (m := 1) (R := [[x]]) (i := 0) (by simp)
    simpa using this
  have hO : (pmH h 1 1 [[x]]).f h.n = some (pmC h.n 1 1 1) := pm_O
  have hg0 : (pmC h.n 1 1 1).getD 0 .junk = .bsl (h.n + 1) 0 1 .full := by simp [pmC]
  have hxm : x.tmod m = x := by rw [Int.tmod_eq_emod_of_nonneg hx.1]; exact Int.emod_eq_of_lt hx.1 hx.2
  have h1x : (1 * x).tmod m = x := by rw [Int.one_mul]; exact hxm
  refine acalls_of_good 2 109 [.tmp 4] Try.func49 rfl rfl (by kernel_rfl) rfl rfl (by decide) ?_
  simp (disch := first | assumption | omega) only [go_sem, Option.map, List.isEmpty, ↓reduceIte, Nat.reduceEqDiff, Nat.reduceAdd, Nat.reduceSub, Nat.reduceMul, Nat.reduceLT, Nat.reduceLeDiff, reduceCtorEq, Nat.reduceBEq, Nat.reduceBNe, Int.reduceNeg, Int.reduceLE, Int.reduceLT, Int.reduceToNat]
  repeat' (first | (first | refine good_seq ?_ | refine good_reg false (fun K hK => ?_) | (refine runL_nil (hK _ _ ?_); clear hK K) | refine runL_none rfl (fun K2 hK2 => ?_) | refine runL_some rfl rfl (fun R S hR hS => ?_) | (refine hK2 _ _ ?_; clear hK2 K2) | (refine hK2 _ _ ?_ ?_ <;> clear hK2 K2) | (refine regW_nil (hK _ _ ?_); clear hK K) | (refine regW_load rfl rfl rfl (fun F1 F2 hF1 hF2 => ?_)) | (refine hF1 _ ?_ ?_ <;> clear hF1 hF2 F1 F2) | (refine hF2 _ _ (fun K2 hK2 => ?_); clear hF1 hF2 F1 F2) | refine regW_light rfl rfl rfl (fun _ _ => rfl) (fun K2 hK2 => ?_) | refine regW_lguard rfl rfl rfl rfl (fun _ _ => rfl) (fun R S hR hS => ?_) | refine regW_heavy rfl rfl (fun K2 hK2 => ?_) | with_reducible refine log_goal ?_ | (refine hR _ (fun K2 hK2 => ?_); clear hR hS R S) | (refine hS _ ?_; clear hR hS R S) | refine good_block ?_ | refine good_skip ?_ | refine good_exit ?_ | refine good_ret ?_ | refine good_cond ?_ | refine And.intro ?_ ?_ | intro _) <;> try simp (disch := first | assumption | omega) only [go_sem, Option.map, List.isEmpty, ↓reduceIte, Nat.reduceEqDiff, Nat.reduceAdd, Nat.reduceSub, Nat.reduceMul, Nat.reduceLT, Nat.reduceLeDiff, reduceCtorEq, Nat.reduceBEq, Nat.reduceBNe, Int.reduceNeg, Int.reduceLE, Int.reduceLT, Int.reduceToNat] | omega)
  refine good_loop_s (σ := Bool) (fun b => [(0, .bsl h.n 0 1 .full), (1, .int .i64 m), (5, .int .i64 (if b = true then x else 1)), (11, .int .i64 1), (12, .int .i64 (if b = true then 1 else 0))]) (fun _ => pmH h 1 1 [[x]]) (fun _ => True) (fun b => if b = true then 0 else 1) false ?_ rfl trivial ?_
  · simp (disch := first | assumption | omega) only [go_sem, Option.map, List.isEmpty, ↓reduceIte, Nat.reduceEqDiff, Nat.reduceAdd, Nat.reduceSub, Nat.reduceMul, Nat.reduceLT, Nat.reduceLeDiff, reduceCtorEq, Nat.reduceBEq, Nat.reduceBNe, Int.reduceNeg, Int.reduceLE, Int.reduceLT, Int.reduceToNat]; (try (refine ⟨?_, ?_⟩ <;> omega)); (try omega)
  · intro b _ n hn
    cases b
    · repeat' (first | (first | refine good_seq ?_ | refine good_reg false (fun K hK => ?_) | (refine runL_nil (hK _ _ ?_); clear hK K) | refine runL_none rfl (fun K2 hK2 => ?_) | refine runL_some rfl rfl (fun R S hR hS => ?_) | (refine hK2 _ _ ?_; clear hK2 K2) | (refine hK2 _ _ ?_ ?_ <;> clear hK2 K2) | (refine regW_nil (hK _ _ ?_); clear hK K) | (refine regW_load rfl rfl rfl (fun F1 F2 hF1 hF2 => ?_)) | (refine hF1 _ ?_ ?_ <;> clear hF1 hF2 F1 F2) | (refine hF2 _ _ (fun K2 hK2 => ?_); clear hF1 hF2 F1 F2) | refine regW_light rfl rfl rfl (fun _ _ => rfl) (fun K2 hK2 => ?_) | refine regW_lguard rfl rfl rfl rfl (fun _ _ => rfl) (fun R S hR hS => ?_) | refine regW_heavy rfl rfl (fun K2 hK2 => ?_) | with_reducible refine log_goal ?_ | (refine hR _ (fun K2 hK2 => ?_); clear hR hS R S) | (refine hS _ ?_; clear hR hS R S) | refine good_block ?_ | refine good_skip ?_ | refine good_exit ?_ | refine good_ret ?_ | refine good_cond ?_ | refine And.intro ?_ ?_ | intro _) <;> try simp (disch := first | assumption | omega) only [go_sem, Option.map, List.isEmpty, ↓reduceIte, Nat.reduceEqDiff, Nat.reduceAdd, Nat.reduceSub, Nat.reduceMul, Nat.reduceLT, Nat.reduceLeDiff, reduceCtorEq, Nat.reduceBEq, Nat.reduceBNe, Int.reduceNeg, Int.reduceLE, Int.reduceLT, Int.reduceToNat, hr0, hO, hg0, pmC_length, h1x, Int.one_mul, Int.zero_add] | ((first | fail) <;> try simp (disch := first | assumption | omega) only [go_sem, Option.map, List.isEmpty, ↓reduceIte, Nat.reduceEqDiff, Nat.reduceAdd, Nat.reduceSub, Nat.reduceMul, Nat.reduceLT, Nat.reduceLeDiff, reduceCtorEq, Nat.reduceBEq, Nat.reduceBNe, Int.reduceNeg, Int.reduceLE, Int.reduceLT, Int.reduceToNat, hr0, hO, hg0, pmC_length, h1x, Int.one_mul, Int.zero_add]) | omega)
      refine good_loop_s (σ := Unit) (fun _ => [(0, .bsl h.n 0 1 .full), (1, .int .i64 m), (5, .int .i64 1), (6, .int .i64 0), (7, .int .i64 1), (11, .int .i64 1), (12, .int .i64 0)]) (fun _ => pmH h 1 1 [[x]]) (fun _ => True) (fun _ => 0) () ?_ rfl trivial ?_
      · simp (disch := first | assumption | omega) only [go_sem, Option.map, List.isEmpty, ↓reduceIte, Nat.reduceEqDiff, Nat.reduceAdd, Nat.reduceSub, Nat.reduceMul, Nat.reduceLT, Nat.reduceLeDiff, reduceCtorEq, Nat.reduceBEq, Nat.reduceBNe, Int.reduceNeg, Int.reduceLE, Int.reduceLT, Int.reduceToNat]; (try (refine ⟨?_, ?_⟩ <;> omega)); (try omega)
      · intro _ _ n' hn'
        repeat' (first | (first | refine good_seq ?_ | refine good_reg false (fun K hK => ?_) | (refine runL_nil (hK _ _ ?_); clear hK K) | refine runL_none rfl (fun K2 hK2 => ?_) | refine runL_some rfl rfl (fun R S hR hS => ?_) | (refine hK2 _ _ ?_; clear hK2 K2) | (refine hK2 _ _ ?_ ?_ <;> clear hK2 K2) | (refine regW_nil (hK _ _ ?_); clear hK K) | (refine regW_load rfl rfl rfl (fun F1 F2 hF1 hF2 => ?_)) | (refine hF1 _ ?_ ?_ <;> clear hF1 hF2 F1 F2) | (refine hF2 _ _ (fun K2 hK2 => ?_); clear hF1 hF2 F1 F2) | refine regW_light rfl rfl rfl (fun _ _ => rfl) (fun K2 hK2 => ?_) | refine regW_lguard rfl rfl rfl rfl (fun _ _ => rfl) (fun R S hR hS => ?_) | refine regW_heavy rfl rfl (fun K2 hK2 => ?_) | with_reducible refine log_goal ?_ | (refine hR _ (fun K2 hK2 => ?_); clear hR hS R S) | (refine hS _ ?_; clear hR hS R S) | refine good_block ?_ | refine good_skip ?_ | refine good_exit ?_ | refine good_ret ?_ | refine good_cond ?_ | refine And.intro ?_ ?_ | intro _) <;> try simp (disch := first | assumption | omega) only [go_sem, Option.map, List.isEmpty, ↓reduceIte, Nat.reduceEqDiff, Nat.reduceAdd, Nat.reduceSub, Nat.reduceMul, Nat.reduceLT, Nat.reduceLeDiff, reduceCtorEq, Nat.reduceBEq, Nat.reduceBNe, Int.reduceNeg, Int.reduceLE, Int.reduceLT, Int.reduceToNat, hr0, hO, hg0, pmC_length, hxm, Int.one_mul, Int.zero_add] | ((first | fail) <;> try simp (disch := first | assumption | omega) only [go_sem, Option.map, List.isEmpty, ↓reduceIte, Nat.reduceEqDiff, Nat.reduceAdd, Nat.reduceSub, Nat.reduceMul, Nat.reduceLT, Nat.reduceLeDiff, reduceCtorEq, Nat.reduceBEq, Nat.reduceBNe, Int.reduceNeg, Int.reduceLE, Int.reduceLT, Int.reduceToNat, hr0, hO, hg0, pmC_length, hxm, Int.one_mul, Int.zero_add]) | omega)
        refine Again.to true trivial (by simp only [hn]; decide) ?_ rfl
        simp (disch := first | assumption | omega) only [go_sem, Option.map, List.isEmpty, ↓reduceIte, Nat.reduceEqDiff, Nat.reduceAdd, Nat.reduceSub, Nat.reduceMul, Nat.reduceLT, Nat.reduceLeDiff, reduceCtorEq, Nat.reduceBEq, Nat.reduceBNe, Int.reduceNeg, Int.reduceLE, Int.reduceLT, Int.reduceToNat]; (try (refine ⟨?_, ?_⟩ <;> omega)); (try omega)
        all_goals rfl
    · repeat' (first | (first | refine good_seq ?_ | refine good_reg false (fun K hK => ?_) | (refine runL_nil (hK _ _ ?_); clear hK K) | refine runL_none rfl (fun K2 hK2 => ?_) | refine runL_some rfl rfl (fun R S hR hS => ?_) | (refine hK2 _ _ ?_; clear hK2 K2) | (refine hK2 _ _ ?_ ?_ <;> clear hK2 K2) | (refine regW_nil (hK _ _ ?_); clear hK K) | (refine regW_load rfl rfl rfl (fun F1 F2 hF1 hF2 => ?_)) | (refine hF1 _ ?_ ?_ <;> clear hF1 hF2 F1 F2) | (refine hF2 _ _ (fun K2 hK2 => ?_); clear hF1 hF2 F1 F2) | refine regW_light rfl rfl rfl (fun _ _ => rfl) (fun K2 hK2 => ?_) | refine regW_lguard rfl rfl rfl rfl (fun _ _ => rfl) (fun R S hR hS => ?_) | refine regW_heavy rfl rfl (fun K2 hK2 => ?_) | with_reducible refine log_goal ?_ | (refine hR _ (fun K2 hK2 => ?_); clear hR hS R S) | (refine hS _ ?_; clear hR hS R S) | refine good_block ?_ | refine good_skip ?_ | refine good_exit ?_ | refine good_ret ?_ | refine good_cond ?_ | refine And.intro ?_ ?_ | intro _) <;> try simp (disch := first | assumption | omega) only [go_sem, Option.map, List.isEmpty, ↓reduceIte, Nat.reduceEqDiff, Nat.reduceAdd, Nat.reduceSub, Nat.reduceMul, Nat.reduceLT, Nat.reduceLeDiff, reduceCtorEq, Nat.reduceBEq, Nat.reduceBNe, Int.reduceNeg, Int.reduceLE, Int.reduceLT, Int.reduceToNat, hr0, hO, hg0] | ((first | fail) <;> try simp (disch := first | assumption | omega) only [go_sem, Option.map, List.isEmpty, ↓reduceIte, Nat.reduceEqDiff, Nat.reduceAdd, Nat.reduceSub, Nat.reduceMul, Nat.reduceLT, Nat.reduceLeDiff, reduceCtorEq, Nat.reduceBEq, Nat.reduceBNe, Int.reduceNeg, Int.reduceLE, Int.reduceLT, Int.reduceToNat, hr0, hO, hg0]) | omega)
def SquareP (a : List (List Int)) : Prop := ValidP a ∧ a.length = (a.getD 0 []).length ∧ a.length ≤ 8
instance (a : List (List Int)) : Decidable (SquareP a) := by unfold SquareP; infer_instance
theorem c_square (a : List (List Int)) (h : AH) : ACalls Try.prog 45 [matV a] h (fun v h' => v = .bool (decide (SquareP a)) ∧ h' = h) := by
  refine acalls_of_good 1 19 [.tmp 2] Try.func45 rfl rfl (by kernel_rfl) rfl rfl (by decide) ?_
  simp (disch := first | assumption | omega) only [go_sem, Option.map, List.isEmpty, ↓reduceIte, Nat.reduceEqDiff, Nat.reduceAdd, Nat.reduceSub, Nat.reduceMul, Nat.reduceLT, Nat.reduceLeDiff, reduceCtorEq, Nat.reduceBEq, Nat.reduceBNe, Int.reduceNeg, Int.reduceLE, Int.reduceLT, Int.reduceToNat]
  by_cases hv : ValidP a
  · have hv1 := hv.1
    repeat' (first | (first | refine good_seq ?_ | refine good_reg false (fun K hK => ?_) | (refine runL_nil (hK _ _ ?_); clear hK K) | refine runL_none rfl (fun K2 hK2 => ?_) | refine runL_some rfl rfl (fun R S hR hS => ?_) | (refine hK2 _ _ ?_; clear hK2 K2) | (refine hK2 _ _ ?_ ?_ <;> clear hK2 K2) | (refine regW_nil (hK _ _ ?_); clear hK K) | (refine regW_load rfl rfl rfl (fun F1 F2 hF1 hF2 => ?_)) | (refine hF1 _ ?_ ?_ <;> clear hF1 hF2 F1 F2) | (refine hF2 _ _ (fun K2 hK2 => ?_); clear hF1 hF2 F1 F2) | refine regW_light rfl rfl rfl (fun _ _ => rfl) (fun K2 hK2 => ?_) | refine regW_lguard rfl rfl rfl rfl (fun _ _ => rfl) (fun R S hR hS => ?_) | refine regW_heavy rfl rfl (fun K2 hK2 => ?_) | with_reducible refine log_goal ?_ | (refine hR _ (fun K2 hK2 => ?_); clear hR hS R S) | (refine hS _ ?_; clear hR hS R S) | refine good_block ?_ | refine good_skip ?_ | refine good_exit ?_ | refine good_ret ?_ | refine good_cond ?_ | refine And.intro ?_ ?_ | intro _) <;> try simp (disch := first | assumption | omega) only [go_sem, Option.map, List.isEmpty, ↓reduceIte, Nat.reduceEqDiff, Nat.reduceAdd, Nat.reduceSub, Nat.reduceMul, Nat.reduceLT, Nat.reduceLeDiff, reduceCtorEq, Nat.reduceBEq, Nat.reduceBNe, Int.reduceNeg, Int.reduceLE, Int.reduceLT, Int.reduceToNat] | ((first | (refine ACalls.mono (c_valid _ _) (fun v h' hv' => ?_); obtain ⟨rfl, rfl⟩ := hv'; rw [decide_eq_true hv])) <;> try simp (disch := first | assumption | omega) only [go_sem, Option.map, List.isEmpty, ↓reduceIte, Nat.reduceEqDiff, Nat.reduceAdd, Nat.reduceSub, Nat.reduceMul, Nat.reduceLT, Nat.reduceLeDiff, reduceCtorEq, Nat.reduceBEq, Nat.reduceBNe, Int.reduceNeg, Int.reduceLE, Int.reduceLT, Int.reduceToNat]) | omega)
    · rw [decide_eq_decide]; exact ⟨fun h => ⟨hv, by omega, by omega⟩, fun h => by have := h.2.2; omega⟩
    · rw [eq_comm, decide_eq_false_iff_not]; intro hs; have := hs.2.1; omega
  · repeat' (first | (first | refine good_seq ?_ | refine good_reg false (fun K hK => ?_) | (refine runL_nil (hK _ _ ?_); clear hK K) | refine runL_none rfl (fun K2 hK2 => ?_) | refine runL_some rfl rfl (fun R S hR hS => ?_) | (refine hK2 _ _ ?_; clear hK2 K2) | (refine hK2 _ _ ?_ ?_ <;> clear hK2 K2) | (refine regW_nil (hK _ _ ?_); clear hK K) | (refine regW_load rfl rfl rfl (fun F1 F2 hF1 hF2 => ?_)) | (refine hF1 _ ?_ ?_ <;> clear hF1 hF2 F1 F2) | (refine hF2 _ _ (fun K2 hK2 => ?_); clear hF1 hF2 F1 F2) | refine regW_light rfl rfl rfl (fun _ _ => rfl) (fun K2 hK2 => ?_) | refine regW_lguard rfl rfl rfl rfl (fun _ _ => rfl) (fun R S hR hS => ?_) | refine regW_heavy rfl rfl (fun K2 hK2 => ?_) | with_reducible refine log_goal ?_ | (refine hR _ (fun K2 hK2 => ?_); clear hR hS R S) | (refine hS _ ?_; clear hR hS R S) | refine good_block ?_ | refine good_skip ?_ | refine good_exit ?_ | refine good_ret ?_ | refine good_cond ?_ | refine And.intro ?_ ?_ | intro _) <;> try simp (disch := first | assumption | omega) only [go_sem, Option.map, List.isEmpty, ↓reduceIte, Nat.reduceEqDiff, Nat.reduceAdd, Nat.reduceSub, Nat.reduceMul, Nat.reduceLT, Nat.reduceLeDiff, reduceCtorEq, Nat.reduceBEq, Nat.reduceBNe, Int.reduceNeg, Int.reduceLE, Int.reduceLT, Int.reduceToNat] | ((first | (refine ACalls.mono (c_valid _ _) (fun v h' hv' => ?_); obtain ⟨rfl, rfl⟩ := hv'; rw [decide_eq_false hv])) <;> try simp (disch := first | assumption | omega) only [go_sem, Option.map, List.isEmpty, ↓reduceIte, Nat.reduceEqDiff, Nat.reduceAdd, Nat.reduceSub, Nat.reduceMul, Nat.reduceLT, Nat.reduceLeDiff, reduceCtorEq, Nat.reduceBEq, Nat.reduceBNe, Int.reduceNeg, Int.reduceLE, Int.reduceLT, Int.reduceToNat]) | omega)
    rw [eq_comm, decide_eq_false_iff_not]; exact fun hs => hv hs.1
theorem c_Inverse1 (x m : Int) (hm : 2 ≤ m ∧ m ≤ 2147483647) (h : AH) : ACalls Try.prog 23 [matV [[x]], .int .i64 m] h (fun v h' => v = .tup [matV (if invB (x % m) m = true then [[invF (x % m) m % m]] else []), .int .i64 (if invB (x % m) m = true then 0 else 8)] ∧ h' = h) := by
  have hsq : SquareP [[x]] := by refine ⟨⟨by simp, by simp, by simp, by simp, fun i hi => ?_⟩, by simp, by simp⟩; have : i = 0 := by simpa using hi
                                 subst this; rfl
  have hmb : modB m = true := by simp [modB]; omega
  have hx := And.intro (Int.emod_nonneg x (show m ≠ 0 by omega)) (Int.emod_lt_of_pos x (show 0 < m by omega))
  have hrd : redM [[x]] m = [[x % m]] := rfl
  have hrd2 : redM [[x % m]] m = [[x % m]] := by simp [redM, Int.emod_emod_of_dvd]
  have hxm : (x % m).tmod m = x % m := by rw [Int.tmod_eq_emod_of_nonneg hx.1]; exact Int.emod_eq_of_lt hx.1 hx.2
  by_cases hi : invB (x % m) m = true
  · rw [if_pos hi, if_pos hi]
    refine ACalls.frozenP ?_
    refine acalls_of_good 2 88 [.tmp 4, .tmp 5] Try.func23 rfl rfl (by kernel_rfl) rfl rfl (by decide) ?_
    simp (disch := first | assumption | omega) only [go_sem, Option.map, List.isEmpty, ↓reduceIte, Nat.reduceEqDiff, Nat.reduceAdd, Nat.reduceSub, Nat.reduceMul, Nat.reduceLT, Nat.reduceLeDiff, reduceCtorEq, Nat.reduceBEq, Nat.reduceBNe, Int.reduceNeg, Int.reduceLE, Int.reduceLT, Int.reduceToNat]
    repeat' (first | (first | refine good_seq ?_ | refine good_reg false (fun K hK => ?_) | (refine runL_nil (hK _ _ ?_); clear hK K) | refine runL_none rfl (fun K2 hK2 => ?_) | refine runL_some rfl rfl (fun R S hR hS => ?_) | (refine hK2 _ _ ?_; clear hK2 K2) | (refine hK2 _ _ ?_ ?_ <;> clear hK2 K2) | (refine regW_nil (hK _ _ ?_); clear hK K) | (refine regW_load rfl rfl rfl (fun F1 F2 hF1 hF2 => ?_)) | (refine hF1 _ ?_ ?_ <;> clear hF1 hF2 F1 F2) | (refine hF2 _ _ (fun K2 hK2 => ?_); clear hF1 hF2 F1 F2) | refine regW_light rfl rfl rfl (fun _ _ => rfl) (fun K2 hK2 => ?_) | refine regW_lguard rfl rfl rfl rfl (fun _ _ => rfl) (fun R S hR hS => ?_) | refine regW_heavy rfl rfl (fun K2 hK2 => ?_) | with_reducible refine log_goal ?_ | (refine hR _ (fun K2 hK2 => ?_); clear hR hS R S) | (refine hS _ ?_; clear hR hS R S) | refine good_block ?_ | refine good_skip ?_ | refine good_exit ?_ | refine good_ret ?_ | refine good_cond ?_ | refine And.intro ?_ ?_ | intro _) <;> try simp (disch := first | assumption | omega) only [go_sem, Option.map, List.isEmpty, ↓reduceIte, Nat.reduceEqDiff, Nat.reduceAdd, Nat.reduceSub, Nat.reduceMul, Nat.reduceLT, Nat.reduceLeDiff, reduceCtorEq, Nat.reduceBEq, Nat.reduceBNe, Int.reduceNeg, Int.reduceLE, Int.reduceLT, Int.reduceToNat, hxm] | ((first | (refine ACalls.mono (c_square [[x]] _) (fun v h' hv' => ?_); obtain ⟨rfl, rfl⟩ := hv'; rw [decide_eq_true hsq]) | (refine ACalls.mono (c_modulus _ _) (fun v h' hv' => ?_); obtain ⟨rfl, rfl⟩ := hv'; rw [hmb]) | (refine ACalls.mono (c_reducedV [[x]] 1 m (by omega) (by simp) (fun i hi => by have : i = 0 := (by simpa using hi); subst this; rfl) _) (fun v h' hv' => ?_); obtain ⟨rfl, rfl⟩ := hv'; rw [hrd]) | (refine ACalls.mono (c_reduced [[x % m]] 1 m (by omega) (by simp) (fun i hi => by have : i = 0 := (by simpa using hi); subst this; rfl) _) (fun v h' hv' => ?_); obtain ⟨rfl, hh⟩ := hv'; rw [show ([[x % m]] : List (List Int)).map (fun r => r.map (· % m)) = [[x % m]] from hrd2] at hh; subst hh) | (refine ACalls.mono (c_det1 (x % m) m hm hx _) (fun v h' hv' => ?_); obtain ⟨rfl, hh⟩ := hv'; subst hh) | (refine ACalls.mono (c_inverseF _ _ hm hx _) (fun v h' hv' => ?_); obtain ⟨rfl, hh⟩ := hv'; subst hh; rw [hi])) <;> try simp (disch := first | assumption | omega) only [go_sem, Option.map, List.isEmpty, ↓reduceIte, Nat.reduceEqDiff, Nat.reduceAdd, Nat.reduceSub, Nat.reduceMul, Nat.reduceLT, Nat.reduceLeDiff, reduceCtorEq, Nat.reduceBEq, Nat.reduceBNe, Int.reduceNeg, Int.reduceLE, Int.reduceLT, Int.reduceToNat, hxm]) | omega)
    generalize hG : pmH h' 1 1 [[x % m]] = G
    have hGe : Ext h' G := by rw [← hG]; exact ⟨by rw [pm_n]; omega, Nat.le_refl _, fun b hb => by simp only [pmH]; rw [if_neg (by omega), if_neg (by omega)], fun _ _ => rfl⟩
    have hGn : G.n = h'.n + 1 + 1 := by rw [← hG]; rfl
    generalize hf : invF (x % m) m = f
    have hfb := invF_bd (x % m) hm.1
    rw [hf] at hfb
    have hfm : (1 * f).tmod m = f % m := by rw [Int.one_mul, Int.tmod_eq_emod_of_nonneg hfb.1]
    refine good_loop_s (σ := List (List Int)) (fun R => [(0, matV [[x % m]]), (1, .int .i64 m), (6, .int .i64 f), (8, .bsl G.n 0 1 .full), (39, .int .i64 1), (40, .int .i64 R.length)]) (fun R => pmH G 1 1 R) (fun R => R.length ≤ 1 ∧ R = List.replicate R.length [f % m]) (fun R => 1 - R.length) [] ?_ ?_ ⟨by simp, rfl⟩ ?_
    · simp (disch := first | assumption | omega) only [go_sem, Option.map, List.isEmpty, ↓reduceIte, Nat.reduceEqDiff, Nat.reduceAdd, Nat.reduceSub, Nat.reduceMul, Nat.reduceLT, Nat.reduceLeDiff, reduceCtorEq, Nat.reduceBEq, Nat.reduceBNe, Int.reduceNeg, Int.reduceLE, Int.reduceLT, Int.reduceToNat]; (try (refine ⟨?_, ?_⟩ <;> omega)); (try omega)
      exact ⟨by rw [hGn], by simp⟩
    · exact pm_zero.symm
    · intro R hR n hn
      by_cases hR1 : R.length = 1
      · have hRe : R = [[f % m]] := by rw [hR.2, hR1]; rfl
        repeat' (first | (first | refine good_seq ?_ | refine good_reg false (fun K hK => ?_) | (refine runL_nil (hK _ _ ?_); clear hK K) | refine runL_none rfl (fun K2 hK2 => ?_) | refine runL_some rfl rfl (fun R S hR hS => ?_) | (refine hK2 _ _ ?_; clear hK2 K2) | (refine hK2 _ _ ?_ ?_ <;> clear hK2 K2) | (refine regW_nil (hK _ _ ?_); clear hK K) | (refine regW_load rfl rfl rfl (fun F1 F2 hF1 hF2 => ?_)) | (refine hF1 _ ?_ ?_ <;> clear hF1 hF2 F1 F2) | (refine hF2 _ _ (fun K2 hK2 => ?_); clear hF1 hF2 F1 F2) | refine regW_light rfl rfl rfl (fun _ _ => rfl) (fun K2 hK2 => ?_) | refine regW_lguard rfl rfl rfl rfl (fun _ _ => rfl) (fun R S hR hS => ?_) | refine regW_heavy rfl rfl (fun K2 hK2 => ?_) | with_reducible refine log_goal ?_ | (refine hR _ (fun K2 hK2 => ?_); clear hR hS R S) | (refine hS _ ?_; clear hR hS R S) | refine good_block ?_ | refine good_skip ?_ | refine good_exit ?_ | refine good_ret ?_ | refine good_cond ?_ | refine And.intro ?_ ?_ | intro _) <;> try simp (disch := first | assumption | omega) only [go_sem, Option.map, List.isEmpty, ↓reduceIte, Nat.reduceEqDiff, Nat.reduceAdd, Nat.reduceSub, Nat.reduceMul, Nat.reduceLT, Nat.reduceLeDiff, reduceCtorEq, Nat.reduceBEq, Nat.reduceBNe, Int.reduceNeg, Int.reduceLE, Int.reduceLT, Int.reduceToNat, hfm] | ((first | fail) <;> try simp (disch := first | assumption | omega) only [go_sem, Option.map, List.isEmpty, ↓reduceIte, Nat.reduceEqDiff, Nat.reduceAdd, Nat.reduceSub, Nat.reduceMul, Nat.reduceLT, Nat.reduceLeDiff, reduceCtorEq, Nat.reduceBEq, Nat.reduceBNe, Int.reduceNeg, Int.reduceLE, Int.reduceLT, Int.reduceToNat, hfm]) | omega)
        exact ⟨G, 1, rfl, by rw [hRe], by simp, hGe⟩
      · have hR0 : R.length = 0 := by omega
        repeat' (first | (first | refine good_seq ?_ | refine good_reg false (fun K hK => ?_) | (refine runL_nil (hK _ _ ?_); clear hK K) | refine runL_none rfl (fun K2 hK2 => ?_) | refine runL_some rfl rfl (fun R S hR hS => ?_) | (refine hK2 _ _ ?_; clear hK2 K2) | (refine hK2 _ _ ?_ ?_ <;> clear hK2 K2) | (refine regW_nil (hK _ _ ?_); clear hK K) | (refine regW_load rfl rfl rfl (fun F1 F2 hF1 hF2 => ?_)) | (refine hF1 _ ?_ ?_ <;> clear hF1 hF2 F1 F2) | (refine hF2 _ _ (fun K2 hK2 => ?_); clear hF1 hF2 F1 F2) | refine regW_light rfl rfl rfl (fun _ _ => rfl) (fun K2 hK2 => ?_) | refine regW_lguard rfl rfl rfl rfl (fun _ _ => rfl) (fun R S hR hS => ?_) | refine regW_heavy rfl rfl (fun K2 hK2 => ?_) | with_reducible refine log_goal ?_ | (refine hR _ (fun K2 hK2 => ?_); clear hR hS R S) | (refine hS _ ?_; clear hR hS R S) | refine good_block ?_ | refine good_skip ?_ | refine good_exit ?_ | refine good_ret ?_ | refine good_cond ?_ | refine And.intro ?_ ?_ | intro _) <;> try simp (disch := first | assumption | omega) only [go_sem, Option.map, List.isEmpty, ↓reduceIte, Nat.reduceEqDiff, Nat.reduceAdd, Nat.reduceSub, Nat.reduceMul, Nat.reduceLT, Nat.reduceLeDiff, reduceCtorEq, Nat.reduceBEq, Nat.reduceBNe, Int.reduceNeg, Int.reduceLE, Int.reduceLT, Int.reduceToNat, hfm] | ((first | fail) <;> try simp (disch := first | assumption | omega) only [go_sem, Option.map, List.isEmpty, ↓reduceIte, Nat.reduceEqDiff, Nat.reduceAdd, Nat.reduceSub, Nat.reduceMul, Nat.reduceLT, Nat.reduceLeDiff, reduceCtorEq, Nat.reduceBEq, Nat.reduceBNe, Int.reduceNeg, Int.reduceLE, Int.reduceLT, Int.reduceToNat, hfm]) | omega)
        refine good_loop_s (σ := Nat) (fun j => [(0, matV [[x % m]]), (1, .int .i64 m), (6, .int .i64 f), (8, .bsl G.n 0 1 .full), (9, .int .i64 R.length), (39, .int .i64 1), (40, .int .i64 R.length), (50, .int .i64 1), (51, .int .i64 j)])
          (fun j => pmH G 1 1 (R ++ [fillI (fun _ => f % m) 1 j])) (fun j => j ≤ 1) (fun j => 1 - j) 0 ?_ ?_ (Nat.zero_le _) ?_
        · simp (disch := first | assumption | omega) only [go_sem, Option.map, List.isEmpty, ↓reduceIte, Nat.reduceEqDiff, Nat.reduceAdd, Nat.reduceSub, Nat.reduceMul, Nat.reduceLT, Nat.reduceLeDiff, reduceCtorEq, Nat.reduceBEq, Nat.reduceBNe, Int.reduceNeg, Int.reduceLE, Int.reduceLT, Int.reduceToNat]; (try (refine ⟨?_, ?_⟩ <;> omega)); (try omega)
          all_goals simp
        · rw [fillI_zero]; exact (pm_more (by omega) _).symm
        · intro j hj n' hn'
          have hfl := fillI_length (f := fun _ => f % m) hj
          by_cases hj1 : j = 1
          · repeat' (first | (first | refine good_seq ?_ | refine good_reg false (fun K hK => ?_) | (refine runL_nil (hK _ _ ?_); clear hK K) | refine runL_none rfl (fun K2 hK2 => ?_) | refine runL_some rfl rfl (fun R S hR hS => ?_) | (refine hK2 _ _ ?_; clear hK2 K2) | (refine hK2 _ _ ?_ ?_ <;> clear hK2 K2) | (refine regW_nil (hK _ _ ?_); clear hK K) | (refine regW_load rfl rfl rfl (fun F1 F2 hF1 hF2 => ?_)) | (refine hF1 _ ?_ ?_ <;> clear hF1 hF2 F1 F2) | (refine hF2 _ _ (fun K2 hK2 => ?_); clear hF1 hF2 F1 F2) | refine regW_light rfl rfl rfl (fun _ _ => rfl) (fun K2 hK2 => ?_) | refine regW_lguard rfl rfl rfl rfl (fun _ _ => rfl) (fun R S hR hS => ?_) | refine regW_heavy rfl rfl (fun K2 hK2 => ?_) | with_reducible refine log_goal ?_ | (refine hR _ (fun K2 hK2 => ?_); clear hR hS R S) | (refine hS _ ?_; clear hR hS R S) | refine good_block ?_ | refine good_skip ?_ | refine good_exit ?_ | refine good_ret ?_ | refine good_cond ?_ | refine And.intro ?_ ?_ | intro _) <;> try simp (disch := first | assumption | omega) only [go_sem, Option.map, List.isEmpty, ↓reduceIte, Nat.reduceEqDiff, Nat.reduceAdd, Nat.reduceSub, Nat.reduceMul, Nat.reduceLT, Nat.reduceLeDiff, reduceCtorEq, Nat.reduceBEq, Nat.reduceBNe, Int.reduceNeg, Int.reduceLE, Int.reduceLT, Int.reduceToNat, hfm] | ((first | fail) <;> try simp (disch := first | assumption | omega) only [go_sem, Option.map, List.isEmpty, ↓reduceIte, Nat.reduceEqDiff, Nat.reduceAdd, Nat.reduceSub, Nat.reduceMul, Nat.reduceLT, Nat.reduceLeDiff, reduceCtorEq, Nat.reduceBEq, Nat.reduceBNe, Int.reduceNeg, Int.reduceLE, Int.reduceLT, Int.reduceToNat, hfm]) | omega)
            refine Again.to (R ++ [[f % m]]) ⟨by rw [List.length_append, hR0]; simp, ?_⟩ (by show 1 - (R ++ [[f % m]]).length < n; rw [List.length_append, hn, hR0]; simp) ?_ ?_
            · have : R = [] := List.eq_nil_of_length_eq_zero hR0
              subst this; rfl
            · simp (disch := first | assumption | omega) only [go_sem, Option.map, List.isEmpty, ↓reduceIte, Nat.reduceEqDiff, Nat.reduceAdd, Nat.reduceSub, Nat.reduceMul, Nat.reduceLT, Nat.reduceLeDiff, reduceCtorEq, Nat.reduceBEq, Nat.reduceBNe, Int.reduceNeg, Int.reduceLE, Int.reduceLT, Int.reduceToNat]; (try (refine ⟨?_, ?_⟩ <;> omega)); (try omega)
            · rw [hj1, fillI_full]; rfl
          · have hpar : ((R.length : Int) + (j : Int)).tmod 2 = 0 := by rw [show (R.length : Int) + (j : Int) = 0 by omega]; rfl
            repeat' (first | (first | refine good_seq ?_ | refine good_reg false (fun K hK => ?_) | (refine runL_nil (hK _ _ ?_); clear hK K) | refine runL_none rfl (fun K2 hK2 => ?_) | refine runL_some rfl rfl (fun R S hR hS => ?_) | (refine hK2 _ _ ?_; clear hK2 K2) | (refine hK2 _ _ ?_ ?_ <;> clear hK2 K2) | (refine regW_nil (hK _ _ ?_); clear hK K) | (refine regW_load rfl rfl rfl (fun F1 F2 hF1 hF2 => ?_)) | (refine hF1 _ ?_ ?_ <;> clear hF1 hF2 F1 F2) | (refine hF2 _ _ (fun K2 hK2 => ?_); clear hF1 hF2 F1 F2) | refine regW_light rfl rfl rfl (fun _ _ => rfl) (fun K2 hK2 => ?_) | refine regW_lguard rfl rfl rfl rfl (fun _ _ => rfl) (fun R S hR hS => ?_) | refine regW_heavy rfl rfl (fun K2 hK2 => ?_) | with_reducible refine log_goal ?_ | (refine hR _ (fun K2 hK2 => ?_); clear hR hS R S) | (refine hS _ ?_; clear hR hS R S) | refine good_block ?_ | refine good_skip ?_ | refine good_exit ?_ | refine good_ret ?_ | refine good_cond ?_ | refine And.intro ?_ ?_ | intro _) <;> try simp (disch := first | assumption | omega) only [go_sem, Option.map, List.isEmpty, ↓reduceIte, Nat.reduceEqDiff, Nat.reduceAdd, Nat.reduceSub, Nat.reduceMul, Nat.reduceLT, Nat.reduceLeDiff, reduceCtorEq, Nat.reduceBEq, Nat.reduceBNe, Int.reduceNeg, Int.reduceLE, Int.reduceLT, Int.reduceToNat, hfm, hpar] | ((first | refine good_drw (id := 22) mixed false [[], [], [0, 1], [0, 1, 2], [], [], [], [5, 6], [], [5, 6, 7, 8], [0, 1, 2, 3, 4, 5, 6, 7, 8, 9], [0, 1, 2, 3, 4, 5, 6, 7, 8, 9, 10]] [0, 1, 2, 3, 4, 5, 6, 7, 8, 9, 10, 11] (by decide +kernel) (fun K hK => ?_)) <;> try simp (disch := first | assumption | omega) only [go_sem, Option.map, List.isEmpty, ↓reduceIte, Nat.reduceEqDiff, Nat.reduceAdd, Nat.reduceSub, Nat.reduceMul, Nat.reduceLT, Nat.reduceLeDiff, reduceCtorEq, Nat.reduceBEq, Nat.reduceBNe, Int.reduceNeg, Int.reduceLE, Int.reduceLT, Int.reduceToNat, hfm, hpar]) | omega)
            refine Again.to (j + 1) (by omega) (by omega) ?_ ?_
            · simp (disch := first | assumption | omega) only [go_sem, Option.map, List.isEmpty, ↓reduceIte, Nat.reduceEqDiff, Nat.reduceAdd, Nat.reduceSub, Nat.reduceMul, Nat.reduceLT, Nat.reduceLeDiff, reduceCtorEq, Nat.reduceBEq, Nat.reduceBNe, Int.reduceNeg, Int.reduceLE, Int.reduceLT, Int.reduceToNat]; (try (refine ⟨?_, ?_⟩ <;> omega)); (try omega)
            · rw [← fillI_set (f := fun _ => f % m) (by omega)]
  · have hi' : invB (x % m) m = false := by simpa using hi
    rw [if_neg hi, if_neg hi]
    refine ACalls.still ?_
    refine acalls_of_good 2 88 [.tmp 4, .tmp 5] Try.func23 rfl rfl (by kernel_rfl) rfl rfl (by decide) ?_
    simp (disch := first | assumption | omega) only [go_sem, Option.map, List.isEmpty, ↓reduceIte, Nat.reduceEqDiff, Nat.reduceAdd, Nat.reduceSub, Nat.reduceMul, Nat.reduceLT, Nat.reduceLeDiff, reduceCtorEq, Nat.reduceBEq, Nat.reduceBNe, Int.reduceNeg, Int.reduceLE, Int.reduceLT, Int.reduceToNat]
    repeat' (first | (first | refine good_seq ?_ | refine good_reg false (fun K hK => ?_) | (refine runL_nil (hK _ _ ?_); clear hK K) | refine runL_none rfl (fun K2 hK2 => ?_) | refine runL_some rfl rfl (fun R S hR hS => ?_) | (refine hK2 _ _ ?_; clear hK2 K2) | (refine hK2 _ _ ?_ ?_ <;> clear hK2 K2) | (refine regW_nil (hK _ _ ?_); clear hK K) | (refine regW_load rfl rfl rfl (fun F1 F2 hF1 hF2 => ?_)) | (refine hF1 _ ?_ ?_ <;> clear hF1 hF2 F1 F2) | (refine hF2 _ _ (fun K2 hK2 => ?_); clear hF1 hF2 F1 F2) | refine regW_light rfl rfl rfl (fun _ _ => rfl) (fun K2 hK2 => ?_) | refine regW_lguard rfl rfl rfl rfl (fun _ _ => rfl) (fun R S hR hS => ?_) | refine regW_heavy rfl rfl (fun K2 hK2 => ?_) | with_reducible refine log_goal ?_ | (refine hR _ (fun K2 hK2 => ?_); clear hR hS R S) | (refine hS _ ?_; clear hR hS R S) | refine good_block ?_ | refine good_skip ?_ | refine good_exit ?_ | refine good_ret ?_ | refine good_cond ?_ | refine And.intro ?_ ?_ | intro _) <;> try simp (disch := first | assumption | omega) only [go_sem, Option.map, List.isEmpty, ↓reduceIte, Nat.reduceEqDiff, Nat.reduceAdd, Nat.reduceSub, Nat.reduceMul, Nat.reduceLT, Nat.reduceLeDiff, reduceCtorEq, Nat.reduceBEq, Nat.reduceBNe, Int.reduceNeg, Int.reduceLE, Int.reduceLT, Int.reduceToNat, hxm] | ((first | (refine ACalls.mono (c_square [[x]] _) (fun v h' hv' => ?_); obtain ⟨rfl, rfl⟩ := hv'; rw [decide_eq_true hsq]) | (refine ACalls.mono (c_modulus _ _) (fun v h' hv' => ?_); obtain ⟨rfl, rfl⟩ := hv'; rw [hmb]) | (refine ACalls.mono (c_reducedV [[x]] 1 m (by omega) (by simp) (fun i hi => by have : i = 0 := (by simpa using hi); subst this; rfl) _) (fun v h' hv' => ?_); obtain ⟨rfl, rfl⟩ := hv'; rw [hrd]) | (refine ACalls.mono (c_reduced [[x % m]] 1 m (by omega) (by simp) (fun i hi => by have : i = 0 := (by simpa using hi); subst this; rfl) _) (fun v h' hv' => ?_); obtain ⟨rfl, hh⟩ := hv'; rw [show ([[x % m]] : List (List Int)).map (fun r => r.map (· % m)) = [[x % m]] from hrd2] at hh; subst hh) | (refine ACalls.mono (c_det1 (x % m) m hm hx _) (fun v h' hv' => ?_); obtain ⟨rfl, hh⟩ := hv'; subst hh) | (refine ACalls.mono (c_inverseF _ _ hm hx _) (fun v h' hv' => ?_); obtain ⟨rfl, hh⟩ := hv'; subst hh; rw [hi'])) <;> try simp (disch := first | assumption | omega) only [go_sem, Option.map, List.isEmpty, ↓reduceIte, Nat.reduceEqDiff, Nat.reduceAdd, Nat.reduceSub, Nat.reduceMul, Nat.reduceLT, Nat.reduceLeDiff, reduceCtorEq, Nat.reduceBEq, Nat.reduceBNe, Int.reduceNeg, Int.reduceLE, Int.reduceLT, Int.reduceToNat, hxm]) | omega)
    · simp only [roA, roL]; exact Up.tup2 Up.nmat (Up.refl _)
    · simp [pur, purL]
    · exact ⟨by rw [pm_n]; omega, Nat.le_refl _, fun b hb => by simp only [pmH]; rw [if_neg (by omega), if_neg (by omega)], fun _ _ => rfl⟩
end Go.Eng
open Go Go.Proofs
set_option linter.unusedVariables false
set_option linter.unusedSimpArgs false
set_option maxRecDepth 4000
set_option maxHeartbeats 4000000
namespace Go.Eng
attribute [local irreducible] Good ACalls runL regW stepW opW gdV' gdD condW gifW binW arW loadW storeW idxAW lenW appW appBW cutW onSome onBnd callW fldAW Again thenQ blockQ resW endQ Up loadR
theorem c_Kernel_err (a : List (List Int)) (p : Int) (he : echE a p ≠ 0) (h : AH) : ACalls Try.prog 19 [matV a, .int .i64 p] h (fun v h' => v = .tup [matV [], .int .i64 (echE a p)] ∧ h' = h) := by
  refine ACalls.up ?_
  refine acalls_of_good 2 95 [.tmp 4, .tmp 5] Try.func19 rfl rfl (by kernel_rfl) rfl rfl (by decide) ?_
  simp (disch := first | assumption | omega) only [go_sem, Option.map, List.isEmpty, ↓reduceIte, Nat.reduceEqDiff, Nat.reduceAdd, Nat.reduceSub, Nat.reduceMul, Nat.reduceLT, Nat.reduceLeDiff, reduceCtorEq, Nat.reduceBEq, Nat.reduceBNe, Int.reduceNeg, Int.reduceLE, Int.reduceLT, Int.reduceToNat]
  repeat' (first | (first | refine good_seq ?_ | refine good_reg false (fun K hK => ?_) | (refine runL_nil (hK _ _ ?_); clear hK K) | refine runL_none rfl (fun K2 hK2 => ?_) | refine runL_some rfl rfl (fun R S hR hS => ?_) | (refine hK2 _ _ ?_; clear hK2 K2) | (refine hK2 _ _ ?_ ?_ <;> clear hK2 K2) | (refine regW_nil (hK _ _ ?_); clear hK K) | (refine regW_load rfl rfl rfl (fun F1 F2 hF1 hF2 => ?_)) | (refine hF1 _ ?_ ?_ <;> clear hF1 hF2 F1 F2) | (refine hF2 _ _ (fun K2 hK2 => ?_); clear hF1 hF2 F1 F2) | refine regW_light rfl rfl rfl (fun _ _ => rfl) (fun K2 hK2 => ?_) | refine regW_lguard rfl rfl rfl rfl (fun _ _ => rfl) (fun R S hR hS => ?_) | refine regW_heavy rfl rfl (fun K2 hK2 => ?_) | with_reducible refine log_goal ?_ | (refine hR _ (fun K2 hK2 => ?_); clear hR hS R S) | (refine hS _ ?_; clear hR hS R S) | refine good_block ?_ | refine good_skip ?_ | refine good_exit ?_ | refine good_ret ?_ | refine good_cond ?_ | refine And.intro ?_ ?_ | intro _) <;> try simp (disch := first | assumption | omega) only [go_sem, Option.map, List.isEmpty, ↓reduceIte, Nat.reduceEqDiff, Nat.reduceAdd, Nat.reduceSub, Nat.reduceMul, Nat.reduceLT, Nat.reduceLeDiff, reduceCtorEq, Nat.reduceBEq, Nat.reduceBNe, Int.reduceNeg, Int.reduceLE, Int.reduceLT, Int.reduceToNat] | ((first | (refine ACalls.mono (c_Echelon _ _ _) (fun v h' hv' => ?_); obtain ⟨rfl, rfl⟩ := hv')) <;> try simp (disch := first | assumption | omega) only [go_sem, Option.map, List.isEmpty, ↓reduceIte, Nat.reduceEqDiff, Nat.reduceAdd, Nat.reduceSub, Nat.reduceMul, Nat.reduceLT, Nat.reduceLeDiff, reduceCtorEq, Nat.reduceBEq, Nat.reduceBNe, Int.reduceNeg, Int.reduceLE, Int.reduceLT, Int.reduceToNat]) | omega)
  exact ⟨_, Up.tup2 Up.nmat (Up.refl _), rfl⟩
theorem pv_ok {a : List (List Int)} {p : Int} (hb : echB a p) : (echR a p).length = (echP a p).length ∧ (echP a p).length ≤ a.length ∧ Wid (a.getD 0 []).length (echR a p) ∧ InR p (a.getD 0 []).length (echR a p) ∧ ∀ i, i < (echP a p).length → 0 ≤ (echP a p).getD i 0 ∧ (echP a p).getD i 0 < (a.getD 0 []).length := by
  have hpp := isP_spec hb.2
  have hv1 := hb.1.1
  have ho := echA_ok (p := p) (by omega) (redM_wid (p := p) hb.1) (redM_in (p := p) hpp.1 hb.1) (by rw [redM_length]; exact hv1)
  simp only [echR, echP, if_pos hb]
  generalize echA p (redM a p) = q at ho
  have ht := ho.tn
  have hl := ho.len
  rw [redM_length] at ht hl
  have hg : ∀ i, i < q.2.1 → (q.1.take q.2.1).getD i [] = q.1.getD i [] := fun i hi => by simp [List.getD_eq_getElem?_getD, List.getElem?_take, hi]
  refine ⟨by rw [List.length_take, ho.pl]; omega, by rw [ho.pl]; omega, fun i hi => ?_, fun i j hi hj => ?_, ho.pb⟩
  · rw [List.length_take] at hi
    rw [hg i (by omega)]; exact ho.wid i (by omega)
  · rw [List.length_take] at hi
    rw [hg i (by omega)]; exact ho.rng i j (by omega) hj
def kerM (a : List (List Int)) (p : Int) : List (List Int) := kerB (echR a p) (echP a p) (a.getD 0 []).length p (a.getD 0 []).length
def kernM (a : List (List Int)) (p : Int) : List (List Int) := if echB a p then (if kerM a p = [] then [] else (echA p (kerM a p)).1.take (echA p (kerM a p)).2.1) else []
/-- The loop up to the basis, then what follows. -/
theorem c_Kernel_ok (a : List (List Int)) (p : Int) (hb : echB a p) (h : AH) : ACalls Try.prog 19 [matV a, .int .i64 p] h (fun v h' => (kerM a p = [] ∧ v = .tup [.nils, .int .i64 0] ∧ Ext h h') ∨ (kerM a p ≠ [] ∧ ∃ H O ids A top, v = .tup [.bsl O 0 top .ro, .int .i64 0] ∧ h' = matH H O ids (a.getD 0 []).length A ∧ MatOk O ids (a.getD 0 []).length A ∧ h.n ≤ O ∧ (∀ b ∈ ids, h.n ≤ b) ∧ Ext h H ∧ top ≤ A.length ∧ (echA p (kerM a p)).1 = A ∧ (echA p (kerM a p)).2.1 = top)) := by
  have hE : echE a p = 0 := by simp [echE, hb.1, hb.2]
  obtain ⟨hrl, hpl, hrw, hrr, hpb⟩ := pv_ok hb
  have hv := hb.1
  have hpp := isP_spec hb.2
  unfold kerM
  obtain ⟨n, hn⟩ : ∃ n, n = (a.getD 0 []).length := ⟨_, rfl⟩
  obtain ⟨rows, hrows⟩ : ∃ x, x = echR a p := ⟨_, rfl⟩
  obtain ⟨piv, hpiv⟩ : ∃ x, x = echP a p := ⟨_, rfl⟩
  rw [← hrows, ← hpiv] at hrl
  rw [← hpiv] at hpl hpb
  rw [← hrows, ← hn] at hrw hrr
  rw [← hn] at hpb
  rw [← hn, ← hrows, ← hpiv]
  have ha1 := hv.1
  have ha2 := hv.2.1
  have hn1 : 1 ≤ n ∧ n ≤ 16 := by rw [hn]; exact ⟨hv.2.2.1, hv.2.2.2.1⟩
  refine acalls_of_good 2 95 [.tmp 4, .tmp 5] Try.func19 rfl rfl (by kernel_rfl) rfl rfl (by decide) ?_
  simp (disch := first | assumption | omega) only [go_sem, Option.map, List.isEmpty, ↓reduceIte, Nat.reduceEqDiff, Nat.reduceAdd, Nat.reduceSub, Nat.reduceMul, Nat.reduceLT, Nat.reduceLeDiff, reduceCtorEq, Nat.reduceBEq, Nat.reduceBNe, Int.reduceNeg, Int.reduceLE, Int.reduceLT, Int.reduceToNat]
  repeat' (first | (first | refine good_seq ?_ | refine good_reg false (fun K hK => ?_) | (refine runL_nil (hK _ _ ?_); clear hK K) | refine runL_none rfl (fun K2 hK2 => ?_) | refine runL_some rfl rfl (fun R S hR hS => ?_) | (refine hK2 _ _ ?_; clear hK2 K2) | (refine hK2 _ _ ?_ ?_ <;> clear hK2 K2) | (refine regW_nil (hK _ _ ?_); clear hK K) | (refine regW_load rfl rfl rfl (fun F1 F2 hF1 hF2 => ?_)) | (refine hF1 _ ?_ ?_ <;> clear hF1 hF2 F1 F2) | (refine hF2 _ _ (fun K2 hK2 => ?_); clear hF1 hF2 F1 F2) | refine regW_light rfl rfl rfl (fun _ _ => rfl) (fun K2 hK2 => ?_) | refine regW_lguard rfl rfl rfl rfl (fun _ _ => rfl) (fun R S hR hS => ?_) | refine regW_heavy rfl rfl (fun K2 hK2 => ?_) | with_reducible refine log_goal ?_ | (refine hR _ (fun K2 hK2 => ?_); clear hR hS R S) | (refine hS _ ?_; clear hR hS R S) | refine good_block ?_ | refine good_skip ?_ | refine good_exit ?_ | refine good_ret ?_ | refine good_cond ?_ | refine And.intro ?_ ?_ | intro _) <;> try simp (disch := first | assumption | omega) only [go_sem, Option.map, List.isEmpty, ↓reduceIte, Nat.reduceEqDiff, Nat.reduceAdd, Nat.reduceSub, Nat.reduceMul, Nat.reduceLT, Nat.reduceLeDiff, reduceCtorEq, Nat.reduceBEq, Nat.reduceBNe, Int.reduceNeg, Int.reduceLE, Int.reduceLT, Int.reduceToNat, ← hn] | ((first | (refine ACalls.mono (c_Echelon _ _ _) (fun v h' hv' => ?_); obtain ⟨rfl, hh⟩ := hv'; subst h'; rw [hE, ← hrows, ← hpiv])) <;> try simp (disch := first | assumption | omega) only [go_sem, Option.map, List.isEmpty, ↓reduceIte, Nat.reduceEqDiff, Nat.reduceAdd, Nat.reduceSub, Nat.reduceMul, Nat.reduceLT, Nat.reduceLeDiff, reduceCtorEq, Nat.reduceBEq, Nat.reduceBNe, Int.reduceNeg, Int.reduceLE, Int.reduceLT, Int.reduceToNat, ← hn]) | omega)
  refine good_loop_s (σ := Nat) (fun k => [(0, matV a), (1, .int .i64 p), (6, matV rows), (7, rowV piv), (9, .int .i64 n), (10, .bsl h.n 0 n .full), (36, rowV piv), (37, .int .i64 piv.length), (38, .int .i64 k)]) (fun k => h.mk_ ((pvB piv n k).map AV.bool)) (fun k => k ≤ piv.length) (fun k => piv.length - k) 0 ?_ rfl (Nat.zero_le _) ?_
  · simp (disch := first | assumption | omega) only [go_sem, Option.map, List.isEmpty, ↓reduceIte, Nat.reduceEqDiff, Nat.reduceAdd, Nat.reduceSub, Nat.reduceMul, Nat.reduceLT, Nat.reduceLeDiff, reduceCtorEq, Nat.reduceBEq, Nat.reduceBNe, Int.reduceNeg, Int.reduceLE, Int.reduceLT, Int.reduceToNat]; (try (refine ⟨?_, ?_⟩ <;> omega)); (try omega)
  intro k hk n0 hn0
  have hbl := pvB_length piv n k
  by_cases hkl : k < piv.length
  · have hpk := hpb k hkl
    repeat' (first | (first | refine good_seq ?_ | refine good_reg false (fun K hK => ?_) | (refine runL_nil (hK _ _ ?_); clear hK K) | refine runL_none rfl (fun K2 hK2 => ?_) | refine runL_some rfl rfl (fun R S hR hS => ?_) | (refine hK2 _ _ ?_; clear hK2 K2) | (refine hK2 _ _ ?_ ?_ <;> clear hK2 K2) | (refine regW_nil (hK _ _ ?_); clear hK K) | (refine regW_load rfl rfl rfl (fun F1 F2 hF1 hF2 => ?_)) | (refine hF1 _ ?_ ?_ <;> clear hF1 hF2 F1 F2) | (refine hF2 _ _ (fun K2 hK2 => ?_); clear hF1 hF2 F1 F2) | refine regW_light rfl rfl rfl (fun _ _ => rfl) (fun K2 hK2 => ?_) | refine regW_lguard rfl rfl rfl rfl (fun _ _ => rfl) (fun R S hR hS => ?_) | refine regW_heavy rfl rfl (fun K2 hK2 => ?_) | with_reducible refine log_goal ?_ | (refine hR _ (fun K2 hK2 => ?_); clear hR hS R S) | (refine hS _ ?_; clear hR hS R S) | refine good_block ?_ | refine good_skip ?_ | refine good_exit ?_ | refine good_ret ?_ | refine good_cond ?_ | refine And.intro ?_ ?_ | intro _) <;> try simp (disch := first | assumption | omega) only [go_sem, Option.map, List.isEmpty, ↓reduceIte, Nat.reduceEqDiff, Nat.reduceAdd, Nat.reduceSub, Nat.reduceMul, Nat.reduceLT, Nat.reduceLeDiff, reduceCtorEq, Nat.reduceBEq, Nat.reduceBNe, Int.reduceNeg, Int.reduceLE, Int.reduceLT, Int.reduceToNat] | omega)
    refine Again.to (k + 1) (by omega) (by omega) ?_ ?_
    · simp (disch := first | assumption | omega) only [go_sem, Option.map, List.isEmpty, ↓reduceIte, Nat.reduceEqDiff, Nat.reduceAdd, Nat.reduceSub, Nat.reduceMul, Nat.reduceLT, Nat.reduceLeDiff, reduceCtorEq, Nat.reduceBEq, Nat.reduceBNe, Int.reduceNeg, Int.reduceLE, Int.reduceLT, Int.reduceToNat]; (try (refine ⟨?_, ?_⟩ <;> omega)); (try omega)
    · rfl
  have hke : k = piv.length := by omega
  subst hke
  obtain ⟨PV, hPV⟩ : ∃ x, x = pvB piv n piv.length := ⟨_, rfl⟩
  obtain ⟨h1, hh1⟩ : ∃ x, x = h.mk_ ((pvB piv n piv.length).map AV.bool) := ⟨_, rfl⟩
  have hf1 : h1.f h.n = some (PV.map AV.bool) := by rw [hh1, hPV, AH.mk_f]
  have hn1' : h1.n = h.n + 1 := by rw [hh1]; rfl
  have he1 : Ext h h1 := by rw [hh1]; exact (Ext.refl h).mk_ _
  have hPl : PV.length = n := by rw [hPV]; exact hbl
  rw [← hh1]
  repeat' (first | (first | refine good_seq ?_ | refine good_reg false (fun K hK => ?_) | (refine runL_nil (hK _ _ ?_); clear hK K) | refine runL_none rfl (fun K2 hK2 => ?_) | refine runL_some rfl rfl (fun R S hR hS => ?_) | (refine hK2 _ _ ?_; clear hK2 K2) | (refine hK2 _ _ ?_ ?_ <;> clear hK2 K2) | (refine regW_nil (hK _ _ ?_); clear hK K) | (refine regW_load rfl rfl rfl (fun F1 F2 hF1 hF2 => ?_)) | (refine hF1 _ ?_ ?_ <;> clear hF1 hF2 F1 F2) | (refine hF2 _ _ (fun K2 hK2 => ?_); clear hF1 hF2 F1 F2) | refine regW_light rfl rfl rfl (fun _ _ => rfl) (fun K2 hK2 => ?_) | refine regW_lguard rfl rfl rfl rfl (fun _ _ => rfl) (fun R S hR hS => ?_) | refine regW_heavy rfl rfl (fun K2 hK2 => ?_) | with_reducible refine log_goal ?_ | (refine hR _ (fun K2 hK2 => ?_); clear hR hS R S) | (refine hS _ ?_; clear hR hS R S) | refine good_block ?_ | refine good_skip ?_ | refine good_exit ?_ | refine good_ret ?_ | refine good_cond ?_ | refine And.intro ?_ ?_ | intro _) <;> try simp (disch := first | assumption | omega) only [go_sem, Option.map, List.isEmpty, ↓reduceIte, Nat.reduceEqDiff, Nat.reduceAdd, Nat.reduceSub, Nat.reduceMul, Nat.reduceLT, Nat.reduceLeDiff, reduceCtorEq, Nat.reduceBEq, Nat.reduceBNe, Int.reduceNeg, Int.reduceLE, Int.reduceLT, Int.reduceToNat] | omega)
  refine good_loop_s (σ := AH × Nat × List Nat × Nat) (fun s => [(0, matV a), (1, .int .i64 p), (6, matV rows), (7, rowV piv), (9, .int .i64 n), (10, .bsl h.n 0 n .full), (13, basV (kerB rows piv n p s.2.2.2) s.2.1), (14, .int .i64 s.2.2.2)]) (fun s => s.1)
    (fun s => s.2.2.2 ≤ n ∧ KB n h1 s.1 s.2.1 s.2.2.1 (kerB rows piv n p s.2.2.2)) (fun s => n - s.2.2.2) (h1, 0, [], 0) ?_ rfl ⟨Nat.zero_le _, ⟨.refl _, rfl, by simp, fun b hb => by simp at hb, fun i hi => absurd hi (Nat.not_lt_zero _), fun hM => absurd rfl hM⟩⟩ ?_
  · simp (disch := first | assumption | omega) only [go_sem, Option.map, List.isEmpty, ↓reduceIte, Nat.reduceEqDiff, Nat.reduceAdd, Nat.reduceSub, Nat.reduceMul, Nat.reduceLT, Nat.reduceLeDiff, reduceCtorEq, Nat.reduceBEq, Nat.reduceBNe, Int.reduceNeg, Int.reduceLE, Int.reduceLT, Int.reduceToNat]; (try (refine ⟨?_, ?_⟩ <;> omega)); (try omega)
    exact ⟨rfl, rfl⟩
  rintro ⟨H, O, ids, c⟩ ⟨hc, hK⟩ n2 hn2
  dsimp only at hc hK hn2 ⊢
  have hfP : H.f h.n = some (PV.map AV.bool) := by rw [hK.ext.f _ (by omega)]; exact hf1
  have hHn := hK.ext.n
  have hBl := kerB_length (rows := rows) (piv := piv) (n := n) (p := p) c
  by_cases hcn : c < n
  · by_cases hpc : PV.getD c false = true
    · have hB : kerB rows piv n p (c + 1) = kerB rows piv n p c := by simp only [kerB]; rw [← hPV, if_pos hpc]
      repeat' (first | (first | refine good_seq ?_ | refine good_reg false (fun K hK => ?_) | (refine runL_nil (hK _ _ ?_); clear hK K) | refine runL_none rfl (fun K2 hK2 => ?_) | refine runL_some rfl rfl (fun R S hR hS => ?_) | (refine hK2 _ _ ?_; clear hK2 K2) | (refine hK2 _ _ ?_ ?_ <;> clear hK2 K2) | (refine regW_nil (hK _ _ ?_); clear hK K) | (refine regW_load rfl rfl rfl (fun F1 F2 hF1 hF2 => ?_)) | (refine hF1 _ ?_ ?_ <;> clear hF1 hF2 F1 F2) | (refine hF2 _ _ (fun K2 hK2 => ?_); clear hF1 hF2 F1 F2) | refine regW_light rfl rfl rfl (fun _ _ => rfl) (fun K2 hK2 => ?_) | refine regW_lguard rfl rfl rfl rfl (fun _ _ => rfl) (fun R S hR hS => ?_) | refine regW_heavy rfl rfl (fun K2 hK2 => ?_) | with_reducible refine log_goal ?_ | (refine hR _ (fun K2 hK2 => ?_); clear hR hS R S) | (refine hS _ ?_; clear hR hS R S) | refine good_block ?_ | refine good_skip ?_ | refine good_exit ?_ | refine good_ret ?_ | refine good_cond ?_ | refine And.intro ?_ ?_ | intro _) <;> try simp (disch := first | assumption | omega) only [go_sem, Option.map, List.isEmpty, ↓reduceIte, Nat.reduceEqDiff, Nat.reduceAdd, Nat.reduceSub, Nat.reduceMul, Nat.reduceLT, Nat.reduceLeDiff, reduceCtorEq, Nat.reduceBEq, Nat.reduceBNe, Int.reduceNeg, Int.reduceLE, Int.reduceLT, Int.reduceToNat, hfP, hpc] | ((first | fail) <;> try simp (disch := first | assumption | omega) only [go_sem, Option.map, List.isEmpty, ↓reduceIte, Nat.reduceEqDiff, Nat.reduceAdd, Nat.reduceSub, Nat.reduceMul, Nat.reduceLT, Nat.reduceLeDiff, reduceCtorEq, Nat.reduceBEq, Nat.reduceBNe, Int.reduceNeg, Int.reduceLE, Int.reduceLT, Int.reduceToNat, hfP, hpc]) | omega)
      refine Again.to (H, O, ids, c + 1) ⟨hcn, by rw [hB]; exact hK⟩ (by show n - (c + 1) < n2; omega) ?_ rfl
      rw [hB]
      simp (disch := first | assumption | omega) only [go_sem, Option.map, List.isEmpty, ↓reduceIte, Nat.reduceEqDiff, Nat.reduceAdd, Nat.reduceSub, Nat.reduceMul, Nat.reduceLT, Nat.reduceLeDiff, reduceCtorEq, Nat.reduceBEq, Nat.reduceBNe, Int.reduceNeg, Int.reduceLE, Int.reduceLT, Int.reduceToNat]; (try (refine ⟨?_, ?_⟩ <;> omega)); (try omega)
    · have hB : kerB rows piv n p (c + 1) = kerB rows piv n p c ++ [kerR rows piv n p c piv.length] := by simp only [kerB]; rw [← hPV, if_neg hpc]
      have hpc' : PV.getD c false = false := by simpa using hpc
      repeat' (first | (first | refine good_seq ?_ | refine good_reg false (fun K hK => ?_) | (refine runL_nil (hK _ _ ?_); clear hK K) | refine runL_none rfl (fun K2 hK2 => ?_) | refine runL_some rfl rfl (fun R S hR hS => ?_) | (refine hK2 _ _ ?_; clear hK2 K2) | (refine hK2 _ _ ?_ ?_ <;> clear hK2 K2) | (refine regW_nil (hK _ _ ?_); clear hK K) | (refine regW_load rfl rfl rfl (fun F1 F2 hF1 hF2 => ?_)) | (refine hF1 _ ?_ ?_ <;> clear hF1 hF2 F1 F2) | (refine hF2 _ _ (fun K2 hK2 => ?_); clear hF1 hF2 F1 F2) | refine regW_light rfl rfl rfl (fun _ _ => rfl) (fun K2 hK2 => ?_) | refine regW_lguard rfl rfl rfl rfl (fun _ _ => rfl) (fun R S hR hS => ?_) | refine regW_heavy rfl rfl (fun K2 hK2 => ?_) | with_reducible refine log_goal ?_ | (refine hR _ (fun K2 hK2 => ?_); clear hR hS R S) | (refine hS _ ?_; clear hR hS R S) | refine good_block ?_ | refine good_skip ?_ | refine good_exit ?_ | refine good_ret ?_ | refine good_cond ?_ | refine And.intro ?_ ?_ | intro _) <;> try simp (disch := first | assumption | omega) only [go_sem, Option.map, List.isEmpty, ↓reduceIte, Nat.reduceEqDiff, Nat.reduceAdd, Nat.reduceSub, Nat.reduceMul, Nat.reduceLT, Nat.reduceLeDiff, reduceCtorEq, Nat.reduceBEq, Nat.reduceBNe, Int.reduceNeg, Int.reduceLE, Int.reduceLT, Int.reduceToNat, hfP, hpc'] | ((first | fail) <;> try simp (disch := first | assumption | omega) only [go_sem, Option.map, List.isEmpty, ↓reduceIte, Nat.reduceEqDiff, Nat.reduceAdd, Nat.reduceSub, Nat.reduceMul, Nat.reduceLT, Nat.reduceLeDiff, reduceCtorEq, Nat.reduceBEq, Nat.reduceBNe, Int.reduceNeg, Int.reduceLE, Int.reduceLT, Int.reduceToNat, hfP, hpc']) | omega)
      refine good_loop_s (σ := Nat) (fun i => [(0, matV a), (1, .int .i64 p), (6, matV rows), (7, rowV piv), (9, .int .i64 n), (10, .bsl h.n 0 n .full), (13, basV (kerB rows piv n p c) O), (14, .int .i64 c), (15, .bsl H.n 0 n .full), (60, rowV piv), (61, .int .i64 piv.length), (62, .int .i64 i)]) (fun i => H.mk_ ((kerR rows piv n p c i).map (AV.int .i64)))
        (fun i => i ≤ piv.length) (fun i => piv.length - i) 0 ?_ rfl (Nat.zero_le _) ?_
      · simp (disch := first | assumption | omega) only [go_sem, Option.map, List.isEmpty, ↓reduceIte, Nat.reduceEqDiff, Nat.reduceAdd, Nat.reduceSub, Nat.reduceMul, Nat.reduceLT, Nat.reduceLeDiff, reduceCtorEq, Nat.reduceBEq, Nat.reduceBNe, Int.reduceNeg, Int.reduceLE, Int.reduceLT, Int.reduceToNat]; (try (refine ⟨?_, ?_⟩ <;> omega)); (try omega)
      intro i hi n3 hn3
      have hkl2 := kerR_length rows piv n p c i
      by_cases hip : i < piv.length
      · have hpk := hpb i hip
        have hrw2 := hrw i (by omega)
        have hrr2 := hrr i c (by omega) (by omega)
        repeat' (first | (first | refine good_seq ?_ | refine good_reg false (fun K hK => ?_) | (refine runL_nil (hK _ _ ?_); clear hK K) | refine runL_none rfl (fun K2 hK2 => ?_) | refine runL_some rfl rfl (fun R S hR hS => ?_) | (refine hK2 _ _ ?_; clear hK2 K2) | (refine hK2 _ _ ?_ ?_ <;> clear hK2 K2) | (refine regW_nil (hK _ _ ?_); clear hK K) | (refine regW_load rfl rfl rfl (fun F1 F2 hF1 hF2 => ?_)) | (refine hF1 _ ?_ ?_ <;> clear hF1 hF2 F1 F2) | (refine hF2 _ _ (fun K2 hK2 => ?_); clear hF1 hF2 F1 F2) | refine regW_light rfl rfl rfl (fun _ _ => rfl) (fun K2 hK2 => ?_) | refine regW_lguard rfl rfl rfl rfl (fun _ _ => rfl) (fun R S hR hS => ?_) | refine regW_heavy rfl rfl (fun K2 hK2 => ?_) | with_reducible refine log_goal ?_ | (refine hR _ (fun K2 hK2 => ?_); clear hR hS R S) | (refine hS _ ?_; clear hR hS R S) | refine good_block ?_ | refine good_skip ?_ | refine good_exit ?_ | refine good_ret ?_ | refine good_cond ?_ | refine And.intro ?_ ?_ | intro _) <;> try simp (disch := first | assumption | omega) only [go_sem, Option.map, List.isEmpty, ↓reduceIte, Nat.reduceEqDiff, Nat.reduceAdd, Nat.reduceSub, Nat.reduceMul, Nat.reduceLT, Nat.reduceLeDiff, reduceCtorEq, Nat.reduceBEq, Nat.reduceBNe, Int.reduceNeg, Int.reduceLE, Int.reduceLT, Int.reduceToNat, Int.zero_sub] | ((first | (refine ACalls.mono (c_residue _ _ (by omega) _) (fun v h' hv => ?_); obtain ⟨rfl, rfl⟩ := hv)) <;> try simp (disch := first | assumption | omega) only [go_sem, Option.map, List.isEmpty, ↓reduceIte, Nat.reduceEqDiff, Nat.reduceAdd, Nat.reduceSub, Nat.reduceMul, Nat.reduceLT, Nat.reduceLeDiff, reduceCtorEq, Nat.reduceBEq, Nat.reduceBNe, Int.reduceNeg, Int.reduceLE, Int.reduceLT, Int.reduceToNat, Int.zero_sub]) | omega)
        refine Again.to (i + 1) (by omega) (by omega) ?_ ?_
        · simp (disch := first | assumption | omega) only [go_sem, Option.map, List.isEmpty, ↓reduceIte, Nat.reduceEqDiff, Nat.reduceAdd, Nat.reduceSub, Nat.reduceMul, Nat.reduceLT, Nat.reduceLeDiff, reduceCtorEq, Nat.reduceBEq, Nat.reduceBNe, Int.reduceNeg, Int.reduceLE, Int.reduceLT, Int.reduceToNat]; (try (refine ⟨?_, ?_⟩ <;> omega)); (try omega)
        · rfl
      · have hie : i = piv.length := by omega
        subst hie
        obtain ⟨x, hx⟩ : ∃ x, x = kerR rows piv n p c piv.length := ⟨_, rfl⟩
        rw [← hx] at hB ⊢
        have hok2 : kerB rows piv n p c ≠ [] → ((H.mk_ (x.map (AV.int .i64))).mk_ [.bsl H.n 0 n .full]).f O = some (ids.map fun b => AV.bsl b 0 n .full) ∧ (ids.map fun b => AV.bsl b 0 n .full).length = (kerB rows piv n p c).length := fun hM => by
          obtain ⟨f1, f2, f3, f4⟩ := hK.fO hM
          rw [mk_ne _ _ (by rw [mk_n]; omega), mk_ne _ _ (by omega)]
          exact ⟨f1, by rw [List.length_map, hK.il]⟩
        repeat' (first | ((first | (refine good_reg (id := 23) true (fun K hK => ?_)) | (refine app_bas (cs := ids.map fun b => .bsl b 0 n .full) (y := .bsl H.n 0 n .full) hok2 (AH.mk_f _ _) elT_22 szT_46 byT_46 zrT_46 rfl rfl (by omega) (by decide) (fun H' g1 g2 g3 g4 g5 => ?_))) <;> try simp (disch := first | assumption | omega) only [go_sem, Option.map, List.isEmpty, ↓reduceIte, Nat.reduceEqDiff, Nat.reduceAdd, Nat.reduceSub, Nat.reduceMul, Nat.reduceLT, Nat.reduceLeDiff, reduceCtorEq, Nat.reduceBEq, Nat.reduceBNe, Int.reduceNeg, Int.reduceLE, Int.reduceLT, Int.reduceToNat, mk_n]) | (first | refine good_seq ?_ | refine good_reg false (fun K hK => ?_) | (refine runL_nil (hK _ _ ?_); clear hK K) | refine runL_none rfl (fun K2 hK2 => ?_) | refine runL_some rfl rfl (fun R S hR hS => ?_) | (refine hK2 _ _ ?_; clear hK2 K2) | (refine hK2 _ _ ?_ ?_ <;> clear hK2 K2) | (refine regW_nil (hK _ _ ?_); clear hK K) | (refine regW_load rfl rfl rfl (fun F1 F2 hF1 hF2 => ?_)) | (refine hF1 _ ?_ ?_ <;> clear hF1 hF2 F1 F2) | (refine hF2 _ _ (fun K2 hK2 => ?_); clear hF1 hF2 F1 F2) | refine regW_light rfl rfl rfl (fun _ _ => rfl) (fun K2 hK2 => ?_) | refine regW_lguard rfl rfl rfl rfl (fun _ _ => rfl) (fun R S hR hS => ?_) | refine regW_heavy rfl rfl (fun K2 hK2 => ?_) | with_reducible refine log_goal ?_ | (refine hR _ (fun K2 hK2 => ?_); clear hR hS R S) | (refine hS _ ?_; clear hR hS R S) | refine good_block ?_ | refine good_skip ?_ | refine good_exit ?_ | refine good_ret ?_ | refine good_cond ?_ | refine And.intro ?_ ?_ | intro _) <;> try simp (disch := first | assumption | omega) only [go_sem, Option.map, List.isEmpty, ↓reduceIte, Nat.reduceEqDiff, Nat.reduceAdd, Nat.reduceSub, Nat.reduceMul, Nat.reduceLT, Nat.reduceLeDiff, reduceCtorEq, Nat.reduceBEq, Nat.reduceBNe, Int.reduceNeg, Int.reduceLE, Int.reduceLT, Int.reduceToNat, mk_n] | omega)
        have hK2 : KB n h1 H' (H.n + 2) (ids ++ [H.n]) (kerB rows piv n p c ++ [x]) := hK.add (x := x) (by rw [g1]; simp only [mk_n]) g2 g3 g4 g5
        refine Again.to (H', H.n + 2, ids ++ [H.n], c + 1) ⟨hcn, by rw [hB]; exact hK2⟩ (by show n - (c + 1) < n2; omega) ?_ rfl
        rw [hB, basV_ne _ (by simp), List.length_append, List.length_singleton]
        simp (disch := first | assumption | omega) only [go_sem, Option.map, List.isEmpty, ↓reduceIte, Nat.reduceEqDiff, Nat.reduceAdd, Nat.reduceSub, Nat.reduceMul, Nat.reduceLT, Nat.reduceLeDiff, reduceCtorEq, Nat.reduceBEq, Nat.reduceBNe, Int.reduceNeg, Int.reduceLE, Int.reduceLT, Int.reduceToNat]; (try (refine ⟨?_, ?_⟩ <;> omega)); (try omega)
  · have hce : c = n := by omega
    subst hce
    by_cases hM : kerB rows piv c p c = []
    · have hM0 : (kerB rows piv c p c).length = 0 := by rw [hM]; rfl
      repeat' (first | (first | refine good_seq ?_ | refine good_reg false (fun K hK => ?_) | (refine runL_nil (hK _ _ ?_); clear hK K) | refine runL_none rfl (fun K2 hK2 => ?_) | refine runL_some rfl rfl (fun R S hR hS => ?_) | (refine hK2 _ _ ?_; clear hK2 K2) | (refine hK2 _ _ ?_ ?_ <;> clear hK2 K2) | (refine regW_nil (hK _ _ ?_); clear hK K) | (refine regW_load rfl rfl rfl (fun F1 F2 hF1 hF2 => ?_)) | (refine hF1 _ ?_ ?_ <;> clear hF1 hF2 F1 F2) | (refine hF2 _ _ (fun K2 hK2 => ?_); clear hF1 hF2 F1 F2) | refine regW_light rfl rfl rfl (fun _ _ => rfl) (fun K2 hK2 => ?_) | refine regW_lguard rfl rfl rfl rfl (fun _ _ => rfl) (fun R S hR hS => ?_) | refine regW_heavy rfl rfl (fun K2 hK2 => ?_) | with_reducible refine log_goal ?_ | (refine hR _ (fun K2 hK2 => ?_); clear hR hS R S) | (refine hS _ ?_; clear hR hS R S) | refine good_block ?_ | refine good_skip ?_ | refine good_exit ?_ | refine good_ret ?_ | refine good_cond ?_ | refine And.intro ?_ ?_ | intro _) <;> try simp (disch := first | assumption | omega) only [go_sem, Option.map, List.isEmpty, ↓reduceIte, Nat.reduceEqDiff, Nat.reduceAdd, Nat.reduceSub, Nat.reduceMul, Nat.reduceLT, Nat.reduceLeDiff, reduceCtorEq, Nat.reduceBEq, Nat.reduceBNe, Int.reduceNeg, Int.reduceLE, Int.reduceLT, Int.reduceToNat, hM0] | ((first | fail) <;> try simp (disch := first | assumption | omega) only [go_sem, Option.map, List.isEmpty, ↓reduceIte, Nat.reduceEqDiff, Nat.reduceAdd, Nat.reduceSub, Nat.reduceMul, Nat.reduceLT, Nat.reduceLeDiff, reduceCtorEq, Nat.reduceBEq, Nat.reduceBNe, Int.reduceNeg, Int.reduceLE, Int.reduceLT, Int.reduceToNat, hM0]) | omega)
      exact .inl ⟨hM, he1.trans hK.ext⟩
    · have hM0 : (kerB rows piv c p c).length ≠ 0 := fun hh => hM (List.eq_nil_of_length_eq_zero hh)
      have hwM := kerB_wid (rows := rows) (piv := piv) (n := c) (p := p) c
      obtain ⟨hmo, hup⟩ := hK.mat hM hwM
      obtain ⟨f1, f2, f3, f4⟩ := hK.fO hM
      rw [basV_ne O hM]
      have hce := c_echelon O ids (kerB rows piv c p c) c p (.grow 1) H (by omega) hmo f3 (fun b hb => (hK.idr b hb).2) (by omega) (by omega) (kerB_in (by omega) c)
      repeat' (first | (first | refine good_seq ?_ | refine good_reg false (fun K hK => ?_) | (refine runL_nil (hK _ _ ?_); clear hK K) | refine runL_none rfl (fun K2 hK2 => ?_) | refine runL_some rfl rfl (fun R S hR hS => ?_) | (refine hK2 _ _ ?_; clear hK2 K2) | (refine hK2 _ _ ?_ ?_ <;> clear hK2 K2) | (refine regW_nil (hK _ _ ?_); clear hK K) | (refine regW_load rfl rfl rfl (fun F1 F2 hF1 hF2 => ?_)) | (refine hF1 _ ?_ ?_ <;> clear hF1 hF2 F1 F2) | (refine hF2 _ _ (fun K2 hK2 => ?_); clear hF1 hF2 F1 F2) | refine regW_light rfl rfl rfl (fun _ _ => rfl) (fun K2 hK2 => ?_) | refine regW_lguard rfl rfl rfl rfl (fun _ _ => rfl) (fun R S hR hS => ?_) | refine regW_heavy rfl rfl (fun K2 hK2 => ?_) | with_reducible refine log_goal ?_ | (refine hR _ (fun K2 hK2 => ?_); clear hR hS R S) | (refine hS _ ?_; clear hR hS R S) | refine good_block ?_ | refine good_skip ?_ | refine good_exit ?_ | refine good_ret ?_ | refine good_cond ?_ | refine And.intro ?_ ?_ | intro _) <;> try simp (disch := first | assumption | omega) only [go_sem, Option.map, List.isEmpty, ↓reduceIte, Nat.reduceEqDiff, Nat.reduceAdd, Nat.reduceSub, Nat.reduceMul, Nat.reduceLT, Nat.reduceLeDiff, reduceCtorEq, Nat.reduceBEq, Nat.reduceBNe, Int.reduceNeg, Int.reduceLE, Int.reduceLT, Int.reduceToNat, hM0] | ((first | (refine ACalls.heap hup ?_; refine ACalls.mono hce (fun v h' hv => ?_); obtain ⟨H2, κ, ids2, A, top, pv, rfl, hh2, hh3, hh4, hh5, hh6, hh7, hh8, hh9, hh10⟩ := hv; subst hh2)) <;> try simp (disch := first | assumption | omega) only [go_sem, Option.map, List.isEmpty, ↓reduceIte, Nat.reduceEqDiff, Nat.reduceAdd, Nat.reduceSub, Nat.reduceMul, Nat.reduceLT, Nat.reduceLeDiff, reduceCtorEq, Nat.reduceBEq, Nat.reduceBNe, Int.reduceNeg, Int.reduceLE, Int.reduceLT, Int.reduceToNat, hM0]) | omega)
      have hA : echA p (kerB rows piv c p c) = (A, top, pv) := by unfold echA; rw [hwM 0 (by omega)]; exact hh3
      exact .inr ⟨hM, H2, O, ids2, A, top, rfl, rfl, hh4, by omega, fun b hb => by have := (hK.idr b (hh5 b hb)).1; omega, (he1.trans hK.ext).trans hh6, hh9, by rw [hA], by rw [hA]⟩
theorem c_Kernel (a : List (List Int)) (p : Int) (h : AH) : ACalls Try.prog 19 [matV a, .int .i64 p] h (fun v h' => v = .tup [matV (kernM a p), .int .i64 (echE a p)] ∧ h' = h) := by
  by_cases hb : echB a p
  · have hE : echE a p = 0 := by simp [echE, hb.1, hb.2]
    rw [hE]
    by_cases hk : kerM a p = []
    · rw [show kernM a p = [] by simp [kernM, hb, hk]]
      refine ACalls.still (ACalls.mono (c_Kernel_ok a p hb h) fun v h' hv => ?_)
      rcases hv with ⟨-, rfl, he⟩ | ⟨h1, -⟩
      · exact ⟨by simp only [roA, roL]; exact Up.tup2 Up.nmat (Up.refl _), by simp [pur, purL], he⟩
      · exact absurd hk h1
    · rw [show kernM a p = (echA p (kerM a p)).1.take (echA p (kerM a p)).2.1 by simp [kernM, hb, hk]]
      refine ACalls.frozenK (ACalls.mono (c_Kernel_ok a p hb h) fun v h' hv => ?_)
      rcases hv with ⟨h1, -⟩ | ⟨-, H, O, ids, A, top, h1, h2, h3, h4, h5, h6, h7, h8, h9⟩
      · exact absurd h1 hk
      · exact ⟨H, O, ids, _, A, top, h1, h2, h3, h4, h5, h6, h7, by rw [h8, h9]⟩
  · rw [show kernM a p = [] by simp [kernM, hb]]
    refine c_Kernel_err a p ?_ h
    unfold echE
    by_cases hv : ValidP a
    · have : ¬ isP p = true := fun hp => hb ⟨hv, hp⟩
      rw [if_pos hv, if_neg this]; decide
    · rw [if_neg hv]; decide
end Go.Eng
open Go Go.Proofs
set_option linter.unusedVariables false
set_option linter.unusedSimpArgs false
set_option maxRecDepth 4000
set_option maxHeartbeats 4000000
namespace Go.Eng
attribute [local irreducible] Good ACalls runL regW stepW opW gdV' gdD condW gifW binW arW loadW storeW idxAW lenW appW appBW cutW onSome onBnd callW fldAW Again thenQ blockQ resW endQ Up loadR
/-! ### the sanity check -/
theorem ret_args1 {f : FuncId} {x x' y : AV} {h : AH} {R : AV → AH → Prop} (hu : Up x x') (hc : ACalls Try.prog f [x', y] h R) : ACalls Try.prog f [x, y] h R := hc.args rfl fun i hi => by
  match i with
  | 0 => exact hu
  | 1 => exact Up.refl _
  | n + 2 => exact absurd hi (by simp)
theorem ret_args2 {f : FuncId} {x y y' : AV} {h : AH} {R : AV → AH → Prop} (hu : Up y y') (hc : ACalls Try.prog f [x, y'] h R) : ACalls Try.prog f [x, y] h R := hc.args rfl fun i hi => by
  match i with
  | 0 => exact Up.refl _
  | 1 => exact hu
  | n + 2 => exact absurd hi (by simp)
theorem aw1 : echR [[2, 4], [1, 1]] 2 = [[1, 1]] ∧ echP [[2, 4], [1, 1]] 2 = [0] ∧ echE [[2, 4], [1, 1]] 2 = 0 := by decide +kernel
theorem aw2 : kernM [[1, 1]] 3 = [[1, 2]] ∧ echE [[1, 1]] 3 = 0 := by decide +kernel
theorem aw3 : invB (2 % 9) 9 = true ∧ invF (2 % 9) 9 % 9 = 5 := by decide +kernel
theorem aw4 : invB (3 % 9) 9 = false := by decide +kernel
theorem c_awake (h : AH) : ACalls Try.prog 16 [] h (fun v h' => v = .bool true ∧ h' = h) := by
  have e1 := aw1.1
  have e2 := aw1.2.1
  have e3 := aw1.2.2
  have k1 := aw2.1
  have k2 := aw2.2
  have i1 := aw3.1
  have i2 := aw3.2
  have i3 := aw4
  refine acalls_of_good 0 73 [.tmp 0] Try.func16 rfl rfl (by kernel_rfl) rfl rfl (by decide) ?_
  simp (disch := first | assumption | omega) only [go_sem, Option.map, List.isEmpty, ↓reduceIte, Nat.reduceEqDiff, Nat.reduceAdd, Nat.reduceSub, Nat.reduceMul, Nat.reduceLT, Nat.reduceLeDiff, reduceCtorEq, Nat.reduceBEq, Nat.reduceBNe, Int.reduceNeg, Int.reduceLE, Int.reduceLT, Int.reduceToNat]
  repeat' (first | (first | refine good_seq ?_ | refine good_reg false (fun K hK => ?_) | (refine runL_nil (hK _ _ ?_); clear hK K) | refine runL_none rfl (fun K2 hK2 => ?_) | refine runL_some rfl rfl (fun R S hR hS => ?_) | (refine hK2 _ _ ?_; clear hK2 K2) | (refine hK2 _ _ ?_ ?_ <;> clear hK2 K2) | (refine regW_nil (hK _ _ ?_); clear hK K) | (refine regW_load rfl rfl rfl (fun F1 F2 hF1 hF2 => ?_)) | (refine hF1 _ ?_ ?_ <;> clear hF1 hF2 F1 F2) | (refine hF2 _ _ (fun K2 hK2 => ?_); clear hF1 hF2 F1 F2) | refine regW_light rfl rfl rfl (fun _ _ => rfl) (fun K2 hK2 => ?_) | refine regW_lguard rfl rfl rfl rfl (fun _ _ => rfl) (fun R S hR hS => ?_) | refine regW_heavy rfl rfl (fun K2 hK2 => ?_) | with_reducible refine log_goal ?_ | (refine hR _ (fun K2 hK2 => ?_); clear hR hS R S) | (refine hS _ ?_; clear hR hS R S) | refine good_block ?_ | refine good_skip ?_ | refine good_exit ?_ | refine good_ret ?_ | refine good_cond ?_ | refine And.intro ?_ ?_ | intro _) <;> try simp (disch := first | assumption | omega) only [go_sem, Option.map, List.isEmpty, ↓reduceIte, Nat.reduceEqDiff, Nat.reduceAdd, Nat.reduceSub, Nat.reduceMul, Nat.reduceLT, Nat.reduceLeDiff, reduceCtorEq, Nat.reduceBEq, Nat.reduceBNe, Int.reduceNeg, Int.reduceLE, Int.reduceLT, Int.reduceToNat] | ((first | (refine ret_args1 (Up.lit [[2, 4], [1, 1]] _ _) ?_; refine ACalls.mono (c_Echelon _ _ _) (fun v h' hv => ?_); obtain ⟨rfl, hh⟩ := hv; subst h'; rw [e1, e2, e3]) | (refine ret_args1 (Up.lit [[1, 1]] _ _) ?_; refine ACalls.mono (c_Kernel _ _ _) (fun v h' hv => ?_); obtain ⟨rfl, hh⟩ := hv; subst h'; rw [k1, k2]) | (refine ret_args1 (Up.lit [[2]] _ _) ?_; refine ACalls.mono (c_Inverse1 2 9 (by decide) _) (fun v h' hv => ?_); obtain ⟨rfl, hh⟩ := hv; subst h'; rw [if_pos i1, if_pos i1, i2]) | (refine ret_args1 (Up.lit [[3]] _ _) ?_; refine ACalls.mono (c_Inverse1 3 9 (by decide) _) (fun v h' hv => ?_); obtain ⟨rfl, hh⟩ := hv; subst h'; rw [i3]) | (refine ret_args2 (Up.lit [[1, 1]] _ _) ?_; refine ACalls.mono (c_Same _ _ (by simp) (by decide) _) (fun v h' hv => ?_); obtain ⟨rfl, hh⟩ := hv; subst h') | (refine ret_args2 (Up.lit [[1, 2]] _ _) ?_; refine ACalls.mono (c_Same _ _ (by simp) (by decide) _) (fun v h' hv => ?_); obtain ⟨rfl, hh⟩ := hv; subst h') | (refine ret_args2 (Up.lit [[5]] _ _) ?_; refine ACalls.mono (c_Same _ _ (by simp) (by decide) _) (fun v h' hv => ?_); obtain ⟨rfl, hh⟩ := hv; subst h')) <;> try simp (disch := first | assumption | omega) only [go_sem, Option.map, List.isEmpty, ↓reduceIte, Nat.reduceEqDiff, Nat.reduceAdd, Nat.reduceSub, Nat.reduceMul, Nat.reduceLT, Nat.reduceLeDiff, reduceCtorEq, Nat.reduceBEq, Nat.reduceBNe, Int.reduceNeg, Int.reduceLE, Int.reduceLT, Int.reduceToNat]) | omega)
  all_goals trace_state
end Go.Eng
open Go Go.Proofs
set_option linter.unusedVariables false
set_option linter.unusedSimpArgs false
set_option maxRecDepth 4000
set_option maxHeartbeats 4000000
namespace Go.Eng
attribute [local irreducible] Good ACalls runL regW stepW opW gdV' gdD condW gifW binW arW loadW storeW idxAW lenW appW appBW cutW onSome onBnd callW fldAW Again thenQ blockQ resW endQ Up loadR
/-! ### the law on remainders -/
theorem small_of {a : List (List Int)} (h : ¬ LargeP a) : a.length ≤ 1000000 ∧ ∀ i, i < a.length → (a.getD i []).length ≤ 1000000 := by
  refine ⟨by rcases Nat.lt_or_ge 20 a.length with hl | hl; exact absurd (.inl hl) h; omega, fun i hi => ?_⟩
  rcases Nat.lt_or_ge 20 (a.getD i []).length with hl | hl
  · exact absurd (.inr ⟨i, hi, hl⟩) h
  · omega
theorem redM_small {a : List (List Int)} {m : Int} (h : a.length ≤ 1000000 ∧ ∀ i, i < a.length → (a.getD i []).length ≤ 1000000) : (redM a m).length ≤ 1000000 ∧ ∀ i, i < (redM a m).length → ((redM a m).getD i []).length ≤ 1000000 := by
  refine ⟨by rw [redM_length]; exact h.1, fun i hi => ?_⟩
  rw [redM_length] at hi
  rw [redM_get a m i hi, List.length_map]; exact h.2 i hi
theorem nil_small : ([] : List (List Int)).length ≤ 1000000 ∧ ∀ i, i < ([] : List (List Int)).length → (([] : List (List Int)).getD i []).length ≤ 1000000 := ⟨by simp, fun i hi => absurd hi (Nat.not_lt_zero _)⟩
theorem l_Residues (a : List (List Int)) (k raw : Int) (wild : Bool) (hk : 0 ≤ k ∧ k ≤ 65535) (h : AH) : ACalls Try.prog 6 [matV a, .int .u16 k, .int .i64 raw, .bool wild] h (fun v h' => v = .bool true ∧ h' = h) := by
  refine acalls_of_good 4 44 [.tmp 8] Try.func6 rfl rfl (by kernel_rfl) rfl rfl (by decide) ?_
  simp (disch := first | assumption | omega) only [go_sem, Option.map, List.isEmpty, ↓reduceIte, Nat.reduceEqDiff, Nat.reduceAdd, Nat.reduceSub, Nat.reduceMul, Nat.reduceLT, Nat.reduceLeDiff, reduceCtorEq, Nat.reduceBEq, Nat.reduceBNe, Int.reduceNeg, Int.reduceLE, Int.reduceLT, Int.reduceToNat]
  by_cases hl : LargeP a
  · repeat' (first | (first | refine good_seq ?_ | refine good_reg false (fun K hK => ?_) | (refine runL_nil (hK _ _ ?_); clear hK K) | refine runL_none rfl (fun K2 hK2 => ?_) | refine runL_some rfl rfl (fun R S hR hS => ?_) | (refine hK2 _ _ ?_; clear hK2 K2) | (refine hK2 _ _ ?_ ?_ <;> clear hK2 K2) | (refine regW_nil (hK _ _ ?_); clear hK K) | (refine regW_load rfl rfl rfl (fun F1 F2 hF1 hF2 => ?_)) | (refine hF1 _ ?_ ?_ <;> clear hF1 hF2 F1 F2) | (refine hF2 _ _ (fun K2 hK2 => ?_); clear hF1 hF2 F1 F2) | refine regW_light rfl rfl rfl (fun _ _ => rfl) (fun K2 hK2 => ?_) | refine regW_lguard rfl rfl rfl rfl (fun _ _ => rfl) (fun R S hR hS => ?_) | refine regW_heavy rfl rfl (fun K2 hK2 => ?_) | with_reducible refine log_goal ?_ | (refine hR _ (fun K2 hK2 => ?_); clear hR hS R S) | (refine hS _ ?_; clear hR hS R S) | refine good_block ?_ | refine good_skip ?_ | refine good_exit ?_ | refine good_ret ?_ | refine good_cond ?_ | refine And.intro ?_ ?_ | intro _) <;> try simp (disch := first | assumption | omega) only [go_sem, Option.map, List.isEmpty, ↓reduceIte, Nat.reduceEqDiff, Nat.reduceAdd, Nat.reduceSub, Nat.reduceMul, Nat.reduceLT, Nat.reduceLeDiff, reduceCtorEq, Nat.reduceBEq, Nat.reduceBNe, Int.reduceNeg, Int.reduceLE, Int.reduceLT, Int.reduceToNat] | ((first | (refine ACalls.mono (c_large a _) (fun v h' hv => ?_); obtain ⟨hv1, hh⟩ := hv; subst h'; rcases hv1 with ⟨rfl, -⟩ | ⟨-, hl2⟩; rotate_left; exact absurd hl hl2) | (refine ACalls.mono (c_awake _) (fun v h' hv => ?_); obtain ⟨rfl, hh⟩ := hv; subst h')) <;> try simp (disch := first | assumption | omega) only [go_sem, Option.map, List.isEmpty, ↓reduceIte, Nat.reduceEqDiff, Nat.reduceAdd, Nat.reduceSub, Nat.reduceMul, Nat.reduceLT, Nat.reduceLeDiff, reduceCtorEq, Nat.reduceBEq, Nat.reduceBNe, Int.reduceNeg, Int.reduceLE, Int.reduceLT, Int.reduceToNat]) | omega)
  · have hs := small_of hl
    obtain ⟨m, hm⟩ : ∃ x, x = (if wild = true then raw else 2 + k) := ⟨_, rfl⟩
    have hrs : (resM a m).length ≤ 1000000 ∧ ∀ i, i < (resM a m).length → ((resM a m).getD i []).length ≤ 1000000 := by
      unfold resM; split
      · split
        · exact redM_small hs
        · exact nil_small
      · exact nil_small
    have hee : ((resE a m == resE a m) : Bool) = true := by simp
    repeat' (first | (first | refine good_seq ?_ | refine good_reg false (fun K hK => ?_) | (refine runL_nil (hK _ _ ?_); clear hK K) | refine runL_none rfl (fun K2 hK2 => ?_) | refine runL_some rfl rfl (fun R S hR hS => ?_) | (refine hK2 _ _ ?_; clear hK2 K2) | (refine hK2 _ _ ?_ ?_ <;> clear hK2 K2) | (refine regW_nil (hK _ _ ?_); clear hK K) | (refine regW_load rfl rfl rfl (fun F1 F2 hF1 hF2 => ?_)) | (refine hF1 _ ?_ ?_ <;> clear hF1 hF2 F1 F2) | (refine hF2 _ _ (fun K2 hK2 => ?_); clear hF1 hF2 F1 F2) | refine regW_light rfl rfl rfl (fun _ _ => rfl) (fun K2 hK2 => ?_) | refine regW_lguard rfl rfl rfl rfl (fun _ _ => rfl) (fun R S hR hS => ?_) | refine regW_heavy rfl rfl (fun K2 hK2 => ?_) | with_reducible refine log_goal ?_ | (refine hR _ (fun K2 hK2 => ?_); clear hR hS R S) | (refine hS _ ?_; clear hR hS R S) | refine good_block ?_ | refine good_skip ?_ | refine good_exit ?_ | refine good_ret ?_ | refine good_cond ?_ | refine And.intro ?_ ?_ | intro _) <;> try simp (disch := first | assumption | omega) only [go_sem, Option.map, List.isEmpty, ↓reduceIte, Nat.reduceEqDiff, Nat.reduceAdd, Nat.reduceSub, Nat.reduceMul, Nat.reduceLT, Nat.reduceLeDiff, reduceCtorEq, Nat.reduceBEq, Nat.reduceBNe, Int.reduceNeg, Int.reduceLE, Int.reduceLT, Int.reduceToNat, hee] | ((first | (refine ACalls.mono (c_large a _) (fun v h' hv => ?_); obtain ⟨hv1, hh⟩ := hv; subst h'; rcases hv1 with ⟨-, hl2⟩ | ⟨rfl, -⟩; exact absurd hl2 hl) | (refine ACalls.mono (c_awake _) (fun v h' hv => ?_); obtain ⟨rfl, hh⟩ := hv; subst h') | (refine ACalls.mono (c_lmodulus k raw wild hk _) (fun v h' hv => ?_); obtain ⟨rfl, hh⟩ := hv; subst h'; rw [← hm]) | (refine ACalls.mono (c_mResidues a m _) (fun v h' hv => ?_); obtain ⟨rfl, hh⟩ := hv; subst h') | (refine ACalls.mono (c_rResidues a m _) (fun v h' hv => ?_); obtain ⟨rfl, hh⟩ := hv; subst h') | (refine ACalls.mono (c_Same _ _ hrs.1 hrs.2 _) (fun v h' hv => ?_); obtain ⟨rfl, hh⟩ := hv; subst h')) <;> try simp (disch := first | assumption | omega) only [go_sem, Option.map, List.isEmpty, ↓reduceIte, Nat.reduceEqDiff, Nat.reduceAdd, Nat.reduceSub, Nat.reduceMul, Nat.reduceLT, Nat.reduceLeDiff, reduceCtorEq, Nat.reduceBEq, Nat.reduceBNe, Int.reduceNeg, Int.reduceLE, Int.reduceLT, Int.reduceToNat, hee]) | omega)
    all_goals trace_state
end Go.Eng
open Go Go.Proofs
set_option linter.unusedVariables false
set_option linter.unusedSimpArgs false
set_option maxRecDepth 4000
set_option maxHeartbeats 4000000
namespace Go.Eng
attribute [local irreducible] Good ACalls runL regW stepW opW gdV' gdD condW gifW binW arW loadW storeW idxAW lenW appW appBW cutW onSome onBnd callW fldAW Again thenQ blockQ resW endQ Up loadR
/-! ### numbers from a tape, matrices from a grid -/
theorem pm_old {h : AH} {n m : Nat} {R : List (List Int)} {b : Nat} (hb : b < h.n) : (pmH h n m R).f b = h.f b := by
  simp only [pmH]; rw [if_neg (by omega), if_neg (by omega)]
theorem pm_putb {h : AH} {n m : Nat} {R : List (List Int)} {b : Nat} (hb : b < h.n) (x : List AV) : (pmH h n m R).put b x = pmH (h.put b x) n m R := by
  refine AH.ext_ (fun c => ?_) rfl (fun _ => rfl) rfl
  show (if c = b then some x else (pmH h n m R).f c) = (pmH (h.put b x) n m R).f c
  by_cases hc : c = b
  · rw [if_pos hc, hc, pm_old (h := h.put b x) hb, AH.put_f]
  · rw [if_neg hc]
    simp only [pmH, AH.put, upd, if_neg hc]
def byteV (ns : List Int) : AV := .tree 1 (ns.map (AV.int .i8)) .ro
theorem getD_i8 (r : List Int) (i : Nat) (hi : i < r.length) : (r.map (AV.int .i8)).getD i .junk = .int .i8 (r.getD i 0) := by
  simp [List.getD_eq_getElem?_getD, hi]
def ByteOk (ns : List Int) : Prop := ∀ x ∈ ns, -128 ≤ x ∧ x ≤ 127
theorem byte_get {ns : List Int} (h : ByteOk ns) (i : Nat) : -128 ≤ ns.getD i 0 ∧ ns.getD i 0 ≤ 127 := by
  rw [List.getD_eq_getElem?_getD]
  cases hx : ns[i]? with
  | none => simp
  | some x => exact h x (List.mem_of_getElem? hx)
theorem c_Next (H : AH) (q : Nat) (ns : List Int) (k : Nat) (hns : ByteOk ns) (hq : H.f q = some [byteV ns, .int .i64 (min k ns.length : Nat)]) (hk : k ≤ 1000000) :
    ACalls Try.prog 40 [.ptr q 0] H (fun v h' => v = .int .i64 (ns.getD k 0) ∧ h' = H.put q [byteV ns, .int .i64 (min (k + 1) ns.length : Nat)]) := by
  have hb := byte_get hns k
  refine acalls_of_good 1 32 [.tmp 2] Try.func40 rfl rfl (by kernel_rfl) rfl rfl (by decide) ?_
  simp (disch := first | assumption | omega) only [go_sem, Option.map, List.isEmpty, ↓reduceIte, Nat.reduceEqDiff, Nat.reduceAdd, Nat.reduceSub, Nat.reduceMul, Nat.reduceLT, Nat.reduceLeDiff, reduceCtorEq, Nat.reduceBEq, Nat.reduceBNe, Int.reduceNeg, Int.reduceLE, Int.reduceLT, Int.reduceToNat]
  have hlen : ∀ (t : TypeId) (K : AV → Prop), lenW Try.prog t (byteV ns) K = (knT Try.prog t = some 3 ∧ K (.int .i64 (ns.length : Int))) := fun t K => by rw [byteV, len_tree, List.length_map]
  have hfit : fitsB Try.prog 23 (byteV ns) = true := by rw [byteV, fit_tree, agT_23]; rfl
  by_cases hlt : k < ns.length
  · have hm : min k ns.length = k := by omega
    have hm2 : min (k + 1) ns.length = k + 1 := by omega
    rw [hm] at hq
    rw [hm2]
    have hix : ∀ (t : TypeId) (K : AV → Prop), idxAW Try.prog t (byteV ns) (.int .i64 (k : Int)) K = (onSome (elT Try.prog t) fun e => szT Try.prog e = some 1 ∧ 0 ≤ (k : Int) ∧ (k : Int) < (ns.length : Int) ∧ K (.eptr (.int .i8 (ns.getD k 0)))) := fun t K => by
      rw [byteV, ix_tree]
      simp only [List.length_map, Int.toNat_natCast]
      rw [getD_i8 _ _ hlt]
    have hk1 : (k : Int) + 1 - 1 = (k : Int) := by omega
    have hk2 : ((k + 1 : Nat) : Int) - 1 = (k : Int) := by omega
    repeat' (first | (first | refine good_seq ?_ | refine good_reg false (fun K hK => ?_) | (refine runL_nil (hK _ _ ?_); clear hK K) | refine runL_none rfl (fun K2 hK2 => ?_) | refine runL_some rfl rfl (fun R S hR hS => ?_) | (refine hK2 _ _ ?_; clear hK2 K2) | (refine hK2 _ _ ?_ ?_ <;> clear hK2 K2) | (refine regW_nil (hK _ _ ?_); clear hK K) | (refine regW_load rfl rfl rfl (fun F1 F2 hF1 hF2 => ?_)) | (refine hF1 _ ?_ ?_ <;> clear hF1 hF2 F1 F2) | (refine hF2 _ _ (fun K2 hK2 => ?_); clear hF1 hF2 F1 F2) | refine regW_light rfl rfl rfl (fun _ _ => rfl) (fun K2 hK2 => ?_) | refine regW_lguard rfl rfl rfl rfl (fun _ _ => rfl) (fun R S hR hS => ?_) | refine regW_heavy rfl rfl (fun K2 hK2 => ?_) | with_reducible refine log_goal ?_ | (refine hR _ (fun K2 hK2 => ?_); clear hR hS R S) | (refine hS _ ?_; clear hR hS R S) | refine good_block ?_ | refine good_skip ?_ | refine good_exit ?_ | refine good_ret ?_ | refine good_cond ?_ | refine And.intro ?_ ?_ | intro _) <;> try simp (disch := first | assumption | omega) only [go_sem, Option.map, List.isEmpty, ↓reduceIte, Nat.reduceEqDiff, Nat.reduceAdd, Nat.reduceSub, Nat.reduceMul, Nat.reduceLT, Nat.reduceLeDiff, reduceCtorEq, Nat.reduceBEq, Nat.reduceBNe, Int.reduceNeg, Int.reduceLE, Int.reduceLT, Int.reduceToNat, hq, hlen, hfit, hix, hk1, hk2, List.set_cons_zero, List.set_cons_succ] | ((first | refine good_drw (id := 1) mixed false [[], [0], [0, 1], [0, 1, 2], [], [4], [4, 5], [4, 5, 6], [4, 5, 6, 7], [0, 1, 2, 3, 4, 5, 6, 7, 8]] [0, 1, 2, 3, 4, 5, 6, 7, 8, 9] (by decide +kernel) (fun K hK => ?_) | refine good_drw (id := 4) mixed false [[], [0], [0, 1], [0, 1, 2], [], [4], [4, 5], [4, 5, 6], [4, 5, 6, 7], [0, 1, 2, 3, 4, 5, 6, 7, 8], [0, 1, 2, 3, 4, 5, 6, 7, 8, 9], [0, 1, 2, 3, 4, 5, 6, 7, 8, 9, 10], [0, 1, 2, 3, 4, 5, 6, 7, 8, 9, 10, 11]] [0, 1, 2, 3, 4, 5, 6, 7, 8, 9, 10, 11, 12] (by decide +kernel) (fun K hK => ?_)) <;> try simp (disch := first | assumption | omega) only [go_sem, Option.map, List.isEmpty, ↓reduceIte, Nat.reduceEqDiff, Nat.reduceAdd, Nat.reduceSub, Nat.reduceMul, Nat.reduceLT, Nat.reduceLeDiff, reduceCtorEq, Nat.reduceBEq, Nat.reduceBNe, Int.reduceNeg, Int.reduceLE, Int.reduceLT, Int.reduceToNat, hq, hlen, hfit, hix, hk1, hk2, List.set_cons_zero, List.set_cons_succ]) | omega)
  · have hm : min k ns.length = ns.length := by omega
    have hm2 : min (k + 1) ns.length = ns.length := by omega
    rw [hm] at hq
    rw [hm2]
    have hz : ns.getD k 0 = 0 := by rw [List.getD_eq_getElem?_getD, List.getElem?_eq_none (by omega)]; rfl
    repeat' (first | (first | refine good_seq ?_ | refine good_reg false (fun K hK => ?_) | (refine runL_nil (hK _ _ ?_); clear hK K) | refine runL_none rfl (fun K2 hK2 => ?_) | refine runL_some rfl rfl (fun R S hR hS => ?_) | (refine hK2 _ _ ?_; clear hK2 K2) | (refine hK2 _ _ ?_ ?_ <;> clear hK2 K2) | (refine regW_nil (hK _ _ ?_); clear hK K) | (refine regW_load rfl rfl rfl (fun F1 F2 hF1 hF2 => ?_)) | (refine hF1 _ ?_ ?_ <;> clear hF1 hF2 F1 F2) | (refine hF2 _ _ (fun K2 hK2 => ?_); clear hF1 hF2 F1 F2) | refine regW_light rfl rfl rfl (fun _ _ => rfl) (fun K2 hK2 => ?_) | refine regW_lguard rfl rfl rfl rfl (fun _ _ => rfl) (fun R S hR hS => ?_) | refine regW_heavy rfl rfl (fun K2 hK2 => ?_) | with_reducible refine log_goal ?_ | (refine hR _ (fun K2 hK2 => ?_); clear hR hS R S) | (refine hS _ ?_; clear hR hS R S) | refine good_block ?_ | refine good_skip ?_ | refine good_exit ?_ | refine good_ret ?_ | refine good_cond ?_ | refine And.intro ?_ ?_ | intro _) <;> try simp (disch := first | assumption | omega) only [go_sem, Option.map, List.isEmpty, ↓reduceIte, Nat.reduceEqDiff, Nat.reduceAdd, Nat.reduceSub, Nat.reduceMul, Nat.reduceLT, Nat.reduceLeDiff, reduceCtorEq, Nat.reduceBEq, Nat.reduceBNe, Int.reduceNeg, Int.reduceLE, Int.reduceLT, Int.reduceToNat, hq, hlen, hfit, hz] | ((first | refine good_drw (id := 1) mixed false [[], [0], [0, 1], [0, 1, 2], [], [4], [4, 5], [4, 5, 6], [4, 5, 6, 7], [0, 1, 2, 3, 4, 5, 6, 7, 8]] [0, 1, 2, 3, 4, 5, 6, 7, 8, 9] (by decide +kernel) (fun K hK => ?_) | refine good_drw (id := 4) mixed false [[], [0], [0, 1], [0, 1, 2], [], [4], [4, 5], [4, 5, 6], [4, 5, 6, 7], [0, 1, 2, 3, 4, 5, 6, 7, 8], [0, 1, 2, 3, 4, 5, 6, 7, 8, 9], [0, 1, 2, 3, 4, 5, 6, 7, 8, 9, 10], [0, 1, 2, 3, 4, 5, 6, 7, 8, 9, 10, 11]] [0, 1, 2, 3, 4, 5, 6, 7, 8, 9, 10, 11, 12] (by decide +kernel) (fun K hK => ?_)) <;> try simp (disch := first | assumption | omega) only [go_sem, Option.map, List.isEmpty, ↓reduceIte, Nat.reduceEqDiff, Nat.reduceAdd, Nat.reduceSub, Nat.reduceMul, Nat.reduceLT, Nat.reduceLeDiff, reduceCtorEq, Nat.reduceBEq, Nat.reduceBNe, Int.reduceNeg, Int.reduceLE, Int.reduceLT, Int.reduceToNat, hq, hlen, hfit, hz]) | omega)
    exact (AH.ext_ (fun c => by
      show H.f c = if c = q then _ else H.f c
      split
      · rename_i hc; rw [hc, hq]
      · rfl) rfl (fun _ => rfl) rfl)
def gridN (x most : Int) : Nat := (1 + x % most).toNat
def gridM (rows cols : Int) (ns : List Int) (most : Int) : List (List Int) := (List.range (gridN rows most)).map fun i => (List.range (gridN cols most)).map fun j => ns.getD (i * gridN cols most + j) 0
theorem fill59 (ns : List Int) : fillA [(0, 1), (1, 1)] [AV.nils, AV.int .i64 0] [(0, byteV ns)] = some [byteV ns, .int .i64 0] := by simp [fillA, byteV, memA, cellsA, splice]
theorem c_Ints (rows cols : Int) (ns : List Int) (most : Int) (hrows : 0 ≤ rows ∧ rows ≤ 255) (hcols : 0 ≤ cols ∧ cols ≤ 255) (hns : ByteOk ns) (hmost : 1 ≤ most ∧ most ≤ 100) (h : AH) :
    ACalls Try.prog 17 [.agg [.int .u8 rows, .int .u8 cols, byteV ns], .int .i64 most] h (fun v h' => v = matV (gridM rows cols ns most) ∧ h' = h) := by
  refine ACalls.sealed1 ?_
  have hM : (gridM rows cols ns most).length = gridN rows most := by simp [gridM]
  unfold gridM at hM ⊢
  have r1 := Int.emod_nonneg rows (show most ≠ 0 by omega)
  have r2 := Int.emod_lt_of_pos rows (show 0 < most by omega)
  have c1 := Int.emod_nonneg cols (show most ≠ 0 by omega)
  have c2 := Int.emod_lt_of_pos cols (show 0 < most by omega)
  have ht1 : rows.tmod most = rows % most := tmod_nn hrows.1
  have ht2 : cols.tmod most = cols % most := tmod_nn hcols.1
  obtain ⟨R, hR⟩ : ∃ x, x = gridN rows most := ⟨_, rfl⟩
  obtain ⟨C, hC⟩ : ∃ x, x = gridN cols most := ⟨_, rfl⟩
  have hR' : 1 + rows % most = (R : Int) := by rw [hR, gridN]; omega
  have hC' : 1 + cols % most = (C : Int) := by rw [hC, gridN]; omega
  rw [← hR] at hM ⊢
  rw [← hC] at hM ⊢
  have hRb : R ≤ 100 := by omega
  have hCb : C ≤ 100 := by omega
  have hfb : ∀ t, agT Try.prog t = some false → fitsB Try.prog t (byteV ns) = true := fun t ht => by rw [byteV, fit_tree, ht]; rfl
  have hmB : memA (byteV ns) = true := rfl
  have hcB : cellsA (byteV ns) = [byteV ns] := rfl
  have hoB : oneA (byteV ns) = true := rfl
  have hf9 := fill59 ns
  obtain ⟨G, hG⟩ : ∃ x, x = [AV.int .u8 rows, AV.int .u8 cols, byteV ns] := ⟨_, rfl⟩
  have hGl : G.length = 3 := by rw [hG]; rfl
  have hG0 : G.getD 0 .junk = .int .u8 rows := by rw [hG]; rfl
  have hG1 : G.getD 1 .junk = .int .u8 cols := by rw [hG]; rfl
  have hG2 : G.getD 2 .junk = byteV ns := by rw [hG]; rfl
  rw [← hG]
  obtain ⟨T, hT⟩ : ∃ T : Nat → AH, T = fun k => (h.mk_ G).mk_ [byteV ns, .int .i64 (min k ns.length : Nat)] := ⟨_, rfl⟩
  have hTn : ∀ k, (T k).n = h.n + 1 + 1 := fun k => by rw [hT]; rfl
  have hTG : ∀ k, (T k).f h.n = some G := fun k => by rw [hT]; show ((h.mk_ G).mk_ _).f h.n = _; rw [mk_ne _ _ (by rw [mk_n]; omega), AH.mk_f]
  have hTq : ∀ k, (T k).f (h.n + 1) = some [byteV ns, .int .i64 (min k ns.length : Nat)] := fun k => by rw [hT]; exact AH.mk_f (h.mk_ G) _
  have hTp : ∀ k k', (T k).put (h.n + 1) [byteV ns, .int .i64 (min k' ns.length : Nat)] = T k' := fun k k' => by rw [hT]; exact AH.mk_put (h.mk_ G) _ _
  have hTe : ∀ k, Ext h (T k) := fun k => by rw [hT]; exact ((Ext.refl h).mk_ _).mk_ _
  have q0 : ∀ k R', (pmH (T k) R C R').n = h.n + 1 + 1 + 1 + R'.length := fun k R' => by rw [pm_n, hTn]
  have q1 : ∀ k R', (pmH (T k) R C R').f (h.n + 1 + 1) = some (pmC (h.n + 1 + 1) C R'.length R) := fun k R' => by rw [← hTn k]; exact pm_O
  have q2 : ∀ k R' x, ((pmH (T k) R C R').mk_ x).f (h.n + 1 + 1) = some (pmC (h.n + 1 + 1) C R'.length R) := fun k R' x => by rw [← hTn k]; exact pm_mk_O x
  have q3 : ∀ k R' r, (pmH (T k) R C (R' ++ [r])).f (h.n + 1 + 1 + 1 + R'.length) = some (r.map (AV.int .i64)) := fun k R' r => by rw [← hTn k]; exact pm_last r
  have q4 : ∀ k R' r r', (pmH (T k) R C (R' ++ [r])).put (h.n + 1 + 1 + 1 + R'.length) (r'.map (AV.int .i64)) = pmH (T k) R C (R' ++ [r']) := fun k R' r r' => by rw [← hTn k]; exact pm_lput r r'
  have q5 : ∀ k R', (pmH (T k) R C R').f h.n = some G := fun k R' => by rw [pm_old (by rw [hTn]; omega)]; exact hTG k
  have q6 : ∀ k R', (pmH (T k) R C R').f (h.n + 1) = some [byteV ns, .int .i64 (min k ns.length : Nat)] := fun k R' => by rw [pm_old (by rw [hTn]; omega)]; exact hTq k
  have q7 : ∀ k k' R', (pmH (T k) R C R').put (h.n + 1) [byteV ns, .int .i64 (min k' ns.length : Nat)] = pmH (T k') R C R' := fun k k' R' => by rw [pm_putb (by rw [hTn]; omega), hTp]
  have q8 : ∀ k R' r, R'.length < R → ((pmH (T k) R C R').mk_ (r.map (AV.int .i64))).put (h.n + 1 + 1) ((pmC (h.n + 1 + 1) C R'.length R).set R'.length (.bsl (h.n + 1 + 1 + 1 + R'.length) 0 C .full)) = pmH (T k) R C (R' ++ [r]) := fun k R' r hr => by rw [← hTn k]; exact pm_more hr r
  have q9 : ((h.mk_ G).mk_ [byteV ns, .int .i64 0]).mk_ (List.replicate R AV.nils) = pmH (T 0) R C [] := by
    have : (h.mk_ G).mk_ [byteV ns, .int .i64 0] = T 0 := by rw [hT]; simp
    rw [this]; exact pm_zero
  have q10 : (h.mk_ G).f h.n = some G := AH.mk_f h G
  have q11 : ∀ x, ((h.mk_ G).mk_ x).f h.n = some G := fun x => by rw [mk_ne _ _ (by rw [mk_n]; omega), AH.mk_f]
  refine acalls_of_good 2 54 [.tmp 4] Try.func17 rfl rfl (by kernel_rfl) rfl rfl (by decide) ?_
  simp (disch := first | assumption | omega) only [go_sem, Option.map, List.isEmpty, ↓reduceIte, Nat.reduceEqDiff, Nat.reduceAdd, Nat.reduceSub, Nat.reduceMul, Nat.reduceLT, Nat.reduceLeDiff, reduceCtorEq, Nat.reduceBEq, Nat.reduceBNe, Int.reduceNeg, Int.reduceLE, Int.reduceLT, Int.reduceToNat]
  repeat' (first | (first | refine good_seq ?_ | refine good_reg false (fun K hK => ?_) | (refine runL_nil (hK _ _ ?_); clear hK K) | refine runL_none rfl (fun K2 hK2 => ?_) | refine runL_some rfl rfl (fun R S hR hS => ?_) | (refine hK2 _ _ ?_; clear hK2 K2) | (refine hK2 _ _ ?_ ?_ <;> clear hK2 K2) | (refine regW_nil (hK _ _ ?_); clear hK K) | (refine regW_load rfl rfl rfl (fun F1 F2 hF1 hF2 => ?_)) | (refine hF1 _ ?_ ?_ <;> clear hF1 hF2 F1 F2) | (refine hF2 _ _ (fun K2 hK2 => ?_); clear hF1 hF2 F1 F2) | refine regW_light rfl rfl rfl (fun _ _ => rfl) (fun K2 hK2 => ?_) | refine regW_lguard rfl rfl rfl rfl (fun _ _ => rfl) (fun R S hR hS => ?_) | refine regW_heavy rfl rfl (fun K2 hK2 => ?_) | with_reducible refine log_goal ?_ | (refine hR _ (fun K2 hK2 => ?_); clear hR hS R S) | (refine hS _ ?_; clear hR hS R S) | refine good_block ?_ | refine good_skip ?_ | refine good_exit ?_ | refine good_ret ?_ | refine good_cond ?_ | refine And.intro ?_ ?_ | intro _) <;> try simp (disch := first | assumption | omega) only [go_sem, Option.map, List.isEmpty, ↓reduceIte, Nat.reduceEqDiff, Nat.reduceAdd, Nat.reduceSub, Nat.reduceMul, Nat.reduceLT, Nat.reduceLeDiff, reduceCtorEq, Nat.reduceBEq, Nat.reduceBNe, Int.reduceNeg, Int.reduceLE, Int.reduceLT, Int.reduceToNat, hGl, hG0, hG1, hG2, hmB, hcB, hoB, hf9, hR', hC', ht1, ht2, q10, q11] | ((first | refine good_drw (id := 10) mixed false [[], [], [0, 1], [0, 1, 2], [], [], [5], [0, 1, 2, 3, 4, 5, 6], [0, 1, 2, 3, 4, 5, 6, 7]] [0, 1, 2, 3, 4, 5, 6, 7, 8] (by decide +kernel) (fun K hK => ?_)) <;> try simp (disch := first | assumption | omega) only [go_sem, Option.map, List.isEmpty, ↓reduceIte, Nat.reduceEqDiff, Nat.reduceAdd, Nat.reduceSub, Nat.reduceMul, Nat.reduceLT, Nat.reduceLeDiff, reduceCtorEq, Nat.reduceBEq, Nat.reduceBNe, Int.reduceNeg, Int.reduceLE, Int.reduceLT, Int.reduceToNat, hGl, hG0, hG1, hG2, hmB, hcB, hoB, hf9, hR', hC', ht1, ht2, q10, q11]) | omega)
  refine good_loop_s (σ := List (List Int)) (fun R' => [(1, .int .i64 most), (2, .ptr h.n 0), (5, .ptr (h.n + 1) 0), (6, .bsl (h.n + 1 + 1) 0 R .full), (21, .int .i64 R), (22, .int .i64 R'.length)]) (fun R' => pmH (T (R'.length * C)) R C R')
    (fun R' => R'.length ≤ R ∧ R' = (List.range R'.length).map fun i => (List.range C).map fun j => ns.getD (i * C + j) 0) (fun R' => R - R'.length) [] ?_ ?_ ⟨Nat.zero_le _, rfl⟩ ?_
  · simp (disch := first | assumption | omega) only [go_sem, Option.map, List.isEmpty, ↓reduceIte, Nat.reduceEqDiff, Nat.reduceAdd, Nat.reduceSub, Nat.reduceMul, Nat.reduceLT, Nat.reduceLeDiff, reduceCtorEq, Nat.reduceBEq, Nat.reduceBNe, Int.reduceNeg, Int.reduceLE, Int.reduceLT, Int.reduceToNat]; (try (refine ⟨?_, ?_⟩ <;> omega)); (try omega)
  · rw [q9, List.length_nil, Nat.zero_mul]
  intro R' hI n hn
  by_cases hlt : R'.length < R
  · have hset : ∀ x, ((pmC (h.n + 1 + 1) C R'.length R).set R'.length x).getD R'.length .junk = x := fun x => by simp [List.getD_eq_getElem?_getD, pmC_length, hlt]
    repeat' (first | (first | refine good_seq ?_ | refine good_reg false (fun K hK => ?_) | (refine runL_nil (hK _ _ ?_); clear hK K) | refine runL_none rfl (fun K2 hK2 => ?_) | refine runL_some rfl rfl (fun R S hR hS => ?_) | (refine hK2 _ _ ?_; clear hK2 K2) | (refine hK2 _ _ ?_ ?_ <;> clear hK2 K2) | (refine regW_nil (hK _ _ ?_); clear hK K) | (refine regW_load rfl rfl rfl (fun F1 F2 hF1 hF2 => ?_)) | (refine hF1 _ ?_ ?_ <;> clear hF1 hF2 F1 F2) | (refine hF2 _ _ (fun K2 hK2 => ?_); clear hF1 hF2 F1 F2) | refine regW_light rfl rfl rfl (fun _ _ => rfl) (fun K2 hK2 => ?_) | refine regW_lguard rfl rfl rfl rfl (fun _ _ => rfl) (fun R S hR hS => ?_) | refine regW_heavy rfl rfl (fun K2 hK2 => ?_) | with_reducible refine log_goal ?_ | (refine hR _ (fun K2 hK2 => ?_); clear hR hS R S) | (refine hS _ ?_; clear hR hS R S) | refine good_block ?_ | refine good_skip ?_ | refine good_exit ?_ | refine good_ret ?_ | refine good_cond ?_ | refine And.intro ?_ ?_ | intro _) <;> try simp (disch := first | assumption | omega) only [go_sem, Option.map, List.isEmpty, ↓reduceIte, Nat.reduceEqDiff, Nat.reduceAdd, Nat.reduceSub, Nat.reduceMul, Nat.reduceLT, Nat.reduceLeDiff, reduceCtorEq, Nat.reduceBEq, Nat.reduceBNe, Int.reduceNeg, Int.reduceLE, Int.reduceLT, Int.reduceToNat, hGl, hG0, hG1, hG2, hC', ht2, q0, q1, q2, q5, hset] | ((first | refine good_drw (id := 10) mixed false [[], [], [0, 1], [0, 1, 2], [], [], [5], [0, 1, 2, 3, 4, 5, 6], [0, 1, 2, 3, 4, 5, 6, 7]] [0, 1, 2, 3, 4, 5, 6, 7, 8] (by decide +kernel) (fun K hK => ?_)) <;> try simp (disch := first | assumption | omega) only [go_sem, Option.map, List.isEmpty, ↓reduceIte, Nat.reduceEqDiff, Nat.reduceAdd, Nat.reduceSub, Nat.reduceMul, Nat.reduceLT, Nat.reduceLeDiff, reduceCtorEq, Nat.reduceBEq, Nat.reduceBNe, Int.reduceNeg, Int.reduceLE, Int.reduceLT, Int.reduceToNat, hGl, hG0, hG1, hG2, hC', ht2, q0, q1, q2, q5, hset]) | omega)
    refine good_loop_s (σ := Nat) (fun j => [(1, .int .i64 most), (2, .ptr h.n 0), (5, .ptr (h.n + 1) 0), (6, .bsl (h.n + 1 + 1) 0 R .full), (7, .int .i64 R'.length), (21, .int .i64 R), (22, .int .i64 R'.length), (39, .int .i64 C), (40, .int .i64 j)])
      (fun j => pmH (T (R'.length * C + j)) R C (R' ++ [fillI (fun j => ns.getD (R'.length * C + j) 0) C j])) (fun j => j ≤ C) (fun j => C - j) 0 ?_ ?_ (Nat.zero_le _) ?_
    · simp (disch := first | assumption | omega) only [go_sem, Option.map, List.isEmpty, ↓reduceIte, Nat.reduceEqDiff, Nat.reduceAdd, Nat.reduceSub, Nat.reduceMul, Nat.reduceLT, Nat.reduceLeDiff, reduceCtorEq, Nat.reduceBEq, Nat.reduceBNe, Int.reduceNeg, Int.reduceLE, Int.reduceLT, Int.reduceToNat]; (try (refine ⟨?_, ?_⟩ <;> omega)); (try omega)
    · rw [fillI_zero, Nat.add_zero]; exact (q8 _ _ _ hlt).symm
    intro j hj n' hn'
    have hfl := fillI_length (f := fun j => ns.getD (R'.length * C + j) 0) hj
    have hkb : R'.length * C + j ≤ 1000000 := by
      have := Nat.mul_le_mul (show R'.length ≤ 100 by omega) hCb
      omega
    repeat' (first | (first | refine good_seq ?_ | refine good_reg false (fun K hK => ?_) | (refine runL_nil (hK _ _ ?_); clear hK K) | refine runL_none rfl (fun K2 hK2 => ?_) | refine runL_some rfl rfl (fun R S hR hS => ?_) | (refine hK2 _ _ ?_; clear hK2 K2) | (refine hK2 _ _ ?_ ?_ <;> clear hK2 K2) | (refine regW_nil (hK _ _ ?_); clear hK K) | (refine regW_load rfl rfl rfl (fun F1 F2 hF1 hF2 => ?_)) | (refine hF1 _ ?_ ?_ <;> clear hF1 hF2 F1 F2) | (refine hF2 _ _ (fun K2 hK2 => ?_); clear hF1 hF2 F1 F2) | refine regW_light rfl rfl rfl (fun _ _ => rfl) (fun K2 hK2 => ?_) | refine regW_lguard rfl rfl rfl rfl (fun _ _ => rfl) (fun R S hR hS => ?_) | refine regW_heavy rfl rfl (fun K2 hK2 => ?_) | with_reducible refine log_goal ?_ | (refine hR _ (fun K2 hK2 => ?_); clear hR hS R S) | (refine hS _ ?_; clear hR hS R S) | refine good_block ?_ | refine good_skip ?_ | refine good_exit ?_ | refine good_ret ?_ | refine good_cond ?_ | refine And.intro ?_ ?_ | intro _) <;> try simp (disch := first | assumption | omega) only [go_sem, Option.map, List.isEmpty, ↓reduceIte, Nat.reduceEqDiff, Nat.reduceAdd, Nat.reduceSub, Nat.reduceMul, Nat.reduceLT, Nat.reduceLeDiff, reduceCtorEq, Nat.reduceBEq, Nat.reduceBNe, Int.reduceNeg, Int.reduceLE, Int.reduceLT, Int.reduceToNat, q0, q1, q3, q4, q7] | ((first | refine good_drw (id := 10) mixed false [[], [], [0, 1], [0, 1, 2], [], [], [5], [0, 1, 2, 3, 4, 5, 6], [0, 1, 2, 3, 4, 5, 6, 7]] [0, 1, 2, 3, 4, 5, 6, 7, 8] (by decide +kernel) (fun K hK => ?_) | (refine ACalls.mono (c_Next _ (h.n + 1) ns (R'.length * C + j) hns (q6 _ _) hkb) (fun v h' hv => ?_); obtain ⟨rfl, hh⟩ := hv; rw [q7] at hh; subst hh)) <;> try simp (disch := first | assumption | omega) only [go_sem, Option.map, List.isEmpty, ↓reduceIte, Nat.reduceEqDiff, Nat.reduceAdd, Nat.reduceSub, Nat.reduceMul, Nat.reduceLT, Nat.reduceLeDiff, reduceCtorEq, Nat.reduceBEq, Nat.reduceBNe, Int.reduceNeg, Int.reduceLE, Int.reduceLT, Int.reduceToNat, q0, q1, q3, q4, q7]) | omega)
    · refine Again.to (j + 1) (by omega) (by omega) ?_ ?_
      · simp (disch := first | assumption | omega) only [go_sem, Option.map, List.isEmpty, ↓reduceIte, Nat.reduceEqDiff, Nat.reduceAdd, Nat.reduceSub, Nat.reduceMul, Nat.reduceLT, Nat.reduceLeDiff, reduceCtorEq, Nat.reduceBEq, Nat.reduceBNe, Int.reduceNeg, Int.reduceLE, Int.reduceLT, Int.reduceToNat]; (try (refine ⟨?_, ?_⟩ <;> omega)); (try omega)
      · show pmH (T (R'.length * C + (j + 1))) R C _ = _
        rw [← fillI_set (f := fun j => ns.getD (R'.length * C + j) 0) (by omega)]
        rfl
    · have hjC : j = C := by omega
      refine Again.to (R' ++ [(List.range C).map fun j => ns.getD (R'.length * C + j) 0]) ⟨by simp; omega, ?_⟩ (by show R - (R' ++ [_]).length < n; rw [List.length_append, List.length_singleton]; omega) ?_ ?_
      · rw [List.length_append, List.length_singleton, range_snoc, ← hI.2]
      · simp (disch := first | assumption | omega) only [go_sem, Option.map, List.isEmpty, ↓reduceIte, Nat.reduceEqDiff, Nat.reduceAdd, Nat.reduceSub, Nat.reduceMul, Nat.reduceLT, Nat.reduceLeDiff, reduceCtorEq, Nat.reduceBEq, Nat.reduceBNe, Int.reduceNeg, Int.reduceLE, Int.reduceLT, Int.reduceToNat]; (try (refine ⟨?_, ?_⟩ <;> omega)); (try omega)
      · rw [List.length_append, List.length_singleton, hjC, fillI_full, Nat.add_mul, Nat.one_mul]
  · repeat' (first | (first | refine good_seq ?_ | refine good_reg false (fun K hK => ?_) | (refine runL_nil (hK _ _ ?_); clear hK K) | refine runL_none rfl (fun K2 hK2 => ?_) | refine runL_some rfl rfl (fun R S hR hS => ?_) | (refine hK2 _ _ ?_; clear hK2 K2) | (refine hK2 _ _ ?_ ?_ <;> clear hK2 K2) | (refine regW_nil (hK _ _ ?_); clear hK K) | (refine regW_load rfl rfl rfl (fun F1 F2 hF1 hF2 => ?_)) | (refine hF1 _ ?_ ?_ <;> clear hF1 hF2 F1 F2) | (refine hF2 _ _ (fun K2 hK2 => ?_); clear hF1 hF2 F1 F2) | refine regW_light rfl rfl rfl (fun _ _ => rfl) (fun K2 hK2 => ?_) | refine regW_lguard rfl rfl rfl rfl (fun _ _ => rfl) (fun R S hR hS => ?_) | refine regW_heavy rfl rfl (fun K2 hK2 => ?_) | with_reducible refine log_goal ?_ | (refine hR _ (fun K2 hK2 => ?_); clear hR hS R S) | (refine hS _ ?_; clear hR hS R S) | refine good_block ?_ | refine good_skip ?_ | refine good_exit ?_ | refine good_ret ?_ | refine good_cond ?_ | refine And.intro ?_ ?_ | intro _) <;> try simp (disch := first | assumption | omega) only [go_sem, Option.map, List.isEmpty, ↓reduceIte, Nat.reduceEqDiff, Nat.reduceAdd, Nat.reduceSub, Nat.reduceMul, Nat.reduceLT, Nat.reduceLeDiff, reduceCtorEq, Nat.reduceBEq, Nat.reduceBNe, Int.reduceNeg, Int.reduceLE, Int.reduceLT, Int.reduceToNat, q0] | ((first | refine good_drw (id := 10) mixed false [[], [], [0, 1], [0, 1, 2], [], [], [5], [0, 1, 2, 3, 4, 5, 6], [0, 1, 2, 3, 4, 5, 6, 7]] [0, 1, 2, 3, 4, 5, 6, 7, 8] (by decide +kernel) (fun K hK => ?_)) <;> try simp (disch := first | assumption | omega) only [go_sem, Option.map, List.isEmpty, ↓reduceIte, Nat.reduceEqDiff, Nat.reduceAdd, Nat.reduceSub, Nat.reduceMul, Nat.reduceLT, Nat.reduceLeDiff, reduceCtorEq, Nat.reduceBEq, Nat.reduceBNe, Int.reduceNeg, Int.reduceLE, Int.reduceLT, Int.reduceToNat, q0]) | omega)
    have hRe : R'.length = R := by omega
    have h2 := hI.2
    rw [hRe] at h2
    refine ⟨T (R'.length * C), C, by rw [hTn, List.length_range], ?_, fun r hr => ?_, hTe _⟩
    · rw [← h2, List.length_range, hRe]
    · obtain ⟨i, -, rfl⟩ := List.mem_map.1 hr
      simp
end Go.Eng
open Go Go.Proofs
set_option linter.unusedVariables false
set_option linter.unusedSimpArgs false
set_option maxRecDepth 4000
set_option maxHeartbeats 4000000
namespace Go.Eng
attribute [local irreducible] Good ACalls runL regW stepW opW gdV' gdD condW gifW binW arW loadW storeW idxAW lenW appW appBW cutW onSome onBnd callW fldAW Again thenQ blockQ resW endQ Up loadR
/-! ### the law on products -/
def Small (a : List (List Int)) : Prop := a.length ≤ 1000000 ∧ ∀ i, i < a.length → (a.getD i []).length ≤ 1000000
theorem prod_small {a b : List (List Int)} {m : Int} (h1 : a.length ≤ 1000000) (h2 : (b.getD 0 []).length ≤ 1000000) : Small (prodM a b m) := by
  refine ⟨by rw [prodM_length]; exact h1, fun i hi => ?_⟩
  have hm : (prodM a b m).getD i [] ∈ prodM a b m := mem_getD hi
  rw [prodM_rows rfl _ hm]; exact h2
theorem mul_small (a b : List (List Int)) (m : Int) : Small (mulM a b m) := by
  unfold mulM
  split
  · rename_i hp
    split
    · refine prod_small (by rw [redM_length]; have := hp.1.2.1; omega) ?_
      have hb := hp.2.1
      have h1 := hb.1
      rw [redM_get b m 0 (by omega), List.length_map]
      have := hb.2.2.2.1; omega
    · exact nil_small
  · exact nil_small
theorem gridN_bd {x most : Int} (h : 1 ≤ most ∧ most ≤ 100) (hx : 0 ≤ x) : 1 ≤ gridN x most ∧ (gridN x most : Int) ≤ most := by
  have r1 := Int.emod_nonneg x (show most ≠ 0 by omega)
  have r2 := Int.emod_lt_of_pos x (show 0 < most by omega)
  unfold gridN; omega
theorem gridM_length (rows cols : Int) (ns : List Int) (most : Int) : (gridM rows cols ns most).length = gridN rows most := by simp [gridM]
theorem gridM_row {rows cols : Int} {ns : List Int} {most : Int} {i : Nat} (hi : i < gridN rows most) : ((gridM rows cols ns most).getD i []).length = gridN cols most := by
  rw [gridM, map_range_getL _ hi]; simp
theorem wrap_u8 {n : Int} (h : 0 ≤ n ∧ n ≤ 255) : IntKind.u8.wrap n = n := by
  have : IntKind.u8.wrap n = n % 256 := by simp [IntKind.wrap, IntKind.signed, IntKind.bits]
  rw [this]; omega
structure GridOk (rows cols : Int) (ns : List Int) : Prop where
  r : 0 ≤ rows ∧ rows ≤ 255
  c : 0 ≤ cols ∧ cols ≤ 255
  n : ByteOk ns
def gridV (rows cols : Int) (ns : List Int) : AV := .agg [.int .u8 rows, .int .u8 cols, byteV ns]
theorem mk2_f0 (h : AH) (x y : List AV) : ((h.mk_ x).mk_ y).f h.n = some x := by rw [mk_ne _ _ (by rw [mk_n]; omega), AH.mk_f]
theorem mk2_f1 (h : AH) (x y : List AV) : ((h.mk_ x).mk_ y).f (h.n + 1) = some y := AH.mk_f (h.mk_ x) y
theorem mk2_put1 (h : AH) (x y z : List AV) : ((h.mk_ x).mk_ y).put (h.n + 1) z = (h.mk_ x).mk_ z := AH.mk_put (h.mk_ x) y z
theorem l_Mul (a b : List (List Int)) (xr xc : Int) (xn : List Int) (yr yc : Int) (yn : List Int) (k raw : Int) (wild made : Bool) (hx : GridOk xr xc xn) (hy : GridOk yr yc yn) (hk : 0 ≤ k ∧ k ≤ 65535) (h : AH) :
    ACalls Try.prog 8 [matV a, matV b, gridV xr xc xn, gridV yr yc yn, .int .u16 k, .int .i64 raw, .bool wild, .bool made] h (fun v h' => v = .bool true ∧ True) := by
  have hmB : ∀ ns, memA (byteV ns) = true := fun ns => rfl
  have hcB : ∀ ns, cellsA (byteV ns) = [byteV ns] := fun ns => rfl
  have hoB : ∀ ns, oneA (byteV ns) = true := fun ns => rfl
  have hd : ∀ p q r : AV, ([p, q, r].drop 0).take 3 = [p, q, r] := fun p q r => rfl
  have hee : ∀ x : Int, ((x == x) : Bool) = true := fun x => by simp
  obtain ⟨m, hm⟩ : ∃ x, x = (if wild = true then raw else 2 + k) := ⟨_, rfl⟩
  unfold gridV
  refine acalls_of_good 8 70 [.tmp 16] Try.func8 rfl rfl (by kernel_rfl) rfl rfl (by decide) ?_
  simp (disch := first | assumption | omega) only [go_sem, Option.map, List.isEmpty, ↓reduceIte, Nat.reduceEqDiff, Nat.reduceAdd, Nat.reduceSub, Nat.reduceMul, Nat.reduceLT, Nat.reduceLeDiff, reduceCtorEq, Nat.reduceBEq, Nat.reduceBNe, Int.reduceNeg, Int.reduceLE, Int.reduceLT, Int.reduceToNat]
  by_cases hla : LargeP a
  · repeat' (first | (first | refine good_seq ?_ | refine good_reg false (fun K hK => ?_) | (refine runL_nil (hK _ _ ?_); clear hK K) | refine runL_none rfl (fun K2 hK2 => ?_) | refine runL_some rfl rfl (fun R S hR hS => ?_) | (refine hK2 _ _ ?_; clear hK2 K2) | (refine hK2 _ _ ?_ ?_ <;> clear hK2 K2) | (refine regW_nil (hK _ _ ?_); clear hK K) | (refine regW_load rfl rfl rfl (fun F1 F2 hF1 hF2 => ?_)) | (refine hF1 _ ?_ ?_ <;> clear hF1 hF2 F1 F2) | (refine hF2 _ _ (fun K2 hK2 => ?_); clear hF1 hF2 F1 F2) | refine regW_light rfl rfl rfl (fun _ _ => rfl) (fun K2 hK2 => ?_) | refine regW_lguard rfl rfl rfl rfl (fun _ _ => rfl) (fun R S hR hS => ?_) | refine regW_heavy rfl rfl (fun K2 hK2 => ?_) | with_reducible refine log_goal ?_ | (refine hR _ (fun K2 hK2 => ?_); clear hR hS R S) | (refine hS _ ?_; clear hR hS R S) | refine good_block ?_ | refine good_skip ?_ | refine good_exit ?_ | refine good_ret ?_ | refine good_cond ?_ | refine And.intro ?_ ?_ | intro _) <;> try simp (disch := first | assumption | omega) only [go_sem, Option.map, List.isEmpty, ↓reduceIte, Nat.reduceEqDiff, Nat.reduceAdd, Nat.reduceSub, Nat.reduceMul, Nat.reduceLT, Nat.reduceLeDiff, reduceCtorEq, Nat.reduceBEq, Nat.reduceBNe, Int.reduceNeg, Int.reduceLE, Int.reduceLT, Int.reduceToNat, hmB, hcB, hoB, hd, hee] | ((first | (refine ACalls.mono (c_large a _) (fun v h' hv => ?_); obtain ⟨hv1, hh⟩ := hv; subst h'; rcases hv1 with ⟨rfl, -⟩ | ⟨-, hl2⟩; rotate_left; exact absurd hla hl2) | (refine ACalls.mono (c_awake _) (fun v h' hv => ?_); obtain ⟨rfl, hh⟩ := hv; subst h')) <;> try simp (disch := first | assumption | omega) only [go_sem, Option.map, List.isEmpty, ↓reduceIte, Nat.reduceEqDiff, Nat.reduceAdd, Nat.reduceSub, Nat.reduceMul, Nat.reduceLT, Nat.reduceLeDiff, reduceCtorEq, Nat.reduceBEq, Nat.reduceBNe, Int.reduceNeg, Int.reduceLE, Int.reduceLT, Int.reduceToNat, hmB, hcB, hoB, hd, hee]) | omega)
  by_cases hlb : LargeP b
  · repeat' (first | (first | refine good_seq ?_ | refine good_reg false (fun K hK => ?_) | (refine runL_nil (hK _ _ ?_); clear hK K) | refine runL_none rfl (fun K2 hK2 => ?_) | refine runL_some rfl rfl (fun R S hR hS => ?_) | (refine hK2 _ _ ?_; clear hK2 K2) | (refine hK2 _ _ ?_ ?_ <;> clear hK2 K2) | (refine regW_nil (hK _ _ ?_); clear hK K) | (refine regW_load rfl rfl rfl (fun F1 F2 hF1 hF2 => ?_)) | (refine hF1 _ ?_ ?_ <;> clear hF1 hF2 F1 F2) | (refine hF2 _ _ (fun K2 hK2 => ?_); clear hF1 hF2 F1 F2) | refine regW_light rfl rfl rfl (fun _ _ => rfl) (fun K2 hK2 => ?_) | refine regW_lguard rfl rfl rfl rfl (fun _ _ => rfl) (fun R S hR hS => ?_) | refine regW_heavy rfl rfl (fun K2 hK2 => ?_) | with_reducible refine log_goal ?_ | (refine hR _ (fun K2 hK2 => ?_); clear hR hS R S) | (refine hS _ ?_; clear hR hS R S) | refine good_block ?_ | refine good_skip ?_ | refine good_exit ?_ | refine good_ret ?_ | refine good_cond ?_ | refine And.intro ?_ ?_ | intro _) <;> try simp (disch := first | assumption | omega) only [go_sem, Option.map, List.isEmpty, ↓reduceIte, Nat.reduceEqDiff, Nat.reduceAdd, Nat.reduceSub, Nat.reduceMul, Nat.reduceLT, Nat.reduceLeDiff, reduceCtorEq, Nat.reduceBEq, Nat.reduceBNe, Int.reduceNeg, Int.reduceLE, Int.reduceLT, Int.reduceToNat, hmB, hcB, hoB, hd, hee] | ((first | (refine ACalls.mono (c_large a _) (fun v h' hv => ?_); obtain ⟨hv1, hh⟩ := hv; subst h'; rcases hv1 with ⟨-, hl2⟩ | ⟨rfl, -⟩; exact absurd hl2 hla) | (refine ACalls.mono (c_large b _) (fun v h' hv => ?_); obtain ⟨hv1, hh⟩ := hv; subst h'; rcases hv1 with ⟨rfl, -⟩ | ⟨-, hl2⟩; rotate_left; exact absurd hlb hl2) | (refine ACalls.mono (c_awake _) (fun v h' hv => ?_); obtain ⟨rfl, hh⟩ := hv; subst h')) <;> try simp (disch := first | assumption | omega) only [go_sem, Option.map, List.isEmpty, ↓reduceIte, Nat.reduceEqDiff, Nat.reduceAdd, Nat.reduceSub, Nat.reduceMul, Nat.reduceLT, Nat.reduceLeDiff, reduceCtorEq, Nat.reduceBEq, Nat.reduceBNe, Int.reduceNeg, Int.reduceLE, Int.reduceLT, Int.reduceToNat, hmB, hcB, hoB, hd, hee]) | omega)
  cases made with
  | false =>
    repeat' (first | (first | refine good_seq ?_ | refine good_reg false (fun K hK => ?_) | (refine runL_nil (hK _ _ ?_); clear hK K) | refine runL_none rfl (fun K2 hK2 => ?_) | refine runL_some rfl rfl (fun R S hR hS => ?_) | (refine hK2 _ _ ?_; clear hK2 K2) | (refine hK2 _ _ ?_ ?_ <;> clear hK2 K2) | (refine regW_nil (hK _ _ ?_); clear hK K) | (refine regW_load rfl rfl rfl (fun F1 F2 hF1 hF2 => ?_)) | (refine hF1 _ ?_ ?_ <;> clear hF1 hF2 F1 F2) | (refine hF2 _ _ (fun K2 hK2 => ?_); clear hF1 hF2 F1 F2) | refine regW_light rfl rfl rfl (fun _ _ => rfl) (fun K2 hK2 => ?_) | refine regW_lguard rfl rfl rfl rfl (fun _ _ => rfl) (fun R S hR hS => ?_) | refine regW_heavy rfl rfl (fun K2 hK2 => ?_) | with_reducible refine log_goal ?_ | (refine hR _ (fun K2 hK2 => ?_); clear hR hS R S) | (refine hS _ ?_; clear hR hS R S) | refine good_block ?_ | refine good_skip ?_ | refine good_exit ?_ | refine good_ret ?_ | refine good_cond ?_ | refine And.intro ?_ ?_ | intro _) <;> try simp (disch := first | assumption | omega) only [go_sem, Option.map, List.isEmpty, ↓reduceIte, Nat.reduceEqDiff, Nat.reduceAdd, Nat.reduceSub, Nat.reduceMul, Nat.reduceLT, Nat.reduceLeDiff, reduceCtorEq, Nat.reduceBEq, Nat.reduceBNe, Int.reduceNeg, Int.reduceLE, Int.reduceLT, Int.reduceToNat, hmB, hcB, hoB, hd, hee] | ((first | (refine ACalls.mono (c_large a _) (fun v h' hv => ?_); obtain ⟨hv1, hh⟩ := hv; subst h'; rcases hv1 with ⟨-, hl2⟩ | ⟨rfl, -⟩; exact absurd hl2 hla) | (refine ACalls.mono (c_large b _) (fun v h' hv => ?_); obtain ⟨hv1, hh⟩ := hv; subst h'; rcases hv1 with ⟨-, hl2⟩ | ⟨rfl, -⟩; exact absurd hl2 hlb) | (refine ACalls.mono (c_awake _) (fun v h' hv => ?_); obtain ⟨rfl, hh⟩ := hv; subst h') | (refine ACalls.mono (c_lmodulus k raw wild hk _) (fun v h' hv => ?_); obtain ⟨rfl, hh⟩ := hv; subst h'; rw [← hm]) | (refine ACalls.mono (c_mMul _ _ m _) (fun v h' hv => ?_); obtain ⟨rfl, hh⟩ := hv; subst h') | (refine ACalls.mono (c_rMul _ _ m _) (fun v h' hv => ?_); obtain ⟨rfl, hh⟩ := hv; subst h') | (refine ACalls.mono (c_Same _ _ (mul_small _ _ m).1 (mul_small _ _ m).2 _) (fun v h' hv => ?_); obtain ⟨rfl, hh⟩ := hv; subst h')) <;> try simp (disch := first | assumption | omega) only [go_sem, Option.map, List.isEmpty, ↓reduceIte, Nat.reduceEqDiff, Nat.reduceAdd, Nat.reduceSub, Nat.reduceMul, Nat.reduceLT, Nat.reduceLeDiff, reduceCtorEq, Nat.reduceBEq, Nat.reduceBNe, Int.reduceNeg, Int.reduceLE, Int.reduceLT, Int.reduceToNat, hmB, hcB, hoB, hd, hee]) | omega)
    all_goals trace_state
  | true =>
    have g1 := gridN_bd (x := xr) (most := 5) (by omega) hx.r.1
    have g2 := gridN_bd (x := xc) (most := 5) (by omega) hx.c.1
    obtain ⟨A, hA⟩ : ∃ x, x = gridM xr xc xn 5 := ⟨_, rfl⟩
    have hAl : 1 ≤ A.length := by rw [hA, gridM_length]; exact g1.1
    have hA0 : (A.getD 0 []).length = gridN xc 5 := by rw [hA]; exact gridM_row (by omega)
    have hw : IntKind.u8.wrap (((A.getD 0 []).length : Int) - 1) = (gridN xc 5 : Int) - 1 := by rw [wrap_u8 (by omega), hA0]
    repeat' (first | (first | refine good_seq ?_ | refine good_reg false (fun K hK => ?_) | (refine runL_nil (hK _ _ ?_); clear hK K) | refine runL_none rfl (fun K2 hK2 => ?_) | refine runL_some rfl rfl (fun R S hR hS => ?_) | (refine hK2 _ _ ?_; clear hK2 K2) | (refine hK2 _ _ ?_ ?_ <;> clear hK2 K2) | (refine regW_nil (hK _ _ ?_); clear hK K) | (refine regW_load rfl rfl rfl (fun F1 F2 hF1 hF2 => ?_)) | (refine hF1 _ ?_ ?_ <;> clear hF1 hF2 F1 F2) | (refine hF2 _ _ (fun K2 hK2 => ?_); clear hF1 hF2 F1 F2) | refine regW_light rfl rfl rfl (fun _ _ => rfl) (fun K2 hK2 => ?_) | refine regW_lguard rfl rfl rfl rfl (fun _ _ => rfl) (fun R S hR hS => ?_) | refine regW_heavy rfl rfl (fun K2 hK2 => ?_) | with_reducible refine log_goal ?_ | (refine hR _ (fun K2 hK2 => ?_); clear hR hS R S) | (refine hS _ ?_; clear hR hS R S) | refine good_block ?_ | refine good_skip ?_ | refine good_exit ?_ | refine good_ret ?_ | refine good_cond ?_ | refine And.intro ?_ ?_ | intro _) <;> try simp (disch := first | assumption | omega) only [go_sem, Option.map, List.isEmpty, ↓reduceIte, Nat.reduceEqDiff, Nat.reduceAdd, Nat.reduceSub, Nat.reduceMul, Nat.reduceLT, Nat.reduceLeDiff, reduceCtorEq, Nat.reduceBEq, Nat.reduceBNe, Int.reduceNeg, Int.reduceLE, Int.reduceLT, Int.reduceToNat, hmB, hcB, hoB, hd, hee, hw, List.set_cons_zero, mk2_f0, mk2_f1, mk2_put1] | ((first | (refine ACalls.mono (c_large a _) (fun v h' hv => ?_); obtain ⟨hv1, hh⟩ := hv; subst h'; rcases hv1 with ⟨-, hl2⟩ | ⟨rfl, -⟩; exact absurd hl2 hla) | (refine ACalls.mono (c_large b _) (fun v h' hv => ?_); obtain ⟨hv1, hh⟩ := hv; subst h'; rcases hv1 with ⟨-, hl2⟩ | ⟨rfl, -⟩; exact absurd hl2 hlb) | (refine ACalls.mono (c_awake _) (fun v h' hv => ?_); obtain ⟨rfl, hh⟩ := hv; subst h') | (refine ACalls.mono (c_lmodulus k raw wild hk _) (fun v h' hv => ?_); obtain ⟨rfl, hh⟩ := hv; subst h'; rw [← hm]) | (refine ACalls.mono (c_mMul _ _ m _) (fun v h' hv => ?_); obtain ⟨rfl, hh⟩ := hv; subst h') | (refine ACalls.mono (c_rMul _ _ m _) (fun v h' hv => ?_); obtain ⟨rfl, hh⟩ := hv; subst h') | (refine ACalls.mono (c_Same _ _ (mul_small _ _ m).1 (mul_small _ _ m).2 _) (fun v h' hv => ?_); obtain ⟨rfl, hh⟩ := hv; subst h') | (refine ACalls.mono (c_Ints xr xc xn 5 hx.r hx.c hx.n (by omega) _) (fun v h' hv => ?_); obtain ⟨rfl, hh⟩ := hv; subst h'; rw [← hA]) | (refine ACalls.mono (c_Ints _ yc yn 8 (by omega) hy.c hy.n (by omega) _) (fun v h' hv => ?_); obtain ⟨rfl, hh⟩ := hv; subst h')) <;> try simp (disch := first | assumption | omega) only [go_sem, Option.map, List.isEmpty, ↓reduceIte, Nat.reduceEqDiff, Nat.reduceAdd, Nat.reduceSub, Nat.reduceMul, Nat.reduceLT, Nat.reduceLeDiff, reduceCtorEq, Nat.reduceBEq, Nat.reduceBNe, Int.reduceNeg, Int.reduceLE, Int.reduceLT, Int.reduceToNat, hmB, hcB, hoB, hd, hee, hw, List.set_cons_zero, mk2_f0, mk2_f1, mk2_put1]) | omega)
    all_goals trace_state
end Go.Eng
/- A grid that came in, as an abstract value. -/
set_option linter.unusedVariables false
set_option linter.unusedSimpArgs false
set_option maxRecDepth 100000
namespace Go.Eng
open Go Go.Deep Go.Proofs Go.Proofs.Ytgfhddockofdnaa Go.ChangeShapes Go.WideShapes
open Go.RowKit (Below)
theorem wf_i8 {ns : List Int} (h : ∀ n ∈ ns, (Lit.int .i8 n).wf = true) : ByteOk ns := fun n hn => by
  have := h n hn
  simp only [Lit.wf, Bool.and_eq_true, decide_eq_true_eq] at this
  exact ⟨this.1, this.2⟩
theorem pv_bytes {W : World} {H : Type} {enc : TypeId × Value → H} {sp : Nat → Bool} {held : Bool} {base : Nat} {v : Value} {d : DataW H} {p : List MemPlace} (hv : Value.okWide Try.prog W .any base 23 v) (h : DataW.Trod enc Try.prog W 0 sp held 23 v d p) :
    ∃ ns, ByteOk ns ∧ PV (protW W) (byteV ns) v := by
  obtain ⟨a, len, cap, rfl⟩ := okWide_slice Try.underlying23 hv
  obtain ⟨fuel, hf⟩ := h
  obtain ⟨ns, h1, h2⟩ := pv_ints Try.underlying23 Try.underlying84 (by kernel_rfl) hf
  exact ⟨ns, wf_i8 h2, h1⟩
theorem pv_grid {W : World} {H : Type} {enc : TypeId × Value → H} {sp : Nat → Bool} {held : Bool} {base : Nat} {v : Value} {d : DataW H} {p : List MemPlace} (hv : Value.okWide Try.prog W .any base 25 v) (h : DataW.Trod enc Try.prog W 0 sp held 25 v d p) :
    ∃ r c ns, GridOk r c ns ∧ PV (protW W) (gridV r c ns) v := by
  obtain ⟨cs, rfl, hsz⟩ := okWide_struct Try.underlying25 hv
  have h25 : Try.prog.cellsOf 25 = 3 := by kernel_rfl
  have h5 : Try.prog.cellsOf 5 = 1 := by kernel_rfl
  have h23 : Try.prog.cellsOf 23 = 1 := by kernel_rfl
  obtain ⟨fuel, hf⟩ := h
  obtain ⟨y0, y1, y2, n, -, -, f0, f1, f2⟩ := trod_struct3 Try.underlying25 hf
  rw [h25] at hsz
  obtain ⟨l⟩ := cs
  simp only [List.size_toArray] at hsz
  match l, hsz with
  | [c0, c1, c2], _ =>
    simp only [h5, h23] at f0 f1 f2
    obtain ⟨r, g0, -, w0⟩ := DataW.trod_int Try.underlying5 f0
    obtain ⟨c, g1, -, w1⟩ := DataW.trod_int Try.underlying5 f1
    obtain ⟨ns, g2, w2⟩ := pv_ints (v := c2) Try.underlying23 Try.underlying84 (by kernel_rfl) f2
    have e0 : c0 = .int .u8 r := by simpa [Value.cells] using g0
    have e1 : c1 = .int .u8 c := by simpa [Value.cells] using g1
    subst e0; subst e1
    simp only [Lit.wf, Bool.and_eq_true, decide_eq_true_eq] at w0 w1
    refine ⟨r, c, ns, ⟨⟨w0.1, w0.2⟩, ⟨w1.1, w1.2⟩, wf_i8 w2⟩, .agg _ _ rfl (fun i hi => ?_) (fun i hi => ?_)⟩
    · match i with
      | 0 => exact .int _ _
      | 1 => exact .int _ _
      | 2 => exact g2
      | k + 3 => exact absurd hi (by simp)
    · match i with
      | 0 => rfl
      | 1 => rfl
      | 2 =>
        rcases open_ints Try.underlying23 Try.underlying84 (by kernel_rfl) f2 with ⟨h2, -⟩ | ⟨a2, l2, k2, z2, h2, -⟩ <;> (cases h2; rfl)
      | k + 3 => exact absurd hi (by simp)
end Go.Eng
