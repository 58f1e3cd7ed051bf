import Derived.Test.YtgfhddockofdnaaE21
import Derived.Test.YtgfhddockofdnaaW12
open Go Go.Proofs
set_option linter.unusedVariables false
set_option linter.unusedSimpArgs false
set_option maxRecDepth 4000
set_option maxHeartbeats 4000000
namespace Go.Eng
attribute [local irreducible] Good ACalls runL regW stepW opW gdV' gdD condW gifW binW arW loadW storeW idxAW lenW appW appBW cutW onSome onBnd callW fldAW Again thenQ blockQ resW endQ Up loadR
/-! ### Echelon -/
def echB (a : List (List Int)) (p : Int) : Prop := ValidP a ∧ isP p = true
instance (a : List (List Int)) (p : Int) : Decidable (echB a p) := by unfold echB; infer_instance
def echR (a : List (List Int)) (p : Int) : List (List Int) := if echB a p then (echA p (redM a p)).1.take (echA p (redM a p)).2.1 else []
def echP (a : List (List Int)) (p : Int) : List Int := if echB a p then (echA p (redM a p)).2.2 else []
def echE (a : List (List Int)) (p : Int) : Int := if ValidP a then (if isP p = true then 0 else 20) else 3
theorem redM_in {a : List (List Int)} {p : Int} (hp : 2 ≤ p) (hv : ValidP a) : InR p (a.getD 0 []).length (redM a p) := fun i j hi hj => by
  rw [redM_length] at hi
  rw [redM_ent a p i j hi (by rw [hv.2.2.2.2 i hi]; exact hj)]
  exact ⟨Int.emod_nonneg _ (by omega), Int.emod_lt_of_pos _ (by omega)⟩
theorem redM_wid {a : List (List Int)} {p : Int} (hv : ValidP a) : Wid (a.getD 0 []).length (redM a p) := fun i hi => by
  rw [redM_length] at hi
  rw [redM_get a p i hi, List.length_map]; exact hv.2.2.2.2 i hi
theorem wid_mem {m : Nat} {A : List (List Int)} (h : Wid m A) : ∀ r ∈ A, r.length = m := fun r hr => by
  obtain ⟨j, hj, rfl⟩ := List.mem_iff_getElem.1 hr
  have := h j hj
  simpa [List.getD_eq_getElem?_getD, hj] using this
theorem wid0 {m : Nat} {A : List (List Int)} (h : Wid m A) (h0 : 0 < A.length) : (A.getD 0 []).length = m := h 0 h0
/-- echelon on a matrix just made. -/
theorem c_echelonP (A0 : List (List Int)) (m : Nat) (p : Int) (h : AH) (hp : 2 ≤ p ∧ p ≤ 2147483647) (hw : Wid m A0) (hl : 1 ≤ A0.length ∧ A0.length ≤ 1000000) (hm : m ≤ 1000000) (hR : InR p m A0) :
    ACalls Try.prog 43 [.bsl h.n 0 A0.length .full, .int .i64 p] (pmH h A0.length m A0) (fun v h' => ∃ H κ ids A top piv, v = .tup [.bsl h.n 0 top .ro, accO κ (piv.map (AV.int .i64))] ∧ h' = matH H h.n ids m A ∧ echA p A0 = (A, top, piv) ∧ MatOk h.n ids m A ∧ (∀ b ∈ ids, h.n ≤ b) ∧ Ext h H ∧ top ≤ A.length) := by
  refine ACalls.heap (HUp.pm (wid_mem hw)) ?_
  refine ACalls.mono (c_echelon h.n (idsOf h.n A0.length) A0 m p .full { h with n := h.n + 1 + A0.length } hp (pm_ok (wid_mem hw)) (by show h.n < h.n + 1 + A0.length; omega) (fun b hb => by have := mem_idsOf.1 hb; show b < h.n + 1 + A0.length; omega) hl hm hR) fun v h' hv => ?_
  obtain ⟨H, κ, ids, A, top, piv, h1, h2, h3, h4, h5, h6, h7, h8, h9, h10⟩ := hv
  refine ⟨H, κ, ids, A, top, piv, h1, h2, ?_, h4, fun b hb => by have := mem_idsOf.1 (h5 b hb); omega, pmH_ext (n := 0) (m := 0) |>.trans h6, h9⟩
  unfold echA; rw [wid0 hw (by omega)]; exact h3
theorem c_Echelon (a : List (List Int)) (p : Int) (h : AH) : ACalls Try.prog 25 [matV a, .int .i64 p] h (fun v h' => v = .tup [matV (echR a p), rowV (echP a p), .int .i64 (echE a p)] ∧ h' = h) := by
  by_cases hv : ValidP a
  · by_cases hp : isP p = true
    · have hb : echB a p := ⟨hv, hp⟩
      have hpp := isP_spec hp
      obtain ⟨k, hk1, hk2, hk3, hk4⟩ := hv.rows
      have hv1 := hv.1
      have hk0 := hk4 0 (by omega)
      have hin := redM_in (p := p) hpp.1 hv
      have hw := redM_wid (p := p) hv
      rw [hk0] at hin hw
      have hrl := redM_length a p
      rw [show echR a p = (echA p (redM a p)).1.take (echA p (redM a p)).2.1 by simp [echR, hb], show echP a p = (echA p (redM a p)).2.2 by simp [echP, hb], show echE a p = 0 by simp [echE, hv, hp]]
      refine ACalls.frozenE ?_
      refine acalls_of_good 2 25 [.tmp 4, .tmp 5, .tmp 6] Try.func25 rfl rfl (by kernel_rfl) rfl rfl (by decide) ?_
      simp (disch := first | assumption | omega) only [go_sem, Option.map, List.isEmpty, ↓reduceIte, Nat.reduceEqDiff, Nat.reduceAdd, Nat.reduceSub, Nat.reduceMul, Nat.reduceLT, Nat.reduceLeDiff, reduceCtorEq, Nat.reduceBEq, Nat.reduceBNe, Int.reduceNeg, Int.reduceLE, Int.reduceLT, Int.reduceToNat]
      repeat' (first | (first | refine good_seq ?_ | refine good_reg false (fun K hK => ?_) | (refine runL_nil (hK _ _ ?_); clear hK K) | refine runL_none rfl (fun K2 hK2 => ?_) | refine runL_some rfl rfl (fun R S hR hS => ?_) | (refine hK2 _ _ ?_; clear hK2 K2) | (refine hK2 _ _ ?_ ?_ <;> clear hK2 K2) | (refine regW_nil (hK _ _ ?_); clear hK K) | (refine regW_load rfl rfl rfl (fun F1 F2 hF1 hF2 => ?_)) | (refine hF1 _ ?_ ?_ <;> clear hF1 hF2 F1 F2) | (refine hF2 _ _ (fun K2 hK2 => ?_); clear hF1 hF2 F1 F2) | refine regW_light rfl rfl rfl (fun _ _ => rfl) (fun K2 hK2 => ?_) | refine regW_lguard rfl rfl rfl rfl (fun _ _ => rfl) (fun R S hR hS => ?_) | refine regW_heavy rfl rfl (fun K2 hK2 => ?_) | with_reducible refine log_goal ?_ | (refine hR _ (fun K2 hK2 => ?_); clear hR hS R S) | (refine hS _ ?_; clear hR hS R S) | refine good_block ?_ | refine good_skip ?_ | refine good_exit ?_ | refine good_ret ?_ | refine good_cond ?_ | refine And.intro ?_ ?_ | intro _) <;> try simp (disch := first | assumption | omega) only [go_sem, Option.map, List.isEmpty, ↓reduceIte, Nat.reduceEqDiff, Nat.reduceAdd, Nat.reduceSub, Nat.reduceMul, Nat.reduceLT, Nat.reduceLeDiff, reduceCtorEq, Nat.reduceBEq, Nat.reduceBNe, Int.reduceNeg, Int.reduceLE, Int.reduceLT, Int.reduceToNat] | ((first | (refine ACalls.mono (c_valid _ _) (fun v h' hv' => ?_); obtain ⟨rfl, rfl⟩ := hv'; rw [decide_eq_true hv]) | (refine ACalls.mono (c_Is _ _) (fun v h' hv' => ?_); obtain ⟨rfl, rfl⟩ := hv'; rw [hp]) | (refine ACalls.mono (c_reduced a k p (by omega) (by omega) hk4 _) (fun v h' hv' => ?_); obtain ⟨rfl, hh⟩ := hv'; subst h'; rw [show (a.map fun r => r.map (· % p)) = redM a p from rfl]; rw [← hrl]) | (refine ACalls.mono (c_echelonP (redM a p) k p _ (by omega) hw (by omega) (by omega) hin) (fun v h' hv' => ?_); obtain ⟨H, κ, ids, A, top, piv, hh1, hh2, hh3, hh4, hh5, hh6, hh7⟩ := hv'; subst hh1; subst hh2)) <;> try simp (disch := first | assumption | omega) only [go_sem, Option.map, List.isEmpty, ↓reduceIte, Nat.reduceEqDiff, Nat.reduceAdd, Nat.reduceSub, Nat.reduceMul, Nat.reduceLT, Nat.reduceLeDiff, reduceCtorEq, Nat.reduceBEq, Nat.reduceBNe, Int.reduceNeg, Int.reduceLE, Int.reduceLT, Int.reduceToNat]) | omega)
      exact ⟨H, _, κ, ids, k, A, top, by rw [hh3], rfl, hh4, Nat.le_refl _, hh5, hh6, hh7, by rw [hh3]⟩
    · have hb : ¬ echB a p := fun hb => hp hb.2
      have hp' : isP p = false := by simpa using hp
      rw [show echR a p = [] by simp [echR, hb], show echP a p = [] by simp [echP, hb], show echE a p = 20 by simp [echE, hv, hp]]
      refine ACalls.up ?_
      refine acalls_of_good 2 25 [.tmp 4, .tmp 5, .tmp 6] Try.func25 rfl rfl (by kernel_rfl) rfl rfl (by decide) ?_
      simp (disch := first | assumption | omega) only [go_sem, Option.map, List.isEmpty, ↓reduceIte, Nat.reduceEqDiff, Nat.reduceAdd, Nat.reduceSub, Nat.reduceMul, Nat.reduceLT, Nat.reduceLeDiff, reduceCtorEq, Nat.reduceBEq, Nat.reduceBNe, Int.reduceNeg, Int.reduceLE, Int.reduceLT, Int.reduceToNat]
      repeat' (first | (first | refine good_seq ?_ | refine good_reg false (fun K hK => ?_) | (refine runL_nil (hK _ _ ?_); clear hK K) | refine runL_none rfl (fun K2 hK2 => ?_) | refine runL_some rfl rfl (fun R S hR hS => ?_) | (refine hK2 _ _ ?_; clear hK2 K2) | (refine hK2 _ _ ?_ ?_ <;> clear hK2 K2) | (refine regW_nil (hK _ _ ?_); clear hK K) | (refine regW_load rfl rfl rfl (fun F1 F2 hF1 hF2 => ?_)) | (refine hF1 _ ?_ ?_ <;> clear hF1 hF2 F1 F2) | (refine hF2 _ _ (fun K2 hK2 => ?_); clear hF1 hF2 F1 F2) | refine regW_light rfl rfl rfl (fun _ _ => rfl) (fun K2 hK2 => ?_) | refine regW_lguard rfl rfl rfl rfl (fun _ _ => rfl) (fun R S hR hS => ?_) | refine regW_heavy rfl rfl (fun K2 hK2 => ?_) | with_reducible refine log_goal ?_ | (refine hR _ (fun K2 hK2 => ?_); clear hR hS R S) | (refine hS _ ?_; clear hR hS R S) | refine good_block ?_ | refine good_skip ?_ | refine good_exit ?_ | refine good_ret ?_ | refine good_cond ?_ | refine And.intro ?_ ?_ | intro _) <;> try simp (disch := first | assumption | omega) only [go_sem, Option.map, List.isEmpty, ↓reduceIte, Nat.reduceEqDiff, Nat.reduceAdd, Nat.reduceSub, Nat.reduceMul, Nat.reduceLT, Nat.reduceLeDiff, reduceCtorEq, Nat.reduceBEq, Nat.reduceBNe, Int.reduceNeg, Int.reduceLE, Int.reduceLT, Int.reduceToNat] | ((first | (refine ACalls.mono (c_valid _ _) (fun v h' hv' => ?_); obtain ⟨rfl, rfl⟩ := hv'; rw [decide_eq_true hv]) | (refine ACalls.mono (c_Is _ _) (fun v h' hv' => ?_); obtain ⟨rfl, rfl⟩ := hv'; rw [hp'])) <;> try simp (disch := first | assumption | omega) only [go_sem, Option.map, List.isEmpty, ↓reduceIte, Nat.reduceEqDiff, Nat.reduceAdd, Nat.reduceSub, Nat.reduceMul, Nat.reduceLT, Nat.reduceLeDiff, reduceCtorEq, Nat.reduceBEq, Nat.reduceBNe, Int.reduceNeg, Int.reduceLE, Int.reduceLT, Int.reduceToNat]) | omega)
      exact ⟨_, Up.tup3 Up.nmat Up.nrow (Up.refl _), rfl⟩
  · have hb : ¬ echB a p := fun hb => hv hb.1
    rw [show echR a p = [] by simp [echR, hb], show echP a p = [] by simp [echP, hb], show echE a p = 3 by simp [echE, hv]]
    refine ACalls.up ?_
    refine acalls_of_good 2 25 [.tmp 4, .tmp 5, .tmp 6] Try.func25 rfl rfl (by kernel_rfl) rfl rfl (by decide) ?_
    simp (disch := first | assumption | omega) only [go_sem, Option.map, List.isEmpty, ↓reduceIte, Nat.reduceEqDiff, Nat.reduceAdd, Nat.reduceSub, Nat.reduceMul, Nat.reduceLT, Nat.reduceLeDiff, reduceCtorEq, Nat.reduceBEq, Nat.reduceBNe, Int.reduceNeg, Int.reduceLE, Int.reduceLT, Int.reduceToNat]
    repeat' (first | (first | refine good_seq ?_ | refine good_reg false (fun K hK => ?_) | (refine runL_nil (hK _ _ ?_); clear hK K) | refine runL_none rfl (fun K2 hK2 => ?_) | refine runL_some rfl rfl (fun R S hR hS => ?_) | (refine hK2 _ _ ?_; clear hK2 K2) | (refine hK2 _ _ ?_ ?_ <;> clear hK2 K2) | (refine regW_nil (hK _ _ ?_); clear hK K) | (refine regW_load rfl rfl rfl (fun F1 F2 hF1 hF2 => ?_)) | (refine hF1 _ ?_ ?_ <;> clear hF1 hF2 F1 F2) | (refine hF2 _ _ (fun K2 hK2 => ?_); clear hF1 hF2 F1 F2) | refine regW_light rfl rfl rfl (fun _ _ => rfl) (fun K2 hK2 => ?_) | refine regW_lguard rfl rfl rfl rfl (fun _ _ => rfl) (fun R S hR hS => ?_) | refine regW_heavy rfl rfl (fun K2 hK2 => ?_) | with_reducible refine log_goal ?_ | (refine hR _ (fun K2 hK2 => ?_); clear hR hS R S) | (refine hS _ ?_; clear hR hS R S) | refine good_block ?_ | refine good_skip ?_ | refine good_exit ?_ | refine good_ret ?_ | refine good_cond ?_ | refine And.intro ?_ ?_ | intro _) <;> try simp (disch := first | assumption | omega) only [go_sem, Option.map, List.isEmpty, ↓reduceIte, Nat.reduceEqDiff, Nat.reduceAdd, Nat.reduceSub, Nat.reduceMul, Nat.reduceLT, Nat.reduceLeDiff, reduceCtorEq, Nat.reduceBEq, Nat.reduceBNe, Int.reduceNeg, Int.reduceLE, Int.reduceLT, Int.reduceToNat] | ((first | (refine ACalls.mono (c_valid _ _) (fun v h' hv' => ?_); obtain ⟨rfl, rfl⟩ := hv'; rw [decide_eq_false hv])) <;> try simp (disch := first | assumption | omega) only [go_sem, Option.map, List.isEmpty, ↓reduceIte, Nat.reduceEqDiff, Nat.reduceAdd, Nat.reduceSub, Nat.reduceMul, Nat.reduceLT, Nat.reduceLeDiff, reduceCtorEq, Nat.reduceBEq, Nat.reduceBNe, Int.reduceNeg, Int.reduceLE, Int.reduceLT, Int.reduceToNat]) | omega)
    exact ⟨_, Up.tup3 Up.nmat Up.nrow (Up.refl _), rfl⟩
end Go.Eng
