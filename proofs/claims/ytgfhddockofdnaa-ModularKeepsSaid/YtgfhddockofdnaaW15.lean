import Derived.Test.YtgfhddockofdnaaE23
import Derived.Test.YtgfhddockofdnaaW14
open Go Go.Proofs
set_option linter.unusedVariables false
set_option linter.unusedSimpArgs false
set_option maxRecDepth 4000
set_option maxHeartbeats 4000000
namespace Go.Eng
attribute [local irreducible] Good ACalls runL regW stepW opW gdV' gdD condW gifW binW arW loadW storeW idxAW lenW appW appBW cutW onSome onBnd callW fldAW Again thenQ blockQ resW endQ Up loadR
theorem c_Kernel_err (a : List (List Int)) (p : Int) (he : echE a p ≠ 0) (h : AH) : ACalls Try.prog 19 [matV a, .int .i64 p] h (fun v h' => v = .tup [matV [], .int .i64 (echE a p)] ∧ h' = h) := by
  refine ACalls.up ?_
  refine acalls_of_good 2 95 [.tmp 4, .tmp 5] Try.func19 rfl rfl (by kernel_rfl) rfl rfl (by decide) ?_
  simp (disch := first | assumption | omega) only [go_sem, Option.map, List.isEmpty, ↓reduceIte, Nat.reduceEqDiff, Nat.reduceAdd, Nat.reduceSub, Nat.reduceMul, Nat.reduceLT, Nat.reduceLeDiff, reduceCtorEq, Nat.reduceBEq, Nat.reduceBNe, Int.reduceNeg, Int.reduceLE, Int.reduceLT, Int.reduceToNat]
  repeat' (first | (first | refine good_seq ?_ | refine good_reg false (fun K hK => ?_) | (refine runL_nil (hK _ _ ?_); clear hK K) | refine runL_none rfl (fun K2 hK2 => ?_) | refine runL_some rfl rfl (fun R S hR hS => ?_) | (refine hK2 _ _ ?_; clear hK2 K2) | (refine hK2 _ _ ?_ ?_ <;> clear hK2 K2) | (refine regW_nil (hK _ _ ?_); clear hK K) | (refine regW_load rfl rfl rfl (fun F1 F2 hF1 hF2 => ?_)) | (refine hF1 _ ?_ ?_ <;> clear hF1 hF2 F1 F2) | (refine hF2 _ _ (fun K2 hK2 => ?_); clear hF1 hF2 F1 F2) | refine regW_light rfl rfl rfl (fun _ _ => rfl) (fun K2 hK2 => ?_) | refine regW_lguard rfl rfl rfl rfl (fun _ _ => rfl) (fun R S hR hS => ?_) | refine regW_heavy rfl rfl (fun K2 hK2 => ?_) | with_reducible refine log_goal ?_ | (refine hR _ (fun K2 hK2 => ?_); clear hR hS R S) | (refine hS _ ?_; clear hR hS R S) | refine good_block ?_ | refine good_skip ?_ | refine good_exit ?_ | refine good_ret ?_ | refine good_cond ?_ | refine And.intro ?_ ?_ | intro _) <;> try simp (disch := first | assumption | omega) only [go_sem, Option.map, List.isEmpty, ↓reduceIte, Nat.reduceEqDiff, Nat.reduceAdd, Nat.reduceSub, Nat.reduceMul, Nat.reduceLT, Nat.reduceLeDiff, reduceCtorEq, Nat.reduceBEq, Nat.reduceBNe, Int.reduceNeg, Int.reduceLE, Int.reduceLT, Int.reduceToNat] | ((first | (refine ACalls.mono (c_Echelon _ _ _) (fun v h' hv' => ?_); obtain ⟨rfl, rfl⟩ := hv')) <;> try simp (disch := first | assumption | omega) only [go_sem, Option.map, List.isEmpty, ↓reduceIte, Nat.reduceEqDiff, Nat.reduceAdd, Nat.reduceSub, Nat.reduceMul, Nat.reduceLT, Nat.reduceLeDiff, reduceCtorEq, Nat.reduceBEq, Nat.reduceBNe, Int.reduceNeg, Int.reduceLE, Int.reduceLT, Int.reduceToNat]) | omega)
  exact ⟨_, Up.tup2 Up.nmat (Up.refl _), rfl⟩
theorem pv_ok {a : List (List Int)} {p : Int} (hb : echB a p) : (echR a p).length = (echP a p).length ∧ (echP a p).length ≤ a.length ∧ Wid (a.getD 0 []).length (echR a p) ∧ InR p (a.getD 0 []).length (echR a p) ∧ ∀ i, i < (echP a p).length → 0 ≤ (echP a p).getD i 0 ∧ (echP a p).getD i 0 < (a.getD 0 []).length := by
  have hpp := isP_spec hb.2
  have hv1 := hb.1.1
  have ho := echA_ok (p := p) (by omega) (redM_wid (p := p) hb.1) (redM_in (p := p) hpp.1 hb.1) (by rw [redM_length]; exact hv1)
  simp only [echR, echP, if_pos hb]
  generalize echA p (redM a p) = q at ho
  have ht := ho.tn
  have hl := ho.len
  rw [redM_length] at ht hl
  have hg : ∀ i, i < q.2.1 → (q.1.take q.2.1).getD i [] = q.1.getD i [] := fun i hi => by simp [List.getD_eq_getElem?_getD, List.getElem?_take, hi]
  refine ⟨by rw [List.length_take, ho.pl]; omega, by rw [ho.pl]; omega, fun i hi => ?_, fun i j hi hj => ?_, ho.pb⟩
  · rw [List.length_take] at hi
    rw [hg i (by omega)]; exact ho.wid i (by omega)
  · rw [List.length_take] at hi
    rw [hg i (by omega)]; exact ho.rng i j (by omega) hj
def kerM (a : List (List Int)) (p : Int) : List (List Int) := kerB (echR a p) (echP a p) (a.getD 0 []).length p (a.getD 0 []).length
def kernM (a : List (List Int)) (p : Int) : List (List Int) := if echB a p then (if kerM a p = [] then [] else (echA p (kerM a p)).1.take (echA p (kerM a p)).2.1) else []
/-- The loop up to the basis, then what follows. -/
theorem c_Kernel_ok (a : List (List Int)) (p : Int) (hb : echB a p) (h : AH) : ACalls Try.prog 19 [matV a, .int .i64 p] h (fun v h' => (kerM a p = [] ∧ v = .tup [.nils, .int .i64 0] ∧ Ext h h') ∨ (kerM a p ≠ [] ∧ ∃ H O ids A top, v = .tup [.bsl O 0 top .ro, .int .i64 0] ∧ h' = matH H O ids (a.getD 0 []).length A ∧ MatOk O ids (a.getD 0 []).length A ∧ h.n ≤ O ∧ (∀ b ∈ ids, h.n ≤ b) ∧ Ext h H ∧ top ≤ A.length ∧ (echA p (kerM a p)).1 = A ∧ (echA p (kerM a p)).2.1 = top)) := by
  have hE : echE a p = 0 := by simp [echE, hb.1, hb.2]
  obtain ⟨hrl, hpl, hrw, hrr, hpb⟩ := pv_ok hb
  have hv := hb.1
  have hpp := isP_spec hb.2
  unfold kerM
  obtain ⟨n, hn⟩ : ∃ n, n = (a.getD 0 []).length := ⟨_, rfl⟩
  obtain ⟨rows, hrows⟩ : ∃ x, x = echR a p := ⟨_, rfl⟩
  obtain ⟨piv, hpiv⟩ : ∃ x, x = echP a p := ⟨_, rfl⟩
  rw [← hrows, ← hpiv] at hrl
  rw [← hpiv] at hpl hpb
  rw [← hrows, ← hn] at hrw hrr
  rw [← hn] at hpb
  rw [← hn, ← hrows, ← hpiv]
  have ha1 := hv.1
  have ha2 := hv.2.1
  have hn1 : 1 ≤ n ∧ n ≤ 16 := by rw [hn]; exact ⟨hv.2.2.1, hv.2.2.2.1⟩
  refine acalls_of_good 2 95 [.tmp 4, .tmp 5] Try.func19 rfl rfl (by kernel_rfl) rfl rfl (by decide) ?_
  simp (disch := first | assumption | omega) only [go_sem, Option.map, List.isEmpty, ↓reduceIte, Nat.reduceEqDiff, Nat.reduceAdd, Nat.reduceSub, Nat.reduceMul, Nat.reduceLT, Nat.reduceLeDiff, reduceCtorEq, Nat.reduceBEq, Nat.reduceBNe, Int.reduceNeg, Int.reduceLE, Int.reduceLT, Int.reduceToNat]
  repeat' (first | (first | refine good_seq ?_ | refine good_reg false (fun K hK => ?_) | (refine runL_nil (hK _ _ ?_); clear hK K) | refine runL_none rfl (fun K2 hK2 => ?_) | refine runL_some rfl rfl (fun R S hR hS => ?_) | (refine hK2 _ _ ?_; clear hK2 K2) | (refine hK2 _ _ ?_ ?_ <;> clear hK2 K2) | (refine regW_nil (hK _ _ ?_); clear hK K) | (refine regW_load rfl rfl rfl (fun F1 F2 hF1 hF2 => ?_)) | (refine hF1 _ ?_ ?_ <;> clear hF1 hF2 F1 F2) | (refine hF2 _ _ (fun K2 hK2 => ?_); clear hF1 hF2 F1 F2) | refine regW_light rfl rfl rfl (fun _ _ => rfl) (fun K2 hK2 => ?_) | refine regW_lguard rfl rfl rfl rfl (fun _ _ => rfl) (fun R S hR hS => ?_) | refine regW_heavy rfl rfl (fun K2 hK2 => ?_) | with_reducible refine log_goal ?_ | (refine hR _ (fun K2 hK2 => ?_); clear hR hS R S) | (refine hS _ ?_; clear hR hS R S) | refine good_block ?_ | refine good_skip ?_ | refine good_exit ?_ | refine good_ret ?_ | refine good_cond ?_ | refine And.intro ?_ ?_ | intro _) <;> try simp (disch := first | assumption | omega) only [go_sem, Option.map, List.isEmpty, ↓reduceIte, Nat.reduceEqDiff, Nat.reduceAdd, Nat.reduceSub, Nat.reduceMul, Nat.reduceLT, Nat.reduceLeDiff, reduceCtorEq, Nat.reduceBEq, Nat.reduceBNe, Int.reduceNeg, Int.reduceLE, Int.reduceLT, Int.reduceToNat, ← hn] | ((first | (refine ACalls.mono (c_Echelon _ _ _) (fun v h' hv' => ?_); obtain ⟨rfl, hh⟩ := hv'; subst h'; rw [hE, ← hrows, ← hpiv])) <;> try simp (disch := first | assumption | omega) only [go_sem, Option.map, List.isEmpty, ↓reduceIte, Nat.reduceEqDiff, Nat.reduceAdd, Nat.reduceSub, Nat.reduceMul, Nat.reduceLT, Nat.reduceLeDiff, reduceCtorEq, Nat.reduceBEq, Nat.reduceBNe, Int.reduceNeg, Int.reduceLE, Int.reduceLT, Int.reduceToNat, ← hn]) | omega)
  refine good_loop_s (σ := Nat) (fun k => [(0, matV a), (1, .int .i64 p), (6, matV rows), (7, rowV piv), (9, .int .i64 n), (10, .bsl h.n 0 n .full), (36, rowV piv), (37, .int .i64 piv.length), (38, .int .i64 k)]) (fun k => h.mk_ ((pvB piv n k).map AV.bool)) (fun k => k ≤ piv.length) (fun k => piv.length - k) 0 ?_ rfl (Nat.zero_le _) ?_
  · simp (disch := first | assumption | omega) only [go_sem, Option.map, List.isEmpty, ↓reduceIte, Nat.reduceEqDiff, Nat.reduceAdd, Nat.reduceSub, Nat.reduceMul, Nat.reduceLT, Nat.reduceLeDiff, reduceCtorEq, Nat.reduceBEq, Nat.reduceBNe, Int.reduceNeg, Int.reduceLE, Int.reduceLT, Int.reduceToNat]; (try (refine ⟨?_, ?_⟩ <;> omega)); (try omega)
  intro k hk n0 hn0
  have hbl := pvB_length piv n k
  by_cases hkl : k < piv.length
  · have hpk := hpb k hkl
    repeat' (first | (first | refine good_seq ?_ | refine good_reg false (fun K hK => ?_) | (refine runL_nil (hK _ _ ?_); clear hK K) | refine runL_none rfl (fun K2 hK2 => ?_) | refine runL_some rfl rfl (fun R S hR hS => ?_) | (refine hK2 _ _ ?_; clear hK2 K2) | (refine hK2 _ _ ?_ ?_ <;> clear hK2 K2) | (refine regW_nil (hK _ _ ?_); clear hK K) | (refine regW_load rfl rfl rfl (fun F1 F2 hF1 hF2 => ?_)) | (refine hF1 _ ?_ ?_ <;> clear hF1 hF2 F1 F2) | (refine hF2 _ _ (fun K2 hK2 => ?_); clear hF1 hF2 F1 F2) | refine regW_light rfl rfl rfl (fun _ _ => rfl) (fun K2 hK2 => ?_) | refine regW_lguard rfl rfl rfl rfl (fun _ _ => rfl) (fun R S hR hS => ?_) | refine regW_heavy rfl rfl (fun K2 hK2 => ?_) | with_reducible refine log_goal ?_ | (refine hR _ (fun K2 hK2 => ?_); clear hR hS R S) | (refine hS _ ?_; clear hR hS R S) | refine good_block ?_ | refine good_skip ?_ | refine good_exit ?_ | refine good_ret ?_ | refine good_cond ?_ | refine And.intro ?_ ?_ | intro _) <;> try simp (disch := first | assumption | omega) only [go_sem, Option.map, List.isEmpty, ↓reduceIte, Nat.reduceEqDiff, Nat.reduceAdd, Nat.reduceSub, Nat.reduceMul, Nat.reduceLT, Nat.reduceLeDiff, reduceCtorEq, Nat.reduceBEq, Nat.reduceBNe, Int.reduceNeg, Int.reduceLE, Int.reduceLT, Int.reduceToNat] | omega)
    refine Again.to (k + 1) (by omega) (by omega) ?_ ?_
    · simp (disch := first | assumption | omega) only [go_sem, Option.map, List.isEmpty, ↓reduceIte, Nat.reduceEqDiff, Nat.reduceAdd, Nat.reduceSub, Nat.reduceMul, Nat.reduceLT, Nat.reduceLeDiff, reduceCtorEq, Nat.reduceBEq, Nat.reduceBNe, Int.reduceNeg, Int.reduceLE, Int.reduceLT, Int.reduceToNat]; (try (refine ⟨?_, ?_⟩ <;> omega)); (try omega)
    · rfl
  have hke : k = piv.length := by omega
  subst hke
  obtain ⟨PV, hPV⟩ : ∃ x, x = pvB piv n piv.length := ⟨_, rfl⟩
  obtain ⟨h1, hh1⟩ : ∃ x, x = h.mk_ ((pvB piv n piv.length).map AV.bool) := ⟨_, rfl⟩
  have hf1 : h1.f h.n = some (PV.map AV.bool) := by rw [hh1, hPV, AH.mk_f]
  have hn1' : h1.n = h.n + 1 := by rw [hh1]; rfl
  have he1 : Ext h h1 := by rw [hh1]; exact (Ext.refl h).mk_ _
  have hPl : PV.length = n := by rw [hPV]; exact hbl
  rw [← hh1]
  repeat' (first | (first | refine good_seq ?_ | refine good_reg false (fun K hK => ?_) | (refine runL_nil (hK _ _ ?_); clear hK K) | refine runL_none rfl (fun K2 hK2 => ?_) | refine runL_some rfl rfl (fun R S hR hS => ?_) | (refine hK2 _ _ ?_; clear hK2 K2) | (refine hK2 _ _ ?_ ?_ <;> clear hK2 K2) | (refine regW_nil (hK _ _ ?_); clear hK K) | (refine regW_load rfl rfl rfl (fun F1 F2 hF1 hF2 => ?_)) | (refine hF1 _ ?_ ?_ <;> clear hF1 hF2 F1 F2) | (refine hF2 _ _ (fun K2 hK2 => ?_); clear hF1 hF2 F1 F2) | refine regW_light rfl rfl rfl (fun _ _ => rfl) (fun K2 hK2 => ?_) | refine regW_lguard rfl rfl rfl rfl (fun _ _ => rfl) (fun R S hR hS => ?_) | refine regW_heavy rfl rfl (fun K2 hK2 => ?_) | with_reducible refine log_goal ?_ | (refine hR _ (fun K2 hK2 => ?_); clear hR hS R S) | (refine hS _ ?_; clear hR hS R S) | refine good_block ?_ | refine good_skip ?_ | refine good_exit ?_ | refine good_ret ?_ | refine good_cond ?_ | refine And.intro ?_ ?_ | intro _) <;> try simp (disch := first | assumption | omega) only [go_sem, Option.map, List.isEmpty, ↓reduceIte, Nat.reduceEqDiff, Nat.reduceAdd, Nat.reduceSub, Nat.reduceMul, Nat.reduceLT, Nat.reduceLeDiff, reduceCtorEq, Nat.reduceBEq, Nat.reduceBNe, Int.reduceNeg, Int.reduceLE, Int.reduceLT, Int.reduceToNat] | omega)
  refine good_loop_s (σ := AH × Nat × List Nat × Nat) (fun s => [(0, matV a), (1, .int .i64 p), (6, matV rows), (7, rowV piv), (9, .int .i64 n), (10, .bsl h.n 0 n .full), (13, basV (kerB rows piv n p s.2.2.2) s.2.1), (14, .int .i64 s.2.2.2)]) (fun s => s.1)
    (fun s => s.2.2.2 ≤ n ∧ KB n h1 s.1 s.2.1 s.2.2.1 (kerB rows piv n p s.2.2.2)) (fun s => n - s.2.2.2) (h1, 0, [], 0) ?_ rfl ⟨Nat.zero_le _, ⟨.refl _, rfl, by simp, fun b hb => by simp at hb, fun i hi => absurd hi (Nat.not_lt_zero _), fun hM => absurd rfl hM⟩⟩ ?_
  · simp (disch := first | assumption | omega) only [go_sem, Option.map, List.isEmpty, ↓reduceIte, Nat.reduceEqDiff, Nat.reduceAdd, Nat.reduceSub, Nat.reduceMul, Nat.reduceLT, Nat.reduceLeDiff, reduceCtorEq, Nat.reduceBEq, Nat.reduceBNe, Int.reduceNeg, Int.reduceLE, Int.reduceLT, Int.reduceToNat]; (try (refine ⟨?_, ?_⟩ <;> omega)); (try omega)
    exact ⟨rfl, rfl⟩
  rintro ⟨H, O, ids, c⟩ ⟨hc, hK⟩ n2 hn2
  dsimp only at hc hK hn2 ⊢
  have hfP : H.f h.n = some (PV.map AV.bool) := by rw [hK.ext.f _ (by omega)]; exact hf1
  have hHn := hK.ext.n
  have hBl := kerB_length (rows := rows) (piv := piv) (n := n) (p := p) c
  by_cases hcn : c < n
  · by_cases hpc : PV.getD c false = true
    · have hB : kerB rows piv n p (c + 1) = kerB rows piv n p c := by simp only [kerB]; rw [← hPV, if_pos hpc]
      repeat' (first | (first | refine good_seq ?_ | refine good_reg false (fun K hK => ?_) | (refine runL_nil (hK _ _ ?_); clear hK K) | refine runL_none rfl (fun K2 hK2 => ?_) | refine runL_some rfl rfl (fun R S hR hS => ?_) | (refine hK2 _ _ ?_; clear hK2 K2) | (refine hK2 _ _ ?_ ?_ <;> clear hK2 K2) | (refine regW_nil (hK _ _ ?_); clear hK K) | (refine regW_load rfl rfl rfl (fun F1 F2 hF1 hF2 => ?_)) | (refine hF1 _ ?_ ?_ <;> clear hF1 hF2 F1 F2) | (refine hF2 _ _ (fun K2 hK2 => ?_); clear hF1 hF2 F1 F2) | refine regW_light rfl rfl rfl (fun _ _ => rfl) (fun K2 hK2 => ?_) | refine regW_lguard rfl rfl rfl rfl (fun _ _ => rfl) (fun R S hR hS => ?_) | refine regW_heavy rfl rfl (fun K2 hK2 => ?_) | with_reducible refine log_goal ?_ | (refine hR _ (fun K2 hK2 => ?_); clear hR hS R S) | (refine hS _ ?_; clear hR hS R S) | refine good_block ?_ | refine good_skip ?_ | refine good_exit ?_ | refine good_ret ?_ | refine good_cond ?_ | refine And.intro ?_ ?_ | intro _) <;> try simp (disch := first | assumption | omega) only [go_sem, Option.map, List.isEmpty, ↓reduceIte, Nat.reduceEqDiff, Nat.reduceAdd, Nat.reduceSub, Nat.reduceMul, Nat.reduceLT, Nat.reduceLeDiff, reduceCtorEq, Nat.reduceBEq, Nat.reduceBNe, Int.reduceNeg, Int.reduceLE, Int.reduceLT, Int.reduceToNat, hfP, hpc] | ((first | fail) <;> try simp (disch := first | assumption | omega) only [go_sem, Option.map, List.isEmpty, ↓reduceIte, Nat.reduceEqDiff, Nat.reduceAdd, Nat.reduceSub, Nat.reduceMul, Nat.reduceLT, Nat.reduceLeDiff, reduceCtorEq, Nat.reduceBEq, Nat.reduceBNe, Int.reduceNeg, Int.reduceLE, Int.reduceLT, Int.reduceToNat, hfP, hpc]) | omega)
      refine Again.to (H, O, ids, c + 1) ⟨hcn, by rw [hB]; exact hK⟩ (by show n - (c + 1) < n2; omega) ?_ rfl
      rw [hB]
      simp (disch := first | assumption | omega) only [go_sem, Option.map, List.isEmpty, ↓reduceIte, Nat.reduceEqDiff, Nat.reduceAdd, Nat.reduceSub, Nat.reduceMul, Nat.reduceLT, Nat.reduceLeDiff, reduceCtorEq, Nat.reduceBEq, Nat.reduceBNe, Int.reduceNeg, Int.reduceLE, Int.reduceLT, Int.reduceToNat]; (try (refine ⟨?_, ?_⟩ <;> omega)); (try omega)
    · have hB : kerB rows piv n p (c + 1) = kerB rows piv n p c ++ [kerR rows piv n p c piv.length] := by simp only [kerB]; rw [← hPV, if_neg hpc]
      have hpc' : PV.getD c false = false := by simpa using hpc
      repeat' (first | (first | refine good_seq ?_ | refine good_reg false (fun K hK => ?_) | (refine runL_nil (hK _ _ ?_); clear hK K) | refine runL_none rfl (fun K2 hK2 => ?_) | refine runL_some rfl rfl (fun R S hR hS => ?_) | (refine hK2 _ _ ?_; clear hK2 K2) | (refine hK2 _ _ ?_ ?_ <;> clear hK2 K2) | (refine regW_nil (hK _ _ ?_); clear hK K) | (refine regW_load rfl rfl rfl (fun F1 F2 hF1 hF2 => ?_)) | (refine hF1 _ ?_ ?_ <;> clear hF1 hF2 F1 F2) | (refine hF2 _ _ (fun K2 hK2 => ?_); clear hF1 hF2 F1 F2) | refine regW_light rfl rfl rfl (fun _ _ => rfl) (fun K2 hK2 => ?_) | refine regW_lguard rfl rfl rfl rfl (fun _ _ => rfl) (fun R S hR hS => ?_) | refine regW_heavy rfl rfl (fun K2 hK2 => ?_) | with_reducible refine log_goal ?_ | (refine hR _ (fun K2 hK2 => ?_); clear hR hS R S) | (refine hS _ ?_; clear hR hS R S) | refine good_block ?_ | refine good_skip ?_ | refine good_exit ?_ | refine good_ret ?_ | refine good_cond ?_ | refine And.intro ?_ ?_ | intro _) <;> try simp (disch := first | assumption | omega) only [go_sem, Option.map, List.isEmpty, ↓reduceIte, Nat.reduceEqDiff, Nat.reduceAdd, Nat.reduceSub, Nat.reduceMul, Nat.reduceLT, Nat.reduceLeDiff, reduceCtorEq, Nat.reduceBEq, Nat.reduceBNe, Int.reduceNeg, Int.reduceLE, Int.reduceLT, Int.reduceToNat, hfP, hpc'] | ((first | fail) <;> try simp (disch := first | assumption | omega) only [go_sem, Option.map, List.isEmpty, ↓reduceIte, Nat.reduceEqDiff, Nat.reduceAdd, Nat.reduceSub, Nat.reduceMul, Nat.reduceLT, Nat.reduceLeDiff, reduceCtorEq, Nat.reduceBEq, Nat.reduceBNe, Int.reduceNeg, Int.reduceLE, Int.reduceLT, Int.reduceToNat, hfP, hpc']) | omega)
      refine good_loop_s (σ := Nat) (fun i => [(0, matV a), (1, .int .i64 p), (6, matV rows), (7, rowV piv), (9, .int .i64 n), (10, .bsl h.n 0 n .full), (13, basV (kerB rows piv n p c) O), (14, .int .i64 c), (15, .bsl H.n 0 n .full), (60, rowV piv), (61, .int .i64 piv.length), (62, .int .i64 i)]) (fun i => H.mk_ ((kerR rows piv n p c i).map (AV.int .i64)))
        (fun i => i ≤ piv.length) (fun i => piv.length - i) 0 ?_ rfl (Nat.zero_le _) ?_
      · simp (disch := first | assumption | omega) only [go_sem, Option.map, List.isEmpty, ↓reduceIte, Nat.reduceEqDiff, Nat.reduceAdd, Nat.reduceSub, Nat.reduceMul, Nat.reduceLT, Nat.reduceLeDiff, reduceCtorEq, Nat.reduceBEq, Nat.reduceBNe, Int.reduceNeg, Int.reduceLE, Int.reduceLT, Int.reduceToNat]; (try (refine ⟨?_, ?_⟩ <;> omega)); (try omega)
      intro i hi n3 hn3
      have hkl2 := kerR_length rows piv n p c i
      by_cases hip : i < piv.length
      · have hpk := hpb i hip
        have hrw2 := hrw i (by omega)
        have hrr2 := hrr i c (by omega) (by omega)
        repeat' (first | (first | refine good_seq ?_ | refine good_reg false (fun K hK => ?_) | (refine runL_nil (hK _ _ ?_); clear hK K) | refine runL_none rfl (fun K2 hK2 => ?_) | refine runL_some rfl rfl (fun R S hR hS => ?_) | (refine hK2 _ _ ?_; clear hK2 K2) | (refine hK2 _ _ ?_ ?_ <;> clear hK2 K2) | (refine regW_nil (hK _ _ ?_); clear hK K) | (refine regW_load rfl rfl rfl (fun F1 F2 hF1 hF2 => ?_)) | (refine hF1 _ ?_ ?_ <;> clear hF1 hF2 F1 F2) | (refine hF2 _ _ (fun K2 hK2 => ?_); clear hF1 hF2 F1 F2) | refine regW_light rfl rfl rfl (fun _ _ => rfl) (fun K2 hK2 => ?_) | refine regW_lguard rfl rfl rfl rfl (fun _ _ => rfl) (fun R S hR hS => ?_) | refine regW_heavy rfl rfl (fun K2 hK2 => ?_) | with_reducible refine log_goal ?_ | (refine hR _ (fun K2 hK2 => ?_); clear hR hS R S) | (refine hS _ ?_; clear hR hS R S) | refine good_block ?_ | refine good_skip ?_ | refine good_exit ?_ | refine good_ret ?_ | refine good_cond ?_ | refine And.intro ?_ ?_ | intro _) <;> try simp (disch := first | assumption | omega) only [go_sem, Option.map, List.isEmpty, ↓reduceIte, Nat.reduceEqDiff, Nat.reduceAdd, Nat.reduceSub, Nat.reduceMul, Nat.reduceLT, Nat.reduceLeDiff, reduceCtorEq, Nat.reduceBEq, Nat.reduceBNe, Int.reduceNeg, Int.reduceLE, Int.reduceLT, Int.reduceToNat, Int.zero_sub] | ((first | (refine ACalls.mono (c_residue _ _ (by omega) _) (fun v h' hv => ?_); obtain ⟨rfl, rfl⟩ := hv)) <;> try simp (disch := first | assumption | omega) only [go_sem, Option.map, List.isEmpty, ↓reduceIte, Nat.reduceEqDiff, Nat.reduceAdd, Nat.reduceSub, Nat.reduceMul, Nat.reduceLT, Nat.reduceLeDiff, reduceCtorEq, Nat.reduceBEq, Nat.reduceBNe, Int.reduceNeg, Int.reduceLE, Int.reduceLT, Int.reduceToNat, Int.zero_sub]) | omega)
        refine Again.to (i + 1) (by omega) (by omega) ?_ ?_
        · simp (disch := first | assumption | omega) only [go_sem, Option.map, List.isEmpty, ↓reduceIte, Nat.reduceEqDiff, Nat.reduceAdd, Nat.reduceSub, Nat.reduceMul, Nat.reduceLT, Nat.reduceLeDiff, reduceCtorEq, Nat.reduceBEq, Nat.reduceBNe, Int.reduceNeg, Int.reduceLE, Int.reduceLT, Int.reduceToNat]; (try (refine ⟨?_, ?_⟩ <;> omega)); (try omega)
        · rfl
      · have hie : i = piv.length := by omega
        subst hie
        obtain ⟨x, hx⟩ : ∃ x, x = kerR rows piv n p c piv.length := ⟨_, rfl⟩
        rw [← hx] at hB ⊢
        have hok2 : kerB rows piv n p c ≠ [] → ((H.mk_ (x.map (AV.int .i64))).mk_ [.bsl H.n 0 n .full]).f O = some (ids.map fun b => AV.bsl b 0 n .full) ∧ (ids.map fun b => AV.bsl b 0 n .full).length = (kerB rows piv n p c).length := fun hM => by
          obtain ⟨f1, f2, f3, f4⟩ := hK.fO hM
          rw [mk_ne _ _ (by rw [mk_n]; omega), mk_ne _ _ (by omega)]
          exact ⟨f1, by rw [List.length_map, hK.il]⟩
        repeat' (first | ((first | (refine good_reg (id := 23) true (fun K hK => ?_)) | (refine app_bas (cs := ids.map fun b => .bsl b 0 n .full) (y := .bsl H.n 0 n .full) hok2 (AH.mk_f _ _) elT_22 szT_46 byT_46 zrT_46 rfl rfl (by omega) (by decide) (fun H' g1 g2 g3 g4 g5 => ?_))) <;> try simp (disch := first | assumption | omega) only [go_sem, Option.map, List.isEmpty, ↓reduceIte, Nat.reduceEqDiff, Nat.reduceAdd, Nat.reduceSub, Nat.reduceMul, Nat.reduceLT, Nat.reduceLeDiff, reduceCtorEq, Nat.reduceBEq, Nat.reduceBNe, Int.reduceNeg, Int.reduceLE, Int.reduceLT, Int.reduceToNat, mk_n]) | (first | refine good_seq ?_ | refine good_reg false (fun K hK => ?_) | (refine runL_nil (hK _ _ ?_); clear hK K) | refine runL_none rfl (fun K2 hK2 => ?_) | refine runL_some rfl rfl (fun R S hR hS => ?_) | (refine hK2 _ _ ?_; clear hK2 K2) | (refine hK2 _ _ ?_ ?_ <;> clear hK2 K2) | (refine regW_nil (hK _ _ ?_); clear hK K) | (refine regW_load rfl rfl rfl (fun F1 F2 hF1 hF2 => ?_)) | (refine hF1 _ ?_ ?_ <;> clear hF1 hF2 F1 F2) | (refine hF2 _ _ (fun K2 hK2 => ?_); clear hF1 hF2 F1 F2) | refine regW_light rfl rfl rfl (fun _ _ => rfl) (fun K2 hK2 => ?_) | refine regW_lguard rfl rfl rfl rfl (fun _ _ => rfl) (fun R S hR hS => ?_) | refine regW_heavy rfl rfl (fun K2 hK2 => ?_) | with_reducible refine log_goal ?_ | (refine hR _ (fun K2 hK2 => ?_); clear hR hS R S) | (refine hS _ ?_; clear hR hS R S) | refine good_block ?_ | refine good_skip ?_ | refine good_exit ?_ | refine good_ret ?_ | refine good_cond ?_ | refine And.intro ?_ ?_ | intro _) <;> try simp (disch := first | assumption | omega) only [go_sem, Option.map, List.isEmpty, ↓reduceIte, Nat.reduceEqDiff, Nat.reduceAdd, Nat.reduceSub, Nat.reduceMul, Nat.reduceLT, Nat.reduceLeDiff, reduceCtorEq, Nat.reduceBEq, Nat.reduceBNe, Int.reduceNeg, Int.reduceLE, Int.reduceLT, Int.reduceToNat, mk_n] | omega)
        have hK2 : KB n h1 H' (H.n + 2) (ids ++ [H.n]) (kerB rows piv n p c ++ [x]) := hK.add (x := x) (by rw [g1]; simp only [mk_n]) g2 g3 g4 g5
        refine Again.to (H', H.n + 2, ids ++ [H.n], c + 1) ⟨hcn, by rw [hB]; exact hK2⟩ (by show n - (c + 1) < n2; omega) ?_ rfl
        rw [hB, basV_ne _ (by simp), List.length_append, List.length_singleton]
        simp (disch := first | assumption | omega) only [go_sem, Option.map, List.isEmpty, ↓reduceIte, Nat.reduceEqDiff, Nat.reduceAdd, Nat.reduceSub, Nat.reduceMul, Nat.reduceLT, Nat.reduceLeDiff, reduceCtorEq, Nat.reduceBEq, Nat.reduceBNe, Int.reduceNeg, Int.reduceLE, Int.reduceLT, Int.reduceToNat]; (try (refine ⟨?_, ?_⟩ <;> omega)); (try omega)
  · have hce : c = n := by omega
    subst hce
    by_cases hM : kerB rows piv c p c = []
    · have hM0 : (kerB rows piv c p c).length = 0 := by rw [hM]; rfl
      repeat' (first | (first | refine good_seq ?_ | refine good_reg false (fun K hK => ?_) | (refine runL_nil (hK _ _ ?_); clear hK K) | refine runL_none rfl (fun K2 hK2 => ?_) | refine runL_some rfl rfl (fun R S hR hS => ?_) | (refine hK2 _ _ ?_; clear hK2 K2) | (refine hK2 _ _ ?_ ?_ <;> clear hK2 K2) | (refine regW_nil (hK _ _ ?_); clear hK K) | (refine regW_load rfl rfl rfl (fun F1 F2 hF1 hF2 => ?_)) | (refine hF1 _ ?_ ?_ <;> clear hF1 hF2 F1 F2) | (refine hF2 _ _ (fun K2 hK2 => ?_); clear hF1 hF2 F1 F2) | refine regW_light rfl rfl rfl (fun _ _ => rfl) (fun K2 hK2 => ?_) | refine regW_lguard rfl rfl rfl rfl (fun _ _ => rfl) (fun R S hR hS => ?_) | refine regW_heavy rfl rfl (fun K2 hK2 => ?_) | with_reducible refine log_goal ?_ | (refine hR _ (fun K2 hK2 => ?_); clear hR hS R S) | (refine hS _ ?_; clear hR hS R S) | refine good_block ?_ | refine good_skip ?_ | refine good_exit ?_ | refine good_ret ?_ | refine good_cond ?_ | refine And.intro ?_ ?_ | intro _) <;> try simp (disch := first | assumption | omega) only [go_sem, Option.map, List.isEmpty, ↓reduceIte, Nat.reduceEqDiff, Nat.reduceAdd, Nat.reduceSub, Nat.reduceMul, Nat.reduceLT, Nat.reduceLeDiff, reduceCtorEq, Nat.reduceBEq, Nat.reduceBNe, Int.reduceNeg, Int.reduceLE, Int.reduceLT, Int.reduceToNat, hM0] | ((first | fail) <;> try simp (disch := first | assumption | omega) only [go_sem, Option.map, List.isEmpty, ↓reduceIte, Nat.reduceEqDiff, Nat.reduceAdd, Nat.reduceSub, Nat.reduceMul, Nat.reduceLT, Nat.reduceLeDiff, reduceCtorEq, Nat.reduceBEq, Nat.reduceBNe, Int.reduceNeg, Int.reduceLE, Int.reduceLT, Int.reduceToNat, hM0]) | omega)
      exact .inl ⟨hM, he1.trans hK.ext⟩
    · have hM0 : (kerB rows piv c p c).length ≠ 0 := fun hh => hM (List.eq_nil_of_length_eq_zero hh)
      have hwM := kerB_wid (rows := rows) (piv := piv) (n := c) (p := p) c
      obtain ⟨hmo, hup⟩ := hK.mat hM hwM
      obtain ⟨f1, f2, f3, f4⟩ := hK.fO hM
      rw [basV_ne O hM]
      have hce := c_echelon O ids (kerB rows piv c p c) c p (.grow 1) H (by omega) hmo f3 (fun b hb => (hK.idr b hb).2) (by omega) (by omega) (kerB_in (by omega) c)
      repeat' (first | (first | refine good_seq ?_ | refine good_reg false (fun K hK => ?_) | (refine runL_nil (hK _ _ ?_); clear hK K) | refine runL_none rfl (fun K2 hK2 => ?_) | refine runL_some rfl rfl (fun R S hR hS => ?_) | (refine hK2 _ _ ?_; clear hK2 K2) | (refine hK2 _ _ ?_ ?_ <;> clear hK2 K2) | (refine regW_nil (hK _ _ ?_); clear hK K) | (refine regW_load rfl rfl rfl (fun F1 F2 hF1 hF2 => ?_)) | (refine hF1 _ ?_ ?_ <;> clear hF1 hF2 F1 F2) | (refine hF2 _ _ (fun K2 hK2 => ?_); clear hF1 hF2 F1 F2) | refine regW_light rfl rfl rfl (fun _ _ => rfl) (fun K2 hK2 => ?_) | refine regW_lguard rfl rfl rfl rfl (fun _ _ => rfl) (fun R S hR hS => ?_) | refine regW_heavy rfl rfl (fun K2 hK2 => ?_) | with_reducible refine log_goal ?_ | (refine hR _ (fun K2 hK2 => ?_); clear hR hS R S) | (refine hS _ ?_; clear hR hS R S) | refine good_block ?_ | refine good_skip ?_ | refine good_exit ?_ | refine good_ret ?_ | refine good_cond ?_ | refine And.intro ?_ ?_ | intro _) <;> try simp (disch := first | assumption | omega) only [go_sem, Option.map, List.isEmpty, ↓reduceIte, Nat.reduceEqDiff, Nat.reduceAdd, Nat.reduceSub, Nat.reduceMul, Nat.reduceLT, Nat.reduceLeDiff, reduceCtorEq, Nat.reduceBEq, Nat.reduceBNe, Int.reduceNeg, Int.reduceLE, Int.reduceLT, Int.reduceToNat, hM0] | ((first | (refine ACalls.heap hup ?_; refine ACalls.mono hce (fun v h' hv => ?_); obtain ⟨H2, κ, ids2, A, top, pv, rfl, hh2, hh3, hh4, hh5, hh6, hh7, hh8, hh9, hh10⟩ := hv; subst hh2)) <;> try simp (disch := first | assumption | omega) only [go_sem, Option.map, List.isEmpty, ↓reduceIte, Nat.reduceEqDiff, Nat.reduceAdd, Nat.reduceSub, Nat.reduceMul, Nat.reduceLT, Nat.reduceLeDiff, reduceCtorEq, Nat.reduceBEq, Nat.reduceBNe, Int.reduceNeg, Int.reduceLE, Int.reduceLT, Int.reduceToNat, hM0]) | omega)
      have hA : echA p (kerB rows piv c p c) = (A, top, pv) := by unfold echA; rw [hwM 0 (by omega)]; exact hh3
      exact .inr ⟨hM, H2, O, ids2, A, top, rfl, rfl, hh4, by omega, fun b hb => by have := (hK.idr b (hh5 b hb)).1; omega, (he1.trans hK.ext).trans hh6, hh9, by rw [hA], by rw [hA]⟩
theorem c_Kernel (a : List (List Int)) (p : Int) (h : AH) : ACalls Try.prog 19 [matV a, .int .i64 p] h (fun v h' => v = .tup [matV (kernM a p), .int .i64 (echE a p)] ∧ h' = h) := by
  by_cases hb : echB a p
  · have hE : echE a p = 0 := by simp [echE, hb.1, hb.2]
    rw [hE]
    by_cases hk : kerM a p = []
    · rw [show kernM a p = [] by simp [kernM, hb, hk]]
      refine ACalls.still (ACalls.mono (c_Kernel_ok a p hb h) fun v h' hv => ?_)
      rcases hv with ⟨-, rfl, he⟩ | ⟨h1, -⟩
      · exact ⟨by simp only [roA, roL]; exact Up.tup2 Up.nmat (Up.refl _), by simp [pur, purL], he⟩
      · exact absurd hk h1
    · rw [show kernM a p = (echA p (kerM a p)).1.take (echA p (kerM a p)).2.1 by simp [kernM, hb, hk]]
      refine ACalls.frozenK (ACalls.mono (c_Kernel_ok a p hb h) fun v h' hv => ?_)
      rcases hv with ⟨h1, -⟩ | ⟨-, H, O, ids, A, top, h1, h2, h3, h4, h5, h6, h7, h8, h9⟩
      · exact absurd h1 hk
      · exact ⟨H, O, ids, _, A, top, h1, h2, h3, h4, h5, h6, h7, by rw [h8, h9]⟩
  · rw [show kernM a p = [] by simp [kernM, hb]]
    refine c_Kernel_err a p ?_ h
    unfold echE
    by_cases hv : ValidP a
    · have : ¬ isP p = true := fun hp => hb ⟨hv, hp⟩
      rw [if_pos hv, if_neg this]; decide
    · rw [if_neg hv]; decide
end Go.Eng
