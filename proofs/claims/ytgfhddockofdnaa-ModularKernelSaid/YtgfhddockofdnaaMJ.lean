/- Texts W27 of an engine over abstract values and of the walks of this program, one after the other. -/
import Derived.Test.YtgfhddockofdnaaMH
open Go Go.Proofs
set_option linter.unusedVariables false
set_option linter.unusedSimpArgs false
set_option maxRecDepth 4000
set_option maxHeartbeats 40000000
namespace Go.Eng
attribute [local irreducible] Good ACalls runL regW stepW opW gdV' gdD condW gifW binW arW loadW storeW idxAW lenW appW appBW cutW onSome onBnd callW fldAW Again thenQ blockQ resW endQ Up loadR
/-! ### the reference's echelon form -/
theorem sub_zero {Y X : List Int} {p : Int} {m : Nat} (hl : Y.length = m) (hb : ∀ j, j < m → 0 ≤ Y.getD j 0 ∧ Y.getD j 0 < p) : (List.range m).map (subG Y X 0 p) = Y := by
  refine List.ext_getElem (by simp [hl]) fun j h1 h2 => ?_
  have h3 := hb j (by omega)
  have e : Y.getD j 0 = Y[j] := by simp [List.getD_eq_getElem?_getD, h2]
  rw [e] at h3
  simp only [List.getElem_map, List.getElem_range, subG, e, Int.zero_mul, Int.zero_emod, Int.sub_zero]
  exact Int.emod_eq_of_lt h3.1 h3.2
structure ER (h Hb : AH) (O : Nat) (A0 : List (List Int)) (m : Nat) (p : Int) (H : AH) (κ : Nat) (ids : List Nat) (A : List (List Int)) (top c : Nat) (piv : List Int) : Prop where
  ok : MatOk O ids m A
  len : A.length = A0.length
  sub : ∀ b ∈ ids, h.n ≤ b ∧ b < Hb.n
  hf : H.f = Hb.f
  hn : H.n = Hb.n
  ext : Ext h H
  rng : InR p m A
  wid : Wid m A
  tl : top ≤ A.length ∧ top ≤ c
  cm : c ≤ m
  acc : AccOk κ (piv.map (AV.int .i64)) H
  hk : piv ≠ [] → h.k ≤ κ
  pl : piv.length ≤ c
  spec : echL p m (m - c) A top c piv = echL p m m A0 0 0 []
theorem c_rows (a : List (List Int)) (m : Nat) (p : Int) (h : AH) (hP : isP p = true) (hl : 1 ≤ a.length ∧ a.length ≤ 1000000) (hm : 1 ≤ m ∧ m ≤ 1000000) (hr : ∀ i, i < a.length → (a.getD i []).length = m) :
    ACalls Try.prog 44 [matV a, .int .i64 p] h (fun v h' => ∃ H κ O ids A top piv, v = .tup [.bsl O 0 top .ro, accO κ (piv.map (AV.int .i64))] ∧ h' = matH H O ids m A ∧ echL p m m (redM a p) 0 0 [] = (A, top, piv) ∧ MatOk O ids m A ∧ h.n ≤ O ∧ (∀ b ∈ ids, h.n ≤ b) ∧ Ext h H ∧ A.length = a.length ∧ top ≤ A.length) := by
  have hpp := isP_spec hP
  have hp : 2 ≤ p ∧ p ≤ 2147483647 := ⟨hpp.1, hpp.2.1⟩
  obtain ⟨A0, hA0⟩ : ∃ x, x = redM a p := ⟨_, rfl⟩
  have hA0l : A0.length = a.length := by rw [hA0, redM_length]
  have hR : InR p m A0 := fun i j hi hj => by
    rw [hA0l] at hi
    rw [hA0, redM_ent a p i j hi (by rw [hr i hi]; exact hj)]
    exact ⟨Int.emod_nonneg _ (by omega), Int.emod_lt_of_pos _ (by omega)⟩
  have hW0 : Wid m A0 := fun i hi => by rw [hA0l] at hi; rw [hA0, redM_get a p i hi, List.length_map]; exact hr i hi
  rw [← hA0]
  refine acalls_of_good 2 164 [.tmp 4, .tmp 5] Try.func44 rfl rfl (by kernel_rfl) rfl rfl (by decide) ?_
  simp (disch := first | assumption | omega) only [go_sem, Option.map, List.isEmpty, ↓reduceIte, Nat.reduceEqDiff, Nat.reduceAdd, Nat.reduceSub, Nat.reduceMul, Nat.reduceLT, Nat.reduceLeDiff, reduceCtorEq, Nat.reduceBEq, Nat.reduceBNe, Int.reduceNeg, Int.reduceLE, Int.reduceLT, Int.reduceToNat]
  repeat' (first | (first | refine good_seq ?_ | refine good_reg false (fun K hK => ?_) | (refine runL_nil (hK _ _ ?_); clear hK K) | refine runL_none rfl (fun K2 hK2 => ?_) | refine runL_some rfl rfl (fun R S hR hS => ?_) | (refine hK2 _ _ ?_; clear hK2 K2) | (refine hK2 _ _ ?_ ?_ <;> clear hK2 K2) | (refine regW_nil (hK _ _ ?_); clear hK K) | (refine regW_load rfl rfl rfl (fun F1 F2 hF1 hF2 => ?_)) | (refine hF1 _ ?_ ?_ <;> clear hF1 hF2 F1 F2) | (refine hF2 _ _ (fun K2 hK2 => ?_); clear hF1 hF2 F1 F2) | refine regW_light rfl rfl rfl (fun _ _ => rfl) (fun K2 hK2 => ?_) | refine regW_lguard rfl rfl rfl rfl (fun _ _ => rfl) (fun R S hR hS => ?_) | refine regW_heavy rfl rfl (fun K2 hK2 => ?_) | with_reducible refine log_goal ?_ | (refine hR _ (fun K2 hK2 => ?_); clear hR hS R S) | (refine hS _ ?_; clear hR hS R S) | refine good_block ?_ | refine good_skip ?_ | refine good_exit ?_ | refine good_ret ?_ | refine good_cond ?_ | refine And.intro ?_ ?_ | intro _) <;> try simp (disch := first | assumption | omega) only [go_sem, Option.map, List.isEmpty, ↓reduceIte, Nat.reduceEqDiff, Nat.reduceAdd, Nat.reduceSub, Nat.reduceMul, Nat.reduceLT, Nat.reduceLeDiff, reduceCtorEq, Nat.reduceBEq, Nat.reduceBNe, Int.reduceNeg, Int.reduceLE, Int.reduceLT, Int.reduceToNat] | ((first | (refine ACalls.mono (c_ReduceB a m p (by omega) (by omega) (by omega) hr _) (fun v h' hv => ?_); obtain ⟨O, ids0, rfl, hKC⟩ := hv; rw [basL_pos O (by omega)])) <;> try simp (disch := first | assumption | omega) only [go_sem, Option.map, List.isEmpty, ↓reduceIte, Nat.reduceEqDiff, Nat.reduceAdd, Nat.reduceSub, Nat.reduceMul, Nat.reduceLT, Nat.reduceLeDiff, reduceCtorEq, Nat.reduceBEq, Nat.reduceBNe, Int.reduceNeg, Int.reduceLE, Int.reduceLT, Int.reduceToNat]) | omega)
  rename AH => Hb
  rw [← hA0] at hKC
  obtain ⟨hok0, hup⟩ := hKC.mat (by omega) hW0
  obtain ⟨-, hOn, hOb, -⟩ := hKC.fO (by omega)
  refine good_up hup ?_
  have hE0 : ER h Hb O A0 m p Hb 0 ids0 A0 0 0 [] :=
    ⟨hok0, rfl, hKC.idr, rfl, rfl, hKC.ext, hR, hW0, ⟨Nat.zero_le _, Nat.le_refl _⟩, Nat.zero_le _, .inl rfl, fun h => absurd rfl h, Nat.zero_le _, rfl⟩
  rw [← hA0l]
  refine good_loop_s (σ := AH × Nat × List Nat × List (List Int) × Nat × Nat × List Int) (fun s => [(0, .bsl O 0 A0.length (.grow 1)), (1, .int .i64 p), (6, accO s.2.1 (s.2.2.2.2.2.2.map (AV.int .i64))), (7, .int .i64 s.2.2.2.2.1), (8, .int .i64 s.2.2.2.2.2.1)])
    (fun s => matH s.1 O s.2.2.1 m s.2.2.2.1) (fun s => ER h Hb O A0 m p s.1 s.2.1 s.2.2.1 s.2.2.2.1 s.2.2.2.2.1 s.2.2.2.2.2.1 s.2.2.2.2.2.2) (fun s => m - s.2.2.2.2.2.1) (Hb, 0, ids0, A0, 0, 0, []) ?_ rfl hE0 ?_
  · simp (disch := first | assumption | omega) only [go_sem, Option.map, List.isEmpty, ↓reduceIte, Nat.reduceEqDiff, Nat.reduceAdd, Nat.reduceSub, Nat.reduceMul, Nat.reduceLT, Nat.reduceLeDiff, reduceCtorEq, Nat.reduceBEq, Nat.reduceBNe, Int.reduceNeg, Int.reduceLE, Int.reduceLT, Int.reduceToNat]; (try (refine ⟨?_, ?_⟩ <;> omega)); (try omega)
  rintro ⟨H, κ, ids, A, top, c, piv⟩ hE n hn
  dsimp only at hE hn ⊢
  have hok := hE.ok
  have hlen := hE.len
  have hil : ids.length = A0.length := by rw [hok.len, hlen]
  have htl := hE.tl
  have hcm := hE.cm
  have hpl := hE.pl
  have hwid := hE.wid
  have hrl : ∀ i, i < A0.length → (A.getD i []).length = m := fun i hi => hwid i (by omega)
  by_cases hfin : c < m ∧ top < A0.length
  rotate_left
  · repeat' (first | (first | refine good_seq ?_ | refine good_reg false (fun K hK => ?_) | (refine runL_nil (hK _ _ ?_); clear hK K) | refine runL_none rfl (fun K2 hK2 => ?_) | refine runL_some rfl rfl (fun R S hR hS => ?_) | (refine hK2 _ _ ?_; clear hK2 K2) | (refine hK2 _ _ ?_ ?_ <;> clear hK2 K2) | (refine regW_nil (hK _ _ ?_); clear hK K) | (refine regW_load rfl rfl rfl (fun F1 F2 hF1 hF2 => ?_)) | (refine hF1 _ ?_ ?_ <;> clear hF1 hF2 F1 F2) | (refine hF2 _ _ (fun K2 hK2 => ?_); clear hF1 hF2 F1 F2) | refine regW_light rfl rfl rfl (fun _ _ => rfl) (fun K2 hK2 => ?_) | refine regW_lguard rfl rfl rfl rfl (fun _ _ => rfl) (fun R S hR hS => ?_) | refine regW_heavy rfl rfl (fun K2 hK2 => ?_) | with_reducible refine log_goal ?_ | (refine hR _ (fun K2 hK2 => ?_); clear hR hS R S) | (refine hS _ ?_; clear hR hS R S) | refine good_block ?_ | refine good_skip ?_ | refine good_exit ?_ | refine good_ret ?_ | refine good_cond ?_ | refine And.intro ?_ ?_ | intro _) <;> try simp (disch := first | assumption | omega) only [go_sem, Option.map, List.isEmpty, ↓reduceIte, Nat.reduceEqDiff, Nat.reduceAdd, Nat.reduceSub, Nat.reduceMul, Nat.reduceLT, Nat.reduceLeDiff, reduceCtorEq, Nat.reduceBEq, Nat.reduceBNe, Int.reduceNeg, Int.reduceLE, Int.reduceLT, Int.reduceToNat] | omega)
    all_goals exact ⟨H, κ, O, ids, A, top, piv, by simp, rfl, by rw [← hE.spec]; exact ech_stop (by omega), hok, hOn, fun b hb => (hE.sub b hb).1, hE.ext, hlen, htl.1⟩
  · repeat' (first | (first | refine good_seq ?_ | refine good_reg false (fun K hK => ?_) | (refine runL_nil (hK _ _ ?_); clear hK K) | refine runL_none rfl (fun K2 hK2 => ?_) | refine runL_some rfl rfl (fun R S hR hS => ?_) | (refine hK2 _ _ ?_; clear hK2 K2) | (refine hK2 _ _ ?_ ?_ <;> clear hK2 K2) | (refine regW_nil (hK _ _ ?_); clear hK K) | (refine regW_load rfl rfl rfl (fun F1 F2 hF1 hF2 => ?_)) | (refine hF1 _ ?_ ?_ <;> clear hF1 hF2 F1 F2) | (refine hF2 _ _ (fun K2 hK2 => ?_); clear hF1 hF2 F1 F2) | refine regW_light rfl rfl rfl (fun _ _ => rfl) (fun K2 hK2 => ?_) | refine regW_lguard rfl rfl rfl rfl (fun _ _ => rfl) (fun R S hR hS => ?_) | refine regW_heavy rfl rfl (fun K2 hK2 => ?_) | with_reducible refine log_goal ?_ | (refine hR _ (fun K2 hK2 => ?_); clear hR hS R S) | (refine hS _ ?_; clear hR hS R S) | refine good_block ?_ | refine good_skip ?_ | refine good_exit ?_ | refine good_ret ?_ | refine good_cond ?_ | refine And.intro ?_ ?_ | intro _) <;> try simp (disch := first | assumption | omega) only [go_sem, Option.map, List.isEmpty, ↓reduceIte, Nat.reduceEqDiff, Nat.reduceAdd, Nat.reduceSub, Nat.reduceMul, Nat.reduceLT, Nat.reduceLeDiff, reduceCtorEq, Nat.reduceBEq, Nat.reduceBNe, Int.reduceNeg, Int.reduceLE, Int.reduceLT, Int.reduceToNat] | omega)
    refine good_loop_s (σ := Nat) (fun i => [(0, .bsl O 0 A0.length (.grow 1)), (1, .int .i64 p), (6, accO κ (piv.map (AV.int .i64))), (7, .int .i64 top), (8, .int .i64 c), (9, .int .i64 i)]) (fun _ => matH H O ids m A)
      (fun i => (top ≤ i ∧ i ≤ A0.length) ∧ fnzG A c (A.length - i) i = fnz A c top) (fun i => A0.length - i) top ?_ rfl ⟨⟨by omega, by omega⟩, rfl⟩ ?_
    · simp (disch := first | assumption | omega) only [go_sem, Option.map, List.isEmpty, ↓reduceIte, Nat.reduceEqDiff, Nat.reduceAdd, Nat.reduceSub, Nat.reduceMul, Nat.reduceLT, Nat.reduceLeDiff, reduceCtorEq, Nat.reduceBEq, Nat.reduceBNe, Int.reduceNeg, Int.reduceLE, Int.reduceLT, Int.reduceToNat]; (try (refine ⟨?_, ?_⟩ <;> omega)); (try omega)
    rintro i ⟨hi, hfz⟩ n2 hn2
    have hril := hrl i
    by_cases hia : i = A0.length
    · have hE2 : ER h Hb O A0 m p H κ ids A top (c + 1) piv := ⟨hok, hlen, hE.sub, hE.hf, hE.hn, hE.ext, hE.rng, hwid, ⟨htl.1, by omega⟩, by omega, hE.acc, hE.hk, by omega, by
        rw [← hE.spec]
        exact (ech_skip hfin.1 (by omega) (by rw [← hfz, fnzG_end (by omega)]; omega)).symm⟩
      have hmu : m - (c + 1) < n := by omega
      repeat' (first | (first | refine good_seq ?_ | refine good_reg false (fun K hK => ?_) | (refine runL_nil (hK _ _ ?_); clear hK K) | refine runL_none rfl (fun K2 hK2 => ?_) | refine runL_some rfl rfl (fun R S hR hS => ?_) | (refine hK2 _ _ ?_; clear hK2 K2) | (refine hK2 _ _ ?_ ?_ <;> clear hK2 K2) | (refine regW_nil (hK _ _ ?_); clear hK K) | (refine regW_load rfl rfl rfl (fun F1 F2 hF1 hF2 => ?_)) | (refine hF1 _ ?_ ?_ <;> clear hF1 hF2 F1 F2) | (refine hF2 _ _ (fun K2 hK2 => ?_); clear hF1 hF2 F1 F2) | refine regW_light rfl rfl rfl (fun _ _ => rfl) (fun K2 hK2 => ?_) | refine regW_lguard rfl rfl rfl rfl (fun _ _ => rfl) (fun R S hR hS => ?_) | refine regW_heavy rfl rfl (fun K2 hK2 => ?_) | with_reducible refine log_goal ?_ | (refine hR _ (fun K2 hK2 => ?_); clear hR hS R S) | (refine hS _ ?_; clear hR hS R S) | refine good_block ?_ | refine good_skip ?_ | refine good_exit ?_ | refine good_ret ?_ | refine good_cond ?_ | refine And.intro ?_ ?_ | intro _) <;> try simp (disch := first | assumption | omega) only [go_sem, Option.map, List.isEmpty, ↓reduceIte, Nat.reduceEqDiff, Nat.reduceAdd, Nat.reduceSub, Nat.reduceMul, Nat.reduceLT, Nat.reduceLeDiff, reduceCtorEq, Nat.reduceBEq, Nat.reduceBNe, Int.reduceNeg, Int.reduceLE, Int.reduceLT, Int.reduceToNat] | omega)
      refine Again.to (H, κ, ids, A, top, c + 1, piv) hE2 hmu ?_ rfl
      simp (disch := first | assumption | omega) only [go_sem, Option.map, List.isEmpty, ↓reduceIte, Nat.reduceEqDiff, Nat.reduceAdd, Nat.reduceSub, Nat.reduceMul, Nat.reduceLT, Nat.reduceLeDiff, reduceCtorEq, Nat.reduceBEq, Nat.reduceBNe, Int.reduceNeg, Int.reduceLE, Int.reduceLT, Int.reduceToNat]; (try (refine ⟨?_, ?_⟩ <;> omega)); (try omega)
    by_cases hiz : (A.getD i []).getD c 0 = 0
    · repeat' (first | (first | refine good_seq ?_ | refine good_reg false (fun K hK => ?_) | (refine runL_nil (hK _ _ ?_); clear hK K) | refine runL_none rfl (fun K2 hK2 => ?_) | refine runL_some rfl rfl (fun R S hR hS => ?_) | (refine hK2 _ _ ?_; clear hK2 K2) | (refine hK2 _ _ ?_ ?_ <;> clear hK2 K2) | (refine regW_nil (hK _ _ ?_); clear hK K) | (refine regW_load rfl rfl rfl (fun F1 F2 hF1 hF2 => ?_)) | (refine hF1 _ ?_ ?_ <;> clear hF1 hF2 F1 F2) | (refine hF2 _ _ (fun K2 hK2 => ?_); clear hF1 hF2 F1 F2) | refine regW_light rfl rfl rfl (fun _ _ => rfl) (fun K2 hK2 => ?_) | refine regW_lguard rfl rfl rfl rfl (fun _ _ => rfl) (fun R S hR hS => ?_) | refine regW_heavy rfl rfl (fun K2 hK2 => ?_) | with_reducible refine log_goal ?_ | (refine hR _ (fun K2 hK2 => ?_); clear hR hS R S) | (refine hS _ ?_; clear hR hS R S) | refine good_block ?_ | refine good_skip ?_ | refine good_exit ?_ | refine good_ret ?_ | refine good_cond ?_ | refine And.intro ?_ ?_ | intro _) <;> try simp (disch := first | assumption | omega) only [go_sem, Option.map, List.isEmpty, ↓reduceIte, Nat.reduceEqDiff, Nat.reduceAdd, Nat.reduceSub, Nat.reduceMul, Nat.reduceLT, Nat.reduceLeDiff, reduceCtorEq, Nat.reduceBEq, Nat.reduceBNe, Int.reduceNeg, Int.reduceLE, Int.reduceLT, Int.reduceToNat, hiz] | ((first | fail) <;> try simp (disch := first | assumption | omega) only [go_sem, Option.map, List.isEmpty, ↓reduceIte, Nat.reduceEqDiff, Nat.reduceAdd, Nat.reduceSub, Nat.reduceMul, Nat.reduceLT, Nat.reduceLeDiff, reduceCtorEq, Nat.reduceBEq, Nat.reduceBNe, Int.reduceNeg, Int.reduceLE, Int.reduceLT, Int.reduceToNat, hiz]) | omega)
      refine Again.to (i + 1) ⟨by omega, ?_⟩ (by omega) ?_ rfl
      · rw [← hfz]; exact (fnzG_zero (by omega) hiz).symm
      · simp (disch := first | assumption | omega) only [go_sem, Option.map, List.isEmpty, ↓reduceIte, Nat.reduceEqDiff, Nat.reduceAdd, Nat.reduceSub, Nat.reduceMul, Nat.reduceLT, Nat.reduceLeDiff, reduceCtorEq, Nat.reduceBEq, Nat.reduceBNe, Int.reduceNeg, Int.reduceLE, Int.reduceLT, Int.reduceToNat]; (try (refine ⟨?_, ?_⟩ <;> omega)); (try omega)
    have hfi : fnz A c top = i := by rw [← hfz]; exact fnzG_here (by omega) hiz
    obtain ⟨ids1, hids1⟩ : ∃ x, x = swp 0 ids top i := ⟨_, rfl⟩
    obtain ⟨A1, hA1⟩ : ∃ x, x = swp [] A top i := ⟨_, rfl⟩
    have hsw : (matH H O ids m A).put O (((rowsC ids m).set top (.bsl (ids.getD i 0) 0 m .ro)).set i (.bsl (ids.getD top 0) 0 m .ro)) = matH H O ids1 m A1 := by rw [hids1, hA1]; exact matH_swp hok (by omega) (by omega)
    have hok1 : MatOk O ids1 m A1 := by rw [hids1, hA1]; exact hok.swp (by omega) (by omega)
    have hl1 : ids1.length = A0.length := by rw [hids1, swp_length, hil]
    have hA1l : A1.length = A0.length := by rw [hA1, swp_length, hlen]
    have hw1 : Wid m A1 := by rw [hA1]; exact hwid.swp (by omega) (by omega)
    have hR1 : InR p m A1 := by rw [hA1]; exact hE.rng.swp (by omega) (by omega)
    have hsub1 : ∀ b ∈ ids1, h.n ≤ b ∧ b < Hb.n := fun b hb => hE.sub b (by rw [hids1] at hb; exact swp_mem 0 ids (by omega) (by omega) hb)
    have ht1 : (A1.getD top []).length = m := hw1 top (by omega)
    have hA1t : A1.getD top [] = A.getD i [] := by
      rw [hA1, swp_get [] A (by omega) (by omega)]
      congr 1
      unfold sw; split
      · omega
      · rw [if_pos rfl]
    have hin := hR1 top c (by omega) (by omega)
    have hin0 : 0 < (A1.getD top []).getD c 0 ∧ (A1.getD top []).getD c 0 < p := by
      have : (A1.getD top []).getD c 0 ≠ 0 := by rw [hA1t]; exact hiz
      omega
    have hfb := invF_bd ((A1.getD top []).getD c 0) hp.1
    have hc1 : c < m := hfin.1
    have htn : top < A0.length := hfin.2
    repeat' (first | (first | refine good_seq ?_ | refine good_reg false (fun K hK => ?_) | (refine runL_nil (hK _ _ ?_); clear hK K) | refine runL_none rfl (fun K2 hK2 => ?_) | refine runL_some rfl rfl (fun R S hR hS => ?_) | (refine hK2 _ _ ?_; clear hK2 K2) | (refine hK2 _ _ ?_ ?_ <;> clear hK2 K2) | (refine regW_nil (hK _ _ ?_); clear hK K) | (refine regW_load rfl rfl rfl (fun F1 F2 hF1 hF2 => ?_)) | (refine hF1 _ ?_ ?_ <;> clear hF1 hF2 F1 F2) | (refine hF2 _ _ (fun K2 hK2 => ?_); clear hF1 hF2 F1 F2) | refine regW_light rfl rfl rfl (fun _ _ => rfl) (fun K2 hK2 => ?_) | refine regW_lguard rfl rfl rfl rfl (fun _ _ => rfl) (fun R S hR hS => ?_) | refine regW_heavy rfl rfl (fun K2 hK2 => ?_) | with_reducible refine log_goal ?_ | (refine hR _ (fun K2 hK2 => ?_); clear hR hS R S) | (refine hS _ ?_; clear hR hS R S) | refine good_block ?_ | refine good_skip ?_ | refine good_exit ?_ | refine good_ret ?_ | refine good_cond ?_ | refine And.intro ?_ ?_ | intro _) <;> try simp (disch := first | assumption | omega) only [go_sem, Option.map, List.isEmpty, ↓reduceIte, Nat.reduceEqDiff, Nat.reduceAdd, Nat.reduceSub, Nat.reduceMul, Nat.reduceLT, Nat.reduceLeDiff, reduceCtorEq, Nat.reduceBEq, Nat.reduceBNe, Int.reduceNeg, Int.reduceLE, Int.reduceLT, Int.reduceToNat, hsw] | ((first | refine good_drw (id := 11) mixed false [[], [], [], [], [], [], [4, 5], [4, 5, 6], [], [], [8, 9], [8, 9, 10], [0, 1, 4, 5, 6, 7, 8, 9, 10, 11], [0, 1, 4, 5, 6, 7, 8, 9, 10, 11, 12], [0, 1, 2, 3, 4, 5, 6, 7, 8, 9, 10, 11, 12, 13], [0, 1, 2, 3, 4, 5, 6, 7, 8, 9, 10, 11, 12, 13, 14]] [0, 1, 2, 3, 4, 5, 6, 7, 8, 9, 10, 11, 12, 13, 14, 15] (by decide +kernel) (fun K hK => ?_) | refine good_drw (id := 16) mixed false [[], [], [0, 1], [0, 1, 2], [], [], [], [5, 6], [5, 6, 7], [], [5, 6, 7, 8, 9], [5, 6, 7, 8, 9, 10], [], [5, 6, 7, 8, 9, 10, 11, 12], [], [5, 6, 7, 8, 9, 10, 11, 12, 13, 14], [0, 1, 2, 3, 4, 5, 6, 7, 8, 9, 10, 11, 12, 13, 14, 15], [0, 1, 2, 3, 4, 5, 6, 7, 8, 9, 10, 11, 12, 13, 14, 15, 16]] [0, 1, 2, 3, 4, 5, 6, 7, 8, 9, 10, 11, 12, 13, 14, 15, 16, 17] (by decide +kernel) (fun K hK => ?_) | refine good_drw (id := 26) mixed false [[], [], [0, 1], [0, 1, 2], [], [], [], [5, 6], [5, 6, 7], [], [5, 6, 7, 8, 9], [5, 6, 7, 8, 9, 10], [], [], [], [13, 14], [13, 14, 15], [], [13, 14, 15, 16, 17], [13, 14, 15, 16, 17, 18], [12, 13, 14, 15, 16, 17, 18, 19], [], [12, 13, 14, 15, 16, 17, 18, 19, 20, 21], [5, 6, 7, 8, 9, 10, 11, 12, 13, 14, 15, 16, 17, 18, 19, 20, 21, 22], [], [5, 6, 7, 8, 9, 10, 11, 12, 13, 14, 15, 16, 17, 18, 19, 20, 21, 22, 23, 24], [0, 1, 2, 3, 4, 5, 6, 7, 8, 9, 10, 11, 12, 13, 14, 15, 16, 17, 18, 19, 20, 21, 22, 23, 24, 25], [0, 1, 2, 3, 4, 5, 6, 7, 8, 9, 10, 11, 12, 13, 14, 15, 16, 17, 18, 19, 20, 21, 22, 23, 24, 25, 26]] [0, 1, 2, 3, 4, 5, 6, 7, 8, 9, 10, 11, 12, 13, 14, 15, 16, 17, 18, 19, 20, 21, 22, 23, 24, 25, 26, 27] (by decide +kernel) (fun K hK => ?_) | (refine ACalls.mono (c_rinv _ p hP hin0 _) (fun v h' hv => ?_); obtain ⟨rfl, hh⟩ := hv; subst h')) <;> try simp (disch := first | assumption | omega) only [go_sem, Option.map, List.isEmpty, ↓reduceIte, Nat.reduceEqDiff, Nat.reduceAdd, Nat.reduceSub, Nat.reduceMul, Nat.reduceLT, Nat.reduceLeDiff, reduceCtorEq, Nat.reduceBEq, Nat.reduceBNe, Int.reduceNeg, Int.reduceLE, Int.reduceLT, Int.reduceToNat, hsw]) | omega)
    refine good_loop_s (σ := Nat) (fun k => [(0, .bsl O 0 A0.length (.grow 1)), (1, .int .i64 p), (6, accO κ (piv.map (AV.int .i64))), (7, .int .i64 top), (8, .int .i64 c), (10, .int .i64 (invF ((A1.getD top []).getD c 0) p)), (80, .int .i64 m), (81, .int .i64 k)])
      (fun k => matH H O ids1 m (A1.set top (upto (scaleF (A1.getD top []) (invF ((A1.getD top []).getD c 0) p) p) (A1.getD top []) k))) (fun k => k ≤ m) (fun k => m - k) 0 ?_ ?_ (Nat.zero_le _) ?_
    · simp (disch := first | assumption | omega) only [go_sem, Option.map, List.isEmpty, ↓reduceIte, Nat.reduceEqDiff, Nat.reduceAdd, Nat.reduceSub, Nat.reduceMul, Nat.reduceLT, Nat.reduceLeDiff, reduceCtorEq, Nat.reduceBEq, Nat.reduceBNe, Int.reduceNeg, Int.reduceLE, Int.reduceLT, Int.reduceToNat]; (try (refine ⟨?_, ?_⟩ <;> omega)); (try omega)
    · simp only [upto_zero]; rw [set_same (by omega)]
    intro k hk n3 hn3
    obtain ⟨f, hf⟩ : ∃ x, x = invF ((A1.getD top []).getD c 0) p := ⟨_, rfl⟩
    rw [← hf] at hfb ⊢
    obtain ⟨r, hrr⟩ : ∃ x, x = A1.getD top [] := ⟨_, rfl⟩
    rw [← hrr] at ht1 ⊢
    have hul := upto_length (scaleF r f p) r (k := k) (by omega)
    have hge := upto_ge (scaleF r f p) r (Nat.le_refl k)
    have hok2 := hok1.set top (r := upto (scaleF r f p) r k) (by omega)
    have htp : (A1.set top (upto (scaleF r f p) r k)).getD top [] = upto (scaleF r f p) r k := getD_setM _ _ _ (by omega)
    by_cases hkm : k < m
    · have b2 := hR1 top k (by omega) hkm
      rw [← hrr] at b2
      have b3 := mul_bd hp.2 b2 hfb
      have b4 : (r.getD k 0 * f).tmod p = r.getD k 0 * f % p := tmod_nn b3.1
      (try clear hfi); (try clear hfz); (try clear hiz); (try clear hia); (try clear hril); (try clear hi); (try clear hids1); (try clear hA1); (try clear hA1t); (try clear hin0); (try clear hin); (try clear hrl); (try clear hwid); (try clear hok); (try clear hE); (try clear hE0); (try clear hup); (try clear hok0); (try clear hKC); (try clear hpl); (try clear hcm); (try clear hsub1); (try clear hw1); (try clear hR1); (try clear hw2); (try clear hR2); (try clear hA2'); (try clear hR); (try clear hW0); (try clear hpp); (try clear hsw)
      repeat' (first | (first | refine good_seq ?_ | refine good_reg false (fun K hK => ?_) | (refine runL_nil (hK _ _ ?_); clear hK K) | refine runL_none rfl (fun K2 hK2 => ?_) | refine runL_some rfl rfl (fun R S hR hS => ?_) | (refine hK2 _ _ ?_; clear hK2 K2) | (refine hK2 _ _ ?_ ?_ <;> clear hK2 K2) | (refine regW_nil (hK _ _ ?_); clear hK K) | (refine regW_load rfl rfl rfl (fun F1 F2 hF1 hF2 => ?_)) | (refine hF1 _ ?_ ?_ <;> clear hF1 hF2 F1 F2) | (refine hF2 _ _ (fun K2 hK2 => ?_); clear hF1 hF2 F1 F2) | refine regW_light rfl rfl rfl (fun _ _ => rfl) (fun K2 hK2 => ?_) | refine regW_lguard rfl rfl rfl rfl (fun _ _ => rfl) (fun R S hR hS => ?_) | refine regW_heavy rfl rfl (fun K2 hK2 => ?_) | with_reducible refine log_goal ?_ | (refine hR _ (fun K2 hK2 => ?_); clear hR hS R S) | (refine hS _ ?_; clear hR hS R S) | refine good_block ?_ | refine good_skip ?_ | refine good_exit ?_ | refine good_ret ?_ | refine good_cond ?_ | refine And.intro ?_ ?_ | intro _) <;> try simp (disch := first | assumption | omega) only [go_sem, Option.map, List.isEmpty, ↓reduceIte, Nat.reduceEqDiff, Nat.reduceAdd, Nat.reduceSub, Nat.reduceMul, Nat.reduceLT, Nat.reduceLeDiff, reduceCtorEq, Nat.reduceBEq, Nat.reduceBNe, Int.reduceNeg, Int.reduceLE, Int.reduceLT, Int.reduceToNat, htp, hge, b4, List.set_set] | ((first | refine good_drw (id := 11) mixed false [[], [], [], [], [], [], [4, 5], [4, 5, 6], [], [], [8, 9], [8, 9, 10], [0, 1, 4, 5, 6, 7, 8, 9, 10, 11], [0, 1, 4, 5, 6, 7, 8, 9, 10, 11, 12], [0, 1, 2, 3, 4, 5, 6, 7, 8, 9, 10, 11, 12, 13], [0, 1, 2, 3, 4, 5, 6, 7, 8, 9, 10, 11, 12, 13, 14]] [0, 1, 2, 3, 4, 5, 6, 7, 8, 9, 10, 11, 12, 13, 14, 15] (by decide +kernel) (fun K hK => ?_) | refine good_drw (id := 16) mixed false [[], [], [0, 1], [0, 1, 2], [], [], [], [5, 6], [5, 6, 7], [], [5, 6, 7, 8, 9], [5, 6, 7, 8, 9, 10], [], [5, 6, 7, 8, 9, 10, 11, 12], [], [5, 6, 7, 8, 9, 10, 11, 12, 13, 14], [0, 1, 2, 3, 4, 5, 6, 7, 8, 9, 10, 11, 12, 13, 14, 15], [0, 1, 2, 3, 4, 5, 6, 7, 8, 9, 10, 11, 12, 13, 14, 15, 16]] [0, 1, 2, 3, 4, 5, 6, 7, 8, 9, 10, 11, 12, 13, 14, 15, 16, 17] (by decide +kernel) (fun K hK => ?_) | refine good_drw (id := 26) mixed false [[], [], [0, 1], [0, 1, 2], [], [], [], [5, 6], [5, 6, 7], [], [5, 6, 7, 8, 9], [5, 6, 7, 8, 9, 10], [], [], [], [13, 14], [13, 14, 15], [], [13, 14, 15, 16, 17], [13, 14, 15, 16, 17, 18], [12, 13, 14, 15, 16, 17, 18, 19], [], [12, 13, 14, 15, 16, 17, 18, 19, 20, 21], [5, 6, 7, 8, 9, 10, 11, 12, 13, 14, 15, 16, 17, 18, 19, 20, 21, 22], [], [5, 6, 7, 8, 9, 10, 11, 12, 13, 14, 15, 16, 17, 18, 19, 20, 21, 22, 23, 24], [0, 1, 2, 3, 4, 5, 6, 7, 8, 9, 10, 11, 12, 13, 14, 15, 16, 17, 18, 19, 20, 21, 22, 23, 24, 25], [0, 1, 2, 3, 4, 5, 6, 7, 8, 9, 10, 11, 12, 13, 14, 15, 16, 17, 18, 19, 20, 21, 22, 23, 24, 25, 26]] [0, 1, 2, 3, 4, 5, 6, 7, 8, 9, 10, 11, 12, 13, 14, 15, 16, 17, 18, 19, 20, 21, 22, 23, 24, 25, 26, 27] (by decide +kernel) (fun K hK => ?_)) <;> try simp (disch := first | assumption | omega) only [go_sem, Option.map, List.isEmpty, ↓reduceIte, Nat.reduceEqDiff, Nat.reduceAdd, Nat.reduceSub, Nat.reduceMul, Nat.reduceLT, Nat.reduceLeDiff, reduceCtorEq, Nat.reduceBEq, Nat.reduceBNe, Int.reduceNeg, Int.reduceLE, Int.reduceLT, Int.reduceToNat, htp, hge, b4, List.set_set]) | omega)
      refine Again.to (k + 1) (by omega) (by omega) ?_ ?_
      · simp (disch := first | assumption | omega) only [go_sem, Option.map, List.isEmpty, ↓reduceIte, Nat.reduceEqDiff, Nat.reduceAdd, Nat.reduceSub, Nat.reduceMul, Nat.reduceLT, Nat.reduceLeDiff, reduceCtorEq, Nat.reduceBEq, Nat.reduceBNe, Int.reduceNeg, Int.reduceLE, Int.reduceLT, Int.reduceToNat]; (try (refine ⟨?_, ?_⟩ <;> omega)); (try omega)
      · rw [← upto_set (scaleF r f p) r (by omega)]; rfl
    have hkm' : k = m := by omega
    subst hkm'
    obtain ⟨A2, hA2⟩ : ∃ x, x = A1.set top (upto (scaleF r f p) r k) := ⟨_, rfl⟩
    have hA2' : A2 = scaled A1 top c k p := by rw [hA2, upto_full _ _ ht1, scaled, ← hf, ← hrr]; rfl
    have hA2l : A2.length = A0.length := by rw [hA2, List.length_set, hA1l]
    have hw2 : Wid k A2 := by rw [hA2]; exact hw1.set _ (by omega)
    have hR2 : InR p k A2 := by
      rw [hA2, upto_full _ _ ht1]
      exact hR1.set _ fun j hj => by rw [map_range_get _ hj]; exact ⟨Int.emod_nonneg _ (by omega), Int.emod_lt_of_pos _ (by omega)⟩
    rw [← hA2] at hok2 htp ⊢
    clear hin0 hA1t hsw hE0 hup hok0 hKC hul hge hfb
    repeat' (first | (first | refine good_seq ?_ | refine good_reg false (fun K hK => ?_) | (refine runL_nil (hK _ _ ?_); clear hK K) | refine runL_none rfl (fun K2 hK2 => ?_) | refine runL_some rfl rfl (fun R S hR hS => ?_) | (refine hK2 _ _ ?_; clear hK2 K2) | (refine hK2 _ _ ?_ ?_ <;> clear hK2 K2) | (refine regW_nil (hK _ _ ?_); clear hK K) | (refine regW_load rfl rfl rfl (fun F1 F2 hF1 hF2 => ?_)) | (refine hF1 _ ?_ ?_ <;> clear hF1 hF2 F1 F2) | (refine hF2 _ _ (fun K2 hK2 => ?_); clear hF1 hF2 F1 F2) | refine regW_light rfl rfl rfl (fun _ _ => rfl) (fun K2 hK2 => ?_) | refine regW_lguard rfl rfl rfl rfl (fun _ _ => rfl) (fun R S hR hS => ?_) | refine regW_heavy rfl rfl (fun K2 hK2 => ?_) | with_reducible refine log_goal ?_ | (refine hR _ (fun K2 hK2 => ?_); clear hR hS R S) | (refine hS _ ?_; clear hR hS R S) | refine good_block ?_ | refine good_skip ?_ | refine good_exit ?_ | refine good_ret ?_ | refine good_cond ?_ | refine And.intro ?_ ?_ | intro _) <;> try simp (disch := first | assumption | omega) only [go_sem, Option.map, List.isEmpty, ↓reduceIte, Nat.reduceEqDiff, Nat.reduceAdd, Nat.reduceSub, Nat.reduceMul, Nat.reduceLT, Nat.reduceLeDiff, reduceCtorEq, Nat.reduceBEq, Nat.reduceBNe, Int.reduceNeg, Int.reduceLE, Int.reduceLT, Int.reduceToNat] | omega)
    refine good_loop_s (σ := Nat) (fun q => [(0, .bsl O 0 A0.length (.grow 1)), (1, .int .i64 p), (6, accO κ (piv.map (AV.int .i64))), (7, .int .i64 top), (8, .int .i64 c), (103, .int .i64 A0.length), (104, .int .i64 q)])
      (fun q => matH H O ids1 k (elimM A2 top c k p q)) (fun q => q ≤ A0.length) (fun q => A0.length - q) 0 ?_ ?_ (Nat.zero_le _) ?_
    · simp (disch := first | assumption | omega) only [go_sem, Option.map, List.isEmpty, ↓reduceIte, Nat.reduceEqDiff, Nat.reduceAdd, Nat.reduceSub, Nat.reduceMul, Nat.reduceLT, Nat.reduceLeDiff, reduceCtorEq, Nat.reduceBEq, Nat.reduceBNe, Int.reduceNeg, Int.reduceLE, Int.reduceLT, Int.reduceToNat]; (try (refine ⟨?_, ?_⟩ <;> omega)); (try omega)
    · simp only [elim_zero]
    intro q hq n4 hn4
    obtain ⟨E, hE4⟩ : ∃ x, x = elimM A2 top c k p q := ⟨_, rfl⟩
    have hwE : Wid k E := by rw [hE4]; exact elim_wid hw2 (by omega)
    have hRE : InR p k E := by rw [hE4]; exact elim_in (by omega) hR2 (by omega)
    have hEl : E.length = A0.length := by rw [hE4, elim_length (by omega), hA2l]
    have hokE : MatOk O ids1 k E := ⟨hok1.nodup, hok1.out, by omega, fun x hx => by
      obtain ⟨j, hj, rfl⟩ := List.mem_iff_getElem.1 hx
      have := hwE j hj
      simpa [List.getD_eq_getElem?_getD, hj] using this⟩
    have hEt : E.getD top [] = A2.getD top [] := by rw [hE4]; exact elim_top
    rw [← hE4]
    by_cases hqn : q < A0.length
    · have hEq : E.getD q [] = A2.getD q [] := by rw [hE4]; exact elim_ge (by omega)
      have hlq := hwE q (by omega)
      have hlt := hwE top (by omega)
      obtain ⟨Y, hY⟩ : ∃ x, x = E.getD q [] := ⟨_, rfl⟩
      obtain ⟨X, hX⟩ : ∃ x, x = E.getD top [] := ⟨_, rfl⟩
      rw [← hY] at hlq
      rw [← hX] at hlt
      repeat' (first | (first | refine good_seq ?_ | refine good_reg false (fun K hK => ?_) | (refine runL_nil (hK _ _ ?_); clear hK K) | refine runL_none rfl (fun K2 hK2 => ?_) | refine runL_some rfl rfl (fun R S hR hS => ?_) | (refine hK2 _ _ ?_; clear hK2 K2) | (refine hK2 _ _ ?_ ?_ <;> clear hK2 K2) | (refine regW_nil (hK _ _ ?_); clear hK K) | (refine regW_load rfl rfl rfl (fun F1 F2 hF1 hF2 => ?_)) | (refine hF1 _ ?_ ?_ <;> clear hF1 hF2 F1 F2) | (refine hF2 _ _ (fun K2 hK2 => ?_); clear hF1 hF2 F1 F2) | refine regW_light rfl rfl rfl (fun _ _ => rfl) (fun K2 hK2 => ?_) | refine regW_lguard rfl rfl rfl rfl (fun _ _ => rfl) (fun R S hR hS => ?_) | refine regW_heavy rfl rfl (fun K2 hK2 => ?_) | with_reducible refine log_goal ?_ | (refine hR _ (fun K2 hK2 => ?_); clear hR hS R S) | (refine hS _ ?_; clear hR hS R S) | refine good_block ?_ | refine good_skip ?_ | refine good_exit ?_ | refine good_ret ?_ | refine good_cond ?_ | refine And.intro ?_ ?_ | intro _) <;> try simp (disch := first | assumption | omega) only [go_sem, Option.map, List.isEmpty, ↓reduceIte, Nat.reduceEqDiff, Nat.reduceAdd, Nat.reduceSub, Nat.reduceMul, Nat.reduceLT, Nat.reduceLeDiff, reduceCtorEq, Nat.reduceBEq, Nat.reduceBNe, Int.reduceNeg, Int.reduceLE, Int.reduceLT, Int.reduceToNat, ← hY] | ((first | fail) <;> try simp (disch := first | assumption | omega) only [go_sem, Option.map, List.isEmpty, ↓reduceIte, Nat.reduceEqDiff, Nat.reduceAdd, Nat.reduceSub, Nat.reduceMul, Nat.reduceLT, Nat.reduceLeDiff, reduceCtorEq, Nat.reduceBEq, Nat.reduceBNe, Int.reduceNeg, Int.reduceLE, Int.reduceLT, Int.reduceToNat, ← hY]) | omega)
      by_cases hqt : q = top
      · have hqt' : ((q : Int) != (top : Int)) = false := by simp [hqt]
        have hs4 : elimM A2 top c k p (q + 1) = E := by rw [elim_same (by omega) (by simp [elimRow, hqt]), hE4]
        refine good_loop_s (σ := Nat) (fun j => [(0, .bsl O 0 A0.length (.grow 1)), (1, .int .i64 p), (6, accO κ (piv.map (AV.int .i64))), (7, .int .i64 top), (8, .int .i64 c), (12, .int .i64 q), (13, .int .i64 (Y.getD c 0)), (103, .int .i64 A0.length), (104, .int .i64 q), (118, .int .i64 k), (119, .int .i64 j)])
          (fun _ => matH H O ids1 k E) (fun j => j ≤ k) (fun j => k - j) 0 ?_ rfl (Nat.zero_le _) ?_
        · simp (disch := first | assumption | omega) only [go_sem, Option.map, List.isEmpty, ↓reduceIte, Nat.reduceEqDiff, Nat.reduceAdd, Nat.reduceSub, Nat.reduceMul, Nat.reduceLT, Nat.reduceLeDiff, reduceCtorEq, Nat.reduceBEq, Nat.reduceBNe, Int.reduceNeg, Int.reduceLE, Int.reduceLT, Int.reduceToNat]; (try (refine ⟨?_, ?_⟩ <;> omega)); (try omega)
        intro j hj n5 hn5
        by_cases hjk : j < k
        · repeat' (first | (first | refine good_seq ?_ | refine good_reg false (fun K hK => ?_) | (refine runL_nil (hK _ _ ?_); clear hK K) | refine runL_none rfl (fun K2 hK2 => ?_) | refine runL_some rfl rfl (fun R S hR hS => ?_) | (refine hK2 _ _ ?_; clear hK2 K2) | (refine hK2 _ _ ?_ ?_ <;> clear hK2 K2) | (refine regW_nil (hK _ _ ?_); clear hK K) | (refine regW_load rfl rfl rfl (fun F1 F2 hF1 hF2 => ?_)) | (refine hF1 _ ?_ ?_ <;> clear hF1 hF2 F1 F2) | (refine hF2 _ _ (fun K2 hK2 => ?_); clear hF1 hF2 F1 F2) | refine regW_light rfl rfl rfl (fun _ _ => rfl) (fun K2 hK2 => ?_) | refine regW_lguard rfl rfl rfl rfl (fun _ _ => rfl) (fun R S hR hS => ?_) | refine regW_heavy rfl rfl (fun K2 hK2 => ?_) | with_reducible refine log_goal ?_ | (refine hR _ (fun K2 hK2 => ?_); clear hR hS R S) | (refine hS _ ?_; clear hR hS R S) | refine good_block ?_ | refine good_skip ?_ | refine good_exit ?_ | refine good_ret ?_ | refine good_cond ?_ | refine And.intro ?_ ?_ | intro _) <;> try simp (disch := first | assumption | omega) only [go_sem, Option.map, List.isEmpty, ↓reduceIte, Nat.reduceEqDiff, Nat.reduceAdd, Nat.reduceSub, Nat.reduceMul, Nat.reduceLT, Nat.reduceLeDiff, reduceCtorEq, Nat.reduceBEq, Nat.reduceBNe, Int.reduceNeg, Int.reduceLE, Int.reduceLT, Int.reduceToNat, hqt'] | ((first | fail) <;> try simp (disch := first | assumption | omega) only [go_sem, Option.map, List.isEmpty, ↓reduceIte, Nat.reduceEqDiff, Nat.reduceAdd, Nat.reduceSub, Nat.reduceMul, Nat.reduceLT, Nat.reduceLeDiff, reduceCtorEq, Nat.reduceBEq, Nat.reduceBNe, Int.reduceNeg, Int.reduceLE, Int.reduceLT, Int.reduceToNat, hqt']) | omega)
          refine Again.to (j + 1) (by omega) (by omega) ?_ rfl
          simp (disch := first | assumption | omega) only [go_sem, Option.map, List.isEmpty, ↓reduceIte, Nat.reduceEqDiff, Nat.reduceAdd, Nat.reduceSub, Nat.reduceMul, Nat.reduceLT, Nat.reduceLeDiff, reduceCtorEq, Nat.reduceBEq, Nat.reduceBNe, Int.reduceNeg, Int.reduceLE, Int.reduceLT, Int.reduceToNat]; (try (refine ⟨?_, ?_⟩ <;> omega)); (try omega)
        · repeat' (first | (first | refine good_seq ?_ | refine good_reg false (fun K hK => ?_) | (refine runL_nil (hK _ _ ?_); clear hK K) | refine runL_none rfl (fun K2 hK2 => ?_) | refine runL_some rfl rfl (fun R S hR hS => ?_) | (refine hK2 _ _ ?_; clear hK2 K2) | (refine hK2 _ _ ?_ ?_ <;> clear hK2 K2) | (refine regW_nil (hK _ _ ?_); clear hK K) | (refine regW_load rfl rfl rfl (fun F1 F2 hF1 hF2 => ?_)) | (refine hF1 _ ?_ ?_ <;> clear hF1 hF2 F1 F2) | (refine hF2 _ _ (fun K2 hK2 => ?_); clear hF1 hF2 F1 F2) | refine regW_light rfl rfl rfl (fun _ _ => rfl) (fun K2 hK2 => ?_) | refine regW_lguard rfl rfl rfl rfl (fun _ _ => rfl) (fun R S hR hS => ?_) | refine regW_heavy rfl rfl (fun K2 hK2 => ?_) | with_reducible refine log_goal ?_ | (refine hR _ (fun K2 hK2 => ?_); clear hR hS R S) | (refine hS _ ?_; clear hR hS R S) | refine good_block ?_ | refine good_skip ?_ | refine good_exit ?_ | refine good_ret ?_ | refine good_cond ?_ | refine And.intro ?_ ?_ | intro _) <;> try simp (disch := first | assumption | omega) only [go_sem, Option.map, List.isEmpty, ↓reduceIte, Nat.reduceEqDiff, Nat.reduceAdd, Nat.reduceSub, Nat.reduceMul, Nat.reduceLT, Nat.reduceLeDiff, reduceCtorEq, Nat.reduceBEq, Nat.reduceBNe, Int.reduceNeg, Int.reduceLE, Int.reduceLT, Int.reduceToNat, hqt'] | ((first | fail) <;> try simp (disch := first | assumption | omega) only [go_sem, Option.map, List.isEmpty, ↓reduceIte, Nat.reduceEqDiff, Nat.reduceAdd, Nat.reduceSub, Nat.reduceMul, Nat.reduceLT, Nat.reduceLeDiff, reduceCtorEq, Nat.reduceBEq, Nat.reduceBNe, Int.reduceNeg, Int.reduceLE, Int.reduceLT, Int.reduceToNat, hqt']) | omega)
          refine Again.to (q + 1) (by omega) (by omega) ?_ ?_
          · simp (disch := first | assumption | omega) only [go_sem, Option.map, List.isEmpty, ↓reduceIte, Nat.reduceEqDiff, Nat.reduceAdd, Nat.reduceSub, Nat.reduceMul, Nat.reduceLT, Nat.reduceLeDiff, reduceCtorEq, Nat.reduceBEq, Nat.reduceBNe, Int.reduceNeg, Int.reduceLE, Int.reduceLT, Int.reduceToNat]; (try (refine ⟨?_, ?_⟩ <;> omega)); (try omega)
          · show matH _ _ _ _ (elimM A2 top c k p (q + 1)) = _; rw [hs4]
      have hqt' : ((q : Int) != (top : Int)) = true := by simp; omega
      have bq := hRE q c (by omega) (by omega)
      rw [← hY] at bq
      obtain ⟨x, hx⟩ : ∃ x, x = Y.getD c 0 := ⟨_, rfl⟩
      rw [← hx] at bq ⊢
      refine good_loop_s (σ := Nat) (fun j => [(0, .bsl O 0 A0.length (.grow 1)), (1, .int .i64 p), (6, accO κ (piv.map (AV.int .i64))), (7, .int .i64 top), (8, .int .i64 c), (12, .int .i64 q), (13, .int .i64 x), (103, .int .i64 A0.length), (104, .int .i64 q), (118, .int .i64 k), (119, .int .i64 j)])
        (fun j => matH H O ids1 k (E.set q (upto (subG Y X x p) Y j))) (fun j => j ≤ k) (fun j => k - j) 0 ?_ ?_ (Nat.zero_le _) ?_
      · simp (disch := first | assumption | omega) only [go_sem, Option.map, List.isEmpty, ↓reduceIte, Nat.reduceEqDiff, Nat.reduceAdd, Nat.reduceSub, Nat.reduceMul, Nat.reduceLT, Nat.reduceLeDiff, reduceCtorEq, Nat.reduceBEq, Nat.reduceBNe, Int.reduceNeg, Int.reduceLE, Int.reduceLT, Int.reduceToNat]; (try (refine ⟨?_, ?_⟩ <;> omega)); (try omega)
      · simp only [upto_zero]; rw [hY, set_same (by omega)]
      intro j hj n5 hn5
      have hul := upto_length (subG Y X x p) Y (k := j) (by omega)
      have hge := upto_ge (subG Y X x p) Y (Nat.le_refl j)
      have hok5 := hokE.set q (r := upto (subG Y X x p) Y j) (by omega)
      have hg1 : (E.set q (upto (subG Y X x p) Y j)).getD q [] = upto (subG Y X x p) Y j := getD_setM _ _ _ (by omega)
      have hg2 : (E.set q (upto (subG Y X x p) Y j)).getD top [] = X := by rw [getD_setNe [] E _ (Ne.symm hqt), ← hX]
      by_cases hjk : j < k
      · have b1 := hRE q j (by omega) hjk
        have b2 := hRE top j (by omega) hjk
        rw [← hY] at b1
        rw [← hX] at b2
        have b3 := mul_bd hp.2 bq b2
        have b4 : (x * X.getD j 0).tmod p = x * X.getD j 0 % p := tmod_nn b3.1
        have b5 := Int.emod_nonneg (x * X.getD j 0) (show p ≠ 0 by omega)
        have b6 := Int.emod_lt_of_pos (x * X.getD j 0) (show 0 < p by omega)
        (try clear hfi); (try clear hfz); (try clear hiz); (try clear hia); (try clear hril); (try clear hi); (try clear hids1); (try clear hA1); (try clear hA1t); (try clear hin0); (try clear hin); (try clear hrl); (try clear hwid); (try clear hok); (try clear hE); (try clear hE0); (try clear hup); (try clear hok0); (try clear hKC); (try clear hpl); (try clear hcm); (try clear hsub1); (try clear hw1); (try clear hR1); (try clear hw2); (try clear hR2); (try clear hA2'); (try clear hR); (try clear hW0); (try clear hpp); (try clear hsw); (try clear hRE); (try clear hwE); (try clear hokE); (try clear hok1); (try clear hok2); (try clear htp); (try clear hE4); (try clear hEt); (try clear hEq); (try clear hA2); (try clear hA2l); (try clear hc1); (try clear b2); (try clear hq); (try clear hA0); (try clear hrr); (try clear hf); (try clear hA1l); (try clear bq); (try clear hfin); (try clear htl); (try clear hlen); (try clear hOn); (try clear hOb)
        repeat' (first | (first | refine good_seq ?_ | refine good_reg false (fun K hK => ?_) | (refine runL_nil (hK _ _ ?_); clear hK K) | refine runL_none rfl (fun K2 hK2 => ?_) | refine runL_some rfl rfl (fun R S hR hS => ?_) | (refine hK2 _ _ ?_; clear hK2 K2) | (refine hK2 _ _ ?_ ?_ <;> clear hK2 K2) | (refine regW_nil (hK _ _ ?_); clear hK K) | (refine regW_load rfl rfl rfl (fun F1 F2 hF1 hF2 => ?_)) | (refine hF1 _ ?_ ?_ <;> clear hF1 hF2 F1 F2) | (refine hF2 _ _ (fun K2 hK2 => ?_); clear hF1 hF2 F1 F2) | refine regW_light rfl rfl rfl (fun _ _ => rfl) (fun K2 hK2 => ?_) | refine regW_lguard rfl rfl rfl rfl (fun _ _ => rfl) (fun R S hR hS => ?_) | refine regW_heavy rfl rfl (fun K2 hK2 => ?_) | with_reducible refine log_goal ?_ | (refine hR _ (fun K2 hK2 => ?_); clear hR hS R S) | (refine hS _ ?_; clear hR hS R S) | refine good_block ?_ | refine good_skip ?_ | refine good_exit ?_ | refine good_ret ?_ | refine good_cond ?_ | refine And.intro ?_ ?_ | intro _) <;> try simp (disch := first | assumption | omega) only [go_sem, Option.map, List.isEmpty, ↓reduceIte, Nat.reduceEqDiff, Nat.reduceAdd, Nat.reduceSub, Nat.reduceMul, Nat.reduceLT, Nat.reduceLeDiff, reduceCtorEq, Nat.reduceBEq, Nat.reduceBNe, Int.reduceNeg, Int.reduceLE, Int.reduceLT, Int.reduceToNat, hqt', hg1, hg2, hge, b4, List.set_set] | ((first | refine good_drw (id := 11) mixed false [[], [], [], [], [], [], [4, 5], [4, 5, 6], [], [], [8, 9], [8, 9, 10], [0, 1, 4, 5, 6, 7, 8, 9, 10, 11], [0, 1, 4, 5, 6, 7, 8, 9, 10, 11, 12], [0, 1, 2, 3, 4, 5, 6, 7, 8, 9, 10, 11, 12, 13], [0, 1, 2, 3, 4, 5, 6, 7, 8, 9, 10, 11, 12, 13, 14]] [0, 1, 2, 3, 4, 5, 6, 7, 8, 9, 10, 11, 12, 13, 14, 15] (by decide +kernel) (fun K hK => ?_) | refine good_drw (id := 16) mixed false [[], [], [0, 1], [0, 1, 2], [], [], [], [5, 6], [5, 6, 7], [], [5, 6, 7, 8, 9], [5, 6, 7, 8, 9, 10], [], [5, 6, 7, 8, 9, 10, 11, 12], [], [5, 6, 7, 8, 9, 10, 11, 12, 13, 14], [0, 1, 2, 3, 4, 5, 6, 7, 8, 9, 10, 11, 12, 13, 14, 15], [0, 1, 2, 3, 4, 5, 6, 7, 8, 9, 10, 11, 12, 13, 14, 15, 16]] [0, 1, 2, 3, 4, 5, 6, 7, 8, 9, 10, 11, 12, 13, 14, 15, 16, 17] (by decide +kernel) (fun K hK => ?_) | refine good_drw (id := 26) mixed false [[], [], [0, 1], [0, 1, 2], [], [], [], [5, 6], [5, 6, 7], [], [5, 6, 7, 8, 9], [5, 6, 7, 8, 9, 10], [], [], [], [13, 14], [13, 14, 15], [], [13, 14, 15, 16, 17], [13, 14, 15, 16, 17, 18], [12, 13, 14, 15, 16, 17, 18, 19], [], [12, 13, 14, 15, 16, 17, 18, 19, 20, 21], [5, 6, 7, 8, 9, 10, 11, 12, 13, 14, 15, 16, 17, 18, 19, 20, 21, 22], [], [5, 6, 7, 8, 9, 10, 11, 12, 13, 14, 15, 16, 17, 18, 19, 20, 21, 22, 23, 24], [0, 1, 2, 3, 4, 5, 6, 7, 8, 9, 10, 11, 12, 13, 14, 15, 16, 17, 18, 19, 20, 21, 22, 23, 24, 25], [0, 1, 2, 3, 4, 5, 6, 7, 8, 9, 10, 11, 12, 13, 14, 15, 16, 17, 18, 19, 20, 21, 22, 23, 24, 25, 26]] [0, 1, 2, 3, 4, 5, 6, 7, 8, 9, 10, 11, 12, 13, 14, 15, 16, 17, 18, 19, 20, 21, 22, 23, 24, 25, 26, 27] (by decide +kernel) (fun K hK => ?_) | (refine ACalls.mono (c_Mod _ _ (by omega) _) (fun v h' hv => ?_); obtain ⟨rfl, hh⟩ := hv; subst h')) <;> try simp (disch := first | assumption | omega) only [go_sem, Option.map, List.isEmpty, ↓reduceIte, Nat.reduceEqDiff, Nat.reduceAdd, Nat.reduceSub, Nat.reduceMul, Nat.reduceLT, Nat.reduceLeDiff, reduceCtorEq, Nat.reduceBEq, Nat.reduceBNe, Int.reduceNeg, Int.reduceLE, Int.reduceLT, Int.reduceToNat, hqt', hg1, hg2, hge, b4, List.set_set]) | omega)
        refine Again.to (j + 1) (by omega) (by omega) ?_ ?_
        · simp (disch := first | assumption | omega) only [go_sem, Option.map, List.isEmpty, ↓reduceIte, Nat.reduceEqDiff, Nat.reduceAdd, Nat.reduceSub, Nat.reduceMul, Nat.reduceLT, Nat.reduceLeDiff, reduceCtorEq, Nat.reduceBEq, Nat.reduceBNe, Int.reduceNeg, Int.reduceLE, Int.reduceLT, Int.reduceToNat]; (try (refine ⟨?_, ?_⟩ <;> omega)); (try omega)
        · rw [← upto_set (subG Y X x p) Y (by omega)]; rfl
      have hjk2 : j = k := by omega
      repeat' (first | (first | refine good_seq ?_ | refine good_reg false (fun K hK => ?_) | (refine runL_nil (hK _ _ ?_); clear hK K) | refine runL_none rfl (fun K2 hK2 => ?_) | refine runL_some rfl rfl (fun R S hR hS => ?_) | (refine hK2 _ _ ?_; clear hK2 K2) | (refine hK2 _ _ ?_ ?_ <;> clear hK2 K2) | (refine regW_nil (hK _ _ ?_); clear hK K) | (refine regW_load rfl rfl rfl (fun F1 F2 hF1 hF2 => ?_)) | (refine hF1 _ ?_ ?_ <;> clear hF1 hF2 F1 F2) | (refine hF2 _ _ (fun K2 hK2 => ?_); clear hF1 hF2 F1 F2) | refine regW_light rfl rfl rfl (fun _ _ => rfl) (fun K2 hK2 => ?_) | refine regW_lguard rfl rfl rfl rfl (fun _ _ => rfl) (fun R S hR hS => ?_) | refine regW_heavy rfl rfl (fun K2 hK2 => ?_) | with_reducible refine log_goal ?_ | (refine hR _ (fun K2 hK2 => ?_); clear hR hS R S) | (refine hS _ ?_; clear hR hS R S) | refine good_block ?_ | refine good_skip ?_ | refine good_exit ?_ | refine good_ret ?_ | refine good_cond ?_ | refine And.intro ?_ ?_ | intro _) <;> try simp (disch := first | assumption | omega) only [go_sem, Option.map, List.isEmpty, ↓reduceIte, Nat.reduceEqDiff, Nat.reduceAdd, Nat.reduceSub, Nat.reduceMul, Nat.reduceLT, Nat.reduceLeDiff, reduceCtorEq, Nat.reduceBEq, Nat.reduceBNe, Int.reduceNeg, Int.reduceLE, Int.reduceLT, Int.reduceToNat, hqt'] | ((first | fail) <;> try simp (disch := first | assumption | omega) only [go_sem, Option.map, List.isEmpty, ↓reduceIte, Nat.reduceEqDiff, Nat.reduceAdd, Nat.reduceSub, Nat.reduceMul, Nat.reduceLT, Nat.reduceLeDiff, reduceCtorEq, Nat.reduceBEq, Nat.reduceBNe, Int.reduceNeg, Int.reduceLE, Int.reduceLT, Int.reduceToNat, hqt']) | omega)
      refine Again.to (q + 1) (by omega) (by omega) ?_ ?_
      · simp (disch := first | assumption | omega) only [go_sem, Option.map, List.isEmpty, ↓reduceIte, Nat.reduceEqDiff, Nat.reduceAdd, Nat.reduceSub, Nat.reduceMul, Nat.reduceLT, Nat.reduceLeDiff, reduceCtorEq, Nat.reduceBEq, Nat.reduceBNe, Int.reduceNeg, Int.reduceLE, Int.reduceLT, Int.reduceToNat]; (try (refine ⟨?_, ?_⟩ <;> omega)); (try omega)
      · show matH _ _ _ _ (elimM A2 top c k p (q + 1)) = _
        rw [← elim_set (by omega), ← hE4, hjk2, upto_full _ _ hlq]
        congr 2
        simp only [elimRow]
        rw [if_neg hqt]
        by_cases hxz : x = 0
        · rw [if_pos (by rw [← hEq, ← hY, ← hx]; exact hxz), hxz, sub_zero hlq (fun j hj => by have := hRE q j (by omega) hj; rw [← hY] at this; exact this), hY, hEq]
        · rw [if_neg (by rw [← hEq, ← hY, ← hx]; exact hxz), ← hEq, ← hY, ← hx, ← hEt, ← hX]
    have hqe : q = A0.length := by omega
    have hEe : E = echStep p k A top c i := by rw [hE4, echStep, ← hA1, ← hA2', hqe, hlen]
    repeat' (first | (first | refine good_seq ?_ | refine good_reg false (fun K hK => ?_) | (refine runL_nil (hK _ _ ?_); clear hK K) | refine runL_none rfl (fun K2 hK2 => ?_) | refine runL_some rfl rfl (fun R S hR hS => ?_) | (refine hK2 _ _ ?_; clear hK2 K2) | (refine hK2 _ _ ?_ ?_ <;> clear hK2 K2) | (refine regW_nil (hK _ _ ?_); clear hK K) | (refine regW_load rfl rfl rfl (fun F1 F2 hF1 hF2 => ?_)) | (refine hF1 _ ?_ ?_ <;> clear hF1 hF2 F1 F2) | (refine hF2 _ _ (fun K2 hK2 => ?_); clear hF1 hF2 F1 F2) | refine regW_light rfl rfl rfl (fun _ _ => rfl) (fun K2 hK2 => ?_) | refine regW_lguard rfl rfl rfl rfl (fun _ _ => rfl) (fun R S hR hS => ?_) | refine regW_heavy rfl rfl (fun K2 hK2 => ?_) | with_reducible refine log_goal ?_ | (refine hR _ (fun K2 hK2 => ?_); clear hR hS R S) | (refine hS _ ?_; clear hR hS R S) | refine good_block ?_ | refine good_skip ?_ | refine good_exit ?_ | refine good_ret ?_ | refine good_cond ?_ | refine And.intro ?_ ?_ | intro _) <;> try simp (disch := first | assumption | omega) only [go_sem, Option.map, List.isEmpty, ↓reduceIte, Nat.reduceEqDiff, Nat.reduceAdd, Nat.reduceSub, Nat.reduceMul, Nat.reduceLT, Nat.reduceLeDiff, reduceCtorEq, Nat.reduceBEq, Nat.reduceBNe, Int.reduceNeg, Int.reduceLE, Int.reduceLT, Int.reduceToNat] | ((first | (refine app_acc (κ := κ) hE.acc (by simp) elT_38 szT_3 byT_3 zrT_3 rfl rfl (by simp; omega) (by decide) (fun κ' H' g1 g2 g3 g4 => ?_); rw [mh_grew g4])) <;> try simp (disch := first | assumption | omega) only [go_sem, Option.map, List.isEmpty, ↓reduceIte, Nat.reduceEqDiff, Nat.reduceAdd, Nat.reduceSub, Nat.reduceMul, Nat.reduceLT, Nat.reduceLeDiff, reduceCtorEq, Nat.reduceBEq, Nat.reduceBNe, Int.reduceNeg, Int.reduceLE, Int.reduceLT, Int.reduceToNat]) | omega)
    have hek := g4.k
    have hkk : h.k ≤ κ' := by
      rcases hpe : piv with _ | ⟨x, pv⟩
      · subst hpe; rw [g3 rfl]; exact hE.ext.k
      · rw [g2 (by rw [hpe]; simp)]; exact hE.hk (by rw [hpe]; simp)
    have hgr : Grew κ' H { H' with f := H.f } := ⟨g4.n, rfl, g4.k, g4.gr⟩
    have hE2 : ER h Hb O A0 k p { H' with f := H.f } κ' ids1 E (top + 1) (c + 1) (piv ++ [(c : Int)]) :=
      ⟨hokE, hEl, hsub1, hE.hf, by show H'.n = _; rw [g4.n]; exact hE.hn, hgr.ext hE.ext hkk, hRE, hwE, ⟨by omega, by omega⟩, by omega, by rw [int_snoc] at g1; exact g1, fun _ => hkk, by simp; omega, by
        rw [← hE.spec, hEe]
        exact (ech_go hc1 (by omega) hfi (by omega)).symm⟩
    have hmu : k - (c + 1) < n := by omega
    refine Again.to ({ H' with f := H.f }, κ', ids1, E, top + 1, c + 1, piv ++ [(c : Int)]) hE2 hmu ?_ rfl
    simp (disch := first | assumption | omega) only [go_sem, Option.map, List.isEmpty, ↓reduceIte, Nat.reduceEqDiff, Nat.reduceAdd, Nat.reduceSub, Nat.reduceMul, Nat.reduceLT, Nat.reduceLeDiff, reduceCtorEq, Nat.reduceBEq, Nat.reduceBNe, Int.reduceNeg, Int.reduceLE, Int.reduceLT, Int.reduceToNat]; (try (refine ⟨?_, ?_⟩ <;> omega)); (try omega)
end Go.Eng
