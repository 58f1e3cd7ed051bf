import Derived.Test.YtgfhddockofdnaaE25
import Derived.Test.YtgfhddockofdnaaF2
import Derived.Test.YtgfhddockofdnaaW21
open Go Go.Proofs
set_option linter.unusedVariables false
set_option linter.unusedSimpArgs false
set_option maxRecDepth 4000
set_option maxHeartbeats 4000000
namespace Go.Eng
attribute [local irreducible] Good ACalls runL regW stepW opW gdV' gdD condW gifW binW arW loadW storeW idxAW lenW appW appBW cutW onSome onBnd callW fldAW Again thenQ blockQ resW endQ Up loadR
/-! ### Congruence -/
def congP (g t : List (List Int)) : Prop := ValidP g ∧ ValidP t ∧ g.length = (g.getD 0 []).length ∧ t.length = g.length
instance (g t : List (List Int)) : Decidable (congP g t) := by unfold congP; infer_instance
def congE (g t : List (List Int)) (m : Int) : Int := if congP g t then (if modB m then 0 else 1) else 3
def congM (g t : List (List Int)) (m : Int) : List (List Int) := if congP g t then (if modB m then prodM (transM (redM t m)) (prodM (redM g m) (redM t m) m) m else []) else []
theorem map_mod_get (r : List Int) (m : Int) (j : Nat) : (r.map (· % m)).getD j 0 = r.getD j 0 % m := by
  simp only [List.getD_eq_getElem?_getD, List.getElem?_map]
  cases r[j]? <;> simp
theorem redM_trans {t : List (List Int)} {m : Int} (h : 0 < t.length) : redM (transM t) m = transM (redM t m) := by
  have hl : ((redM t m).getD 0 []).length = (t.getD 0 []).length := by rw [redM_get t m 0 h, List.length_map]
  unfold transM
  rw [hl]
  unfold redM colM
  rw [List.map_map, ]
  refine List.map_congr_left fun j _ => ?_
  simp only [Function.comp, List.map_map]
  refine List.map_congr_left fun r _ => ?_
  exact (map_mod_get r m j).symm
theorem redM_id {P : List (List Int)} {m : Int} (h : ∀ r ∈ P, ∀ x ∈ r, 0 ≤ x ∧ x < m) : redM P m = P := by
  unfold redM
  rw [List.map_congr_left (g := id), List.map_id]
  intro r hr
  rw [List.map_congr_left (g := id), List.map_id]; rfl
  intro x hx
  have := h r hr x hx
  exact Int.emod_eq_of_lt this.1 this.2
theorem prodM_ent {a b : List (List Int)} {m : Int} (hm : 0 < m) : ∀ r ∈ prodM a b m, ∀ x ∈ r, 0 ≤ x ∧ x < m := fun r hr x hx => by
  obtain ⟨i, -, rfl⟩ := List.mem_map.1 hr
  obtain ⟨j, -, rfl⟩ := List.mem_map.1 hx
  exact dotm_bd hm i j b.length
theorem mem_ent {P : List (List Int)} {m : Int} (h : ∀ r ∈ P, ∀ x ∈ r, 0 ≤ x ∧ x < m) {i j : Nat} (hi : i < P.length) (hj : j < (P.getD i []).length) : 0 ≤ (P.getD i []).getD j 0 ∧ (P.getD i []).getD j 0 < m := by
  refine h _ (mem_getD hi) _ ?_
  generalize P.getD i [] = r at hj ⊢
  rw [List.getD_eq_getElem?_getD, List.getElem?_eq_getElem hj]
  exact List.getElem_mem hj
theorem trans_length (t : List (List Int)) : (transM t).length = (t.getD 0 []).length := by simp [transM]
theorem trans_row {t : List (List Int)} {j : Nat} (hj : j < (t.getD 0 []).length) : (transM t).getD j [] = colM t j := by rw [transM, map_range_getL _ hj]
theorem col_get {t : List (List Int)} {j k : Nat} (hk : k < t.length) : (colM t j).getD k 0 = (t.getD k []).getD j 0 := by
  simp [colM, List.getD_eq_getElem?_getD, hk]
theorem fits_cong {g t : List (List Int)} {m : Int} (hm : 2 ≤ m) (hp : congP g t) : Fits (redM g m) (redM t m) m (t.getD 0 []).length ∧ Fits (transM (redM t m)) (prodM (redM g m) (redM t m) m) m (t.getD 0 []).length := by
  obtain ⟨hg, ht, h3, h4⟩ := hp
  have hf := fits_red (m := m) hm (show mulP g t from ⟨hg, ht, by omega⟩)
  refine ⟨hf, ?_⟩
  have ht1 := ht.1
  have ht0 : ((redM t m).getD 0 []).length = (t.getD 0 []).length := by rw [redM_get t m 0 (by omega), List.length_map]
  have hPl : (prodM (redM g m) (redM t m) m).length = g.length := by rw [prodM_length, redM_length]
  have hPr : ∀ k, k < (prodM (redM g m) (redM t m) m).length → ((prodM (redM g m) (redM t m) m).getD k []).length = (t.getD 0 []).length := fun k hk => by
    rw [prodM_rows rfl _ (mem_getD hk), ht0]
  refine ⟨?_, ?_, fun i hi => ?_, hPr, ?_, fun i k hi hk => ?_, fun k j hk hj => ?_⟩
  · rw [trans_length, ht0]; have := ht.2.2.2.1; omega
  · rw [hPl]; have := hg.2.1; have := hg.1; omega
  · rw [trans_length] at hi
    rw [trans_row hi, colM, List.length_map, redM_length, hPl, h4]
  · have := ht.2.2.2.1; omega
  · rw [trans_length] at hi
    rw [hPl] at hk
    rw [trans_row hi, col_get (by rw [redM_length]; omega)]
    rw [ht0] at hi
    rw [redM_ent t m k i (by omega) (by rw [ht.2.2.2.2 k (by omega)]; exact hi)]
    exact ⟨Int.emod_nonneg _ (by omega), Int.emod_lt_of_pos _ (by omega)⟩
  · exact mem_ent (prodM_ent (by omega)) hk (by rw [hPr k hk]; exact hj)
theorem c_mCong (g t : List (List Int)) (m : Int) (h : AH) : ACalls Try.prog 38 [matV g, matV t, .int .i64 m] h (fun v h' => v = .tup [matV (congM g t m), .int .i64 (congE g t m)] ∧ h' = h) := by
  refine ACalls.up ?_
  refine acalls_of_good 3 49 [.tmp 6, .tmp 7] Try.func38 rfl rfl (by kernel_rfl) rfl rfl (by decide) ?_
  simp (disch := first | assumption | omega) only [go_sem, Option.map, List.isEmpty, ↓reduceIte, Nat.reduceEqDiff, Nat.reduceAdd, Nat.reduceSub, Nat.reduceMul, Nat.reduceLT, Nat.reduceLeDiff, reduceCtorEq, Nat.reduceBEq, Nat.reduceBNe, Int.reduceNeg, Int.reduceLE, Int.reduceLT, Int.reduceToNat]
  by_cases hg : ValidP g
  · by_cases ht : ValidP t
    · have hg1 := hg.1
      have ht1 := ht.1
      by_cases hgt : g.length = (g.getD 0 []).length ∧ t.length = g.length
      · have hp : congP g t := ⟨hg, ht, hgt.1, hgt.2⟩
        have hgr := hg.2.2.2.2
        have htr := ht.2.2.2.2
        have hg2 := hg.2
        have ht2 := ht.2
        have ht3 := ht.2.2.2.1
        have hg3 := hg.2.2.2.1
        have htl := redM_length t m
        have htr2 : ∀ i, i < (redM t m).length → ((redM t m).getD i []).length = (t.getD 0 []).length := fun i hi => by rw [htl] at hi; rw [redM_get t m i hi, List.length_map]; exact htr i hi
        have e1 : ((g.length : Int) != ((g.getD 0 []).length : Int)) = false := by rw [← hgt.1]; simp
        have e2 : ((t.length : Int) != (g.length : Int)) = false := by rw [hgt.2]; simp
        cases hm : modB m with
        | true =>
          have hmm := modB_spec hm
          obtain ⟨hf1, hf2⟩ := fits_cong hmm.1 hp
          repeat' (first | (first | refine good_seq ?_ | refine good_reg false (fun K hK => ?_) | (refine runL_nil (hK _ _ ?_); clear hK K) | refine runL_none rfl (fun K2 hK2 => ?_) | refine runL_some rfl rfl (fun R S hR hS => ?_) | (refine hK2 _ _ ?_; clear hK2 K2) | (refine hK2 _ _ ?_ ?_ <;> clear hK2 K2) | (refine regW_nil (hK _ _ ?_); clear hK K) | (refine regW_load rfl rfl rfl (fun F1 F2 hF1 hF2 => ?_)) | (refine hF1 _ ?_ ?_ <;> clear hF1 hF2 F1 F2) | (refine hF2 _ _ (fun K2 hK2 => ?_); clear hF1 hF2 F1 F2) | refine regW_light rfl rfl rfl (fun _ _ => rfl) (fun K2 hK2 => ?_) | refine regW_lguard rfl rfl rfl rfl (fun _ _ => rfl) (fun R S hR hS => ?_) | refine regW_heavy rfl rfl (fun K2 hK2 => ?_) | with_reducible refine log_goal ?_ | (refine hR _ (fun K2 hK2 => ?_); clear hR hS R S) | (refine hS _ ?_; clear hR hS R S) | refine good_block ?_ | refine good_skip ?_ | refine good_exit ?_ | refine good_ret ?_ | refine good_cond ?_ | refine And.intro ?_ ?_ | intro _) <;> try simp (disch := first | assumption | omega) only [go_sem, Option.map, List.isEmpty, ↓reduceIte, Nat.reduceEqDiff, Nat.reduceAdd, Nat.reduceSub, Nat.reduceMul, Nat.reduceLT, Nat.reduceLeDiff, reduceCtorEq, Nat.reduceBEq, Nat.reduceBNe, Int.reduceNeg, Int.reduceLE, Int.reduceLT, Int.reduceToNat, e1, e2] | ((first | (refine ACalls.mono (c_valid g _) (fun v h' hv' => ?_); obtain ⟨rfl, hh⟩ := hv'; subst h'; rw [decide_eq_true hg]) | (refine ACalls.mono (c_valid t _) (fun v h' hv' => ?_); obtain ⟨rfl, hh⟩ := hv'; subst h'; rw [decide_eq_true ht]) | (refine ACalls.mono (c_modulus _ _) (fun v h' hv' => ?_); obtain ⟨rfl, hh⟩ := hv'; subst h'; rw [hm]) | (refine ACalls.mono (c_reducedV g _ m (by omega) (by omega) hgr _) (fun v h' hv' => ?_); obtain ⟨rfl, hh⟩ := hv'; subst h') | (refine ACalls.mono (c_reducedV t _ m (by omega) (by omega) htr _) (fun v h' hv' => ?_); obtain ⟨rfl, hh⟩ := hv'; subst h') | (refine ACalls.mono (c_transposed (redM t m) _ (by omega) (by omega) htr2 _) (fun v h' hv' => ?_); obtain ⟨rfl, hh⟩ := hv'; subst h') | (refine ACalls.mono (c_product _ _ _ m hmm hf1 _) (fun v h' hv' => ?_); obtain ⟨rfl, hh⟩ := hv'; subst h') | (refine ACalls.mono (c_product _ _ _ m hmm hf2 _) (fun v h' hv' => ?_); obtain ⟨rfl, hh⟩ := hv'; subst h')) <;> try simp (disch := first | assumption | omega) only [go_sem, Option.map, List.isEmpty, ↓reduceIte, Nat.reduceEqDiff, Nat.reduceAdd, Nat.reduceSub, Nat.reduceMul, Nat.reduceLT, Nat.reduceLeDiff, reduceCtorEq, Nat.reduceBEq, Nat.reduceBNe, Int.reduceNeg, Int.reduceLE, Int.reduceLT, Int.reduceToNat, e1, e2]) | omega)
          exact ⟨_, Up.refl _, by simp [congM, congE, hp, hm]⟩
        | false =>
          repeat' (first | (first | refine good_seq ?_ | refine good_reg false (fun K hK => ?_) | (refine runL_nil (hK _ _ ?_); clear hK K) | refine runL_none rfl (fun K2 hK2 => ?_) | refine runL_some rfl rfl (fun R S hR hS => ?_) | (refine hK2 _ _ ?_; clear hK2 K2) | (refine hK2 _ _ ?_ ?_ <;> clear hK2 K2) | (refine regW_nil (hK _ _ ?_); clear hK K) | (refine regW_load rfl rfl rfl (fun F1 F2 hF1 hF2 => ?_)) | (refine hF1 _ ?_ ?_ <;> clear hF1 hF2 F1 F2) | (refine hF2 _ _ (fun K2 hK2 => ?_); clear hF1 hF2 F1 F2) | refine regW_light rfl rfl rfl (fun _ _ => rfl) (fun K2 hK2 => ?_) | refine regW_lguard rfl rfl rfl rfl (fun _ _ => rfl) (fun R S hR hS => ?_) | refine regW_heavy rfl rfl (fun K2 hK2 => ?_) | with_reducible refine log_goal ?_ | (refine hR _ (fun K2 hK2 => ?_); clear hR hS R S) | (refine hS _ ?_; clear hR hS R S) | refine good_block ?_ | refine good_skip ?_ | refine good_exit ?_ | refine good_ret ?_ | refine good_cond ?_ | refine And.intro ?_ ?_ | intro _) <;> try simp (disch := first | assumption | omega) only [go_sem, Option.map, List.isEmpty, ↓reduceIte, Nat.reduceEqDiff, Nat.reduceAdd, Nat.reduceSub, Nat.reduceMul, Nat.reduceLT, Nat.reduceLeDiff, reduceCtorEq, Nat.reduceBEq, Nat.reduceBNe, Int.reduceNeg, Int.reduceLE, Int.reduceLT, Int.reduceToNat, e1, e2] | ((first | (refine ACalls.mono (c_valid g _) (fun v h' hv' => ?_); obtain ⟨rfl, hh⟩ := hv'; subst h'; rw [decide_eq_true hg]) | (refine ACalls.mono (c_valid t _) (fun v h' hv' => ?_); obtain ⟨rfl, hh⟩ := hv'; subst h'; rw [decide_eq_true ht]) | (refine ACalls.mono (c_modulus _ _) (fun v h' hv' => ?_); obtain ⟨rfl, hh⟩ := hv'; subst h'; rw [hm])) <;> try simp (disch := first | assumption | omega) only [go_sem, Option.map, List.isEmpty, ↓reduceIte, Nat.reduceEqDiff, Nat.reduceAdd, Nat.reduceSub, Nat.reduceMul, Nat.reduceLT, Nat.reduceLeDiff, reduceCtorEq, Nat.reduceBEq, Nat.reduceBNe, Int.reduceNeg, Int.reduceLE, Int.reduceLT, Int.reduceToNat, e1, e2]) | omega)
          exact ⟨_, Up.tup2 Up.nmat (Up.refl _), by simp [congM, congE, hp, hm]⟩
      · have hp : ¬ congP g t := fun hp => hgt ⟨hp.2.2.1, hp.2.2.2⟩
        repeat' (first | (first | refine good_seq ?_ | refine good_reg false (fun K hK => ?_) | (refine runL_nil (hK _ _ ?_); clear hK K) | refine runL_none rfl (fun K2 hK2 => ?_) | refine runL_some rfl rfl (fun R S hR hS => ?_) | (refine hK2 _ _ ?_; clear hK2 K2) | (refine hK2 _ _ ?_ ?_ <;> clear hK2 K2) | (refine regW_nil (hK _ _ ?_); clear hK K) | (refine regW_load rfl rfl rfl (fun F1 F2 hF1 hF2 => ?_)) | (refine hF1 _ ?_ ?_ <;> clear hF1 hF2 F1 F2) | (refine hF2 _ _ (fun K2 hK2 => ?_); clear hF1 hF2 F1 F2) | refine regW_light rfl rfl rfl (fun _ _ => rfl) (fun K2 hK2 => ?_) | refine regW_lguard rfl rfl rfl rfl (fun _ _ => rfl) (fun R S hR hS => ?_) | refine regW_heavy rfl rfl (fun K2 hK2 => ?_) | with_reducible refine log_goal ?_ | (refine hR _ (fun K2 hK2 => ?_); clear hR hS R S) | (refine hS _ ?_; clear hR hS R S) | refine good_block ?_ | refine good_skip ?_ | refine good_exit ?_ | refine good_ret ?_ | refine good_cond ?_ | refine And.intro ?_ ?_ | intro _) <;> try simp (disch := first | assumption | omega) only [go_sem, Option.map, List.isEmpty, ↓reduceIte, Nat.reduceEqDiff, Nat.reduceAdd, Nat.reduceSub, Nat.reduceMul, Nat.reduceLT, Nat.reduceLeDiff, reduceCtorEq, Nat.reduceBEq, Nat.reduceBNe, Int.reduceNeg, Int.reduceLE, Int.reduceLT, Int.reduceToNat] | ((first | (refine ACalls.mono (c_valid g _) (fun v h' hv' => ?_); obtain ⟨rfl, hh⟩ := hv'; subst h'; rw [decide_eq_true hg]) | (refine ACalls.mono (c_valid t _) (fun v h' hv' => ?_); obtain ⟨rfl, hh⟩ := hv'; subst h'; rw [decide_eq_true ht])) <;> try simp (disch := first | assumption | omega) only [go_sem, Option.map, List.isEmpty, ↓reduceIte, Nat.reduceEqDiff, Nat.reduceAdd, Nat.reduceSub, Nat.reduceMul, Nat.reduceLT, Nat.reduceLeDiff, reduceCtorEq, Nat.reduceBEq, Nat.reduceBNe, Int.reduceNeg, Int.reduceLE, Int.reduceLT, Int.reduceToNat]) | omega)
        all_goals first | omega | exact ⟨_, Up.tup2 Up.nmat (Up.refl _), by simp [congM, congE, hp]⟩
    · have hp : ¬ congP g t := fun hp => ht hp.2.1
      repeat' (first | (first | refine good_seq ?_ | refine good_reg false (fun K hK => ?_) | (refine runL_nil (hK _ _ ?_); clear hK K) | refine runL_none rfl (fun K2 hK2 => ?_) | refine runL_some rfl rfl (fun R S hR hS => ?_) | (refine hK2 _ _ ?_; clear hK2 K2) | (refine hK2 _ _ ?_ ?_ <;> clear hK2 K2) | (refine regW_nil (hK _ _ ?_); clear hK K) | (refine regW_load rfl rfl rfl (fun F1 F2 hF1 hF2 => ?_)) | (refine hF1 _ ?_ ?_ <;> clear hF1 hF2 F1 F2) | (refine hF2 _ _ (fun K2 hK2 => ?_); clear hF1 hF2 F1 F2) | refine regW_light rfl rfl rfl (fun _ _ => rfl) (fun K2 hK2 => ?_) | refine regW_lguard rfl rfl rfl rfl (fun _ _ => rfl) (fun R S hR hS => ?_) | refine regW_heavy rfl rfl (fun K2 hK2 => ?_) | with_reducible refine log_goal ?_ | (refine hR _ (fun K2 hK2 => ?_); clear hR hS R S) | (refine hS _ ?_; clear hR hS R S) | refine good_block ?_ | refine good_skip ?_ | refine good_exit ?_ | refine good_ret ?_ | refine good_cond ?_ | refine And.intro ?_ ?_ | intro _) <;> try simp (disch := first | assumption | omega) only [go_sem, Option.map, List.isEmpty, ↓reduceIte, Nat.reduceEqDiff, Nat.reduceAdd, Nat.reduceSub, Nat.reduceMul, Nat.reduceLT, Nat.reduceLeDiff, reduceCtorEq, Nat.reduceBEq, Nat.reduceBNe, Int.reduceNeg, Int.reduceLE, Int.reduceLT, Int.reduceToNat] | ((first | (refine ACalls.mono (c_valid g _) (fun v h' hv' => ?_); obtain ⟨rfl, hh⟩ := hv'; subst h'; rw [decide_eq_true hg]) | (refine ACalls.mono (c_valid t _) (fun v h' hv' => ?_); obtain ⟨rfl, hh⟩ := hv'; subst h'; rw [decide_eq_false ht])) <;> try simp (disch := first | assumption | omega) only [go_sem, Option.map, List.isEmpty, ↓reduceIte, Nat.reduceEqDiff, Nat.reduceAdd, Nat.reduceSub, Nat.reduceMul, Nat.reduceLT, Nat.reduceLeDiff, reduceCtorEq, Nat.reduceBEq, Nat.reduceBNe, Int.reduceNeg, Int.reduceLE, Int.reduceLT, Int.reduceToNat]) | omega)
      exact ⟨_, Up.tup2 Up.nmat (Up.refl _), by simp [congM, congE, hp]⟩
  · have hp : ¬ congP g t := fun hp => hg hp.1
    repeat' (first | (first | refine good_seq ?_ | refine good_reg false (fun K hK => ?_) | (refine runL_nil (hK _ _ ?_); clear hK K) | refine runL_none rfl (fun K2 hK2 => ?_) | refine runL_some rfl rfl (fun R S hR hS => ?_) | (refine hK2 _ _ ?_; clear hK2 K2) | (refine hK2 _ _ ?_ ?_ <;> clear hK2 K2) | (refine regW_nil (hK _ _ ?_); clear hK K) | (refine regW_load rfl rfl rfl (fun F1 F2 hF1 hF2 => ?_)) | (refine hF1 _ ?_ ?_ <;> clear hF1 hF2 F1 F2) | (refine hF2 _ _ (fun K2 hK2 => ?_); clear hF1 hF2 F1 F2) | refine regW_light rfl rfl rfl (fun _ _ => rfl) (fun K2 hK2 => ?_) | refine regW_lguard rfl rfl rfl rfl (fun _ _ => rfl) (fun R S hR hS => ?_) | refine regW_heavy rfl rfl (fun K2 hK2 => ?_) | with_reducible refine log_goal ?_ | (refine hR _ (fun K2 hK2 => ?_); clear hR hS R S) | (refine hS _ ?_; clear hR hS R S) | refine good_block ?_ | refine good_skip ?_ | refine good_exit ?_ | refine good_ret ?_ | refine good_cond ?_ | refine And.intro ?_ ?_ | intro _) <;> try simp (disch := first | assumption | omega) only [go_sem, Option.map, List.isEmpty, ↓reduceIte, Nat.reduceEqDiff, Nat.reduceAdd, Nat.reduceSub, Nat.reduceMul, Nat.reduceLT, Nat.reduceLeDiff, reduceCtorEq, Nat.reduceBEq, Nat.reduceBNe, Int.reduceNeg, Int.reduceLE, Int.reduceLT, Int.reduceToNat] | ((first | (refine ACalls.mono (c_valid g _) (fun v h' hv' => ?_); obtain ⟨rfl, hh⟩ := hv'; subst h'; rw [decide_eq_false hg])) <;> try simp (disch := first | assumption | omega) only [go_sem, Option.map, List.isEmpty, ↓reduceIte, Nat.reduceEqDiff, Nat.reduceAdd, Nat.reduceSub, Nat.reduceMul, Nat.reduceLT, Nat.reduceLeDiff, reduceCtorEq, Nat.reduceBEq, Nat.reduceBNe, Int.reduceNeg, Int.reduceLE, Int.reduceLT, Int.reduceToNat]) | omega)
    exact ⟨_, Up.tup2 Up.nmat (Up.refl _), by simp [congM, congE, hp]⟩
theorem c_rCong (g t : List (List Int)) (m : Int) (h : AH) : ACalls Try.prog 39 [matV g, matV t, .int .i64 m] h (fun v h' => v = .tup [matV (congM g t m), .int .i64 (congE g t m)] ∧ h' = h) := by
  refine ACalls.up ?_
  refine acalls_of_good 3 43 [.tmp 6, .tmp 7] Try.func39 rfl rfl (by kernel_rfl) rfl rfl (by decide) ?_
  simp (disch := first | assumption | omega) only [go_sem, Option.map, List.isEmpty, ↓reduceIte, Nat.reduceEqDiff, Nat.reduceAdd, Nat.reduceSub, Nat.reduceMul, Nat.reduceLT, Nat.reduceLeDiff, reduceCtorEq, Nat.reduceBEq, Nat.reduceBNe, Int.reduceNeg, Int.reduceLE, Int.reduceLT, Int.reduceToNat]
  by_cases hg : ValidP g
  · by_cases ht : ValidP t
    · have hg1 := hg.1
      have ht1 := ht.1
      by_cases hgt : g.length = (g.getD 0 []).length ∧ t.length = g.length
      · have hp : congP g t := ⟨hg, ht, hgt.1, hgt.2⟩
        have hgr := hg.2.2.2.2
        have htr := ht.2.2.2.2
        have hg2 := hg.2
        have ht2 := ht.2
        have ht3 := ht.2.2.2.1
        have hg3 := hg.2.2.2.1
        have htl := redM_length t m
        have htr2 : ∀ i, i < (redM t m).length → ((redM t m).getD i []).length = (t.getD 0 []).length := fun i hi => by rw [htl] at hi; rw [redM_get t m i hi, List.length_map]; exact htr i hi
        have e1 : ((g.length : Int) != ((g.getD 0 []).length : Int)) = false := by rw [← hgt.1]; simp
        have e2 : ((t.length : Int) != (g.length : Int)) = false := by rw [hgt.2]; simp
        cases hm : modB m with
        | true =>
          have hmm := modB_spec hm
          obtain ⟨hf1, hf2⟩ := fits_cong hmm.1 hp
          have hTe : redM (transM t) m = transM (redM t m) := redM_trans (by omega)
          have hPe : redM (prodM (redM g m) (redM t m) m) m = prodM (redM g m) (redM t m) m := redM_id (prodM_ent (by omega))
          have hf2' : Fits (redM (transM t) m) (redM (prodM (redM g m) (redM t m) m) m) m (t.getD 0 []).length := by rw [hTe, hPe]; exact hf2
          have hPr := hf2.rb
          have hPl : (prodM (redM g m) (redM t m) m).length = g.length := by rw [prodM_length, redM_length]
          have hTl := trans_length t
          have htT : ∀ i, i < (transM t).length → ((transM t).getD i []).length = t.length := fun i hi => by rw [hTl] at hi; rw [trans_row hi, colM, List.length_map]
          repeat' (first | (first | refine good_seq ?_ | refine good_reg false (fun K hK => ?_) | (refine runL_nil (hK _ _ ?_); clear hK K) | refine runL_none rfl (fun K2 hK2 => ?_) | refine runL_some rfl rfl (fun R S hR hS => ?_) | (refine hK2 _ _ ?_; clear hK2 K2) | (refine hK2 _ _ ?_ ?_ <;> clear hK2 K2) | (refine regW_nil (hK _ _ ?_); clear hK K) | (refine regW_load rfl rfl rfl (fun F1 F2 hF1 hF2 => ?_)) | (refine hF1 _ ?_ ?_ <;> clear hF1 hF2 F1 F2) | (refine hF2 _ _ (fun K2 hK2 => ?_); clear hF1 hF2 F1 F2) | refine regW_light rfl rfl rfl (fun _ _ => rfl) (fun K2 hK2 => ?_) | refine regW_lguard rfl rfl rfl rfl (fun _ _ => rfl) (fun R S hR hS => ?_) | refine regW_heavy rfl rfl (fun K2 hK2 => ?_) | with_reducible refine log_goal ?_ | (refine hR _ (fun K2 hK2 => ?_); clear hR hS R S) | (refine hS _ ?_; clear hR hS R S) | refine good_block ?_ | refine good_skip ?_ | refine good_exit ?_ | refine good_ret ?_ | refine good_cond ?_ | refine And.intro ?_ ?_ | intro _) <;> try simp (disch := first | assumption | omega) only [go_sem, Option.map, List.isEmpty, ↓reduceIte, Nat.reduceEqDiff, Nat.reduceAdd, Nat.reduceSub, Nat.reduceMul, Nat.reduceLT, Nat.reduceLeDiff, reduceCtorEq, Nat.reduceBEq, Nat.reduceBNe, Int.reduceNeg, Int.reduceLE, Int.reduceLT, Int.reduceToNat, e1, e2] | ((first | (refine ACalls.mono (c_rValid g _) (fun v h' hv' => ?_); obtain ⟨rfl, hh⟩ := hv'; subst h'; rw [decide_eq_true hg]) | (refine ACalls.mono (c_rValid t _) (fun v h' hv' => ?_); obtain ⟨rfl, hh⟩ := hv'; subst h'; rw [decide_eq_true ht]) | (refine ACalls.mono (c_rmodulus _ _) (fun v h' hv' => ?_); obtain ⟨rfl, hh⟩ := hv'; subst h'; rw [hm]) | (refine ACalls.mono (c_Transpose t _ (by omega) (by omega) htr _) (fun v h' hv' => ?_); obtain ⟨rfl, hh⟩ := hv'; subst h') | (refine ACalls.mono (c_rproduct g t _ _ m hmm (by omega) (by omega) hgr (by omega) (by omega) htr hf1 _) (fun v h' hv' => ?_); obtain ⟨rfl, hh⟩ := hv'; subst h') | (refine ACalls.mono (c_rproduct (transM t) (prodM (redM g m) (redM t m) m) t.length _ m hmm (by omega) (by omega) htT (by omega) (by omega) hPr hf2' _) (fun v h' hv' => ?_); obtain ⟨rfl, hh⟩ := hv'; subst h'; rw [hTe, hPe])) <;> try simp (disch := first | assumption | omega) only [go_sem, Option.map, List.isEmpty, ↓reduceIte, Nat.reduceEqDiff, Nat.reduceAdd, Nat.reduceSub, Nat.reduceMul, Nat.reduceLT, Nat.reduceLeDiff, reduceCtorEq, Nat.reduceBEq, Nat.reduceBNe, Int.reduceNeg, Int.reduceLE, Int.reduceLT, Int.reduceToNat, e1, e2]) | omega)
          exact ⟨_, Up.refl _, by simp [congM, congE, hp, hm]⟩
        | false =>
          repeat' (first | (first | refine good_seq ?_ | refine good_reg false (fun K hK => ?_) | (refine runL_nil (hK _ _ ?_); clear hK K) | refine runL_none rfl (fun K2 hK2 => ?_) | refine runL_some rfl rfl (fun R S hR hS => ?_) | (refine hK2 _ _ ?_; clear hK2 K2) | (refine hK2 _ _ ?_ ?_ <;> clear hK2 K2) | (refine regW_nil (hK _ _ ?_); clear hK K) | (refine regW_load rfl rfl rfl (fun F1 F2 hF1 hF2 => ?_)) | (refine hF1 _ ?_ ?_ <;> clear hF1 hF2 F1 F2) | (refine hF2 _ _ (fun K2 hK2 => ?_); clear hF1 hF2 F1 F2) | refine regW_light rfl rfl rfl (fun _ _ => rfl) (fun K2 hK2 => ?_) | refine regW_lguard rfl rfl rfl rfl (fun _ _ => rfl) (fun R S hR hS => ?_) | refine regW_heavy rfl rfl (fun K2 hK2 => ?_) | with_reducible refine log_goal ?_ | (refine hR _ (fun K2 hK2 => ?_); clear hR hS R S) | (refine hS _ ?_; clear hR hS R S) | refine good_block ?_ | refine good_skip ?_ | refine good_exit ?_ | refine good_ret ?_ | refine good_cond ?_ | refine And.intro ?_ ?_ | intro _) <;> try simp (disch := first | assumption | omega) only [go_sem, Option.map, List.isEmpty, ↓reduceIte, Nat.reduceEqDiff, Nat.reduceAdd, Nat.reduceSub, Nat.reduceMul, Nat.reduceLT, Nat.reduceLeDiff, reduceCtorEq, Nat.reduceBEq, Nat.reduceBNe, Int.reduceNeg, Int.reduceLE, Int.reduceLT, Int.reduceToNat, e1, e2] | ((first | (refine ACalls.mono (c_rValid g _) (fun v h' hv' => ?_); obtain ⟨rfl, hh⟩ := hv'; subst h'; rw [decide_eq_true hg]) | (refine ACalls.mono (c_rValid t _) (fun v h' hv' => ?_); obtain ⟨rfl, hh⟩ := hv'; subst h'; rw [decide_eq_true ht]) | (refine ACalls.mono (c_rmodulus _ _) (fun v h' hv' => ?_); obtain ⟨rfl, hh⟩ := hv'; subst h'; rw [hm])) <;> try simp (disch := first | assumption | omega) only [go_sem, Option.map, List.isEmpty, ↓reduceIte, Nat.reduceEqDiff, Nat.reduceAdd, Nat.reduceSub, Nat.reduceMul, Nat.reduceLT, Nat.reduceLeDiff, reduceCtorEq, Nat.reduceBEq, Nat.reduceBNe, Int.reduceNeg, Int.reduceLE, Int.reduceLT, Int.reduceToNat, e1, e2]) | omega)
          exact ⟨_, Up.tup2 Up.nmat (Up.refl _), by simp [congM, congE, hp, hm]⟩
      · have hp : ¬ congP g t := fun hp => hgt ⟨hp.2.2.1, hp.2.2.2⟩
        repeat' (first | (first | refine good_seq ?_ | refine good_reg false (fun K hK => ?_) | (refine runL_nil (hK _ _ ?_); clear hK K) | refine runL_none rfl (fun K2 hK2 => ?_) | refine runL_some rfl rfl (fun R S hR hS => ?_) | (refine hK2 _ _ ?_; clear hK2 K2) | (refine hK2 _ _ ?_ ?_ <;> clear hK2 K2) | (refine regW_nil (hK _ _ ?_); clear hK K) | (refine regW_load rfl rfl rfl (fun F1 F2 hF1 hF2 => ?_)) | (refine hF1 _ ?_ ?_ <;> clear hF1 hF2 F1 F2) | (refine hF2 _ _ (fun K2 hK2 => ?_); clear hF1 hF2 F1 F2) | refine regW_light rfl rfl rfl (fun _ _ => rfl) (fun K2 hK2 => ?_) | refine regW_lguard rfl rfl rfl rfl (fun _ _ => rfl) (fun R S hR hS => ?_) | refine regW_heavy rfl rfl (fun K2 hK2 => ?_) | with_reducible refine log_goal ?_ | (refine hR _ (fun K2 hK2 => ?_); clear hR hS R S) | (refine hS _ ?_; clear hR hS R S) | refine good_block ?_ | refine good_skip ?_ | refine good_exit ?_ | refine good_ret ?_ | refine good_cond ?_ | refine And.intro ?_ ?_ | intro _) <;> try simp (disch := first | assumption | omega) only [go_sem, Option.map, List.isEmpty, ↓reduceIte, Nat.reduceEqDiff, Nat.reduceAdd, Nat.reduceSub, Nat.reduceMul, Nat.reduceLT, Nat.reduceLeDiff, reduceCtorEq, Nat.reduceBEq, Nat.reduceBNe, Int.reduceNeg, Int.reduceLE, Int.reduceLT, Int.reduceToNat] | ((first | (refine ACalls.mono (c_rValid g _) (fun v h' hv' => ?_); obtain ⟨rfl, hh⟩ := hv'; subst h'; rw [decide_eq_true hg]) | (refine ACalls.mono (c_rValid t _) (fun v h' hv' => ?_); obtain ⟨rfl, hh⟩ := hv'; subst h'; rw [decide_eq_true ht])) <;> try simp (disch := first | assumption | omega) only [go_sem, Option.map, List.isEmpty, ↓reduceIte, Nat.reduceEqDiff, Nat.reduceAdd, Nat.reduceSub, Nat.reduceMul, Nat.reduceLT, Nat.reduceLeDiff, reduceCtorEq, Nat.reduceBEq, Nat.reduceBNe, Int.reduceNeg, Int.reduceLE, Int.reduceLT, Int.reduceToNat]) | omega)
        all_goals first | omega | exact ⟨_, Up.tup2 Up.nmat (Up.refl _), by simp [congM, congE, hp]⟩
    · have hp : ¬ congP g t := fun hp => ht hp.2.1
      repeat' (first | (first | refine good_seq ?_ | refine good_reg false (fun K hK => ?_) | (refine runL_nil (hK _ _ ?_); clear hK K) | refine runL_none rfl (fun K2 hK2 => ?_) | refine runL_some rfl rfl (fun R S hR hS => ?_) | (refine hK2 _ _ ?_; clear hK2 K2) | (refine hK2 _ _ ?_ ?_ <;> clear hK2 K2) | (refine regW_nil (hK _ _ ?_); clear hK K) | (refine regW_load rfl rfl rfl (fun F1 F2 hF1 hF2 => ?_)) | (refine hF1 _ ?_ ?_ <;> clear hF1 hF2 F1 F2) | (refine hF2 _ _ (fun K2 hK2 => ?_); clear hF1 hF2 F1 F2) | refine regW_light rfl rfl rfl (fun _ _ => rfl) (fun K2 hK2 => ?_) | refine regW_lguard rfl rfl rfl rfl (fun _ _ => rfl) (fun R S hR hS => ?_) | refine regW_heavy rfl rfl (fun K2 hK2 => ?_) | with_reducible refine log_goal ?_ | (refine hR _ (fun K2 hK2 => ?_); clear hR hS R S) | (refine hS _ ?_; clear hR hS R S) | refine good_block ?_ | refine good_skip ?_ | refine good_exit ?_ | refine good_ret ?_ | refine good_cond ?_ | refine And.intro ?_ ?_ | intro _) <;> try simp (disch := first | assumption | omega) only [go_sem, Option.map, List.isEmpty, ↓reduceIte, Nat.reduceEqDiff, Nat.reduceAdd, Nat.reduceSub, Nat.reduceMul, Nat.reduceLT, Nat.reduceLeDiff, reduceCtorEq, Nat.reduceBEq, Nat.reduceBNe, Int.reduceNeg, Int.reduceLE, Int.reduceLT, Int.reduceToNat] | ((first | (refine ACalls.mono (c_rValid g _) (fun v h' hv' => ?_); obtain ⟨rfl, hh⟩ := hv'; subst h'; rw [decide_eq_true hg]) | (refine ACalls.mono (c_rValid t _) (fun v h' hv' => ?_); obtain ⟨rfl, hh⟩ := hv'; subst h'; rw [decide_eq_false ht])) <;> try simp (disch := first | assumption | omega) only [go_sem, Option.map, List.isEmpty, ↓reduceIte, Nat.reduceEqDiff, Nat.reduceAdd, Nat.reduceSub, Nat.reduceMul, Nat.reduceLT, Nat.reduceLeDiff, reduceCtorEq, Nat.reduceBEq, Nat.reduceBNe, Int.reduceNeg, Int.reduceLE, Int.reduceLT, Int.reduceToNat]) | omega)
      exact ⟨_, Up.tup2 Up.nmat (Up.refl _), by simp [congM, congE, hp]⟩
  · have hp : ¬ congP g t := fun hp => hg hp.1
    repeat' (first | (first | refine good_seq ?_ | refine good_reg false (fun K hK => ?_) | (refine runL_nil (hK _ _ ?_); clear hK K) | refine runL_none rfl (fun K2 hK2 => ?_) | refine runL_some rfl rfl (fun R S hR hS => ?_) | (refine hK2 _ _ ?_; clear hK2 K2) | (refine hK2 _ _ ?_ ?_ <;> clear hK2 K2) | (refine regW_nil (hK _ _ ?_); clear hK K) | (refine regW_load rfl rfl rfl (fun F1 F2 hF1 hF2 => ?_)) | (refine hF1 _ ?_ ?_ <;> clear hF1 hF2 F1 F2) | (refine hF2 _ _ (fun K2 hK2 => ?_); clear hF1 hF2 F1 F2) | refine regW_light rfl rfl rfl (fun _ _ => rfl) (fun K2 hK2 => ?_) | refine regW_lguard rfl rfl rfl rfl (fun _ _ => rfl) (fun R S hR hS => ?_) | refine regW_heavy rfl rfl (fun K2 hK2 => ?_) | with_reducible refine log_goal ?_ | (refine hR _ (fun K2 hK2 => ?_); clear hR hS R S) | (refine hS _ ?_; clear hR hS R S) | refine good_block ?_ | refine good_skip ?_ | refine good_exit ?_ | refine good_ret ?_ | refine good_cond ?_ | refine And.intro ?_ ?_ | intro _) <;> try simp (disch := first | assumption | omega) only [go_sem, Option.map, List.isEmpty, ↓reduceIte, Nat.reduceEqDiff, Nat.reduceAdd, Nat.reduceSub, Nat.reduceMul, Nat.reduceLT, Nat.reduceLeDiff, reduceCtorEq, Nat.reduceBEq, Nat.reduceBNe, Int.reduceNeg, Int.reduceLE, Int.reduceLT, Int.reduceToNat] | ((first | (refine ACalls.mono (c_rValid g _) (fun v h' hv' => ?_); obtain ⟨rfl, hh⟩ := hv'; subst h'; rw [decide_eq_false hg])) <;> try simp (disch := first | assumption | omega) only [go_sem, Option.map, List.isEmpty, ↓reduceIte, Nat.reduceEqDiff, Nat.reduceAdd, Nat.reduceSub, Nat.reduceMul, Nat.reduceLT, Nat.reduceLeDiff, reduceCtorEq, Nat.reduceBEq, Nat.reduceBNe, Int.reduceNeg, Int.reduceLE, Int.reduceLT, Int.reduceToNat]) | omega)
    exact ⟨_, Up.tup2 Up.nmat (Up.refl _), by simp [congM, congE, hp]⟩
end Go.Eng
