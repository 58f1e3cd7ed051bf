/- Texts W32 of an engine over abstract values and of the walks of this program, one after the other. -/
import Derived.Test.YtgfhddockofdnaaMH
open Go Go.Proofs
set_option linter.unusedVariables false
set_option linter.unusedSimpArgs false
set_option maxRecDepth 4000
set_option maxHeartbeats 40000000
namespace Go.Eng
attribute [local irreducible] Good ACalls runL regW stepW opW gdV' gdD condW gifW binW arW loadW storeW idxAW lenW appW appBW cutW onSome onBnd callW fldAW Again thenQ blockQ resW endQ Up loadR
/-! ### the law on solutions -/
structure KerS (p : Int) (n : Nat) (A l : List (List Int)) (r : Nat) : Prop where
  cnt : l.length + r = n
  wid : Wid n l
  rng : InR p n l
  rs : RS p n A l
  li : LI p n l
theorem kern_facts {a : List (List Int)} {p : Int} (hb : echB a p) : KerS p (a.getD 0 []).length (redM a p) (kernM a p) (echP a p).length := by
  have hpp := isP_spec hb.2
  have hP := isP_prime hb.2
  have hv := hb.1
  have hv1 := hv.1
  have hF := echA_form hP hpp.1 (redM_wid (p := p) hv) (redM_in (p := p) hpp.1 hv) (by rw [redM_length]; exact hv1)
  have hK := kerB_form hpp.1 hF
  have e1 : echR a p = (echA p (redM a p)).1.take (echA p (redM a p)).2.1 := by simp only [echR, if_pos hb]
  have e2 : echP a p = (echA p (redM a p)).2.2 := by simp only [echP, if_pos hb]
  rw [← e1, ← e2] at hK
  have hKM : kerB (echR a p) (echP a p) (a.getD 0 []).length p (a.getD 0 []).length = kerM a p := rfl
  rw [hKM] at hK
  unfold kernM
  rw [if_pos hb]
  by_cases h0 : kerM a p = []
  · rw [if_pos h0]
    have hl0 : (kerM a p).length = 0 := by rw [h0]; rfl
    have hc := hK.cnt
    exact ⟨by simpa [hl0] using hc, fun i hi => absurd hi (Nat.not_lt_zero _), fun i j hi => absurd hi (Nat.not_lt_zero _), fun i hi => absurd hi (Nat.not_lt_zero _), fun y _ i hi => absurd hi (Nat.not_lt_zero _)⟩
  · rw [if_neg h0]
    have hl : 1 ≤ (kerM a p).length := by
      rcases Nat.eq_zero_or_pos (kerM a p).length with h1 | h1
      · exact absurd (List.eq_nil_of_length_eq_zero h1) h0
      · exact h1
    have hE := echA_form (A := kerM a p) (m := (a.getD 0 []).length) hP hpp.1 (kerB_wid _) (kerB_in hpp.1 _) hl
    have hr := hE.rank hpp.1 hK.li
    have hlen := hE.fin.len
    rw [hr, List.take_of_length_le (by omega)]
    exact ⟨by rw [hlen]; exact hK.cnt, hE.fin.wid, hE.fin.rng, hE.rs _ hK.rs, hE.li hK.li⟩
theorem dotm_sum {a b : List (List Int)} {m : Int} (i j : Nat) : ∀ K, m ∣ dotm a b m i j K - sm K (fun k => ent a i k * ent b k j)
  | 0 => by simp only [dotm, sm, Int.sub_self]; exact Int.dvd_zero m
  | K + 1 => by
    have ih := dotm_sum (a := a) (b := b) (m := m) i j K
    have h1 := emod_dvd (dotm a b m i j K + (a.getD i []).getD K 0 * (b.getD K []).getD j 0) m
    simp only [dotm, sm]
    have : (dotm a b m i j K + (a.getD i []).getD K 0 * (b.getD K []).getD j 0) % m - (sm K (fun k => ent a i k * ent b k j) + ent a i K * ent b K j) = ((dotm a b m i j K + (a.getD i []).getD K 0 * (b.getD K []).getD j 0) % m - (dotm a b m i j K + (a.getD i []).getD K 0 * (b.getD K []).getD j 0)) + (dotm a b m i j K - sm K (fun k => ent a i k * ent b k j)) := by unfold ent; omega
    rw [this]; exact Int.dvd_add h1 ih
theorem dvd_zero_of {p x : Int} (h : p ∣ x) (hx : 0 ≤ x ∧ x < p) : x = 0 := eq_of_dvd hx ⟨Int.le_refl _, by omega⟩ (by rw [Int.sub_zero]; exact h)
theorem solves_zero {A l : List (List Int)} {p : Int} {n r : Nat} (hp : 0 < p) (hn : (l.getD 0 []).length = n) (hl : 0 < l.length) (h : KerS p n (redM A p) l r) {i j : Nat} (hi : i < A.length) (hj : j < l.length) :
    ((prodM (redM A p) (redM (transM l) p) p).getD i []).getD j 0 = 0 := by
  have hT : redM (transM l) p = transM l := by
    rw [redM_trans hl, redM_id fun r hr x hx => ?_]
    obtain ⟨q, hq, rfl⟩ := List.mem_iff_getElem.1 hr
    obtain ⟨k, hk, rfl⟩ := List.mem_iff_getElem.1 hx
    have hw := h.wid q hq
    have e1 : l.getD q [] = l[q] := by simp [List.getD_eq_getElem?_getD, hq]
    rw [e1] at hw
    have := h.rng q k hq (by omega)
    rw [e1, List.getD_eq_getElem?_getD, List.getElem?_eq_getElem hk] at this
    exact this
  rw [hT]
  have hTl : (transM l).length = n := by rw [trans_length, hn]
  have hn0 : 0 < n ∨ n = 0 := by omega
  have hcol : 0 < n → ((transM l).getD 0 []).length = l.length := fun h0 => by rw [trans_row (by omega), colM, List.length_map]
  rcases hn0 with hn0 | hn0
  · have hdef : ((prodM (redM A p) (transM l) p).getD i []).getD j 0 = dotm (redM A p) (transM l) p i j n := by
      unfold prodM
      rw [map_range_getL _ (by rw [redM_length]; exact hi), map_range_get _ (by rw [hcol hn0]; exact hj), hTl]
    rw [hdef]
    refine dvd_zero_of ?_ (dotm_bd hp i j n)
    rw [dvd_of_sub (dotm_sum i j n)]
    have hs := h.rs j hj i (by rw [redM_length]; exact hi)
    have : sm n (fun k => ent (redM A p) i k * ent (transM l) k j) = sm n (fun k => ent (redM A p) i k * ent l j k) := sm_congr n fun k hk => by
      unfold ent
      rw [trans_row (by omega), col_get hj]
    rw [this]; exact hs
  · -- no columns: nothing is multiplied
    subst hn0
    have : (transM l) = [] := List.eq_nil_of_length_eq_zero hTl
    rw [this]
    simp only [List.getD_eq_getElem?_getD, prodM, List.getElem?_map]
    cases (List.range (redM A p).length)[i]? <;> simp
theorem rank_facts {l : List (List Int)} {p : Int} {n r : Nat} {A : List (List Int)} (hP : isP p = true) (h : KerS p n A l r) (hl : 1 ≤ l.length ∧ l.length ≤ 16) (hn : 1 ≤ n ∧ n ≤ 16) : ValidP l ∧ echE l p = 0 ∧ (echP l p).length = l.length := by
  have hpp := isP_spec hP
  have h0 := h.wid 0 (by omega)
  have hv : ValidP l := ⟨hl.1, hl.2, by omega, by omega, fun i hi => by rw [h.wid i hi, h0]⟩
  have hid : redM l p = l := redM_id fun r hr x hx => by
    obtain ⟨q, hq, rfl⟩ := List.mem_iff_getElem.1 hr
    obtain ⟨k, hk, rfl⟩ := List.mem_iff_getElem.1 hx
    have hw := h.wid q hq
    have e1 : l.getD q [] = l[q] := by simp [List.getD_eq_getElem?_getD, hq]
    rw [e1] at hw
    have := h.rng q k hq (by omega)
    rw [e1, List.getD_eq_getElem?_getD, List.getElem?_eq_getElem hk] at this
    exact this
  have hE := echA_form (A := l) (m := n) (isP_prime hP) hpp.1 h.wid h.rng hl.1
  have hr := hE.rank hpp.1 h.li
  refine ⟨hv, by simp [echE, hv, hP], ?_⟩
  simp only [echP, if_pos (show echB l p from ⟨hv, hP⟩), hid]
  rw [hE.fin.pl]; exact hr
theorem l_Solves (xr xc : Int) (xn : List Int) (k : Int) (hx : GridOk xr xc xn) (hk : 0 ≤ k ∧ k ≤ 255) (h : AH) :
    ACalls Try.prog 11 [gridV xr xc xn, .int .u8 k] h (fun v h' => v = .bool true ∧ True) := by
  have hmB : ∀ ns, memA (byteV ns) = true := fun ns => rfl
  have hcB : ∀ ns, cellsA (byteV ns) = [byteV ns] := fun ns => rfl
  have hoB : ∀ ns, oneA (byteV ns) = true := fun ns => rfl
  have hd : ∀ p q r : AV, ([p, q, r].drop 0).take 3 = [p, q, r] := fun p q r => rfl
  obtain ⟨A, hA⟩ : ∃ x, x = gridM xr xc xn 7 := ⟨_, rfl⟩
  have hv : ValidP A := by rw [hA]; exact grid_valid hx.r.1 hx.c.1 (by omega)
  obtain ⟨p, hp⟩ : ∃ x, x = oddP k := ⟨_, rfl⟩
  have hpp := oddP_ok hk.1
  rw [← hp] at hpp
  have hps := isP_spec hpp.1
  have hb : echB A p := ⟨hv, hpp.1⟩
  have hS := kern_facts hb
  have hv1 := hv.1
  have hv2 := hv.2.1
  have hv3 := hv.2.2.1
  have hv4 := hv.2.2.2.1
  obtain ⟨n, hn⟩ : ∃ n, n = (A.getD 0 []).length := ⟨_, rfl⟩
  obtain ⟨l, hl⟩ : ∃ l, l = kernM A p := ⟨_, rfl⟩
  obtain ⟨r, hr⟩ : ∃ r, r = (echP A p).length := ⟨_, rfl⟩
  rw [← hn, ← hl, ← hr] at hS
  rw [← hn] at hv3 hv4
  have eE : echE A p = 0 := by simp [echE, hv, hpp.1]
  have hcnt := hS.cnt
  have hne : (((l.length : Int) + (r : Int) != (n : Int)) : Bool) = false := by
    have : (l.length : Int) + (r : Int) = (n : Int) := by omega
    rw [this]; simp
  unfold gridV
  by_cases hl0 : l.length = 0
  · refine acalls_of_good 2 124 [.tmp 4] Try.func11 rfl rfl (by kernel_rfl) rfl rfl (by decide) ?_
    simp (disch := first | assumption | omega) only [go_sem, Option.map, List.isEmpty, ↓reduceIte, Nat.reduceEqDiff, Nat.reduceAdd, Nat.reduceSub, Nat.reduceMul, Nat.reduceLT, Nat.reduceLeDiff, reduceCtorEq, Nat.reduceBEq, Nat.reduceBNe, Int.reduceNeg, Int.reduceLE, Int.reduceLT, Int.reduceToNat]
    repeat' (first | (first | refine good_seq ?_ | refine good_reg false (fun K hK => ?_) | (refine runL_nil (hK _ _ ?_); clear hK K) | refine runL_none rfl (fun K2 hK2 => ?_) | refine runL_some rfl rfl (fun R S hR hS => ?_) | (refine hK2 _ _ ?_; clear hK2 K2) | (refine hK2 _ _ ?_ ?_ <;> clear hK2 K2) | (refine regW_nil (hK _ _ ?_); clear hK K) | (refine regW_load rfl rfl rfl (fun F1 F2 hF1 hF2 => ?_)) | (refine hF1 _ ?_ ?_ <;> clear hF1 hF2 F1 F2) | (refine hF2 _ _ (fun K2 hK2 => ?_); clear hF1 hF2 F1 F2) | refine regW_light rfl rfl rfl (fun _ _ => rfl) (fun K2 hK2 => ?_) | refine regW_lguard rfl rfl rfl rfl (fun _ _ => rfl) (fun R S hR hS => ?_) | refine regW_heavy rfl rfl (fun K2 hK2 => ?_) | with_reducible refine log_goal ?_ | (refine hR _ (fun K2 hK2 => ?_); clear hR hS R S) | (refine hS _ ?_; clear hR hS R S) | refine good_block ?_ | refine good_skip ?_ | refine good_exit ?_ | refine good_ret ?_ | refine good_cond ?_ | refine And.intro ?_ ?_ | intro _) <;> try simp (disch := first | assumption | omega) only [go_sem, Option.map, List.isEmpty, ↓reduceIte, Nat.reduceEqDiff, Nat.reduceAdd, Nat.reduceSub, Nat.reduceMul, Nat.reduceLT, Nat.reduceLeDiff, reduceCtorEq, Nat.reduceBEq, Nat.reduceBNe, Int.reduceNeg, Int.reduceLE, Int.reduceLT, Int.reduceToNat, hmB, hcB, hoB, hd, hne, ← hn, hl0] | ((first | (refine ACalls.mono (c_Ints xr xc xn 7 hx.r hx.c hx.n (by omega) _) (fun v h' hv => ?_); obtain ⟨rfl, hh⟩ := hv; subst h'; rw [← hA]) | (refine ACalls.mono (c_OddPrime k hk _) (fun v h' hv => ?_); obtain ⟨rfl, hh⟩ := hv; subst h'; rw [← hp]) | (refine ACalls.mono (c_Kernel A p _) (fun v h' hv => ?_); obtain ⟨rfl, hh⟩ := hv; subst h'; rw [eE, ← hl]) | (refine ACalls.mono (c_Rank A p _) (fun v h' hv => ?_); obtain ⟨rfl, hh⟩ := hv; subst h'; rw [eE, ← hr]) | (refine ACalls.mono (c_awake _) (fun v h' hv => ?_); obtain ⟨rfl, hh⟩ := hv; subst h')) <;> try simp (disch := first | assumption | omega) only [go_sem, Option.map, List.isEmpty, ↓reduceIte, Nat.reduceEqDiff, Nat.reduceAdd, Nat.reduceSub, Nat.reduceMul, Nat.reduceLT, Nat.reduceLeDiff, reduceCtorEq, Nat.reduceBEq, Nat.reduceBNe, Int.reduceNeg, Int.reduceLE, Int.reduceLT, Int.reduceToNat, hmB, hcB, hoB, hd, hne, ← hn, hl0]) | omega)
  obtain ⟨hvl, hEl, hrl⟩ := rank_facts hpp.1 hS (by omega) (by omega)
  have hw0 := hS.wid 0 (by omega)
  have hTl : (transM l).length = n := by rw [trans_length, hw0]
  have hT0 : ((transM l).getD 0 []).length = l.length := by rw [trans_row (by omega), colM, List.length_map]
  have hTr : ∀ i, i < (transM l).length → ((transM l).getD i []).length = l.length := fun i hi => by rw [hTl] at hi; rw [trans_row (by omega), colM, List.length_map]
  have hvT : ValidP (transM l) := ⟨by omega, by omega, by omega, by omega, fun i hi => by rw [hTr i hi, hT0]⟩
  have hmp : mulP A (transM l) := ⟨hv, hvT, by omega⟩
  have eM : mulE A (transM l) p = 0 := by simp [mulE, hmp, hpp.2]
  have eB : mulM A (transM l) p = prodM (redM A p) (redM (transM l) p) p := by simp [mulM, hmp, hpp.2]
  obtain ⟨b, hbb⟩ : ∃ b, b = mulM A (transM l) p := ⟨_, rfl⟩
  have hbl : b.length = A.length := by rw [hbb, eB, prodM_length, redM_length]
  have hbr : ∀ i, i < b.length → (b.getD i []).length = l.length := fun i hi => by
    rw [hbb, eB] at hi ⊢
    rw [prodM_rows rfl _ (mem_getD hi), redM_get (transM l) p 0 (by omega), List.length_map, hT0]
  have hbz : ∀ i j, i < b.length → j < l.length → (b.getD i []).getD j 0 = 0 := fun i j hi hj => by
    rw [hbb, eB]
    exact solves_zero (by omega) hw0 (by omega) hS (by omega) hj
  have hl0' : ((l.length : Int) == 0) = false := by rw [beq_eq_false_iff_ne]; omega
  have hbA : ((b.length : Int) == (A.length : Int)) = true := by rw [hbl]; simp
  refine acalls_of_good 2 124 [.tmp 4] Try.func11 rfl rfl (by kernel_rfl) rfl rfl (by decide) ?_
  simp (disch := first | assumption | omega) only [go_sem, Option.map, List.isEmpty, ↓reduceIte, Nat.reduceEqDiff, Nat.reduceAdd, Nat.reduceSub, Nat.reduceMul, Nat.reduceLT, Nat.reduceLeDiff, reduceCtorEq, Nat.reduceBEq, Nat.reduceBNe, Int.reduceNeg, Int.reduceLE, Int.reduceLT, Int.reduceToNat]
  repeat' (first | (first | refine good_seq ?_ | refine good_reg false (fun K hK => ?_) | (refine runL_nil (hK _ _ ?_); clear hK K) | refine runL_none rfl (fun K2 hK2 => ?_) | refine runL_some rfl rfl (fun R S hR hS => ?_) | (refine hK2 _ _ ?_; clear hK2 K2) | (refine hK2 _ _ ?_ ?_ <;> clear hK2 K2) | (refine regW_nil (hK _ _ ?_); clear hK K) | (refine regW_load rfl rfl rfl (fun F1 F2 hF1 hF2 => ?_)) | (refine hF1 _ ?_ ?_ <;> clear hF1 hF2 F1 F2) | (refine hF2 _ _ (fun K2 hK2 => ?_); clear hF1 hF2 F1 F2) | refine regW_light rfl rfl rfl (fun _ _ => rfl) (fun K2 hK2 => ?_) | refine regW_lguard rfl rfl rfl rfl (fun _ _ => rfl) (fun R S hR hS => ?_) | refine regW_heavy rfl rfl (fun K2 hK2 => ?_) | with_reducible refine log_goal ?_ | (refine hR _ (fun K2 hK2 => ?_); clear hR hS R S) | (refine hS _ ?_; clear hR hS R S) | refine good_block ?_ | refine good_skip ?_ | refine good_exit ?_ | refine good_ret ?_ | refine good_cond ?_ | refine And.intro ?_ ?_ | intro _) <;> try simp (disch := first | assumption | omega) only [go_sem, Option.map, List.isEmpty, ↓reduceIte, Nat.reduceEqDiff, Nat.reduceAdd, Nat.reduceSub, Nat.reduceMul, Nat.reduceLT, Nat.reduceLeDiff, reduceCtorEq, Nat.reduceBEq, Nat.reduceBNe, Int.reduceNeg, Int.reduceLE, Int.reduceLT, Int.reduceToNat, hmB, hcB, hoB, hd, hne, ← hn, hl0'] | ((first | (refine ACalls.mono (c_Ints xr xc xn 7 hx.r hx.c hx.n (by omega) _) (fun v h' hv => ?_); obtain ⟨rfl, hh⟩ := hv; subst h'; rw [← hA]) | (refine ACalls.mono (c_OddPrime k hk _) (fun v h' hv => ?_); obtain ⟨rfl, hh⟩ := hv; subst h'; rw [← hp]) | (refine ACalls.mono (c_Kernel A p _) (fun v h' hv => ?_); obtain ⟨rfl, hh⟩ := hv; subst h'; rw [eE, ← hl]) | (refine ACalls.mono (c_Rank A p _) (fun v h' hv => ?_); obtain ⟨rfl, hh⟩ := hv; subst h'; rw [eE, ← hr])) <;> try simp (disch := first | assumption | omega) only [go_sem, Option.map, List.isEmpty, ↓reduceIte, Nat.reduceEqDiff, Nat.reduceAdd, Nat.reduceSub, Nat.reduceMul, Nat.reduceLT, Nat.reduceLeDiff, reduceCtorEq, Nat.reduceBEq, Nat.reduceBNe, Int.reduceNeg, Int.reduceLE, Int.reduceLT, Int.reduceToNat, hmB, hcB, hoB, hd, hne, ← hn, hl0']) | omega)
  obtain ⟨G, hG⟩ : ∃ G, G = h.mk_ [AV.int .u8 xr, AV.int .u8 xc, byteV xn] := ⟨_, rfl⟩
  rw [← hG]
  refine good_loop_s (σ := Nat) (fun i => [(5, matV A), (6, .int .i64 p), (7, matV l), (58, matV l), (59, .int .i64 l.length), (60, .int .i64 i)]) (fun _ => G) (fun i => i ≤ l.length) (fun i => l.length - i) 0 ?_ rfl (Nat.zero_le _) ?_
  · simp (disch := first | assumption | omega) only [go_sem, Option.map, List.isEmpty, ↓reduceIte, Nat.reduceEqDiff, Nat.reduceAdd, Nat.reduceSub, Nat.reduceMul, Nat.reduceLT, Nat.reduceLeDiff, reduceCtorEq, Nat.reduceBEq, Nat.reduceBNe, Int.reduceNeg, Int.reduceLE, Int.reduceLT, Int.reduceToNat]; (try (refine ⟨?_, ?_⟩ <;> omega)); (try omega)
  intro i hi n1 hn1
  by_cases hil : i < l.length
  · have hwi := hS.wid i hil
    have hnn : (((n : Int) != (n : Int)) : Bool) = false := by simp
    repeat' (first | (first | refine good_seq ?_ | refine good_reg false (fun K hK => ?_) | (refine runL_nil (hK _ _ ?_); clear hK K) | refine runL_none rfl (fun K2 hK2 => ?_) | refine runL_some rfl rfl (fun R S hR hS => ?_) | (refine hK2 _ _ ?_; clear hK2 K2) | (refine hK2 _ _ ?_ ?_ <;> clear hK2 K2) | (refine regW_nil (hK _ _ ?_); clear hK K) | (refine regW_load rfl rfl rfl (fun F1 F2 hF1 hF2 => ?_)) | (refine hF1 _ ?_ ?_ <;> clear hF1 hF2 F1 F2) | (refine hF2 _ _ (fun K2 hK2 => ?_); clear hF1 hF2 F1 F2) | refine regW_light rfl rfl rfl (fun _ _ => rfl) (fun K2 hK2 => ?_) | refine regW_lguard rfl rfl rfl rfl (fun _ _ => rfl) (fun R S hR hS => ?_) | refine regW_heavy rfl rfl (fun K2 hK2 => ?_) | with_reducible refine log_goal ?_ | (refine hR _ (fun K2 hK2 => ?_); clear hR hS R S) | (refine hS _ ?_; clear hR hS R S) | refine good_block ?_ | refine good_skip ?_ | refine good_exit ?_ | refine good_ret ?_ | refine good_cond ?_ | refine And.intro ?_ ?_ | intro _) <;> try simp (disch := first | assumption | omega) only [go_sem, Option.map, List.isEmpty, ↓reduceIte, Nat.reduceEqDiff, Nat.reduceAdd, Nat.reduceSub, Nat.reduceMul, Nat.reduceLT, Nat.reduceLeDiff, reduceCtorEq, Nat.reduceBEq, Nat.reduceBNe, Int.reduceNeg, Int.reduceLE, Int.reduceLT, Int.reduceToNat, hwi, ← hn, hnn] | ((first | fail) <;> try simp (disch := first | assumption | omega) only [go_sem, Option.map, List.isEmpty, ↓reduceIte, Nat.reduceEqDiff, Nat.reduceAdd, Nat.reduceSub, Nat.reduceMul, Nat.reduceLT, Nat.reduceLeDiff, reduceCtorEq, Nat.reduceBEq, Nat.reduceBNe, Int.reduceNeg, Int.reduceLE, Int.reduceLT, Int.reduceToNat, hwi, ← hn, hnn]) | omega)
    refine Again.to (i + 1) (by omega) (by omega) ?_ rfl
    simp (disch := first | assumption | omega) only [go_sem, Option.map, List.isEmpty, ↓reduceIte, Nat.reduceEqDiff, Nat.reduceAdd, Nat.reduceSub, Nat.reduceMul, Nat.reduceLT, Nat.reduceLeDiff, reduceCtorEq, Nat.reduceBEq, Nat.reduceBNe, Int.reduceNeg, Int.reduceLE, Int.reduceLT, Int.reduceToNat]; (try (refine ⟨?_, ?_⟩ <;> omega)); (try omega)
  repeat' (first | (first | refine good_seq ?_ | refine good_reg false (fun K hK => ?_) | (refine runL_nil (hK _ _ ?_); clear hK K) | refine runL_none rfl (fun K2 hK2 => ?_) | refine runL_some rfl rfl (fun R S hR hS => ?_) | (refine hK2 _ _ ?_; clear hK2 K2) | (refine hK2 _ _ ?_ ?_ <;> clear hK2 K2) | (refine regW_nil (hK _ _ ?_); clear hK K) | (refine regW_load rfl rfl rfl (fun F1 F2 hF1 hF2 => ?_)) | (refine hF1 _ ?_ ?_ <;> clear hF1 hF2 F1 F2) | (refine hF2 _ _ (fun K2 hK2 => ?_); clear hF1 hF2 F1 F2) | refine regW_light rfl rfl rfl (fun _ _ => rfl) (fun K2 hK2 => ?_) | refine regW_lguard rfl rfl rfl rfl (fun _ _ => rfl) (fun R S hR hS => ?_) | refine regW_heavy rfl rfl (fun K2 hK2 => ?_) | with_reducible refine log_goal ?_ | (refine hR _ (fun K2 hK2 => ?_); clear hR hS R S) | (refine hS _ ?_; clear hR hS R S) | refine good_block ?_ | refine good_skip ?_ | refine good_exit ?_ | refine good_ret ?_ | refine good_cond ?_ | refine And.intro ?_ ?_ | intro _) <;> try simp (disch := first | assumption | omega) only [go_sem, Option.map, List.isEmpty, ↓reduceIte, Nat.reduceEqDiff, Nat.reduceAdd, Nat.reduceSub, Nat.reduceMul, Nat.reduceLT, Nat.reduceLeDiff, reduceCtorEq, Nat.reduceBEq, Nat.reduceBNe, Int.reduceNeg, Int.reduceLE, Int.reduceLT, Int.reduceToNat, hbA] | ((first | (refine ACalls.mono (c_Transpose l n (by omega) (by omega) hS.wid _) (fun v h' hv => ?_); obtain ⟨rfl, hh⟩ := hv; subst h') | (refine ACalls.mono (c_mMul A (transM l) p _) (fun v h' hv => ?_); obtain ⟨rfl, hh⟩ := hv; subst h'; rw [eM, ← hbb]) | (refine ACalls.mono (c_Rank l p _) (fun v h' hv => ?_); obtain ⟨rfl, hh⟩ := hv; subst h'; rw [hEl, hrl])) <;> try simp (disch := first | assumption | omega) only [go_sem, Option.map, List.isEmpty, ↓reduceIte, Nat.reduceEqDiff, Nat.reduceAdd, Nat.reduceSub, Nat.reduceMul, Nat.reduceLT, Nat.reduceLeDiff, reduceCtorEq, Nat.reduceBEq, Nat.reduceBNe, Int.reduceNeg, Int.reduceLE, Int.reduceLT, Int.reduceToNat, hbA]) | omega)
  refine good_loop_s (σ := Nat) (fun i => [(5, matV A), (7, matV l), (13, matV b), (14, .int .i64 0), (15, .int .i64 l.length), (16, .int .i64 0), (86, matV b), (87, .int .i64 b.length), (88, .int .i64 i)]) (fun _ => G) (fun i => i ≤ b.length) (fun i => b.length - i) 0 ?_ rfl (Nat.zero_le _) ?_
  · simp (disch := first | assumption | omega) only [go_sem, Option.map, List.isEmpty, ↓reduceIte, Nat.reduceEqDiff, Nat.reduceAdd, Nat.reduceSub, Nat.reduceMul, Nat.reduceLT, Nat.reduceLeDiff, reduceCtorEq, Nat.reduceBEq, Nat.reduceBNe, Int.reduceNeg, Int.reduceLE, Int.reduceLT, Int.reduceToNat]; (try (refine ⟨?_, ?_⟩ <;> omega)); (try omega)
  intro q hq n2 hn2
  by_cases hqb : q < b.length
  · have hwq := hbr q hqb
    repeat' (first | (first | refine good_seq ?_ | refine good_reg false (fun K hK => ?_) | (refine runL_nil (hK _ _ ?_); clear hK K) | refine runL_none rfl (fun K2 hK2 => ?_) | refine runL_some rfl rfl (fun R S hR hS => ?_) | (refine hK2 _ _ ?_; clear hK2 K2) | (refine hK2 _ _ ?_ ?_ <;> clear hK2 K2) | (refine regW_nil (hK _ _ ?_); clear hK K) | (refine regW_load rfl rfl rfl (fun F1 F2 hF1 hF2 => ?_)) | (refine hF1 _ ?_ ?_ <;> clear hF1 hF2 F1 F2) | (refine hF2 _ _ (fun K2 hK2 => ?_); clear hF1 hF2 F1 F2) | refine regW_light rfl rfl rfl (fun _ _ => rfl) (fun K2 hK2 => ?_) | refine regW_lguard rfl rfl rfl rfl (fun _ _ => rfl) (fun R S hR hS => ?_) | refine regW_heavy rfl rfl (fun K2 hK2 => ?_) | with_reducible refine log_goal ?_ | (refine hR _ (fun K2 hK2 => ?_); clear hR hS R S) | (refine hS _ ?_; clear hR hS R S) | refine good_block ?_ | refine good_skip ?_ | refine good_exit ?_ | refine good_ret ?_ | refine good_cond ?_ | refine And.intro ?_ ?_ | intro _) <;> try simp (disch := first | assumption | omega) only [go_sem, Option.map, List.isEmpty, ↓reduceIte, Nat.reduceEqDiff, Nat.reduceAdd, Nat.reduceSub, Nat.reduceMul, Nat.reduceLT, Nat.reduceLeDiff, reduceCtorEq, Nat.reduceBEq, Nat.reduceBNe, Int.reduceNeg, Int.reduceLE, Int.reduceLT, Int.reduceToNat, hwq] | ((first | fail) <;> try simp (disch := first | assumption | omega) only [go_sem, Option.map, List.isEmpty, ↓reduceIte, Nat.reduceEqDiff, Nat.reduceAdd, Nat.reduceSub, Nat.reduceMul, Nat.reduceLT, Nat.reduceLeDiff, reduceCtorEq, Nat.reduceBEq, Nat.reduceBNe, Int.reduceNeg, Int.reduceLE, Int.reduceLT, Int.reduceToNat, hwq]) | omega)
    refine good_loop_s (σ := Nat) (fun j => [(5, matV A), (7, matV l), (13, matV b), (14, .int .i64 0), (15, .int .i64 l.length), (16, .int .i64 0), (86, matV b), (87, .int .i64 b.length), (88, .int .i64 q), (92, rowV (b.getD q [])), (93, .int .i64 l.length), (94, .int .i64 j)]) (fun _ => G) (fun j => j ≤ l.length) (fun j => l.length - j) 0 ?_ rfl (Nat.zero_le _) ?_
    · simp (disch := first | assumption | omega) only [go_sem, Option.map, List.isEmpty, ↓reduceIte, Nat.reduceEqDiff, Nat.reduceAdd, Nat.reduceSub, Nat.reduceMul, Nat.reduceLT, Nat.reduceLeDiff, reduceCtorEq, Nat.reduceBEq, Nat.reduceBNe, Int.reduceNeg, Int.reduceLE, Int.reduceLT, Int.reduceToNat]; (try (refine ⟨?_, ?_⟩ <;> omega)); (try omega)
    intro j hj n3 hn3
    by_cases hjl : j < l.length
    · have hzz := hbz q j hqb hjl
      have h00 : (((0 : Int) != 0) : Bool) = false := rfl
      repeat' (first | (first | refine good_seq ?_ | refine good_reg false (fun K hK => ?_) | (refine runL_nil (hK _ _ ?_); clear hK K) | refine runL_none rfl (fun K2 hK2 => ?_) | refine runL_some rfl rfl (fun R S hR hS => ?_) | (refine hK2 _ _ ?_; clear hK2 K2) | (refine hK2 _ _ ?_ ?_ <;> clear hK2 K2) | (refine regW_nil (hK _ _ ?_); clear hK K) | (refine regW_load rfl rfl rfl (fun F1 F2 hF1 hF2 => ?_)) | (refine hF1 _ ?_ ?_ <;> clear hF1 hF2 F1 F2) | (refine hF2 _ _ (fun K2 hK2 => ?_); clear hF1 hF2 F1 F2) | refine regW_light rfl rfl rfl (fun _ _ => rfl) (fun K2 hK2 => ?_) | refine regW_lguard rfl rfl rfl rfl (fun _ _ => rfl) (fun R S hR hS => ?_) | refine regW_heavy rfl rfl (fun K2 hK2 => ?_) | with_reducible refine log_goal ?_ | (refine hR _ (fun K2 hK2 => ?_); clear hR hS R S) | (refine hS _ ?_; clear hR hS R S) | refine good_block ?_ | refine good_skip ?_ | refine good_exit ?_ | refine good_ret ?_ | refine good_cond ?_ | refine And.intro ?_ ?_ | intro _) <;> try simp (disch := first | assumption | omega) only [go_sem, Option.map, List.isEmpty, ↓reduceIte, Nat.reduceEqDiff, Nat.reduceAdd, Nat.reduceSub, Nat.reduceMul, Nat.reduceLT, Nat.reduceLeDiff, reduceCtorEq, Nat.reduceBEq, Nat.reduceBNe, Int.reduceNeg, Int.reduceLE, Int.reduceLT, Int.reduceToNat, hwq, hzz, h00] | ((first | fail) <;> try simp (disch := first | assumption | omega) only [go_sem, Option.map, List.isEmpty, ↓reduceIte, Nat.reduceEqDiff, Nat.reduceAdd, Nat.reduceSub, Nat.reduceMul, Nat.reduceLT, Nat.reduceLeDiff, reduceCtorEq, Nat.reduceBEq, Nat.reduceBNe, Int.reduceNeg, Int.reduceLE, Int.reduceLT, Int.reduceToNat, hwq, hzz, h00]) | omega)
      refine Again.to (j + 1) (by omega) (by omega) ?_ rfl
      simp (disch := first | assumption | omega) only [go_sem, Option.map, List.isEmpty, ↓reduceIte, Nat.reduceEqDiff, Nat.reduceAdd, Nat.reduceSub, Nat.reduceMul, Nat.reduceLT, Nat.reduceLeDiff, reduceCtorEq, Nat.reduceBEq, Nat.reduceBNe, Int.reduceNeg, Int.reduceLE, Int.reduceLT, Int.reduceToNat]; (try (refine ⟨?_, ?_⟩ <;> omega)); (try omega)
    · repeat' (first | (first | refine good_seq ?_ | refine good_reg false (fun K hK => ?_) | (refine runL_nil (hK _ _ ?_); clear hK K) | refine runL_none rfl (fun K2 hK2 => ?_) | refine runL_some rfl rfl (fun R S hR hS => ?_) | (refine hK2 _ _ ?_; clear hK2 K2) | (refine hK2 _ _ ?_ ?_ <;> clear hK2 K2) | (refine regW_nil (hK _ _ ?_); clear hK K) | (refine regW_load rfl rfl rfl (fun F1 F2 hF1 hF2 => ?_)) | (refine hF1 _ ?_ ?_ <;> clear hF1 hF2 F1 F2) | (refine hF2 _ _ (fun K2 hK2 => ?_); clear hF1 hF2 F1 F2) | refine regW_light rfl rfl rfl (fun _ _ => rfl) (fun K2 hK2 => ?_) | refine regW_lguard rfl rfl rfl rfl (fun _ _ => rfl) (fun R S hR hS => ?_) | refine regW_heavy rfl rfl (fun K2 hK2 => ?_) | with_reducible refine log_goal ?_ | (refine hR _ (fun K2 hK2 => ?_); clear hR hS R S) | (refine hS _ ?_; clear hR hS R S) | refine good_block ?_ | refine good_skip ?_ | refine good_exit ?_ | refine good_ret ?_ | refine good_cond ?_ | refine And.intro ?_ ?_ | intro _) <;> try simp (disch := first | assumption | omega) only [go_sem, Option.map, List.isEmpty, ↓reduceIte, Nat.reduceEqDiff, Nat.reduceAdd, Nat.reduceSub, Nat.reduceMul, Nat.reduceLT, Nat.reduceLeDiff, reduceCtorEq, Nat.reduceBEq, Nat.reduceBNe, Int.reduceNeg, Int.reduceLE, Int.reduceLT, Int.reduceToNat, hwq] | ((first | fail) <;> try simp (disch := first | assumption | omega) only [go_sem, Option.map, List.isEmpty, ↓reduceIte, Nat.reduceEqDiff, Nat.reduceAdd, Nat.reduceSub, Nat.reduceMul, Nat.reduceLT, Nat.reduceLeDiff, reduceCtorEq, Nat.reduceBEq, Nat.reduceBNe, Int.reduceNeg, Int.reduceLE, Int.reduceLT, Int.reduceToNat, hwq]) | omega)
      refine Again.to (q + 1) (by omega) (by omega) ?_ rfl
      simp (disch := first | assumption | omega) only [go_sem, Option.map, List.isEmpty, ↓reduceIte, Nat.reduceEqDiff, Nat.reduceAdd, Nat.reduceSub, Nat.reduceMul, Nat.reduceLT, Nat.reduceLeDiff, reduceCtorEq, Nat.reduceBEq, Nat.reduceBNe, Int.reduceNeg, Int.reduceLE, Int.reduceLT, Int.reduceToNat]; (try (refine ⟨?_, ?_⟩ <;> omega)); (try omega)
  have hll : ((l.length : Int) == (l.length : Int)) = true := by simp
  repeat' (first | (first | refine good_seq ?_ | refine good_reg false (fun K hK => ?_) | (refine runL_nil (hK _ _ ?_); clear hK K) | refine runL_none rfl (fun K2 hK2 => ?_) | refine runL_some rfl rfl (fun R S hR hS => ?_) | (refine hK2 _ _ ?_; clear hK2 K2) | (refine hK2 _ _ ?_ ?_ <;> clear hK2 K2) | (refine regW_nil (hK _ _ ?_); clear hK K) | (refine regW_load rfl rfl rfl (fun F1 F2 hF1 hF2 => ?_)) | (refine hF1 _ ?_ ?_ <;> clear hF1 hF2 F1 F2) | (refine hF2 _ _ (fun K2 hK2 => ?_); clear hF1 hF2 F1 F2) | refine regW_light rfl rfl rfl (fun _ _ => rfl) (fun K2 hK2 => ?_) | refine regW_lguard rfl rfl rfl rfl (fun _ _ => rfl) (fun R S hR hS => ?_) | refine regW_heavy rfl rfl (fun K2 hK2 => ?_) | with_reducible refine log_goal ?_ | (refine hR _ (fun K2 hK2 => ?_); clear hR hS R S) | (refine hS _ ?_; clear hR hS R S) | refine good_block ?_ | refine good_skip ?_ | refine good_exit ?_ | refine good_ret ?_ | refine good_cond ?_ | refine And.intro ?_ ?_ | intro _) <;> try simp (disch := first | assumption | omega) only [go_sem, Option.map, List.isEmpty, ↓reduceIte, Nat.reduceEqDiff, Nat.reduceAdd, Nat.reduceSub, Nat.reduceMul, Nat.reduceLT, Nat.reduceLeDiff, reduceCtorEq, Nat.reduceBEq, Nat.reduceBNe, Int.reduceNeg, Int.reduceLE, Int.reduceLT, Int.reduceToNat, hbA, hll] | ((first | (refine ACalls.mono (c_awake _) (fun v h' hv => ?_); obtain ⟨rfl, hh⟩ := hv; subst h')) <;> try simp (disch := first | assumption | omega) only [go_sem, Option.map, List.isEmpty, ↓reduceIte, Nat.reduceEqDiff, Nat.reduceAdd, Nat.reduceSub, Nat.reduceMul, Nat.reduceLT, Nat.reduceLeDiff, reduceCtorEq, Nat.reduceBEq, Nat.reduceBNe, Int.reduceNeg, Int.reduceLE, Int.reduceLT, Int.reduceToNat, hbA, hll]) | omega)
  all_goals trace_state
end Go.Eng
