import Derived.Test.YtgfhddockofdnaaE24
import Derived.Test.YtgfhddockofdnaaF2
import Derived.Test.YtgfhddockofdnaaW17
open Go Go.Proofs
set_option linter.unusedVariables false
set_option linter.unusedSimpArgs false
set_option maxRecDepth 4000
set_option maxHeartbeats 4000000
namespace Go.Eng
attribute [local irreducible] Good ACalls runL regW stepW opW gdV' gdD condW gifW binW arW loadW storeW idxAW lenW appW appBW cutW onSome onBnd callW fldAW Again thenQ blockQ resW endQ Up loadR
/-! ### numbers from a tape, matrices from a grid -/
theorem pm_old {h : AH} {n m : Nat} {R : List (List Int)} {b : Nat} (hb : b < h.n) : (pmH h n m R).f b = h.f b := by
  simp only [pmH]; rw [if_neg (by omega), if_neg (by omega)]
theorem pm_putb {h : AH} {n m : Nat} {R : List (List Int)} {b : Nat} (hb : b < h.n) (x : List AV) : (pmH h n m R).put b x = pmH (h.put b x) n m R := by
  refine AH.ext_ (fun c => ?_) rfl (fun _ => rfl) rfl
  show (if c = b then some x else (pmH h n m R).f c) = (pmH (h.put b x) n m R).f c
  by_cases hc : c = b
  · rw [if_pos hc, hc, pm_old (h := h.put b x) hb, AH.put_f]
  · rw [if_neg hc]
    simp only [pmH, AH.put, upd, if_neg hc]
def byteV (ns : List Int) : AV := .tree 1 (ns.map (AV.int .i8)) .ro
theorem getD_i8 (r : List Int) (i : Nat) (hi : i < r.length) : (r.map (AV.int .i8)).getD i .junk = .int .i8 (r.getD i 0) := by
  simp [List.getD_eq_getElem?_getD, hi]
def ByteOk (ns : List Int) : Prop := ∀ x ∈ ns, -128 ≤ x ∧ x ≤ 127
theorem byte_get {ns : List Int} (h : ByteOk ns) (i : Nat) : -128 ≤ ns.getD i 0 ∧ ns.getD i 0 ≤ 127 := by
  rw [List.getD_eq_getElem?_getD]
  cases hx : ns[i]? with
  | none => simp
  | some x => exact h x (List.mem_of_getElem? hx)
theorem c_Next (H : AH) (q : Nat) (ns : List Int) (k : Nat) (hns : ByteOk ns) (hq : H.f q = some [byteV ns, .int .i64 (min k ns.length : Nat)]) (hk : k ≤ 1000000) :
    ACalls Try.prog 40 [.ptr q 0] H (fun v h' => v = .int .i64 (ns.getD k 0) ∧ h' = H.put q [byteV ns, .int .i64 (min (k + 1) ns.length : Nat)]) := by
  have hb := byte_get hns k
  refine acalls_of_good 1 32 [.tmp 2] Try.func40 rfl rfl (by kernel_rfl) rfl rfl (by decide) ?_
  simp (disch := first | assumption | omega) only [go_sem, Option.map, List.isEmpty, ↓reduceIte, Nat.reduceEqDiff, Nat.reduceAdd, Nat.reduceSub, Nat.reduceMul, Nat.reduceLT, Nat.reduceLeDiff, reduceCtorEq, Nat.reduceBEq, Nat.reduceBNe, Int.reduceNeg, Int.reduceLE, Int.reduceLT, Int.reduceToNat]
  have hlen : ∀ (t : TypeId) (K : AV → Prop), lenW Try.prog t (byteV ns) K = (knT Try.prog t = some 3 ∧ K (.int .i64 (ns.length : Int))) := fun t K => by rw [byteV, len_tree, List.length_map]
  have hfit : fitsB Try.prog 23 (byteV ns) = true := by rw [byteV, fit_tree, agT_23]; rfl
  by_cases hlt : k < ns.length
  · have hm : min k ns.length = k := by omega
    have hm2 : min (k + 1) ns.length = k + 1 := by omega
    rw [hm] at hq
    rw [hm2]
    have hix : ∀ (t : TypeId) (K : AV → Prop), idxAW Try.prog t (byteV ns) (.int .i64 (k : Int)) K = (onSome (elT Try.prog t) fun e => szT Try.prog e = some 1 ∧ 0 ≤ (k : Int) ∧ (k : Int) < (ns.length : Int) ∧ K (.eptr (.int .i8 (ns.getD k 0)))) := fun t K => by
      rw [byteV, ix_tree]
      simp only [List.length_map, Int.toNat_natCast]
      rw [getD_i8 _ _ hlt]
    have hk1 : (k : Int) + 1 - 1 = (k : Int) := by omega
    have hk2 : ((k + 1 : Nat) : Int) - 1 = (k : Int) := by omega
    repeat' (first | (first | refine good_seq ?_ | refine good_reg false (fun K hK => ?_) | (refine runL_nil (hK _ _ ?_); clear hK K) | refine runL_none rfl (fun K2 hK2 => ?_) | refine runL_some rfl rfl (fun R S hR hS => ?_) | (refine hK2 _ _ ?_; clear hK2 K2) | (refine hK2 _ _ ?_ ?_ <;> clear hK2 K2) | (refine regW_nil (hK _ _ ?_); clear hK K) | (refine regW_load rfl rfl rfl (fun F1 F2 hF1 hF2 => ?_)) | (refine hF1 _ ?_ ?_ <;> clear hF1 hF2 F1 F2) | (refine hF2 _ _ (fun K2 hK2 => ?_); clear hF1 hF2 F1 F2) | refine regW_light rfl rfl rfl (fun _ _ => rfl) (fun K2 hK2 => ?_) | refine regW_lguard rfl rfl rfl rfl (fun _ _ => rfl) (fun R S hR hS => ?_) | refine regW_heavy rfl rfl (fun K2 hK2 => ?_) | with_reducible refine log_goal ?_ | (refine hR _ (fun K2 hK2 => ?_); clear hR hS R S) | (refine hS _ ?_; clear hR hS R S) | refine good_block ?_ | refine good_skip ?_ | refine good_exit ?_ | refine good_ret ?_ | refine good_cond ?_ | refine And.intro ?_ ?_ | intro _) <;> try simp (disch := first | assumption | omega) only [go_sem, Option.map, List.isEmpty, ↓reduceIte, Nat.reduceEqDiff, Nat.reduceAdd, Nat.reduceSub, Nat.reduceMul, Nat.reduceLT, Nat.reduceLeDiff, reduceCtorEq, Nat.reduceBEq, Nat.reduceBNe, Int.reduceNeg, Int.reduceLE, Int.reduceLT, Int.reduceToNat, hq, hlen, hfit, hix, hk1, hk2, List.set_cons_zero, List.set_cons_succ] | ((first | refine good_drw (id := 1) mixed false [[], [0], [0, 1], [0, 1, 2], [], [4], [4, 5], [4, 5, 6], [4, 5, 6, 7], [0, 1, 2, 3, 4, 5, 6, 7, 8]] [0, 1, 2, 3, 4, 5, 6, 7, 8, 9] (by decide +kernel) (fun K hK => ?_) | refine good_drw (id := 4) mixed false [[], [0], [0, 1], [0, 1, 2], [], [4], [4, 5], [4, 5, 6], [4, 5, 6, 7], [0, 1, 2, 3, 4, 5, 6, 7, 8], [0, 1, 2, 3, 4, 5, 6, 7, 8, 9], [0, 1, 2, 3, 4, 5, 6, 7, 8, 9, 10], [0, 1, 2, 3, 4, 5, 6, 7, 8, 9, 10, 11]] [0, 1, 2, 3, 4, 5, 6, 7, 8, 9, 10, 11, 12] (by decide +kernel) (fun K hK => ?_)) <;> try simp (disch := first | assumption | omega) only [go_sem, Option.map, List.isEmpty, ↓reduceIte, Nat.reduceEqDiff, Nat.reduceAdd, Nat.reduceSub, Nat.reduceMul, Nat.reduceLT, Nat.reduceLeDiff, reduceCtorEq, Nat.reduceBEq, Nat.reduceBNe, Int.reduceNeg, Int.reduceLE, Int.reduceLT, Int.reduceToNat, hq, hlen, hfit, hix, hk1, hk2, List.set_cons_zero, List.set_cons_succ]) | omega)
  · have hm : min k ns.length = ns.length := by omega
    have hm2 : min (k + 1) ns.length = ns.length := by omega
    rw [hm] at hq
    rw [hm2]
    have hz : ns.getD k 0 = 0 := by rw [List.getD_eq_getElem?_getD, List.getElem?_eq_none (by omega)]; rfl
    repeat' (first | (first | refine good_seq ?_ | refine good_reg false (fun K hK => ?_) | (refine runL_nil (hK _ _ ?_); clear hK K) | refine runL_none rfl (fun K2 hK2 => ?_) | refine runL_some rfl rfl (fun R S hR hS => ?_) | (refine hK2 _ _ ?_; clear hK2 K2) | (refine hK2 _ _ ?_ ?_ <;> clear hK2 K2) | (refine regW_nil (hK _ _ ?_); clear hK K) | (refine regW_load rfl rfl rfl (fun F1 F2 hF1 hF2 => ?_)) | (refine hF1 _ ?_ ?_ <;> clear hF1 hF2 F1 F2) | (refine hF2 _ _ (fun K2 hK2 => ?_); clear hF1 hF2 F1 F2) | refine regW_light rfl rfl rfl (fun _ _ => rfl) (fun K2 hK2 => ?_) | refine regW_lguard rfl rfl rfl rfl (fun _ _ => rfl) (fun R S hR hS => ?_) | refine regW_heavy rfl rfl (fun K2 hK2 => ?_) | with_reducible refine log_goal ?_ | (refine hR _ (fun K2 hK2 => ?_); clear hR hS R S) | (refine hS _ ?_; clear hR hS R S) | refine good_block ?_ | refine good_skip ?_ | refine good_exit ?_ | refine good_ret ?_ | refine good_cond ?_ | refine And.intro ?_ ?_ | intro _) <;> try simp (disch := first | assumption | omega) only [go_sem, Option.map, List.isEmpty, ↓reduceIte, Nat.reduceEqDiff, Nat.reduceAdd, Nat.reduceSub, Nat.reduceMul, Nat.reduceLT, Nat.reduceLeDiff, reduceCtorEq, Nat.reduceBEq, Nat.reduceBNe, Int.reduceNeg, Int.reduceLE, Int.reduceLT, Int.reduceToNat, hq, hlen, hfit, hz] | ((first | refine good_drw (id := 1) mixed false [[], [0], [0, 1], [0, 1, 2], [], [4], [4, 5], [4, 5, 6], [4, 5, 6, 7], [0, 1, 2, 3, 4, 5, 6, 7, 8]] [0, 1, 2, 3, 4, 5, 6, 7, 8, 9] (by decide +kernel) (fun K hK => ?_) | refine good_drw (id := 4) mixed false [[], [0], [0, 1], [0, 1, 2], [], [4], [4, 5], [4, 5, 6], [4, 5, 6, 7], [0, 1, 2, 3, 4, 5, 6, 7, 8], [0, 1, 2, 3, 4, 5, 6, 7, 8, 9], [0, 1, 2, 3, 4, 5, 6, 7, 8, 9, 10], [0, 1, 2, 3, 4, 5, 6, 7, 8, 9, 10, 11]] [0, 1, 2, 3, 4, 5, 6, 7, 8, 9, 10, 11, 12] (by decide +kernel) (fun K hK => ?_)) <;> try simp (disch := first | assumption | omega) only [go_sem, Option.map, List.isEmpty, ↓reduceIte, Nat.reduceEqDiff, Nat.reduceAdd, Nat.reduceSub, Nat.reduceMul, Nat.reduceLT, Nat.reduceLeDiff, reduceCtorEq, Nat.reduceBEq, Nat.reduceBNe, Int.reduceNeg, Int.reduceLE, Int.reduceLT, Int.reduceToNat, hq, hlen, hfit, hz]) | omega)
    exact (AH.ext_ (fun c => by
      show H.f c = if c = q then _ else H.f c
      split
      · rename_i hc; rw [hc, hq]
      · rfl) rfl (fun _ => rfl) rfl)
def gridN (x most : Int) : Nat := (1 + x % most).toNat
def gridM (rows cols : Int) (ns : List Int) (most : Int) : List (List Int) := (List.range (gridN rows most)).map fun i => (List.range (gridN cols most)).map fun j => ns.getD (i * gridN cols most + j) 0
theorem fill59 (ns : List Int) : fillA [(0, 1), (1, 1)] [AV.nils, AV.int .i64 0] [(0, byteV ns)] = some [byteV ns, .int .i64 0] := by simp [fillA, byteV, memA, cellsA, splice]
theorem c_Ints (rows cols : Int) (ns : List Int) (most : Int) (hrows : 0 ≤ rows ∧ rows ≤ 255) (hcols : 0 ≤ cols ∧ cols ≤ 255) (hns : ByteOk ns) (hmost : 1 ≤ most ∧ most ≤ 100) (h : AH) :
    ACalls Try.prog 17 [.agg [.int .u8 rows, .int .u8 cols, byteV ns], .int .i64 most] h (fun v h' => v = matV (gridM rows cols ns most) ∧ h' = h) := by
  refine ACalls.sealed1 ?_
  have hM : (gridM rows cols ns most).length = gridN rows most := by simp [gridM]
  unfold gridM at hM ⊢
  have r1 := Int.emod_nonneg rows (show most ≠ 0 by omega)
  have r2 := Int.emod_lt_of_pos rows (show 0 < most by omega)
  have c1 := Int.emod_nonneg cols (show most ≠ 0 by omega)
  have c2 := Int.emod_lt_of_pos cols (show 0 < most by omega)
  have ht1 : rows.tmod most = rows % most := tmod_nn hrows.1
  have ht2 : cols.tmod most = cols % most := tmod_nn hcols.1
  obtain ⟨R, hR⟩ : ∃ x, x = gridN rows most := ⟨_, rfl⟩
  obtain ⟨C, hC⟩ : ∃ x, x = gridN cols most := ⟨_, rfl⟩
  have hR' : 1 + rows % most = (R : Int) := by rw [hR, gridN]; omega
  have hC' : 1 + cols % most = (C : Int) := by rw [hC, gridN]; omega
  rw [← hR] at hM ⊢
  rw [← hC] at hM ⊢
  have hRb : R ≤ 100 := by omega
  have hCb : C ≤ 100 := by omega
  have hfb : ∀ t, agT Try.prog t = some false → fitsB Try.prog t (byteV ns) = true := fun t ht => by rw [byteV, fit_tree, ht]; rfl
  have hmB : memA (byteV ns) = true := rfl
  have hcB : cellsA (byteV ns) = [byteV ns] := rfl
  have hoB : oneA (byteV ns) = true := rfl
  have hf9 := fill59 ns
  obtain ⟨G, hG⟩ : ∃ x, x = [AV.int .u8 rows, AV.int .u8 cols, byteV ns] := ⟨_, rfl⟩
  have hGl : G.length = 3 := by rw [hG]; rfl
  have hG0 : G.getD 0 .junk = .int .u8 rows := by rw [hG]; rfl
  have hG1 : G.getD 1 .junk = .int .u8 cols := by rw [hG]; rfl
  have hG2 : G.getD 2 .junk = byteV ns := by rw [hG]; rfl
  rw [← hG]
  obtain ⟨T, hT⟩ : ∃ T : Nat → AH, T = fun k => (h.mk_ G).mk_ [byteV ns, .int .i64 (min k ns.length : Nat)] := ⟨_, rfl⟩
  have hTn : ∀ k, (T k).n = h.n + 1 + 1 := fun k => by rw [hT]; rfl
  have hTG : ∀ k, (T k).f h.n = some G := fun k => by rw [hT]; show ((h.mk_ G).mk_ _).f h.n = _; rw [mk_ne _ _ (by rw [mk_n]; omega), AH.mk_f]
  have hTq : ∀ k, (T k).f (h.n + 1) = some [byteV ns, .int .i64 (min k ns.length : Nat)] := fun k => by rw [hT]; exact AH.mk_f (h.mk_ G) _
  have hTp : ∀ k k', (T k).put (h.n + 1) [byteV ns, .int .i64 (min k' ns.length : Nat)] = T k' := fun k k' => by rw [hT]; exact AH.mk_put (h.mk_ G) _ _
  have hTe : ∀ k, Ext h (T k) := fun k => by rw [hT]; exact ((Ext.refl h).mk_ _).mk_ _
  have q0 : ∀ k R', (pmH (T k) R C R').n = h.n + 1 + 1 + 1 + R'.length := fun k R' => by rw [pm_n, hTn]
  have q1 : ∀ k R', (pmH (T k) R C R').f (h.n + 1 + 1) = some (pmC (h.n + 1 + 1) C R'.length R) := fun k R' => by rw [← hTn k]; exact pm_O
  have q2 : ∀ k R' x, ((pmH (T k) R C R').mk_ x).f (h.n + 1 + 1) = some (pmC (h.n + 1 + 1) C R'.length R) := fun k R' x => by rw [← hTn k]; exact pm_mk_O x
  have q3 : ∀ k R' r, (pmH (T k) R C (R' ++ [r])).f (h.n + 1 + 1 + 1 + R'.length) = some (r.map (AV.int .i64)) := fun k R' r => by rw [← hTn k]; exact pm_last r
  have q4 : ∀ k R' r r', (pmH (T k) R C (R' ++ [r])).put (h.n + 1 + 1 + 1 + R'.length) (r'.map (AV.int .i64)) = pmH (T k) R C (R' ++ [r']) := fun k R' r r' => by rw [← hTn k]; exact pm_lput r r'
  have q5 : ∀ k R', (pmH (T k) R C R').f h.n = some G := fun k R' => by rw [pm_old (by rw [hTn]; omega)]; exact hTG k
  have q6 : ∀ k R', (pmH (T k) R C R').f (h.n + 1) = some [byteV ns, .int .i64 (min k ns.length : Nat)] := fun k R' => by rw [pm_old (by rw [hTn]; omega)]; exact hTq k
  have q7 : ∀ k k' R', (pmH (T k) R C R').put (h.n + 1) [byteV ns, .int .i64 (min k' ns.length : Nat)] = pmH (T k') R C R' := fun k k' R' => by rw [pm_putb (by rw [hTn]; omega), hTp]
  have q8 : ∀ k R' r, R'.length < R → ((pmH (T k) R C R').mk_ (r.map (AV.int .i64))).put (h.n + 1 + 1) ((pmC (h.n + 1 + 1) C R'.length R).set R'.length (.bsl (h.n + 1 + 1 + 1 + R'.length) 0 C .full)) = pmH (T k) R C (R' ++ [r]) := fun k R' r hr => by rw [← hTn k]; exact pm_more hr r
  have q9 : ((h.mk_ G).mk_ [byteV ns, .int .i64 0]).mk_ (List.replicate R AV.nils) = pmH (T 0) R C [] := by
    have : (h.mk_ G).mk_ [byteV ns, .int .i64 0] = T 0 := by rw [hT]; simp
    rw [this]; exact pm_zero
  have q10 : (h.mk_ G).f h.n = some G := AH.mk_f h G
  have q11 : ∀ x, ((h.mk_ G).mk_ x).f h.n = some G := fun x => by rw [mk_ne _ _ (by rw [mk_n]; omega), AH.mk_f]
  refine acalls_of_good 2 54 [.tmp 4] Try.func17 rfl rfl (by kernel_rfl) rfl rfl (by decide) ?_
  simp (disch := first | assumption | omega) only [go_sem, Option.map, List.isEmpty, ↓reduceIte, Nat.reduceEqDiff, Nat.reduceAdd, Nat.reduceSub, Nat.reduceMul, Nat.reduceLT, Nat.reduceLeDiff, reduceCtorEq, Nat.reduceBEq, Nat.reduceBNe, Int.reduceNeg, Int.reduceLE, Int.reduceLT, Int.reduceToNat]
  repeat' (first | (first | refine good_seq ?_ | refine good_reg false (fun K hK => ?_) | (refine runL_nil (hK _ _ ?_); clear hK K) | refine runL_none rfl (fun K2 hK2 => ?_) | refine runL_some rfl rfl (fun R S hR hS => ?_) | (refine hK2 _ _ ?_; clear hK2 K2) | (refine hK2 _ _ ?_ ?_ <;> clear hK2 K2) | (refine regW_nil (hK _ _ ?_); clear hK K) | (refine regW_load rfl rfl rfl (fun F1 F2 hF1 hF2 => ?_)) | (refine hF1 _ ?_ ?_ <;> clear hF1 hF2 F1 F2) | (refine hF2 _ _ (fun K2 hK2 => ?_); clear hF1 hF2 F1 F2) | refine regW_light rfl rfl rfl (fun _ _ => rfl) (fun K2 hK2 => ?_) | refine regW_lguard rfl rfl rfl rfl (fun _ _ => rfl) (fun R S hR hS => ?_) | refine regW_heavy rfl rfl (fun K2 hK2 => ?_) | with_reducible refine log_goal ?_ | (refine hR _ (fun K2 hK2 => ?_); clear hR hS R S) | (refine hS _ ?_; clear hR hS R S) | refine good_block ?_ | refine good_skip ?_ | refine good_exit ?_ | refine good_ret ?_ | refine good_cond ?_ | refine And.intro ?_ ?_ | intro _) <;> try simp (disch := first | assumption | omega) only [go_sem, Option.map, List.isEmpty, ↓reduceIte, Nat.reduceEqDiff, Nat.reduceAdd, Nat.reduceSub, Nat.reduceMul, Nat.reduceLT, Nat.reduceLeDiff, reduceCtorEq, Nat.reduceBEq, Nat.reduceBNe, Int.reduceNeg, Int.reduceLE, Int.reduceLT, Int.reduceToNat, hGl, hG0, hG1, hG2, hmB, hcB, hoB, hf9, hR', hC', ht1, ht2, q10, q11] | ((first | refine good_drw (id := 10) mixed false [[], [], [0, 1], [0, 1, 2], [], [], [5], [0, 1, 2, 3, 4, 5, 6], [0, 1, 2, 3, 4, 5, 6, 7]] [0, 1, 2, 3, 4, 5, 6, 7, 8] (by decide +kernel) (fun K hK => ?_)) <;> try simp (disch := first | assumption | omega) only [go_sem, Option.map, List.isEmpty, ↓reduceIte, Nat.reduceEqDiff, Nat.reduceAdd, Nat.reduceSub, Nat.reduceMul, Nat.reduceLT, Nat.reduceLeDiff, reduceCtorEq, Nat.reduceBEq, Nat.reduceBNe, Int.reduceNeg, Int.reduceLE, Int.reduceLT, Int.reduceToNat, hGl, hG0, hG1, hG2, hmB, hcB, hoB, hf9, hR', hC', ht1, ht2, q10, q11]) | omega)
  refine good_loop_s (σ := List (List Int)) (fun R' => [(1, .int .i64 most), (2, .ptr h.n 0), (5, .ptr (h.n + 1) 0), (6, .bsl (h.n + 1 + 1) 0 R .full), (21, .int .i64 R), (22, .int .i64 R'.length)]) (fun R' => pmH (T (R'.length * C)) R C R')
    (fun R' => R'.length ≤ R ∧ R' = (List.range R'.length).map fun i => (List.range C).map fun j => ns.getD (i * C + j) 0) (fun R' => R - R'.length) [] ?_ ?_ ⟨Nat.zero_le _, rfl⟩ ?_
  · simp (disch := first | assumption | omega) only [go_sem, Option.map, List.isEmpty, ↓reduceIte, Nat.reduceEqDiff, Nat.reduceAdd, Nat.reduceSub, Nat.reduceMul, Nat.reduceLT, Nat.reduceLeDiff, reduceCtorEq, Nat.reduceBEq, Nat.reduceBNe, Int.reduceNeg, Int.reduceLE, Int.reduceLT, Int.reduceToNat]; (try (refine ⟨?_, ?_⟩ <;> omega)); (try omega)
  · rw [q9, List.length_nil, Nat.zero_mul]
  intro R' hI n hn
  by_cases hlt : R'.length < R
  · have hset : ∀ x, ((pmC (h.n + 1 + 1) C R'.length R).set R'.length x).getD R'.length .junk = x := fun x => by simp [List.getD_eq_getElem?_getD, pmC_length, hlt]
    repeat' (first | (first | refine good_seq ?_ | refine good_reg false (fun K hK => ?_) | (refine runL_nil (hK _ _ ?_); clear hK K) | refine runL_none rfl (fun K2 hK2 => ?_) | refine runL_some rfl rfl (fun R S hR hS => ?_) | (refine hK2 _ _ ?_; clear hK2 K2) | (refine hK2 _ _ ?_ ?_ <;> clear hK2 K2) | (refine regW_nil (hK _ _ ?_); clear hK K) | (refine regW_load rfl rfl rfl (fun F1 F2 hF1 hF2 => ?_)) | (refine hF1 _ ?_ ?_ <;> clear hF1 hF2 F1 F2) | (refine hF2 _ _ (fun K2 hK2 => ?_); clear hF1 hF2 F1 F2) | refine regW_light rfl rfl rfl (fun _ _ => rfl) (fun K2 hK2 => ?_) | refine regW_lguard rfl rfl rfl rfl (fun _ _ => rfl) (fun R S hR hS => ?_) | refine regW_heavy rfl rfl (fun K2 hK2 => ?_) | with_reducible refine log_goal ?_ | (refine hR _ (fun K2 hK2 => ?_); clear hR hS R S) | (refine hS _ ?_; clear hR hS R S) | refine good_block ?_ | refine good_skip ?_ | refine good_exit ?_ | refine good_ret ?_ | refine good_cond ?_ | refine And.intro ?_ ?_ | intro _) <;> try simp (disch := first | assumption | omega) only [go_sem, Option.map, List.isEmpty, ↓reduceIte, Nat.reduceEqDiff, Nat.reduceAdd, Nat.reduceSub, Nat.reduceMul, Nat.reduceLT, Nat.reduceLeDiff, reduceCtorEq, Nat.reduceBEq, Nat.reduceBNe, Int.reduceNeg, Int.reduceLE, Int.reduceLT, Int.reduceToNat, hGl, hG0, hG1, hG2, hC', ht2, q0, q1, q2, q5, hset] | ((first | refine good_drw (id := 10) mixed false [[], [], [0, 1], [0, 1, 2], [], [], [5], [0, 1, 2, 3, 4, 5, 6], [0, 1, 2, 3, 4, 5, 6, 7]] [0, 1, 2, 3, 4, 5, 6, 7, 8] (by decide +kernel) (fun K hK => ?_)) <;> try simp (disch := first | assumption | omega) only [go_sem, Option.map, List.isEmpty, ↓reduceIte, Nat.reduceEqDiff, Nat.reduceAdd, Nat.reduceSub, Nat.reduceMul, Nat.reduceLT, Nat.reduceLeDiff, reduceCtorEq, Nat.reduceBEq, Nat.reduceBNe, Int.reduceNeg, Int.reduceLE, Int.reduceLT, Int.reduceToNat, hGl, hG0, hG1, hG2, hC', ht2, q0, q1, q2, q5, hset]) | omega)
    refine good_loop_s (σ := Nat) (fun j => [(1, .int .i64 most), (2, .ptr h.n 0), (5, .ptr (h.n + 1) 0), (6, .bsl (h.n + 1 + 1) 0 R .full), (7, .int .i64 R'.length), (21, .int .i64 R), (22, .int .i64 R'.length), (39, .int .i64 C), (40, .int .i64 j)])
      (fun j => pmH (T (R'.length * C + j)) R C (R' ++ [fillI (fun j => ns.getD (R'.length * C + j) 0) C j])) (fun j => j ≤ C) (fun j => C - j) 0 ?_ ?_ (Nat.zero_le _) ?_
    · simp (disch := first | assumption | omega) only [go_sem, Option.map, List.isEmpty, ↓reduceIte, Nat.reduceEqDiff, Nat.reduceAdd, Nat.reduceSub, Nat.reduceMul, Nat.reduceLT, Nat.reduceLeDiff, reduceCtorEq, Nat.reduceBEq, Nat.reduceBNe, Int.reduceNeg, Int.reduceLE, Int.reduceLT, Int.reduceToNat]; (try (refine ⟨?_, ?_⟩ <;> omega)); (try omega)
    · rw [fillI_zero, Nat.add_zero]; exact (q8 _ _ _ hlt).symm
    intro j hj n' hn'
    have hfl := fillI_length (f := fun j => ns.getD (R'.length * C + j) 0) hj
    have hkb : R'.length * C + j ≤ 1000000 := by
      have := Nat.mul_le_mul (show R'.length ≤ 100 by omega) hCb
      omega
    repeat' (first | (first | refine good_seq ?_ | refine good_reg false (fun K hK => ?_) | (refine runL_nil (hK _ _ ?_); clear hK K) | refine runL_none rfl (fun K2 hK2 => ?_) | refine runL_some rfl rfl (fun R S hR hS => ?_) | (refine hK2 _ _ ?_; clear hK2 K2) | (refine hK2 _ _ ?_ ?_ <;> clear hK2 K2) | (refine regW_nil (hK _ _ ?_); clear hK K) | (refine regW_load rfl rfl rfl (fun F1 F2 hF1 hF2 => ?_)) | (refine hF1 _ ?_ ?_ <;> clear hF1 hF2 F1 F2) | (refine hF2 _ _ (fun K2 hK2 => ?_); clear hF1 hF2 F1 F2) | refine regW_light rfl rfl rfl (fun _ _ => rfl) (fun K2 hK2 => ?_) | refine regW_lguard rfl rfl rfl rfl (fun _ _ => rfl) (fun R S hR hS => ?_) | refine regW_heavy rfl rfl (fun K2 hK2 => ?_) | with_reducible refine log_goal ?_ | (refine hR _ (fun K2 hK2 => ?_); clear hR hS R S) | (refine hS _ ?_; clear hR hS R S) | refine good_block ?_ | refine good_skip ?_ | refine good_exit ?_ | refine good_ret ?_ | refine good_cond ?_ | refine And.intro ?_ ?_ | intro _) <;> try simp (disch := first | assumption | omega) only [go_sem, Option.map, List.isEmpty, ↓reduceIte, Nat.reduceEqDiff, Nat.reduceAdd, Nat.reduceSub, Nat.reduceMul, Nat.reduceLT, Nat.reduceLeDiff, reduceCtorEq, Nat.reduceBEq, Nat.reduceBNe, Int.reduceNeg, Int.reduceLE, Int.reduceLT, Int.reduceToNat, q0, q1, q3, q4, q7] | ((first | refine good_drw (id := 10) mixed false [[], [], [0, 1], [0, 1, 2], [], [], [5], [0, 1, 2, 3, 4, 5, 6], [0, 1, 2, 3, 4, 5, 6, 7]] [0, 1, 2, 3, 4, 5, 6, 7, 8] (by decide +kernel) (fun K hK => ?_) | (refine ACalls.mono (c_Next _ (h.n + 1) ns (R'.length * C + j) hns (q6 _ _) hkb) (fun v h' hv => ?_); obtain ⟨rfl, hh⟩ := hv; rw [q7] at hh; subst hh)) <;> try simp (disch := first | assumption | omega) only [go_sem, Option.map, List.isEmpty, ↓reduceIte, Nat.reduceEqDiff, Nat.reduceAdd, Nat.reduceSub, Nat.reduceMul, Nat.reduceLT, Nat.reduceLeDiff, reduceCtorEq, Nat.reduceBEq, Nat.reduceBNe, Int.reduceNeg, Int.reduceLE, Int.reduceLT, Int.reduceToNat, q0, q1, q3, q4, q7]) | omega)
    · refine Again.to (j + 1) (by omega) (by omega) ?_ ?_
      · simp (disch := first | assumption | omega) only [go_sem, Option.map, List.isEmpty, ↓reduceIte, Nat.reduceEqDiff, Nat.reduceAdd, Nat.reduceSub, Nat.reduceMul, Nat.reduceLT, Nat.reduceLeDiff, reduceCtorEq, Nat.reduceBEq, Nat.reduceBNe, Int.reduceNeg, Int.reduceLE, Int.reduceLT, Int.reduceToNat]; (try (refine ⟨?_, ?_⟩ <;> omega)); (try omega)
      · show pmH (T (R'.length * C + (j + 1))) R C _ = _
        rw [← fillI_set (f := fun j => ns.getD (R'.length * C + j) 0) (by omega)]
        rfl
    · have hjC : j = C := by omega
      refine Again.to (R' ++ [(List.range C).map fun j => ns.getD (R'.length * C + j) 0]) ⟨by simp; omega, ?_⟩ (by show R - (R' ++ [_]).length < n; rw [List.length_append, List.length_singleton]; omega) ?_ ?_
      · rw [List.length_append, List.length_singleton, range_snoc, ← hI.2]
      · simp (disch := first | assumption | omega) only [go_sem, Option.map, List.isEmpty, ↓reduceIte, Nat.reduceEqDiff, Nat.reduceAdd, Nat.reduceSub, Nat.reduceMul, Nat.reduceLT, Nat.reduceLeDiff, reduceCtorEq, Nat.reduceBEq, Nat.reduceBNe, Int.reduceNeg, Int.reduceLE, Int.reduceLT, Int.reduceToNat]; (try (refine ⟨?_, ?_⟩ <;> omega)); (try omega)
      · rw [List.length_append, List.length_singleton, hjC, fillI_full, Nat.add_mul, Nat.one_mul]
  · repeat' (first | (first | refine good_seq ?_ | refine good_reg false (fun K hK => ?_) | (refine runL_nil (hK _ _ ?_); clear hK K) | refine runL_none rfl (fun K2 hK2 => ?_) | refine runL_some rfl rfl (fun R S hR hS => ?_) | (refine hK2 _ _ ?_; clear hK2 K2) | (refine hK2 _ _ ?_ ?_ <;> clear hK2 K2) | (refine regW_nil (hK _ _ ?_); clear hK K) | (refine regW_load rfl rfl rfl (fun F1 F2 hF1 hF2 => ?_)) | (refine hF1 _ ?_ ?_ <;> clear hF1 hF2 F1 F2) | (refine hF2 _ _ (fun K2 hK2 => ?_); clear hF1 hF2 F1 F2) | refine regW_light rfl rfl rfl (fun _ _ => rfl) (fun K2 hK2 => ?_) | refine regW_lguard rfl rfl rfl rfl (fun _ _ => rfl) (fun R S hR hS => ?_) | refine regW_heavy rfl rfl (fun K2 hK2 => ?_) | with_reducible refine log_goal ?_ | (refine hR _ (fun K2 hK2 => ?_); clear hR hS R S) | (refine hS _ ?_; clear hR hS R S) | refine good_block ?_ | refine good_skip ?_ | refine good_exit ?_ | refine good_ret ?_ | refine good_cond ?_ | refine And.intro ?_ ?_ | intro _) <;> try simp (disch := first | assumption | omega) only [go_sem, Option.map, List.isEmpty, ↓reduceIte, Nat.reduceEqDiff, Nat.reduceAdd, Nat.reduceSub, Nat.reduceMul, Nat.reduceLT, Nat.reduceLeDiff, reduceCtorEq, Nat.reduceBEq, Nat.reduceBNe, Int.reduceNeg, Int.reduceLE, Int.reduceLT, Int.reduceToNat, q0] | ((first | refine good_drw (id := 10) mixed false [[], [], [0, 1], [0, 1, 2], [], [], [5], [0, 1, 2, 3, 4, 5, 6], [0, 1, 2, 3, 4, 5, 6, 7]] [0, 1, 2, 3, 4, 5, 6, 7, 8] (by decide +kernel) (fun K hK => ?_)) <;> try simp (disch := first | assumption | omega) only [go_sem, Option.map, List.isEmpty, ↓reduceIte, Nat.reduceEqDiff, Nat.reduceAdd, Nat.reduceSub, Nat.reduceMul, Nat.reduceLT, Nat.reduceLeDiff, reduceCtorEq, Nat.reduceBEq, Nat.reduceBNe, Int.reduceNeg, Int.reduceLE, Int.reduceLT, Int.reduceToNat, q0]) | omega)
    have hRe : R'.length = R := by omega
    have h2 := hI.2
    rw [hRe] at h2
    refine ⟨T (R'.length * C), C, by rw [hTn, List.length_range], ?_, fun r hr => ?_, hTe _⟩
    · rw [← h2, List.length_range, hRe]
    · obtain ⟨i, -, rfl⟩ := List.mem_map.1 hr
      simp
end Go.Eng
