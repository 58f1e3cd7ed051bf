import Derived.Test.YtgfhddockofdnaaE24
import Derived.Test.YtgfhddockofdnaaF2
import Derived.Test.YtgfhddockofdnaaW18
open Go Go.Proofs
set_option linter.unusedVariables false
set_option linter.unusedSimpArgs false
set_option maxRecDepth 4000
set_option maxHeartbeats 4000000
namespace Go.Eng
attribute [local irreducible] Good ACalls runL regW stepW opW gdV' gdD condW gifW binW arW loadW storeW idxAW lenW appW appBW cutW onSome onBnd callW fldAW Again thenQ blockQ resW endQ Up loadR
/-! ### the law on products -/
def Small (a : List (List Int)) : Prop := a.length ≤ 1000000 ∧ ∀ i, i < a.length → (a.getD i []).length ≤ 1000000
theorem prod_small {a b : List (List Int)} {m : Int} (h1 : a.length ≤ 1000000) (h2 : (b.getD 0 []).length ≤ 1000000) : Small (prodM a b m) := by
  refine ⟨by rw [prodM_length]; exact h1, fun i hi => ?_⟩
  have hm : (prodM a b m).getD i [] ∈ prodM a b m := mem_getD hi
  rw [prodM_rows rfl _ hm]; exact h2
theorem mul_small (a b : List (List Int)) (m : Int) : Small (mulM a b m) := by
  unfold mulM
  split
  · rename_i hp
    split
    · refine prod_small (by rw [redM_length]; have := hp.1.2.1; omega) ?_
      have hb := hp.2.1
      have h1 := hb.1
      rw [redM_get b m 0 (by omega), List.length_map]
      have := hb.2.2.2.1; omega
    · exact nil_small
  · exact nil_small
theorem gridN_bd {x most : Int} (h : 1 ≤ most ∧ most ≤ 100) (hx : 0 ≤ x) : 1 ≤ gridN x most ∧ (gridN x most : Int) ≤ most := by
  have r1 := Int.emod_nonneg x (show most ≠ 0 by omega)
  have r2 := Int.emod_lt_of_pos x (show 0 < most by omega)
  unfold gridN; omega
theorem gridM_length (rows cols : Int) (ns : List Int) (most : Int) : (gridM rows cols ns most).length = gridN rows most := by simp [gridM]
theorem gridM_row {rows cols : Int} {ns : List Int} {most : Int} {i : Nat} (hi : i < gridN rows most) : ((gridM rows cols ns most).getD i []).length = gridN cols most := by
  rw [gridM, map_range_getL _ hi]; simp
theorem wrap_u8 {n : Int} (h : 0 ≤ n ∧ n ≤ 255) : IntKind.u8.wrap n = n := by
  have : IntKind.u8.wrap n = n % 256 := by simp [IntKind.wrap, IntKind.signed, IntKind.bits]
  rw [this]; omega
structure GridOk (rows cols : Int) (ns : List Int) : Prop where
  r : 0 ≤ rows ∧ rows ≤ 255
  c : 0 ≤ cols ∧ cols ≤ 255
  n : ByteOk ns
def gridV (rows cols : Int) (ns : List Int) : AV := .agg [.int .u8 rows, .int .u8 cols, byteV ns]
theorem mk2_f0 (h : AH) (x y : List AV) : ((h.mk_ x).mk_ y).f h.n = some x := by rw [mk_ne _ _ (by rw [mk_n]; omega), AH.mk_f]
theorem mk2_f1 (h : AH) (x y : List AV) : ((h.mk_ x).mk_ y).f (h.n + 1) = some y := AH.mk_f (h.mk_ x) y
theorem mk2_put1 (h : AH) (x y z : List AV) : ((h.mk_ x).mk_ y).put (h.n + 1) z = (h.mk_ x).mk_ z := AH.mk_put (h.mk_ x) y z
theorem l_Mul (a b : List (List Int)) (xr xc : Int) (xn : List Int) (yr yc : Int) (yn : List Int) (k raw : Int) (wild made : Bool) (hx : GridOk xr xc xn) (hy : GridOk yr yc yn) (hk : 0 ≤ k ∧ k ≤ 65535) (h : AH) :
    ACalls Try.prog 8 [matV a, matV b, gridV xr xc xn, gridV yr yc yn, .int .u16 k, .int .i64 raw, .bool wild, .bool made] h (fun v h' => v = .bool true ∧ True) := by
  have hmB : ∀ ns, memA (byteV ns) = true := fun ns => rfl
  have hcB : ∀ ns, cellsA (byteV ns) = [byteV ns] := fun ns => rfl
  have hoB : ∀ ns, oneA (byteV ns) = true := fun ns => rfl
  have hd : ∀ p q r : AV, ([p, q, r].drop 0).take 3 = [p, q, r] := fun p q r => rfl
  have hee : ∀ x : Int, ((x == x) : Bool) = true := fun x => by simp
  obtain ⟨m, hm⟩ : ∃ x, x = (if wild = true then raw else 2 + k) := ⟨_, rfl⟩
  unfold gridV
  refine acalls_of_good 8 70 [.tmp 16] Try.func8 rfl rfl (by kernel_rfl) rfl rfl (by decide) ?_
  simp (disch := first | assumption | omega) only [go_sem, Option.map, List.isEmpty, ↓reduceIte, Nat.reduceEqDiff, Nat.reduceAdd, Nat.reduceSub, Nat.reduceMul, Nat.reduceLT, Nat.reduceLeDiff, reduceCtorEq, Nat.reduceBEq, Nat.reduceBNe, Int.reduceNeg, Int.reduceLE, Int.reduceLT, Int.reduceToNat]
  by_cases hla : LargeP a
  · repeat' (first | (first | refine good_seq ?_ | refine good_reg false (fun K hK => ?_) | (refine runL_nil (hK _ _ ?_); clear hK K) | refine runL_none rfl (fun K2 hK2 => ?_) | refine runL_some rfl rfl (fun R S hR hS => ?_) | (refine hK2 _ _ ?_; clear hK2 K2) | (refine hK2 _ _ ?_ ?_ <;> clear hK2 K2) | (refine regW_nil (hK _ _ ?_); clear hK K) | (refine regW_load rfl rfl rfl (fun F1 F2 hF1 hF2 => ?_)) | (refine hF1 _ ?_ ?_ <;> clear hF1 hF2 F1 F2) | (refine hF2 _ _ (fun K2 hK2 => ?_); clear hF1 hF2 F1 F2) | refine regW_light rfl rfl rfl (fun _ _ => rfl) (fun K2 hK2 => ?_) | refine regW_lguard rfl rfl rfl rfl (fun _ _ => rfl) (fun R S hR hS => ?_) | refine regW_heavy rfl rfl (fun K2 hK2 => ?_) | with_reducible refine log_goal ?_ | (refine hR _ (fun K2 hK2 => ?_); clear hR hS R S) | (refine hS _ ?_; clear hR hS R S) | refine good_block ?_ | refine good_skip ?_ | refine good_exit ?_ | refine good_ret ?_ | refine good_cond ?_ | refine And.intro ?_ ?_ | intro _) <;> try simp (disch := first | assumption | omega) only [go_sem, Option.map, List.isEmpty, ↓reduceIte, Nat.reduceEqDiff, Nat.reduceAdd, Nat.reduceSub, Nat.reduceMul, Nat.reduceLT, Nat.reduceLeDiff, reduceCtorEq, Nat.reduceBEq, Nat.reduceBNe, Int.reduceNeg, Int.reduceLE, Int.reduceLT, Int.reduceToNat, hmB, hcB, hoB, hd, hee] | ((first | (refine ACalls.mono (c_large a _) (fun v h' hv => ?_); obtain ⟨hv1, hh⟩ := hv; subst h'; rcases hv1 with ⟨rfl, -⟩ | ⟨-, hl2⟩; rotate_left; exact absurd hla hl2) | (refine ACalls.mono (c_awake _) (fun v h' hv => ?_); obtain ⟨rfl, hh⟩ := hv; subst h')) <;> try simp (disch := first | assumption | omega) only [go_sem, Option.map, List.isEmpty, ↓reduceIte, Nat.reduceEqDiff, Nat.reduceAdd, Nat.reduceSub, Nat.reduceMul, Nat.reduceLT, Nat.reduceLeDiff, reduceCtorEq, Nat.reduceBEq, Nat.reduceBNe, Int.reduceNeg, Int.reduceLE, Int.reduceLT, Int.reduceToNat, hmB, hcB, hoB, hd, hee]) | omega)
  by_cases hlb : LargeP b
  · repeat' (first | (first | refine good_seq ?_ | refine good_reg false (fun K hK => ?_) | (refine runL_nil (hK _ _ ?_); clear hK K) | refine runL_none rfl (fun K2 hK2 => ?_) | refine runL_some rfl rfl (fun R S hR hS => ?_) | (refine hK2 _ _ ?_; clear hK2 K2) | (refine hK2 _ _ ?_ ?_ <;> clear hK2 K2) | (refine regW_nil (hK _ _ ?_); clear hK K) | (refine regW_load rfl rfl rfl (fun F1 F2 hF1 hF2 => ?_)) | (refine hF1 _ ?_ ?_ <;> clear hF1 hF2 F1 F2) | (refine hF2 _ _ (fun K2 hK2 => ?_); clear hF1 hF2 F1 F2) | refine regW_light rfl rfl rfl (fun _ _ => rfl) (fun K2 hK2 => ?_) | refine regW_lguard rfl rfl rfl rfl (fun _ _ => rfl) (fun R S hR hS => ?_) | refine regW_heavy rfl rfl (fun K2 hK2 => ?_) | with_reducible refine log_goal ?_ | (refine hR _ (fun K2 hK2 => ?_); clear hR hS R S) | (refine hS _ ?_; clear hR hS R S) | refine good_block ?_ | refine good_skip ?_ | refine good_exit ?_ | refine good_ret ?_ | refine good_cond ?_ | refine And.intro ?_ ?_ | intro _) <;> try simp (disch := first | assumption | omega) only [go_sem, Option.map, List.isEmpty, ↓reduceIte, Nat.reduceEqDiff, Nat.reduceAdd, Nat.reduceSub, Nat.reduceMul, Nat.reduceLT, Nat.reduceLeDiff, reduceCtorEq, Nat.reduceBEq, Nat.reduceBNe, Int.reduceNeg, Int.reduceLE, Int.reduceLT, Int.reduceToNat, hmB, hcB, hoB, hd, hee] | ((first | (refine ACalls.mono (c_large a _) (fun v h' hv => ?_); obtain ⟨hv1, hh⟩ := hv; subst h'; rcases hv1 with ⟨-, hl2⟩ | ⟨rfl, -⟩; exact absurd hl2 hla) | (refine ACalls.mono (c_large b _) (fun v h' hv => ?_); obtain ⟨hv1, hh⟩ := hv; subst h'; rcases hv1 with ⟨rfl, -⟩ | ⟨-, hl2⟩; rotate_left; exact absurd hlb hl2) | (refine ACalls.mono (c_awake _) (fun v h' hv => ?_); obtain ⟨rfl, hh⟩ := hv; subst h')) <;> try simp (disch := first | assumption | omega) only [go_sem, Option.map, List.isEmpty, ↓reduceIte, Nat.reduceEqDiff, Nat.reduceAdd, Nat.reduceSub, Nat.reduceMul, Nat.reduceLT, Nat.reduceLeDiff, reduceCtorEq, Nat.reduceBEq, Nat.reduceBNe, Int.reduceNeg, Int.reduceLE, Int.reduceLT, Int.reduceToNat, hmB, hcB, hoB, hd, hee]) | omega)
  cases made with
  | false =>
    repeat' (first | (first | refine good_seq ?_ | refine good_reg false (fun K hK => ?_) | (refine runL_nil (hK _ _ ?_); clear hK K) | refine runL_none rfl (fun K2 hK2 => ?_) | refine runL_some rfl rfl (fun R S hR hS => ?_) | (refine hK2 _ _ ?_; clear hK2 K2) | (refine hK2 _ _ ?_ ?_ <;> clear hK2 K2) | (refine regW_nil (hK _ _ ?_); clear hK K) | (refine regW_load rfl rfl rfl (fun F1 F2 hF1 hF2 => ?_)) | (refine hF1 _ ?_ ?_ <;> clear hF1 hF2 F1 F2) | (refine hF2 _ _ (fun K2 hK2 => ?_); clear hF1 hF2 F1 F2) | refine regW_light rfl rfl rfl (fun _ _ => rfl) (fun K2 hK2 => ?_) | refine regW_lguard rfl rfl rfl rfl (fun _ _ => rfl) (fun R S hR hS => ?_) | refine regW_heavy rfl rfl (fun K2 hK2 => ?_) | with_reducible refine log_goal ?_ | (refine hR _ (fun K2 hK2 => ?_); clear hR hS R S) | (refine hS _ ?_; clear hR hS R S) | refine good_block ?_ | refine good_skip ?_ | refine good_exit ?_ | refine good_ret ?_ | refine good_cond ?_ | refine And.intro ?_ ?_ | intro _) <;> try simp (disch := first | assumption | omega) only [go_sem, Option.map, List.isEmpty, ↓reduceIte, Nat.reduceEqDiff, Nat.reduceAdd, Nat.reduceSub, Nat.reduceMul, Nat.reduceLT, Nat.reduceLeDiff, reduceCtorEq, Nat.reduceBEq, Nat.reduceBNe, Int.reduceNeg, Int.reduceLE, Int.reduceLT, Int.reduceToNat, hmB, hcB, hoB, hd, hee] | ((first | (refine ACalls.mono (c_large a _) (fun v h' hv => ?_); obtain ⟨hv1, hh⟩ := hv; subst h'; rcases hv1 with ⟨-, hl2⟩ | ⟨rfl, -⟩; exact absurd hl2 hla) | (refine ACalls.mono (c_large b _) (fun v h' hv => ?_); obtain ⟨hv1, hh⟩ := hv; subst h'; rcases hv1 with ⟨-, hl2⟩ | ⟨rfl, -⟩; exact absurd hl2 hlb) | (refine ACalls.mono (c_awake _) (fun v h' hv => ?_); obtain ⟨rfl, hh⟩ := hv; subst h') | (refine ACalls.mono (c_lmodulus k raw wild hk _) (fun v h' hv => ?_); obtain ⟨rfl, hh⟩ := hv; subst h'; rw [← hm]) | (refine ACalls.mono (c_mMul _ _ m _) (fun v h' hv => ?_); obtain ⟨rfl, hh⟩ := hv; subst h') | (refine ACalls.mono (c_rMul _ _ m _) (fun v h' hv => ?_); obtain ⟨rfl, hh⟩ := hv; subst h') | (refine ACalls.mono (c_Same _ _ (mul_small _ _ m).1 (mul_small _ _ m).2 _) (fun v h' hv => ?_); obtain ⟨rfl, hh⟩ := hv; subst h')) <;> try simp (disch := first | assumption | omega) only [go_sem, Option.map, List.isEmpty, ↓reduceIte, Nat.reduceEqDiff, Nat.reduceAdd, Nat.reduceSub, Nat.reduceMul, Nat.reduceLT, Nat.reduceLeDiff, reduceCtorEq, Nat.reduceBEq, Nat.reduceBNe, Int.reduceNeg, Int.reduceLE, Int.reduceLT, Int.reduceToNat, hmB, hcB, hoB, hd, hee]) | omega)
    all_goals trace_state
  | true =>
    have g1 := gridN_bd (x := xr) (most := 5) (by omega) hx.r.1
    have g2 := gridN_bd (x := xc) (most := 5) (by omega) hx.c.1
    obtain ⟨A, hA⟩ : ∃ x, x = gridM xr xc xn 5 := ⟨_, rfl⟩
    have hAl : 1 ≤ A.length := by rw [hA, gridM_length]; exact g1.1
    have hA0 : (A.getD 0 []).length = gridN xc 5 := by rw [hA]; exact gridM_row (by omega)
    have hw : IntKind.u8.wrap (((A.getD 0 []).length : Int) - 1) = (gridN xc 5 : Int) - 1 := by rw [wrap_u8 (by omega), hA0]
    repeat' (first | (first | refine good_seq ?_ | refine good_reg false (fun K hK => ?_) | (refine runL_nil (hK _ _ ?_); clear hK K) | refine runL_none rfl (fun K2 hK2 => ?_) | refine runL_some rfl rfl (fun R S hR hS => ?_) | (refine hK2 _ _ ?_; clear hK2 K2) | (refine hK2 _ _ ?_ ?_ <;> clear hK2 K2) | (refine regW_nil (hK _ _ ?_); clear hK K) | (refine regW_load rfl rfl rfl (fun F1 F2 hF1 hF2 => ?_)) | (refine hF1 _ ?_ ?_ <;> clear hF1 hF2 F1 F2) | (refine hF2 _ _ (fun K2 hK2 => ?_); clear hF1 hF2 F1 F2) | refine regW_light rfl rfl rfl (fun _ _ => rfl) (fun K2 hK2 => ?_) | refine regW_lguard rfl rfl rfl rfl (fun _ _ => rfl) (fun R S hR hS => ?_) | refine regW_heavy rfl rfl (fun K2 hK2 => ?_) | with_reducible refine log_goal ?_ | (refine hR _ (fun K2 hK2 => ?_); clear hR hS R S) | (refine hS _ ?_; clear hR hS R S) | refine good_block ?_ | refine good_skip ?_ | refine good_exit ?_ | refine good_ret ?_ | refine good_cond ?_ | refine And.intro ?_ ?_ | intro _) <;> try simp (disch := first | assumption | omega) only [go_sem, Option.map, List.isEmpty, ↓reduceIte, Nat.reduceEqDiff, Nat.reduceAdd, Nat.reduceSub, Nat.reduceMul, Nat.reduceLT, Nat.reduceLeDiff, reduceCtorEq, Nat.reduceBEq, Nat.reduceBNe, Int.reduceNeg, Int.reduceLE, Int.reduceLT, Int.reduceToNat, hmB, hcB, hoB, hd, hee, hw, List.set_cons_zero, mk2_f0, mk2_f1, mk2_put1] | ((first | (refine ACalls.mono (c_large a _) (fun v h' hv => ?_); obtain ⟨hv1, hh⟩ := hv; subst h'; rcases hv1 with ⟨-, hl2⟩ | ⟨rfl, -⟩; exact absurd hl2 hla) | (refine ACalls.mono (c_large b _) (fun v h' hv => ?_); obtain ⟨hv1, hh⟩ := hv; subst h'; rcases hv1 with ⟨-, hl2⟩ | ⟨rfl, -⟩; exact absurd hl2 hlb) | (refine ACalls.mono (c_awake _) (fun v h' hv => ?_); obtain ⟨rfl, hh⟩ := hv; subst h') | (refine ACalls.mono (c_lmodulus k raw wild hk _) (fun v h' hv => ?_); obtain ⟨rfl, hh⟩ := hv; subst h'; rw [← hm]) | (refine ACalls.mono (c_mMul _ _ m _) (fun v h' hv => ?_); obtain ⟨rfl, hh⟩ := hv; subst h') | (refine ACalls.mono (c_rMul _ _ m _) (fun v h' hv => ?_); obtain ⟨rfl, hh⟩ := hv; subst h') | (refine ACalls.mono (c_Same _ _ (mul_small _ _ m).1 (mul_small _ _ m).2 _) (fun v h' hv => ?_); obtain ⟨rfl, hh⟩ := hv; subst h') | (refine ACalls.mono (c_Ints xr xc xn 5 hx.r hx.c hx.n (by omega) _) (fun v h' hv => ?_); obtain ⟨rfl, hh⟩ := hv; subst h'; rw [← hA]) | (refine ACalls.mono (c_Ints _ yc yn 8 (by omega) hy.c hy.n (by omega) _) (fun v h' hv => ?_); obtain ⟨rfl, hh⟩ := hv; subst h')) <;> try simp (disch := first | assumption | omega) only [go_sem, Option.map, List.isEmpty, ↓reduceIte, Nat.reduceEqDiff, Nat.reduceAdd, Nat.reduceSub, Nat.reduceMul, Nat.reduceLT, Nat.reduceLeDiff, reduceCtorEq, Nat.reduceBEq, Nat.reduceBNe, Int.reduceNeg, Int.reduceLE, Int.reduceLT, Int.reduceToNat, hmB, hcB, hoB, hd, hee, hw, List.set_cons_zero, mk2_f0, mk2_f1, mk2_put1]) | omega)
    all_goals trace_state
end Go.Eng
