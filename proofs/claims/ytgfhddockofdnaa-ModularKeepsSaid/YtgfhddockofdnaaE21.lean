/- An engine, part 21: matrices handed out and never written again. Over any program. -/
import Derived.Test.YtgfhddockofdnaaF1
set_option linter.unusedVariables false
set_option linter.unusedSimpArgs false
namespace Go.Eng
open Go.RowKit (Below)

theorem Up.tree {sz : Nat} {xs ys : List AV} {g : Gr} (hl : xs.length = ys.length) (hu : ∀ (pr : Addr → Option Value) i (hi : i < xs.length) vc, PV pr xs[i] vc → PV pr (ys[i]'(by omega)) vc) : Up (.tree sz xs g) (.tree sz ys .ro) := fun ρ vc x => by
  have h := x.ro
  rcases pinv_tree h with ⟨rfl, rfl, -⟩ | ⟨ad, cap, vs, rfl, h2, h3, h4, h5, h6, h7⟩
  · have : ys = [] := List.eq_nil_of_length_eq_zero hl.symm
    subst this
    exact .pure _ _ (.none_ _ _ (.inl rfl))
  · rw [hl]
    exact .pure _ _ (.tree sz ys .ro ad cap vs (by omega) h3 (.inl rfl) (fun i hi => hu _ i (by omega) _ (h5 i (by omega))) (fun i hi => h6 i (by omega)) (fun i j hi hj => h7 i j (by omega) hj))
/-- A matrix written out. -/
theorem Up.lit (M : List (List Int)) (g g' : Gr) : Up (.tree 1 (M.map fun r => .tree 1 (r.map (AV.int .i64)) g) g') (matV M) := by
  refine Up.tree (by simp) fun pr i hi vc hx => ?_
  simp only [List.length_map] at hi
  simp only [List.getElem_map] at hx ⊢
  exact hx.ro

section
variable {P : Program} {f : FuncId} {args : List AV} {h : AH}
theorem ACalls.sealed {u : AV} {R : Prop} {V : AV} (hc : ACalls P f args h (fun v h' => ∃ H O ids m A, h' = matH H O ids m A ∧ MatOk O ids m A ∧ h.n ≤ O ∧ (∀ b ∈ ids, h.n ≤ b) ∧ Ext h H ∧
    ∀ ρ ρ2 vc, Ip.Le ρ ρ2 → RV ρ v vc → (∀ n c vc', n ≤ A.length → RV ρ (.bsl O 0 n c) vc' → PV ρ2.prot (matV (A.take n)) vc') → PV ρ2.prot u vc)) : ACalls P f args h (fun v h' => v = u ∧ h' = h) := fun ρ w argc hR hL =>
  Calls.mono (hc ρ w argc hR hL) fun e w' he => by
    cases e with
    | returned vc =>
      obtain ⟨ρ', v, h', h1, h2, h3, H, O, ids, m, A, rfl, h4, h5, h6, h7, h8⟩ := he
      obtain ⟨ρ2, k1, k2, k3⟩ := freeze_mat h4 h2
      obtain ⟨q1, q2⟩ := hR.cut (h1.trans k1) k2 (off_ext h7 h5 h6)
      exact ⟨_, u, h, q2, q1, .pure _ _ (show PV ρ2.prot _ _ from h8 ρ' ρ2 vc k1 h3 k3), rfl, rfl⟩
    | panicked c => exact he
    | outgrown => exact he
theorem ptup {pr : Addr → Option Value} {us : List AV} {vs : Array Value} (hl : us.length = vs.size) (h : ∀ i (hi : i < us.length), PV pr us[i] (vs.getD i undef)) : PV pr (.tup us) (.tuple vs) := .tup _ _ hl h
/-- Rows, a list of numbers, a number. -/
theorem ACalls.frozenE {M : List (List Int)} {L : List Int} {k : IntKind} {e : Int} (hc : ACalls P f args h (fun v h' => ∃ H O κ ids m A top, v = .tup [.bsl O 0 top .ro, accO κ (L.map (AV.int .i64)), .int k e] ∧ h' = matH H O ids m A ∧ MatOk O ids m A ∧ h.n ≤ O ∧ (∀ b ∈ ids, h.n ≤ b) ∧ Ext h H ∧ top ≤ A.length ∧ A.take top = M)) :
    ACalls P f args h (fun v h' => v = .tup [matV M, rowV L, .int k e] ∧ h' = h) := by
  refine ACalls.sealed (R := True) (V := .nils) (ACalls.mono hc fun v h' ⟨H, O, κ, ids, m, A, top, h1, h2, h3, h4, h5, h6, h7, h8⟩ => ⟨H, O, ids, m, A, h2, h3, h4, h5, h6, fun ρ ρ2 vc hle hv hk => ?_⟩)
  subst h1
  obtain ⟨vs, rfl, hl, hx⟩ := inv_tup hv
  refine ptup (by simpa using hl) fun i hi => ?_
  match i with
  | 0 => rw [← h8]; exact hk top .ro _ h7 (hx 0 (by simp))
  | 1 =>
    have := (hx 1 (by simp)).mono hle
    have h9 := pure_RV (Up.accI κ L _ _ (.pure _ _ (pure_RV this (pur_accO _ _)))) (pur_row L)
    rw [roA_row] at h9
    exact h9
  | 2 =>
    have := pure_RV (v := .int k e) ((hx 2 (by simp)).mono hle) (by simp [pur])
    rw [ra_int] at this
    exact this
  | n + 3 => exact absurd hi (by simp)
/-- Rows, a number. -/
theorem ACalls.frozenK {M : List (List Int)} {k : IntKind} {e : Int} (hc : ACalls P f args h (fun v h' => ∃ H O ids m A top, v = .tup [.bsl O 0 top .ro, .int k e] ∧ h' = matH H O ids m A ∧ MatOk O ids m A ∧ h.n ≤ O ∧ (∀ b ∈ ids, h.n ≤ b) ∧ Ext h H ∧ top ≤ A.length ∧ A.take top = M)) :
    ACalls P f args h (fun v h' => v = .tup [matV M, .int k e] ∧ h' = h) := by
  refine ACalls.sealed (R := True) (V := .nils) (ACalls.mono hc fun v h' ⟨H, O, ids, m, A, top, h1, h2, h3, h4, h5, h6, h7, h8⟩ => ⟨H, O, ids, m, A, h2, h3, h4, h5, h6, fun ρ ρ2 vc hle hv hk => ?_⟩)
  subst h1
  obtain ⟨vs, rfl, hl, hx⟩ := inv_tup hv
  refine ptup (by simpa using hl) fun i hi => ?_
  match i with
  | 0 => rw [← h8]; exact hk top .ro _ h7 (hx 0 (by simp))
  | 1 =>
    have := pure_RV (v := .int k e) ((hx 1 (by simp)).mono hle) (by simp [pur])
    rw [ra_int] at this
    exact this
  | n + 2 => exact absurd hi (by simp)
theorem pmH_ext {H : AH} {n m : Nat} {R : List (List Int)} : Ext H { H with n := H.n + 1 + R.length } := ⟨by show H.n ≤ H.n + 1 + R.length; omega, Nat.le_refl _, fun _ _ => rfl, fun _ _ => rfl⟩
theorem ACalls.upH {R : AV → AH → Prop} (hc : ACalls P f args h (fun v h' => ∃ v' h'', Up v v' ∧ HUp h' h'' ∧ R v' h'')) : ACalls P f args h R := fun ρ w argc hR hL =>
  Calls.mono (hc ρ w argc hR hL) fun e w' he => by
    cases e with
    | returned vc =>
      obtain ⟨ρ', v, h', h1, h2, h3, v', h'', h4, h5, h6⟩ := he
      exact ⟨ρ', v', h'', h1, h5 _ _ h2, h4 _ _ h3, h6⟩
    | panicked c => exact he
    | outgrown => exact he
theorem pmH_ids {H : AH} {M : List (List Int)} {b : Nat} (hb : b ∈ idsOf H.n M.length) : H.n ≤ b := by have := mem_idsOf.1 hb; omega
/-- A matrix made in a memory that has grown, a number. -/
theorem ACalls.frozenP {M : List (List Int)} {k : IntKind} {e : Int} (hc : ACalls P f args h (fun v h' => ∃ H m, v = .tup [.bsl H.n 0 M.length .full, .int k e] ∧ h' = pmH H M.length m M ∧ (∀ r ∈ M, r.length = m) ∧ Ext h H)) :
    ACalls P f args h (fun v h' => v = .tup [matV M, .int k e] ∧ h' = h) := by
  refine ACalls.frozenK (ACalls.upH (ACalls.mono hc fun v h' ⟨H, m, h1, h2, h3, h4⟩ => ?_))
  subst h1; subst h2
  exact ⟨_, _, Up.tup2 (Up.bsl _ _ _ _) (Up.refl _), HUp.pm h3, _, H.n, idsOf H.n M.length, m, M, M.length, rfl, rfl, pm_ok h3, h4.n, fun b hb => Nat.le_trans h4.n (pmH_ids hb), h4.trans (pmH_ext (n := 0) (m := 0)), Nat.le_refl _, List.take_length⟩
/-- The same without the number. -/
theorem ACalls.sealed1 {M : List (List Int)} (hc : ACalls P f args h (fun v h' => ∃ H m, v = .bsl H.n 0 M.length .full ∧ h' = pmH H M.length m M ∧ (∀ r ∈ M, r.length = m) ∧ Ext h H)) :
    ACalls P f args h (fun v h' => v = matV M ∧ h' = h) := by
  refine ACalls.sealed (R := True) (V := .nils) (ACalls.upH (ACalls.mono hc fun v h' ⟨H, m, h1, h2, h3, h4⟩ => ?_))
  subst h1; subst h2
  refine ⟨_, _, Up.bsl _ _ _ _, HUp.pm h3, _, H.n, idsOf H.n M.length, m, M, rfl, pm_ok h3, h4.n, fun b hb => Nat.le_trans h4.n (pmH_ids hb), h4.trans (pmH_ext (n := 0) (m := 0)), fun ρ ρ2 vc hle hv hk => ?_⟩
  have := hk M.length .ro vc (Nat.le_refl _) hv
  rw [List.take_length] at this
  exact this
end
end Go.Eng
