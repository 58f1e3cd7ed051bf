/- ModularCongruence: for all matrices g, t and every modulus T'GT and the refusals of the program are those of the reference, and the sanity check holds; the arguments read as before. No condition on the input. -/
import Derived.Test.YtgfhddockofdnaaRows
import Derived.Test.YtgfhddockofdnaaW23
import Derived.Test.YtgfhddockofdnaaW20
namespace Go.Proofs.Ytgfhddockofdnaa.modularCongruence
open Go.ChangeShapes Go.WideShapes Go.ChangeAt Go.RowKit Go.Eng
set_option linter.unusedVariables false
theorem own : ownKnob Try.prog.godebug = none := by kernel_rfl
theorem laidOut : laidOutB Try.prog = true := by kernel_rfl
set_option maxRecDepth 100000 in
theorem lifted (os : Os) (started : os.Started) (H : Type) (enc : TypeId × Value → H) :
    ReturnsInHanded {} Try.checked os 12 .any (Rows.modularCongruenceSpec.pre6 enc Try.prog Try.f12 Rows.modularCongruenceRow.domain false) (Rows.modularCongruenceSpec.post enc Try.prog Try.f12 false true false false) := by
  refine returnsInHanded_of_change_sized (C := Try.checked) own started (by kernel_rfl) Try.func12
    (ChangeSpec.witness6 (enc := enc) (C := Try.checked) false ⟨#[], #[.slice none 0 0, .slice none 0 0, .agg #[.int .u8 0, .int .u8 0, .slice none 0 0], .agg #[.int .u8 0, .int .u8 0, .slice none 0 0], .int .u16 0, .int .i64 0, .bool false, .bool false], []⟩ 8 (by kernel_rfl) (by kernel_rfl) (by kernel_rfl) (by kernel_rfl)) ?_
  intro W base args ds gs before hval0 hW hcnd hsz0 _
  have hval : ∀ (j : Nat) t v, Try.f12.params[j]? = some t → args[j]? = some v → Value.okWide Try.prog W .any base t v := hval0
  have hW' := hW
  obtain ⟨p, q, hA0, hV, rfl, hfz, hnd⟩ := hW
  have hA : DataW.TrodAll enc Try.prog W 0 (fun _ => true) true Try.f12.params.toList args.toList ds p := hA0
  rw [Try.params12] at hA hval
  have hAll := hA
  obtain ⟨v0, vs0, d0, ds0, p0, q0, hargs, rfl, rfl, h0, r0⟩ := trodAll_cons hA
  obtain ⟨v1, vs1, d1, ds1, p1, q1, rfl, rfl, rfl, h1, r1⟩ := trodAll_cons r0
  obtain ⟨v2, vs2, d2, ds2, p2, q2, rfl, rfl, rfl, h2, r2⟩ := trodAll_cons r1
  obtain ⟨v3, vs3, d3, ds3, p3, q3, rfl, rfl, rfl, h3, r3⟩ := trodAll_cons r2
  obtain ⟨v4, vs4, d4, ds4, p4, q4, rfl, rfl, rfl, h4, r4⟩ := trodAll_cons r3
  obtain ⟨v5, vs5, d5, ds5, p5, q5, rfl, rfl, rfl, h5, r5⟩ := trodAll_cons r4
  obtain ⟨v6, vs6, d6, ds6, p6, q6, rfl, rfl, rfl, h6, r6⟩ := trodAll_cons r5
  obtain ⟨v7, vs7, d7, ds7, p7, q7, rfl, rfl, rfl, h7, r7⟩ := trodAll_cons r6
  obtain ⟨rfl, rfl, rfl⟩ := trodAll_nil r7
  obtain rfl : args = #[v0, v1, v2, v3, v4, v5, v6, v7] := by cases args; simp_all
  obtain ⟨rfl, rfl⟩ := trodVars_none hV
  obtain ⟨a0, len0, cap0, rfl⟩ := okWide_slice Try.underlying22 (hval 0 22 v0 rfl rfl)
  obtain ⟨z0, pz0⟩ : ∃ a, PV (protW W) (matV a) (.slice a0 len0 cap0) := by
    obtain ⟨fuel, hf⟩ := h0
    exact pv_mat Try.underlying22 Try.underlying46 Try.underlying2 (by kernel_rfl) (by kernel_rfl) hf
  obtain ⟨a1, len1, cap1, rfl⟩ := okWide_slice Try.underlying22 (hval 1 22 v1 rfl rfl)
  obtain ⟨z1, pz1⟩ : ∃ a, PV (protW W) (matV a) (.slice a1 len1 cap1) := by
    obtain ⟨fuel, hf⟩ := h1
    exact pv_mat Try.underlying22 Try.underlying46 Try.underlying2 (by kernel_rfl) (by kernel_rfl) hf
  obtain ⟨zr2, zc2, zn2, zg2, pz2⟩ := pv_grid (hval 2 25 v2 rfl rfl) h2
  obtain ⟨zr3, zc3, zn3, zg3, pz3⟩ := pv_grid (hval 3 25 v3 rfl rfl) h3
  obtain ⟨z4, rfl, rfl, rfl, w4⟩ := open_int Try.underlying35 (hval 4 35 v4 rfl rfl) h4
  have b4 : 0 ≤ z4 ∧ z4 ≤ 65535 := by
    simp only [Lit.wf, Bool.and_eq_true, decide_eq_true_eq] at w4
    exact ⟨w4.1, w4.2⟩
  obtain ⟨z5, rfl, rfl, rfl, w5⟩ := open_int Try.underlying2 (hval 5 2 v5 rfl rfl) h5
  obtain ⟨z6, rfl, rfl, rfl⟩ := open_bool Try.underlying4 (hval 6 4 v6 rfl rfl) h6
  obtain ⟨z7, rfl, rfl, rfl⟩ := open_bool Try.underlying4 (hval 7 4 v7 rfl rfl) h7
  refine (row_of (l_Congruence z0 z1 zr2 zc2 zn2 zr3 zc3 zn3 z4 z5 z6 z7 zg2 zg3 b4 ah0) W #[_, _, _, _, _, _, _, _] rfl (fun i hi => ?_)).mono fun e W' ⟨he, bel⟩ => ?_
  · match i with
    | 0 => exact pz0
    | 1 => exact pz1
    | 2 => exact pz2
    | 3 => exact pz3
    | 4 => exact .int _ _
    | 5 => exact .int _ _
    | 6 => exact .bool _
    | 7 => exact .bool _
    | n + 8 => exact absurd hi (by simp)
  · subst he
    exact ⟨_, rfl, _, _, _, [], _, [], hW', trodAll_mk1 (shut_bool Try.underlying4 _), trodAll_stays laidOut bel _ _ _ _ (by kernel_rfl) hAll, rfl, bel.frame _, fun h => by cases h⟩
theorem over : Rows.modularCongruenceRow.holds Try.pinned (OpenSpec.ofChange Rows.modularCongruenceSpec) :=
  OpenClaim.holds_of_wide 12 Try.f12 rfl rfl rfl rfl rfl rfl rfl ⟨rfl, rfl, rfl, rfl, rfl⟩ rfl rfl rfl rfl rfl (by kernel_rfl) Try.func12 (by kernel_rfl)
    (of_decide_eq_true (by kernel_rfl)) (by unfold Func.isWrapper; first | (rw [if_pos (by decide +kernel)]; kernel_rfl) | (rw [if_neg (by decide +kernel)]; exact ⟨rfl, rfl⟩))
    (fun os started H enc _ => lifted os started H enc)
theorem proved : Rows.ModularCongruenceSaid := over
#print axioms proved
end Go.Proofs.Ytgfhddockofdnaa.modularCongruence
namespace Go.Proofs.Ytgfhddockofdnaa
/-- The row, under a short name, for the claim. -/
theorem modularCongruence_holds : Rows.ModularCongruenceSaid := modularCongruence.proved
end Go.Proofs.Ytgfhddockofdnaa
