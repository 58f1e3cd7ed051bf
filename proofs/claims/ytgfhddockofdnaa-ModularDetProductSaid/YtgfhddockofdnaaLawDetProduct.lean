/- ModularDetProduct: the determinant of a product is the product of the determinants, and that of a congruent matrix contains the square of that of the base change, modulo every number from 2 to 65537, for all square matrices of small numbers that grids stand for; no error is reported, and the sanity check holds. No condition on the input. -/
import Derived.Test.YtgfhddockofdnaaRows
import Derived.Test.YtgfhddockofdnaaMN

namespace Go.Proofs.Ytgfhddockofdnaa.modularDetProduct
open Go.ChangeShapes Go.WideShapes Go.ChangeAt Go.RowKit Go.Eng
set_option linter.unusedVariables false
theorem own : ownKnob Try.prog.godebug = none := by kernel_rfl
theorem laidOut : laidOutB Try.prog = true := by kernel_rfl
set_option maxRecDepth 100000 in
theorem lifted (os : Os) (started : os.Started) (H : Type) (enc : TypeId × Value → H) :
    ReturnsInHanded {} Try.checked os 14 .any (Rows.modularDetProductSpec.pre6 enc Try.prog Try.f14 Rows.modularDetProductRow.domain false) (Rows.modularDetProductSpec.post enc Try.prog Try.f14 false true false false) := by
  refine returnsInHanded_of_change_sized (C := Try.checked) own started (by kernel_rfl) Try.func14
    (ChangeSpec.witness6 (enc := enc) (C := Try.checked) false ⟨#[], #[.agg #[.int .u8 0, .int .u8 0, .slice none 0 0], .agg #[.int .u8 0, .int .u8 0, .slice none 0 0], .int .u16 0], []⟩ 8 (by kernel_rfl) (by kernel_rfl) (by kernel_rfl) (by kernel_rfl)) ?_
  intro W base args ds gs before hval0 hW hcnd hsz0 _
  have hval : ∀ (j : Nat) t v, Try.f14.params[j]? = some t → args[j]? = some v → Value.okWide Try.prog W .any base t v := hval0
  have hW' := hW
  obtain ⟨p, q, hA0, hV, rfl, hfz, hnd⟩ := hW
  have hA : DataW.TrodAll enc Try.prog W 0 (fun _ => true) true Try.f14.params.toList args.toList ds p := hA0
  rw [Try.params14] at hA hval
  have hAll := hA
  obtain ⟨v0, vs0, d0, ds0, p0, q0, hargs, rfl, rfl, h0, r0⟩ := trodAll_cons hA
  obtain ⟨v1, vs1, d1, ds1, p1, q1, rfl, rfl, rfl, h1, r1⟩ := trodAll_cons r0
  obtain ⟨v2, vs2, d2, ds2, p2, q2, rfl, rfl, rfl, h2, r2⟩ := trodAll_cons r1
  obtain ⟨rfl, rfl, rfl⟩ := trodAll_nil r2
  obtain rfl : args = #[v0, v1, v2] := by cases args; simp_all
  obtain ⟨rfl, rfl⟩ := trodVars_none hV
  obtain ⟨zr0, zc0, zn0, zg0, pz0⟩ := pv_grid (hval 0 25 v0 rfl rfl) h0
  obtain ⟨zr1, zc1, zn1, zg1, pz1⟩ := pv_grid (hval 1 25 v1 rfl rfl) h1
  obtain ⟨z2, rfl, rfl, rfl, w2⟩ := open_int Try.underlying35 (hval 2 35 v2 rfl rfl) h2
  have b2 : 0 ≤ z2 ∧ z2 ≤ 65535 := by
    simp only [Lit.wf, Bool.and_eq_true, decide_eq_true_eq] at w2
    exact ⟨w2.1, w2.2⟩
  refine (row_of (l_DetProduct zr0 zc0 zn0 zr1 zc1 zn1 z2 zg0 zg1 b2 ah0) W #[_, _, _] rfl (fun i hi => ?_)).mono fun e W' ⟨he, bel⟩ => ?_
  · match i with
    | 0 => exact pz0
    | 1 => exact pz1
    | 2 => exact .int _ _
    | n + 3 => exact absurd hi (by simp)
  · subst he
    exact ⟨_, rfl, _, _, _, [], _, [], hW', trodAll_mk1 (shut_bool Try.underlying4 _), trodAll_stays laidOut bel _ _ _ _ (by kernel_rfl) hAll, rfl, bel.frame _, fun h => by cases h⟩
theorem over : Rows.modularDetProductRow.holds Try.pinned (OpenSpec.ofChange Rows.modularDetProductSpec) :=
  OpenClaim.holds_of_wide 14 Try.f14 rfl rfl rfl rfl rfl rfl rfl ⟨rfl, rfl, rfl, rfl, rfl⟩ rfl rfl rfl rfl rfl (by kernel_rfl) Try.func14 (by kernel_rfl)
    (of_decide_eq_true (by kernel_rfl)) (by unfold Func.isWrapper; first | (rw [if_pos (by decide +kernel)]; kernel_rfl) | (rw [if_neg (by decide +kernel)]; exact ⟨rfl, rfl⟩))
    (fun os started H enc _ => lifted os started H enc)
theorem proved : Rows.ModularDetProductSaid := over
#print axioms proved
end Go.Proofs.Ytgfhddockofdnaa.modularDetProduct
namespace Go.Proofs.Ytgfhddockofdnaa
/-- The row, under a short name, for the claim. -/
theorem modularDetProduct_holds : Rows.ModularDetProductSaid := modularDetProduct.proved
end Go.Proofs.Ytgfhddockofdnaa
