/- ModularSolves: for every matrix and odd prime the rows of the kernel are solutions, they are independent, and their number and the rank add up to the number of columns, and the sanity check holds; the arguments read as before. No condition on the input. -/
import Derived.Test.YtgfhddockofdnaaRows
import Derived.Test.YtgfhddockofdnaaMI

namespace Go.Proofs.Ytgfhddockofdnaa.modularSolves
open Go.ChangeShapes Go.WideShapes Go.ChangeAt Go.RowKit Go.Eng
set_option linter.unusedVariables false
theorem own : ownKnob Try.prog.godebug = none := by kernel_rfl
theorem laidOut : laidOutB Try.prog = true := by kernel_rfl
set_option maxRecDepth 100000 in
theorem lifted (os : Os) (started : os.Started) (H : Type) (enc : TypeId × Value → H) :
    ReturnsInHanded {} Try.checked os 11 .any (Rows.modularSolvesSpec.pre6 enc Try.prog Try.f11 Rows.modularSolvesRow.domain false) (Rows.modularSolvesSpec.post enc Try.prog Try.f11 false true false false) := by
  refine returnsInHanded_of_change_sized (C := Try.checked) own started (by kernel_rfl) Try.func11
    (ChangeSpec.witness6 (enc := enc) (C := Try.checked) false ⟨#[], #[.agg #[.int .u8 0, .int .u8 0, .slice none 0 0], .int .u8 0], []⟩ 8 (by kernel_rfl) (by kernel_rfl) (by kernel_rfl) (by kernel_rfl)) ?_
  intro W base args ds gs before hval0 hW hcnd hsz0 _
  have hval : ∀ (j : Nat) t v, Try.f11.params[j]? = some t → args[j]? = some v → Value.okWide Try.prog W .any base t v := hval0
  have hW' := hW
  obtain ⟨p, q, hA0, hV, rfl, hfz, hnd⟩ := hW
  have hA : DataW.TrodAll enc Try.prog W 0 (fun _ => true) true Try.f11.params.toList args.toList ds p := hA0
  rw [Try.params11] at hA hval
  have hAll := hA
  obtain ⟨v0, vs0, d0, ds0, p0, q0, hargs, rfl, rfl, h0, r0⟩ := trodAll_cons hA
  obtain ⟨v1, vs1, d1, ds1, p1, q1, rfl, rfl, rfl, h1, r1⟩ := trodAll_cons r0
  obtain ⟨rfl, rfl, rfl⟩ := trodAll_nil r1
  obtain rfl : args = #[v0, v1] := by cases args; simp_all
  obtain ⟨rfl, rfl⟩ := trodVars_none hV
  obtain ⟨zr0, zc0, zn0, zg0, pz0⟩ := pv_grid (hval 0 25 v0 rfl rfl) h0
  obtain ⟨z1, rfl, rfl, rfl, w1⟩ := open_int Try.underlying5 (hval 1 5 v1 rfl rfl) h1
  have b1 : 0 ≤ z1 ∧ z1 ≤ 255 := by
    simp only [Lit.wf, Bool.and_eq_true, decide_eq_true_eq] at w1
    exact ⟨w1.1, w1.2⟩
  refine (row_of (l_Solves zr0 zc0 zn0 z1 zg0 b1 ah0) W #[_, _] rfl (fun i hi => ?_)).mono fun e W' ⟨he, bel⟩ => ?_
  · match i with
    | 0 => exact pz0
    | 1 => exact .int _ _
    | n + 2 => exact absurd hi (by simp)
  · subst he
    exact ⟨_, rfl, _, _, _, [], _, [], hW', trodAll_mk1 (shut_bool Try.underlying4 _), trodAll_stays laidOut bel _ _ _ _ (by kernel_rfl) hAll, rfl, bel.frame _, fun h => by cases h⟩
theorem over : Rows.modularSolvesRow.holds Try.pinned (OpenSpec.ofChange Rows.modularSolvesSpec) :=
  OpenClaim.holds_of_wide 11 Try.f11 rfl rfl rfl rfl rfl rfl rfl ⟨rfl, rfl, rfl, rfl, rfl⟩ rfl rfl rfl rfl rfl (by kernel_rfl) Try.func11 (by kernel_rfl)
    (of_decide_eq_true (by kernel_rfl)) (by unfold Func.isWrapper; first | (rw [if_pos (by decide +kernel)]; kernel_rfl) | (rw [if_neg (by decide +kernel)]; exact ⟨rfl, rfl⟩))
    (fun os started H enc _ => lifted os started H enc)
theorem proved : Rows.ModularSolvesSaid := over
#print axioms proved
end Go.Proofs.Ytgfhddockofdnaa.modularSolves
namespace Go.Proofs.Ytgfhddockofdnaa
/-- The row, under a short name, for the claim. -/
theorem modularSolves_holds : Rows.ModularSolvesSaid := modularSolves.proved
end Go.Proofs.Ytgfhddockofdnaa
