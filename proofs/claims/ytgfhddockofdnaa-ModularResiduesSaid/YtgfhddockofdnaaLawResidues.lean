/- ModularResidues: for every matrix and every modulus the program's remainders and refusals are those of the reference, and the sanity check holds; the arguments read as before. No condition on the input. -/
import Derived.Test.YtgfhddockofdnaaRows
import Derived.Test.YtgfhddockofdnaaW17
namespace Go.Proofs.Ytgfhddockofdnaa.modularResidues
open Go.ChangeShapes Go.WideShapes Go.ChangeAt Go.RowKit Go.Eng
set_option linter.unusedVariables false
theorem own : ownKnob Try.prog.godebug = none := by kernel_rfl
theorem laidOut : laidOutB Try.prog = true := by kernel_rfl
set_option maxRecDepth 100000 in
theorem lifted (os : Os) (started : os.Started) (H : Type) (enc : TypeId × Value → H) :
    ReturnsInHanded {} Try.checked os 6 .any (Rows.modularResiduesSpec.pre6 enc Try.prog Try.f6 Rows.modularResiduesRow.domain false) (Rows.modularResiduesSpec.post enc Try.prog Try.f6 false true false false) := by
  refine returnsInHanded_of_change_sized (C := Try.checked) own started (by kernel_rfl) Try.func6
    (ChangeSpec.witness6 (enc := enc) (C := Try.checked) false ⟨#[], #[.slice none 0 0, .int .u16 0, .int .i64 0, .bool false], []⟩ 8 (by kernel_rfl) (by kernel_rfl) (by kernel_rfl) (by kernel_rfl)) ?_
  intro W base args ds gs before hval0 hW hcnd hsz0 _
  have hval : ∀ (j : Nat) t v, Try.f6.params[j]? = some t → args[j]? = some v → Value.okWide Try.prog W .any base t v := hval0
  have hW' := hW
  obtain ⟨p, q, hA0, hV, rfl, hfz, hnd⟩ := hW
  have hA : DataW.TrodAll enc Try.prog W 0 (fun _ => true) true Try.f6.params.toList args.toList ds p := hA0
  rw [Try.params6] at hA hval
  have hAll := hA
  obtain ⟨v0, vs0, d0, ds0, p0, q0, hargs, rfl, rfl, h0, r0⟩ := trodAll_cons hA
  obtain ⟨v1, vs1, d1, ds1, p1, q1, rfl, rfl, rfl, h1, r1⟩ := trodAll_cons r0
  obtain ⟨v2, vs2, d2, ds2, p2, q2, rfl, rfl, rfl, h2, r2⟩ := trodAll_cons r1
  obtain ⟨v3, vs3, d3, ds3, p3, q3, rfl, rfl, rfl, h3, r3⟩ := trodAll_cons r2
  obtain ⟨rfl, rfl, rfl⟩ := trodAll_nil r3
  obtain rfl : args = #[v0, v1, v2, v3] := by cases args; simp_all
  obtain ⟨rfl, rfl⟩ := trodVars_none hV
  obtain ⟨a0, len0, cap0, rfl⟩ := okWide_slice Try.underlying22 (hval 0 22 v0 rfl rfl)
  obtain ⟨a1, rfl, rfl, rfl, w1⟩ := open_int Try.underlying35 (hval 1 35 v1 rfl rfl) h1
  obtain ⟨a2, rfl, rfl, rfl, w2⟩ := open_int Try.underlying2 (hval 2 2 v2 rfl rfl) h2
  obtain ⟨a3, rfl, rfl, rfl⟩ := open_bool Try.underlying4 (hval 3 4 v3 rfl rfl) h3
  obtain ⟨z0, pz0⟩ : ∃ a, PV (protW W) (matV a) (.slice a0 len0 cap0) := by
    obtain ⟨fuel, hf⟩ := h0
    exact pv_mat Try.underlying22 Try.underlying46 Try.underlying2 (by kernel_rfl) (by kernel_rfl) hf
  have b1 : 0 ≤ a1 ∧ a1 ≤ 65535 := by
    simp only [Lit.wf, Bool.and_eq_true, decide_eq_true_eq] at w1
    exact ⟨w1.1, w1.2⟩
  refine (row_of (l_Residues z0 a1 a2 a3 b1 ah0) W #[_, _, _, _] rfl (fun i hi => ?_)).mono fun e W' ⟨he, bel⟩ => ?_
  · match i with
    | 0 => exact pz0
    | 1 => exact .int _ _
    | 2 => exact .int _ _
    | 3 => exact .bool _
    | n + 4 => exact absurd hi (by simp)
  · subst he
    exact ⟨_, rfl, _, _, _, [], _, [], hW', trodAll_mk1 (shut_bool Try.underlying4 _), trodAll_stays laidOut bel _ _ _ _ (by kernel_rfl) hAll, rfl, bel.frame _, fun h => by cases h⟩
theorem over : Rows.modularResiduesRow.holds Try.pinned (OpenSpec.ofChange Rows.modularResiduesSpec) :=
  OpenClaim.holds_of_wide 6 Try.f6 rfl rfl rfl rfl rfl rfl rfl ⟨rfl, rfl, rfl, rfl, rfl⟩ rfl rfl rfl rfl rfl (by kernel_rfl) Try.func6 (by kernel_rfl)
    (of_decide_eq_true (by kernel_rfl)) (by unfold Func.isWrapper; first | (rw [if_pos (by decide +kernel)]; kernel_rfl) | (rw [if_neg (by decide +kernel)]; exact ⟨rfl, rfl⟩))
    (fun os started H enc _ => lifted os started H enc)
theorem proved : Rows.ModularResiduesSaid := over
#print axioms proved
end Go.Proofs.Ytgfhddockofdnaa.modularResidues
namespace Go.Proofs.Ytgfhddockofdnaa
/-- The row, under a short name, for the claim. -/
theorem modularResidues_holds : Rows.ModularResiduesSaid := modularResidues.proved
end Go.Proofs.Ytgfhddockofdnaa
