/-
  No cell of these rows narrows 'for every input' (looked for: loops, veiled, ifaces, maps, wideKeys, modest, calm, conditions, laid).
  DERIVED. THE GIVEN ROWS OF THIS SEAT. 12 by the template 'for every input the law returns true; each argument reads behind the call as it read before'; 0 by the template 'total and deterministic' (their statements: YtgfhddockofdnaaTotals.lean).
  GIVEN WITH THE SEED: the statements are not yours to turn. If you find one false, say at which input.
  Laid BY PROGRAM, IN A SANDBOX (cutbox-rows.mjs): the forced cells as the released guide's own fill.sh prints them over the translation 6f23ae6bb31e61a3… (all of the seat's roots in one cut). By AI agents, Wed Nov 11 2026. No macro, syntax, notation, axiom, sorry.
-/
import Derived.Test.YtgfhddockofdnaaChecked
import GoSem.Claim
import GoSem.ClaimJoined
import GoSem.ClaimMapViews
import Derived.JoinedTies
import Derived.KernelRfl
namespace Go.Proofs.Ytgfhddockofdnaa
/- THE CELL 'sum', in the pinned program and in every row, IS THE sha256 OF THE DUMP (.gsa) THAT YtgfhddockofdnaaProg.lean LOADS. Nothing in Lean hashes anything: it is a label: what it is worth is what the hold of that sum in a sandbox is worth. -/
noncomputable def Try.pinned : Pinned := { name := "ytgfhddockofdnaa", sum := "6f23ae6bb31e61a36ebf9ab8431de52caf61dd0b2e7e181452a4d9910088b3ee", checked := Try.checked }
namespace Rows
def none {H : Type} : Left H := { results := [], args := [] }

/-- 'quadformlaw23.ModularKernel': WHATEVER THE INPUT: true; the input reads as it did. -/
def modularKernelSpec : ChangeSpec := { name := "modularKernel", fn := fun _ => fun
  | [d1, d2, d3, d4, d5, d6] => { results := [.lit (.bool true)], args := [d1, d2, d3, d4, d5, d6] }
  | _ => none }
def modularKernelRow : OpenClaim := { program := "ytgfhddockofdnaa", sum := "6f23ae6bb31e61a36ebf9ab8431de52caf61dd0b2e7e181452a4d9910088b3ee", func := "quadform/quadformlaw23.ModularKernel", spec := "modularKernel", unfollowed := true, recurses := true, apart := false }
def ModularKernelSaid : Prop := modularKernelRow.holds Try.pinned (OpenSpec.ofChange modularKernelSpec)

/-- ITS FALSE NEIGHBOUR: 'it returns false'. Refute it at one input. -/
def modularKernelWrong : ChangeSpec := { name := "modularKernel", fn := fun _ => fun
  | [d1, d2, d3, d4, d5, d6] => { results := [.lit (.bool false)], args := [d1, d2, d3, d4, d5, d6] }
  | _ => none }
def ModularKernelWrongFalsely : Prop := modularKernelRow.holds Try.pinned (OpenSpec.ofChange modularKernelWrong)

/-- 'quadformlaw23.ModularInverse': WHATEVER THE INPUT: true; the input reads as it did. -/
def modularInverseSpec : ChangeSpec := { name := "modularInverse", fn := fun _ => fun
  | [d1, d2, d3, d4, d5, d6] => { results := [.lit (.bool true)], args := [d1, d2, d3, d4, d5, d6] }
  | _ => none }
def modularInverseRow : OpenClaim := { program := "ytgfhddockofdnaa", sum := "6f23ae6bb31e61a36ebf9ab8431de52caf61dd0b2e7e181452a4d9910088b3ee", func := "quadform/quadformlaw23.ModularInverse", spec := "modularInverse", unfollowed := true, recurses := true, apart := false }
def ModularInverseSaid : Prop := modularInverseRow.holds Try.pinned (OpenSpec.ofChange modularInverseSpec)

/-- ITS FALSE NEIGHBOUR: 'it returns false'. Refute it at one input. -/
def modularInverseWrong : ChangeSpec := { name := "modularInverse", fn := fun _ => fun
  | [d1, d2, d3, d4, d5, d6] => { results := [.lit (.bool false)], args := [d1, d2, d3, d4, d5, d6] }
  | _ => none }
def ModularInverseWrongFalsely : Prop := modularInverseRow.holds Try.pinned (OpenSpec.ofChange modularInverseWrong)

/-- 'quadformlaw23.ModularEchelon': WHATEVER THE INPUT: true; the input reads as it did. -/
def modularEchelonSpec : ChangeSpec := { name := "modularEchelon", fn := fun _ => fun
  | [d1, d2, d3, d4, d5, d6] => { results := [.lit (.bool true)], args := [d1, d2, d3, d4, d5, d6] }
  | _ => none }
def modularEchelonRow : OpenClaim := { program := "ytgfhddockofdnaa", sum := "6f23ae6bb31e61a36ebf9ab8431de52caf61dd0b2e7e181452a4d9910088b3ee", func := "quadform/quadformlaw23.ModularEchelon", spec := "modularEchelon", unfollowed := true, recurses := true, apart := false }
def ModularEchelonSaid : Prop := modularEchelonRow.holds Try.pinned (OpenSpec.ofChange modularEchelonSpec)

/-- ITS FALSE NEIGHBOUR: 'it returns false'. Refute it at one input. -/
def modularEchelonWrong : ChangeSpec := { name := "modularEchelon", fn := fun _ => fun
  | [d1, d2, d3, d4, d5, d6] => { results := [.lit (.bool false)], args := [d1, d2, d3, d4, d5, d6] }
  | _ => none }
def ModularEchelonWrongFalsely : Prop := modularEchelonRow.holds Try.pinned (OpenSpec.ofChange modularEchelonWrong)

/-- 'quadformlaw23.ModularResidues': WHATEVER THE INPUT: true; the input reads as it did. -/
def modularResiduesSpec : ChangeSpec := { name := "modularResidues", fn := fun _ => fun
  | [d1, d2, d3, d4] => { results := [.lit (.bool true)], args := [d1, d2, d3, d4] }
  | _ => none }
def modularResiduesRow : OpenClaim := { program := "ytgfhddockofdnaa", sum := "6f23ae6bb31e61a36ebf9ab8431de52caf61dd0b2e7e181452a4d9910088b3ee", func := "quadform/quadformlaw23.ModularResidues", spec := "modularResidues", unfollowed := true, recurses := true, apart := false }
def ModularResiduesSaid : Prop := modularResiduesRow.holds Try.pinned (OpenSpec.ofChange modularResiduesSpec)

/-- ITS FALSE NEIGHBOUR: 'it returns false'. Refute it at one input. -/
def modularResiduesWrong : ChangeSpec := { name := "modularResidues", fn := fun _ => fun
  | [d1, d2, d3, d4] => { results := [.lit (.bool false)], args := [d1, d2, d3, d4] }
  | _ => none }
def ModularResiduesWrongFalsely : Prop := modularResiduesRow.holds Try.pinned (OpenSpec.ofChange modularResiduesWrong)

/-- 'quadformlaw23.ModularDet': WHATEVER THE INPUT: true; the input reads as it did. -/
def modularDetSpec : ChangeSpec := { name := "modularDet", fn := fun _ => fun
  | [d1, d2, d3, d4, d5, d6] => { results := [.lit (.bool true)], args := [d1, d2, d3, d4, d5, d6] }
  | _ => none }
def modularDetRow : OpenClaim := { program := "ytgfhddockofdnaa", sum := "6f23ae6bb31e61a36ebf9ab8431de52caf61dd0b2e7e181452a4d9910088b3ee", func := "quadform/quadformlaw23.ModularDet", spec := "modularDet", unfollowed := true, recurses := true, apart := false }
def ModularDetSaid : Prop := modularDetRow.holds Try.pinned (OpenSpec.ofChange modularDetSpec)

/-- ITS FALSE NEIGHBOUR: 'it returns false'. Refute it at one input. -/
def modularDetWrong : ChangeSpec := { name := "modularDet", fn := fun _ => fun
  | [d1, d2, d3, d4, d5, d6] => { results := [.lit (.bool false)], args := [d1, d2, d3, d4, d5, d6] }
  | _ => none }
def ModularDetWrongFalsely : Prop := modularDetRow.holds Try.pinned (OpenSpec.ofChange modularDetWrong)

/-- 'quadformlaw23.ModularMul': WHATEVER THE INPUT: true; the input reads as it did. -/
def modularMulSpec : ChangeSpec := { name := "modularMul", fn := fun _ => fun
  | [d1, d2, d3, d4, d5, d6, d7, d8] => { results := [.lit (.bool true)], args := [d1, d2, d3, d4, d5, d6, d7, d8] }
  | _ => none }
def modularMulRow : OpenClaim := { program := "ytgfhddockofdnaa", sum := "6f23ae6bb31e61a36ebf9ab8431de52caf61dd0b2e7e181452a4d9910088b3ee", func := "quadform/quadformlaw23.ModularMul", spec := "modularMul", unfollowed := true, recurses := true, apart := false }
def ModularMulSaid : Prop := modularMulRow.holds Try.pinned (OpenSpec.ofChange modularMulSpec)

/-- ITS FALSE NEIGHBOUR: 'it returns false'. Refute it at one input. -/
def modularMulWrong : ChangeSpec := { name := "modularMul", fn := fun _ => fun
  | [d1, d2, d3, d4, d5, d6, d7, d8] => { results := [.lit (.bool false)], args := [d1, d2, d3, d4, d5, d6, d7, d8] }
  | _ => none }
def ModularMulWrongFalsely : Prop := modularMulRow.holds Try.pinned (OpenSpec.ofChange modularMulWrong)

/-- 'quadformlaw23.ModularSpaces': WHATEVER THE INPUT: true; the input reads as it did. -/
def modularSpacesSpec : ChangeSpec := { name := "modularSpaces", fn := fun _ => fun
  | [d1, d2, d3] => { results := [.lit (.bool true)], args := [d1, d2, d3] }
  | _ => none }
def modularSpacesRow : OpenClaim := { program := "ytgfhddockofdnaa", sum := "6f23ae6bb31e61a36ebf9ab8431de52caf61dd0b2e7e181452a4d9910088b3ee", func := "quadform/quadformlaw23.ModularSpaces", spec := "modularSpaces", unfollowed := true, recurses := true, apart := false }
def ModularSpacesSaid : Prop := modularSpacesRow.holds Try.pinned (OpenSpec.ofChange modularSpacesSpec)

/-- ITS FALSE NEIGHBOUR: 'it returns false'. Refute it at one input. -/
def modularSpacesWrong : ChangeSpec := { name := "modularSpaces", fn := fun _ => fun
  | [d1, d2, d3] => { results := [.lit (.bool false)], args := [d1, d2, d3] }
  | _ => none }
def ModularSpacesWrongFalsely : Prop := modularSpacesRow.holds Try.pinned (OpenSpec.ofChange modularSpacesWrong)

/-- 'quadformlaw23.ModularInverts': WHATEVER THE INPUT: true; the input reads as it did. -/
def modularInvertsSpec : ChangeSpec := { name := "modularInverts", fn := fun _ => fun
  | [d1, d2, d3, d4] => { results := [.lit (.bool true)], args := [d1, d2, d3, d4] }
  | _ => none }
def modularInvertsRow : OpenClaim := { program := "ytgfhddockofdnaa", sum := "6f23ae6bb31e61a36ebf9ab8431de52caf61dd0b2e7e181452a4d9910088b3ee", func := "quadform/quadformlaw23.ModularInverts", spec := "modularInverts", unfollowed := true, recurses := true, apart := false }
def ModularInvertsSaid : Prop := modularInvertsRow.holds Try.pinned (OpenSpec.ofChange modularInvertsSpec)

/-- ITS FALSE NEIGHBOUR: 'it returns false'. Refute it at one input. -/
def modularInvertsWrong : ChangeSpec := { name := "modularInverts", fn := fun _ => fun
  | [d1, d2, d3, d4] => { results := [.lit (.bool false)], args := [d1, d2, d3, d4] }
  | _ => none }
def ModularInvertsWrongFalsely : Prop := modularInvertsRow.holds Try.pinned (OpenSpec.ofChange modularInvertsWrong)

/-- 'quadformlaw23.ModularSolves': WHATEVER THE INPUT: true; the input reads as it did. -/
def modularSolvesSpec : ChangeSpec := { name := "modularSolves", fn := fun _ => fun
  | [d1, d2] => { results := [.lit (.bool true)], args := [d1, d2] }
  | _ => none }
def modularSolvesRow : OpenClaim := { program := "ytgfhddockofdnaa", sum := "6f23ae6bb31e61a36ebf9ab8431de52caf61dd0b2e7e181452a4d9910088b3ee", func := "quadform/quadformlaw23.ModularSolves", spec := "modularSolves", unfollowed := true, recurses := true, apart := false }
def ModularSolvesSaid : Prop := modularSolvesRow.holds Try.pinned (OpenSpec.ofChange modularSolvesSpec)

/-- ITS FALSE NEIGHBOUR: 'it returns false'. Refute it at one input. -/
def modularSolvesWrong : ChangeSpec := { name := "modularSolves", fn := fun _ => fun
  | [d1, d2] => { results := [.lit (.bool false)], args := [d1, d2] }
  | _ => none }
def ModularSolvesWrongFalsely : Prop := modularSolvesRow.holds Try.pinned (OpenSpec.ofChange modularSolvesWrong)

/-- 'quadformlaw23.ModularCongruence': WHATEVER THE INPUT: true; the input reads as it did. -/
def modularCongruenceSpec : ChangeSpec := { name := "modularCongruence", fn := fun _ => fun
  | [d1, d2, d3, d4, d5, d6, d7, d8] => { results := [.lit (.bool true)], args := [d1, d2, d3, d4, d5, d6, d7, d8] }
  | _ => none }
def modularCongruenceRow : OpenClaim := { program := "ytgfhddockofdnaa", sum := "6f23ae6bb31e61a36ebf9ab8431de52caf61dd0b2e7e181452a4d9910088b3ee", func := "quadform/quadformlaw23.ModularCongruence", spec := "modularCongruence", unfollowed := true, recurses := true, apart := false }
def ModularCongruenceSaid : Prop := modularCongruenceRow.holds Try.pinned (OpenSpec.ofChange modularCongruenceSpec)

/-- ITS FALSE NEIGHBOUR: 'it returns false'. Refute it at one input. -/
def modularCongruenceWrong : ChangeSpec := { name := "modularCongruence", fn := fun _ => fun
  | [d1, d2, d3, d4, d5, d6, d7, d8] => { results := [.lit (.bool false)], args := [d1, d2, d3, d4, d5, d6, d7, d8] }
  | _ => none }
def ModularCongruenceWrongFalsely : Prop := modularCongruenceRow.holds Try.pinned (OpenSpec.ofChange modularCongruenceWrong)

/-- 'quadformlaw23.ModularKeeps': WHATEVER THE INPUT: true; the input reads as it did. -/
def modularKeepsSpec : ChangeSpec := { name := "modularKeeps", fn := fun _ => fun
  | [d1, d2] => { results := [.lit (.bool true)], args := [d1, d2] }
  | _ => none }
def modularKeepsRow : OpenClaim := { program := "ytgfhddockofdnaa", sum := "6f23ae6bb31e61a36ebf9ab8431de52caf61dd0b2e7e181452a4d9910088b3ee", func := "quadform/quadformlaw23.ModularKeeps", spec := "modularKeeps", unfollowed := true, recurses := true, apart := false }
def ModularKeepsSaid : Prop := modularKeepsRow.holds Try.pinned (OpenSpec.ofChange modularKeepsSpec)

/-- ITS FALSE NEIGHBOUR: 'it returns false'. Refute it at one input. -/
def modularKeepsWrong : ChangeSpec := { name := "modularKeeps", fn := fun _ => fun
  | [d1, d2] => { results := [.lit (.bool false)], args := [d1, d2] }
  | _ => none }
def ModularKeepsWrongFalsely : Prop := modularKeepsRow.holds Try.pinned (OpenSpec.ofChange modularKeepsWrong)

/-- 'quadformlaw23.ModularDetProduct': WHATEVER THE INPUT: true; the input reads as it did. -/
def modularDetProductSpec : ChangeSpec := { name := "modularDetProduct", fn := fun _ => fun
  | [d1, d2, d3] => { results := [.lit (.bool true)], args := [d1, d2, d3] }
  | _ => none }
def modularDetProductRow : OpenClaim := { program := "ytgfhddockofdnaa", sum := "6f23ae6bb31e61a36ebf9ab8431de52caf61dd0b2e7e181452a4d9910088b3ee", func := "quadform/quadformlaw23.ModularDetProduct", spec := "modularDetProduct", unfollowed := true, recurses := true, apart := false }
def ModularDetProductSaid : Prop := modularDetProductRow.holds Try.pinned (OpenSpec.ofChange modularDetProductSpec)

/-- ITS FALSE NEIGHBOUR: 'it returns false'. Refute it at one input. -/
def modularDetProductWrong : ChangeSpec := { name := "modularDetProduct", fn := fun _ => fun
  | [d1, d2, d3] => { results := [.lit (.bool false)], args := [d1, d2, d3] }
  | _ => none }
def ModularDetProductWrongFalsely : Prop := modularDetProductRow.holds Try.pinned (OpenSpec.ofChange modularDetProductWrong)

/- THE SECOND FORM. 'bulk': how many values and letters a reading holds, each counted each time it is reached (what is shared counts as often as it is met; a slice's spare places count too). A statement '..UptoSaid' is the law's where the arguments, and the package variables that the reading takes, are together of bulk at most 1048576: NARROWER than '..Said'. Prove '..Said' where nothing that the law and all that it calls make is longer than what came in: it says more and counts as full. Else prove '..UptoSaid'. A law counts once. -/
mutual
def uptoBulk {H : Type} : DataW H → Nat
  | .lit (.string bytes) => bytes.length + 1
  | .lit _ => 1
  | .nil => 1
  | .ptr d => uptoBulk d + 1
  | .slice elems spare => uptoBulkAll elems + uptoBulkAll spare + 1
  | .agg parts => uptoBulkAll parts + 1
  | .iface _ d => uptoBulk d + 1
  | .map entries => uptoBulkEntries entries + 1
  | .held _ => 1
def uptoBulkAll {H : Type} : List (DataW H) → Nat
  | [] => 0
  | d :: r => uptoBulk d + uptoBulkAll r
def uptoBulkEntries {H : Type} : List (Lit × DataW H) → Nat
  | [] => 0
  | x :: r => uptoBulkEntry x + uptoBulkEntries r
def uptoBulkEntry {H : Type} : Lit × DataW H → Nat
  | (.string bytes, d) => bytes.length + uptoBulk d + 1
  | (_, d) => uptoBulk d + 1
 end
def uptoSmall : (H : Type) → List (DataW H) → Bool := fun _ ds => decide (uptoBulkAll ds ≤ 1048576)
def OpenSpec.upto (s : _root_.Go.ChangeSpec) : _root_.Go.OpenSpec := { _root_.Go.OpenSpec.ofChange s with cond := some uptoSmall }

/-- 'quadformlaw23.ModularKernel', WHERE WHAT IT READS IS OF BULK AT MOST 1048576: true; the input reads as it did. -/
def modularKernelUptoRow : OpenClaim := { program := "ytgfhddockofdnaa", sum := "6f23ae6bb31e61a36ebf9ab8431de52caf61dd0b2e7e181452a4d9910088b3ee", func := "quadform/quadformlaw23.ModularKernel", spec := "modularKernel", unfollowed := true, recurses := true, apart := false, narrowed := true }
def ModularKernelUptoSaid : Prop := modularKernelUptoRow.holds Try.pinned (OpenSpec.upto modularKernelSpec)

/-- 'quadformlaw23.ModularInverse', WHERE WHAT IT READS IS OF BULK AT MOST 1048576: true; the input reads as it did. -/
def modularInverseUptoRow : OpenClaim := { program := "ytgfhddockofdnaa", sum := "6f23ae6bb31e61a36ebf9ab8431de52caf61dd0b2e7e181452a4d9910088b3ee", func := "quadform/quadformlaw23.ModularInverse", spec := "modularInverse", unfollowed := true, recurses := true, apart := false, narrowed := true }
def ModularInverseUptoSaid : Prop := modularInverseUptoRow.holds Try.pinned (OpenSpec.upto modularInverseSpec)

/-- 'quadformlaw23.ModularEchelon', WHERE WHAT IT READS IS OF BULK AT MOST 1048576: true; the input reads as it did. -/
def modularEchelonUptoRow : OpenClaim := { program := "ytgfhddockofdnaa", sum := "6f23ae6bb31e61a36ebf9ab8431de52caf61dd0b2e7e181452a4d9910088b3ee", func := "quadform/quadformlaw23.ModularEchelon", spec := "modularEchelon", unfollowed := true, recurses := true, apart := false, narrowed := true }
def ModularEchelonUptoSaid : Prop := modularEchelonUptoRow.holds Try.pinned (OpenSpec.upto modularEchelonSpec)

/-- 'quadformlaw23.ModularResidues', WHERE WHAT IT READS IS OF BULK AT MOST 1048576: true; the input reads as it did. -/
def modularResiduesUptoRow : OpenClaim := { program := "ytgfhddockofdnaa", sum := "6f23ae6bb31e61a36ebf9ab8431de52caf61dd0b2e7e181452a4d9910088b3ee", func := "quadform/quadformlaw23.ModularResidues", spec := "modularResidues", unfollowed := true, recurses := true, apart := false, narrowed := true }
def ModularResiduesUptoSaid : Prop := modularResiduesUptoRow.holds Try.pinned (OpenSpec.upto modularResiduesSpec)

/-- 'quadformlaw23.ModularDet', WHERE WHAT IT READS IS OF BULK AT MOST 1048576: true; the input reads as it did. -/
def modularDetUptoRow : OpenClaim := { program := "ytgfhddockofdnaa", sum := "6f23ae6bb31e61a36ebf9ab8431de52caf61dd0b2e7e181452a4d9910088b3ee", func := "quadform/quadformlaw23.ModularDet", spec := "modularDet", unfollowed := true, recurses := true, apart := false, narrowed := true }
def ModularDetUptoSaid : Prop := modularDetUptoRow.holds Try.pinned (OpenSpec.upto modularDetSpec)

/-- 'quadformlaw23.ModularMul', WHERE WHAT IT READS IS OF BULK AT MOST 1048576: true; the input reads as it did. -/
def modularMulUptoRow : OpenClaim := { program := "ytgfhddockofdnaa", sum := "6f23ae6bb31e61a36ebf9ab8431de52caf61dd0b2e7e181452a4d9910088b3ee", func := "quadform/quadformlaw23.ModularMul", spec := "modularMul", unfollowed := true, recurses := true, apart := false, narrowed := true }
def ModularMulUptoSaid : Prop := modularMulUptoRow.holds Try.pinned (OpenSpec.upto modularMulSpec)

/-- 'quadformlaw23.ModularSpaces', WHERE WHAT IT READS IS OF BULK AT MOST 1048576: true; the input reads as it did. -/
def modularSpacesUptoRow : OpenClaim := { program := "ytgfhddockofdnaa", sum := "6f23ae6bb31e61a36ebf9ab8431de52caf61dd0b2e7e181452a4d9910088b3ee", func := "quadform/quadformlaw23.ModularSpaces", spec := "modularSpaces", unfollowed := true, recurses := true, apart := false, narrowed := true }
def ModularSpacesUptoSaid : Prop := modularSpacesUptoRow.holds Try.pinned (OpenSpec.upto modularSpacesSpec)

/-- 'quadformlaw23.ModularInverts', WHERE WHAT IT READS IS OF BULK AT MOST 1048576: true; the input reads as it did. -/
def modularInvertsUptoRow : OpenClaim := { program := "ytgfhddockofdnaa", sum := "6f23ae6bb31e61a36ebf9ab8431de52caf61dd0b2e7e181452a4d9910088b3ee", func := "quadform/quadformlaw23.ModularInverts", spec := "modularInverts", unfollowed := true, recurses := true, apart := false, narrowed := true }
def ModularInvertsUptoSaid : Prop := modularInvertsUptoRow.holds Try.pinned (OpenSpec.upto modularInvertsSpec)

/-- 'quadformlaw23.ModularSolves', WHERE WHAT IT READS IS OF BULK AT MOST 1048576: true; the input reads as it did. -/
def modularSolvesUptoRow : OpenClaim := { program := "ytgfhddockofdnaa", sum := "6f23ae6bb31e61a36ebf9ab8431de52caf61dd0b2e7e181452a4d9910088b3ee", func := "quadform/quadformlaw23.ModularSolves", spec := "modularSolves", unfollowed := true, recurses := true, apart := false, narrowed := true }
def ModularSolvesUptoSaid : Prop := modularSolvesUptoRow.holds Try.pinned (OpenSpec.upto modularSolvesSpec)

/-- 'quadformlaw23.ModularCongruence', WHERE WHAT IT READS IS OF BULK AT MOST 1048576: true; the input reads as it did. -/
def modularCongruenceUptoRow : OpenClaim := { program := "ytgfhddockofdnaa", sum := "6f23ae6bb31e61a36ebf9ab8431de52caf61dd0b2e7e181452a4d9910088b3ee", func := "quadform/quadformlaw23.ModularCongruence", spec := "modularCongruence", unfollowed := true, recurses := true, apart := false, narrowed := true }
def ModularCongruenceUptoSaid : Prop := modularCongruenceUptoRow.holds Try.pinned (OpenSpec.upto modularCongruenceSpec)

/-- 'quadformlaw23.ModularKeeps', WHERE WHAT IT READS IS OF BULK AT MOST 1048576: true; the input reads as it did. -/
def modularKeepsUptoRow : OpenClaim := { program := "ytgfhddockofdnaa", sum := "6f23ae6bb31e61a36ebf9ab8431de52caf61dd0b2e7e181452a4d9910088b3ee", func := "quadform/quadformlaw23.ModularKeeps", spec := "modularKeeps", unfollowed := true, recurses := true, apart := false, narrowed := true }
def ModularKeepsUptoSaid : Prop := modularKeepsUptoRow.holds Try.pinned (OpenSpec.upto modularKeepsSpec)

/-- 'quadformlaw23.ModularDetProduct', WHERE WHAT IT READS IS OF BULK AT MOST 1048576: true; the input reads as it did. -/
def modularDetProductUptoRow : OpenClaim := { program := "ytgfhddockofdnaa", sum := "6f23ae6bb31e61a36ebf9ab8431de52caf61dd0b2e7e181452a4d9910088b3ee", func := "quadform/quadformlaw23.ModularDetProduct", spec := "modularDetProduct", unfollowed := true, recurses := true, apart := false, narrowed := true }
def ModularDetProductUptoSaid : Prop := modularDetProductUptoRow.holds Try.pinned (OpenSpec.upto modularDetProductSpec)

end Rows
end Go.Proofs.Ytgfhddockofdnaa
