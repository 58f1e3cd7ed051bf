/- A grid that came in, as an abstract value. -/
import Derived.Test.YtgfhddockofdnaaRows
import Derived.Test.YtgfhddockofdnaaW19
set_option linter.unusedVariables false
set_option linter.unusedSimpArgs false
set_option maxRecDepth 100000
namespace Go.Eng
open Go Go.Deep Go.Proofs Go.Proofs.Ytgfhddockofdnaa Go.ChangeShapes Go.WideShapes
open Go.RowKit (Below)
theorem wf_i8 {ns : List Int} (h : ∀ n ∈ ns, (Lit.int .i8 n).wf = true) : ByteOk ns := fun n hn => by
  have := h n hn
  simp only [Lit.wf, Bool.and_eq_true, decide_eq_true_eq] at this
  exact ⟨this.1, this.2⟩
theorem pv_bytes {W : World} {H : Type} {enc : TypeId × Value → H} {sp : Nat → Bool} {held : Bool} {base : Nat} {v : Value} {d : DataW H} {p : List MemPlace} (hv : Value.okWide Try.prog W .any base 23 v) (h : DataW.Trod enc Try.prog W 0 sp held 23 v d p) :
    ∃ ns, ByteOk ns ∧ PV (protW W) (byteV ns) v := by
  obtain ⟨a, len, cap, rfl⟩ := okWide_slice Try.underlying23 hv
  obtain ⟨fuel, hf⟩ := h
  obtain ⟨ns, h1, h2⟩ := pv_ints Try.underlying23 Try.underlying84 (by kernel_rfl) hf
  exact ⟨ns, wf_i8 h2, h1⟩
theorem pv_grid {W : World} {H : Type} {enc : TypeId × Value → H} {sp : Nat → Bool} {held : Bool} {base : Nat} {v : Value} {d : DataW H} {p : List MemPlace} (hv : Value.okWide Try.prog W .any base 25 v) (h : DataW.Trod enc Try.prog W 0 sp held 25 v d p) :
    ∃ r c ns, GridOk r c ns ∧ PV (protW W) (gridV r c ns) v := by
  obtain ⟨cs, rfl, hsz⟩ := okWide_struct Try.underlying25 hv
  have h25 : Try.prog.cellsOf 25 = 3 := by kernel_rfl
  have h5 : Try.prog.cellsOf 5 = 1 := by kernel_rfl
  have h23 : Try.prog.cellsOf 23 = 1 := by kernel_rfl
  obtain ⟨fuel, hf⟩ := h
  obtain ⟨y0, y1, y2, n, -, -, f0, f1, f2⟩ := trod_struct3 Try.underlying25 hf
  rw [h25] at hsz
  obtain ⟨l⟩ := cs
  simp only [List.size_toArray] at hsz
  match l, hsz with
  | [c0, c1, c2], _ =>
    simp only [h5, h23] at f0 f1 f2
    obtain ⟨r, g0, -, w0⟩ := DataW.trod_int Try.underlying5 f0
    obtain ⟨c, g1, -, w1⟩ := DataW.trod_int Try.underlying5 f1
    obtain ⟨ns, g2, w2⟩ := pv_ints (v := c2) Try.underlying23 Try.underlying84 (by kernel_rfl) f2
    have e0 : c0 = .int .u8 r := by simpa [Value.cells] using g0
    have e1 : c1 = .int .u8 c := by simpa [Value.cells] using g1
    subst e0; subst e1
    simp only [Lit.wf, Bool.and_eq_true, decide_eq_true_eq] at w0 w1
    refine ⟨r, c, ns, ⟨⟨w0.1, w0.2⟩, ⟨w1.1, w1.2⟩, wf_i8 w2⟩, .agg _ _ rfl (fun i hi => ?_) (fun i hi => ?_)⟩
    · match i with
      | 0 => exact .int _ _
      | 1 => exact .int _ _
      | 2 => exact g2
      | k + 3 => exact absurd hi (by simp)
    · match i with
      | 0 => rfl
      | 1 => rfl
      | 2 =>
        rcases open_ints Try.underlying23 Try.underlying84 (by kernel_rfl) f2 with ⟨h2, -⟩ | ⟨a2, l2, k2, z2, h2, -⟩ <;> (cases h2; rfl)
      | k + 3 => exact absurd hi (by simp)
end Go.Eng
