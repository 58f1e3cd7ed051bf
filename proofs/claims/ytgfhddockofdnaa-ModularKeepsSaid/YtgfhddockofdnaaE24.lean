/- An engine, part 24: from what came in to abstract values; a row out of what a law computes. Over any program. -/
import Derived.Test.YtgfhddockofdnaaE23
import Derived.WalkKit
import Derived.ProofKit
import Derived.OpenShut
import Derived.ShutString
import Derived.ChangeOld
import Derived.Below
import Derived.SizedLaws
import Derived.Deep.Strs
set_option linter.unusedVariables false
set_option linter.unusedSimpArgs false
namespace Go.Eng
open Go.RowKit (Below)
open Go.ChangeShapes Go.WideShapes

def protW (W : World) (a : Addr) : Option Value := (W.cell? a).bind fun u => if u.oneCell' = true then some u else none
theorem protW_of {W : World} {a : Addr} {u : Value} (h : W.cell? a = some u) (h1 : u.oneCell' = true) : protW W a = some u := by simp [protW, h, h1]
def ip0 (W : World) : Ip := ⟨W, protW W, fun _ => none, 0, fun _ => none, 0⟩
def ah0 : AH := ⟨fun _ => none, 0, fun _ => 0, 0⟩
theorem rh0 (W : World) : RH (ip0 W) ah0 W := by
  refine ⟨.refl _ _, fun a u h => ?_, rfl, rfl, fun b cs h => ?_, fun b x h => ?_, fun b g n h => ?_, fun b b' g n n' h => ?_, fun κ h => ?_, fun κ x h => ?_⟩
  · have h' : protW W a = some u := h
    unfold protW at h'
    cases hc : W.cell? a with
    | none => rw [hc] at h'; cases h'
    | some v =>
      rw [hc] at h'
      simp only [Option.bind_some] at h'
      split at h'
      · rename_i h1; cases h'; exact ⟨rfl, h1⟩
      · cases h'
  · cases h
  · cases h
  · cases h
  · cases h
  · exact absurd h (Nat.not_lt_zero _)
  · cases h

section
variable {P : Program} {W : World} {H : Type} {enc : TypeId × Value → H} {held : Bool} {sp : Nat → Bool} {fuel : Nat} {t e : TypeId} {x : DataW H × List MemPlace}
theorem pv_ints {k : IntKind} {v : Value} (ht : P.underlying t = some (.slice e)) (he : P.underlying e = some (.int k)) (hc : P.cellsOf e = 1)
    (h : DataW.trod enc P W 0 sp held fuel t [v] = some x) : ∃ zs : List Int, PV (protW W) (.tree 1 (zs.map (AV.int k)) .ro) v ∧ ∀ n ∈ zs, (Lit.int k n).wf = true := by
  rcases open_ints ht he hc h with ⟨hcs, -⟩ | ⟨a, len, cap, zs, hcs, -, hl, hm, hz, -, hcell, hwf⟩
  · cases hcs
    exact ⟨[], .none_ _ _ (.inl rfl), fun n hn => by simp at hn⟩
  · cases hcs
    have hlz : len ≤ zs.length := by rw [hz]; split <;> omega
    refine ⟨zs.take len, ?_, fun n hn => hwf n (List.mem_of_mem_take hn)⟩
    have hlen : ((zs.take len).map (AV.int k)).length = len := by simp; omega
    have := PV.tree (pr := protW W) 1 ((zs.take len).map (AV.int k)) .ro a cap (fun i => .int k (zs.getD i 0)) (by rw [hlen]; exact hl) hm (.inl rfl) (fun i hi => by
      rw [hlen] at hi
      have e1 : ((zs.take len).map (AV.int k))[i]'(by rw [hlen]; exact hi) = .int k (zs.getD i 0) := by
        simp [List.getD_eq_getElem?_getD, show i < zs.length from by omega]
      rw [e1]; exact .int _ _) (fun i hi => rfl) (fun i j hi hj => by
      rw [hlen] at hi
      have hj0 : j = 0 := by omega
      subst hj0
      have := hcell i (by omega)
      simp only [Nat.mul_one, Nat.add_zero]
      exact protW_of this rfl)
    rw [hlen] at this
    exact this
theorem pv_mat {e2 : TypeId} {v : Value} (ht : P.underlying t = some (.slice e)) (he : P.underlying e = some (.slice e2)) (he2 : P.underlying e2 = some (.int .i64)) (hc : P.cellsOf e = 1) (hc2 : P.cellsOf e2 = 1)
    (h : DataW.trod enc P W 0 sp held fuel t [v] = some x) : ∃ a : List (List Int), PV (protW W) (matV a) v := by
  rcases DataW.trod_slice ht h with ⟨hcs, -⟩ | ⟨ad, len, cap, elems, rest, n, -, hcs, -, hb, hl, hm, hlen, hel, -, -⟩
  · cases hcs
    exact ⟨[], .none_ _ _ (.inl rfl)⟩
  · cases hcs
    have each : ∀ i, i < len → ∃ (u : Value) (r : List Int), W.cell? (ad.add i) = some u ∧ u.oneCell' = true ∧ PV (protW W) (rowV r) u ∧ u.cells.size = 1 ∧ u.cells.getD 0 undef = u := fun i hi => by
      have h1 := hel i hi
      rw [hc, Nat.mul_one, List.getElem?_eq_getElem (by omega)] at h1
      obtain ⟨cs', hcs', hy⟩ := Option.bind_eq_some_iff.1 h1
      have hone : ∃ u, cs' = [u] := by
        rcases open_ints he he2 hc2 hy with ⟨h2, -⟩ | ⟨a2, l2, c2, z2, h2, -⟩
        · exact ⟨_, h2⟩
        · exact ⟨_, h2⟩
      obtain ⟨u, rfl⟩ := hone
      obtain ⟨zs, hz, -⟩ := pv_ints he he2 hc2 hy
      have hcell := cell_of_cells?_one hcs'
      have hsl : u.oneCell' = true ∧ u.cells.size = 1 ∧ u.cells.getD 0 undef = u := by
        rcases open_ints he he2 hc2 hy with ⟨h2, -⟩ | ⟨a2, l2, c2, z2, h2, -⟩ <;> (cases h2; exact ⟨rfl, rfl, rfl⟩)
      exact ⟨u, zs, hcell, hsl.1, hz, hsl.2.1, hsl.2.2⟩
    have each' : ∀ i, ∃ p : Value × List Int, i < len → W.cell? (ad.add i) = some p.1 ∧ p.1.oneCell' = true ∧ PV (protW W) (rowV p.2) p.1 ∧ p.1.cells.size = 1 ∧ p.1.cells.getD 0 undef = p.1 := fun i => by
      by_cases hi : i < len
      · obtain ⟨u, r, h⟩ := each i hi
        exact ⟨(u, r), fun _ => h⟩
      · exact ⟨(undef, []), fun h => absurd h hi⟩
    obtain ⟨F, hF⟩ := Classical.axiomOfChoice each'
    refine ⟨(List.range len).map fun i => (F i).2, ?_⟩
    have hlen2 : (((List.range len).map fun i => (F i).2).map rowV).length = len := by simp
    have := PV.tree (pr := protW W) 1 (((List.range len).map fun i => (F i).2).map rowV) .ro ad cap (fun i => (F i).1) (by rw [hlen2]; exact hl) hm (.inl rfl) (fun i hi => by
      rw [hlen2] at hi
      have e1 : (((List.range len).map fun i => (F i).2).map rowV)[i]'(by rw [hlen2]; exact hi) = rowV (F i).2 := by simp
      rw [e1]; exact (hF i hi).2.2.1) (fun i hi => by rw [hlen2] at hi; exact (hF i hi).2.2.2.1) (fun i j hi hj => by
      rw [hlen2] at hi
      have hj0 : j = 0 := by omega
      subst hj0
      obtain ⟨h1, h2, -, -, h5⟩ := hF i hi
      simp only [Nat.mul_one, Nat.add_zero, h5]
      exact protW_of h1 h2)
    rw [hlen2] at this
    exact this
/-- All arguments read as before. -/
theorem trodAll_stays (hl : laidOutB P = true) {W' : World} (hb : Below W.heap.size W W') : ∀ (ts : List TypeId) (vs : List Value) (ds : List (DataW H)) (ps : List MemPlace), (ts.all fun t => P.readableRec t && decide (t < P.types.size)) = true →
    DataW.TrodAll enc P W 0 (fun _ => true) true ts vs ds ps → DataW.TrodAll enc P W' 0 (fun b => decide (b < W.heap.size)) true ts vs ds ps
  | [], vs, ds, ps, _, h => by obtain ⟨rfl, rfl, rfl⟩ := trodAll_nil h; exact trodAll_mk0
  | t :: ts, vs, ds, ps, ht, h => by
    obtain ⟨v, vs', d, ds', p, q, rfl, rfl, rfl, h1, h2⟩ := trodAll_cons h
    simp only [List.all_cons, Bool.and_eq_true, decide_eq_true_eq] at ht
    have hlt : ∀ x ∈ p, x.block < W.heap.size := by obtain ⟨m, hm⟩ := h1; exact DataW.trod_lt m _ _ _ hm
    exact trodAll_cons_mk (Below.trod hl ht.1.1 ht.1.2 h1 hb hlt) (trodAll_stays hl hb ts vs' ds' q (by simpa using ht.2) h2)
end
/-- What a law computes, said of the model. -/
theorem row_of {P : Program} {f : FuncId} {args : List AV} {R : AV → AH → Prop} (hc : ACalls P f args ah0 (fun v h' => v = .bool true ∧ R v h')) (W : World) (argc : Array Value) (hl : args.length = argc.size) (hv : ∀ i (hi : i < args.length), PV (protW W) args[i] (argc.getD i undef)) :
    Calls P f argc W fun e W' => e = .returned (.bool true) ∧ Below W.heap.size W W' :=
  Calls.mono (hc (ip0 W) W argc (rh0 W) ⟨hl, fun i hi => .pure _ _ (hv i hi)⟩) fun e w' he => by
    cases e with
    | returned vc =>
      obtain ⟨ρ', v, h', h1, h2, h3, rfl, -⟩ := he
      refine ⟨by rw [inv_bool h3], ?_⟩
      have hb := h2.below
      rw [h1.w0] at hb
      exact hb
    | panicked c => exact he.elim
    | outgrown => exact he.elim
end Go.Eng
