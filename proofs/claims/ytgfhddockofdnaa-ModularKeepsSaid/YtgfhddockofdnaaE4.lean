/- An engine, part 4: numbers, structs, slices: what the operations do that only compute, and those that make memory. Over any program. -/
import Derived.Test.YtgfhddockofdnaaE3
import Derived.Laws.Build
import Derived.Laws.Small
set_option linter.unusedVariables false
set_option linter.unusedSimpArgs false
namespace Go.Eng
open Go.RowKit (Below)

def arW (op : BinOp) (k : IntKind) (a b : Int) (K : AV → Prop) : Prop := match op with
  | .add => K (.int k (k.wrap (a + b)))
  | .sub => K (.int k (k.wrap (a - b)))
  | .mul => K (.int k (k.wrap (a * b)))
  | .quo => b ≠ 0 ∧ K (.int k (k.wrap (a.tdiv b)))
  | .rem => b ≠ 0 ∧ K (.int k (a.tmod b))
  | .and => K (.int k (k.wrap (BitVec.ofInt k.bits a &&& BitVec.ofInt k.bits b).toNat))
  | .or => K (.int k (k.wrap (BitVec.ofInt k.bits a ||| BitVec.ofInt k.bits b).toNat))
  | .xor => K (.int k (k.wrap (BitVec.ofInt k.bits a ^^^ BitVec.ofInt k.bits b).toNat))
  | .andNot => K (.int k (k.wrap (BitVec.ofInt k.bits a &&& ~~~BitVec.ofInt k.bits b).toNat))
  | .eql => K (.bool (a == b))
  | .neq => K (.bool (a != b))
  | .lss => K (.bool (decide (a < b)))
  | .leq => K (.bool (decide (a ≤ b)))
  | .gtr => K (.bool (decide (a > b)))
  | .geq => K (.bool (decide (a ≥ b)))
  | .shl => 0 ≤ b ∧ K (.int k (k.wrap (a * 2 ^ min b.toNat k.bits)))
  | .shr => 0 ≤ b ∧ K (.int k (a.fdiv (2 ^ min b.toNat k.bits)))
def stW (op : BinOp) (a b : ByteArray) (K : AV → Prop) : Prop := match op with
  | .add => a.size + b.size ≤ 9223372036854775807 ∧ K (.str (a ++ b))
  | .eql => K (.bool (a.toList == b.toList))
  | .neq => K (.bool (!(a.toList == b.toList)))
  | .lss => K (.bool (Op.bytesLess a.toList b.toList))
  | .leq => K (.bool (Op.bytesLess a.toList b.toList || a.toList == b.toList))
  | .gtr => K (.bool (!(Op.bytesLess a.toList b.toList || a.toList == b.toList)))
  | .geq => K (.bool (!Op.bytesLess a.toList b.toList))
  | _ => False
/-- Is the kind of the right operand free? (shifts) -/
def freeK : BinOp → Bool
  | .shl => true
  | .shr => true
  | _ => false
def binW (P : Program) (op : BinOp) (t : TypeId) (x y : AV) (K : AV → Prop) : Prop := match x, y with
  | .int k a, .int k' b => (freeK op = true ∨ k = k') ∧ arW op k a b K
  | .bool a, .bool b => knT P t = some 0 ∧ ((op = .eql ∧ K (.bool (a == b))) ∨ (op = .neq ∧ K (.bool (!(a == b)))))
  | .str a, .str b => stW op a b K
  | _, _ => False

theorem arW_mono {op k a b} {K K' : AV → Prop} (hK : ∀ v, K v → K' v) (h : arW op k a b K) : arW op k a b K' := by
  cases op <;> simp only [arW] at h ⊢ <;> first | exact hK _ h | exact ⟨h.1, hK _ h.2⟩

section
variable {P : Program} {ρ : Ip} {w : World}

theorem knT0 {t : TypeId} (h : knT P t = some 0) : P.underlying t = some .bool := by
  unfold knT at h
  split at h <;> first | assumption | (simp at h)

theorem bin_sound {op : BinOp} {t : TypeId} {x y : AV} {K : AV → Prop} (hw : binW P op t x y K) {xo yo : Operand} {xc yc : Value} (hx : RV ρ x xc) (hy : RV ρ y yc) :
    ∃ vc v, (do eqGuard op t xo yo xc yc; binOp op t xc yc : Sem Value).run P w = .ok vc w ∧ PV ρ.prot v vc ∧ K v := by
  unfold binW at hw
  split at hw
  · rename_i k a k' b
    obtain rfl := inv_int hx
    obtain rfl := inv_int hy
    obtain ⟨hk, hw⟩ := hw
    have he : eqGuard op t xo yo (.int k a) (.int k' b) = pure () := by cases op <;> rfl
    by_cases hf : freeK op = true
    · cases op <;> first | (simp [freeK] at hf; done) | skip
      all_goals
        obtain ⟨h0, hK⟩ := hw
        have hn : ¬ b < 0 := by omega
        refine ⟨_, _, ?_, .int _ _, hK⟩
        simp only [he, Sem.run_bind, Sem.run_pure, Result.andThen_ok, binOp, Op.shift, if_neg hn]
    · obtain rfl : k = k' := hk.resolve_left hf
      have hne : ¬ (k ≠ k) := fun h => h rfl
      cases op <;> first | (exfalso; exact hf rfl) | skip
      all_goals simp only [arW] at hw
      all_goals first
        | (obtain ⟨h0, hK⟩ := hw
           refine ⟨_, _, ?_, .int _ _, hK⟩
           simp only [he, Sem.run_bind, Sem.run_pure, Result.andThen_ok, binOp, if_neg hne, Op.intDiv, if_neg h0]
           done)
        | (refine ⟨_, _, ?_, .int _ _, hw⟩
           simp only [he, Sem.run_bind, Sem.run_pure, Result.andThen_ok, binOp, if_neg hne, Op.intArith, Op.intBits]
           done)
        | (refine ⟨_, _, ?_, .bool _, hw⟩
           simp only [he, Sem.run_bind, Sem.run_pure, Result.andThen_ok, binOp, if_neg hne, Op.intCmp]
           done)
  · rename_i a b
    obtain rfl := inv_bool hx
    obtain rfl := inv_bool hy
    obtain ⟨hk, hw⟩ := hw
    have hu := knT0 hk
    have he : eqGuard op t xo yo (.bool a) (.bool b) = pure () := by cases op <;> rfl
    rcases hw with ⟨rfl, hK⟩ | ⟨rfl, hK⟩
    · refine ⟨_, _, ?_, .bool _, hK⟩
      simp only [he, Sem.run_bind, Sem.run_pure, Result.andThen_ok, run_eql_bool w t a b hu]
    · refine ⟨_, _, ?_, .bool _, hK⟩
      simp only [he, Sem.run_bind, Sem.run_pure, Result.andThen_ok, run_neq_bool w t a b hu]
  · rename_i a b
    obtain rfl := inv_str hx
    obtain rfl := inv_str hy
    have he : eqGuard op t xo yo (.string a) (.string b) = pure () := by cases op <;> rfl
    cases op <;> simp only [stW] at hw <;> first | exact hw.elim | skip
    · obtain ⟨h0, hK⟩ := hw
      have hn : ¬ (((a.size + b.size : Nat) : Int) > IntKind.i64.max) := by rw [IntKind.max_i64]; omega
      refine ⟨_, _, ?_, .str _, hK⟩
      simp only [he, Sem.run_bind, Sem.run_pure, Result.andThen_ok, binOp, Op.stringOp, if_neg hn]
    all_goals
      refine ⟨_, _, ?_, .bool _, hw⟩
      simp only [he, Sem.run_bind, Sem.run_pure, Result.andThen_ok, binOp, Op.stringOp]
  · exact hw.elim
end

/-! ### structs -/
/-- What building a struct wants to know: its zero cells, its fields' places and sizes. -/
def bdT (P : Program) (t : TypeId) : Option (List AV × List (Nat × Nat)) := match P.info? t, P.underlying t with
  | some it, some (.struct fields) => it.zero.bind fun z => (ofV z).bind fun za => (fields.toList.mapM (fun f => (P.info? f.type).map fun i => (f.offset, i.size))).map fun pl => (cellsA za, pl)
  | _, _ => none
def fillA (pl : List (Nat × Nat)) : List AV → List (Nat × AV) → Option (List AV)
  | cells, [] => some cells
  | cells, (i, v) :: rest => match pl[i]? with
    | none => none
    | some (off, size) => if memA v = true ∧ (cellsA v).length = size ∧ off + size ≤ cells.length then fillA pl (splice cells off (cellsA v)) rest else none

theorem splice_get : ∀ (vs cs : List AV) (o i : Nat) (h : i < (splice cs o vs).length), (splice cs o vs)[i] = if h2 : o ≤ i ∧ i < o + vs.length then vs[i - o]'(by omega) else cs[i]'(by rw [splice_length] at h; exact h)
  | [], cs, o, i, h => by rw [dif_neg (by simp only [List.length_nil]; omega)]; rfl
  | v :: vs, cs, o, i, h => by
    simp only [splice]
    rw [splice_get vs (cs.set o v) (o + 1) i (by simpa [splice] using h)]
    by_cases h1 : i = o
    · subst h1
      rw [dif_neg (by omega), dif_pos ⟨Nat.le_refl _, by simp⟩]
      simp
    · by_cases h2 : o ≤ i ∧ i < o + (v :: vs).length
      · have h3 : o + 1 ≤ i ∧ i < o + 1 + vs.length := by simp at h2; omega
        rw [dif_pos h3, dif_pos h2]
        obtain ⟨j, rfl⟩ : ∃ j, i = o + 1 + j := ⟨i - (o + 1), by omega⟩
        simp only [show o + 1 + j - (o + 1) = j from by omega, show o + 1 + j - o = j + 1 from by omega, List.getElem_cons_succ]
      · rw [dif_neg (by simp at h2; omega), dif_neg h2, List.getElem_set_ne (by omega)]

/-- The model's way of laying a part over cells. -/
theorem foldl_lay (v : List Value) (off : Nat) : ∀ (k : Nat) (cells : Array Value), off + k + v.length ≤ cells.size →
    ((v.zipIdx k).foldl (fun cs (p : Value × Nat) => cs.setIfInBounds (off + p.2) p.1) cells).size = cells.size ∧
    ∀ i, ((v.zipIdx k).foldl (fun cs (p : Value × Nat) => cs.setIfInBounds (off + p.2) p.1) cells).getD i undef = if off + k ≤ i ∧ i < off + k + v.length then v.getD (i - (off + k)) undef else cells.getD i undef := by
  induction v with
  | nil => intro k cells _; exact ⟨rfl, fun i => by rw [if_neg (by simp only [List.length_nil]; omega)]; rfl⟩
  | cons x v ih =>
    intro k cells hk
    simp only [List.length_cons] at hk
    simp only [List.zipIdx_cons, List.foldl_cons]
    obtain ⟨h1, h2⟩ := ih (k + 1) (cells.setIfInBounds (off + k) x) (by rw [Array.size_setIfInBounds]; omega)
    refine ⟨by rw [h1, Array.size_setIfInBounds], fun i => ?_⟩
    rw [h2 i]
    by_cases h3 : i = off + k
    · subst h3
      rw [if_neg (by omega), if_pos ⟨Nat.le_refl _, by simp⟩]
      simp only [Nat.sub_self, List.getD_cons_zero]
      rw [Array.getD_eq_getD_getElem?, Array.getElem?_setIfInBounds_self_of_lt (by omega)]
      rfl
    · have h4 : (cells.setIfInBounds (off + k) x).getD i undef = cells.getD i undef := by
        rw [Array.getD_eq_getD_getElem?, Array.getD_eq_getD_getElem?, Array.getElem?_setIfInBounds_ne (by omega)]
      by_cases h5 : off + k ≤ i ∧ i < off + k + (x :: v).length
      · rw [if_pos h5, if_pos (by simp at h5; omega)]
        obtain ⟨j, rfl⟩ : ∃ j, i = off + (k + 1) + j := ⟨i - (off + (k + 1)), by omega⟩
        rw [show off + (k + 1) + j - (off + (k + 1)) = j from by omega, show off + (k + 1) + j - (off + k) = j + 1 from by omega, List.getD_cons_succ]
      · rw [if_neg h5, if_neg (by simp at h5; omega), h4]

theorem fill_sound {ρ : Ip} {pl : List (Nat × Nat)} : ∀ (parts : List (Nat × AV)) (partsc : List (Nat × Value)) (cells out : List AV) (cellsc : Array Value), parts.length = partsc.length →
    (∀ i (hi : i < parts.length), (partsc.getD i (0, undef)).1 = parts[i].1 ∧ RV ρ parts[i].2 (partsc.getD i (0, undef)).2) → fillA pl cells parts = some out → cells.length = cellsc.size →
    (∀ i (hi : i < cells.length), RV ρ cells[i] (cellsc.getD i undef)) → (∀ i, i < cellsc.size → (cellsc.getD i undef).oneCell' = true) →
    ∃ outc, Instr.fill (pl.toArray[·]?) cellsc partsc = some outc ∧ out.length = outc.size ∧ (∀ i (hi : i < out.length), RV ρ out[i] (outc.getD i undef)) ∧ ∀ i, i < outc.size → (outc.getD i undef).oneCell' = true
  | [], [], cells, out, cellsc, _, _, hf, hl, hv, h1 => by
    simp only [fillA, Option.some.injEq] at hf
    subst hf
    exact ⟨cellsc, rfl, hl, hv, h1⟩
  | [], _ :: _, _, _, _, h, _, _, _, _, _ => by simp at h
  | _ :: _, [], _, _, _, h, _, _, _, _, _ => by simp at h
  | (i, v) :: parts, (ic, vc) :: partsc, cells, out, cellsc, hlen, hp, hf, hl, hv, h1 => by
    obtain ⟨hi, hvv⟩ := hp 0 (by simp)
    simp only [List.getD_cons_zero, List.getElem_cons_zero] at hi hvv
    subst hi
    simp only [fillA] at hf
    cases hpl : pl[ic]? with
    | none => simp [hpl] at hf
    | some os =>
      obtain ⟨off, size⟩ := os
      simp only [hpl] at hf
      split at hf
      · rename_i hc
        obtain ⟨hm, hsz, hfit⟩ := hc
        obtain ⟨k1, k2, k3⟩ := hvv.cells hm
        have hfold := foldl_lay vc.cells.toList off 0 cellsc (by simp; omega)
        obtain ⟨f1, f2⟩ := hfold
        have hx : Instr.fill (pl.toArray[·]?) cellsc ((ic, vc) :: partsc) = Instr.fill (pl.toArray[·]?) ((vc.cells.toList.zipIdx 0).foldl (fun cs (p : Value × Nat) => cs.setIfInBounds (off + p.2) p.1) cellsc) partsc := by
          have hpl' : pl.toArray[ic]? = some (off, size) := by simpa using hpl
          simp only [Instr.fill, hpl']
          rw [if_neg (by simp only [Bool.or_eq_true, decide_eq_true_eq]; omega)]
          congr 1
          rw [← Array.foldl_toList, Array.toList_zipIdx]
        rw [hx]
        refine fill_sound parts partsc _ out _ (by simpa using hlen) (fun j hj => by have := hp (j + 1) (by simpa using hj); simpa using this) hf (by rw [splice_length, f1, hl]) (fun j hj => ?_) (fun j hj => ?_)
        · rw [splice_get, f2 j]
          by_cases hc : off ≤ j ∧ j < off + (cellsA v).length
          · rw [dif_pos hc, if_pos (by simp; omega), Nat.add_zero, ← getD_toList]
            exact k2 (j - off) (by omega)
          · rw [dif_neg hc, if_neg (by simp; omega)]
            exact hv j (by rw [splice_length] at hj; exact hj)
        · rw [f2 j]
          by_cases hc : off + 0 ≤ j ∧ j < off + 0 + vc.cells.toList.length
          · rw [if_pos hc, ← getD_toList]
            exact k3 _ (by simp at hc ⊢; omega)
          · rw [if_neg hc]
            exact h1 j (by rw [f1] at hj; exact hj)
      · cases hf

theorem build_sound {P : Program} {ρ : Ip} {w : World} {t : TypeId} {za : List AV} {pl : List (Nat × Nat)} (hb : bdT P t = some (za, pl)) {parts : List (Nat × AV)} {partsc : Array (Nat × Value)} {out : List AV} (hlen : parts.length = partsc.size)
    (hp : ∀ i (hi : i < parts.length), (partsc.toList.getD i (0, undef)).1 = parts[i].1 ∧ RV ρ parts[i].2 (partsc.toList.getD i (0, undef)).2) (hf : fillA pl za parts = some out) :
    ∃ vs, (Instr.build t partsc).run P w = .ok (.agg vs) w ∧ RV ρ (.agg out) (.agg vs) := by
  unfold bdT at hb
  split at hb
  · rename_i it fields hi hu
    obtain ⟨z, hz, hb⟩ := Option.bind_eq_some_iff.1 hb
    obtain ⟨za', hza, hb⟩ := Option.bind_eq_some_iff.1 hb
    obtain ⟨pl', hpl, hb⟩ := Option.map_eq_some_iff.1 hb
    obtain ⟨rfl, rfl⟩ := Prod.mk.inj hb
    have hzp : PV ρ.prot za' z := ofV_PV hza
    by_cases hm : memA za' = true
    · obtain ⟨k1, k2, k3⟩ := hzp.cells hm
      obtain ⟨outc, f1, f2, f3, f4⟩ := fill_sound (ρ := ρ) parts partsc.toList (cellsA za') out z.cells (by simpa using hlen) hp hf k1 (fun i hi => .pure _ _ (k2 i hi)) k3
      refine ⟨outc, run_build w t partsc outc ?_, .agg _ _ f2 f3 f4⟩
      simp only [Program.built, hi, hu, hz, hpl]
      exact f1
    · exfalso
      apply hm
      cases z with
      | agg cs =>
        simp only [ofV] at hza
        obtain ⟨bs, _, rfl⟩ := Option.map_eq_some_iff.1 hza
        rfl
      | _ =>
        simp only [ofV] at hza
        unfold ofV1 at hza
        split at hza <;> first | (injection hza with hza; subst hza; rfl) | (cases hza)
  · cases hb

end Go.Eng
