/- An engine, part 3: what each operation does to abstract values and abstract memory, and that the model does the same. Over any program. -/
import Derived.Test.YtgfhddockofdnaaE2
set_option linter.unusedVariables false
set_option linter.unusedSimpArgs false
namespace Go.Eng
open Go.RowKit (Below)

def evA (t : Nat → AV) : Operand → AV
  | .tmp i => t i
  | .const v => (ofV v).getD .junk
  | .func f => .func (.func f) [] []
  | .global _ => .junk

/-- Cells are written one by one. -/
def splice : List AV → Nat → List AV → List AV
  | cs, _, [] => cs
  | cs, o, v :: vs => splice (cs.set o v) (o + 1) vs
theorem splice_length : ∀ (vs cs : List AV) (o : Nat), (splice cs o vs).length = cs.length
  | [], cs, o => rfl
  | v :: vs, cs, o => by rw [splice, splice_length vs, List.length_set]

def kdT (P : Program) (t : TypeId) : Option IntKind := match P.underlying t with
  | some (.int k) => some k
  | _ => none

/-- May a value be loaded as one of type t? -/
def fitsB (P : Program) (t : TypeId) : AV → Bool
  | .agg cs => agT P t == some true && szT P t == some cs.length
  | v => oneA v && agT P t == some false

def AH.put (h : AH) (b : Nat) (cs : List AV) : AH := { h with f := upd h.f b (some cs) }
def AH.mk_ (h : AH) (cs : List AV) : AH := { h with f := upd h.f h.n (some cs), n := h.n + 1 }
def AH.rm (h : AH) (b : Nat) : AH := { h with f := upd h.f b none }
def AH.grown (h : AH) (κ n : Nat) : AH := { h with gr := upd h.gr κ n }
def AH.begun (h : AH) (n : Nat) : AH := { h with gr := upd h.gr h.k n, k := h.k + 1 }

def loadW (P : Program) (t : TypeId) (x : AV) (h : AH) (K : AV → AH → Prop) : Prop := match x with
  | .eptr v => fitsB P t v = true ∧ K v h
  | .ptr b o => ∃ cs, h.f b = some cs ∧ ((agT P t = some false ∧ o < cs.length ∧ K (cs.getD o .junk) h) ∨
      (∃ n, agT P t = some true ∧ szT P t = some n ∧ o + n ≤ cs.length ∧ K (.agg ((cs.drop o).take n)) h))
  | _ => False
def storeW (P : Program) (t : TypeId) (x v : AV) (h : AH) (K : AV → AH → Prop) : Prop := match x with
  | .ptr b o => ∃ cs, h.f b = some cs ∧ memA v = true ∧ szT P t = some (cellsA v).length ∧ o + (cellsA v).length ≤ cs.length ∧ K .junk (h.put b (splice cs o (cellsA v)))
  | _ => False

section
variable {P : Program} {ρ : Ip} {h : AH} {w : World}

theorem getD_toList (a : Array Value) (i : Nat) : a.getD i undef = a.toList.getD i undef := by simp [List.getD, Array.getD_eq_getD_getElem?]
theorem toList_of_getD {a : Array Value} {i : Nat} {v : Value} (h : a.toList[i]? = some v) : a.getD i undef = v ∧ i < a.size := by
  obtain ⟨h1, h2⟩ := List.getElem?_eq_some_iff.1 h
  simp only [Array.length_toList] at h1
  refine ⟨?_, h1⟩
  rw [getD_toList, List.getD, h]; rfl

theorem run_isAgg_of {t : TypeId} {b : Bool} (ha : agT P t = some b) : (isAgg t).run P w = .ok b w := by
  unfold agT at ha
  unfold isAgg underlying
  cases hu : P.underlying t with
  | none => rw [hu] at ha; simp at ha
  | some d =>
    rw [hu] at ha
    simp only [Sem.run_bind, program, Sem.run, Result.andThen_ok, hu, Sem.run_pure]
    cases d <;> simp at ha <;> subst ha <;> rfl
theorem run_sizeOf_of {t : TypeId} {n : Nat} (ha : szT P t = some n) : (sizeOf t).run P w = .ok n w := by
  unfold szT at ha
  obtain ⟨i, hi, rfl⟩ := Option.map_eq_some_iff.1 ha
  simp [sizeOf, typeInfo, program, Sem.run, hi]
theorem run_under_of {t e : TypeId} (ha : elT P t = some e) : (underlying t).run P w = .ok (.slice e) w := by
  unfold elT at ha
  split at ha
  · rename_i e' hu
    injection ha with ha
    subst ha
    simp [underlying, program, Sem.run, hu]
  · cases ha
theorem elT_under {t e : TypeId} (ha : elT P t = some e) : P.underlying t = some (.slice e) := by
  unfold elT at ha
  split at ha
  · rename_i e' hu
    injection ha with ha
    subst ha
    exact hu
  · cases ha

theorem fitsB_run {t : TypeId} {v : AV} {u : Value} {ad : Addr} (hf : fitsB P t v = true) (hv : PV ρ.prot v u) (hc : ∀ j, j < u.cells.size → ρ.prot (ad.add j) = some (u.cells.getD j undef)) (hR : RH ρ h w) :
    (loadVar t ad).run P w = .ok u w := by
  by_cases ho : oneA v = true
  · have ha : agT P t = some false := by
      cases v <;> first | (simp [oneA] at ho; done) | (simp only [fitsB, Bool.and_eq_true, beq_iff_eq] at hf; exact hf.2)
    obtain ⟨h1, h2⟩ := hv.one ho
    have hcell := (hR.prot _ _ (hc 0 (by rw [h2]; exact Nat.zero_lt_one))).1
    rw [h2] at hcell
    have hcell' : w.cell? ad = some u := by simpa [Addr.add] using hcell
    unfold loadVar
    simp only [Sem.run_bind, run_isAgg_of ha, Result.andThen_ok, Bool.false_eq_true, if_false, run_load, hcell']
  · cases v <;> first | (exfalso; exact ho rfl) | (simp [fitsB, oneA] at hf; done) | skip
    rename_i cs
    simp only [fitsB, Bool.and_eq_true, beq_iff_eq] at hf
    cases hv with | agg _ vs hl hv1 h1 =>
    have hcs : ∀ j x, vs.toList[j]? = some x → w.cell? (ad.add j) = some x := fun j x hx => by
      obtain ⟨k1, k2⟩ := toList_of_getD hx
      rw [← k1]
      exact (hR.prot _ _ (hc j k2)).1
    unfold loadVar
    have hr := run_loadCells_list (P := P) w ad vs.toList hcs
    have hlen : vs.toList.length = cs.length := by rw [hl]; simp
    rw [hlen] at hr
    simp only [Sem.run_bind, run_isAgg_of hf.1, Result.andThen_ok, if_true, run_sizeOf_of hf.2, hr, Sem.run_pure]

theorem load_sound {t : TypeId} {x : AV} {K : AV → AH → Prop} (hw : loadW P t x h K) (hR : RH ρ h w) {xc : Value} (hx : RV ρ x xc) :
    ∃ vc v, (Instr.loadAt t xc).run P w = .ok vc w ∧ RV ρ v vc ∧ K v h := by
  unfold loadW at hw
  split at hw
  · rename_i v
    obtain ⟨ad, u, rfl, hv, hc⟩ := inv_eptr hx
    refine ⟨u, v, ?_, .pure _ _ hv, hw.2⟩
    simp only [Instr.loadAt, Instr.sureAddr, Sem.run_bind, Sem.run_pure, Result.andThen_ok, fitsB_run hw.1 hv hc hR]
  · rename_i b o
    obtain ⟨cs, hb, hw⟩ := hw
    obtain ⟨ad, rfl, hbn, hphi⟩ := inv_ptr hx
    obtain ⟨hbn', g, arr, e, hg, hh, hl, hcell⟩ := hR.blk b cs hb
    obtain rfl := hphi g _ hg
    rcases hw with ⟨ha, ho, hK⟩ | ⟨n, ha, hn, ho, hK⟩
    · have hoa : o < arr.size := by omega
      have hc : w.cell? ⟨g, o, none⟩ = some (arr.getD o undef) := by
        rw [cell_of_row w g o arr e (0, 0) hh, Array.getElem?_eq_getElem hoa]
        simp [Array.getD, hoa]
      refine ⟨arr.getD o undef, cs.getD o .junk, ?_, ?_, hK⟩
      · simp only [Instr.loadAt, Instr.sureAddr, Sem.run_bind, Sem.run_pure, Result.andThen_ok, loadVar, run_isAgg_of ha, Bool.false_eq_true, if_false, run_load, hc]
      · have := (hcell o ho).1
        rw [List.getD_eq_getElem?_getD, List.getElem?_eq_getElem ho]
        exact this
    · have hcs : ∀ j x, ((arr.toList.drop o).take n)[j]? = some x → w.cell? ((⟨g, o, none⟩ : Addr).add j) = some x := fun j x hx => by
        rw [Addr.add_lit, cell_of_row w g (o + j) arr e (0, 0) hh]
        rw [List.getElem?_take] at hx
        split at hx
        · rw [List.getElem?_drop, Array.getElem?_toList] at hx; exact hx
        · cases hx
      have hlen : ((arr.toList.drop o).take n).length = n := by simp; omega
      have hr := run_loadCells_list (P := P) w ⟨g, o, none⟩ _ hcs
      rw [hlen] at hr
      have hgd : ∀ i, i < n → ((arr.toList.drop o).take n).toArray.getD i undef = arr.getD (o + i) undef := fun i hi => by
        rw [getD_toList, getD_toList]
        simp only [List.getD_eq_getElem?_getD, List.getElem?_take, hi, if_true, List.getElem?_drop]
      refine ⟨.agg ((arr.toList.drop o).take n).toArray, _, ?_, ?_, hK⟩
      · simp only [Instr.loadAt, Instr.sureAddr, Sem.run_bind, Sem.run_pure, Result.andThen_ok, loadVar, run_isAgg_of ha, if_true, run_sizeOf_of hn, hr]
      · refine .agg _ _ (by simp; omega) (fun i hi => ?_) (fun i hi => ?_)
        · have hi' : i < n := by simp at hi; omega
          rw [hgd i hi', List.getElem_take, List.getElem_drop]
          exact (hcell (o + i) (by omega)).1
        · have hi' : i < n := by simpa [hlen] using hi
          rw [hgd i hi']
          exact (hcell (o + i) (by omega)).2
  · exact hw.elim

/-- Several cells of a block are written. -/
theorem RH.sets : ∀ (vs : List AV) (us : List Value) (cs : List AV) (o : Nat) {ρ : Ip} {h : AH} {w : World} (hR : RH ρ h w) {b : Nat} (hb : h.f b = some cs) {g n : Nat} (hg : ρ.phi b = some (g, n)), vs.length = us.length →
    (∀ i (hi : i < vs.length), RV ρ vs[i] (us.getD i undef)) → (∀ u ∈ us, u.oneCell' = true) → ∀ i, o + i + vs.length ≤ cs.length →
    ∃ w', (storeCells ⟨g, o, none⟩ us i).run P w = .ok () w' ∧ RH ρ (h.put b (splice cs (o + i) vs)) w'
  | [], [], cs, o, ρ, h, w, hR, b, hb, g, n, hg, _, _, _, i, _ => by
    refine ⟨w, rfl, ?_⟩
    have : h.put b (splice cs (o + i) []) = h := by
      unfold AH.put
      have : upd h.f b (some (splice cs (o + i) [])) = h.f := by
        funext j
        by_cases hj : j = b
        · rw [hj, upd_same, hb]; rfl
        · rw [upd_ne _ _ hj]
      rw [this]
    rw [this]; exact hR
  | [], u :: us, cs, o, ρ, h, w, hR, b, hb, g, n, hg, hl, _, _, i, _ => by simp at hl
  | v :: vs, [], cs, o, ρ, h, w, hR, b, hb, g, n, hg, hl, _, _, i, _ => by simp at hl
  | v :: vs, u :: us, cs, o, ρ, h, w, hR, b, hb, g, n, hg, hl, hv, h1, i, hlen => by
    simp only [List.length_cons] at hlen hl
    have ho : o + i < cs.length := by omega
    obtain ⟨g', n', hg', ⟨u0, hc⟩, hfr, hR'⟩ := hR.set hb ho (v := v) (u := u) (hv 0 (by simp)) (h1 u (by simp))
    have hgg : g' = g := by rw [hg] at hg'; exact (Prod.mk.inj (Option.some.inj hg')).1.symm
    subst hgg
    obtain ⟨w', hr, hR2⟩ := RH.sets vs us (cs.set (o + i) v) o hR' (b := b) (upd_same _ _ _) hg (by omega) (fun j hj => by have := hv (j + 1) (by simpa using hj); rw [List.getElem_cons_succ] at this; simpa using this) (fun x hx => h1 x (by simp [hx])) (i + 1) (by rw [List.length_set]; omega)
    refine ⟨w', ?_, ?_⟩
    · simp only [storeCells, Sem.run_bind, Addr.add_lit, run_store P w _ u .plain (h1 u (by simp)), hc, hfr, Bool.false_eq_true, if_false, Result.andThen_ok, hr]
    · have e1 : (AH.put { h with f := upd h.f b (some (cs.set (o + i) v)) } b (splice (cs.set (o + i) v) (o + (i + 1)) vs)) = h.put b (splice cs (o + i) (v :: vs)) := by
        unfold AH.put
        have : upd (upd h.f b (some (cs.set (o + i) v))) b (some (splice (cs.set (o + i) v) (o + (i + 1)) vs)) = upd h.f b (some (splice cs (o + i) (v :: vs))) := by
          funext j
          by_cases hj : j = b
          · rw [hj, upd_same, upd_same, splice, Nat.add_assoc]
          · rw [upd_ne _ _ hj, upd_ne _ _ hj, upd_ne _ _ hj]
        rw [this]
      rw [← e1]
      exact hR2

theorem store_sound {t : TypeId} {x v : AV} {K : AV → AH → Prop} (hw : storeW P t x v h K) (hR : RH ρ h w) {xc vc : Value} (hx : RV ρ x xc) (hv : RV ρ v vc) :
    ∃ w' h', (Instr.storeAt t xc vc).run P w = .ok () w' ∧ RH ρ h' w' ∧ K .junk h' := by
  unfold storeW at hw
  split at hw
  · rename_i b o
    obtain ⟨cs, hb, hm, hsz, hlen, hK⟩ := hw
    obtain ⟨ad, rfl, hbn, hphi⟩ := inv_ptr hx
    obtain ⟨hbn', g, arr, e, hg, hh, hl, hcell⟩ := hR.blk b cs hb
    obtain rfl := hphi g _ hg
    obtain ⟨h1, h2, h3⟩ := hv.cells hm
    obtain ⟨w', hr, hR'⟩ := RH.sets (P := P) (cellsA v) vc.cells.toList cs o hR hb hg (by simpa using h1) (fun i hi => by rw [← getD_toList]; exact h2 i hi)
      (fun u hu => by
        obtain ⟨j, hj, rfl⟩ := List.mem_iff_getElem.1 hu
        have := h3 j (by simpa using hj)
        rw [getD_toList, List.getD_eq_getElem?_getD, List.getElem?_eq_getElem hj] at this
        exact this) 0 (by simpa using hlen)
    refine ⟨w', _, ?_, by simpa using hR', hK⟩
    have hne : ¬ (vc.cells.size ≠ (cellsA v).length) := by rw [h1]; simp
    simp only [Instr.storeAt, Instr.sureAddr, storeVar, Sem.run_bind, Sem.run_pure, Result.andThen_ok, run_sizeOf_of hsz, if_neg hne, hr]
  · exact hw.elim

end
end Go.Eng
