/- An engine, part 12: rows and matrices of numbers, as values that stay and as blocks. Over any program. -/
import Derived.Test.YtgfhddockofdnaaE11
set_option linter.unusedVariables false
set_option linter.unusedSimpArgs false
namespace Go.Eng
open Go.RowKit (Below)

/-! ### more or less is known of a value -/
def Up (v v' : AV) : Prop := ∀ ρ vc, RV ρ v vc → RV ρ v' vc
theorem Up.refl (v : AV) : Up v v := fun _ _ h => h
theorem Up.trans {a b c : AV} (h : Up a b) (k : Up b c) : Up a c := fun ρ vc x => k ρ vc (h ρ vc x)
theorem Up.tup {vs vs' : List AV} (hl : vs.length = vs'.length) (h : ∀ i (hi : i < vs.length), Up vs[i] (vs'[i]'(by omega))) : Up (.tup vs) (.tup vs') := fun ρ vc x => by
  obtain ⟨us, rfl, h1, h2⟩ := inv_tup x
  exact .tup _ _ (by omega) fun i hi => h i (by omega) _ _ (h2 i (by omega))
theorem Up.tup1 {a a' : AV} (h : Up a a') : Up (.tup [a]) (.tup [a']) := .tup rfl fun i hi => by
  have : i = 0 := by simpa using hi
  subst this; exact h
theorem Up.tup2 {a b a' b' : AV} (h : Up a a') (k : Up b b') : Up (.tup [a, b]) (.tup [a', b']) := .tup rfl fun i hi => by
  match i with
  | 0 => exact h
  | 1 => exact k
  | n + 2 => exact absurd hi (by simp)
theorem Up.tup3 {a b c a' b' c' : AV} (h : Up a a') (k : Up b b') (l : Up c c') : Up (.tup [a, b, c]) (.tup [a', b', c']) := .tup rfl fun i hi => by
  match i with
  | 0 => exact h
  | 1 => exact k
  | 2 => exact l
  | n + 3 => exact absurd hi (by simp)
theorem Up.nils_ (sz : Nat) : Up .nils (.tree sz [] .ro) := fun ρ vc x => by
  rw [inv_nils x]; exact .pure _ _ (.none_ _ _ (.inl rfl))
theorem Up.ro_ (sz : Nat) (xs : List AV) (g : Gr) : Up (.tree sz xs g) (.tree sz xs .ro) := fun ρ vc x => .pure _ _ x.ro

theorem ACalls.up {P : Program} {f : FuncId} {args : List AV} {h : AH} {R : AV → AH → Prop} (hc : ACalls P f args h (fun v h' => ∃ v', Up v v' ∧ R v' h')) : ACalls P f args h R := fun ρ w argc hR hL =>
  Calls.mono (hc ρ w argc hR hL) fun e w' he => by
    cases e with
    | returned vc =>
      obtain ⟨ρ', v, h', h1, h2, h3, v', h4, h5⟩ := he
      exact ⟨ρ', v', h', h1, h2, h4 _ _ h3, h5⟩
    | panicked c => exact he
    | outgrown => exact he

/-- Arguments of which less needs to be known. -/
theorem ACalls.args {P : Program} {f : FuncId} {args args' : List AV} {h : AH} {R : AV → AH → Prop} (hc : ACalls P f args' h R) (hl : args.length = args'.length) (hu : ∀ i (hi : i < args.length), Up args[i] (args'[i]'(by omega))) : ACalls P f args h R := fun ρ w argc hR hL =>
  hc ρ w argc hR ⟨by rw [← hl]; exact hL.1, fun i hi => hu i (by omega) _ _ (hL.2 i (by omega))⟩

/-! ### rows of numbers -/
def rowV (r : List Int) : AV := .tree 1 (r.map (AV.int .i64)) .ro
def matV (M : List (List Int)) : AV := .tree 1 (M.map rowV) .ro

theorem Up.row (r : List Int) (g : Gr) : Up (.tree 1 (r.map (AV.int .i64)) g) (rowV r) := Up.ro_ _ _ _
theorem Up.mat (M : List (List Int)) (g : Gr) : Up (.tree 1 (M.map rowV) g) (matV M) := Up.ro_ _ _ _
theorem Up.nrow : Up .nils (rowV []) := Up.nils_ 1
theorem Up.nmat : Up .nils (matV []) := Up.nils_ 1

section
variable {P : Program} {t : TypeId} {K : AV → Prop} {k : IntKind} {n : Int}
theorem len_row (r : List Int) : lenW P t (rowV r) K = (knT P t = some 3 ∧ K (.int .i64 (r.length : Int))) := by simp [lenW, rowV]
theorem len_mat (M : List (List Int)) : lenW P t (matV M) K = (knT P t = some 3 ∧ K (.int .i64 (M.length : Int))) := by simp [lenW, matV]
theorem getD_int (r : List Int) (i : Nat) (hi : i < r.length) : (r.map (AV.int .i64)).getD i .junk = .int .i64 (r.getD i 0) := by
  simp [List.getD_eq_getElem?_getD, hi]
theorem getD_row (M : List (List Int)) (i : Nat) (hi : i < M.length) : (M.map rowV).getD i .junk = rowV (M.getD i []) := by
  simp [List.getD_eq_getElem?_getD, hi]
theorem idx_row (r : List Int) : idxAW P t (rowV r) (.int k n) K = ((∃ e, elT P t = some e ∧ szT P e = some 1) ∧ 0 ≤ n ∧ n < (r.length : Int) ∧ K (.eptr (.int .i64 (r.getD n.toNat 0)))) := by
  simp only [idxAW, rowV, List.length_map]
  refine propext ⟨fun ⟨e, h1, h2, h3, h4, h5⟩ => ⟨⟨e, h1, h2⟩, h3, h4, by rwa [getD_int _ _ (by omega)] at h5⟩, fun ⟨⟨e, h1, h2⟩, h3, h4, h5⟩ => ⟨e, h1, h2, h3, h4, by rw [getD_int _ _ (by omega)]; exact h5⟩⟩
theorem idx_mat (M : List (List Int)) : idxAW P t (matV M) (.int k n) K = ((∃ e, elT P t = some e ∧ szT P e = some 1) ∧ 0 ≤ n ∧ n < (M.length : Int) ∧ K (.eptr (rowV (M.getD n.toNat [])))) := by
  simp only [idxAW, matV, List.length_map]
  refine propext ⟨fun ⟨e, h1, h2, h3, h4, h5⟩ => ⟨⟨e, h1, h2⟩, h3, h4, by rwa [getD_row _ _ (by omega)] at h5⟩, fun ⟨⟨e, h1, h2⟩, h3, h4, h5⟩ => ⟨e, h1, h2, h3, h4, by rw [getD_row _ _ (by omega)]; exact h5⟩⟩
theorem fits_row (r : List Int) : fitsB P t (rowV r) = (agT P t == some false) := by simp [fitsB, rowV, oneA]
theorem fits_mat (M : List (List Int)) : fitsB P t (matV M) = (agT P t == some false) := by simp [fitsB, matV, oneA]
theorem memA_row (r : List Int) : memA (rowV r) = true := rfl
theorem memA_mat (M : List (List Int)) : memA (matV M) = true := rfl
theorem oneA_row (r : List Int) : oneA (rowV r) = true := rfl
theorem oneA_mat (M : List (List Int)) : oneA (matV M) = true := rfl
theorem pur_row (r : List Int) : pur (rowV r) = true := by simp [rowV, pur]
theorem pur_mat (M : List (List Int)) : pur (matV M) = true := by simp [matV, pur]
theorem cells_row (r : List Int) : cellsA (rowV r) = [rowV r] := rfl
theorem cells_mat (M : List (List Int)) : cellsA (matV M) = [matV M] := rfl
theorem roA_row (r : List Int) : roA (rowV r) = rowV r := by simp [rowV, roA]
theorem roA_mat (M : List (List Int)) : roA (matV M) = matV M := by simp [matV, roA]

theorem wrap64 (h : -9223372036854775808 ≤ n ∧ n ≤ 9223372036854775807) : IntKind.i64.wrap n = n := by rw [IntKind.wrap_i64]; omega
end

/-! ### heaps -/
theorem AH.ext_ {h h' : AH} (h1 : ∀ b, h.f b = h'.f b) (h2 : h.n = h'.n) (h3 : ∀ κ, h.gr κ = h'.gr κ) (h4 : h.k = h'.k) : h = h' := by
  cases h; cases h'
  simp only [AH.mk.injEq]
  exact ⟨funext h1, h2, funext h3, h4⟩
theorem AH.put_put (h : AH) (b : Nat) (x y : List AV) : (h.put b x).put b y = h.put b y := AH.ext_ (fun c => by simp only [AH.put, upd]; split <;> rfl) rfl (fun _ => rfl) rfl
theorem AH.put_f (h : AH) (b : Nat) (x : List AV) : (h.put b x).f b = some x := upd_same _ _ _
theorem AH.put_ne (h : AH) {b c : Nat} (x : List AV) (hb : c ≠ b) : (h.put b x).f c = h.f c := upd_ne _ _ hb
theorem AH.mk_f (h : AH) (x : List AV) : (h.mk_ x).f h.n = some x := upd_same _ _ _
theorem AH.mk_put (h : AH) (x y : List AV) : (h.mk_ x).put h.n y = h.mk_ y := AH.ext_ (fun c => by simp only [AH.put, AH.mk_, upd]; split <;> rfl) rfl (fun _ => rfl) rfl

theorem Ext.mk_ {h h' : AH} (he : Ext h h') (x : List AV) : Ext h (h'.mk_ x) := ⟨Nat.le_succ_of_le he.n, he.k, fun b hb => (upd_ne _ _ (by have := he.n; omega)).trans (he.f b hb), he.gr⟩
theorem Ext.put {h h' : AH} (he : Ext h h') {b : Nat} (hb : h.n ≤ b) (x : List AV) : Ext h (h'.put b x) := ⟨he.n, he.k, fun c hc => (upd_ne _ _ (by omega)).trans (he.f c hc), he.gr⟩
theorem Ext.rm {h h' : AH} (he : Ext h h') {b : Nat} (hb : h.n ≤ b) : Ext h (h'.rm b) := ⟨he.n, he.k, fun c hc => (upd_ne _ _ (by omega)).trans (he.f c hc), he.gr⟩
theorem Ext.begun {h h' : AH} (he : Ext h h') (m : Nat) : Ext h (h'.begun m) := ⟨he.n, Nat.le_succ_of_le he.k, he.f, fun c hc => (upd_ne _ _ (by have := he.k; omega)).trans (he.gr c hc)⟩
theorem Ext.grown {h h' : AH} (he : Ext h h') {κ : Nat} (hκ : h.k ≤ κ) (m : Nat) : Ext h (h'.grown κ m) := ⟨he.n, he.k, he.f, fun c hc => (upd_ne _ _ (by omega)).trans (he.gr c hc)⟩

/-! ### a row that is appended to (its elements stay) -/
/-- The row κ = h.k, empty (nil) or begun. -/
def accV (κ : Nat) (xs : List AV) : AV := match xs with
  | [] => .nils
  | x :: r => .tree 1 (x :: r) (.own κ)
def accH (h : AH) (xs : List AV) : AH := match xs with
  | [] => h
  | x :: r => h.begun (r.length + 1)
theorem accV_nil (κ : Nat) : accV κ [] = .nils := rfl
theorem accH_nil (h : AH) : accH h [] = h := rfl
theorem acc_app {P : Program} {t : TypeId} {h : AH} {xs ys : List AV} {g : Gr} {K : AV → AH → Prop} (hys : ys ≠ []) {e by_ : Nat} {z : AV} (he : elT P t = some e) (hs : szT P e = some 1) (hb : byT P e = some by_) (hz : zrT P e = some z) (hm : memA z = true) (hzl : (cellsA z).length = 1)
    (h1 : xs.length + ys.length ≤ 1073741824) (h2 : by_ ≤ 64) (hK : K (accV h.k (xs ++ ys)) (accH h (xs ++ ys))) : appW P t (accV h.k xs) (.tree 1 ys g) (accH h xs) K := by
  have hbig : (xs.length + ys.length) * by_ ≤ 140737488355328 := Nat.le_trans (Nat.mul_le_mul h1 h2) (by omega)
  refine ⟨e, 1, by_, z, he, hs, hb, hz, hm, hzl, Nat.one_pos, rfl, hys, ?_⟩
  cases xs with
  | nil =>
    simp only [accV, accH, List.nil_append, List.length_nil, Nat.zero_add] at h1 hbig hK ⊢
    refine ⟨by omega, hbig, ?_⟩
    cases ys with
    | nil => exact absurd rfl hys
    | cons y r => exact hK
  | cons x r =>
    simp only [accV, accH, List.cons_append] at hK ⊢
    refine ⟨trivial, by simp [AH.begun, upd], by omega, hbig, ?_⟩
    have : (h.begun (r.length + 1)).grown h.k ((x :: r).length + ys.length) = h.begun ((r ++ ys).length + 1) := AH.ext_ (fun _ => rfl) rfl (fun κ => by
      simp only [AH.grown, AH.begun, upd]
      split
      · simp only [List.length_cons, List.length_append]; omega
      · rfl) rfl
    rw [this]
    exact hK
theorem Up.acc (κ : Nat) (xs : List AV) : Up (accV κ xs) (.tree 1 xs .ro) := by
  cases xs with
  | nil => exact Up.nils_ 1
  | cons x r => exact Up.ro_ _ _ _
theorem Ext.acc {h h' : AH} (he : Ext h h') (xs : List AV) : Ext h (accH h' xs) := by
  cases xs with
  | nil => exact he
  | cons x r => exact he.begun _
theorem len_acc {P : Program} {t : TypeId} {K : AV → Prop} (κ : Nat) (xs : List AV) : lenW P t (accV κ xs) K = (knT P t = some 3 ∧ K (.int .i64 (xs.length : Int))) := by
  cases xs <;> simp [lenW, accV]
theorem pur_acc (κ : Nat) (xs : List AV) : pur (accV κ xs) = true := by cases xs <;> simp [accV, pur]

/-! ### a matrix in blocks: one of the rows, one for each row -/
/-- Outer block O, row i in block ids[i], all rows m long. -/
def rowsC (ids : List Nat) (m : Nat) : List AV := ids.map fun b => .bsl b 0 m .ro
def matH (h : AH) (O : Nat) (ids : List Nat) (m : Nat) (M : List (List Int)) : AH :=
  { h with f := fun b => if b = O then some (rowsC ids m) else match ids.idxOf? b with
      | some i => some ((M.getD i []).map (AV.int .i64))
      | none => h.f b }
structure MatOk (O : Nat) (ids : List Nat) (m : Nat) (M : List (List Int)) : Prop where
  nodup : ids.Nodup
  out : O ∉ ids
  len : ids.length = M.length
  rows : ∀ r ∈ M, r.length = m

theorem idxOf_get {ids : List Nat} (hn : ids.Nodup) {i : Nat} (hi : i < ids.length) : ids.idxOf? (ids.getD i 0) = some i := by
  have hg : ids.getD i 0 = ids[i] := by simp [List.getD_eq_getElem?_getD, hi]
  rw [hg, List.idxOf?_eq_some_iff]
  refine ⟨hi, rfl, fun j hj h => ?_⟩
  have := (List.getElem_inj (h₀ := by omega) (h₁ := hi) hn).1 h
  omega

section
variable {h : AH} {O : Nat} {ids : List Nat} {m : Nat} {M : List (List Int)}
theorem matH_O : (matH h O ids m M).f O = some (rowsC ids m) := by simp [matH]
theorem matH_row (ho : MatOk O ids m M) {i : Nat} (hi : i < M.length) : (matH h O ids m M).f (ids.getD i 0) = some ((M.getD i []).map (AV.int .i64)) := by
  have hi' : i < ids.length := by rw [ho.len]; exact hi
  have hne : ids.getD i 0 ≠ O := fun e => ho.out (by rw [← e]; simp [List.getD_eq_getElem?_getD, hi'])
  simp only [matH, if_neg hne, idxOf_get ho.nodup hi']
theorem rowsC_get {i : Nat} (hi : i < ids.length) : (rowsC ids m).getD i .junk = .bsl (ids.getD i 0) 0 m .ro := by
  simp [rowsC, List.getD_eq_getElem?_getD, hi]
theorem rowsC_length : (rowsC ids m).length = ids.length := by simp [rowsC]
theorem matH_put (ho : MatOk O ids m M) {i : Nat} (hi : i < M.length) (r : List Int) : (matH h O ids m M).put (ids.getD i 0) (r.map (AV.int .i64)) = matH h O ids m (M.set i r) := by
  have hi' : i < ids.length := by rw [ho.len]; exact hi
  have hne : ids.getD i 0 ≠ O := fun e => ho.out (by rw [← e]; simp [List.getD_eq_getElem?_getD, hi'])
  refine AH.ext_ (fun b => ?_) rfl (fun _ => rfl) rfl
  simp only [AH.put, matH]
  by_cases hb : b = ids.getD i 0
  · rw [hb, upd_same, if_neg hne, idxOf_get ho.nodup hi']
    simp [List.getD_eq_getElem?_getD, hi]
  · rw [upd_ne _ _ hb]
    by_cases hO : b = O
    · rw [if_pos hO, if_pos hO]
    · rw [if_neg hO, if_neg hO]
      split
      · rename_i j hj
        obtain ⟨h1, h2, -⟩ := List.idxOf?_eq_some_iff.1 hj
        have hji : j ≠ i := fun e => hb (by rw [← e, ← h2]; simp [List.getD_eq_getElem?_getD, h1])
        simp [List.getD_eq_getElem?_getD, List.getElem?_set_ne (Ne.symm hji)]
      · rfl
theorem MatOk.set (ho : MatOk O ids m M) (i : Nat) {r : List Int} (hr : r.length = m) : MatOk O ids m (M.set i r) :=
  ⟨ho.nodup, ho.out, by rw [List.length_set]; exact ho.len, fun q hq => by
    rcases List.mem_or_eq_of_mem_set hq with hq | rfl
    · exact ho.rows q hq
    · exact hr⟩
theorem MatOk.row (ho : MatOk O ids m M) {i : Nat} (hi : i < M.length) : (M.getD i []).length = m := ho.rows _ (by rw [List.getD_eq_getElem?_getD, List.getElem?_eq_getElem hi]; exact List.getElem_mem hi)
end

theorem splice_one (cs : List AV) (o : Nat) (v : AV) : splice cs o [v] = cs.set o v := rfl
theorem set_int (r : List Int) (j : Nat) (v : Int) : (r.map (AV.int .i64)).set j (.int .i64 v) = (r.set j v).map (AV.int .i64) := by rw [List.map_set]

/-! ### a matrix that is never written again -/
theorem Up.bsl (b o n : Nat) (c : Cp) : Up (.bsl b o n c) (.bsl b o n .ro) := fun ρ vc x => by
  obtain ⟨ad, cap, rfl, hb, hcap, hmax, hphi, -, -⟩ := inv_bsl x
  exact .bsl _ _ _ _ _ _ hb hcap hmax hphi (fun h => by cases h) (fun _ h => by cases h)

theorem allB_of {p : AV → Bool} : ∀ {l : List AV}, (∀ v ∈ l, p v = true) → allB p l = true
  | [], _ => rfl
  | v :: r, h => by simp only [allB, Bool.and_eq_true]; exact ⟨h v (List.mem_cons_self ..), allB_of fun u hu => h u (List.mem_cons_of_mem _ hu)⟩
theorem pur_ints (r : List Int) : allB pur (r.map (AV.int .i64)) = true := allB_of fun v hv => by obtain ⟨n, -, rfl⟩ := List.mem_map.1 hv; simp only [pur]
theorem one_ints (r : List Int) : allB oneA (r.map (AV.int .i64)) = true := allB_of fun v hv => by obtain ⟨n, -, rfl⟩ := List.mem_map.1 hv; rfl
theorem roL_map {α : Type} (f : α → AV) (h : ∀ x, roA (f x) = f x) : ∀ l : List α, roL (l.map f) = l.map f
  | [] => rfl
  | x :: r => by simp only [List.map_cons, roL, h, roL_map f h r]
theorem roL_ints (r : List Int) : roL (r.map (AV.int .i64)) = r.map (AV.int .i64) := roL_map _ (fun n => by simp only [roA]) r

section
variable {ρ : Ip} {h : AH} {w : World} {O : Nat} {ids : List Nat} {m : Nat} {M : List (List Int)}
/-- The first k rows are rows that stay. -/
def halfH (h : AH) (O : Nat) (ids : List Nat) (m : Nat) (M : List (List Int)) (k : Nat) : AH :=
  { h with f := fun b => if b = O then some ((M.take k).map rowV ++ (rowsC ids m).drop k) else match ids.idxOf? b with
      | some i => if i < k then none else some ((M.getD i []).map (AV.int .i64))
      | none => h.f b }

theorem halfH_zero : halfH h O ids m M 0 = matH h O ids m M := AH.ext_ (fun b => by simp [halfH, matH]) rfl (fun _ => rfl) rfl

theorem half_step (ho : MatOk O ids m M) {k : Nat} (hk : k < M.length) (hR : RH ρ (halfH h O ids m M k) w) : ∃ ρ', ρ.Le ρ' ∧ RH ρ' (halfH h O ids m M (k + 1)) w := by
  have hk' : k < ids.length := by rw [ho.len]; exact hk
  have hne : ids.getD k 0 ≠ O := fun e => ho.out (by rw [← e]; simp [List.getD_eq_getElem?_getD, hk'])
  have hrow : (halfH h O ids m M k).f (ids.getD k 0) = some ((M.getD k []).map (AV.int .i64)) := by
    simp only [halfH, if_neg hne, idxOf_get ho.nodup hk', Nat.lt_irrefl, if_false]
  have hm : (M.getD k []).length = m := ho.row hk
  obtain ⟨ρ', hle, hR', hv⟩ := hR.freeze hrow (pur_ints _) (one_ints _)
  have hO0 : (halfH h O ids m M k).f O = some ((M.take k).map rowV ++ (rowsC ids m).drop k) := by simp only [halfH, if_pos]
  have hO : ((halfH h O ids m M k).rm (ids.getD k 0)).f O = some ((M.take k).map rowV ++ (rowsC ids m).drop k) := by
    simp only [AH.rm, upd_ne _ _ (Ne.symm hne), hO0]
  have hlen1 : ((M.take k).map rowV).length = k := by rw [List.length_map, List.length_take]; omega
  have hlen2 : ((M.take (k + 1)).map rowV).length = k + 1 := by rw [List.length_map, List.length_take]; omega
  have hR2 := hR.up_old hle hR' (cs' := (M.take (k + 1)).map rowV ++ (rowsC ids m).drop (k + 1)) hO0 hO (by simp only [List.length_append, hlen1, hlen2, List.length_drop, rowsC_length]; omega) (fun i hi vc hx => by
    rcases Nat.lt_trichotomy i k with hik | hik | hik
    · rw [List.getElem_append_left (by omega)]
      rw [List.getElem_append_left (by omega)] at hx
      have hx' := hx.mono hle
      simpa [List.getElem_map, List.getElem_take] using hx'
    · subst hik
      rw [List.getElem_append_left (by omega), List.getElem_map, List.getElem_take]
      rw [List.getElem_append_right (by omega)] at hx
      have e1 : ((rowsC ids m).drop i)[i - ((M.take i).map rowV).length]'(by simp only [List.length_drop, rowsC_length, hlen1]; omega) = .bsl (ids.getD i 0) 0 m .ro := by
        have : i - ((M.take i).map rowV).length = 0 := by omega
        simp only [this, List.getElem_drop, Nat.add_zero, rowsC, List.getElem_map]
        simp [List.getD_eq_getElem?_getD, hk']
      rw [e1] at hx
      have := hv m .ro _ (by rw [List.length_map]; omega) hx
      rw [roL_ints] at this
      have e2 : M[i] = M.getD i [] := by simp [List.getD_eq_getElem?_getD, hk]
      rw [e2, rowV]
      rw [List.take_of_length_le (by rw [List.length_map]; omega)] at this
      exact .pure _ _ this
    · rw [List.getElem_append_right (by omega)]
      rw [List.getElem_append_right (by omega)] at hx
      simp only [hlen1, hlen2, List.getElem_drop] at hx ⊢
      have hx' := hx.mono hle
      simpa only [show k + 1 + (i - (k + 1)) = k + (i - k) from by omega] using hx')
  refine ⟨ρ', hle, ?_⟩
  have : ((halfH h O ids m M k).rm (ids.getD k 0)).put O ((M.take (k + 1)).map rowV ++ (rowsC ids m).drop (k + 1)) = halfH h O ids m M (k + 1) := by
    refine AH.ext_ (fun b => ?_) rfl (fun _ => rfl) rfl
    by_cases hb : b = O
    · subst hb
      rw [AH.put_f]
      simp only [halfH, if_pos]
    · rw [AH.put_ne _ _ hb]
      simp only [AH.rm, halfH, if_neg hb]
      by_cases hbk : b = ids.getD k 0
      · rw [hbk, upd_same, idxOf_get ho.nodup hk']
        simp
      · rw [upd_ne _ _ hbk, if_neg hb]
        split
        · rename_i i hi
          obtain ⟨h1, h2, -⟩ := List.idxOf?_eq_some_iff.1 hi
          have hik : i ≠ k := fun e => hbk (by rw [← e, ← h2]; simp [List.getD_eq_getElem?_getD, h1])
          by_cases hlt : i < k
          · rw [if_pos hlt, if_pos (by omega)]
          · rw [if_neg hlt, if_neg (by omega)]
        · rfl
  rw [← this]
  exact hR2

theorem half_all (ho : MatOk O ids m M) (hR : RH ρ (matH h O ids m M) w) : ∀ k, k ≤ M.length → ∃ ρ', ρ.Le ρ' ∧ RH ρ' (halfH h O ids m M k) w
  | 0, _ => ⟨ρ, .refl _, by rw [halfH_zero]; exact hR⟩
  | k + 1, hk => by
    obtain ⟨ρ1, h1, h2⟩ := half_all ho hR k (by omega)
    obtain ⟨ρ2, h3, h4⟩ := half_step ho (by omega) h2
    exact ⟨ρ2, h1.trans h3, h4⟩

/-- The memory without the matrix. -/
def offH (h : AH) (O : Nat) (ids : List Nat) : AH := { h with f := fun b => if b = O then none else if b ∈ ids then none else h.f b }

theorem allB_rows (M : List (List Int)) : allB pur (M.map rowV) = true ∧ allB oneA (M.map rowV) = true :=
  ⟨allB_of fun v hv => by obtain ⟨n, -, rfl⟩ := List.mem_map.1 hv; exact pur_row n, allB_of fun v hv => by obtain ⟨n, -, rfl⟩ := List.mem_map.1 hv; rfl⟩

theorem freeze_mat (ho : MatOk O ids m M) (hR : RH ρ (matH h O ids m M) w) : ∃ ρ', ρ.Le ρ' ∧ RH ρ' (offH h O ids) w ∧ ∀ n c vc, n ≤ M.length → RV ρ (.bsl O 0 n c) vc → PV ρ'.prot (matV (M.take n)) vc := by
  obtain ⟨ρ1, h1, h2⟩ := half_all ho hR M.length (Nat.le_refl _)
  have hO : (halfH h O ids m M M.length).f O = some (M.map rowV) := by
    simp only [halfH, if_pos, List.take_length]
    rw [List.drop_of_length_le (by rw [rowsC_length, ho.len]; exact Nat.le_refl _), List.append_nil]
  obtain ⟨ρ2, h3, h4, h5⟩ := h2.freeze hO (allB_rows M).1 (allB_rows M).2
  refine ⟨ρ2, h1.trans h3, ?_, fun n c vc hn hv => ?_⟩
  · have : (halfH h O ids m M M.length).rm O = offH h O ids := by
      refine AH.ext_ (fun b => ?_) rfl (fun _ => rfl) rfl
      simp only [AH.rm, halfH, offH, upd]
      by_cases hb : b = O
      · rw [if_pos hb, if_pos hb]
      · rw [if_neg hb, if_neg hb, if_neg hb]
        split
        · rename_i i hi
          obtain ⟨q1, q2, -⟩ := List.idxOf?_eq_some_iff.1 hi
          rw [if_pos (by rw [← ho.len]; exact q1), if_pos (by rw [← q2]; exact List.getElem_mem q1)]
        · rename_i hi
          rw [if_neg (List.idxOf?_eq_none_iff.1 hi)]
    rw [← this]; exact h4
  · have := h5 n c vc (by rw [List.length_map]; exact hn) (hv.mono h1)
    rw [roL_map _ roA_row] at this
    rw [matV, List.map_take]
    exact this
end

/-! ### what follows is looked at only when its turn comes -/
section
variable {P : Program} {bl : Bool} {bf : List (List Nat)} {t s d : TypeId} {op : Op} {bop : BinOp} {uop : UnOp} {k k' : IntKind} {x x' y y' : AV} {a a' b b' : Int} {E E' : Operand → AV} {e e' : Env} {h h' : AH} {K : AV → Prop} {K2 : AV → AH → Prop} {K3 : Env → AH → Prop}
  {ops r r' : List Oper} {pl : List Nat} {log log' : List (Nat × Nat × Option (List AV))} {g : Option (Nat × Bool)} {run skip : Env → Prop} {args args' : List AV} {lo hi mx lo' hi' mx' : Option AV} {n m : Nat} {cs cs' : List AV} {rs : List ResultVar} {rv : ResultVar} {p q : Prop} {KL : List AV → Prop}
@[congr] theorem gifW_c {c c' : Bool} {b : Bool} (h1 : c = c') : gifW c b p q = gifW c' b p q := by rw [h1]
@[congr] theorem condW_c (h1 : x = x') : condW x p q = condW x' p q := by rw [h1]
theorem gif_tt : gifW true true p q = p := by simp [gifW]
theorem gif_tf : gifW true false p q = q := by simp [gifW]
theorem gif_ft : gifW false true p q = q := by simp [gifW]
theorem gif_ff : gifW false false p q = p := by simp [gifW]
theorem gif_dt {c : Prop} [Decidable c] : gifW (decide c) true p q = ((c → p) ∧ (¬ c → q)) := by simp [gifW]
theorem gif_df {c : Prop} [Decidable c] : gifW (decide c) false p q = ((¬ c → p) ∧ (c → q)) := by simp [gifW]
theorem gif_et : gifW (a == b) true p q = ((a = b → p) ∧ (¬ a = b → q)) := by simp [gifW]
theorem gif_ef : gifW (a == b) false p q = ((¬ a = b → p) ∧ (a = b → q)) := by simp [gifW]
theorem gif_nt : gifW (a != b) true p q = ((¬ a = b → p) ∧ (a = b → q)) := by simp [gifW]
theorem gif_nf : gifW (a != b) false p q = ((a = b → p) ∧ (¬ a = b → q)) := by simp [gifW]
theorem gif_not {c d : Bool} : gifW (!c) d p q = gifW c (!d) p q := by cases c <;> cases d <;> simp [gifW]
@[congr] theorem guardW_c (h1 : e = e') : guardW e ops g run skip = guardW e' ops g run skip := by rw [h1]
@[congr] theorem stepW_c (h1 : h = h') : stepW P bl op E h K2 = stepW P bl op E h' K2 := by rw [h1]
@[congr] theorem opW_c (h1 : h = h') : opW P bl op E h K2 = opW P bl op E h' K2 := by rw [h1]
@[congr] theorem binW_c (h1 : x = x') (h2 : y = y') : binW P bop t x y K = binW P bop t x' y' K := by rw [h1, h2]
@[congr] theorem arW_c (h1 : a = a') (h2 : b = b') : arW bop k a b K = arW bop k a' b' K := by rw [h1, h2]
@[congr] theorem unW_c (h1 : x = x') : unW uop x K = unW uop x' K := by rw [h1]
@[congr] theorem cvW_c (h1 : x = x') : cvW P s d x K = cvW P s d x' K := by rw [h1]
@[congr] theorem loadW_c (h1 : x = x') (h2 : h = h') : loadW P t x h K2 = loadW P t x' h' K2 := by rw [h1, h2]
@[congr] theorem storeW_c (h1 : x = x') (h2 : h = h') (h3 : y = y') : storeW P t x y h K2 = storeW P t x' y' h' K2 := by rw [h1, h2, h3]
@[congr] theorem cutW_c (h1 : x = x') (h2 : lo = lo') (h3 : hi = hi') (h4 : mx = mx') : cutW P t x lo hi mx K = cutW P t x' lo' hi' mx' K := by rw [h1, h2, h3, h4]
@[congr] theorem appW_c (h1 : x = x') (h2 : h = h') (h3 : y = y') : appW P t x y h K2 = appW P t x' y' h' K2 := by rw [h1, h2, h3]
@[congr] theorem appBW_c (h1 : x = x') (h2 : h = h') (h3 : y = y') : appBW P t x y h K2 = appBW P t x' y' h' K2 := by rw [h1, h2, h3]
@[congr] theorem lenW_c (h1 : x = x') : lenW P t x K = lenW P t x' K := by rw [h1]
@[congr] theorem idxAW_c (h1 : x = x') (h2 : y = y') : idxAW P t x y K = idxAW P t x' y' K := by rw [h1, h2]
@[congr] theorem fldAW_c (h1 : x = x') : fldAW P t x n K = fldAW P t x' n K := by rw [h1]
@[congr] theorem partW_c (h1 : cs = cs') : partW P n m t cs K = partW P n m t cs' K := by rw [h1]
@[congr] theorem callW_c (h1 : x = x') (h2 : h = h') (h3 : args = args') : callW P x args h K2 = callW P x' args' h' K2 := by rw [h1, h2, h3]
@[congr] theorem runL_c (h1 : e = e') (h2 : h = h') : runL P bl ops r e h K3 = runL P bl ops r e' h' K3 := by rw [h1, h2]
@[congr] theorem regW_c (h1 : e = e') (h2 : h = h') (h3 : log = log') : regW P bl ops bf pl log e h K3 = regW P bl ops bf pl log' e' h' K3 := by rw [h1, h2, h3]
@[congr] theorem resV_c (h1 : e = e') (h2 : h = h') : resV P e h rv K = resV P e' h' rv K := by rw [h1, h2]
@[congr] theorem resL_c (h1 : e = e') (h2 : h = h') : resL P e h rs KL = resL P e' h' rs KL := by rw [h1, h2]
@[congr] theorem resW_c (h1 : e = e') (h2 : h = h') : resW P rs e h K2 = resW P rs e' h' K2 := by rw [h1, h2]
end
end Go.Eng
