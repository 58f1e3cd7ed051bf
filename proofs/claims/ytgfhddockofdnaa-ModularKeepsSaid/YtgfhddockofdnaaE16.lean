/- An engine, part 16: rows that grow by append. Over any program. -/
import Derived.Test.YtgfhddockofdnaaE15
set_option linter.unusedVariables false
set_option linter.unusedSimpArgs false
namespace Go.Eng
open Go.RowKit (Below)

/-- A row that is appended to: nil, or begun under the number κ. -/
def accO (κ : Nat) (xs : List AV) : AV := match xs with
  | [] => .nils
  | x :: r => .tree 1 (x :: r) (.own κ)
def AccOk (κ : Nat) (xs : List AV) (H : AH) : Prop := xs = [] ∨ (κ < H.k ∧ H.gr κ = xs.length)
/-- Only the row κ has grown. -/
structure Grew (κ : Nat) (H H' : AH) : Prop where
  n : H'.n = H.n
  f : H'.f = H.f
  k : H.k ≤ H'.k
  gr : ∀ q, q < H.k → q ≠ κ → H'.gr q = H.gr q
theorem accO_nil (κ : Nat) : accO κ [] = .nils := rfl
theorem accO_cons {κ : Nat} {xs : List AV} (h : xs ≠ []) : accO κ xs = .tree 1 xs (.own κ) := by
  cases xs with
  | nil => exact absurd rfl h
  | cons x r => rfl
theorem accOk_nil (κ : Nat) (H : AH) : AccOk κ [] H := .inl rfl
theorem AccOk.keep {κ q : Nat} {xs : List AV} {H H' : AH} (h : AccOk κ xs H) (g : Grew q H H') (hq : κ ≠ q) : AccOk κ xs H' := by
  rcases h with h | ⟨h1, h2⟩
  · exact .inl h
  · exact .inr ⟨Nat.lt_of_lt_of_le h1 g.k, by rw [g.gr κ h1 hq]; exact h2⟩
theorem AccOk.ext {κ : Nat} {xs : List AV} {H H' : AH} (h : AccOk κ xs H) (e : Ext H H') : AccOk κ xs H' := by
  rcases h with h | ⟨h1, h2⟩
  · exact .inl h
  · exact .inr ⟨Nat.lt_of_lt_of_le h1 e.k, by rw [e.gr κ h1]; exact h2⟩
theorem Grew.ext {κ : Nat} {h H H' : AH} (he : Ext h H) (g : Grew κ H H') (hk : h.k ≤ κ) : Ext h H' :=
  ⟨by rw [g.n]; exact he.n, Nat.le_trans he.k g.k, fun b hb => by rw [g.f]; exact he.f b hb, fun q hq => by rw [g.gr q (Nat.lt_of_lt_of_le hq he.k) (by omega)]; exact he.gr q hq⟩

theorem app_acc {P : Program} {t : TypeId} {H : AH} {κ : Nat} {xs ys : List AV} {g : Gr} {K : AV → AH → Prop} {e by_ : Nat} {z : AV} (hok : AccOk κ xs H) (hys : ys ≠ []) (he : elT P t = some e) (hs : szT P e = some 1) (hb : byT P e = some by_) (hz : zrT P e = some z) (hm : memA z = true) (hzl : (cellsA z).length = 1)
    (h1 : xs.length + ys.length ≤ 1073741824) (h2 : by_ ≤ 64) (hK : ∀ κ' H', AccOk κ' (xs ++ ys) H' → (xs ≠ [] → κ' = κ) → (xs = [] → κ' = H.k) → Grew κ' H H' → K (accO κ' (xs ++ ys)) H') : appW P t (accO κ xs) (.tree 1 ys g) H K := by
  have hbig : (xs.length + ys.length) * by_ ≤ 140737488355328 := Nat.le_trans (Nat.mul_le_mul h1 h2) (by omega)
  refine ⟨e, 1, by_, z, he, hs, hb, hz, hm, hzl, Nat.one_pos, rfl, hys, ?_⟩
  cases xs with
  | nil =>
    simp only [accO, List.nil_append, List.length_nil, Nat.zero_add] at h1 hbig hK ⊢
    refine ⟨by omega, hbig, ?_⟩
    have := hK H.k (H.begun ys.length) (.inr ⟨by show H.k < H.k + 1; omega, by simp [AH.begun, upd]⟩) (fun h => absurd rfl h) (fun _ => rfl) ⟨rfl, rfl, by show H.k ≤ H.k + 1; omega, fun q hq hne => by simp [AH.begun, upd, hne]⟩
    rw [← accO_cons hys]
    exact this
  | cons x r =>
    rcases hok with hok | ⟨hok1, hok2⟩
    · cases hok
    · simp only [accO]
      refine ⟨trivial, hok2, by simp only [List.length_cons] at h1 ⊢; omega, hbig, ?_⟩
      exact hK κ (H.grown κ ((x :: r).length + ys.length)) (.inr ⟨hok1, by simp [AH.grown, upd]; omega⟩) (fun _ => rfl) (fun h => by cases h) ⟨rfl, rfl, Nat.le_refl _, fun q hq hne => by simp [AH.grown, upd, hne]⟩

theorem roA_acc (κ : Nat) (r : List Int) (hr : r ≠ []) : roA (accO κ (r.map (AV.int .i64))) = rowV r := by
  rw [accO_cons (by simpa using hr)]; simp only [roA, rowV]
theorem pur_accO (κ : Nat) (xs : List AV) : pur (accO κ xs) = true := by cases xs <;> simp [accO, pur]
theorem memA_accO (κ : Nat) (xs : List AV) : memA (accO κ xs) = true := by cases xs <;> rfl
theorem cells_accO (κ : Nat) (xs : List AV) : cellsA (accO κ xs) = [accO κ xs] := by cases xs <;> rfl
theorem oneA_accO (κ : Nat) (xs : List AV) : oneA (accO κ xs) = true := by cases xs <;> rfl
theorem len_accO {P : Program} {t : TypeId} {K : AV → Prop} (κ : Nat) (xs : List AV) : lenW P t (accO κ xs) K = (knT P t = some 3 ∧ K (.int .i64 (xs.length : Int))) := by
  cases xs <;> simp [lenW, accO]
theorem up_accO (κ : Nat) (xs : List AV) : Up (accO κ xs) (.tree 1 xs .ro) := by
  cases xs with
  | nil => exact Up.nils_ 1
  | cons x r => exact Up.ro_ _ _ _
theorem map_snoc {α β : Type} (f : α → β) (l : List α) (x : α) : l.map f ++ [f x] = (l ++ [x]).map f := by simp

/-- The memory stays: what a function handed out leads to nothing that is written. -/
theorem ACalls.still {P : Program} {f : FuncId} {args : List AV} {h : AH} {u : AV} (hc : ACalls P f args h (fun v h' => Up (roA v) u ∧ pur v = true ∧ Ext h h')) : ACalls P f args h (fun v h' => v = u ∧ h' = h) := fun ρ w argc hR hL =>
  Calls.mono (hc ρ w argc hR hL) fun e w' he => by
    cases e with
    | returned vc =>
      obtain ⟨ρ', v, h', h1, h2, h3, hup, h5, h6⟩ := he
      obtain ⟨k1, k2⟩ := hR.cut h1 h2 h6
      exact ⟨_, u, h, k2, k1, hup _ _ (.pure _ _ (show PV ρ'.prot _ _ from pure_RV h3 h5)), rfl, rfl⟩
    | panicked c => exact he
    | outgrown => exact he
theorem int_snoc (r : List Int) (x : Int) : r.map (AV.int .i64) ++ [AV.int .i64 x] = (r ++ [x]).map (AV.int .i64) := by simp
theorem row_snoc (R : List (List Int)) (r : List Int) : R.map rowV ++ [rowV r] = (R ++ [r]).map rowV := by simp
theorem roA_acc' (κ : Nat) (r : List Int) (hr : 0 < r.length) : roA (accO κ (r.map (AV.int .i64))) = rowV r := roA_acc κ r (by intro h; subst h; simp at hr)
theorem Up.accM (κ : Nat) (R : List (List Int)) : Up (roA (accO κ (R.map rowV))) (matV R) := by
  cases R with
  | nil => exact Up.nils_ 1
  | cons x r => simp only [List.map_cons, accO, roA]; exact Up.refl _
theorem Up.accI (κ : Nat) (R : List Int) : Up (roA (accO κ (R.map (AV.int .i64)))) (rowV R) := by
  cases R with
  | nil => exact Up.nils_ 1
  | cons x r => simp only [List.map_cons, accO, roA]; exact Up.refl _
theorem take_snoc {α β : Type} (f : α → β) (l : List α) (d : α) {R : List β} (hl : R.length < l.length) (hR : R = (l.take R.length).map f) : R ++ [f (l.getD R.length d)] = (l.take (R.length + 1)).map f := by
  have e : l.getD R.length d = l[R.length] := by simp [List.getD_eq_getElem?_getD, hl]
  rw [e, List.take_add_one, List.getElem?_eq_getElem hl, Option.toList_some, List.map_append, ← hR, List.map_singleton]
end Go.Eng
