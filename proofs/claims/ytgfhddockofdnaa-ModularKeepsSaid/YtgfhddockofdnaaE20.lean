/- What echelon computes. No program in sight. -/
import Derived.Test.YtgfhddockofdnaaE19
set_option linter.unusedVariables false
set_option linter.unusedSimpArgs false
namespace Go.Eng

/-- Entries are remainders. -/
def InR (p : Int) (m : Nat) (A : List (List Int)) : Prop := ∀ i j, i < A.length → j < m → 0 ≤ (A.getD i []).getD j 0 ∧ (A.getD i []).getD j 0 < p
/-- All rows are m long. -/
def Wid (m : Nat) (A : List (List Int)) : Prop := ∀ i, i < A.length → (A.getD i []).length = m

theorem map_range_get (f : Nat → Int) {m j : Nat} (hj : j < m) : ((List.range m).map f).getD j 0 = f j := by simp [List.getD_eq_getElem?_getD, hj]
theorem map_range_getL (f : Nat → List Int) {m j : Nat} (hj : j < m) : ((List.range m).map f).getD j [] = f j := by simp [List.getD_eq_getElem?_getD, hj]

theorem InR.swp {p : Int} {m : Nat} {A : List (List Int)} (h : InR p m A) {i j : Nat} (hi : i < A.length) (hj : j < A.length) : InR p m (swp [] A i j) := fun a b ha hb => by
  rw [swp_length] at ha
  rw [swp_get [] A hi hj]
  exact h _ b (sw_lt hi hj ha) hb
theorem Wid.swp {m : Nat} {A : List (List Int)} (h : Wid m A) {i j : Nat} (hi : i < A.length) (hj : j < A.length) : Wid m (swp [] A i j) := fun a ha => by
  rw [swp_length] at ha
  rw [swp_get [] A hi hj]
  exact h _ (sw_lt hi hj ha)
theorem InR.set {p : Int} {m : Nat} {A : List (List Int)} (h : InR p m A) (i : Nat) {r : List Int} (hr : ∀ j, j < m → 0 ≤ r.getD j 0 ∧ r.getD j 0 < p) : InR p m (A.set i r) := fun a b ha hb => by
  rw [List.length_set] at ha
  by_cases hai : a = i
  · subst hai; rw [getD_setM _ _ _ ha]; exact hr b hb
  · rw [getD_setNe [] A r hai]; exact h a b ha hb
theorem Wid.set {m : Nat} {A : List (List Int)} (h : Wid m A) (i : Nat) {r : List Int} (hr : r.length = m) : Wid m (A.set i r) := fun a ha => by
  rw [List.length_set] at ha
  by_cases hai : a = i
  · subst hai; rw [getD_setM _ _ _ ha]; exact hr
  · rw [getD_setNe [] A r hai]; exact h a ha

/-- The inverse of a number, 0 if there is none. -/
def invL (a m : Int) : Option Nat := (List.range m.toNat).find? fun x => a * (x : Int) % m == 1
def invF (a m : Int) : Int := ((invL a m).getD 0 : Nat)
def invB (a m : Int) : Bool := (invL a m).isSome

/-- The first row from i on that is not 0 in the column c. -/
def fnzG (A : List (List Int)) (c : Nat) : Nat → Nat → Nat
  | 0, i => i
  | n + 1, i => if (A.getD i []).getD c 0 = 0 then fnzG A c n (i + 1) else i
def fnz (A : List (List Int)) (c top : Nat) : Nat := fnzG A c (A.length - top) top
theorem fnzG_zero {A : List (List Int)} {c i : Nat} (hi : i < A.length) (h : (A.getD i []).getD c 0 = 0) : fnzG A c (A.length - i) i = fnzG A c (A.length - (i + 1)) (i + 1) := by
  have e : A.length - i = (A.length - (i + 1)) + 1 := by omega
  rw [e]; simp only [fnzG, if_pos h]
theorem fnzG_here {A : List (List Int)} {c i : Nat} (hi : i < A.length) (h : (A.getD i []).getD c 0 ≠ 0) : fnzG A c (A.length - i) i = i := by
  have e : A.length - i = (A.length - (i + 1)) + 1 := by omega
  rw [e]; simp only [fnzG, if_neg h]
theorem fnzG_end {A : List (List Int)} {c i : Nat} (hi : i = A.length) : fnzG A c (A.length - i) i = i := by
  have e : A.length - i = 0 := by omega
  rw [e]; rfl

def scaleF (r : List Int) (f p : Int) (k : Nat) : Int := r.getD k 0 * f % p
def scaleR (r : List Int) (m : Nat) (f p : Int) : List Int := (List.range m).map (scaleF r f p)
def subG (Y X : List Int) (f p : Int) (k : Nat) : Int := (Y.getD k 0 - f * X.getD k 0 % p) % p
def elimRow (A : List (List Int)) (top c m : Nat) (p : Int) (i : Nat) : List Int :=
  if i = top then A.getD i [] else if (A.getD i []).getD c 0 = 0 then A.getD i [] else (List.range m).map (subG (A.getD i []) (A.getD top []) ((A.getD i []).getD c 0) p)
/-- The first n rows are done. -/
def elimM (A : List (List Int)) (top c m : Nat) (p : Int) (n : Nat) : List (List Int) := (List.range n).map (elimRow A top c m p) ++ A.drop n

section
variable {A : List (List Int)} {top c m : Nat} {p : Int}
theorem elim_zero : elimM A top c m p 0 = A := by simp [elimM]
theorem elim_length {n : Nat} (hn : n ≤ A.length) : (elimM A top c m p n).length = A.length := by simp [elimM]; omega
theorem elim_lt {n i : Nat} (hi : i < n) : (elimM A top c m p n).getD i [] = elimRow A top c m p i := by
  simp only [elimM, List.getD_eq_getElem?_getD]
  rw [List.getElem?_append_left (by simp; omega)]
  simp [hi]
theorem elim_ge {n i : Nat} (hi : n ≤ i) : (elimM A top c m p n).getD i [] = A.getD i [] := by
  have h1 : ((List.range n).map (elimRow A top c m p)).length = n := by simp
  simp only [elimM, List.getD_eq_getElem?_getD]
  rw [List.getElem?_append_right (by simp; omega), h1, List.getElem?_drop]
  congr 2
  omega
theorem elim_top {n : Nat} : (elimM A top c m p n).getD top [] = A.getD top [] := by
  by_cases h : top < n
  · rw [elim_lt h]; simp [elimRow]
  · exact elim_ge (by omega)
theorem elim_set {n : Nat} (hn : n < A.length) : (elimM A top c m p n).set n (elimRow A top c m p n) = elimM A top c m p (n + 1) := by
  have h1 : ((List.range n).map (elimRow A top c m p)).length = n := by simp
  have h2 : A.drop n = A[n] :: A.drop (n + 1) := List.drop_eq_getElem_cons hn
  have h3 : (List.range (n + 1)).map (elimRow A top c m p) = (List.range n).map (elimRow A top c m p) ++ [elimRow A top c m p n] := by simp [List.range_succ]
  unfold elimM
  rw [List.set_append_right _ _ (by simp), h1, Nat.sub_self, h2, h3, List.append_assoc]
  rfl
theorem elim_same {n : Nat} (hn : n < A.length) (h : elimRow A top c m p n = A.getD n []) : elimM A top c m p (n + 1) = elimM A top c m p n := by
  rw [← elim_set hn, h]
  have h1 : ((List.range n).map (elimRow A top c m p)).length = n := by simp
  have h2 : A.drop n = A[n] :: A.drop (n + 1) := List.drop_eq_getElem_cons hn
  have h4 : A.getD n [] = A[n] := by simp [List.getD_eq_getElem?_getD, hn]
  unfold elimM
  rw [List.set_append_right _ _ (by simp), h1, Nat.sub_self, h2, h4]
  rfl
theorem elimRow_length (hw : Wid m A) {i : Nat} (hi : i < A.length) : (elimRow A top c m p i).length = m := by
  unfold elimRow
  split
  · exact hw i hi
  · split
    · exact hw i hi
    · simp
theorem elimRow_in (hp : 0 < p) (hb : InR p m A) {i j : Nat} (hi : i < A.length) (hj : j < m) : 0 ≤ (elimRow A top c m p i).getD j 0 ∧ (elimRow A top c m p i).getD j 0 < p := by
  unfold elimRow
  split
  · exact hb i j hi hj
  · split
    · exact hb i j hi hj
    · rw [map_range_get _ hj]
      exact ⟨Int.emod_nonneg _ (by omega), Int.emod_lt_of_pos _ hp⟩
theorem elim_wid (hw : Wid m A) {n : Nat} (hn : n ≤ A.length) : Wid m (elimM A top c m p n) := fun i hi => by
  rw [elim_length hn] at hi
  by_cases h : i < n
  · rw [elim_lt h]; exact elimRow_length hw hi
  · rw [elim_ge (by omega)]; exact hw i hi
theorem elim_in (hp : 0 < p) (hb : InR p m A) {n : Nat} (hn : n ≤ A.length) : InR p m (elimM A top c m p n) := fun i j hi hj => by
  rw [elim_length hn] at hi
  by_cases h : i < n
  · rw [elim_lt h]; exact elimRow_in hp hb hi hj
  · rw [elim_ge (by omega)]; exact hb i j hi hj
end

def scaled (A1 : List (List Int)) (top c m : Nat) (p : Int) : List (List Int) := A1.set top (scaleR (A1.getD top []) m (invF ((A1.getD top []).getD c 0) p) p)
def echStep (p : Int) (m : Nat) (A : List (List Int)) (top c i : Nat) : List (List Int) := elimM (scaled (swp [] A top i) top c m p) top c m p A.length
def echL (p : Int) (m : Nat) : Nat → List (List Int) → Nat → Nat → List Int → List (List Int) × Nat × List Int
  | 0, A, top, _, piv => (A, top, piv)
  | n + 1, A, top, c, piv => if top < A.length then
      (if fnz A c top = A.length then echL p m n A top (c + 1) piv else echL p m n (echStep p m A top c (fnz A c top)) (top + 1) (c + 1) (piv ++ [(c : Int)]))
    else (A, top, piv)
/-- The rows, the number of those that are not 0, and the pivots. -/
def echA (p : Int) (A : List (List Int)) : List (List Int) × Nat × List Int := echL p (A.getD 0 []).length (A.getD 0 []).length A 0 0 []
theorem ech_stop {p : Int} {m : Nat} {A : List (List Int)} {top c : Nat} {piv : List Int} (h : c = m ∨ ¬ top < A.length) : echL p m (m - c) A top c piv = (A, top, piv) := by
  cases hx : m - c with
  | zero => rfl
  | succ n =>
    have h2 : ¬ top < A.length := by omega
    simp only [echL, if_neg h2]
theorem ech_skip {p : Int} {m : Nat} {A : List (List Int)} {top c : Nat} {piv : List Int} (hc : c < m) (ht : top < A.length) (h : fnz A c top = A.length) : echL p m (m - c) A top c piv = echL p m (m - (c + 1)) A top (c + 1) piv := by
  have e : m - c = (m - (c + 1)) + 1 := by omega
  rw [e]; simp only [echL, if_pos ht, if_pos h]
theorem ech_go {p : Int} {m : Nat} {A : List (List Int)} {top c i : Nat} {piv : List Int} (hc : c < m) (ht : top < A.length) (h : fnz A c top = i) (hi : i < A.length) : echL p m (m - c) A top c piv = echL p m (m - (c + 1)) (echStep p m A top c i) (top + 1) (c + 1) (piv ++ [(c : Int)]) := by
  have e : m - c = (m - (c + 1)) + 1 := by omega
  subst h
  rw [e]; simp only [echL, if_pos ht, if_neg (show ¬ fnz A c top = A.length by omega)]
theorem set_same {A : List (List Int)} {i : Nat} (hi : i < A.length) : A.set i (A.getD i []) = A := by
  have : A.getD i [] = A[i] := by simp [List.getD_eq_getElem?_getD, hi]
  rw [this, List.set_getElem_self]
end Go.Eng
