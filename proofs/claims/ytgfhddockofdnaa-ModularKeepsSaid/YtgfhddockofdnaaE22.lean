/- What echelon's result is like; what Kernel computes. No program in sight. -/
import Derived.Test.YtgfhddockofdnaaE21
set_option linter.unusedVariables false
set_option linter.unusedSimpArgs false
namespace Go.Eng

theorem fnzG_le (A : List (List Int)) (c : Nat) : ∀ n i, fnzG A c n i ≤ i + n ∧ i ≤ fnzG A c n i
  | 0, i => ⟨Nat.le_refl _, Nat.le_refl _⟩
  | n + 1, i => by
    simp only [fnzG]
    split
    · have := fnzG_le A c n (i + 1); omega
    · omega
theorem fnz_le (A : List (List Int)) {c top : Nat} (h : top ≤ A.length) : fnz A c top ≤ A.length ∧ top ≤ fnz A c top := by
  have := fnzG_le A c (A.length - top) top
  unfold fnz; omega
theorem fnzG_spec (A : List (List Int)) (c : Nat) : ∀ n i, (∀ j, i ≤ j → j < fnzG A c n i → (A.getD j []).getD c 0 = 0) ∧ (fnzG A c n i < i + n → (A.getD (fnzG A c n i) []).getD c 0 ≠ 0)
  | 0, i => ⟨fun j h1 h2 => by simp only [fnzG] at h2; omega, fun h => by simp only [fnzG] at h; omega⟩
  | n + 1, i => by
    simp only [fnzG]
    split
    · rename_i hz
      have := fnzG_spec A c n (i + 1)
      refine ⟨fun j h1 h2 => ?_, fun h => this.2 (by omega)⟩
      by_cases hj : j = i
      · rw [hj]; exact hz
      · exact this.1 j (by omega) h2
    · rename_i hz
      exact ⟨fun j h1 h2 => by omega, fun _ => hz⟩
theorem fnz_spec (A : List (List Int)) {c top : Nat} (h : top ≤ A.length) : (∀ j, top ≤ j → j < fnz A c top → (A.getD j []).getD c 0 = 0) ∧ (fnz A c top < A.length → (A.getD (fnz A c top) []).getD c 0 ≠ 0) := by
  have := fnzG_spec A c (A.length - top) top
  unfold fnz
  exact ⟨this.1, fun hlt => this.2 (by omega)⟩

/-- What holds at the start and is kept by each column holds at the end. -/
theorem echL_ind {p : Int} {m : Nat} (I : List (List Int) → Nat → Nat → List Int → Prop)
    (skip : ∀ A top c piv, I A top c piv → c < m → top < A.length → fnz A c top = A.length → I A top (c + 1) piv)
    (go : ∀ A top c piv, I A top c piv → c < m → top < A.length → fnz A c top < A.length → I (echStep p m A top c (fnz A c top)) (top + 1) (c + 1) (piv ++ [(c : Int)])) :
    ∀ n A top c piv, n + c = m → top ≤ A.length → I A top c piv → ∃ c', c ≤ c' ∧ c' ≤ m ∧ I (echL p m n A top c piv).1 (echL p m n A top c piv).2.1 c' (echL p m n A top c piv).2.2 ∧ (c' = m ∨ ¬ (echL p m n A top c piv).2.1 < (echL p m n A top c piv).1.length)
  | 0, A, top, c, piv, hn, ht, h => ⟨c, Nat.le_refl _, by omega, h, .inl (by omega)⟩
  | n + 1, A, top, c, piv, hn, ht, h => by
    simp only [echL]
    by_cases htl : top < A.length
    · rw [if_pos htl]
      by_cases hf : fnz A c top = A.length
      · rw [if_pos hf]
        obtain ⟨c', h1, h2, h3⟩ := echL_ind I skip go n A top (c + 1) piv (by omega) ht (skip A top c piv h (by omega) htl hf)
        exact ⟨c', by omega, h2, h3⟩
      · rw [if_neg hf]
        have hl := (fnz_le A (c := c) ht).1
        have hlen : (echStep p m A top c (fnz A c top)).length = A.length := by
          unfold echStep; rw [elim_length (by rw [scaled, List.length_set, swp_length]; exact Nat.le_refl _), scaled, List.length_set, swp_length]
        obtain ⟨c', h1, h2, h3⟩ := echL_ind I skip go n _ (top + 1) (c + 1) (piv ++ [(c : Int)]) (by omega) (by rw [hlen]; omega) (go A top c piv h (by omega) htl (by omega))
        exact ⟨c', by omega, h2, h3⟩
    · rw [if_neg htl]
      exact ⟨c, Nat.le_refl _, by omega, h, .inr htl⟩

theorem invF_rng (a : Int) {m : Int} (hm : 2 ≤ m) : 0 ≤ invF a m ∧ invF a m < m := by
  unfold invF
  cases hL : invL a m with
  | none => simp only [Option.getD_none]; omega
  | some y =>
    have h6 := List.mem_range.1 (List.mem_of_find?_eq_some hL)
    simp only [Option.getD_some]; omega
theorem echStep_length (p : Int) (m : Nat) (A : List (List Int)) (top c i : Nat) : (echStep p m A top c i).length = A.length := by
  unfold echStep; rw [elim_length (by rw [scaled, List.length_set, swp_length]; exact Nat.le_refl _), scaled, List.length_set, swp_length]
theorem scaled_wid {p : Int} {m : Nat} {A : List (List Int)} {top c : Nat} (hw : Wid m A) : Wid m (scaled A top c m p) := hw.set _ (by simp [scaleR])
theorem scaled_in {p : Int} (hp : 0 < p) {m : Nat} {A : List (List Int)} {top c : Nat} (hw : InR p m A) : InR p m (scaled A top c m p) := hw.set _ fun j hj => by
  rw [scaleR, map_range_get _ hj]; exact ⟨Int.emod_nonneg _ (by omega), Int.emod_lt_of_pos _ hp⟩
theorem scaled_length {p : Int} {m : Nat} {A : List (List Int)} {top c : Nat} : (scaled A top c m p).length = A.length := by rw [scaled, List.length_set]
theorem echStep_wid {p : Int} {m : Nat} {A : List (List Int)} {top c i : Nat} (hw : Wid m A) (ht : top < A.length) (hi : i < A.length) : Wid m (echStep p m A top c i) :=
  elim_wid (scaled_wid (hw.swp ht hi)) (by rw [scaled_length, swp_length]; exact Nat.le_refl _)
theorem echStep_in {p : Int} (hp : 0 < p) {m : Nat} {A : List (List Int)} {top c i : Nat} (hw : InR p m A) (ht : top < A.length) (hi : i < A.length) : InR p m (echStep p m A top c i) :=
  elim_in hp (scaled_in hp (hw.swp ht hi)) (by rw [scaled_length, swp_length]; exact Nat.le_refl _)

/-- The plain facts on the result. -/
structure EchOk (p : Int) (m n : Nat) (A : List (List Int)) (top : Nat) (piv : List Int) : Prop where
  len : A.length = n
  tn : top ≤ n
  pl : piv.length = top
  wid : Wid m A
  rng : InR p m A
  pb : ∀ i, i < piv.length → 0 ≤ piv.getD i 0 ∧ piv.getD i 0 < m
theorem echA_ok {p : Int} (hp : 0 < p) {m : Nat} {A : List (List Int)} (hw : Wid m A) (hr : InR p m A) (h1 : 1 ≤ A.length) : EchOk p m A.length (echA p A).1 (echA p A).2.1 (echA p A).2.2 := by
  have hm : (A.getD 0 []).length = m := hw 0 (by omega)
  unfold echA
  rw [hm]
  obtain ⟨c', -, h2, h3, -⟩ := echL_ind (p := p) (m := m) (fun B top c piv => B.length = A.length ∧ top ≤ A.length ∧ piv.length = top ∧ Wid m B ∧ InR p m B ∧ ∀ i, i < piv.length → 0 ≤ piv.getD i 0 ∧ piv.getD i 0 < c)
    (fun B top c piv h hc ht hf => ⟨h.1, h.2.1, h.2.2.1, h.2.2.2.1, h.2.2.2.2.1, fun i hi => by have := h.2.2.2.2.2 i hi; omega⟩)
    (fun B top c piv h hc ht hf => ⟨by rw [echStep_length]; exact h.1, by omega, by rw [List.length_append, h.2.2.1]; rfl, echStep_wid h.2.2.2.1 ht hf, echStep_in hp h.2.2.2.2.1 ht hf, fun i hi => by
      rw [List.length_append, List.length_singleton] at hi
      by_cases hi2 : i < piv.length
      · have := h.2.2.2.2.2 i hi2
        rw [List.getD_eq_getElem?_getD, List.getElem?_append_left hi2, ← List.getD_eq_getElem?_getD]
        omega
      · have hie : i = piv.length := by omega
        subst hie
        simp [List.getD_eq_getElem?_getD]
        omega⟩)
    m A 0 0 [] (by omega) (Nat.zero_le _) ⟨rfl, Nat.zero_le _, rfl, hw, hr, fun i hi => absurd hi (Nat.not_lt_zero _)⟩
  exact ⟨h3.1, h3.2.1, h3.2.2.1, h3.2.2.2.1, h3.2.2.2.2.1, fun i hi => by have := h3.2.2.2.2.2 i hi; omega⟩

/-! ### rows of bits -/
theorem getD_bool (r : List Bool) (i : Nat) (hi : i < r.length) : (r.map AV.bool).getD i .junk = .bool (r.getD i false) := by
  simp [List.getD_eq_getElem?_getD, hi]
theorem set_bool (r : List Bool) (j : Nat) (v : Bool) : (r.map AV.bool).set j (.bool v) = (r.set j v).map AV.bool := by rw [List.map_set]
theorem copies_false (n : Nat) : copies [AV.bool false] n = (List.replicate n false).map AV.bool := by rw [copies_one, List.map_replicate]
attribute [go_sem] getD_bool set_bool copies_false

/-! ### the kernel -/
/-- Which columns are among the first k pivots. -/
def pvB (piv : List Int) (n : Nat) : Nat → List Bool
  | 0 => List.replicate n false
  | k + 1 => (pvB piv n k).set (piv.getD k 0).toNat true
theorem pvB_length (piv : List Int) (n : Nat) : ∀ k, (pvB piv n k).length = n
  | 0 => by simp [pvB]
  | k + 1 => by simp [pvB, pvB_length piv n k]
/-- The row for the column c, after i pivots. -/
def kerR (rows : List (List Int)) (piv : List Int) (n : Nat) (p : Int) (c : Nat) : Nat → List Int
  | 0 => (List.replicate n 0).set c 1
  | i + 1 => (kerR rows piv n p c i).set (piv.getD i 0).toNat ((-(rows.getD i []).getD c 0) % p)
theorem kerR_length (rows : List (List Int)) (piv : List Int) (n : Nat) (p : Int) (c : Nat) : ∀ i, (kerR rows piv n p c i).length = n
  | 0 => by simp [kerR]
  | i + 1 => by simp [kerR, kerR_length rows piv n p c i]
/-- The rows for the first c columns. -/
def kerB (rows : List (List Int)) (piv : List Int) (n : Nat) (p : Int) : Nat → List (List Int)
  | 0 => []
  | c + 1 => if (pvB piv n piv.length).getD c false = true then kerB rows piv n p c else kerB rows piv n p c ++ [kerR rows piv n p c piv.length]
theorem kerR_in {rows : List (List Int)} {piv : List Int} {n : Nat} {p : Int} (hp : 2 ≤ p) (c : Nat) : ∀ i j, 0 ≤ (kerR rows piv n p c i).getD j 0 ∧ (kerR rows piv n p c i).getD j 0 < p
  | 0, j => by
    simp only [kerR, List.getD_eq_getElem?_getD, List.getElem?_set]
    split
    · split
      · simp; omega
      · simp; omega
    · rw [List.getElem?_replicate]
      split <;> simp <;> omega
  | i + 1, j => by
    simp only [kerR, List.getD_eq_getElem?_getD, List.getElem?_set]
    split
    · split
      · exact ⟨Int.emod_nonneg _ (by omega), Int.emod_lt_of_pos _ (by omega)⟩
      · simp; omega
    · rw [← List.getD_eq_getElem?_getD]; exact kerR_in hp c i j
theorem kerB_row {rows : List (List Int)} {piv : List Int} {n : Nat} {p : Int} : ∀ c r, r ∈ kerB rows piv n p c → ∃ b, r = kerR rows piv n p b piv.length
  | 0, r, h => by simp [kerB] at h
  | c + 1, r, h => by
    simp only [kerB] at h
    split at h
    · exact kerB_row c r h
    · rcases List.mem_append.1 h with h | h
      · exact kerB_row c r h
      · exact ⟨c, by simpa using h⟩
theorem mem_getD {A : List (List Int)} {i : Nat} (hi : i < A.length) : A.getD i [] ∈ A := by
  rw [List.getD_eq_getElem?_getD, List.getElem?_eq_getElem hi]; exact List.getElem_mem hi
theorem kerB_wid {rows : List (List Int)} {piv : List Int} {n : Nat} {p : Int} (c : Nat) : Wid n (kerB rows piv n p c) := fun i hi => by
  obtain ⟨b, hb⟩ := kerB_row c _ (mem_getD hi)
  rw [hb, kerR_length]
theorem kerB_in {rows : List (List Int)} {piv : List Int} {n : Nat} {p : Int} (hp : 2 ≤ p) (c : Nat) : InR p n (kerB rows piv n p c) := fun i j hi hj => by
  obtain ⟨b, hb⟩ := kerB_row c _ (mem_getD hi)
  rw [hb]; exact kerR_in hp _ _ _
theorem kerB_length {rows : List (List Int)} {piv : List Int} {n : Nat} {p : Int} : ∀ c, (kerB rows piv n p c).length ≤ c
  | 0 => by simp [kerB]
  | c + 1 => by
    have := kerB_length (rows := rows) (piv := piv) (n := n) (p := p) c
    simp only [kerB]
    split
    · omega
    · simp; omega
end Go.Eng
