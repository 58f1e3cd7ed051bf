/- An engine, part 15: a matrix that is made and filled row by row. Over any program. -/
import Derived.Test.YtgfhddockofdnaaE14
set_option linter.unusedVariables false
set_option linter.unusedSimpArgs false
namespace Go.Eng
open Go.RowKit (Below)

theorem copies_nils (n : Nat) : copies [AV.nils] n = List.replicate n .nils := copies_one _ n
theorem copies_zero (n : Nat) : copies [AV.int .i64 0] n = (List.replicate n (0 : Int)).map (AV.int .i64) := by rw [copies_one, List.map_replicate]
theorem mk_ne (h : AH) (x : List AV) {b : Nat} (hb : b ≠ h.n) : (h.mk_ x).f b = h.f b := upd_ne _ _ hb
theorem mk_n (h : AH) (x : List AV) : (h.mk_ x).n = h.n + 1 := rfl
theorem put_n (h : AH) (b : Nat) (x : List AV) : (h.put b x).n = h.n := rfl

/-- The rows' block O: the first i rows are there. -/
def pmC (O m i n : Nat) : List AV := (List.range n).map fun j => if j < i then .bsl (O + 1 + j) 0 m .full else .nils
/-- n rows of m numbers each, those of R are there: the block of the rows is h.n, the row j lies in h.n + 1 + j. -/
def pmH (h : AH) (n m : Nat) (R : List (List Int)) : AH :=
  { h with f := fun b => if b = h.n then some (pmC h.n m R.length n) else if h.n < b ∧ b < h.n + 1 + R.length then some ((R.getD (b - h.n - 1) []).map (AV.int .i64)) else h.f b, n := h.n + 1 + R.length }

section
variable {h : AH} {n m : Nat} {R : List (List Int)}
theorem pmC_length (O i : Nat) : (pmC O m i n).length = n := by simp [pmC]
theorem pmC_get {O i k : Nat} (h1 : i < k) (h2 : i < n) : (pmC O m k n).getD i .junk = .bsl (O + 1 + i) 0 m .full := by
  simp [pmC, List.getD_eq_getElem?_getD, h1, h2]
theorem pmC_set {O i : Nat} (h2 : i < n) : (pmC O m i n).set i (.bsl (O + 1 + i) 0 m .full) = pmC O m (i + 1) n := by
  refine List.ext_getElem? fun j => ?_
  by_cases hj : j < n
  · by_cases hij : i = j
    · subst hij
      rw [List.getElem?_set_self (by rw [pmC_length]; exact h2)]
      simp [pmC, h2]
    · rw [List.getElem?_set_ne hij]
      simp only [pmC, List.getElem?_map, List.getElem?_range hj, Option.map_some]
      by_cases h3 : j < i
      · rw [if_pos h3, if_pos (by omega)]
      · rw [if_neg h3, if_neg (by omega)]
  · rw [List.getElem?_eq_none (by rw [List.length_set, pmC_length]; omega), List.getElem?_eq_none (by rw [pmC_length]; omega)]
theorem pm_n : (pmH h n m R).n = h.n + 1 + R.length := rfl
theorem pm_O : (pmH h n m R).f h.n = some (pmC h.n m R.length n) := by simp [pmH]
theorem pm_zero : h.mk_ (List.replicate n .nils) = pmH h n m [] := by
  refine AH.ext_ (fun b => ?_) rfl (fun _ => rfl) rfl
  simp only [AH.mk_, pmH, upd, List.length_nil, Nat.add_zero]
  by_cases hb : b = h.n
  · rw [if_pos hb, if_pos hb]
    congr 1
    refine List.ext_getElem? fun j => ?_
    by_cases hj : j < n
    · simp [pmC, hj]
    · rw [List.getElem?_eq_none (by simp; omega), List.getElem?_eq_none (by rw [pmC_length]; omega)]
  · rw [if_neg hb, if_neg hb, if_neg (by omega)]
theorem pm_row {i : Nat} (hi : i < R.length) : (pmH h n m R).f (h.n + 1 + i) = some ((R.getD i []).map (AV.int .i64)) := by
  simp only [pmH]
  rw [if_neg (by omega), if_pos (by omega)]
  congr 3
  omega
theorem pm_put {i : Nat} (hi : i < R.length) (r : List Int) : (pmH h n m R).put (h.n + 1 + i) (r.map (AV.int .i64)) = pmH h n m (R.set i r) := by
  refine AH.ext_ (fun b => ?_) (by simp [AH.put, pmH]) (fun _ => rfl) rfl
  simp only [AH.put, pmH, List.length_set, upd]
  by_cases hb : b = h.n + 1 + i
  · subst hb
    rw [if_pos rfl, if_neg (by omega), if_pos (by omega)]
    have : h.n + 1 + i - h.n - 1 = i := by omega
    rw [this]
    simp [List.getD_eq_getElem?_getD, hi]
  · rw [if_neg hb]
    by_cases hO : b = h.n
    · rw [if_pos hO, if_pos hO]
    · rw [if_neg hO, if_neg hO]
      by_cases h3 : h.n < b ∧ b < h.n + 1 + R.length
      · rw [if_pos h3, if_pos h3]
        have : b - h.n - 1 ≠ i := by omega
        simp [List.getD_eq_getElem?_getD, List.getElem?_set_ne (Ne.symm this)]
      · rw [if_neg h3, if_neg h3]
/-- One row more. -/
theorem pm_add (hn : R.length < n) (r : List Int) : ((pmH h n m R).mk_ (r.map (AV.int .i64))).put h.n (pmC h.n m (R.length + 1) n) = pmH h n m (R ++ [r]) := by
  refine AH.ext_ (fun b => ?_) (by simp [AH.put, AH.mk_, pmH]; omega) (fun _ => rfl) rfl
  simp only [AH.put, AH.mk_, pmH, upd, List.length_append, List.length_cons, List.length_nil, Nat.zero_add]
  by_cases hO : b = h.n
  · rw [if_pos hO, if_pos hO]
  · rw [if_neg hO, if_neg hO]
    by_cases hb : b = h.n + 1 + R.length
    · rw [if_pos hb, if_neg hO, if_pos (by omega)]
      have : b - h.n - 1 = R.length := by omega
      rw [this]
      simp [List.getD_eq_getElem?_getD]
    · rw [if_neg hb, if_neg hO]
      by_cases h3 : h.n < b ∧ b < h.n + 1 + R.length
      · rw [if_pos h3, if_pos (by omega)]
        have : b - h.n - 1 < R.length := by omega
        simp [List.getD_eq_getElem?_getD, List.getElem?_append_left this]
      · rw [if_neg h3, if_neg (by omega)]

theorem pm_mk_O (x : List AV) : ((pmH h n m R).mk_ x).f h.n = some (pmC h.n m R.length n) := by
  rw [mk_ne _ _ (by rw [pm_n]; omega), pm_O]
theorem pm_more (hn : R.length < n) (r : List Int) : ((pmH h n m R).mk_ (r.map (AV.int .i64))).put h.n ((pmC h.n m R.length n).set R.length (.bsl (h.n + 1 + R.length) 0 m .full)) = pmH h n m (R ++ [r]) := by
  rw [pmC_set hn, pm_add hn]
theorem pm_last (r : List Int) : (pmH h n m (R ++ [r])).f (h.n + 1 + R.length) = some (r.map (AV.int .i64)) := by
  rw [pm_row (by simp)]
  simp [List.getD_eq_getElem?_getD]
theorem pm_lput (r r' : List Int) : (pmH h n m (R ++ [r])).put (h.n + 1 + R.length) (r'.map (AV.int .i64)) = pmH h n m (R ++ [r']) := by
  rw [pm_put (by simp)]
  simp

/-- A row that is filled from the left. -/
def fill (f : Int → Int) (row : List Int) (j : Nat) : List Int := (row.take j).map f ++ List.replicate (row.length - j) 0
theorem fill_length {f : Int → Int} {row : List Int} {j : Nat} (hj : j ≤ row.length) : (fill f row j).length = row.length := by
  simp [fill]; omega
theorem fill_zero (f : Int → Int) (row : List Int) : fill f row 0 = List.replicate row.length 0 := by simp [fill]
theorem fill_full (f : Int → Int) (row : List Int) : fill f row row.length = row.map f := by simp [fill]
theorem fill_set {f : Int → Int} {row : List Int} {j : Nat} (hj : j < row.length) : (fill f row j).set j (f (row.getD j 0)) = fill f row (j + 1) := by
  refine List.ext_getElem? fun k => ?_
  have h1 : ((row.take j).map f).length = j := by simp; omega
  by_cases hk : k < row.length
  · by_cases hkj : k = j
    · subst hkj
      rw [List.getElem?_set_self (by rw [fill_length (by omega)]; exact hk)]
      rw [fill, List.getElem?_append_left (by simp; omega)]
      simp [List.getD_eq_getElem?_getD, hk]
    · rw [List.getElem?_set_ne (Ne.symm hkj)]
      by_cases hlt : k < j
      · rw [fill, fill, List.getElem?_append_left (by simp; omega), List.getElem?_append_left (by simp; omega)]
        simp [List.getElem?_take, hlt, show k < j + 1 from by omega]
      · rw [fill, fill, List.getElem?_append_right (by simp; omega), List.getElem?_append_right (by simp; omega)]
        rw [List.getElem?_replicate, List.getElem?_replicate, if_pos (by simp; omega), if_pos (by simp; omega)]
  · rw [List.getElem?_eq_none (by rw [List.length_set, fill_length (by omega)]; omega), List.getElem?_eq_none (by rw [fill_length (by omega)]; omega)]

/-- The rows' names. -/
def idsOf (O n : Nat) : List Nat := (List.range n).map fun j => O + 1 + j
theorem idsOf_length (O n : Nat) : (idsOf O n).length = n := by simp [idsOf]
theorem idsOf_get {O n i : Nat} (hi : i < n) : (idsOf O n).getD i 0 = O + 1 + i := by simp [idsOf, List.getD_eq_getElem?_getD, hi]
theorem mem_idsOf {O n b : Nat} : b ∈ idsOf O n ↔ O < b ∧ b < O + 1 + n := by
  simp only [idsOf, List.mem_map, List.mem_range]
  constructor
  · rintro ⟨j, hj, rfl⟩; omega
  · intro hb; exact ⟨b - O - 1, by omega, by omega⟩
theorem idsOf_nodup (O n : Nat) : (idsOf O n).Nodup := by
  rw [List.nodup_iff_pairwise_ne, idsOf, List.pairwise_map]
  exact List.Pairwise.imp (fun hab h => by omega) List.pairwise_lt_range
theorem pm_ok (hr : ∀ r ∈ R, r.length = m) : MatOk h.n (idsOf h.n R.length) m R :=
  ⟨idsOf_nodup _ _, fun hm => by have := mem_idsOf.1 hm; omega, idsOf_length _ _, hr⟩

variable {ρ : Ip} {w : World}
theorem pm_mat (hr : ∀ r ∈ R, r.length = m) (hR : RH ρ (pmH h R.length m R) w) : RH ρ (matH { h with n := h.n + 1 + R.length } h.n (idsOf h.n R.length) m R) w := by
  have := hR.up (cs' := rowsC (idsOf h.n R.length) m) pm_O (by rw [rowsC_length, idsOf_length, pmC_length]; exact Nat.le_refl _) (fun i hi vc hx => by
    rw [rowsC_length, idsOf_length] at hi
    have e1 : (pmC h.n m R.length R.length)[i]'(by rw [pmC_length]; exact hi) = .bsl (h.n + 1 + i) 0 m .full := by simp [pmC, hi]
    have e2 : (rowsC (idsOf h.n R.length) m)[i]'(by rw [rowsC_length, idsOf_length]; exact hi) = .bsl (h.n + 1 + i) 0 m .ro := by simp [rowsC, idsOf]
    rw [e1] at hx
    rw [e2]
    exact Up.bsl _ _ _ _ _ _ hx)
  have heq : (pmH h R.length m R).put h.n (rowsC (idsOf h.n R.length) m) = matH { h with n := h.n + 1 + R.length } h.n (idsOf h.n R.length) m R := by
    refine AH.ext_ (fun b => ?_) rfl (fun _ => rfl) rfl
    simp only [AH.put, pmH, matH, upd]
    by_cases hO : b = h.n
    · rw [if_pos hO, if_pos hO]
    · rw [if_neg hO, if_neg hO, if_neg hO]
      by_cases h3 : h.n < b ∧ b < h.n + 1 + R.length
      · rw [if_pos h3]
        have hi : b - h.n - 1 < R.length := by omega
        have hb : b = (idsOf h.n R.length).getD (b - h.n - 1) 0 := by rw [idsOf_get hi]; omega
        have := idxOf_get (idsOf_nodup h.n R.length) (i := b - h.n - 1) (by rw [idsOf_length]; exact hi)
        rw [← hb] at this
        rw [this]
      · rw [if_neg h3]
        have : (idsOf h.n R.length).idxOf? b = none := List.idxOf?_eq_none_iff.2 fun hm => h3 (mem_idsOf.1 hm)
        rw [this]
  rw [← heq]; exact this

theorem off_ext {O : Nat} {ids : List Nat} {h' : AH} (he : Ext h h') (hO : h.n ≤ O) (hi : ∀ b ∈ ids, h.n ≤ b) : Ext h (offH h' O ids) :=
  ⟨he.n, he.k, fun b hb => by
    show (if b = O then none else if b ∈ ids then none else h'.f b) = h.f b
    rw [if_neg (by omega), if_neg (fun hm => by have := hi b hm; omega)]
    exact he.f b hb, he.gr⟩

/-- Such a matrix, handed out and never written again. -/
theorem ACalls.frozen {P : Program} {f : FuncId} {args : List AV} (hr : ∀ r ∈ R, r.length = m) (hc : ACalls P f args h (fun v h' => v = .bsl h.n 0 R.length .full ∧ h' = pmH h R.length m R)) : ACalls P f args h (fun v h' => v = matV R ∧ h' = h) := fun ρ w argc hR hL =>
  Calls.mono (hc ρ w argc hR hL) fun e w' he => by
    cases e with
    | returned vc =>
      obtain ⟨ρ', v, h', h1, h2, h3, rfl, rfl⟩ := he
      obtain ⟨ρ2, k1, k2, k3⟩ := freeze_mat (pm_ok hr) (pm_mat hr h2)
      obtain ⟨q1, q2⟩ := hR.cut (h1.trans k1) k2 (off_ext (h' := { h with n := h.n + 1 + R.length }) ⟨by show h.n ≤ h.n + 1 + R.length; omega, Nat.le_refl _, fun _ _ => rfl, fun _ _ => rfl⟩ (Nat.le_refl _) (fun b hb => by have := mem_idsOf.1 hb; omega))
      have := k3 R.length .full vc (Nat.le_refl _) h3
      rw [List.take_length] at this
      exact ⟨_, matV R, h, q2, q1, .pure _ _ this, rfl, rfl⟩
    | panicked c => exact he
    | outgrown => exact he
end

theorem tmod_emod (a m : Int) (hm : 0 < m) : (a % m = if a.tmod m < 0 then a.tmod m + m else a.tmod m) ∧ -m < a.tmod m ∧ a.tmod m < m := by
  have h1 := Int.emod_nonneg a (show m ≠ 0 by omega)
  have h2 := Int.emod_lt_of_pos a hm
  rcases Int.lt_or_le a 0 with ha | ha
  · have h3 : a.tmod m = -((-a) % m) := by rw [← Int.tmod_eq_emod_of_nonneg (by omega : 0 ≤ -a), Int.neg_tmod, Int.neg_neg]
    have h4 := Int.emod_nonneg (-a) (show m ≠ 0 by omega)
    have h5 := Int.emod_lt_of_pos (-a) hm
    have h6 : a % m = if (-a) % m = 0 then 0 else m - (-a) % m := by
      have : a = -(-a) := by omega
      rw [this, Int.neg_emod]
      split
      · rename_i hd
        rw [if_pos (Int.emod_eq_zero_of_dvd (by simpa using hd))]
      · rename_i hd
        rw [if_neg (fun h => hd (by simpa using Int.dvd_of_emod_eq_zero h))]
        simp
        omega
    rw [h3, h6]
    refine ⟨?_, by omega, by omega⟩
    split <;> split <;> omega
  · have h3 : a.tmod m = a % m := Int.tmod_eq_emod_of_nonneg ha
    rw [h3]
    exact ⟨by rw [if_neg (by omega)], by omega, h2⟩
end Go.Eng
