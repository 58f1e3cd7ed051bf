/- An engine, part 19: matrices whose rows change places. Over any program. -/
import Derived.Test.YtgfhddockofdnaaE18
set_option linter.unusedVariables false
set_option linter.unusedSimpArgs false
namespace Go.Eng
open Go.RowKit (Below)

/-- Less needs to be known of the memory. -/
def HUp (h h' : AH) : Prop := ∀ ρ w, RH ρ h w → RH ρ h' w
theorem HUp.refl (h : AH) : HUp h h := fun _ _ x => x
theorem ACalls.heap {P : Program} {f : FuncId} {args : List AV} {h h' : AH} {R : AV → AH → Prop} (hu : HUp h h') (hc : ACalls P f args h' R) : ACalls P f args h R := fun ρ w argc hR hL => hc ρ w argc (hu ρ w hR) hL
theorem HUp.pm {h : AH} {m : Nat} {R : List (List Int)} (hr : ∀ r ∈ R, r.length = m) : HUp (pmH h R.length m R) (matH { h with n := h.n + 1 + R.length } h.n (idsOf h.n R.length) m R) := fun _ _ x => pm_mat hr x

/-- Two elements change places. -/
def swp {α : Type} (d : α) (l : List α) (i j : Nat) : List α := (l.set i (l.getD j d)).set j (l.getD i d)
def sw (i j k : Nat) : Nat := if k = j then i else if k = i then j else k
theorem swp_length {α : Type} (d : α) (l : List α) (i j : Nat) : (swp d l i j).length = l.length := by simp [swp]
theorem swp_get {α : Type} (d : α) (l : List α) {i j k : Nat} (hi : i < l.length) (hj : j < l.length) : (swp d l i j).getD k d = l.getD (sw i j k) d := by
  simp only [swp, sw, List.getD_eq_getElem?_getD]
  by_cases h1 : k = j
  · subst h1
    rw [if_pos rfl, List.getElem?_set_self (by simpa using hj)]
    rfl
  · rw [if_neg h1, List.getElem?_set_ne (Ne.symm h1)]
    by_cases h2 : k = i
    · subst h2
      rw [if_pos rfl, List.getElem?_set_self hi]
      rfl
    · rw [if_neg h2, List.getElem?_set_ne (Ne.symm h2)]
theorem sw_lt {i j k n : Nat} (hi : i < n) (hj : j < n) (hk : k < n) : sw i j k < n := by unfold sw; split <;> (try split) <;> omega
theorem sw_sw (i j k : Nat) : sw i j (sw i j k) = k := by unfold sw; repeat' split <;> try omega
theorem swp_mem {α : Type} (d : α) (l : List α) {i j : Nat} (hi : i < l.length) (hj : j < l.length) {x : α} (h : x ∈ swp d l i j) : x ∈ l := by
  obtain ⟨k, hk, rfl⟩ := List.mem_iff_getElem.1 h
  rw [swp_length] at hk
  have e : (swp d l i j)[k]'(by rw [swp_length]; exact hk) = (swp d l i j).getD k d := by simp [List.getD_eq_getElem?_getD, swp_length, hk]
  have hs := sw_lt hi hj hk
  rw [e, swp_get d l hi hj, List.getD_eq_getElem?_getD, List.getElem?_eq_getElem hs]
  exact List.getElem_mem hs
theorem swp_nodup {l : List Nat} {i j : Nat} (hn : l.Nodup) (hi : i < l.length) (hj : j < l.length) : (swp 0 l i j).Nodup := by
  rw [List.nodup_iff_pairwise_ne, List.pairwise_iff_getElem]
  intro a b ha hb hab he
  rw [swp_length] at ha hb
  have e : ∀ k (hk : k < l.length), (swp 0 l i j)[k]'(by rw [swp_length]; exact hk) = l[sw i j k]'(sw_lt hi hj hk) := fun k hk => by
    have e1 : (swp 0 l i j)[k]'(by rw [swp_length]; exact hk) = (swp 0 l i j).getD k 0 := by simp [List.getD_eq_getElem?_getD, swp_length, hk]
    rw [e1, swp_get 0 l hi hj]
    simp [List.getD_eq_getElem?_getD, sw_lt hi hj hk]
  rw [e a ha, e b hb] at he
  have h1 := (List.getElem_inj (h₀ := sw_lt hi hj ha) (h₁ := sw_lt hi hj hb) hn).1 he
  have h2 : sw i j (sw i j a) = sw i j (sw i j b) := by rw [h1]
  rw [sw_sw, sw_sw] at h2
  omega

section
variable {h : AH} {O : Nat} {ids : List Nat} {m : Nat} {M : List (List Int)}
theorem MatOk.swp (ho : MatOk O ids m M) {i j : Nat} (hi : i < ids.length) (hj : j < ids.length) : MatOk O (swp 0 ids i j) m (swp [] M i j) :=
  ⟨swp_nodup ho.nodup hi hj, fun h => ho.out (swp_mem 0 ids hi hj h), by rw [swp_length, swp_length, ho.len], fun r hr => ho.rows r (swp_mem [] M (by rw [← ho.len]; exact hi) (by rw [← ho.len]; exact hj) hr)⟩
theorem rowsC_swp (i j : Nat) : ((rowsC ids m).set i (.bsl (ids.getD j 0) 0 m .ro)).set j (.bsl (ids.getD i 0) 0 m .ro) = rowsC (swp 0 ids i j) m := by
  simp [rowsC, Go.Eng.swp, List.map_set]
theorem matH_swp (ho : MatOk O ids m M) {i j : Nat} (hi : i < ids.length) (hj : j < ids.length) : (matH h O ids m M).put O (((rowsC ids m).set i (.bsl (ids.getD j 0) 0 m .ro)).set j (.bsl (ids.getD i 0) 0 m .ro)) = matH h O (swp 0 ids i j) m (swp [] M i j) := by
  rw [rowsC_swp]
  refine AH.ext_ (fun b => ?_) rfl (fun _ => rfl) rfl
  simp only [AH.put, upd, matH]
  by_cases hO : b = O
  · rw [if_pos hO, if_pos hO]
  · rw [if_neg hO, if_neg hO, if_neg hO]
    have hiM : i < M.length := by rw [← ho.len]; exact hi
    have hjM : j < M.length := by rw [← ho.len]; exact hj
    cases hx : ids.idxOf? b with
    | none =>
      have hnot : b ∉ ids := List.idxOf?_eq_none_iff.1 hx
      have : (swp 0 ids i j).idxOf? b = none := List.idxOf?_eq_none_iff.2 fun hm => hnot (swp_mem 0 ids hi hj hm)
      rw [this]
    | some k =>
      obtain ⟨k1, k2, -⟩ := List.idxOf?_eq_some_iff.1 hx
      have hb : b = (swp 0 ids i j).getD (sw i j k) 0 := by
        rw [swp_get 0 ids hi hj, sw_sw, List.getD_eq_getElem?_getD, List.getElem?_eq_getElem k1]
        exact k2.symm
      have h3 : (swp 0 ids i j).idxOf? b = some (sw i j k) := by
        have := idxOf_get (swp_nodup ho.nodup hi hj) (i := sw i j k) (by rw [swp_length]; exact sw_lt hi hj k1)
        rw [← hb] at this
        exact this
      rw [h3]
      simp only
      rw [swp_get [] M hiM hjM, sw_sw]
theorem mh_row (ho : MatOk O ids m M) {i : Nat} (hi : i < ids.length) : (matH h O ids m M).f (ids.getD i 0) = some ((M.getD i []).map (AV.int .i64)) := matH_row ho (by rw [← ho.len]; exact hi)
theorem mh_put (ho : MatOk O ids m M) {i : Nat} (hi : i < ids.length) (r : List Int) : (matH h O ids m M).put (ids.getD i 0) (r.map (AV.int .i64)) = matH h O ids m (M.set i r) := matH_put ho (by rw [← ho.len]; exact hi) r
theorem mh_n : (matH h O ids m M).n = h.n := rfl
theorem mh_k : (matH h O ids m M).k = h.k := rfl
theorem mh_other {b : Nat} (h1 : b ≠ O) (h2 : b ∉ ids) : (matH h O ids m M).f b = h.f b := by
  simp only [matH, if_neg h1, List.idxOf?_eq_none_iff.2 h2]
theorem mh_mk (x : List AV) (h1 : O < h.n) (h2 : ∀ b ∈ ids, b < h.n) : (matH h O ids m M).mk_ x = matH (h.mk_ x) O ids m M := by
  refine AH.ext_ (fun b => ?_) rfl (fun _ => rfl) rfl
  simp only [AH.mk_, upd, matH]
  by_cases hb : b = h.n
  · subst hb
    have : h.n ∉ ids := fun hm => by have := h2 _ hm; omega
    rw [if_pos rfl, if_neg (by omega), List.idxOf?_eq_none_iff.2 this]
    simp
  · rw [if_neg hb]
    by_cases hO : b = O
    · rw [if_pos hO, if_pos hO]
    · rw [if_neg hO, if_neg hO, if_neg hb]
/-- Where a row has grown. -/
theorem mh_grew {κ : Nat} {H' : AH} (g : Grew κ (matH h O ids m M) H') : H' = matH { H' with f := h.f } O ids m M := by
  refine AH.ext_ (fun b => ?_) rfl (fun _ => rfl) rfl
  rw [g.f]
  simp only [matH]
theorem getD_setM (l : List (List Int)) (j : Nat) (v : List Int) (hj : j < l.length) : (l.set j v).getD j [] = v := by simp [List.getD_eq_getElem?_getD, hj]
theorem getD_setNe {α : Type} (d : α) (l : List α) {j k : Nat} (v : α) (hj : k ≠ j) : (l.set j v).getD k d = l.getD k d := by simp [List.getD_eq_getElem?_getD, List.getElem?_set_ne (Ne.symm hj)]
theorem ids_ne (ho : MatOk O ids m M) {i : Nat} (hi : i < ids.length) : ids.getD i 0 ≠ O := fun e => ho.out (by rw [← e]; simp [List.getD_eq_getElem?_getD, hi])
theorem ids_inj (ho : MatOk O ids m M) {i j : Nat} (hi : i < ids.length) (hj : j < ids.length) (hij : i ≠ j) : ids.getD i 0 ≠ ids.getD j 0 := fun e => hij (by
  have e1 : ids.getD i 0 = ids[i] := by simp [List.getD_eq_getElem?_getD, hi]
  have e2 : ids.getD j 0 = ids[j] := by simp [List.getD_eq_getElem?_getD, hj]
  rw [e1, e2] at e
  exact (List.getElem_inj ho.nodup).1 e)
theorem ids_mem {i : Nat} (hi : i < ids.length) : ids.getD i 0 ∈ ids := by simp [List.getD_eq_getElem?_getD, hi]

/-- A row that is changed from the left. -/
def upto (f : Nat → Int) (r : List Int) (k : Nat) : List Int := (List.range k).map f ++ r.drop k
theorem upto_zero (f : Nat → Int) (r : List Int) : upto f r 0 = r := by simp [upto]
theorem upto_length (f : Nat → Int) (r : List Int) {k : Nat} (hk : k ≤ r.length) : (upto f r k).length = r.length := by simp [upto]; omega
theorem upto_full (f : Nat → Int) (r : List Int) {n : Nat} (hn : r.length = n) : upto f r n = (List.range n).map f := by simp [upto, List.drop_of_length_le (Nat.le_of_eq hn)]
theorem upto_set (f : Nat → Int) (r : List Int) {k : Nat} (hk : k < r.length) : (upto f r k).set k (f k) = upto f r (k + 1) := by
  have h1 : ((List.range k).map f).length = k := by simp
  have h2 : r.drop k = r[k] :: r.drop (k + 1) := List.drop_eq_getElem_cons hk
  have h3 : (List.range (k + 1)).map f = (List.range k).map f ++ [f k] := by simp [List.range_succ]
  unfold upto
  rw [List.set_append_right _ _ (by simp), h1, Nat.sub_self, h2, h3, List.append_assoc]
  rfl
theorem upto_ge (f : Nat → Int) (r : List Int) {k j : Nat} (hk : k ≤ j) : (upto f r k).getD j 0 = r.getD j 0 := by
  have h1 : ((List.range k).map f).length = k := by simp
  simp only [upto, List.getD_eq_getElem?_getD]
  rw [List.getElem?_append_right (by simp; omega), h1, List.getElem?_drop]
  congr 2
  omega
theorem upto_lt (f : Nat → Int) (r : List Int) {k j : Nat} (hk : j < k) : (upto f r k).getD j 0 = f j := by
  simp only [upto, List.getD_eq_getElem?_getD]
  rw [List.getElem?_append_left (by simp; omega)]
  simp [hk]
end
attribute [go_sem] matH_O rowsC_length rowsC_get mh_row mh_put mh_n mh_k
end Go.Eng
