/- An engine, part 23: a list of rows that may be written, appended to. Over any program. -/
import Derived.Test.YtgfhddockofdnaaE22
set_option linter.unusedVariables false
set_option linter.unusedSimpArgs false
namespace Go.Eng
open Go.RowKit (Below)
/-! ### a list of rows that may be written -/
def basV (M : List (List Int)) (O : Nat) : AV := match M with
  | [] => .nils
  | x :: r => .bsl O 0 (r.length + 1) (.grow 1)
theorem basV_nil (O : Nat) : basV [] O = .nils := rfl
theorem basV_ne {M : List (List Int)} (O : Nat) (h : M ≠ []) : basV M O = .bsl O 0 M.length (.grow 1) := by
  cases M with
  | nil => exact absurd rfl h
  | cons x r => rfl
theorem len_bas {P : Program} {t : TypeId} {K : AV → Prop} (M : List (List Int)) (O : Nat) : lenW P t (basV M O) K = (knT P t = some 3 ∧ K (.int .i64 (M.length : Int))) := by
  cases M <;> simp [lenW, basV]
structure KB (n : Nat) (h1 H : AH) (O : Nat) (ids : List Nat) (M : List (List Int)) : Prop where
  ext : Ext h1 H
  il : ids.length = M.length
  nd : ids.Nodup
  idr : ∀ b ∈ ids, h1.n ≤ b ∧ b < H.n
  rows : ∀ i, i < M.length → H.f (ids.getD i 0) = some ((M.getD i []).map (AV.int .i64))
  fO : M ≠ [] → H.f O = some (ids.map fun b => .bsl b 0 n .full) ∧ h1.n ≤ O ∧ O < H.n ∧ O ∉ ids
theorem KB.add {n : Nat} {h1 H H' : AH} {O : Nat} {ids : List Nat} {M : List (List Int)} {x : List Int} (hk : KB n h1 H O ids M) (e1 : H'.n = H.n + 3) (e2 : H'.f (H.n + 2) = some ((if M = [] then [] else ids.map fun b => AV.bsl b 0 n .full) ++ [.bsl H.n 0 n .full]))
    (e3 : ∀ b, b ≠ H.n + 2 → (M ≠ [] → b ≠ O) → H'.f b = ((H.mk_ (x.map (AV.int .i64))).mk_ [.bsl H.n 0 n .full]).f b) (e4 : H'.k = H.k) (e5 : H'.gr = H.gr) : KB n h1 H' (H.n + 2) (ids ++ [H.n]) (M ++ [x]) := by
  have hold : ∀ b, b < H.n → ((H.mk_ (x.map (AV.int .i64))).mk_ [.bsl H.n 0 n .full]).f b = H.f b := fun b hb => by
    rw [mk_ne _ _ (by rw [mk_n]; omega), mk_ne _ _ (by omega)]
  have hn := hk.ext.n
  refine ⟨⟨by omega, by rw [e4]; exact hk.ext.k, fun b hb => ?_, fun κ hκ => by rw [e5]; exact hk.ext.gr κ hκ⟩, by simp [hk.il], ?_, fun b hb => ?_, fun i hi => ?_, fun _ => ⟨?_, by omega, by omega, ?_⟩⟩
  · rw [e3 b (by omega) (fun hM => by have := (hk.fO hM).2.1; omega), hold b (by omega)]
    exact hk.ext.f b hb
  · rw [List.nodup_append]
    refine ⟨hk.nd, by simp, fun a ha b hb => ?_⟩
    have := (hk.idr a ha).2
    have : b = H.n := by simpa using hb
    omega
  · rcases List.mem_append.1 hb with hb | hb
    · have := hk.idr b hb; omega
    · have : b = H.n := by simpa using hb
      omega
  · rw [List.length_append, List.length_singleton] at hi
    by_cases hlt : i < M.length
    · have e6 : (ids ++ [H.n]).getD i 0 = ids.getD i 0 := by simp only [List.getD_eq_getElem?_getD]; rw [List.getElem?_append_left (by rw [hk.il]; exact hlt)]
      have e7 : (M ++ [x]).getD i [] = M.getD i [] := by simp only [List.getD_eq_getElem?_getD]; rw [List.getElem?_append_left hlt]
      have hmem : ids.getD i 0 ∈ ids := ids_mem (by rw [hk.il]; exact hlt)
      have hb := hk.idr _ hmem
      rw [e6, e7, e3 _ (by omega) (fun hM he => (hk.fO hM).2.2.2 (by rw [← he]; exact hmem)), hold _ hb.2]
      exact hk.rows i hlt
    · have hie : i = M.length := by omega
      subst hie
      have e6 : (ids ++ [H.n]).getD M.length 0 = H.n := by rw [← hk.il]; simp [List.getD_eq_getElem?_getD]
      have e7 : (M ++ [x]).getD M.length [] = x := by simp [List.getD_eq_getElem?_getD]
      rw [e6, e7, e3 _ (by omega) (fun hM => by have := (hk.fO hM).2.2.1; omega), mk_ne _ _ (by rw [mk_n]; omega), AH.mk_f]
  · rw [e2]
    by_cases hM : M = []
    · have : ids = [] := List.eq_nil_of_length_eq_zero (by rw [hk.il, hM]; rfl)
      rw [if_pos hM, this]; rfl
    · rw [if_neg hM]; simp
  · intro hm
    rcases List.mem_append.1 hm with hm | hm
    · have := (hk.idr _ hm).2; omega
    · simp at hm
theorem KB.mat {n : Nat} {h1 H : AH} {O : Nat} {ids : List Nat} {M : List (List Int)} (hk : KB n h1 H O ids M) (hM : M ≠ []) (hw : Wid n M) : MatOk O ids n M ∧ HUp H (matH H O ids n M) := by
  obtain ⟨f1, f2, f3, f4⟩ := hk.fO hM
  refine ⟨⟨hk.nd, f4, hk.il, (fun r hr => by obtain ⟨j, hj, rfl⟩ := List.mem_iff_getElem.1 hr; have := hw j hj; simpa [List.getD_eq_getElem?_getD, hj] using this)⟩, fun ρ w hR => ?_⟩
  have h2 := hR.up (cs' := rowsC ids n) f1 (by rw [rowsC_length, List.length_map]; exact Nat.le_refl _) (fun i hi vc hx => by
    rw [rowsC_length] at hi
    have e1 : (ids.map fun b => AV.bsl b 0 n .full)[i]'(by rw [List.length_map]; exact hi) = .bsl ids[i] 0 n .full := by simp
    have e2 : (rowsC ids n)[i]'(by rw [rowsC_length]; exact hi) = .bsl ids[i] 0 n .ro := by simp [rowsC]
    rw [e1] at hx
    rw [e2]
    exact Up.bsl _ _ _ _ _ _ hx)
  have : H.put O (rowsC ids n) = matH H O ids n M := by
    refine AH.ext_ (fun b => ?_) rfl (fun _ => rfl) rfl
    simp only [AH.put, matH, upd]
    by_cases hO : b = O
    · rw [if_pos hO, if_pos hO]
    · rw [if_neg hO, if_neg hO]
      cases hx : ids.idxOf? b with
      | none => rfl
      | some i =>
        obtain ⟨k1, k2, -⟩ := List.idxOf?_eq_some_iff.1 hx
        have := hk.rows i (by rw [← hk.il]; exact k1)
        have e : ids.getD i 0 = b := by rw [List.getD_eq_getElem?_getD, List.getElem?_eq_getElem k1]; exact k2
        rw [e] at this
        exact this
  rw [← this]; exact h2
theorem app_bas {P : Program} {t : TypeId} {H : AH} {M : List (List Int)} {O q e by_ : Nat} {z y : AV} {cs : List AV} {c' : Cp} {K : AV → AH → Prop} (hok : M ≠ [] → H.f O = some cs ∧ cs.length = M.length) (hq : H.f q = some [y]) (he : elT P t = some e) (hs : szT P e = some 1) (hb : byT P e = some by_) (hz : zrT P e = some z) (hm : memA z = true) (hzl : (cellsA z).length = 1)
    (h1 : M.length + 1 ≤ 1000000) (h2 : by_ ≤ 64) (hK : ∀ H', H'.n = H.n + 1 → H'.f H.n = some ((if M = [] then [] else cs) ++ [y]) → (∀ b, b ≠ H.n → (M ≠ [] → b ≠ O) → H'.f b = H.f b) → H'.k = H.k → H'.gr = H.gr → K (.bsl H.n 0 (M.length + 1) (.grow 1)) H') : appBW P t (basV M O) (.bsl q 0 1 c') H K := by
  have hbig : (M.length + 1) * by_ ≤ 140737488355328 := Nat.le_trans (Nat.mul_le_mul h1 h2) (by omega)
  refine ⟨e, by_, z, [y], he, hs, hb, hz, hm, hzl, ⟨[y], hq, by simp, by simp⟩, by simp, ?_⟩
  cases M with
  | nil =>
    simp only [basV, List.length_singleton]
    refine ⟨by omega, by simpa using hbig, ?_⟩
    refine hK (H.mk_ [y]) rfl (by rw [AH.mk_f]; simp) (fun b hb _ => mk_ne _ _ hb) rfl rfl
  | cons x r =>
    obtain ⟨g1, g2⟩ := hok (by simp)
    simp only [basV, List.length_singleton]
    simp only [List.length_cons] at g2 hbig h1
    refine ⟨trivial, trivial, cs, g1, g2, by omega, by simpa using hbig, ?_⟩
    refine hK ((H.rm O).mk_ (cs ++ [y])) rfl (by show ((H.rm O).mk_ (cs ++ [y])).f (H.rm O).n = _; rw [AH.mk_f]; simp) (fun b hb hbO => ?_) rfl rfl
    rw [mk_ne (H.rm O) _ hb]
    exact upd_ne _ _ (hbO (by simp))
attribute [go_sem] len_bas
end Go.Eng
