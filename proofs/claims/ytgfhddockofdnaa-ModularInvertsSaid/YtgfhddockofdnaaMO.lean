/- Texts E37 E38 E39 W40 W41 W42 W43 of an engine over abstract values and of the walks of this program, one after the other. -/
import Derived.Test.YtgfhddockofdnaaMN
import Derived.Test.YtgfhddockofdnaaMN
/- An engine, part 37: rows appended to blocks, empty or not; a matrix without a row and a column. -/
set_option linter.unusedVariables false
set_option linter.unusedSimpArgs false
namespace Go.Eng
open Go.RowKit (Below)

theorem allB_oneA_ints (r : List Int) : allB oneA (r.map (AV.int .i64)) = true := by
  induction r with
  | nil => rfl
  | cons x r ih => simp only [List.map_cons, allB, oneA, Bool.true_and]; exact ih
/-- A row is appended to a row in a block; it may be empty. -/
theorem appD_gr {P : Program} {t : TypeId} {H : AH} {b n N e by_ : Nat} {z : AV} {xs r : List Int} {K : AV → AH → Prop} (hb : H.f b = some (xs.map (AV.int .i64))) (hbn : b < H.n) (hl : xs.length = n) (hN : n + r.length = N) (he : elT P t = some e) (hs : szT P e = some 1) (hby : byT P e = some by_) (hz : zrT P e = some z) (hm : memA z = true) (hzl : (cellsA z).length = 1)
    (h1 : N ≤ 1000001) (h2 : by_ ≤ 64) (hK : ∀ H' b', H'.f b' = some ((xs ++ r).map (AV.int .i64)) → b ≤ b' → b' < H'.n → H.n ≤ H'.n → (∀ q, q < b → H'.f q = H.f q) → H'.k = H.k → H'.gr = H.gr → K (.bsl b' 0 N (.grow 1)) H') : appD P t 1 (.bsl b 0 n (.grow 1)) (rowV r) H K := by
  by_cases hr : r = []
  · subst hr
    rw [ad_row0]
    have : n = N := by simpa using hN
    subst this
    exact ⟨rfl, hK H b (by simpa using hb) (Nat.le_refl _) hbn (Nat.le_refl _) (fun _ _ => rfl) rfl rfl⟩
  · rw [ad_row hr]
    have hbig : N * by_ ≤ 140737488355328 := Nat.le_trans (Nat.mul_le_mul h1 h2) (by omega)
    refine ⟨e, by_, z, r.map (AV.int .i64), he, hs, hby, hz, hm, hzl, ⟨rfl, allB_oneA_ints r, rfl⟩, by simpa using hr, rfl, rfl, xs.map (AV.int .i64), hb, by rw [List.length_map, hl], by rw [List.length_map]; omega, by rw [List.length_map, hN]; exact hbig, ?_⟩
    rw [List.length_map, hN]
    refine hK _ _ ?_ (Nat.le_of_lt hbn) ?_ ?_ (fun q hq => ?_) rfl rfl
    · show ((H.rm b).mk_ _).f (H.rm b).n = _
      rw [AH.mk_f, List.map_append]
    · show H.n < H.n + 1; omega
    · show H.n ≤ H.n + 1; omega
    · rw [mk_ne (H.rm b) _ (show q ≠ H.n by omega)]
      exact upd_ne _ _ (by omega)

/-! ### a matrix without a row and a column -/
def wthR (c : Nat) (r : List Int) : List Int := r.take c ++ r.drop (c + 1)
def wthL (a : List (List Int)) (r c : Nat) : Nat → List (List Int)
  | 0 => []
  | i + 1 => wthL a r c i ++ (if i = r then [] else [wthR c (a.getD i [])])
theorem wthR_length {c : Nat} {r : List Int} (h : c < r.length) : (wthR c r).length = r.length - 1 := by unfold wthR; simp; omega
theorem wthR_get {c : Nat} {r : List Int} (h : c < r.length) (j : Nat) : (wthR c r).getD j 0 = r.getD (skp c j) 0 := by
  unfold wthR skp
  simp only [List.getD_eq_getElem?_getD]
  by_cases hj : j < c
  · rw [if_pos hj, List.getElem?_append_left (by simp; omega), List.getElem?_take, if_pos hj]
  · rw [if_neg hj, List.getElem?_append_right (by simp; omega), List.getElem?_drop]
    congr 2
    simp; omega
theorem wthL_length (a : List (List Int)) (r c : Nat) : ∀ i, (wthL a r c i).length = if i ≤ r then i else i - 1
  | 0 => by simp [wthL]
  | i + 1 => by
    simp only [wthL, List.length_append, wthL_length a r c i]
    by_cases h : i = r
    · subst h; simp
    · by_cases h2 : i ≤ r
      · rw [if_pos h2, if_neg h, if_pos (by omega)]; rfl
      · rw [if_neg h2, if_neg h, if_neg (by omega)]; simp; omega
theorem wthL_get (a : List (List Int)) (r c : Nat) : ∀ n i, skp r i < n → (wthL a r c n).getD i [] = wthR c (a.getD (skp r i) [])
  | 0, i, h => absurd h (Nat.not_lt_zero _)
  | n + 1, i, h => by
    have hl := wthL_length a r c n
    simp only [wthL, List.getD_eq_getElem?_getD]
    by_cases hlt : skp r i < n
    · have hil : i < (wthL a r c n).length := by rw [hl]; unfold skp at hlt; split at hlt <;> split <;> omega
      rw [List.getElem?_append_left hil]
      have := wthL_get a r c n i hlt
      simpa only [List.getD_eq_getElem?_getD] using this
    · have he : skp r i = n := by omega
      have hnr : n ≠ r := fun e => skp_ne r i (by omega)
      have hil : i = (wthL a r c n).length := by rw [hl]; unfold skp at he; split at he <;> split <;> omega
      rw [List.getElem?_append_right (by omega), if_neg hnr, ← hil, Nat.sub_self, he]
      rfl
/-- The whole. -/
theorem wth_spec {a : List (List Int)} {n r c : Nat} (hl : a.length = n + 1) (hw : Wid (n + 1) a) (hr : r < n + 1) (hc : c < n + 1) : (wthL a r c (n + 1)).length = n ∧ Wid n (wthL a r c (n + 1)) ∧ ∀ i j, i < n → j < n → ent (wthL a r c (n + 1)) i j = mnr r c (ent a) i j := by
  have h1 : (wthL a r c (n + 1)).length = n := by rw [wthL_length, if_neg (by omega)]; omega
  refine ⟨h1, fun i hi => ?_, fun i j hi hj => ?_⟩
  · rw [wthL_get a r c (n + 1) i (skp_lt (by omega))]
    have := hw (skp r i) (by rw [hl]; exact skp_lt (by omega))
    rw [wthR_length (by omega)]; omega
  · unfold ent mnr
    rw [wthL_get a r c (n + 1) i (skp_lt hi)]
    have := hw (skp r i) (by rw [hl]; exact skp_lt (by omega))
    rw [wthR_get (by omega)]
theorem wth_in {a : List (List Int)} {n r c : Nat} {p : Int} (hl : a.length = n + 1) (hw : Wid (n + 1) a) (hr : r < n + 1) (hc : c < n + 1) (hR : InR p (n + 1) a) : InR p n (wthL a r c (n + 1)) := fun i j hi hj => by
  obtain ⟨h1, h2, h3⟩ := wth_spec hl hw hr hc
  have := h3 i j (by omega) hj
  unfold ent mnr at this
  rw [this]
  exact hR _ _ (by rw [hl]; exact skp_lt (by omega)) (skp_lt hj)
end Go.Eng
/- An engine, part 38: a list of rows made empty and filled, with other memory made in between. -/
set_option linter.unusedVariables false
set_option linter.unusedSimpArgs false
namespace Go.Eng
open Go.RowKit (Below)

/-- Memory to which things are added, and the block q may change. -/
structure Ext1 (q : Nat) (h h' : AH) : Prop where
  n : h.n ≤ h'.n
  k : h.k ≤ h'.k
  f : ∀ b, b < h.n → b ≠ q → h'.f b = h.f b
  gr : ∀ κ, κ < h.k → h'.gr κ = h.gr κ
theorem Ext1.refl (q : Nat) (h : AH) : Ext1 q h h := ⟨Nat.le_refl _, Nat.le_refl _, fun _ _ _ => rfl, fun _ _ => rfl⟩
theorem Ext1.ext {q : Nat} {a b c : AH} (h : Ext1 q a b) (k : Ext b c) : Ext1 q a c :=
  ⟨Nat.le_trans h.n k.n, Nat.le_trans h.k k.k, fun x hx hq => (k.f x (Nat.lt_of_lt_of_le hx h.n)).trans (h.f x hx hq), fun x hx => (k.gr x (Nat.lt_of_lt_of_le hx h.k)).trans (h.gr x hx)⟩
theorem Ext1.put {q : Nat} {a b : AH} (h : Ext1 q a b) (x : List AV) : Ext1 q a (b.put q x) :=
  ⟨h.n, h.k, fun y hy hq => by rw [AH.put_ne _ _ hq]; exact h.f y hy hq, h.gr⟩

def cellsP (n N : Nat) (ids : List Nat) : List AV := (ids.map fun b => AV.bsl b 0 n .full) ++ List.replicate (N - ids.length) .nils
theorem cellsP_length {n N : Nat} {ids : List Nat} (h : ids.length ≤ N) : (cellsP n N ids).length = N := by unfold cellsP; simp; omega
theorem cellsP_nil (n N : Nat) : cellsP n N [] = List.replicate N .nils := by simp [cellsP]
theorem cellsP_set {n N q : Nat} {ids : List Nat} (h : ids.length < N) : (cellsP n N ids).set ids.length (.bsl q 0 n .full) = cellsP n N (ids ++ [q]) := by
  unfold cellsP
  rw [List.set_append_right _ _ (by simp), List.length_map, Nat.sub_self]
  have : N - ids.length = (N - (ids ++ [q]).length) + 1 := by simp; omega
  rw [this, List.replicate_succ, List.set_cons_zero, List.map_append, List.append_assoc]
  rfl
theorem cellsP_get {n N i : Nat} {ids : List Nat} (h : i < ids.length) : (cellsP n N ids).getD i .junk = .bsl (ids.getD i 0) 0 n .full := by
  unfold cellsP
  simp only [List.getD_eq_getElem?_getD]
  rw [List.getElem?_append_left (by simpa using h), List.getElem?_map, List.getElem?_eq_getElem h]
  rfl
theorem cellsP_last {n N q : Nat} {ids : List Nat} : (cellsP n N (ids ++ [q])).getD ids.length .junk = .bsl q 0 n .full := by
  rw [cellsP_get (by simp)]; simp [List.getD_eq_getElem?_getD]
theorem cellsP_full {n N : Nat} {ids : List Nat} (h : ids.length = N) : cellsP n N ids = ids.map fun b => AV.bsl b 0 n .full := by
  unfold cellsP; rw [h, Nat.sub_self]; simp
/-- The first rows are there, the others are nil. -/
structure KP (n N : Nat) (h1 H : AH) (O : Nat) (ids : List Nat) (M : List (List Int)) : Prop where
  ext : Ext h1 H
  il : ids.length = M.length
  nd : ids.Nodup
  idr : ∀ b ∈ ids, h1.n ≤ b ∧ b < H.n
  rows : ∀ i, i < M.length → H.f (ids.getD i 0) = some ((M.getD i []).map (AV.int .i64))
  fO : H.f O = some (cellsP n N ids)
  hO : h1.n ≤ O ∧ O < H.n
  nO : O ∉ ids
theorem KP.start {n N : Nat} {h1 h : AH} (he : Ext h1 h) : KP n N h1 (h.mk_ (List.replicate N .nils)) h.n [] [] :=
  ⟨he.mk_ _, rfl, by simp, fun b hb => by simp at hb, fun i hi => absurd hi (Nat.not_lt_zero _), by rw [AH.mk_f, cellsP_nil], ⟨he.n, by rw [mk_n]; omega⟩, by simp⟩
/-- A row made at Hr (in the block q = H.n, set in O), changed since. -/
theorem KP.add {n N : Nat} {h1 H Hr H' : AH} {O : Nat} {ids : List Nat} {M : List (List Int)} {z : List AV} {x : List Int} (hk : KP n N h1 H O ids M) (hl : M.length < N) (hr : Hr = (H.mk_ z).put O (cellsP n N (ids ++ [H.n]))) (he : Ext1 H.n Hr H') (hx : H'.f H.n = some (x.map (AV.int .i64))) :
    KP n N h1 H' O (ids ++ [H.n]) (M ++ [x]) := by
  have hn := hk.ext.n
  have hO := hk.hO
  have hrn : Hr.n = H.n + 1 := by rw [hr]; rfl
  have hen := he.n
  have old : ∀ b, b < H.n → b ≠ O → H'.f b = H.f b := fun b hb hbO => by
    rw [he.f b (by omega) (by omega), hr, AH.put_ne _ _ hbO, mk_ne _ _ (by omega)]
  refine ⟨⟨by omega, by have := he.k; have h2 : Hr.k = H.k := by rw [hr]; rfl
                        have := hk.ext.k; omega, fun b hb => ?_, fun κ hκ => ?_⟩, by simp [hk.il], ?_, fun b hb => ?_, fun i hi => ?_, ?_, ⟨hO.1, by omega⟩, ?_⟩
  · rw [old b (by omega) (by omega)]; exact hk.ext.f b hb
  · have h2 : Hr.k = H.k := by rw [hr]; rfl
    have h3 : Hr.gr = H.gr := by rw [hr]; rfl
    have := hk.ext.k
    rw [he.gr κ (by omega), h3]; exact hk.ext.gr κ hκ
  · rw [List.nodup_append]
    refine ⟨hk.nd, by simp, fun a ha b hb => ?_⟩
    have := (hk.idr a ha).2
    have : b = H.n := by simpa using hb
    omega
  · rcases List.mem_append.1 hb with hb | hb
    · have := hk.idr b hb; omega
    · have : b = H.n := by simpa using hb
      omega
  · rw [List.length_append, List.length_singleton] at hi
    by_cases hlt : i < M.length
    · have e6 : (ids ++ [H.n]).getD i 0 = ids.getD i 0 := by simp only [List.getD_eq_getElem?_getD]; rw [List.getElem?_append_left (by rw [hk.il]; exact hlt)]
      have e7 : (M ++ [x]).getD i [] = M.getD i [] := by simp only [List.getD_eq_getElem?_getD]; rw [List.getElem?_append_left hlt]
      have hmem : ids.getD i 0 ∈ ids := ids_mem (by rw [hk.il]; exact hlt)
      have hb := hk.idr _ hmem
      rw [e6, e7, old _ hb.2 (fun e => hk.nO (by rw [← e]; exact hmem))]
      exact hk.rows i hlt
    · have hie : i = M.length := by omega
      subst hie
      have e6 : (ids ++ [H.n]).getD M.length 0 = H.n := by rw [← hk.il]; simp [List.getD_eq_getElem?_getD]
      have e7 : (M ++ [x]).getD M.length [] = x := by simp [List.getD_eq_getElem?_getD]
      rw [e6, e7]; exact hx
  · rw [he.f O (by omega) (by omega), hr, AH.put_f]
  · intro hm
    rcases List.mem_append.1 hm with hm | hm
    · exact hk.nO hm
    · simp at hm; omega
theorem KP.kc {n N : Nat} {h1 H : AH} {O : Nat} {ids : List Nat} {M : List (List Int)} (hk : KP n N h1 H O ids M) (hN : M.length = N) : KC .full n h1 H O ids M :=
  ⟨hk.ext, hk.il, hk.nd, hk.idr, hk.rows, fun _ => ⟨by rw [hk.fO, cellsP_full (by rw [hk.il, hN])], hk.hO.1, hk.hO.2, hk.nO⟩⟩
end Go.Eng
/- The adjugate is an inverse on both sides, up to the determinant. Plain. -/
set_option linter.unusedVariables false
set_option linter.unusedSimpArgs false
namespace Go.Eng

theorem cof_left (n : Nat) (A : Mx) {i k : Nat} (hi : i < n + 1) (hk : k < n + 1) : sm (n + 1) (fun c => sg (i + c) * det n (mnr c i A) * A c k) = if k = i then det (n + 1) A else 0 := by
  have h := det_cof n (trn A) hi hk
  rw [det_trn] at h
  rw [← h]
  refine sm_congr _ fun c _ => ?_
  have e : det n (mnr i c (trn A)) = det n (mnr c i A) := det_trn n (mnr c i A)
  rw [e, Int.mul_comm]
  rfl
def adjE (a : Mx) (k : Nat) (m : Int) (i j : Nat) : Int := if (i + j) % 2 = 1 then (- (det k (mnr j i a) % m)) % m else det k (mnr j i a) % m
def invI (a : Mx) (k : Nat) (m f : Int) (i j : Nat) : Int := adjE a k m i j * f % m
theorem adjE_bd (a : Mx) (k : Nat) {m : Int} (hm : 2 ≤ m) (i j : Nat) : 0 ≤ adjE a k m i j ∧ adjE a k m i j < m := by
  unfold adjE
  split
  · exact ⟨Int.emod_nonneg _ (by omega), Int.emod_lt_of_pos _ (by omega)⟩
  · exact ⟨Int.emod_nonneg _ (by omega), Int.emod_lt_of_pos _ (by omega)⟩
theorem adjE_dvd (a : Mx) (k : Nat) (m : Int) (i j : Nat) : m ∣ adjE a k m i j - sg (i + j) * det k (mnr j i a) := by
  unfold adjE sg
  generalize det k (mnr j i a) = d
  have h1 := emod_dvd d m
  by_cases h : (i + j) % 2 = 1
  · rw [if_pos h, if_neg (by omega)]
    have h2 := emod_dvd (-(d % m)) m
    have : -(d % m) % m - -1 * d = (-(d % m) % m - -(d % m)) - (d % m - d) := by omega
    rw [this]; exact Int.dvd_sub h2 h1
  · rw [if_neg h, if_pos (by omega), Int.one_mul]; exact h1
theorem invI_dvd (a : Mx) (k : Nat) (m f : Int) (i j : Nat) : m ∣ invI a k m f i j - sg (i + j) * det k (mnr j i a) * f := by
  unfold invI
  have h1 := emod_dvd (adjE a k m i j * f) m
  have h2 := adjE_dvd a k m i j
  generalize adjE a k m i j = x at h1 h2
  generalize sg (i + j) * det k (mnr j i a) = y at h2 ⊢
  have : x * f % m - y * f = (x * f % m - x * f) + (x - y) * f := by rw [Int.sub_mul]; omega
  rw [this]; exact Int.dvd_add h1 (Int.dvd_mul_of_dvd_left h2)
theorem inv_right {a : Mx} {k : Nat} {m f : Int} (hd : m ∣ det (k + 1) a * f - 1) {i j : Nat} (hi : i < k + 1) (hj : j < k + 1) : m ∣ mxM (k + 1) a (invI a k m f) i j - mxI i j := by
  unfold mxM
  have h1 : m ∣ sm (k + 1) (fun c => a i c * invI a k m f c j) - sm (k + 1) (fun c => f * (a i c * (sg (j + c) * det k (mnr j c a)))) := sm_dvd _ fun c _ => by
    have := invI_dvd a k m f c j
    rw [Nat.add_comm c j] at this
    generalize invI a k m f c j = x at this ⊢
    generalize sg (j + c) * det k (mnr j c a) = y at this ⊢
    have e : a i c * x - f * (a i c * y) = a i c * (x - y * f) := by rw [Int.mul_sub, Int.mul_left_comm, Int.mul_comm f y]
    rw [e]; exact Int.dvd_mul_of_dvd_right this
  rw [sm_mul, det_cof k a hj hi] at h1
  have h2 : m ∣ f * (if i = j then det (k + 1) a else 0) - mxI i j := by
    unfold mxI
    by_cases h : i = j
    · rw [if_pos h, if_pos h, Int.mul_comm]; exact hd
    · rw [if_neg h, if_neg h, Int.mul_zero]; exact Int.dvd_zero m
  have := Int.dvd_add h1 h2
  generalize sm (k + 1) (fun c => a i c * invI a k m f c j) = x at this ⊢
  generalize f * (if i = j then det (k + 1) a else 0) = y at this
  have e : x - mxI i j = x - y + (y - mxI i j) := by omega
  rw [e]; exact this
theorem inv_left {a : Mx} {k : Nat} {m f : Int} (hd : m ∣ det (k + 1) a * f - 1) {i j : Nat} (hi : i < k + 1) (hj : j < k + 1) : m ∣ mxM (k + 1) (invI a k m f) a i j - mxI i j := by
  unfold mxM
  have h1 : m ∣ sm (k + 1) (fun c => invI a k m f i c * a c j) - sm (k + 1) (fun c => f * (sg (i + c) * det k (mnr c i a) * a c j)) := sm_dvd _ fun c _ => by
    have := invI_dvd a k m f i c
    generalize invI a k m f i c = x at this ⊢
    generalize sg (i + c) * det k (mnr c i a) = y at this ⊢
    have e : x * a c j - f * (y * a c j) = (x - y * f) * a c j := by rw [Int.sub_mul, Int.mul_assoc, Int.mul_left_comm]
    rw [e]; exact Int.dvd_mul_of_dvd_left this
  rw [sm_mul, cof_left k a hi hj] at h1
  have h2 : m ∣ f * (if j = i then det (k + 1) a else 0) - mxI i j := by
    unfold mxI
    by_cases h : j = i
    · rw [if_pos h, if_pos h.symm, Int.mul_comm]; exact hd
    · rw [if_neg h, if_neg (fun e => h e.symm), Int.mul_zero]; exact Int.dvd_zero m
  have := Int.dvd_add h1 h2
  generalize sm (k + 1) (fun c => invI a k m f i c * a c j) = x at this ⊢
  generalize f * (if j = i then det (k + 1) a else 0) = y at this
  have e : x - mxI i j = x - y + (y - mxI i j) := by omega
  rw [e]; exact this
end Go.Eng
open Go Go.Proofs
set_option linter.unusedVariables false
set_option linter.unusedSimpArgs false
set_option maxRecDepth 4000
set_option maxHeartbeats 40000000
namespace Go.Eng
attribute [local irreducible] Good ACalls runL regW stepW opW gdV' gdD condW gifW binW arW loadW storeW idxAW lenW appW appBW cutW onSome onBnd callW fldAW Again thenQ blockQ resW endQ Up loadR
/-! ### a matrix without a row and a column -/
theorem c_without (a : List (List Int)) (n r c : Nat) (hl : a.length = n + 1) (hn : 1 ≤ n ∧ n ≤ 1000) (hw : Wid (n + 1) a) (hr : r < n + 1) (hc : c < n + 1) (h : AH) :
    ACalls Try.prog 50 [matV a, .int .i64 r, .int .i64 c] h (fun v h' => ∃ O ids, v = basL n O ∧ KC (.grow 1) n h h' O ids (wthL a r c (n + 1))) := by
  refine acalls_of_good 3 35 [.tmp 6] Try.func50 rfl rfl (by kernel_rfl) rfl rfl (by decide) ?_
  simp (disch := first | assumption | omega) only [go_sem, Option.map, List.isEmpty, ↓reduceIte, Nat.reduceEqDiff, Nat.reduceAdd, Nat.reduceSub, Nat.reduceMul, Nat.reduceLT, Nat.reduceLeDiff, reduceCtorEq, Nat.reduceBEq, Nat.reduceBNe, Int.reduceNeg, Int.reduceLE, Int.reduceLT, Int.reduceToNat]
  repeat' (first | (first | refine good_seq ?_ | refine good_reg false (fun K hK => ?_) | (refine runL_nil (hK _ _ ?_); clear hK K) | refine runL_none rfl (fun K2 hK2 => ?_) | refine runL_some rfl rfl (fun R S hR hS => ?_) | (refine hK2 _ _ ?_; clear hK2 K2) | (refine hK2 _ _ ?_ ?_ <;> clear hK2 K2) | (refine regW_nil (hK _ _ ?_); clear hK K) | (refine regW_load rfl rfl rfl (fun F1 F2 hF1 hF2 => ?_)) | (refine hF1 _ ?_ ?_ <;> clear hF1 hF2 F1 F2) | (refine hF2 _ _ (fun K2 hK2 => ?_); clear hF1 hF2 F1 F2) | refine regW_light rfl rfl rfl (fun _ _ => rfl) (fun K2 hK2 => ?_) | refine regW_lguard rfl rfl rfl rfl (fun _ _ => rfl) (fun R S hR hS => ?_) | refine regW_heavy rfl rfl (fun K2 hK2 => ?_) | with_reducible refine log_goal ?_ | (refine hR _ (fun K2 hK2 => ?_); clear hR hS R S) | (refine hS _ ?_; clear hR hS R S) | refine good_block ?_ | refine good_skip ?_ | refine good_exit ?_ | refine good_ret ?_ | refine good_cond ?_ | refine And.intro ?_ ?_ | intro _) <;> try simp (disch := first | assumption | omega) only [go_sem, Option.map, List.isEmpty, ↓reduceIte, Nat.reduceEqDiff, Nat.reduceAdd, Nat.reduceSub, Nat.reduceMul, Nat.reduceLT, Nat.reduceLeDiff, reduceCtorEq, Nat.reduceBEq, Nat.reduceBNe, Int.reduceNeg, Int.reduceLE, Int.reduceLT, Int.reduceToNat] | omega)
  refine good_loop_s (σ := AH × Nat × List Nat × Nat) (fun s => [(0, matV a), (1, .int .i64 r), (2, .int .i64 c), (7, basL (wthL a r c s.2.2.2).length s.2.1), (10, matV a), (11, .int .i64 a.length), (12, .int .i64 s.2.2.2)]) (fun s => s.1)
    (fun s => s.2.2.2 ≤ n + 1 ∧ KC (.grow 1) n h s.1 s.2.1 s.2.2.1 (wthL a r c s.2.2.2)) (fun s => n + 1 - s.2.2.2) (h, 0, [], 0) ?_ rfl ⟨Nat.zero_le _, KC.start _ _ _⟩ ?_
  · simp (disch := first | assumption | omega) only [go_sem, Option.map, List.isEmpty, ↓reduceIte, Nat.reduceEqDiff, Nat.reduceAdd, Nat.reduceSub, Nat.reduceMul, Nat.reduceLT, Nat.reduceLeDiff, reduceCtorEq, Nat.reduceBEq, Nat.reduceBNe, Int.reduceNeg, Int.reduceLE, Int.reduceLT, Int.reduceToNat]; (try (refine ⟨?_, ?_⟩ <;> omega)); (try omega)
    all_goals exact ⟨rfl, rfl⟩
  rintro ⟨H, O, ids, i⟩ ⟨hi, hC⟩ n1 hn1
  dsimp only at hi hC hn1 ⊢
  have hL := wthL_length a r c i
  obtain ⟨L, hLe⟩ : ∃ L, L = (wthL a r c i).length := ⟨_, rfl⟩
  have hLb : L ≤ i := by rw [hLe, hL]; split <;> omega
  rw [← hLe] at hL ⊢
  by_cases hil : i < n + 1
  · have hrl := hw i (by omega)
    by_cases hir : i = r
    · have hir' : ((i : Int) != (r : Int)) = false := by simp [hir]
      have hs : wthL a r c (i + 1) = wthL a r c i := by simp only [wthL, if_pos hir, List.append_nil]
      repeat' (first | (first | refine good_seq ?_ | refine good_reg false (fun K hK => ?_) | (refine runL_nil (hK _ _ ?_); clear hK K) | refine runL_none rfl (fun K2 hK2 => ?_) | refine runL_some rfl rfl (fun R S hR hS => ?_) | (refine hK2 _ _ ?_; clear hK2 K2) | (refine hK2 _ _ ?_ ?_ <;> clear hK2 K2) | (refine regW_nil (hK _ _ ?_); clear hK K) | (refine regW_load rfl rfl rfl (fun F1 F2 hF1 hF2 => ?_)) | (refine hF1 _ ?_ ?_ <;> clear hF1 hF2 F1 F2) | (refine hF2 _ _ (fun K2 hK2 => ?_); clear hF1 hF2 F1 F2) | refine regW_light rfl rfl rfl (fun _ _ => rfl) (fun K2 hK2 => ?_) | refine regW_lguard rfl rfl rfl rfl (fun _ _ => rfl) (fun R S hR hS => ?_) | refine regW_heavy rfl rfl (fun K2 hK2 => ?_) | with_reducible refine log_goal ?_ | (refine hR _ (fun K2 hK2 => ?_); clear hR hS R S) | (refine hS _ ?_; clear hR hS R S) | refine good_block ?_ | refine good_skip ?_ | refine good_exit ?_ | refine good_ret ?_ | refine good_cond ?_ | refine And.intro ?_ ?_ | intro _) <;> try simp (disch := first | assumption | omega) only [go_sem, Option.map, List.isEmpty, ↓reduceIte, Nat.reduceEqDiff, Nat.reduceAdd, Nat.reduceSub, Nat.reduceMul, Nat.reduceLT, Nat.reduceLeDiff, reduceCtorEq, Nat.reduceBEq, Nat.reduceBNe, Int.reduceNeg, Int.reduceLE, Int.reduceLT, Int.reduceToNat, hir'] | ((first | fail) <;> try simp (disch := first | assumption | omega) only [go_sem, Option.map, List.isEmpty, ↓reduceIte, Nat.reduceEqDiff, Nat.reduceAdd, Nat.reduceSub, Nat.reduceMul, Nat.reduceLT, Nat.reduceLeDiff, reduceCtorEq, Nat.reduceBEq, Nat.reduceBNe, Int.reduceNeg, Int.reduceLE, Int.reduceLT, Int.reduceToNat, hir']) | omega)
      refine Again.to (H, O, ids, i + 1) ⟨by show i + 1 ≤ n + 1; omega, by rw [hs]; exact hC⟩ (by show n + 1 - (i + 1) < n1; omega) ?_ rfl
      rw [hs, ← hLe]
      simp (disch := first | assumption | omega) only [go_sem, Option.map, List.isEmpty, ↓reduceIte, Nat.reduceEqDiff, Nat.reduceAdd, Nat.reduceSub, Nat.reduceMul, Nat.reduceLT, Nat.reduceLeDiff, reduceCtorEq, Nat.reduceBEq, Nat.reduceBNe, Int.reduceNeg, Int.reduceLE, Int.reduceLT, Int.reduceToNat]; (try (refine ⟨?_, ?_⟩ <;> omega)); (try omega)
    · have hir' : ((i : Int) != (r : Int)) = true := by simp; omega
      have hs : wthL a r c (i + 1) = wthL a r c i ++ [wthR c (a.getD i [])] := by simp only [wthL, if_neg hir]
      have hHn := hC.ext.n
      have hl1 : (List.drop 0 (List.take c (a.getD i []))).length = c := by rw [List.drop_zero, List.length_take]; omega
      have hl2 : (List.drop (c + 1) (List.take (a.getD i []).length (a.getD i []))).length = n - c := by rw [List.take_length, List.length_drop]; omega
      repeat' (first | ((first | refine good_drw (id := 6) mixed true [[], [], [], [], [2, 3], [1, 2, 3, 4], [], [], [7], [6, 7, 8], [1, 2, 3, 4, 5, 6, 7, 8, 9], [1, 2, 3, 4, 5, 6, 7, 8, 9, 10], [0, 1, 2, 3, 4, 5, 6, 7, 8, 9, 10, 11], [0, 1, 2, 3, 4, 5, 6, 7, 8, 9, 10, 11, 12]] [0, 2, 3, 4, 6, 7, 8, 9, 1, 5, 10, 11, 12, 13] (by decide +kernel) (fun K hK => ?_) | (refine appD_gr (xs := []) (N := c) (AH.mk_f H _) (by rw [mk_n]; omega) rfl (by omega) elT_46 szT_2 byT_2 zrT_2 rfl rfl (by omega) (by decide) (fun H1 b1 g1 g2 g3 g4 g5 g6 g7 => ?_)) | (refine appD_gr (N := n) g1 g3 (by rw [List.nil_append, hl1]) (by omega) elT_46 szT_2 byT_2 zrT_2 rfl rfl (by omega) (by decide) (fun H2 b2 k1 k2 k3 k4 k5 k6 k7 => ?_)) | (refine app_basL (y := .bsl b2 0 n (.grow 1)) (cs := ids.map fun b => AV.bsl b 0 n (.grow 1)) ?_ (AH.mk_f _ _) elT_22 szT_46 byT_46 zrT_46 rfl rfl (by omega) (by decide) (fun H' m1 m2 m3 m4 m5 => ?_))) <;> try simp (disch := first | assumption | omega) only [go_sem, Option.map, List.isEmpty, ↓reduceIte, Nat.reduceEqDiff, Nat.reduceAdd, Nat.reduceSub, Nat.reduceMul, Nat.reduceLT, Nat.reduceLeDiff, reduceCtorEq, Nat.reduceBEq, Nat.reduceBNe, Int.reduceNeg, Int.reduceLE, Int.reduceLT, Int.reduceToNat, hir', mk_n]) | (first | refine good_seq ?_ | refine good_reg false (fun K hK => ?_) | (refine runL_nil (hK _ _ ?_); clear hK K) | refine runL_none rfl (fun K2 hK2 => ?_) | refine runL_some rfl rfl (fun R S hR hS => ?_) | (refine hK2 _ _ ?_; clear hK2 K2) | (refine hK2 _ _ ?_ ?_ <;> clear hK2 K2) | (refine regW_nil (hK _ _ ?_); clear hK K) | (refine regW_load rfl rfl rfl (fun F1 F2 hF1 hF2 => ?_)) | (refine hF1 _ ?_ ?_ <;> clear hF1 hF2 F1 F2) | (refine hF2 _ _ (fun K2 hK2 => ?_); clear hF1 hF2 F1 F2) | refine regW_light rfl rfl rfl (fun _ _ => rfl) (fun K2 hK2 => ?_) | refine regW_lguard rfl rfl rfl rfl (fun _ _ => rfl) (fun R S hR hS => ?_) | refine regW_heavy rfl rfl (fun K2 hK2 => ?_) | with_reducible refine log_goal ?_ | (refine hR _ (fun K2 hK2 => ?_); clear hR hS R S) | (refine hS _ ?_; clear hR hS R S) | refine good_block ?_ | refine good_skip ?_ | refine good_exit ?_ | refine good_ret ?_ | refine good_cond ?_ | refine And.intro ?_ ?_ | intro _) <;> try simp (disch := first | assumption | omega) only [go_sem, Option.map, List.isEmpty, ↓reduceIte, Nat.reduceEqDiff, Nat.reduceAdd, Nat.reduceSub, Nat.reduceMul, Nat.reduceLT, Nat.reduceLeDiff, reduceCtorEq, Nat.reduceBEq, Nat.reduceBNe, Int.reduceNeg, Int.reduceLE, Int.reduceLT, Int.reduceToNat, hir', mk_n] | omega)
      · obtain ⟨f1, f2, f3, f4⟩ := hC.fO (by omega)
        have hO2 : H2.n ≠ O := by rw [mk_n] at g4; omega
        rw [mk_ne _ _ (Ne.symm hO2), k5 _ (by omega), g5 _ (by omega), mk_ne _ _ (by omega)]
        exact f1
      · rw [hC.il, hLe]
      · rw [mk_n] at g4
        have hE : Ext H H2 := ⟨by omega, by rw [k6, g6]; exact Nat.le_refl _, fun q hq => by rw [k5 q (by omega), g5 q hq, mk_ne _ _ (by omega)], fun κ _ => by rw [k7, g7]; rfl⟩
        have hx : H2.f b2 = some ((wthR c (a.getD i [])).map (AV.int .i64)) := by
          rw [k1, List.nil_append, List.drop_zero, List.take_length]; rfl
        have hK2 := hC.add (x := wthR c (a.getD i [])) (q := b2) (H' := H') hE ⟨by omega, by omega⟩ hx (by rw [m1]; rfl) (by rw [← hLe]; exact m2) (fun b hb hbO => m3 b hb (fun h0 => hbO (by omega))) m4 m5
        refine Again.to (H', H2.n + 1, ids ++ [b2], i + 1) ⟨by show i + 1 ≤ n + 1; omega, by rw [hs]; exact hK2⟩ (by show n + 1 - (i + 1) < n1; omega) ?_ rfl
        rw [hs, List.length_append, List.length_singleton, ← hLe, basL_pos (n := L + 1) (H2.n + 1) (by omega)]
        simp (disch := first | assumption | omega) only [go_sem, Option.map, List.isEmpty, ↓reduceIte, Nat.reduceEqDiff, Nat.reduceAdd, Nat.reduceSub, Nat.reduceMul, Nat.reduceLT, Nat.reduceLeDiff, reduceCtorEq, Nat.reduceBEq, Nat.reduceBNe, Int.reduceNeg, Int.reduceLE, Int.reduceLT, Int.reduceToNat]; (try (refine ⟨?_, ?_⟩ <;> omega)); (try omega)
  · repeat' (first | (first | refine good_seq ?_ | refine good_reg false (fun K hK => ?_) | (refine runL_nil (hK _ _ ?_); clear hK K) | refine runL_none rfl (fun K2 hK2 => ?_) | refine runL_some rfl rfl (fun R S hR hS => ?_) | (refine hK2 _ _ ?_; clear hK2 K2) | (refine hK2 _ _ ?_ ?_ <;> clear hK2 K2) | (refine regW_nil (hK _ _ ?_); clear hK K) | (refine regW_load rfl rfl rfl (fun F1 F2 hF1 hF2 => ?_)) | (refine hF1 _ ?_ ?_ <;> clear hF1 hF2 F1 F2) | (refine hF2 _ _ (fun K2 hK2 => ?_); clear hF1 hF2 F1 F2) | refine regW_light rfl rfl rfl (fun _ _ => rfl) (fun K2 hK2 => ?_) | refine regW_lguard rfl rfl rfl rfl (fun _ _ => rfl) (fun R S hR hS => ?_) | refine regW_heavy rfl rfl (fun K2 hK2 => ?_) | with_reducible refine log_goal ?_ | (refine hR _ (fun K2 hK2 => ?_); clear hR hS R S) | (refine hS _ ?_; clear hR hS R S) | refine good_block ?_ | refine good_skip ?_ | refine good_exit ?_ | refine good_ret ?_ | refine good_cond ?_ | refine And.intro ?_ ?_ | intro _) <;> try simp (disch := first | assumption | omega) only [go_sem, Option.map, List.isEmpty, ↓reduceIte, Nat.reduceEqDiff, Nat.reduceAdd, Nat.reduceSub, Nat.reduceMul, Nat.reduceLT, Nat.reduceLeDiff, reduceCtorEq, Nat.reduceBEq, Nat.reduceBNe, Int.reduceNeg, Int.reduceLE, Int.reduceLT, Int.reduceToNat] | omega)
    have : i = n + 1 := by omega
    subst this
    rw [if_neg (by omega)] at hL
    exact ⟨O, ids, by rw [hL]; rfl, hC⟩
end Go.Eng
open Go Go.Proofs
set_option linter.unusedVariables false
set_option linter.unusedSimpArgs false
set_option maxRecDepth 4000
set_option maxHeartbeats 40000000
namespace Go.Eng
attribute [local irreducible] Good ACalls runL regW stepW opW gdV' gdD condW gifW binW arW loadW storeW idxAW lenW appW appBW cutW onSome onBnd callW fldAW Again thenQ blockQ resW endQ Up loadR
/-! ### Inverse -/
/-- determinant on rows just appended. -/
theorem c_detW (W : List (List Int)) (k : Nat) (p : Int) (H H1 : AH) (O : Nat) (ids : List Nat) (hp : 2 ≤ p ∧ p ≤ 2147483647) (hC : KC (.grow 1) k H H1 O ids W) (hl : W.length = k) (hw : Wid k W) (hk : 1 ≤ k ∧ k ≤ 1000000) (hR : InR p k W) :
    ACalls Try.prog 49 [basL k O, .int .i64 p] H1 (fun v h' => v = .int .i64 (det k (ent W) % p) ∧ Ext H h') := by
  obtain ⟨hok, hup⟩ := hC.mat (by omega) hw
  obtain ⟨f1, f2, f3, f4⟩ := hC.fO (by omega)
  rw [basL_pos O (by omega)]
  refine ACalls.heap hup ?_
  refine ACalls.mono (c_determinant O ids W k p (.grow 1) H1 hp hok hl hk hR) fun v h' hv => ?_
  obtain ⟨d, ids2, A, rfl, h1, rfl, rfl, h2, h3⟩ := hv
  refine ⟨rfl, hC.ext.n, hC.ext.k, fun b hb => ?_, hC.ext.gr⟩
  rw [mh_other (by omega) (fun hm => by have := (hC.idr b (h3 b hm)).1; omega)]
  exact hC.ext.f b hb
def invG (A : List (List Int)) (k : Nat) (m f : Int) : List (List Int) := (List.range (k + 1)).map fun i => (List.range (k + 1)).map (invI (ent A) k m f i)
def invR (a : List (List Int)) (m : Int) : List (List Int) := if SquareP a ∧ modB m = true ∧ invB (detR a m) m = true then invG (redM a m) (a.length - 1) m (invF (detR a m) m) else []
def invE (a : List (List Int)) (m : Int) : Int := if SquareP a then (if modB m = true then (if invB (detR a m) m = true then 0 else 8) else 1) else 3
/-- The first part: up to the inverse of the determinant. -/
theorem c_Inverse_ok (a : List (List Int)) (k : Nat) (m : Int) (hs : SquareP a) (hk : a.length = k + 1) (hm : modB m = true) (hi : invB (detR a m) m = true) (h : AH) :
    ACalls Try.prog 23 [matV a, .int .i64 m] h (fun v h' => ∃ O ids, v = .tup [.bsl O 0 (k + 1) .full, .int .i64 0] ∧ KP (k + 1) (k + 1) h h' O ids (invG (redM a m) k m (invF (detR a m) m))) := by
  have hmm := modB_spec hm
  have hw := hs.wid
  have hs1 := hs.1.1
  have hs2 := hs.2.2
  have hdr := det_red rfl hw m
  have hd0 : detR a m = det a.length (ent a) % m := by simp [detR, hs, hm]
  have hrw := red_wid hw m
  have hri := red_in hw hmm.1
  obtain ⟨A, hA⟩ : ∃ A, A = redM a m := ⟨_, rfl⟩
  have hAl : A.length = k + 1 := by rw [hA, redM_length, hk]
  have hAA : redM A m = A := by rw [hA]; simp [redM, Int.emod_emod_of_dvd]
  rw [hk, ← hA] at hrw hri
  rw [hk] at hdr hd0 hw
  rw [← hA] at hdr
  obtain ⟨D, hD⟩ : ∃ D, D = det (k + 1) (ent A) % m := ⟨_, rfl⟩
  have hdD : detR a m = D := by rw [hd0, hD, hdr]
  have hDb : 0 ≤ D ∧ D < m := by rw [hD]; exact ⟨Int.emod_nonneg _ (by omega), Int.emod_lt_of_pos _ (by omega)⟩
  have hDt : D.tmod m = D := by rw [tmod_nn hDb.1]; exact Int.emod_eq_of_lt hDb.1 hDb.2
  rw [hdD] at hi ⊢
  obtain ⟨f, hf⟩ : ∃ f, f = invF D m := ⟨_, rfl⟩
  have hfb := invF_bd D hmm.1
  rw [← hf] at hfb
  have hr0 := hrw
  rw [← hA, ← hf]
  obtain ⟨n, hn⟩ : ∃ n, n = k + 1 := ⟨_, rfl⟩
  have hAn : A.length = n := by omega
  have hrwn : Wid n A := by rw [hn]; exact hrw
  have hrin : InR m n A := by rw [hn]; exact hri
  have hDn : D = det n (ent A) % m := by rw [hn]; exact hD
  unfold invG
  rw [← hn]
  refine acalls_of_good 2 88 [.tmp 4, .tmp 5] Try.func23 rfl rfl (by kernel_rfl) rfl rfl (by decide) ?_
  simp (disch := first | assumption | omega) only [go_sem, Option.map, List.isEmpty, ↓reduceIte, Nat.reduceEqDiff, Nat.reduceAdd, Nat.reduceSub, Nat.reduceMul, Nat.reduceLT, Nat.reduceLeDiff, reduceCtorEq, Nat.reduceBEq, Nat.reduceBNe, Int.reduceNeg, Int.reduceLE, Int.reduceLT, Int.reduceToNat]
  repeat' (first | (first | refine good_seq ?_ | refine good_reg false (fun K hK => ?_) | (refine runL_nil (hK _ _ ?_); clear hK K) | refine runL_none rfl (fun K2 hK2 => ?_) | refine runL_some rfl rfl (fun R S hR hS => ?_) | (refine hK2 _ _ ?_; clear hK2 K2) | (refine hK2 _ _ ?_ ?_ <;> clear hK2 K2) | (refine regW_nil (hK _ _ ?_); clear hK K) | (refine regW_load rfl rfl rfl (fun F1 F2 hF1 hF2 => ?_)) | (refine hF1 _ ?_ ?_ <;> clear hF1 hF2 F1 F2) | (refine hF2 _ _ (fun K2 hK2 => ?_); clear hF1 hF2 F1 F2) | refine regW_light rfl rfl rfl (fun _ _ => rfl) (fun K2 hK2 => ?_) | refine regW_lguard rfl rfl rfl rfl (fun _ _ => rfl) (fun R S hR hS => ?_) | refine regW_heavy rfl rfl (fun K2 hK2 => ?_) | with_reducible refine log_goal ?_ | (refine hR _ (fun K2 hK2 => ?_); clear hR hS R S) | (refine hS _ ?_; clear hR hS R S) | refine good_block ?_ | refine good_skip ?_ | refine good_exit ?_ | refine good_ret ?_ | refine good_cond ?_ | refine And.intro ?_ ?_ | intro _) <;> try simp (disch := first | assumption | omega) only [go_sem, Option.map, List.isEmpty, ↓reduceIte, Nat.reduceEqDiff, Nat.reduceAdd, Nat.reduceSub, Nat.reduceMul, Nat.reduceLT, Nat.reduceLeDiff, reduceCtorEq, Nat.reduceBEq, Nat.reduceBNe, Int.reduceNeg, Int.reduceLE, Int.reduceLT, Int.reduceToNat, hDt, hAn] | ((first | (refine ACalls.mono (c_square a _) (fun v h' hv' => ?_); obtain ⟨rfl, hh⟩ := hv'; subst h'; rw [decide_eq_true hs]) | (refine ACalls.mono (c_modulus _ _) (fun v h' hv' => ?_); obtain ⟨rfl, hh⟩ := hv'; subst h'; rw [hm]) | (refine ACalls.mono (c_reducedV a (k + 1) m (by omega) (by omega) (fun i hi => hw i hi) _) (fun v h' hv' => ?_); obtain ⟨rfl, hh⟩ := hv'; subst h'; rw [← hA]) | (refine ACalls.mono (c_reduced A (k + 1) m (by omega) (by omega) (fun i hi => hrw i hi) _) (fun v h' hv' => ?_); obtain ⟨rfl, hh⟩ := hv'; rw [show (A.map fun r => r.map (· % m)) = A from hAA, hAl, ← hn] at hh; subst h'; rw [hAl, ← hn]) | (refine ACalls.mono (c_detP A n m _ (by omega) hAn hrwn (by omega) hrin) (fun v h0 hv' => ?_); obtain ⟨rfl, hx⟩ := hv'; rw [← hDn]) | (refine ACalls.mono (c_inverseF _ _ (by omega) hDb _) (fun v h' hv' => ?_); obtain ⟨rfl, hh⟩ := hv'; subst h'; rw [hi, ← hf])) <;> try simp (disch := first | assumption | omega) only [go_sem, Option.map, List.isEmpty, ↓reduceIte, Nat.reduceEqDiff, Nat.reduceAdd, Nat.reduceSub, Nat.reduceMul, Nat.reduceLT, Nat.reduceLeDiff, reduceCtorEq, Nat.reduceBEq, Nat.reduceBNe, Int.reduceNeg, Int.reduceLE, Int.reduceLT, Int.reduceToNat, hDt, hAn]) | omega)
  -- the rows
  have hG := KP.start (n := n) (N := n) hx
  have hc0 : List.replicate n AV.nils = cellsP n n [] := (cellsP_nil _ _).symm
  refine good_loop_s (σ := AH × List Nat × List (List Int)) (fun s => [(0, matV A), (1, .int .i64 m), (6, .int .i64 f), (8, .bsl h0.n 0 n .full), (39, .int .i64 n), (40, .int .i64 s.2.2.length)]) (fun s => s.1)
    (fun s => (s.2.2.length ≤ n ∧ s.2.2 = (List.range s.2.2.length).map fun i => (List.range n).map (invI (ent A) k m f i)) ∧ KP n n h s.1 h0.n s.2.1 s.2.2) (fun s => n - s.2.2.length) (h0.mk_ (List.replicate n .nils), [], []) ?_ rfl ⟨⟨Nat.zero_le _, rfl⟩, hG⟩ ?_
  · simp (disch := first | assumption | omega) only [go_sem, Option.map, List.isEmpty, ↓reduceIte, Nat.reduceEqDiff, Nat.reduceAdd, Nat.reduceSub, Nat.reduceMul, Nat.reduceLT, Nat.reduceLeDiff, reduceCtorEq, Nat.reduceBEq, Nat.reduceBNe, Int.reduceNeg, Int.reduceLE, Int.reduceLT, Int.reduceToNat]; (try (refine ⟨?_, ?_⟩ <;> omega)); (try omega)
  clear hG hc0
  rintro ⟨H, ids, M⟩ ⟨⟨hMl, hMe⟩, hC⟩ n1 hn1
  dsimp only at hMl hMe hC hn1 ⊢
  obtain ⟨i, hie⟩ : ∃ i, i = M.length := ⟨_, rfl⟩
  rw [← hie] at hMl hMe hn1 ⊢
  have hfO := hC.fO
  have hOb := hC.hO
  have hil : ids.length = i := by rw [hC.il, hie]
  by_cases hik : i = n
  · repeat' (first | (first | refine good_seq ?_ | refine good_reg false (fun K hK => ?_) | (refine runL_nil (hK _ _ ?_); clear hK K) | refine runL_none rfl (fun K2 hK2 => ?_) | refine runL_some rfl rfl (fun R S hR hS => ?_) | (refine hK2 _ _ ?_; clear hK2 K2) | (refine hK2 _ _ ?_ ?_ <;> clear hK2 K2) | (refine regW_nil (hK _ _ ?_); clear hK K) | (refine regW_load rfl rfl rfl (fun F1 F2 hF1 hF2 => ?_)) | (refine hF1 _ ?_ ?_ <;> clear hF1 hF2 F1 F2) | (refine hF2 _ _ (fun K2 hK2 => ?_); clear hF1 hF2 F1 F2) | refine regW_light rfl rfl rfl (fun _ _ => rfl) (fun K2 hK2 => ?_) | refine regW_lguard rfl rfl rfl rfl (fun _ _ => rfl) (fun R S hR hS => ?_) | refine regW_heavy rfl rfl (fun K2 hK2 => ?_) | with_reducible refine log_goal ?_ | (refine hR _ (fun K2 hK2 => ?_); clear hR hS R S) | (refine hS _ ?_; clear hR hS R S) | refine good_block ?_ | refine good_skip ?_ | refine good_exit ?_ | refine good_ret ?_ | refine good_cond ?_ | refine And.intro ?_ ?_ | intro _) <;> try simp (disch := first | assumption | omega) only [go_sem, Option.map, List.isEmpty, ↓reduceIte, Nat.reduceEqDiff, Nat.reduceAdd, Nat.reduceSub, Nat.reduceMul, Nat.reduceLT, Nat.reduceLeDiff, reduceCtorEq, Nat.reduceBEq, Nat.reduceBNe, Int.reduceNeg, Int.reduceLE, Int.reduceLT, Int.reduceToNat] | omega)
    refine ⟨h0.n, ids, rfl, ?_⟩
    rw [hik] at hMe
    rw [← hMe]; exact hC
  have hcl := cellsP_length (n := n) (N := n) (ids := ids) (by omega)
  have hcs := cellsP_set (n := n) (N := n) (q := H.n) (ids := ids) (by omega)
  rw [hil] at hcs
  have hcg := cellsP_last (n := n) (N := n) (q := H.n) (ids := ids)
  rw [hil] at hcg
  have hcl2 := cellsP_length (n := n) (N := n) (ids := ids ++ [H.n]) (by simp; omega)
  have hfO2 : ∀ z, (H.mk_ z).f h0.n = some (cellsP n n ids) := fun z => by rw [mk_ne _ _ (by omega)]; exact hfO
  repeat' (first | (first | refine good_seq ?_ | refine good_reg false (fun K hK => ?_) | (refine runL_nil (hK _ _ ?_); clear hK K) | refine runL_none rfl (fun K2 hK2 => ?_) | refine runL_some rfl rfl (fun R S hR hS => ?_) | (refine hK2 _ _ ?_; clear hK2 K2) | (refine hK2 _ _ ?_ ?_ <;> clear hK2 K2) | (refine regW_nil (hK _ _ ?_); clear hK K) | (refine regW_load rfl rfl rfl (fun F1 F2 hF1 hF2 => ?_)) | (refine hF1 _ ?_ ?_ <;> clear hF1 hF2 F1 F2) | (refine hF2 _ _ (fun K2 hK2 => ?_); clear hF1 hF2 F1 F2) | refine regW_light rfl rfl rfl (fun _ _ => rfl) (fun K2 hK2 => ?_) | refine regW_lguard rfl rfl rfl rfl (fun _ _ => rfl) (fun R S hR hS => ?_) | refine regW_heavy rfl rfl (fun K2 hK2 => ?_) | with_reducible refine log_goal ?_ | (refine hR _ (fun K2 hK2 => ?_); clear hR hS R S) | (refine hS _ ?_; clear hR hS R S) | refine good_block ?_ | refine good_skip ?_ | refine good_exit ?_ | refine good_ret ?_ | refine good_cond ?_ | refine And.intro ?_ ?_ | intro _) <;> try simp (disch := first | assumption | omega) only [go_sem, Option.map, List.isEmpty, ↓reduceIte, Nat.reduceEqDiff, Nat.reduceAdd, Nat.reduceSub, Nat.reduceMul, Nat.reduceLT, Nat.reduceLeDiff, reduceCtorEq, Nat.reduceBEq, Nat.reduceBNe, Int.reduceNeg, Int.reduceLE, Int.reduceLT, Int.reduceToNat, hAn, hfO2, hcl, hcs] | ((first | fail) <;> try simp (disch := first | assumption | omega) only [go_sem, Option.map, List.isEmpty, ↓reduceIte, Nat.reduceEqDiff, Nat.reduceAdd, Nat.reduceSub, Nat.reduceMul, Nat.reduceLT, Nat.reduceLeDiff, reduceCtorEq, Nat.reduceBEq, Nat.reduceBNe, Int.reduceNeg, Int.reduceLE, Int.reduceLT, Int.reduceToNat, hAn, hfO2, hcl, hcs]) | omega)
  obtain ⟨Hr, hHr⟩ : ∃ x, x = (H.mk_ ((List.replicate n (0 : Int)).map (AV.int .i64))).put h0.n (cellsP n n (ids ++ [H.n])) := ⟨_, rfl⟩
  have hHrn : Hr.n = H.n + 1 := by rw [hHr]; rfl
  have hHrO : Hr.f h0.n = some (cellsP n n (ids ++ [H.n])) := by rw [hHr, AH.put_f]
  have hHrq : Hr.f H.n = some ((List.replicate n (0 : Int)).map (AV.int .i64)) := by rw [hHr, AH.put_ne _ _ (by omega), AH.mk_f]
  rw [← hHr]
  refine good_loop_s (σ := AH × Nat) (fun s => [(0, matV A), (1, .int .i64 m), (6, .int .i64 f), (8, .bsl h0.n 0 n .full), (9, .int .i64 i), (39, .int .i64 n), (40, .int .i64 i), (50, .int .i64 n), (51, .int .i64 s.2)]) (fun s => s.1)
    (fun s => s.2 ≤ n ∧ Ext1 H.n Hr s.1 ∧ s.1.f H.n = some ((fillI (invI (ent A) k m f i) n s.2).map (AV.int .i64))) (fun s => n - s.2) (Hr, 0) ?_ rfl ⟨Nat.zero_le _, Ext1.refl _ _, by rw [hHrq, fillI_zero]⟩ ?_
  · simp (disch := first | assumption | omega) only [go_sem, Option.map, List.isEmpty, ↓reduceIte, Nat.reduceEqDiff, Nat.reduceAdd, Nat.reduceSub, Nat.reduceMul, Nat.reduceLT, Nat.reduceLeDiff, reduceCtorEq, Nat.reduceBEq, Nat.reduceBNe, Int.reduceNeg, Int.reduceLE, Int.reduceLT, Int.reduceToNat]; (try (refine ⟨?_, ?_⟩ <;> omega)); (try omega)
  rintro ⟨G, j⟩ ⟨hj, hE, hq⟩ n2 hn2
  dsimp only at hj hE hq hn2 ⊢
  have hGn := hE.n
  have hGO : G.f h0.n = some (cellsP n n (ids ++ [H.n])) := by rw [hE.f _ (by omega) (by omega), hHrO]
  by_cases hjk : j = n
  · have hK2 := hC.add (by omega) hHr hE (x := fillI (invI (ent A) k m f i) n j) hq
    rw [hjk, fillI_full] at hK2
    repeat' (first | (first | refine good_seq ?_ | refine good_reg false (fun K hK => ?_) | (refine runL_nil (hK _ _ ?_); clear hK K) | refine runL_none rfl (fun K2 hK2 => ?_) | refine runL_some rfl rfl (fun R S hR hS => ?_) | (refine hK2 _ _ ?_; clear hK2 K2) | (refine hK2 _ _ ?_ ?_ <;> clear hK2 K2) | (refine regW_nil (hK _ _ ?_); clear hK K) | (refine regW_load rfl rfl rfl (fun F1 F2 hF1 hF2 => ?_)) | (refine hF1 _ ?_ ?_ <;> clear hF1 hF2 F1 F2) | (refine hF2 _ _ (fun K2 hK2 => ?_); clear hF1 hF2 F1 F2) | refine regW_light rfl rfl rfl (fun _ _ => rfl) (fun K2 hK2 => ?_) | refine regW_lguard rfl rfl rfl rfl (fun _ _ => rfl) (fun R S hR hS => ?_) | refine regW_heavy rfl rfl (fun K2 hK2 => ?_) | with_reducible refine log_goal ?_ | (refine hR _ (fun K2 hK2 => ?_); clear hR hS R S) | (refine hS _ ?_; clear hR hS R S) | refine good_block ?_ | refine good_skip ?_ | refine good_exit ?_ | refine good_ret ?_ | refine good_cond ?_ | refine And.intro ?_ ?_ | intro _) <;> try simp (disch := first | assumption | omega) only [go_sem, Option.map, List.isEmpty, ↓reduceIte, Nat.reduceEqDiff, Nat.reduceAdd, Nat.reduceSub, Nat.reduceMul, Nat.reduceLT, Nat.reduceLeDiff, reduceCtorEq, Nat.reduceBEq, Nat.reduceBNe, Int.reduceNeg, Int.reduceLE, Int.reduceLT, Int.reduceToNat] | omega)
    refine Again.to (G, ids ++ [H.n], M ++ [(List.range n).map (invI (ent A) k m f i)]) ⟨⟨by show (M ++ [_]).length ≤ n; rw [List.length_append, ← hie]; simp; omega, ?_⟩, hK2⟩ (by show n - (M ++ [_]).length < n1; rw [List.length_append, ← hie]; simp; omega) ?_ rfl
    · show M ++ [_] = _
      rw [List.length_append, ← hie, List.length_singleton, range_snoc, ← hMe]
    · rw [List.length_append, ← hie, List.length_singleton]
      simp (disch := first | assumption | omega) only [go_sem, Option.map, List.isEmpty, ↓reduceIte, Nat.reduceEqDiff, Nat.reduceAdd, Nat.reduceSub, Nat.reduceMul, Nat.reduceLT, Nat.reduceLeDiff, reduceCtorEq, Nat.reduceBEq, Nat.reduceBNe, Int.reduceNeg, Int.reduceLE, Int.reduceLT, Int.reduceToNat]; (try (refine ⟨?_, ?_⟩ <;> omega)); (try omega)
  have hfl := fillI_length (f := invI (ent A) k m f i) hj
  have hfs := fillI_set (f := invI (ent A) k m f i) (show j < n by omega)
  obtain ⟨d, hd⟩ : ∃ d, d = det k (mnr j i (ent A)) % m := ⟨_, rfl⟩
  have hdb : 0 ≤ d ∧ d < m := by rw [hd]; exact ⟨Int.emod_nonneg _ (by omega), Int.emod_lt_of_pos _ (by omega)⟩
  have hdt : d.tmod m = d := by rw [tmod_nn hdb.1]; exact Int.emod_eq_of_lt hdb.1 hdb.2
  have hpar : ((i : Int) + (j : Int)).tmod 2 = (((i + j) % 2 : Nat) : Int) := by rw [tmod_nn (by omega)]; omega
  have hadj : adjE (ent A) k m i j = if (i + j) % 2 = 1 then (-d) % m else d := by rw [hd]; rfl
  have hgj : invI (ent A) k m f i j = adjE (ent A) k m i j * f % m := rfl
  have hab := adjE_bd (ent A) k hmm.1 i j
  have hmb := mul_bd hmm.2 hab hfb
  have hmt : (adjE (ent A) k m i j * f).tmod m = adjE (ent A) k m i j * f % m := tmod_nn hmb.1
  by_cases hk0 : k = 0
  · have hp0 : (i + j) % 2 = 0 := by omega
    have hd1 : d = 1 := by rw [hd, hk0]; show (1 : Int) % m = 1; exact Int.emod_eq_of_lt (by omega) (by omega)
    rw [hp0] at hpar
    rw [if_neg (by omega), hd1] at hadj
    rw [hadj] at hgj hmb hmt hab
    rw [← hgj] at hmt
    have hE3 : Ext1 H.n Hr (G.put H.n ((fillI (invI (ent A) k m f i) n (j + 1)).map (AV.int .i64))) := hE.put _
    repeat' (first | (first | refine good_seq ?_ | refine good_reg false (fun K hK => ?_) | (refine runL_nil (hK _ _ ?_); clear hK K) | refine runL_none rfl (fun K2 hK2 => ?_) | refine runL_some rfl rfl (fun R S hR hS => ?_) | (refine hK2 _ _ ?_; clear hK2 K2) | (refine hK2 _ _ ?_ ?_ <;> clear hK2 K2) | (refine regW_nil (hK _ _ ?_); clear hK K) | (refine regW_load rfl rfl rfl (fun F1 F2 hF1 hF2 => ?_)) | (refine hF1 _ ?_ ?_ <;> clear hF1 hF2 F1 F2) | (refine hF2 _ _ (fun K2 hK2 => ?_); clear hF1 hF2 F1 F2) | refine regW_light rfl rfl rfl (fun _ _ => rfl) (fun K2 hK2 => ?_) | refine regW_lguard rfl rfl rfl rfl (fun _ _ => rfl) (fun R S hR hS => ?_) | refine regW_heavy rfl rfl (fun K2 hK2 => ?_) | with_reducible refine log_goal ?_ | (refine hR _ (fun K2 hK2 => ?_); clear hR hS R S) | (refine hS _ ?_; clear hR hS R S) | refine good_block ?_ | refine good_skip ?_ | refine good_exit ?_ | refine good_ret ?_ | refine good_cond ?_ | refine And.intro ?_ ?_ | intro _) <;> try simp (disch := first | assumption | omega) only [go_sem, Option.map, List.isEmpty, ↓reduceIte, Nat.reduceEqDiff, Nat.reduceAdd, Nat.reduceSub, Nat.reduceMul, Nat.reduceLT, Nat.reduceLeDiff, reduceCtorEq, Nat.reduceBEq, Nat.reduceBNe, Int.reduceNeg, Int.reduceLE, Int.reduceLT, Int.reduceToNat, hAn, hpar, hdt, hGO, hq, hcl2, hcg, hmt, hfl, hfs, Int.zero_sub, Int.ofNat_zero, Int.natCast_zero] | ((first | refine good_drw (id := 22) mixed false [[], [], [0, 1], [0, 1, 2], [], [], [], [5, 6], [], [5, 6, 7, 8], [0, 1, 2, 3, 4, 5, 6, 7, 8, 9], [0, 1, 2, 3, 4, 5, 6, 7, 8, 9, 10]] [0, 1, 2, 3, 4, 5, 6, 7, 8, 9, 10, 11] (by decide +kernel) (fun K hK => ?_)) <;> try simp (disch := first | assumption | omega) only [go_sem, Option.map, List.isEmpty, ↓reduceIte, Nat.reduceEqDiff, Nat.reduceAdd, Nat.reduceSub, Nat.reduceMul, Nat.reduceLT, Nat.reduceLeDiff, reduceCtorEq, Nat.reduceBEq, Nat.reduceBNe, Int.reduceNeg, Int.reduceLE, Int.reduceLT, Int.reduceToNat, hAn, hpar, hdt, hGO, hq, hcl2, hcg, hmt, hfl, hfs, Int.zero_sub, Int.ofNat_zero, Int.natCast_zero]) | omega)
    refine Again.to (G.put H.n ((fillI (invI (ent A) k m f i) n (j + 1)).map (AV.int .i64)), j + 1) ⟨by show j + 1 ≤ n; omega, hE3, AH.put_f _ _ _⟩ (by show n - (j + 1) < n2; omega) ?_ rfl
    simp (disch := first | assumption | omega) only [go_sem, Option.map, List.isEmpty, ↓reduceIte, Nat.reduceEqDiff, Nat.reduceAdd, Nat.reduceSub, Nat.reduceMul, Nat.reduceLT, Nat.reduceLeDiff, reduceCtorEq, Nat.reduceBEq, Nat.reduceBNe, Int.reduceNeg, Int.reduceLE, Int.reduceLT, Int.reduceToNat]; (try (refine ⟨?_, ?_⟩ <;> omega)); (try omega)
  · obtain ⟨w1, w2, w3⟩ := wth_spec (r := j) (c := i) hAl hrw (by omega) (by omega)
    have w4 := wth_in (r := j) (c := i) hAl hrw (by omega) (by omega) hri
    have w5 : det k (ent (wthL A j i (k + 1))) % m = d := by rw [hd, det_congr w3]
    repeat' (first | (first | refine good_seq ?_ | refine good_reg false (fun K hK => ?_) | (refine runL_nil (hK _ _ ?_); clear hK K) | refine runL_none rfl (fun K2 hK2 => ?_) | refine runL_some rfl rfl (fun R S hR hS => ?_) | (refine hK2 _ _ ?_; clear hK2 K2) | (refine hK2 _ _ ?_ ?_ <;> clear hK2 K2) | (refine regW_nil (hK _ _ ?_); clear hK K) | (refine regW_load rfl rfl rfl (fun F1 F2 hF1 hF2 => ?_)) | (refine hF1 _ ?_ ?_ <;> clear hF1 hF2 F1 F2) | (refine hF2 _ _ (fun K2 hK2 => ?_); clear hF1 hF2 F1 F2) | refine regW_light rfl rfl rfl (fun _ _ => rfl) (fun K2 hK2 => ?_) | refine regW_lguard rfl rfl rfl rfl (fun _ _ => rfl) (fun R S hR hS => ?_) | refine regW_heavy rfl rfl (fun K2 hK2 => ?_) | with_reducible refine log_goal ?_ | (refine hR _ (fun K2 hK2 => ?_); clear hR hS R S) | (refine hS _ ?_; clear hR hS R S) | refine good_block ?_ | refine good_skip ?_ | refine good_exit ?_ | refine good_ret ?_ | refine good_cond ?_ | refine And.intro ?_ ?_ | intro _) <;> try simp (disch := first | assumption | omega) only [go_sem, Option.map, List.isEmpty, ↓reduceIte, Nat.reduceEqDiff, Nat.reduceAdd, Nat.reduceSub, Nat.reduceMul, Nat.reduceLT, Nat.reduceLeDiff, reduceCtorEq, Nat.reduceBEq, Nat.reduceBNe, Int.reduceNeg, Int.reduceLE, Int.reduceLT, Int.reduceToNat, hAn, hpar] | ((first | (refine ACalls.mono (c_without A k j i hAl (by omega) hrw (by omega) (by omega) _) (fun v h2 hv => ?_); obtain ⟨O2, ids2, rfl, hW⟩ := hv)) <;> try simp (disch := first | assumption | omega) only [go_sem, Option.map, List.isEmpty, ↓reduceIte, Nat.reduceEqDiff, Nat.reduceAdd, Nat.reduceSub, Nat.reduceMul, Nat.reduceLT, Nat.reduceLeDiff, reduceCtorEq, Nat.reduceBEq, Nat.reduceBNe, Int.reduceNeg, Int.reduceLE, Int.reduceLT, Int.reduceToNat, hAn, hpar]) | omega)
    refine ACalls.mono (c_detW (wthL A j i (k + 1)) k m G h2 O2 ids2 (by omega) hW w1 w2 (by omega) w4) (fun v h3 hv => ?_)
    obtain ⟨rfl, hx3⟩ := hv
    rw [w5]
    have hO3 : h3.f h0.n = some (cellsP n n (ids ++ [H.n])) := by rw [hx3.f _ (by omega)]; exact hGO
    have hq3 : h3.f H.n = some ((fillI (invI (ent A) k m f i) n j).map (AV.int .i64)) := by rw [hx3.f _ (by omega)]; exact hq
    have hE3 : Ext1 H.n Hr (h3.put H.n ((fillI (invI (ent A) k m f i) n (j + 1)).map (AV.int .i64))) := (hE.ext hx3).put _
    clear hW w1 w2 w3 w4 w5 hq hGO hC hHr hfO hfO2 hHrO hHrq hcl hcs hMe
    by_cases hp : (i + j) % 2 = 1
    · rw [hp] at hpar
      rw [if_pos hp] at hadj
      rw [hadj] at hgj hmb hmt hab
      rw [← hgj] at hmt
      repeat' (first | (first | refine good_seq ?_ | refine good_reg false (fun K hK => ?_) | (refine runL_nil (hK _ _ ?_); clear hK K) | refine runL_none rfl (fun K2 hK2 => ?_) | refine runL_some rfl rfl (fun R S hR hS => ?_) | (refine hK2 _ _ ?_; clear hK2 K2) | (refine hK2 _ _ ?_ ?_ <;> clear hK2 K2) | (refine regW_nil (hK _ _ ?_); clear hK K) | (refine regW_load rfl rfl rfl (fun F1 F2 hF1 hF2 => ?_)) | (refine hF1 _ ?_ ?_ <;> clear hF1 hF2 F1 F2) | (refine hF2 _ _ (fun K2 hK2 => ?_); clear hF1 hF2 F1 F2) | refine regW_light rfl rfl rfl (fun _ _ => rfl) (fun K2 hK2 => ?_) | refine regW_lguard rfl rfl rfl rfl (fun _ _ => rfl) (fun R S hR hS => ?_) | refine regW_heavy rfl rfl (fun K2 hK2 => ?_) | with_reducible refine log_goal ?_ | (refine hR _ (fun K2 hK2 => ?_); clear hR hS R S) | (refine hS _ ?_; clear hR hS R S) | refine good_block ?_ | refine good_skip ?_ | refine good_exit ?_ | refine good_ret ?_ | refine good_cond ?_ | refine And.intro ?_ ?_ | intro _) <;> try simp (disch := first | assumption | omega) only [go_sem, Option.map, List.isEmpty, ↓reduceIte, Nat.reduceEqDiff, Nat.reduceAdd, Nat.reduceSub, Nat.reduceMul, Nat.reduceLT, Nat.reduceLeDiff, reduceCtorEq, Nat.reduceBEq, Nat.reduceBNe, Int.reduceNeg, Int.reduceLE, Int.reduceLT, Int.reduceToNat, hAn, hpar, hdt, hO3, hq3, hcl2, hcg, hmt, hfl, hfs, Int.zero_sub, Int.ofNat_one, Int.natCast_one] | ((first | refine good_drw (id := 22) mixed false [[], [], [0, 1], [0, 1, 2], [], [], [], [5, 6], [], [5, 6, 7, 8], [0, 1, 2, 3, 4, 5, 6, 7, 8, 9], [0, 1, 2, 3, 4, 5, 6, 7, 8, 9, 10]] [0, 1, 2, 3, 4, 5, 6, 7, 8, 9, 10, 11] (by decide +kernel) (fun K hK => ?_) | (refine ACalls.mono (c_residue _ _ (by omega) _) (fun v h' hv => ?_); obtain ⟨rfl, hh⟩ := hv; subst h')) <;> try simp (disch := first | assumption | omega) only [go_sem, Option.map, List.isEmpty, ↓reduceIte, Nat.reduceEqDiff, Nat.reduceAdd, Nat.reduceSub, Nat.reduceMul, Nat.reduceLT, Nat.reduceLeDiff, reduceCtorEq, Nat.reduceBEq, Nat.reduceBNe, Int.reduceNeg, Int.reduceLE, Int.reduceLT, Int.reduceToNat, hAn, hpar, hdt, hO3, hq3, hcl2, hcg, hmt, hfl, hfs, Int.zero_sub, Int.ofNat_one, Int.natCast_one]) | omega)
      refine Again.to (h3.put H.n ((fillI (invI (ent A) k m f i) n (j + 1)).map (AV.int .i64)), j + 1) ⟨by show j + 1 ≤ n; omega, hE3, AH.put_f _ _ _⟩ (by show n - (j + 1) < n2; omega) ?_ rfl
      simp (disch := first | assumption | omega) only [go_sem, Option.map, List.isEmpty, ↓reduceIte, Nat.reduceEqDiff, Nat.reduceAdd, Nat.reduceSub, Nat.reduceMul, Nat.reduceLT, Nat.reduceLeDiff, reduceCtorEq, Nat.reduceBEq, Nat.reduceBNe, Int.reduceNeg, Int.reduceLE, Int.reduceLT, Int.reduceToNat]; (try (refine ⟨?_, ?_⟩ <;> omega)); (try omega)
    · have hp0 : (i + j) % 2 = 0 := by omega
      rw [hp0] at hpar
      rw [if_neg hp] at hadj
      rw [hadj] at hgj hmb hmt hab
      rw [← hgj] at hmt
      repeat' (first | (first | refine good_seq ?_ | refine good_reg false (fun K hK => ?_) | (refine runL_nil (hK _ _ ?_); clear hK K) | refine runL_none rfl (fun K2 hK2 => ?_) | refine runL_some rfl rfl (fun R S hR hS => ?_) | (refine hK2 _ _ ?_; clear hK2 K2) | (refine hK2 _ _ ?_ ?_ <;> clear hK2 K2) | (refine regW_nil (hK _ _ ?_); clear hK K) | (refine regW_load rfl rfl rfl (fun F1 F2 hF1 hF2 => ?_)) | (refine hF1 _ ?_ ?_ <;> clear hF1 hF2 F1 F2) | (refine hF2 _ _ (fun K2 hK2 => ?_); clear hF1 hF2 F1 F2) | refine regW_light rfl rfl rfl (fun _ _ => rfl) (fun K2 hK2 => ?_) | refine regW_lguard rfl rfl rfl rfl (fun _ _ => rfl) (fun R S hR hS => ?_) | refine regW_heavy rfl rfl (fun K2 hK2 => ?_) | with_reducible refine log_goal ?_ | (refine hR _ (fun K2 hK2 => ?_); clear hR hS R S) | (refine hS _ ?_; clear hR hS R S) | refine good_block ?_ | refine good_skip ?_ | refine good_exit ?_ | refine good_ret ?_ | refine good_cond ?_ | refine And.intro ?_ ?_ | intro _) <;> try simp (disch := first | assumption | omega) only [go_sem, Option.map, List.isEmpty, ↓reduceIte, Nat.reduceEqDiff, Nat.reduceAdd, Nat.reduceSub, Nat.reduceMul, Nat.reduceLT, Nat.reduceLeDiff, reduceCtorEq, Nat.reduceBEq, Nat.reduceBNe, Int.reduceNeg, Int.reduceLE, Int.reduceLT, Int.reduceToNat, hAn, hpar, hdt, hO3, hq3, hcl2, hcg, hmt, hfl, hfs, Int.zero_sub, Int.ofNat_zero, Int.natCast_zero] | ((first | refine good_drw (id := 22) mixed false [[], [], [0, 1], [0, 1, 2], [], [], [], [5, 6], [], [5, 6, 7, 8], [0, 1, 2, 3, 4, 5, 6, 7, 8, 9], [0, 1, 2, 3, 4, 5, 6, 7, 8, 9, 10]] [0, 1, 2, 3, 4, 5, 6, 7, 8, 9, 10, 11] (by decide +kernel) (fun K hK => ?_)) <;> try simp (disch := first | assumption | omega) only [go_sem, Option.map, List.isEmpty, ↓reduceIte, Nat.reduceEqDiff, Nat.reduceAdd, Nat.reduceSub, Nat.reduceMul, Nat.reduceLT, Nat.reduceLeDiff, reduceCtorEq, Nat.reduceBEq, Nat.reduceBNe, Int.reduceNeg, Int.reduceLE, Int.reduceLT, Int.reduceToNat, hAn, hpar, hdt, hO3, hq3, hcl2, hcg, hmt, hfl, hfs, Int.zero_sub, Int.ofNat_zero, Int.natCast_zero]) | omega)
      refine Again.to (h3.put H.n ((fillI (invI (ent A) k m f i) n (j + 1)).map (AV.int .i64)), j + 1) ⟨by show j + 1 ≤ n; omega, hE3, AH.put_f _ _ _⟩ (by show n - (j + 1) < n2; omega) ?_ rfl
      simp (disch := first | assumption | omega) only [go_sem, Option.map, List.isEmpty, ↓reduceIte, Nat.reduceEqDiff, Nat.reduceAdd, Nat.reduceSub, Nat.reduceMul, Nat.reduceLT, Nat.reduceLeDiff, reduceCtorEq, Nat.reduceBEq, Nat.reduceBNe, Int.reduceNeg, Int.reduceLE, Int.reduceLT, Int.reduceToNat]; (try (refine ⟨?_, ?_⟩ <;> omega)); (try omega)
theorem invG_wid (A : List (List Int)) (k : Nat) (m f : Int) : (invG A k m f).length = k + 1 ∧ Wid (k + 1) (invG A k m f) := by
  refine ⟨by simp [invG], fun i hi => ?_⟩
  have hi' : i < k + 1 := by simpa [invG] using hi
  unfold invG
  rw [map_range_getL _ hi']; simp
theorem invG_ent (A : List (List Int)) (k : Nat) (m f : Int) {i j : Nat} (hi : i < k + 1) (hj : j < k + 1) : ent (invG A k m f) i j = invI (ent A) k m f i j := by
  show ((invG A k m f).getD i []).getD j 0 = _
  unfold invG
  rw [map_range_getL _ hi, map_range_get _ hj]
theorem c_Inverse (a : List (List Int)) (m : Int) (h : AH) : ACalls Try.prog 23 [matV a, .int .i64 m] h (fun v h' => v = .tup [matV (invR a m), .int .i64 (invE a m)] ∧ h' = h) := by
  by_cases hs : SquareP a
  · by_cases hm : modB m = true
    · have hmm := modB_spec hm
      have hw := hs.wid
      have hs1 := hs.1.1
      have hs2 := hs.2.2
      by_cases hi : invB (detR a m) m = true
      · have hk : a.length = (a.length - 1) + 1 := by omega
        rw [show invR a m = invG (redM a m) (a.length - 1) m (invF (detR a m) m) by simp [invR, hs, hm, hi], show invE a m = 0 by simp [invE, hs, hm, hi]]
        refine ACalls.frozenK (ACalls.upH (ACalls.mono (c_Inverse_ok a (a.length - 1) m hs hk hm hi h) fun v h' hv => ?_))
        obtain ⟨O, ids, rfl, hC⟩ := hv
        obtain ⟨g1, g2⟩ := invG_wid (redM a m) (a.length - 1) m (invF (detR a m) m)
        have hkc := hC.kc g1
        obtain ⟨hok, hup⟩ := hkc.mat (by omega) g2
        refine ⟨_, _, Up.tup2 (Up.bsl _ _ _ _) (Up.refl _), hup, h', O, ids, a.length - 1 + 1, invG (redM a m) (a.length - 1) m (invF (detR a m) m), a.length - 1 + 1, rfl, rfl, hok, hC.hO.1, fun b hb => (hC.idr b hb).1, hC.ext, by omega, ?_⟩
        rw [← g1, List.take_length]
      · have hi' : invB (detR a m) m = false := by simpa using hi
        rw [show invR a m = [] by simp [invR, hi], show invE a m = 8 by simp [invE, hs, hm, hi]]
        have hrl := redM_length a m
        have hrw := red_wid hw m
        have hri := red_in hw hmm.1
        have hdr := det_red rfl hw m
        obtain ⟨A, hA⟩ : ∃ A, A = redM a m := ⟨_, rfl⟩
        have hAA : redM A m = A := by rw [hA]; simp [redM, Int.emod_emod_of_dvd]
        rw [← hA] at hrl hrw hri hdr
        have hd0 : detR a m = det a.length (ent a) % m := by simp [detR, hs, hm]
        have hD : detR a m = det a.length (ent A) % m := by rw [hd0, hdr]
        obtain ⟨D, hDe⟩ : ∃ D, D = detR a m := ⟨_, rfl⟩
        rw [← hDe] at hi' hD
        have hDb : 0 ≤ D ∧ D < m := by rw [hD]; exact ⟨Int.emod_nonneg _ (by omega), Int.emod_lt_of_pos _ (by omega)⟩
        have hDt : D.tmod m = D := by rw [tmod_nn hDb.1]; exact Int.emod_eq_of_lt hDb.1 hDb.2
        refine ACalls.still ?_
        refine acalls_of_good 2 88 [.tmp 4, .tmp 5] Try.func23 rfl rfl (by kernel_rfl) rfl rfl (by decide) ?_
        simp (disch := first | assumption | omega) only [go_sem, Option.map, List.isEmpty, ↓reduceIte, Nat.reduceEqDiff, Nat.reduceAdd, Nat.reduceSub, Nat.reduceMul, Nat.reduceLT, Nat.reduceLeDiff, reduceCtorEq, Nat.reduceBEq, Nat.reduceBNe, Int.reduceNeg, Int.reduceLE, Int.reduceLT, Int.reduceToNat]
        repeat' (first | (first | refine good_seq ?_ | refine good_reg false (fun K hK => ?_) | (refine runL_nil (hK _ _ ?_); clear hK K) | refine runL_none rfl (fun K2 hK2 => ?_) | refine runL_some rfl rfl (fun R S hR hS => ?_) | (refine hK2 _ _ ?_; clear hK2 K2) | (refine hK2 _ _ ?_ ?_ <;> clear hK2 K2) | (refine regW_nil (hK _ _ ?_); clear hK K) | (refine regW_load rfl rfl rfl (fun F1 F2 hF1 hF2 => ?_)) | (refine hF1 _ ?_ ?_ <;> clear hF1 hF2 F1 F2) | (refine hF2 _ _ (fun K2 hK2 => ?_); clear hF1 hF2 F1 F2) | refine regW_light rfl rfl rfl (fun _ _ => rfl) (fun K2 hK2 => ?_) | refine regW_lguard rfl rfl rfl rfl (fun _ _ => rfl) (fun R S hR hS => ?_) | refine regW_heavy rfl rfl (fun K2 hK2 => ?_) | with_reducible refine log_goal ?_ | (refine hR _ (fun K2 hK2 => ?_); clear hR hS R S) | (refine hS _ ?_; clear hR hS R S) | refine good_block ?_ | refine good_skip ?_ | refine good_exit ?_ | refine good_ret ?_ | refine good_cond ?_ | refine And.intro ?_ ?_ | intro _) <;> try simp (disch := first | assumption | omega) only [go_sem, Option.map, List.isEmpty, ↓reduceIte, Nat.reduceEqDiff, Nat.reduceAdd, Nat.reduceSub, Nat.reduceMul, Nat.reduceLT, Nat.reduceLeDiff, reduceCtorEq, Nat.reduceBEq, Nat.reduceBNe, Int.reduceNeg, Int.reduceLE, Int.reduceLT, Int.reduceToNat, hDt] | ((first | (refine ACalls.mono (c_square a _) (fun v h' hv' => ?_); obtain ⟨rfl, hh⟩ := hv'; subst h'; rw [decide_eq_true hs]) | (refine ACalls.mono (c_modulus _ _) (fun v h' hv' => ?_); obtain ⟨rfl, hh⟩ := hv'; subst h'; rw [hm]) | (refine ACalls.mono (c_reducedV a a.length m (by omega) (by omega) (fun i hi => hw i hi) _) (fun v h' hv' => ?_); obtain ⟨rfl, hh⟩ := hv'; subst h'; rw [← hA]) | (refine ACalls.mono (c_reduced A a.length m (by omega) (by omega) (fun i hi => hrw i hi) _) (fun v h' hv' => ?_); obtain ⟨rfl, hh⟩ := hv'; rw [show (A.map fun r => r.map (· % m)) = A from hAA, hrl] at hh; subst h'; rw [hrl]) | (refine ACalls.mono (c_detP A a.length m _ (by omega) hrl hrw (by omega) hri) (fun v h0 hv' => ?_); obtain ⟨rfl, hx⟩ := hv'; rw [← hD]) | (refine ACalls.mono (c_inverseF _ _ (by omega) hDb _) (fun v h' hv' => ?_); obtain ⟨rfl, hh⟩ := hv'; subst h'; rw [hi'])) <;> try simp (disch := first | assumption | omega) only [go_sem, Option.map, List.isEmpty, ↓reduceIte, Nat.reduceEqDiff, Nat.reduceAdd, Nat.reduceSub, Nat.reduceMul, Nat.reduceLT, Nat.reduceLeDiff, reduceCtorEq, Nat.reduceBEq, Nat.reduceBNe, Int.reduceNeg, Int.reduceLE, Int.reduceLT, Int.reduceToNat, hDt]) | omega)
        · simp only [roA, roL]; exact Up.tup2 Up.nmat (Up.refl _)
        · simp [pur, purL]
    · have hm' : modB m = false := by simpa using hm
      rw [show invR a m = [] by simp [invR, hm], show invE a m = 1 by simp [invE, hs, hm]]
      refine ACalls.up ?_
      refine acalls_of_good 2 88 [.tmp 4, .tmp 5] Try.func23 rfl rfl (by kernel_rfl) rfl rfl (by decide) ?_
      simp (disch := first | assumption | omega) only [go_sem, Option.map, List.isEmpty, ↓reduceIte, Nat.reduceEqDiff, Nat.reduceAdd, Nat.reduceSub, Nat.reduceMul, Nat.reduceLT, Nat.reduceLeDiff, reduceCtorEq, Nat.reduceBEq, Nat.reduceBNe, Int.reduceNeg, Int.reduceLE, Int.reduceLT, Int.reduceToNat]
      repeat' (first | (first | refine good_seq ?_ | refine good_reg false (fun K hK => ?_) | (refine runL_nil (hK _ _ ?_); clear hK K) | refine runL_none rfl (fun K2 hK2 => ?_) | refine runL_some rfl rfl (fun R S hR hS => ?_) | (refine hK2 _ _ ?_; clear hK2 K2) | (refine hK2 _ _ ?_ ?_ <;> clear hK2 K2) | (refine regW_nil (hK _ _ ?_); clear hK K) | (refine regW_load rfl rfl rfl (fun F1 F2 hF1 hF2 => ?_)) | (refine hF1 _ ?_ ?_ <;> clear hF1 hF2 F1 F2) | (refine hF2 _ _ (fun K2 hK2 => ?_); clear hF1 hF2 F1 F2) | refine regW_light rfl rfl rfl (fun _ _ => rfl) (fun K2 hK2 => ?_) | refine regW_lguard rfl rfl rfl rfl (fun _ _ => rfl) (fun R S hR hS => ?_) | refine regW_heavy rfl rfl (fun K2 hK2 => ?_) | with_reducible refine log_goal ?_ | (refine hR _ (fun K2 hK2 => ?_); clear hR hS R S) | (refine hS _ ?_; clear hR hS R S) | refine good_block ?_ | refine good_skip ?_ | refine good_exit ?_ | refine good_ret ?_ | refine good_cond ?_ | refine And.intro ?_ ?_ | intro _) <;> try simp (disch := first | assumption | omega) only [go_sem, Option.map, List.isEmpty, ↓reduceIte, Nat.reduceEqDiff, Nat.reduceAdd, Nat.reduceSub, Nat.reduceMul, Nat.reduceLT, Nat.reduceLeDiff, reduceCtorEq, Nat.reduceBEq, Nat.reduceBNe, Int.reduceNeg, Int.reduceLE, Int.reduceLT, Int.reduceToNat] | ((first | (refine ACalls.mono (c_square a _) (fun v h' hv' => ?_); obtain ⟨rfl, rfl⟩ := hv'; rw [decide_eq_true hs]) | (refine ACalls.mono (c_modulus _ _) (fun v h' hv' => ?_); obtain ⟨rfl, rfl⟩ := hv'; rw [hm'])) <;> try simp (disch := first | assumption | omega) only [go_sem, Option.map, List.isEmpty, ↓reduceIte, Nat.reduceEqDiff, Nat.reduceAdd, Nat.reduceSub, Nat.reduceMul, Nat.reduceLT, Nat.reduceLeDiff, reduceCtorEq, Nat.reduceBEq, Nat.reduceBNe, Int.reduceNeg, Int.reduceLE, Int.reduceLT, Int.reduceToNat]) | omega)
      exact ⟨_, Up.tup2 Up.nmat (Up.refl _), rfl⟩
  · rw [show invR a m = [] by simp [invR, hs], show invE a m = 3 by simp [invE, hs]]
    refine ACalls.up ?_
    refine acalls_of_good 2 88 [.tmp 4, .tmp 5] Try.func23 rfl rfl (by kernel_rfl) rfl rfl (by decide) ?_
    simp (disch := first | assumption | omega) only [go_sem, Option.map, List.isEmpty, ↓reduceIte, Nat.reduceEqDiff, Nat.reduceAdd, Nat.reduceSub, Nat.reduceMul, Nat.reduceLT, Nat.reduceLeDiff, reduceCtorEq, Nat.reduceBEq, Nat.reduceBNe, Int.reduceNeg, Int.reduceLE, Int.reduceLT, Int.reduceToNat]
    repeat' (first | (first | refine good_seq ?_ | refine good_reg false (fun K hK => ?_) | (refine runL_nil (hK _ _ ?_); clear hK K) | refine runL_none rfl (fun K2 hK2 => ?_) | refine runL_some rfl rfl (fun R S hR hS => ?_) | (refine hK2 _ _ ?_; clear hK2 K2) | (refine hK2 _ _ ?_ ?_ <;> clear hK2 K2) | (refine regW_nil (hK _ _ ?_); clear hK K) | (refine regW_load rfl rfl rfl (fun F1 F2 hF1 hF2 => ?_)) | (refine hF1 _ ?_ ?_ <;> clear hF1 hF2 F1 F2) | (refine hF2 _ _ (fun K2 hK2 => ?_); clear hF1 hF2 F1 F2) | refine regW_light rfl rfl rfl (fun _ _ => rfl) (fun K2 hK2 => ?_) | refine regW_lguard rfl rfl rfl rfl (fun _ _ => rfl) (fun R S hR hS => ?_) | refine regW_heavy rfl rfl (fun K2 hK2 => ?_) | with_reducible refine log_goal ?_ | (refine hR _ (fun K2 hK2 => ?_); clear hR hS R S) | (refine hS _ ?_; clear hR hS R S) | refine good_block ?_ | refine good_skip ?_ | refine good_exit ?_ | refine good_ret ?_ | refine good_cond ?_ | refine And.intro ?_ ?_ | intro _) <;> try simp (disch := first | assumption | omega) only [go_sem, Option.map, List.isEmpty, ↓reduceIte, Nat.reduceEqDiff, Nat.reduceAdd, Nat.reduceSub, Nat.reduceMul, Nat.reduceLT, Nat.reduceLeDiff, reduceCtorEq, Nat.reduceBEq, Nat.reduceBNe, Int.reduceNeg, Int.reduceLE, Int.reduceLT, Int.reduceToNat] | ((first | (refine ACalls.mono (c_square a _) (fun v h' hv' => ?_); obtain ⟨rfl, rfl⟩ := hv'; rw [decide_eq_false hs])) <;> try simp (disch := first | assumption | omega) only [go_sem, Option.map, List.isEmpty, ↓reduceIte, Nat.reduceEqDiff, Nat.reduceAdd, Nat.reduceSub, Nat.reduceMul, Nat.reduceLT, Nat.reduceLeDiff, reduceCtorEq, Nat.reduceBEq, Nat.reduceBNe, Int.reduceNeg, Int.reduceLE, Int.reduceLT, Int.reduceToNat]) | omega)
    exact ⟨_, Up.tup2 Up.nmat (Up.refl _), rfl⟩
end Go.Eng
open Go Go.Proofs
set_option linter.unusedVariables false
set_option linter.unusedSimpArgs false
set_option maxRecDepth 4000
set_option maxHeartbeats 40000000
namespace Go.Eng
attribute [local irreducible] Good ACalls runL regW stepW opW gdV' gdD condW gifW binW arW loadW storeW idxAW lenW appW appBW cutW onSome onBnd callW fldAW Again thenQ blockQ resW endQ Up loadR
/-! ### the law on inverses -/
theorem ent_rowOp {U : List (List Int)} {i j : Nat} {c : Int} {r k : Nat} (hr : r < U.length) : ent (U.map (rowOp i j c)) r k = (rowOp i j c (U.getD r [])).getD k 0 := by
  unfold ent
  congr 1
  simp [List.getD_eq_getElem?_getD, hr]
theorem det_rowOp {U : List (List Int)} {n i j : Nat} {c : Int} (hl : U.length = n) (hw : Wid n U) (hi : i < n) (hj : j < n) : det n (ent (U.map (rowOp i j c))) = det n (ent U) ∨ det n (ent (U.map (rowOp i j c))) = - det n (ent U) := by
  have hD := det_am n
  have ht : det n (ent (U.map (rowOp i j c))) = det n (trn (ent (U.map (rowOp i j c)))) := (det_trn _ _).symm
  have ht2 := det_trn n (ent U)
  have hen : ∀ r k, r < n → k < n → trn (ent (U.map (rowOp i j c))) k r = if i = j then (if c < 0 then (if k = i then - ent U r i else ent U r k) else ent U r k) else if c = 0 then ent U r (sw i j k) else (if k = i then ent U r i + c * ent U r j else ent U r k) := fun r k hr hk => by
    unfold trn
    rw [ent_rowOp (by omega)]
    have hrl := hw r (by omega)
    unfold rowOp
    by_cases h1 : i = j
    · rw [if_pos h1, if_pos h1]
      by_cases h2 : c < 0
      · rw [if_pos h2, if_pos h2, setI _ _ _ (by omega)]; rfl
      · rw [if_neg h2, if_neg h2]; rfl
    · rw [if_neg h1, if_neg h1]
      by_cases h2 : c = 0
      · rw [if_pos h2, if_pos h2, setI _ j _ (by rw [List.length_set]; omega), setI _ i _ (by omega)]
        unfold sw
        by_cases h3 : k = j
        · rw [if_pos h3, if_pos h3]; rfl
        · rw [if_neg h3, if_neg h3]
          by_cases h4 : k = i
          · rw [if_pos h4, if_pos h4]; rfl
          · rw [if_neg h4, if_neg h4]; rfl
      · rw [if_neg h2, if_neg h2, setI _ i _ (by omega)]; rfl
  rw [ht, ← ht2]
  by_cases h1 : i = j
  · by_cases h2 : c < 0
    · right
      have e : det n (trn (ent (U.map (rowOp i j c)))) = det n (updR (trn (ent U)) i fun r => (-1) * trn (ent U) i r) := det_congr fun k r hk hr => by
        rw [hen r k hr hk, if_pos h1, if_pos h2]
        unfold updR
        by_cases h3 : k = i
        · rw [if_pos h3, if_pos h3]; show - ent U r i = -1 * ent U r i; omega
        · rw [if_neg h3, if_neg h3]; rfl
      rw [e, hD.scale _ hi (trn (ent U) i) (-1), hD.same _ _ fun _ _ => rfl]; omega
    · left
      exact det_congr fun k r hk hr => by rw [hen r k hr hk, if_pos h1, if_neg h2]; rfl
  · by_cases h2 : c = 0
    · right
      rw [← hD.swap (trn (ent U)) hi hj h1]
      exact det_congr fun k r hk hr => by rw [hen r k hr hk, if_neg h1, if_pos h2]; rfl
    · left
      rw [← hD.addRow (trn (ent U)) hi hj h1 c]
      exact det_congr fun k r hk hr => by
        rw [hen r k hr hk, if_neg h1, if_neg h2]
        unfold updR
        by_cases h3 : k = i
        · rw [if_pos h3, if_pos h3]; rfl
        · rw [if_neg h3, if_neg h3]; rfl
theorem idM_ent {n i j : Nat} (hi : i < n) (hj : j < n) : ent (idM n) i j = mxI i j := by
  unfold ent idM mxI
  rw [map_range_getL _ hi, setI _ i _ (by simpa using hi)]
  by_cases h : i = j
  · rw [if_pos h, if_pos h.symm]
  · rw [if_neg h, if_neg (fun e => h e.symm)]
    simp [List.getD_eq_getElem?_getD, hj]
theorem uniS_det (ns : List Int) {n : Nat} (hn : 0 < n) : ∀ k, det n (ent (uniS ns n k)) = 1 ∨ det n (ent (uniS ns n k)) = -1
  | 0 => by
    left
    show det n (ent (idM n)) = 1
    rw [det_congr (B := mxI) fun i j hi hj => idM_ent hi hj, det_one]
  | k + 1 => by
    have ih := uniS_det ns hn k
    have := det_rowOp (i := belN ns n (3 * k)) (j := belN ns n (3 * k + 1)) (c := uniC ns (3 * k + 2)) (uniS_length ns n k) (uniS_wid ns n k) (belN_lt hn) (belN_lt hn)
    simp only [uniS]
    omega
theorem invB_of {a m y : Int} (hm : 2 ≤ m) (hy : 0 ≤ y ∧ y < m) (h : a * y % m = 1) : invB a m = true := by
  unfold invB invL
  rw [List.find?_isSome]
  refine ⟨y.toNat, List.mem_range.2 (by omega), ?_⟩
  have : ((y.toNat : Nat) : Int) = y := by omega
  rw [this, h]; rfl
theorem invF_mul {a m : Int} (h : invB a m = true) : a * invF a m % m = 1 := by
  unfold invB at h
  unfold invF
  cases hL : invL a m with
  | none => rw [hL] at h; cases h
  | some y =>
    have h5 := List.find?_some hL
    simp only [beq_iff_eq] at h5
    exact h5
theorem unit_inv {d m : Int} (hm : 2 ≤ m) (hd : d = 1 ∨ d = -1) : invB (d % m) m = true := by
  refine invB_of hm (y := d % m) ⟨Int.emod_nonneg _ (by omega), Int.emod_lt_of_pos _ (by omega)⟩ ?_
  rw [← Int.mul_emod]
  have : d * d = 1 := by rcases hd with rfl | rfl <;> rfl
  rw [this]; exact Int.emod_eq_of_lt (by omega) (by omega)
/-- What the law compares. -/
theorem inv_laws {A : List (List Int)} {k : Nat} {m : Int} (hA : A.length = k + 1) (hw : Wid (k + 1) A) (hn : k + 1 ≤ 8) (hm : modB m = true) (hi : invB (detR A m) m = true) :
    ∃ B, B = invR A m ∧ invE A m = 0 ∧ mulE A B m = 0 ∧ mulE B A m = 0 ∧ (∀ P, (P = mulM A B m ∨ P = mulM B A m) → P.length = k + 1 ∧ Wid (k + 1) P ∧ ∀ i j, i < k + 1 → j < k + 1 → (P.getD i []).getD j 0 = if i = j then 1 else 0) := by
  have hmm := modB_spec hm
  have hs := SquareP.of hA hw (by omega)
  have hd := detR_of hA hw (by omega) hm
  have hf := invF_mul hi
  obtain ⟨f, hfe⟩ : ∃ f, f = invF (detR A m) m := ⟨_, rfl⟩
  have eB : invR A m = invG (redM A m) k m f := by
    rw [hfe]
    have : A.length - 1 = k := by omega
    simp [invR, hs, hm, hi, this]
  rw [← hfe, hd.1] at hf
  obtain ⟨Bl, Bw⟩ := invG_wid (redM A m) k m f
  obtain ⟨B, hB⟩ : ∃ B, B = invR A m := ⟨_, rfl⟩
  rw [← hB] at eB
  rw [← eB] at Bl Bw
  have hBr : redM B m = B := redM_id fun r hr x hx => by
    rw [eB] at hr
    obtain ⟨i, -, rfl⟩ := List.mem_map.1 hr
    obtain ⟨j, -, rfl⟩ := List.mem_map.1 hx
    exact ⟨Int.emod_nonneg _ (by omega), Int.emod_lt_of_pos _ (by omega)⟩
  have sB := SquareP.of Bl Bw (by omega)
  have hrl := redM_length A m
  have hrw := red_wid hw m
  have hdr := det_red hA hw m
  have hdvd : m ∣ det (k + 1) (ent (redM A m)) * f - 1 := by
    refine dvd_of_emod ?_
    rw [Int.mul_emod, hdr, ← Int.mul_emod]
    rw [Int.mul_emod, Int.emod_emod_of_dvd _ (Int.dvd_refl m), ← Int.mul_emod] at hf
    rw [hf]; exact (Int.emod_eq_of_lt (by omega) (by omega)).symm
  have h1 : mulP A B := ⟨hs.1, sB.1, by rw [hw 0 (by omega), Bl]⟩
  have h2 : mulP B A := ⟨sB.1, hs.1, by rw [Bw 0 (by omega), hA]⟩
  have e1 : mulM A B m = prodM (redM A m) B m := by simp [mulM, h1, hm, hBr]
  have e2 : mulM B A m = prodM B (redM A m) m := by simp [mulM, h2, hm, hBr]
  have fin : ∀ P : List (List Int), P.length = k + 1 → Wid (k + 1) P → (∀ r ∈ P, ∀ x ∈ r, 0 ≤ x ∧ x < m) → (∀ i j, i < k + 1 → j < k + 1 → m ∣ ent P i j - mxI i j) → P.length = k + 1 ∧ Wid (k + 1) P ∧ ∀ i j, i < k + 1 → j < k + 1 → (P.getD i []).getD j 0 = if i = j then 1 else 0 := fun P p1 p2 p3 p4 => by
    refine ⟨p1, p2, fun i j hi hj => ?_⟩
    refine eq_of_dvd (p := m) (mem_ent p3 (by omega) (by rw [p2 i (by omega)]; exact hj)) ?_ (p4 i j hi hj)
    split <;> omega
  have bent : ∀ i j, i < k + 1 → j < k + 1 → ent B i j = invI (ent (redM A m)) k m f i j := fun i j hi hj => by rw [eB]; exact invG_ent _ _ _ _ hi hj
  refine ⟨B, hB, by simp [invE, hs, hm, hi], by simp [mulE, h1, hm], by simp [mulE, h2, hm], fun P hP => ?_⟩
  rcases hP with rfl | rfl
  · rw [e1]
    refine fin _ (by rw [prodM_length]; omega) (prod_wid Bl Bw (by omega)) (prodM_ent (by omega)) fun i j hi hj => ?_
    have q1 := ent_prodM (a := redM A m) (b := B) (m := m) (n := k + 1) (by omega) Bl Bw hi hj
    have q2 : mxM (k + 1) (ent (redM A m)) (ent B) i j = mxM (k + 1) (ent (redM A m)) (invI (ent (redM A m)) k m f) i j := sm_congr _ fun c hc => by rw [bent c j hc hj]
    rw [q2] at q1
    have q3 := inv_right hdvd hi hj
    have := Int.dvd_add q1 q3
    generalize mxM (k + 1) (ent (redM A m)) (invI (ent (redM A m)) k m f) i j = x at this
    have e : ent (prodM (redM A m) B m) i j - mxI i j = ent (prodM (redM A m) B m) i j - x + (x - mxI i j) := by omega
    rw [e]; exact this
  · rw [e2]
    refine fin _ (by rw [prodM_length]; omega) (prod_wid (by omega) hrw (by omega)) (prodM_ent (by omega)) fun i j hi hj => ?_
    have q1 := ent_prodM (a := B) (b := redM A m) (m := m) (n := k + 1) Bl (by omega) hrw hi hj
    have q2 : mxM (k + 1) (ent B) (ent (redM A m)) i j = mxM (k + 1) (invI (ent (redM A m)) k m f) (ent (redM A m)) i j := sm_congr _ fun c hc => by rw [bent i c hi hc]
    rw [q2] at q1
    have q3 := inv_left hdvd hi hj
    have := Int.dvd_add q1 q3
    generalize mxM (k + 1) (invI (ent (redM A m)) k m f) (ent (redM A m)) i j = x at this
    have e : ent (prodM B (redM A m) m) i j - mxI i j = ent (prodM B (redM A m) m) i j - x + (x - mxI i j) := by omega
    rw [e]; exact this
end Go.Eng
open Go Go.Proofs
set_option linter.unusedVariables false
set_option linter.unusedSimpArgs false
set_option maxRecDepth 4000
set_option maxHeartbeats 40000000
namespace Go.Eng
attribute [local irreducible] Good ACalls runL regW stepW opW gdV' gdD condW gifW binW arW loadW storeW idxAW lenW appW appBW cutW onSome onBnd callW fldAW Again thenQ blockQ resW endQ Up loadR
theorem l_Inverts (xr xc : Int) (xn base : List Int) (q : Int) (unit : Bool) (hx : GridOk xr xc xn) (hbs : ByteOk base) (hk : 0 ≤ q ∧ q ≤ 65535) (h : AH) :
    ACalls Try.prog 10 [gridV xr xc xn, byteV base, .int .u16 q, .bool unit] h (fun v h' => v = .bool true ∧ True) := by
  have hmB : ∀ ns, memA (byteV ns) = true := fun ns => rfl
  have hcB : ∀ ns, cellsA (byteV ns) = [byteV ns] := fun ns => rfl
  have hoB : ∀ ns, oneA (byteV ns) = true := fun ns => rfl
  have hd : ∀ p q r : AV, ([p, q, r].drop 0).take 3 = [p, q, r] := fun p q r => rfl
  have hee : ∀ x : Int, ((x == x) : Bool) = true := fun x => by simp
  obtain ⟨m, hm⟩ : ∃ x, x = 2 + q := ⟨_, rfl⟩
  have hmB2 : modB m = true := by simp [modB]; omega
  obtain ⟨G, hG⟩ : ∃ x, x = gridM xr xr xn 5 := ⟨_, rfl⟩
  have g1 := gridN_bd (x := xr) (most := 5) (by omega) hx.r.1
  obtain ⟨k, hkn⟩ : ∃ k, gridN xr 5 = k + 1 := ⟨gridN xr 5 - 1, by omega⟩
  have lG : G.length = k + 1 := by rw [hG, gridM_length, hkn]
  have wG : Wid (k + 1) G := fun i hi => by rw [lG, ← hkn] at hi; rw [hG, ← hkn]; exact gridM_row hi
  obtain ⟨U, hU⟩ : ∃ U, U = uniS base (k + 1) (uniN base) := ⟨_, rfl⟩
  have lU : U.length = k + 1 := by rw [hU]; exact uniS_length _ _ _
  have wU : Wid (k + 1) U := by rw [hU]; exact uniS_wid _ _ _
  have h1m : (1 : Int) % m = 1 := Int.emod_eq_of_lt (by omega) (by omega)
  obtain ⟨n, hn⟩ : ∃ n, n = k + 1 := ⟨_, rfl⟩
  cases unit with
  | true =>
    have hi : invB (detR U m) m = true := by
      rw [(detR_of lU wU (by omega) hmB2).1]
      exact unit_inv (by omega) (by rw [hU]; exact uniS_det base (by omega) _)
    obtain ⟨B, hB, eE, eM1, eM2, hPQ⟩ := inv_laws lU wU (by omega) hmB2 hi
    obtain ⟨P, hP⟩ : ∃ P, P = mulM U B m := ⟨_, rfl⟩
    obtain ⟨Q, hQ⟩ : ∃ Q, Q = mulM B U m := ⟨_, rfl⟩
    obtain ⟨p1, p2, p3⟩ := hPQ P (.inl hP)
    obtain ⟨q1, q2, q3⟩ := hPQ Q (.inr hQ)
    clear hPQ
    unfold gridV
    refine acalls_of_good 4 145 [.tmp 8] Try.func10 rfl rfl (by kernel_rfl) rfl rfl (by decide) ?_
    simp (disch := first | assumption | omega) only [go_sem, Option.map, List.isEmpty, ↓reduceIte, Nat.reduceEqDiff, Nat.reduceAdd, Nat.reduceSub, Nat.reduceMul, Nat.reduceLT, Nat.reduceLeDiff, reduceCtorEq, Nat.reduceBEq, Nat.reduceBNe, Int.reduceNeg, Int.reduceLE, Int.reduceLT, Int.reduceToNat]
    repeat' (first | (first | refine good_seq ?_ | refine good_reg false (fun K hK => ?_) | (refine runL_nil (hK _ _ ?_); clear hK K) | refine runL_none rfl (fun K2 hK2 => ?_) | refine runL_some rfl rfl (fun R S hR hS => ?_) | (refine hK2 _ _ ?_; clear hK2 K2) | (refine hK2 _ _ ?_ ?_ <;> clear hK2 K2) | (refine regW_nil (hK _ _ ?_); clear hK K) | (refine regW_load rfl rfl rfl (fun F1 F2 hF1 hF2 => ?_)) | (refine hF1 _ ?_ ?_ <;> clear hF1 hF2 F1 F2) | (refine hF2 _ _ (fun K2 hK2 => ?_); clear hF1 hF2 F1 F2) | refine regW_light rfl rfl rfl (fun _ _ => rfl) (fun K2 hK2 => ?_) | refine regW_lguard rfl rfl rfl rfl (fun _ _ => rfl) (fun R S hR hS => ?_) | refine regW_heavy rfl rfl (fun K2 hK2 => ?_) | with_reducible refine log_goal ?_ | (refine hR _ (fun K2 hK2 => ?_); clear hR hS R S) | (refine hS _ ?_; clear hR hS R S) | refine good_block ?_ | refine good_skip ?_ | refine good_exit ?_ | refine good_ret ?_ | refine good_cond ?_ | refine And.intro ?_ ?_ | intro _) <;> try simp (disch := first | assumption | omega) only [go_sem, Option.map, List.isEmpty, ↓reduceIte, Nat.reduceEqDiff, Nat.reduceAdd, Nat.reduceSub, Nat.reduceMul, Nat.reduceLT, Nat.reduceLeDiff, reduceCtorEq, Nat.reduceBEq, Nat.reduceBNe, Int.reduceNeg, Int.reduceLE, Int.reduceLT, Int.reduceToNat, hmB, hcB, hoB, hd, hee, ← hm, lU, p1, q1, List.set_cons_zero, List.set_cons_succ] | ((first | (refine ACalls.mono (c_Ints xr xr xn 5 hx.r hx.r hx.n (by omega) _) (fun v h' hv => ?_); obtain ⟨rfl, hh⟩ := hv; subst h'; rw [← hG]) | (rw [lG]; refine ACalls.mono (c_Unimodular base (k + 1) (by omega) hbs _) (fun v h' hv => ?_); obtain ⟨rfl, hh⟩ := hv; subst h'; rw [← hU]) | (refine ACalls.mono (c_Inverse U m _) (fun v h' hv => ?_); obtain ⟨rfl, hh⟩ := hv; subst h'; rw [eE, ← hB]) | (refine ACalls.mono (c_mMul U B m _) (fun v h' hv => ?_); obtain ⟨rfl, hh⟩ := hv; subst h'; rw [eM1, ← hP]) | (refine ACalls.mono (c_mMul B U m _) (fun v h' hv => ?_); obtain ⟨rfl, hh⟩ := hv; subst h'; rw [eM2, ← hQ])) <;> try simp (disch := first | assumption | omega) only [go_sem, Option.map, List.isEmpty, ↓reduceIte, Nat.reduceEqDiff, Nat.reduceAdd, Nat.reduceSub, Nat.reduceMul, Nat.reduceLT, Nat.reduceLeDiff, reduceCtorEq, Nat.reduceBEq, Nat.reduceBNe, Int.reduceNeg, Int.reduceLE, Int.reduceLT, Int.reduceToNat, hmB, hcB, hoB, hd, hee, ← hm, lU, p1, q1, List.set_cons_zero, List.set_cons_succ]) | omega)
    rw [← hn] at p1 p2 p3 q1 q2 q3
    refine good_loop_s (σ := Nat) (fun i => [(10, .int .i64 m), (13, matV P), (15, matV Q), (90, .int .i64 n), (91, .int .i64 i)]) (fun _ => _) (fun i => i ≤ n) (fun i => n - i) 0 ?_ rfl (Nat.zero_le _) ?_
    · simp (disch := first | assumption | omega) only [go_sem, Option.map, List.isEmpty, ↓reduceIte, Nat.reduceEqDiff, Nat.reduceAdd, Nat.reduceSub, Nat.reduceMul, Nat.reduceLT, Nat.reduceLeDiff, reduceCtorEq, Nat.reduceBEq, Nat.reduceBNe, Int.reduceNeg, Int.reduceLE, Int.reduceLT, Int.reduceToNat]; (try (refine ⟨?_, ?_⟩ <;> omega)); (try omega)
      all_goals omega
    intro i hi2 n1 hn1
    by_cases hin : i < n
    · have a1 := p2 i (by omega)
      have a2 := q2 i (by omega)
      repeat' (first | (first | refine good_seq ?_ | refine good_reg false (fun K hK => ?_) | (refine runL_nil (hK _ _ ?_); clear hK K) | refine runL_none rfl (fun K2 hK2 => ?_) | refine runL_some rfl rfl (fun R S hR hS => ?_) | (refine hK2 _ _ ?_; clear hK2 K2) | (refine hK2 _ _ ?_ ?_ <;> clear hK2 K2) | (refine regW_nil (hK _ _ ?_); clear hK K) | (refine regW_load rfl rfl rfl (fun F1 F2 hF1 hF2 => ?_)) | (refine hF1 _ ?_ ?_ <;> clear hF1 hF2 F1 F2) | (refine hF2 _ _ (fun K2 hK2 => ?_); clear hF1 hF2 F1 F2) | refine regW_light rfl rfl rfl (fun _ _ => rfl) (fun K2 hK2 => ?_) | refine regW_lguard rfl rfl rfl rfl (fun _ _ => rfl) (fun R S hR hS => ?_) | refine regW_heavy rfl rfl (fun K2 hK2 => ?_) | with_reducible refine log_goal ?_ | (refine hR _ (fun K2 hK2 => ?_); clear hR hS R S) | (refine hS _ ?_; clear hR hS R S) | refine good_block ?_ | refine good_skip ?_ | refine good_exit ?_ | refine good_ret ?_ | refine good_cond ?_ | refine And.intro ?_ ?_ | intro _) <;> try simp (disch := first | assumption | omega) only [go_sem, Option.map, List.isEmpty, ↓reduceIte, Nat.reduceEqDiff, Nat.reduceAdd, Nat.reduceSub, Nat.reduceMul, Nat.reduceLT, Nat.reduceLeDiff, reduceCtorEq, Nat.reduceBEq, Nat.reduceBNe, Int.reduceNeg, Int.reduceLE, Int.reduceLT, Int.reduceToNat, p1, q1, a1, a2] | ((first | fail) <;> try simp (disch := first | assumption | omega) only [go_sem, Option.map, List.isEmpty, ↓reduceIte, Nat.reduceEqDiff, Nat.reduceAdd, Nat.reduceSub, Nat.reduceMul, Nat.reduceLT, Nat.reduceLeDiff, reduceCtorEq, Nat.reduceBEq, Nat.reduceBNe, Int.reduceNeg, Int.reduceLE, Int.reduceLT, Int.reduceToNat, p1, q1, a1, a2]) | omega)
      refine good_loop_s (σ := Nat) (fun j => [(10, .int .i64 m), (13, matV P), (15, matV Q), (17, .int .i64 i), (90, .int .i64 n), (91, .int .i64 i), (113, .int .i64 n), (114, .int .i64 j)]) (fun _ => _) (fun j => j ≤ n) (fun j => n - j) 0 ?_ rfl (Nat.zero_le _) ?_
      · simp (disch := first | assumption | omega) only [go_sem, Option.map, List.isEmpty, ↓reduceIte, Nat.reduceEqDiff, Nat.reduceAdd, Nat.reduceSub, Nat.reduceMul, Nat.reduceLT, Nat.reduceLeDiff, reduceCtorEq, Nat.reduceBEq, Nat.reduceBNe, Int.reduceNeg, Int.reduceLE, Int.reduceLT, Int.reduceToNat]; (try (refine ⟨?_, ?_⟩ <;> omega)); (try omega)
      intro j hj n2 hn2
      by_cases hjn : j < n
      · have b1 := p3 i j hin hjn
        have b2 := q3 i j hin hjn
        by_cases hij : i = j
        · rw [if_pos hij] at b1 b2
          have hij' : ((i : Int) == (j : Int)) = true := by simp [hij]
          repeat' (first | (first | refine good_seq ?_ | refine good_reg false (fun K hK => ?_) | (refine runL_nil (hK _ _ ?_); clear hK K) | refine runL_none rfl (fun K2 hK2 => ?_) | refine runL_some rfl rfl (fun R S hR hS => ?_) | (refine hK2 _ _ ?_; clear hK2 K2) | (refine hK2 _ _ ?_ ?_ <;> clear hK2 K2) | (refine regW_nil (hK _ _ ?_); clear hK K) | (refine regW_load rfl rfl rfl (fun F1 F2 hF1 hF2 => ?_)) | (refine hF1 _ ?_ ?_ <;> clear hF1 hF2 F1 F2) | (refine hF2 _ _ (fun K2 hK2 => ?_); clear hF1 hF2 F1 F2) | refine regW_light rfl rfl rfl (fun _ _ => rfl) (fun K2 hK2 => ?_) | refine regW_lguard rfl rfl rfl rfl (fun _ _ => rfl) (fun R S hR hS => ?_) | refine regW_heavy rfl rfl (fun K2 hK2 => ?_) | with_reducible refine log_goal ?_ | (refine hR _ (fun K2 hK2 => ?_); clear hR hS R S) | (refine hS _ ?_; clear hR hS R S) | refine good_block ?_ | refine good_skip ?_ | refine good_exit ?_ | refine good_ret ?_ | refine good_cond ?_ | refine And.intro ?_ ?_ | intro _) <;> try simp (disch := first | assumption | omega) only [go_sem, Option.map, List.isEmpty, ↓reduceIte, Nat.reduceEqDiff, Nat.reduceAdd, Nat.reduceSub, Nat.reduceMul, Nat.reduceLT, Nat.reduceLeDiff, reduceCtorEq, Nat.reduceBEq, Nat.reduceBNe, Int.reduceNeg, Int.reduceLE, Int.reduceLT, Int.reduceToNat, p1, q1, a1, a2, b1, b2, hij', h1m] | ((first | (refine ACalls.mono (c_Mod _ _ (by omega) _) (fun v h' hv => ?_); obtain ⟨rfl, hh⟩ := hv; subst h')) <;> try simp (disch := first | assumption | omega) only [go_sem, Option.map, List.isEmpty, ↓reduceIte, Nat.reduceEqDiff, Nat.reduceAdd, Nat.reduceSub, Nat.reduceMul, Nat.reduceLT, Nat.reduceLeDiff, reduceCtorEq, Nat.reduceBEq, Nat.reduceBNe, Int.reduceNeg, Int.reduceLE, Int.reduceLT, Int.reduceToNat, p1, q1, a1, a2, b1, b2, hij', h1m]) | omega)
          refine Again.to (j + 1) (by omega) (by omega) ?_ rfl
          simp (disch := first | assumption | omega) only [go_sem, Option.map, List.isEmpty, ↓reduceIte, Nat.reduceEqDiff, Nat.reduceAdd, Nat.reduceSub, Nat.reduceMul, Nat.reduceLT, Nat.reduceLeDiff, reduceCtorEq, Nat.reduceBEq, Nat.reduceBNe, Int.reduceNeg, Int.reduceLE, Int.reduceLT, Int.reduceToNat]; (try (refine ⟨?_, ?_⟩ <;> omega)); (try omega)
        · rw [if_neg hij] at b1 b2
          have hij' : ((i : Int) == (j : Int)) = false := by simp; omega
          repeat' (first | (first | refine good_seq ?_ | refine good_reg false (fun K hK => ?_) | (refine runL_nil (hK _ _ ?_); clear hK K) | refine runL_none rfl (fun K2 hK2 => ?_) | refine runL_some rfl rfl (fun R S hR hS => ?_) | (refine hK2 _ _ ?_; clear hK2 K2) | (refine hK2 _ _ ?_ ?_ <;> clear hK2 K2) | (refine regW_nil (hK _ _ ?_); clear hK K) | (refine regW_load rfl rfl rfl (fun F1 F2 hF1 hF2 => ?_)) | (refine hF1 _ ?_ ?_ <;> clear hF1 hF2 F1 F2) | (refine hF2 _ _ (fun K2 hK2 => ?_); clear hF1 hF2 F1 F2) | refine regW_light rfl rfl rfl (fun _ _ => rfl) (fun K2 hK2 => ?_) | refine regW_lguard rfl rfl rfl rfl (fun _ _ => rfl) (fun R S hR hS => ?_) | refine regW_heavy rfl rfl (fun K2 hK2 => ?_) | with_reducible refine log_goal ?_ | (refine hR _ (fun K2 hK2 => ?_); clear hR hS R S) | (refine hS _ ?_; clear hR hS R S) | refine good_block ?_ | refine good_skip ?_ | refine good_exit ?_ | refine good_ret ?_ | refine good_cond ?_ | refine And.intro ?_ ?_ | intro _) <;> try simp (disch := first | assumption | omega) only [go_sem, Option.map, List.isEmpty, ↓reduceIte, Nat.reduceEqDiff, Nat.reduceAdd, Nat.reduceSub, Nat.reduceMul, Nat.reduceLT, Nat.reduceLeDiff, reduceCtorEq, Nat.reduceBEq, Nat.reduceBNe, Int.reduceNeg, Int.reduceLE, Int.reduceLT, Int.reduceToNat, p1, q1, a1, a2, b1, b2, hij', h1m] | ((first | fail) <;> try simp (disch := first | assumption | omega) only [go_sem, Option.map, List.isEmpty, ↓reduceIte, Nat.reduceEqDiff, Nat.reduceAdd, Nat.reduceSub, Nat.reduceMul, Nat.reduceLT, Nat.reduceLeDiff, reduceCtorEq, Nat.reduceBEq, Nat.reduceBNe, Int.reduceNeg, Int.reduceLE, Int.reduceLT, Int.reduceToNat, p1, q1, a1, a2, b1, b2, hij', h1m]) | omega)
          refine Again.to (j + 1) (by omega) (by omega) ?_ rfl
          simp (disch := first | assumption | omega) only [go_sem, Option.map, List.isEmpty, ↓reduceIte, Nat.reduceEqDiff, Nat.reduceAdd, Nat.reduceSub, Nat.reduceMul, Nat.reduceLT, Nat.reduceLeDiff, reduceCtorEq, Nat.reduceBEq, Nat.reduceBNe, Int.reduceNeg, Int.reduceLE, Int.reduceLT, Int.reduceToNat]; (try (refine ⟨?_, ?_⟩ <;> omega)); (try omega)
      · repeat' (first | (first | refine good_seq ?_ | refine good_reg false (fun K hK => ?_) | (refine runL_nil (hK _ _ ?_); clear hK K) | refine runL_none rfl (fun K2 hK2 => ?_) | refine runL_some rfl rfl (fun R S hR hS => ?_) | (refine hK2 _ _ ?_; clear hK2 K2) | (refine hK2 _ _ ?_ ?_ <;> clear hK2 K2) | (refine regW_nil (hK _ _ ?_); clear hK K) | (refine regW_load rfl rfl rfl (fun F1 F2 hF1 hF2 => ?_)) | (refine hF1 _ ?_ ?_ <;> clear hF1 hF2 F1 F2) | (refine hF2 _ _ (fun K2 hK2 => ?_); clear hF1 hF2 F1 F2) | refine regW_light rfl rfl rfl (fun _ _ => rfl) (fun K2 hK2 => ?_) | refine regW_lguard rfl rfl rfl rfl (fun _ _ => rfl) (fun R S hR hS => ?_) | refine regW_heavy rfl rfl (fun K2 hK2 => ?_) | with_reducible refine log_goal ?_ | (refine hR _ (fun K2 hK2 => ?_); clear hR hS R S) | (refine hS _ ?_; clear hR hS R S) | refine good_block ?_ | refine good_skip ?_ | refine good_exit ?_ | refine good_ret ?_ | refine good_cond ?_ | refine And.intro ?_ ?_ | intro _) <;> try simp (disch := first | assumption | omega) only [go_sem, Option.map, List.isEmpty, ↓reduceIte, Nat.reduceEqDiff, Nat.reduceAdd, Nat.reduceSub, Nat.reduceMul, Nat.reduceLT, Nat.reduceLeDiff, reduceCtorEq, Nat.reduceBEq, Nat.reduceBNe, Int.reduceNeg, Int.reduceLE, Int.reduceLT, Int.reduceToNat, p1, q1, a1, a2] | ((first | fail) <;> try simp (disch := first | assumption | omega) only [go_sem, Option.map, List.isEmpty, ↓reduceIte, Nat.reduceEqDiff, Nat.reduceAdd, Nat.reduceSub, Nat.reduceMul, Nat.reduceLT, Nat.reduceLeDiff, reduceCtorEq, Nat.reduceBEq, Nat.reduceBNe, Int.reduceNeg, Int.reduceLE, Int.reduceLT, Int.reduceToNat, p1, q1, a1, a2]) | omega)
        refine Again.to (i + 1) (by omega) (by omega) ?_ rfl
        simp (disch := first | assumption | omega) only [go_sem, Option.map, List.isEmpty, ↓reduceIte, Nat.reduceEqDiff, Nat.reduceAdd, Nat.reduceSub, Nat.reduceMul, Nat.reduceLT, Nat.reduceLeDiff, reduceCtorEq, Nat.reduceBEq, Nat.reduceBNe, Int.reduceNeg, Int.reduceLE, Int.reduceLT, Int.reduceToNat]; (try (refine ⟨?_, ?_⟩ <;> omega)); (try omega)
    · repeat' (first | (first | refine good_seq ?_ | refine good_reg false (fun K hK => ?_) | (refine runL_nil (hK _ _ ?_); clear hK K) | refine runL_none rfl (fun K2 hK2 => ?_) | refine runL_some rfl rfl (fun R S hR hS => ?_) | (refine hK2 _ _ ?_; clear hK2 K2) | (refine hK2 _ _ ?_ ?_ <;> clear hK2 K2) | (refine regW_nil (hK _ _ ?_); clear hK K) | (refine regW_load rfl rfl rfl (fun F1 F2 hF1 hF2 => ?_)) | (refine hF1 _ ?_ ?_ <;> clear hF1 hF2 F1 F2) | (refine hF2 _ _ (fun K2 hK2 => ?_); clear hF1 hF2 F1 F2) | refine regW_light rfl rfl rfl (fun _ _ => rfl) (fun K2 hK2 => ?_) | refine regW_lguard rfl rfl rfl rfl (fun _ _ => rfl) (fun R S hR hS => ?_) | refine regW_heavy rfl rfl (fun K2 hK2 => ?_) | with_reducible refine log_goal ?_ | (refine hR _ (fun K2 hK2 => ?_); clear hR hS R S) | (refine hS _ ?_; clear hR hS R S) | refine good_block ?_ | refine good_skip ?_ | refine good_exit ?_ | refine good_ret ?_ | refine good_cond ?_ | refine And.intro ?_ ?_ | intro _) <;> try simp (disch := first | assumption | omega) only [go_sem, Option.map, List.isEmpty, ↓reduceIte, Nat.reduceEqDiff, Nat.reduceAdd, Nat.reduceSub, Nat.reduceMul, Nat.reduceLT, Nat.reduceLeDiff, reduceCtorEq, Nat.reduceBEq, Nat.reduceBNe, Int.reduceNeg, Int.reduceLE, Int.reduceLT, Int.reduceToNat, p1, q1] | ((first | (refine ACalls.mono (c_awake _) (fun v h' hv => ?_); obtain ⟨rfl, hh⟩ := hv; subst h')) <;> try simp (disch := first | assumption | omega) only [go_sem, Option.map, List.isEmpty, ↓reduceIte, Nat.reduceEqDiff, Nat.reduceAdd, Nat.reduceSub, Nat.reduceMul, Nat.reduceLT, Nat.reduceLeDiff, reduceCtorEq, Nat.reduceBEq, Nat.reduceBNe, Int.reduceNeg, Int.reduceLE, Int.reduceLT, Int.reduceToNat, p1, q1]) | omega)
  | false =>
    by_cases hi : invB (detR G m) m = true
    · obtain ⟨B, hB, eE, eM1, eM2, hPQ⟩ := inv_laws lG wG (by omega) hmB2 hi
      obtain ⟨P, hP⟩ : ∃ P, P = mulM G B m := ⟨_, rfl⟩
      obtain ⟨Q, hQ⟩ : ∃ Q, Q = mulM B G m := ⟨_, rfl⟩
      obtain ⟨p1, p2, p3⟩ := hPQ P (.inl hP)
      obtain ⟨q1, q2, q3⟩ := hPQ Q (.inr hQ)
      clear hPQ
      unfold gridV
      refine acalls_of_good 4 145 [.tmp 8] Try.func10 rfl rfl (by kernel_rfl) rfl rfl (by decide) ?_
      simp (disch := first | assumption | omega) only [go_sem, Option.map, List.isEmpty, ↓reduceIte, Nat.reduceEqDiff, Nat.reduceAdd, Nat.reduceSub, Nat.reduceMul, Nat.reduceLT, Nat.reduceLeDiff, reduceCtorEq, Nat.reduceBEq, Nat.reduceBNe, Int.reduceNeg, Int.reduceLE, Int.reduceLT, Int.reduceToNat]
      repeat' (first | (first | refine good_seq ?_ | refine good_reg false (fun K hK => ?_) | (refine runL_nil (hK _ _ ?_); clear hK K) | refine runL_none rfl (fun K2 hK2 => ?_) | refine runL_some rfl rfl (fun R S hR hS => ?_) | (refine hK2 _ _ ?_; clear hK2 K2) | (refine hK2 _ _ ?_ ?_ <;> clear hK2 K2) | (refine regW_nil (hK _ _ ?_); clear hK K) | (refine regW_load rfl rfl rfl (fun F1 F2 hF1 hF2 => ?_)) | (refine hF1 _ ?_ ?_ <;> clear hF1 hF2 F1 F2) | (refine hF2 _ _ (fun K2 hK2 => ?_); clear hF1 hF2 F1 F2) | refine regW_light rfl rfl rfl (fun _ _ => rfl) (fun K2 hK2 => ?_) | refine regW_lguard rfl rfl rfl rfl (fun _ _ => rfl) (fun R S hR hS => ?_) | refine regW_heavy rfl rfl (fun K2 hK2 => ?_) | with_reducible refine log_goal ?_ | (refine hR _ (fun K2 hK2 => ?_); clear hR hS R S) | (refine hS _ ?_; clear hR hS R S) | refine good_block ?_ | refine good_skip ?_ | refine good_exit ?_ | refine good_ret ?_ | refine good_cond ?_ | refine And.intro ?_ ?_ | intro _) <;> try simp (disch := first | assumption | omega) only [go_sem, Option.map, List.isEmpty, ↓reduceIte, Nat.reduceEqDiff, Nat.reduceAdd, Nat.reduceSub, Nat.reduceMul, Nat.reduceLT, Nat.reduceLeDiff, reduceCtorEq, Nat.reduceBEq, Nat.reduceBNe, Int.reduceNeg, Int.reduceLE, Int.reduceLT, Int.reduceToNat, hmB, hcB, hoB, hd, hee, ← hm, lG, p1, q1, List.set_cons_zero, List.set_cons_succ] | ((first | (refine ACalls.mono (c_Ints xr xr xn 5 hx.r hx.r hx.n (by omega) _) (fun v h' hv => ?_); obtain ⟨rfl, hh⟩ := hv; subst h'; rw [← hG]) | (rw [lG]; refine ACalls.mono (c_Unimodular base (k + 1) (by omega) hbs _) (fun v h' hv => ?_); obtain ⟨rfl, hh⟩ := hv; subst h'; rw [← hU]) | (refine ACalls.mono (c_Inverse G m _) (fun v h' hv => ?_); obtain ⟨rfl, hh⟩ := hv; subst h'; rw [eE, ← hB]) | (refine ACalls.mono (c_mMul G B m _) (fun v h' hv => ?_); obtain ⟨rfl, hh⟩ := hv; subst h'; rw [eM1, ← hP]) | (refine ACalls.mono (c_mMul B G m _) (fun v h' hv => ?_); obtain ⟨rfl, hh⟩ := hv; subst h'; rw [eM2, ← hQ])) <;> try simp (disch := first | assumption | omega) only [go_sem, Option.map, List.isEmpty, ↓reduceIte, Nat.reduceEqDiff, Nat.reduceAdd, Nat.reduceSub, Nat.reduceMul, Nat.reduceLT, Nat.reduceLeDiff, reduceCtorEq, Nat.reduceBEq, Nat.reduceBNe, Int.reduceNeg, Int.reduceLE, Int.reduceLT, Int.reduceToNat, hmB, hcB, hoB, hd, hee, ← hm, lG, p1, q1, List.set_cons_zero, List.set_cons_succ]) | omega)
      rw [← hn] at p1 p2 p3 q1 q2 q3
      refine good_loop_s (σ := Nat) (fun i => [(10, .int .i64 m), (13, matV P), (15, matV Q), (90, .int .i64 n), (91, .int .i64 i)]) (fun _ => _) (fun i => i ≤ n) (fun i => n - i) 0 ?_ rfl (Nat.zero_le _) ?_
      · simp (disch := first | assumption | omega) only [go_sem, Option.map, List.isEmpty, ↓reduceIte, Nat.reduceEqDiff, Nat.reduceAdd, Nat.reduceSub, Nat.reduceMul, Nat.reduceLT, Nat.reduceLeDiff, reduceCtorEq, Nat.reduceBEq, Nat.reduceBNe, Int.reduceNeg, Int.reduceLE, Int.reduceLT, Int.reduceToNat]; (try (refine ⟨?_, ?_⟩ <;> omega)); (try omega)
        all_goals omega
      intro i hi2 n1 hn1
      by_cases hin : i < n
      · have a1 := p2 i (by omega)
        have a2 := q2 i (by omega)
        repeat' (first | (first | refine good_seq ?_ | refine good_reg false (fun K hK => ?_) | (refine runL_nil (hK _ _ ?_); clear hK K) | refine runL_none rfl (fun K2 hK2 => ?_) | refine runL_some rfl rfl (fun R S hR hS => ?_) | (refine hK2 _ _ ?_; clear hK2 K2) | (refine hK2 _ _ ?_ ?_ <;> clear hK2 K2) | (refine regW_nil (hK _ _ ?_); clear hK K) | (refine regW_load rfl rfl rfl (fun F1 F2 hF1 hF2 => ?_)) | (refine hF1 _ ?_ ?_ <;> clear hF1 hF2 F1 F2) | (refine hF2 _ _ (fun K2 hK2 => ?_); clear hF1 hF2 F1 F2) | refine regW_light rfl rfl rfl (fun _ _ => rfl) (fun K2 hK2 => ?_) | refine regW_lguard rfl rfl rfl rfl (fun _ _ => rfl) (fun R S hR hS => ?_) | refine regW_heavy rfl rfl (fun K2 hK2 => ?_) | with_reducible refine log_goal ?_ | (refine hR _ (fun K2 hK2 => ?_); clear hR hS R S) | (refine hS _ ?_; clear hR hS R S) | refine good_block ?_ | refine good_skip ?_ | refine good_exit ?_ | refine good_ret ?_ | refine good_cond ?_ | refine And.intro ?_ ?_ | intro _) <;> try simp (disch := first | assumption | omega) only [go_sem, Option.map, List.isEmpty, ↓reduceIte, Nat.reduceEqDiff, Nat.reduceAdd, Nat.reduceSub, Nat.reduceMul, Nat.reduceLT, Nat.reduceLeDiff, reduceCtorEq, Nat.reduceBEq, Nat.reduceBNe, Int.reduceNeg, Int.reduceLE, Int.reduceLT, Int.reduceToNat, p1, q1, a1, a2] | ((first | fail) <;> try simp (disch := first | assumption | omega) only [go_sem, Option.map, List.isEmpty, ↓reduceIte, Nat.reduceEqDiff, Nat.reduceAdd, Nat.reduceSub, Nat.reduceMul, Nat.reduceLT, Nat.reduceLeDiff, reduceCtorEq, Nat.reduceBEq, Nat.reduceBNe, Int.reduceNeg, Int.reduceLE, Int.reduceLT, Int.reduceToNat, p1, q1, a1, a2]) | omega)
        refine good_loop_s (σ := Nat) (fun j => [(10, .int .i64 m), (13, matV P), (15, matV Q), (17, .int .i64 i), (90, .int .i64 n), (91, .int .i64 i), (113, .int .i64 n), (114, .int .i64 j)]) (fun _ => _) (fun j => j ≤ n) (fun j => n - j) 0 ?_ rfl (Nat.zero_le _) ?_
        · simp (disch := first | assumption | omega) only [go_sem, Option.map, List.isEmpty, ↓reduceIte, Nat.reduceEqDiff, Nat.reduceAdd, Nat.reduceSub, Nat.reduceMul, Nat.reduceLT, Nat.reduceLeDiff, reduceCtorEq, Nat.reduceBEq, Nat.reduceBNe, Int.reduceNeg, Int.reduceLE, Int.reduceLT, Int.reduceToNat]; (try (refine ⟨?_, ?_⟩ <;> omega)); (try omega)
        intro j hj n2 hn2
        by_cases hjn : j < n
        · have b1 := p3 i j hin hjn
          have b2 := q3 i j hin hjn
          by_cases hij : i = j
          · rw [if_pos hij] at b1 b2
            have hij' : ((i : Int) == (j : Int)) = true := by simp [hij]
            repeat' (first | (first | refine good_seq ?_ | refine good_reg false (fun K hK => ?_) | (refine runL_nil (hK _ _ ?_); clear hK K) | refine runL_none rfl (fun K2 hK2 => ?_) | refine runL_some rfl rfl (fun R S hR hS => ?_) | (refine hK2 _ _ ?_; clear hK2 K2) | (refine hK2 _ _ ?_ ?_ <;> clear hK2 K2) | (refine regW_nil (hK _ _ ?_); clear hK K) | (refine regW_load rfl rfl rfl (fun F1 F2 hF1 hF2 => ?_)) | (refine hF1 _ ?_ ?_ <;> clear hF1 hF2 F1 F2) | (refine hF2 _ _ (fun K2 hK2 => ?_); clear hF1 hF2 F1 F2) | refine regW_light rfl rfl rfl (fun _ _ => rfl) (fun K2 hK2 => ?_) | refine regW_lguard rfl rfl rfl rfl (fun _ _ => rfl) (fun R S hR hS => ?_) | refine regW_heavy rfl rfl (fun K2 hK2 => ?_) | with_reducible refine log_goal ?_ | (refine hR _ (fun K2 hK2 => ?_); clear hR hS R S) | (refine hS _ ?_; clear hR hS R S) | refine good_block ?_ | refine good_skip ?_ | refine good_exit ?_ | refine good_ret ?_ | refine good_cond ?_ | refine And.intro ?_ ?_ | intro _) <;> try simp (disch := first | assumption | omega) only [go_sem, Option.map, List.isEmpty, ↓reduceIte, Nat.reduceEqDiff, Nat.reduceAdd, Nat.reduceSub, Nat.reduceMul, Nat.reduceLT, Nat.reduceLeDiff, reduceCtorEq, Nat.reduceBEq, Nat.reduceBNe, Int.reduceNeg, Int.reduceLE, Int.reduceLT, Int.reduceToNat, p1, q1, a1, a2, b1, b2, hij', h1m] | ((first | (refine ACalls.mono (c_Mod _ _ (by omega) _) (fun v h' hv => ?_); obtain ⟨rfl, hh⟩ := hv; subst h')) <;> try simp (disch := first | assumption | omega) only [go_sem, Option.map, List.isEmpty, ↓reduceIte, Nat.reduceEqDiff, Nat.reduceAdd, Nat.reduceSub, Nat.reduceMul, Nat.reduceLT, Nat.reduceLeDiff, reduceCtorEq, Nat.reduceBEq, Nat.reduceBNe, Int.reduceNeg, Int.reduceLE, Int.reduceLT, Int.reduceToNat, p1, q1, a1, a2, b1, b2, hij', h1m]) | omega)
            refine Again.to (j + 1) (by omega) (by omega) ?_ rfl
            simp (disch := first | assumption | omega) only [go_sem, Option.map, List.isEmpty, ↓reduceIte, Nat.reduceEqDiff, Nat.reduceAdd, Nat.reduceSub, Nat.reduceMul, Nat.reduceLT, Nat.reduceLeDiff, reduceCtorEq, Nat.reduceBEq, Nat.reduceBNe, Int.reduceNeg, Int.reduceLE, Int.reduceLT, Int.reduceToNat]; (try (refine ⟨?_, ?_⟩ <;> omega)); (try omega)
          · rw [if_neg hij] at b1 b2
            have hij' : ((i : Int) == (j : Int)) = false := by simp; omega
            repeat' (first | (first | refine good_seq ?_ | refine good_reg false (fun K hK => ?_) | (refine runL_nil (hK _ _ ?_); clear hK K) | refine runL_none rfl (fun K2 hK2 => ?_) | refine runL_some rfl rfl (fun R S hR hS => ?_) | (refine hK2 _ _ ?_; clear hK2 K2) | (refine hK2 _ _ ?_ ?_ <;> clear hK2 K2) | (refine regW_nil (hK _ _ ?_); clear hK K) | (refine regW_load rfl rfl rfl (fun F1 F2 hF1 hF2 => ?_)) | (refine hF1 _ ?_ ?_ <;> clear hF1 hF2 F1 F2) | (refine hF2 _ _ (fun K2 hK2 => ?_); clear hF1 hF2 F1 F2) | refine regW_light rfl rfl rfl (fun _ _ => rfl) (fun K2 hK2 => ?_) | refine regW_lguard rfl rfl rfl rfl (fun _ _ => rfl) (fun R S hR hS => ?_) | refine regW_heavy rfl rfl (fun K2 hK2 => ?_) | with_reducible refine log_goal ?_ | (refine hR _ (fun K2 hK2 => ?_); clear hR hS R S) | (refine hS _ ?_; clear hR hS R S) | refine good_block ?_ | refine good_skip ?_ | refine good_exit ?_ | refine good_ret ?_ | refine good_cond ?_ | refine And.intro ?_ ?_ | intro _) <;> try simp (disch := first | assumption | omega) only [go_sem, Option.map, List.isEmpty, ↓reduceIte, Nat.reduceEqDiff, Nat.reduceAdd, Nat.reduceSub, Nat.reduceMul, Nat.reduceLT, Nat.reduceLeDiff, reduceCtorEq, Nat.reduceBEq, Nat.reduceBNe, Int.reduceNeg, Int.reduceLE, Int.reduceLT, Int.reduceToNat, p1, q1, a1, a2, b1, b2, hij', h1m] | ((first | fail) <;> try simp (disch := first | assumption | omega) only [go_sem, Option.map, List.isEmpty, ↓reduceIte, Nat.reduceEqDiff, Nat.reduceAdd, Nat.reduceSub, Nat.reduceMul, Nat.reduceLT, Nat.reduceLeDiff, reduceCtorEq, Nat.reduceBEq, Nat.reduceBNe, Int.reduceNeg, Int.reduceLE, Int.reduceLT, Int.reduceToNat, p1, q1, a1, a2, b1, b2, hij', h1m]) | omega)
            refine Again.to (j + 1) (by omega) (by omega) ?_ rfl
            simp (disch := first | assumption | omega) only [go_sem, Option.map, List.isEmpty, ↓reduceIte, Nat.reduceEqDiff, Nat.reduceAdd, Nat.reduceSub, Nat.reduceMul, Nat.reduceLT, Nat.reduceLeDiff, reduceCtorEq, Nat.reduceBEq, Nat.reduceBNe, Int.reduceNeg, Int.reduceLE, Int.reduceLT, Int.reduceToNat]; (try (refine ⟨?_, ?_⟩ <;> omega)); (try omega)
        · repeat' (first | (first | refine good_seq ?_ | refine good_reg false (fun K hK => ?_) | (refine runL_nil (hK _ _ ?_); clear hK K) | refine runL_none rfl (fun K2 hK2 => ?_) | refine runL_some rfl rfl (fun R S hR hS => ?_) | (refine hK2 _ _ ?_; clear hK2 K2) | (refine hK2 _ _ ?_ ?_ <;> clear hK2 K2) | (refine regW_nil (hK _ _ ?_); clear hK K) | (refine regW_load rfl rfl rfl (fun F1 F2 hF1 hF2 => ?_)) | (refine hF1 _ ?_ ?_ <;> clear hF1 hF2 F1 F2) | (refine hF2 _ _ (fun K2 hK2 => ?_); clear hF1 hF2 F1 F2) | refine regW_light rfl rfl rfl (fun _ _ => rfl) (fun K2 hK2 => ?_) | refine regW_lguard rfl rfl rfl rfl (fun _ _ => rfl) (fun R S hR hS => ?_) | refine regW_heavy rfl rfl (fun K2 hK2 => ?_) | with_reducible refine log_goal ?_ | (refine hR _ (fun K2 hK2 => ?_); clear hR hS R S) | (refine hS _ ?_; clear hR hS R S) | refine good_block ?_ | refine good_skip ?_ | refine good_exit ?_ | refine good_ret ?_ | refine good_cond ?_ | refine And.intro ?_ ?_ | intro _) <;> try simp (disch := first | assumption | omega) only [go_sem, Option.map, List.isEmpty, ↓reduceIte, Nat.reduceEqDiff, Nat.reduceAdd, Nat.reduceSub, Nat.reduceMul, Nat.reduceLT, Nat.reduceLeDiff, reduceCtorEq, Nat.reduceBEq, Nat.reduceBNe, Int.reduceNeg, Int.reduceLE, Int.reduceLT, Int.reduceToNat, p1, q1, a1, a2] | ((first | fail) <;> try simp (disch := first | assumption | omega) only [go_sem, Option.map, List.isEmpty, ↓reduceIte, Nat.reduceEqDiff, Nat.reduceAdd, Nat.reduceSub, Nat.reduceMul, Nat.reduceLT, Nat.reduceLeDiff, reduceCtorEq, Nat.reduceBEq, Nat.reduceBNe, Int.reduceNeg, Int.reduceLE, Int.reduceLT, Int.reduceToNat, p1, q1, a1, a2]) | omega)
          refine Again.to (i + 1) (by omega) (by omega) ?_ rfl
          simp (disch := first | assumption | omega) only [go_sem, Option.map, List.isEmpty, ↓reduceIte, Nat.reduceEqDiff, Nat.reduceAdd, Nat.reduceSub, Nat.reduceMul, Nat.reduceLT, Nat.reduceLeDiff, reduceCtorEq, Nat.reduceBEq, Nat.reduceBNe, Int.reduceNeg, Int.reduceLE, Int.reduceLT, Int.reduceToNat]; (try (refine ⟨?_, ?_⟩ <;> omega)); (try omega)
      · repeat' (first | (first | refine good_seq ?_ | refine good_reg false (fun K hK => ?_) | (refine runL_nil (hK _ _ ?_); clear hK K) | refine runL_none rfl (fun K2 hK2 => ?_) | refine runL_some rfl rfl (fun R S hR hS => ?_) | (refine hK2 _ _ ?_; clear hK2 K2) | (refine hK2 _ _ ?_ ?_ <;> clear hK2 K2) | (refine regW_nil (hK _ _ ?_); clear hK K) | (refine regW_load rfl rfl rfl (fun F1 F2 hF1 hF2 => ?_)) | (refine hF1 _ ?_ ?_ <;> clear hF1 hF2 F1 F2) | (refine hF2 _ _ (fun K2 hK2 => ?_); clear hF1 hF2 F1 F2) | refine regW_light rfl rfl rfl (fun _ _ => rfl) (fun K2 hK2 => ?_) | refine regW_lguard rfl rfl rfl rfl (fun _ _ => rfl) (fun R S hR hS => ?_) | refine regW_heavy rfl rfl (fun K2 hK2 => ?_) | with_reducible refine log_goal ?_ | (refine hR _ (fun K2 hK2 => ?_); clear hR hS R S) | (refine hS _ ?_; clear hR hS R S) | refine good_block ?_ | refine good_skip ?_ | refine good_exit ?_ | refine good_ret ?_ | refine good_cond ?_ | refine And.intro ?_ ?_ | intro _) <;> try simp (disch := first | assumption | omega) only [go_sem, Option.map, List.isEmpty, ↓reduceIte, Nat.reduceEqDiff, Nat.reduceAdd, Nat.reduceSub, Nat.reduceMul, Nat.reduceLT, Nat.reduceLeDiff, reduceCtorEq, Nat.reduceBEq, Nat.reduceBNe, Int.reduceNeg, Int.reduceLE, Int.reduceLT, Int.reduceToNat, p1, q1] | ((first | (refine ACalls.mono (c_awake _) (fun v h' hv => ?_); obtain ⟨rfl, hh⟩ := hv; subst h')) <;> try simp (disch := first | assumption | omega) only [go_sem, Option.map, List.isEmpty, ↓reduceIte, Nat.reduceEqDiff, Nat.reduceAdd, Nat.reduceSub, Nat.reduceMul, Nat.reduceLT, Nat.reduceLeDiff, reduceCtorEq, Nat.reduceBEq, Nat.reduceBNe, Int.reduceNeg, Int.reduceLE, Int.reduceLT, Int.reduceToNat, p1, q1]) | omega)
    · have eE : invE G m = 8 := by
        have hs := SquareP.of lG wG (by omega)
        simp [invE, hs, hmB2, hi]
      have eR : invR G m = [] := by simp [invR, hi]
      unfold gridV
      refine acalls_of_good 4 145 [.tmp 8] Try.func10 rfl rfl (by kernel_rfl) rfl rfl (by decide) ?_
      simp (disch := first | assumption | omega) only [go_sem, Option.map, List.isEmpty, ↓reduceIte, Nat.reduceEqDiff, Nat.reduceAdd, Nat.reduceSub, Nat.reduceMul, Nat.reduceLT, Nat.reduceLeDiff, reduceCtorEq, Nat.reduceBEq, Nat.reduceBNe, Int.reduceNeg, Int.reduceLE, Int.reduceLT, Int.reduceToNat]
      repeat' (first | (first | refine good_seq ?_ | refine good_reg false (fun K hK => ?_) | (refine runL_nil (hK _ _ ?_); clear hK K) | refine runL_none rfl (fun K2 hK2 => ?_) | refine runL_some rfl rfl (fun R S hR hS => ?_) | (refine hK2 _ _ ?_; clear hK2 K2) | (refine hK2 _ _ ?_ ?_ <;> clear hK2 K2) | (refine regW_nil (hK _ _ ?_); clear hK K) | (refine regW_load rfl rfl rfl (fun F1 F2 hF1 hF2 => ?_)) | (refine hF1 _ ?_ ?_ <;> clear hF1 hF2 F1 F2) | (refine hF2 _ _ (fun K2 hK2 => ?_); clear hF1 hF2 F1 F2) | refine regW_light rfl rfl rfl (fun _ _ => rfl) (fun K2 hK2 => ?_) | refine regW_lguard rfl rfl rfl rfl (fun _ _ => rfl) (fun R S hR hS => ?_) | refine regW_heavy rfl rfl (fun K2 hK2 => ?_) | with_reducible refine log_goal ?_ | (refine hR _ (fun K2 hK2 => ?_); clear hR hS R S) | (refine hS _ ?_; clear hR hS R S) | refine good_block ?_ | refine good_skip ?_ | refine good_exit ?_ | refine good_ret ?_ | refine good_cond ?_ | refine And.intro ?_ ?_ | intro _) <;> try simp (disch := first | assumption | omega) only [go_sem, Option.map, List.isEmpty, ↓reduceIte, Nat.reduceEqDiff, Nat.reduceAdd, Nat.reduceSub, Nat.reduceMul, Nat.reduceLT, Nat.reduceLeDiff, reduceCtorEq, Nat.reduceBEq, Nat.reduceBNe, Int.reduceNeg, Int.reduceLE, Int.reduceLT, Int.reduceToNat, hmB, hcB, hoB, hd, hee, ← hm, List.set_cons_zero, List.set_cons_succ] | ((first | (refine ACalls.mono (c_awake _) (fun v h' hv => ?_); obtain ⟨rfl, hh⟩ := hv; subst h') | (refine ACalls.mono (c_Ints xr xr xn 5 hx.r hx.r hx.n (by omega) _) (fun v h' hv => ?_); obtain ⟨rfl, hh⟩ := hv; subst h'; rw [← hG]) | (refine ACalls.mono (c_Inverse G m _) (fun v h' hv => ?_); obtain ⟨rfl, hh⟩ := hv; subst h'; rw [eE, eR])) <;> try simp (disch := first | assumption | omega) only [go_sem, Option.map, List.isEmpty, ↓reduceIte, Nat.reduceEqDiff, Nat.reduceAdd, Nat.reduceSub, Nat.reduceMul, Nat.reduceLT, Nat.reduceLeDiff, reduceCtorEq, Nat.reduceBEq, Nat.reduceBNe, Int.reduceNeg, Int.reduceLE, Int.reduceLT, Int.reduceToNat, hmB, hcB, hoB, hd, hee, ← hm, List.set_cons_zero, List.set_cons_succ]) | omega)
      all_goals simp
end Go.Eng
