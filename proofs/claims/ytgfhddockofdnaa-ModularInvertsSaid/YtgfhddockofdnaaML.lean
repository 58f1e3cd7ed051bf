/- Texts E33 E34 W35 W36 W37 of an engine over abstract values and of the walks of this program, one after the other. -/
import Derived.Test.YtgfhddockofdnaaMI
/- Unimodular matrices as they are made; a matrix under one more block. Plain, and over any program. -/
set_option linter.unusedVariables false
set_option linter.unusedSimpArgs false
namespace Go.Eng
open Go.RowKit (Below)

section
variable {h : AH} {n : Nat} {M : List (List Int)} {y : List AV}
theorem th_n (hM : M.length = n) : (pmH h n n M).n = h.n + 1 + n := by rw [pm_n, hM]
theorem th_q (hM : M.length = n) : ((pmH h n n M).mk_ y).f (h.n + 1 + n) = some y := by rw [← th_n (h := h) hM]; exact AH.mk_f _ _
theorem th_O (hM : M.length = n) : ((pmH h n n M).mk_ y).f h.n = some (pmC h.n n n n) := by
  rw [mk_ne _ _ (by rw [th_n hM]; omega)]
  have := pm_O (h := h) (n := n) (m := n) (R := M)
  rw [hM] at this; exact this
theorem th_row (hM : M.length = n) {i : Nat} (hi : i < n) : ((pmH h n n M).mk_ y).f (h.n + 1 + i) = some ((M.getD i []).map (AV.int .i64)) := by
  rw [mk_ne _ _ (by rw [th_n hM]; omega)]
  exact pm_row (by omega)
theorem th_putq (hM : M.length = n) (z : List AV) : ((pmH h n n M).mk_ y).put (h.n + 1 + n) z = (pmH h n n M).mk_ z := by
  rw [← th_n (h := h) hM]; exact AH.mk_put _ _ _
theorem th_put (hM : M.length = n) {i : Nat} (hi : i < n) (r : List Int) : ((pmH h n n M).mk_ y).put (h.n + 1 + i) (r.map (AV.int .i64)) = (pmH h n n (M.set i r)).mk_ y := by
  have hl : (M.set i r).length = n := by rw [List.length_set]; exact hM
  refine AH.ext_ (fun b => ?_) (by show (pmH h n n M).n + 1 = (pmH h n n (M.set i r)).n + 1; rw [th_n hM, th_n hl]) (fun _ => rfl) rfl
  by_cases hb : b = h.n + 1 + i
  · subst hb; rw [AH.put_f, th_row hl hi, getD_setM _ _ _ (by omega)]
  · rw [AH.put_ne _ _ hb]
    by_cases hq : b = h.n + 1 + n
    · subst hq; rw [th_q hM, th_q hl]
    · rw [mk_ne _ _ (by rw [th_n hM]; exact hq), mk_ne _ _ (by rw [th_n hl]; exact hq), ← pm_put (by omega), AH.put_ne _ _ hb]
theorem th_up (hM : M.length = n) (hw : ∀ r ∈ M, r.length = n) : HUp ((pmH h n n M).mk_ y) ((matH { h with n := h.n + 1 + n } h.n (idsOf h.n n) n M).mk_ y) := fun ρ w hR => by
  have h2 := hR.up (cs' := rowsC (idsOf h.n n) n) (th_O hM) (by rw [rowsC_length, idsOf_length, pmC_length]; exact Nat.le_refl _) (fun i hi vc hx => by
    rw [rowsC_length, idsOf_length] at hi
    have e1 : (pmC h.n n n n)[i]'(by rw [pmC_length]; exact hi) = .bsl (h.n + 1 + i) 0 n .full := by simp [pmC, hi]
    have e2 : (rowsC (idsOf h.n n) n)[i]'(by rw [rowsC_length, idsOf_length]; exact hi) = .bsl (h.n + 1 + i) 0 n .ro := by simp [rowsC, idsOf]
    rw [e1] at hx
    rw [e2]
    exact Up.bsl _ _ _ _ _ _ hx)
  have hok : MatOk h.n (idsOf h.n n) n M := by have := pm_ok (h := h) (m := n) (R := M) hw; rw [hM] at this; exact this
  have heq : ((pmH h n n M).mk_ y).put h.n (rowsC (idsOf h.n n) n) = (matH { h with n := h.n + 1 + n } h.n (idsOf h.n n) n M).mk_ y := by
    refine AH.ext_ (fun b => ?_) (by show (pmH h n n M).n + 1 = h.n + 1 + n + 1; rw [th_n hM]) (fun _ => rfl) rfl
    by_cases hO : b = h.n
    · subst hO
      rw [AH.put_f, mk_ne _ _ (by show h.n ≠ h.n + 1 + n; omega), matH_O]
    · rw [AH.put_ne _ _ hO]
      by_cases hq : b = h.n + 1 + n
      · subst hq
        rw [th_q hM]
        exact (AH.mk_f (matH { h with n := h.n + 1 + n } h.n (idsOf h.n n) n M) y).symm
      · rw [mk_ne _ _ (by rw [th_n hM]; exact hq), mk_ne _ _ (by show b ≠ h.n + 1 + n; exact hq)]
        by_cases h3 : h.n < b ∧ b < h.n + 1 + n
        · have e : b = h.n + 1 + (b - h.n - 1) := by omega
          rw [e, pm_row (by omega)]
          have := mh_row (h := { h with n := h.n + 1 + n }) hok (i := b - h.n - 1) (by rw [idsOf_length]; omega)
          rw [idsOf_get (by omega)] at this
          exact this.symm
        · rw [mh_other hO (fun hm => h3 (mem_idsOf.1 hm))]
          simp only [pmH]
          rw [if_neg hO, if_neg (by rw [hM]; exact h3)]
  rw [← heq]; exact h2
/-- Such a matrix is handed out. -/
theorem ACalls.sealedT {P : Program} {f : FuncId} {args : List AV} (hM : M.length = n) (hw : ∀ r ∈ M, r.length = n) (hc : ACalls P f args h (fun v h' => ∃ y, v = .bsl h.n 0 n .full ∧ h' = (pmH h n n M).mk_ y)) : ACalls P f args h (fun v h' => v = matV M ∧ h' = h) := by
  have hok : MatOk h.n (idsOf h.n n) n M := by have := pm_ok (h := h) (m := n) (R := M) hw; rw [hM] at this; exact this
  refine ACalls.sealed (R := True) (V := .nils) (ACalls.upH (ACalls.mono hc fun v h' ⟨y, h1, h2⟩ => ?_))
  subst h1; subst h2
  have hmm := mh_mk (h := { h with n := h.n + 1 + n }) (O := h.n) (ids := idsOf h.n n) (m := n) (M := M) y (by show h.n < h.n + 1 + n; omega) (fun b hb => by have := mem_idsOf.1 hb; show b < h.n + 1 + n; omega)
  refine ⟨_, _, Up.bsl _ _ _ _, th_up hM hw, _, h.n, idsOf h.n n, n, M, hmm, hok, Nat.le_refl _, fun b hb => by have := mem_idsOf.1 hb; omega, ?_, fun ρ ρ2 vc hle hv hk => ?_⟩
  · have he : Ext h { h with n := h.n + 1 + n } := ⟨by show h.n ≤ h.n + 1 + n; omega, Nat.le_refl _, fun _ _ => rfl, fun _ _ => rfl⟩
    exact he.mk_ y
  · have := hk n .ro vc (by omega) hv
    rw [List.take_of_length_le (by omega)] at this
    exact this
end
/-! ### column operations -/
def rowOp (i j : Nat) (c : Int) (r : List Int) : List Int :=
  if i = j then (if c < 0 then r.set i (-(r.getD i 0)) else r) else if c = 0 then (r.set i (r.getD j 0)).set j (r.getD i 0) else r.set i (r.getD i 0 + c * r.getD j 0)
theorem rowOp_length (i j : Nat) (c : Int) (r : List Int) : (rowOp i j c r).length = r.length := by
  unfold rowOp; split
  · split <;> simp
  · split <;> simp
/-- The first q rows are done. -/
def mapTo (f : List Int → List Int) (M : List (List Int)) (q : Nat) : List (List Int) := (M.take q).map f ++ M.drop q
theorem mapTo_zero (f : List Int → List Int) (M : List (List Int)) : mapTo f M 0 = M := by simp [mapTo]
theorem mapTo_length (f : List Int → List Int) (M : List (List Int)) (q : Nat) : (mapTo f M q).length = M.length := by simp [mapTo]; omega
theorem mapTo_full (f : List Int → List Int) (M : List (List Int)) {q : Nat} (hq : M.length ≤ q) : mapTo f M q = M.map f := by simp [mapTo, List.take_of_length_le hq, List.drop_of_length_le hq]
theorem mapTo_ge (f : List Int → List Int) (M : List (List Int)) {q : Nat} (hq : q < M.length) : (mapTo f M q).getD q [] = M.getD q [] := by
  have h1 : ((M.take q).map f).length = q := by simp; omega
  simp only [mapTo, List.getD_eq_getElem?_getD]
  rw [List.getElem?_append_right (by omega), h1, Nat.sub_self, List.getElem?_drop, Nat.add_zero]
theorem mapTo_set (f : List Int → List Int) (M : List (List Int)) {q : Nat} (hq : q < M.length) : (mapTo f M q).set q (f (M.getD q [])) = mapTo f M (q + 1) := by
  have h1 : ((M.take q).map f).length = q := by simp; omega
  have h2 : M.drop q = M[q] :: M.drop (q + 1) := List.drop_eq_getElem_cons hq
  have h3 : M.getD q [] = M[q] := by simp [List.getD_eq_getElem?_getD, hq]
  unfold mapTo
  rw [List.set_append_right _ _ (by omega), h1, Nat.sub_self, h2, h3, List.take_add_one, List.getElem?_eq_getElem hq, Option.toList_some, List.map_append, List.map_singleton, List.append_assoc]
  rfl
def idM (n : Nat) : List (List Int) := (List.range n).map fun i => (List.replicate n (0 : Int)).set i 1
section
variable {P : Program} {bl : Bool} {ops : List Oper} {o : Oper} {e : Env} {h : AH} {K : Env → AH → Prop} {bf : List (List Nat)} {i : Nat} {pl : List Nat} {log : List (Nat × Nat × Option (List AV))}
/-- A guarded load. -/
theorem regW_glload {t : TypeId} {x : Operand} {j d : Nat} {b : Bool} (ho : opAt ops i = some o) (hop : o.op = .load t x) (hg : o.guard = some (j, b)) (hd : dstAt ops j = some d)
    (h1 : ∀ R S : Env → Prop, (∀ e, (∀ (F1 : AV → Prop) (F2 : Nat → Nat → Prop), (∀ u, fitsB P t u = true → regW P bl ops bf pl log (putE o.dst u e) h K → F1 u) →
      (∀ c q, (∀ K2 : AV → AH → Prop, (∀ v h', regW P bl ops bf pl (log ++ [(i, c, h.f c)]) (putE o.dst v e) h' K → K2 v h') → loadW P t (.ptr c q) h K2) → F2 c q) → loadR (evA (lk e) x) F1 F2) → R e) →
      (∀ e, regW P bl ops bf pl log (putE o.dst (.tup []) e) h K → S e) → gdV' (lk e d) d e b R S) : regW P bl ops bf (i :: pl) log e h K := by
  simp only [regW, ho, hop, lightB, cond_true, hg, g_some, hd, g_dsome]
  refine h1 _ _ (fun e hk => ?_) (fun _ h => h)
  have := hk (fun u => fitsB P t u = true ∧ regW P bl ops bf pl log (putE o.dst u e) h K) (fun c q => ∀ K2 : AV → AH → Prop, (∀ v h', regW P bl ops bf pl (log ++ [(i, c, h.f c)]) (putE o.dst v e) h' K → K2 v h') → loadW P t (.ptr c q) h K2) (fun u hf hr => ⟨hf, hr⟩) (fun c q hk => hk)
  unfold loadR at this
  split at this
  · rename_i u hu
    simp only [stepW, o_load, memoOf, hu, l_eptr, List.map_nil, List.append_nil]
    exact this
  · rename_i c q hu
    simp only [stepW, o_load, memoOf, hu, List.map_cons, List.map_nil]
    exact this _ fun _ _ h => h
  · exact this.elim
end
end Go.Eng
/- Unimodular matrices have no kernel modulo a number. Plain. -/
set_option linter.unusedVariables false
set_option linter.unusedSimpArgs false
namespace Go.Eng

def KT (p : Int) (n : Nat) (U : List (List Int)) : Prop := ∀ v : Nat → Int, (∀ r, r < n → p ∣ sm n (fun k => ent U r k * v k)) → ∀ k, k < n → p ∣ v k
theorem setI (l : List Int) (j c : Nat) (hj : j < l.length) (v : Int) : (l.set j v).getD c 0 = if c = j then v else l.getD c 0 := by
  rw [getD_setI l j c hj v]
  by_cases h : j = c
  · rw [if_pos h, if_pos h.symm]
  · rw [if_neg h, if_neg (fun e => h e.symm)]
/-- The same operation on the vector. -/
def vecOp (i j : Nat) (c : Int) (v : Nat → Int) (k : Nat) : Int :=
  if i = j then (if c < 0 then (if k = i then -v k else v k) else v k) else if c = 0 then v (sw i j k) else v k + (if k = j then c * v i else 0)
theorem sm_add_at (f : Nat → Int) {n j : Nat} (hj : j < n) (d : Int) : sm n (fun k => f k + (if k = j then d else 0)) = sm n f + d := by
  rw [sm_add, sm_single (j := j) n hj fun k _ hk => if_neg hk, if_pos rfl]
theorem rowOp_sum {n i j : Nat} {c : Int} {r : List Int} (v : Nat → Int) (hr : r.length = n) (hi : i < n) (hj : j < n) : sm n (fun k => (rowOp i j c r).getD k 0 * v k) = sm n (fun k => r.getD k 0 * vecOp i j c v k) := by
  unfold rowOp vecOp
  by_cases hij : i = j
  · rw [if_pos hij]
    by_cases hc : c < 0
    · rw [if_pos hc]
      refine sm_congr n fun k hk => ?_
      rw [if_pos hij, if_pos hc, setI r i k (by omega)]
      by_cases hki : k = i
      · rw [if_pos hki, if_pos hki, hki, Int.neg_mul, Int.mul_neg]
      · rw [if_neg hki, if_neg hki]
    · rw [if_neg hc]
      refine sm_congr n fun k hk => ?_
      rw [if_pos hij, if_neg hc]
  · rw [if_neg hij]
    by_cases hc : c = 0
    · rw [if_pos hc, ← sm_sw (fun k => ((r.set i (r.getD j 0)).set j (r.getD i 0)).getD k 0 * v k) hi hj]
      refine sm_congr n fun k hk => ?_
      rw [if_neg hij, if_pos hc]
      congr 1
      have hs := sw_lt hi hj hk
      rw [setI _ j _ (by rw [List.length_set]; omega), setI r i _ (by omega)]
      unfold sw
      by_cases h1 : k = j
      · rw [if_pos h1, if_neg (show ¬ i = j from hij), if_pos rfl, h1]
      · rw [if_neg h1]
        by_cases h2 : k = i
        · rw [if_pos h2, if_pos rfl, h2]
        · rw [if_neg h2, if_neg h1, if_neg h2]
    · rw [if_neg hc]
      have e1 : sm n (fun k => (r.set i (r.getD i 0 + c * r.getD j 0)).getD k 0 * v k) = sm n (fun k => r.getD k 0 * v k) + c * r.getD j 0 * v i := by
        rw [← sm_add_at _ hi]
        refine sm_congr n fun k hk => ?_
        rw [setI r i k (by omega)]
        by_cases hki : k = i
        · rw [if_pos hki, if_pos hki, hki, Int.add_mul]
        · rw [if_neg hki, if_neg hki, Int.add_zero]
      have e2 : sm n (fun k => r.getD k 0 * (if i = j then (if c < 0 then (if k = i then -v k else v k) else v k) else if c = 0 then v (sw i j k) else v k + (if k = j then c * v i else 0))) = sm n (fun k => r.getD k 0 * v k) + r.getD j 0 * (c * v i) := by
        rw [← sm_add_at _ hj]
        refine sm_congr n fun k hk => ?_
        rw [if_neg hij, if_neg hc]
        by_cases hkj : k = j
        · rw [if_pos hkj, if_pos hkj, hkj, Int.mul_add]
        · rw [if_neg hkj, if_neg hkj, Int.add_zero, Int.add_zero]
      rw [e1, e2, Int.mul_comm c, Int.mul_assoc]
theorem KT.op {p : Int} {n i j : Nat} {c : Int} {U : List (List Int)} (h : KT p n U) (hl : U.length = n) (hw : Wid n U) (hi : i < n) (hj : j < n) : KT p n (U.map (rowOp i j c)) := by
  intro v hv
  have h1 : ∀ k, k < n → p ∣ vecOp i j c v k := h (vecOp i j c v) fun r hr => by
    have h2 := hv r hr
    have e : ∀ k, ent (U.map (rowOp i j c)) r k = (rowOp i j c (U.getD r [])).getD k 0 := fun k => by
      unfold ent
      congr 1
      simp [List.getD_eq_getElem?_getD, show r < U.length from by omega]
    have e2 : sm n (fun k => ent (U.map (rowOp i j c)) r k * v k) = sm n (fun k => (rowOp i j c (U.getD r [])).getD k 0 * v k) := sm_congr n fun k _ => by rw [e]
    rw [e2, rowOp_sum v (hw r (by omega)) hi hj] at h2
    exact h2
  intro k hk
  by_cases hij : i = j
  · have h2 := h1 k hk
    unfold vecOp at h2
    rw [if_pos hij] at h2
    by_cases hc : c < 0
    · rw [if_pos hc] at h2
      by_cases hki : k = i
      · rw [if_pos hki] at h2; exact Int.dvd_neg.1 h2
      · rw [if_neg hki] at h2; exact h2
    · rw [if_neg hc] at h2; exact h2
  · by_cases hc : c = 0
    · have h2 := h1 (sw i j k) (sw_lt hi hj hk)
      unfold vecOp at h2
      rw [if_neg hij, if_pos hc, sw_sw] at h2
      exact h2
    · have hvi : p ∣ v i := by
        have h2 := h1 i hi
        unfold vecOp at h2
        rw [if_neg hij, if_neg hc, if_neg hij, Int.add_zero] at h2
        exact h2
      have h2 := h1 k hk
      unfold vecOp at h2
      rw [if_neg hij, if_neg hc] at h2
      by_cases hkj : k = j
      · rw [if_pos hkj] at h2
        have : v k = (v k + c * v i) - c * v i := by omega
        rw [this]; exact Int.dvd_sub h2 (Int.dvd_mul_of_dvd_right hvi)
      · rw [if_neg hkj, Int.add_zero] at h2; exact h2
theorem KT.id (p : Int) (n : Nat) : KT p n (idM n) := fun v hv k hk => by
  have h := hv k hk
  have e : sm n (fun q => ent (idM n) k q * v q) = v k := by
    have e1 : ∀ q, q < n → ent (idM n) k q = if q = k then 1 else 0 := fun q hq => by
      unfold ent idM
      rw [map_range_getL _ hk, setI _ _ _ (by simpa using hk)]
      by_cases h : q = k
      · rw [if_pos h, if_pos h]
      · rw [if_neg h, if_neg h]; simp [List.getD_eq_getElem?_getD, hq]
    rw [sm_single (j := k) n hk fun q hq hqk => by rw [e1 q hq, if_neg hqk, Int.zero_mul], e1 k hk, if_pos rfl, Int.one_mul]
  rw [e] at h; exact h
/-- The solutions of U A are those of A. -/
theorem KT.sol {p : Int} {n m : Nat} {U A B : List (List Int)} (h : KT p n U) (hA : A.length = n) (hB : B.length = n) (hb : ∀ r k, r < n → k < m → p ∣ ent B r k - sm n (fun q => ent U r q * ent A q k)) (x : Nat → Int) : Sol p m B x ↔ Sol p m A x := by
  have key : ∀ r, r < n → p ∣ sm m (fun k => ent B r k * x k) - sm n (fun q => ent U r q * sm m (fun k => ent A q k * x k)) := fun r hr => by
    have e : sm n (fun q => ent U r q * sm m (fun k => ent A q k * x k)) = sm m (fun k => sm n (fun q => ent U r q * ent A q k) * x k) := by
      have e1 : sm n (fun q => ent U r q * sm m (fun k => ent A q k * x k)) = sm n (fun q => sm m (fun k => ent U r q * (ent A q k * x k))) := sm_congr n fun q _ => by rw [sm_mul]
      rw [e1, sm_swap]
      refine sm_congr m fun k _ => ?_
      rw [Int.mul_comm, ← sm_mul]
      refine sm_congr n fun q _ => ?_
      rw [Int.mul_comm (x k), Int.mul_assoc]
    rw [e]
    refine sm_dvd m fun k hk => ?_
    rw [← Int.sub_mul]
    exact Int.dvd_mul_of_dvd_left (hb r k hr hk)
  constructor
  · intro hs
    have := h (fun q => sm m (fun k => ent A q k * x k)) fun r hr => (dvd_of_sub (key r hr)).1 (hs r (by omega))
    intro q hq
    exact this q (by omega)
  · intro hs r hr
    rw [dvd_of_sub (key r (by omega))]
    exact sm_dvd0 n fun q hq => Int.dvd_mul_of_dvd_right (hs q (by omega))
end Go.Eng
open Go Go.Proofs
set_option linter.unusedVariables false
set_option linter.unusedSimpArgs false
set_option maxRecDepth 4000
set_option maxHeartbeats 40000000
namespace Go.Eng
attribute [local irreducible] Good ACalls runL regW stepW opW gdV' gdD condW gifW binW arW loadW storeW idxAW lenW appW appBW cutW onSome onBnd callW fldAW Again thenQ blockQ resW endQ Up loadR
/-! ### numbers below, unimodular matrices -/
def belN (ns : List Int) (n t : Nat) : Nat := ((ns.getD t 0 % 256) % (n : Int)).toNat
theorem wrap_u8' (x : Int) : IntKind.u8.wrap x = x % 256 := by simp [IntKind.wrap, IntKind.signed, IntKind.bits]
theorem c_Below (H : AH) (q : Nat) (ns : List Int) (n k : Nat) (hn : 1 ≤ n ∧ n ≤ 100) (hns : ByteOk ns) (hq : H.f q = some [byteV ns, .int .i64 (min k ns.length : Nat)]) (hk : k ≤ 1000000) :
    ACalls Try.prog 67 [.ptr q 0, .int .i64 n] H (fun v h' => v = .int .i64 (belN ns n k) ∧ h' = H.put q [byteV ns, .int .i64 (min (k + 1) ns.length : Nat)]) := by
  have h1 := Int.emod_nonneg (ns.getD k 0) (show (256 : Int) ≠ 0 by omega)
  have h2 := Int.emod_lt_of_pos (ns.getD k 0) (show (0 : Int) < 256 by omega)
  have h3 := Int.emod_nonneg (ns.getD k 0 % 256) (show (n : Int) ≠ 0 by omega)
  have ht : (ns.getD k 0 % 256).tmod (n : Int) = ns.getD k 0 % 256 % (n : Int) := tmod_nn h1
  have hb : ((belN ns n k : Nat) : Int) = ns.getD k 0 % 256 % (n : Int) := by unfold belN; omega
  rw [hb]
  refine acalls_of_good 2 11 [.tmp 4] Try.func67 rfl rfl (by kernel_rfl) rfl rfl (by decide) ?_
  simp (disch := first | assumption | omega) only [go_sem, Option.map, List.isEmpty, ↓reduceIte, Nat.reduceEqDiff, Nat.reduceAdd, Nat.reduceSub, Nat.reduceMul, Nat.reduceLT, Nat.reduceLeDiff, reduceCtorEq, Nat.reduceBEq, Nat.reduceBNe, Int.reduceNeg, Int.reduceLE, Int.reduceLT, Int.reduceToNat]
  repeat' (first | (first | refine good_seq ?_ | refine good_reg false (fun K hK => ?_) | (refine runL_nil (hK _ _ ?_); clear hK K) | refine runL_none rfl (fun K2 hK2 => ?_) | refine runL_some rfl rfl (fun R S hR hS => ?_) | (refine hK2 _ _ ?_; clear hK2 K2) | (refine hK2 _ _ ?_ ?_ <;> clear hK2 K2) | (refine regW_nil (hK _ _ ?_); clear hK K) | (refine regW_load rfl rfl rfl (fun F1 F2 hF1 hF2 => ?_)) | (refine hF1 _ ?_ ?_ <;> clear hF1 hF2 F1 F2) | (refine hF2 _ _ (fun K2 hK2 => ?_); clear hF1 hF2 F1 F2) | refine regW_light rfl rfl rfl (fun _ _ => rfl) (fun K2 hK2 => ?_) | refine regW_lguard rfl rfl rfl rfl (fun _ _ => rfl) (fun R S hR hS => ?_) | refine regW_heavy rfl rfl (fun K2 hK2 => ?_) | with_reducible refine log_goal ?_ | (refine hR _ (fun K2 hK2 => ?_); clear hR hS R S) | (refine hS _ ?_; clear hR hS R S) | refine good_block ?_ | refine good_skip ?_ | refine good_exit ?_ | refine good_ret ?_ | refine good_cond ?_ | refine And.intro ?_ ?_ | intro _) <;> try simp (disch := first | assumption | omega) only [go_sem, Option.map, List.isEmpty, ↓reduceIte, Nat.reduceEqDiff, Nat.reduceAdd, Nat.reduceSub, Nat.reduceMul, Nat.reduceLT, Nat.reduceLeDiff, reduceCtorEq, Nat.reduceBEq, Nat.reduceBNe, Int.reduceNeg, Int.reduceLE, Int.reduceLT, Int.reduceToNat, wrap_u8', ht] | ((first | (refine ACalls.mono (c_Next H q ns k hns hq hk) (fun v h' hv => ?_); obtain ⟨rfl, hh⟩ := hv; subst h')) <;> try simp (disch := first | assumption | omega) only [go_sem, Option.map, List.isEmpty, ↓reduceIte, Nat.reduceEqDiff, Nat.reduceAdd, Nat.reduceSub, Nat.reduceMul, Nat.reduceLT, Nat.reduceLeDiff, reduceCtorEq, Nat.reduceBEq, Nat.reduceBNe, Int.reduceNeg, Int.reduceLE, Int.reduceLT, Int.reduceToNat, wrap_u8', ht]) | omega)
  all_goals trace_state
def uniC (ns : List Int) (t : Nat) : Int := (ns.getD t 0).tmod 3
def uniS (ns : List Int) (n : Nat) : Nat → List (List Int)
  | 0 => idM n
  | k + 1 => (uniS ns n k).map (rowOp (belN ns n (3 * k)) (belN ns n (3 * k + 1)) (uniC ns (3 * k + 2)))
theorem belN_lt {ns : List Int} {n t : Nat} (hn : 0 < n) : belN ns n t < n := by
  have h3 := Int.emod_nonneg (ns.getD t 0 % 256) (show (n : Int) ≠ 0 by omega)
  have h4 := Int.emod_lt_of_pos (ns.getD t 0 % 256) (show (0 : Int) < n by omega)
  unfold belN; omega
theorem uniC_bd (ns : List Int) (t : Nat) : -2 ≤ uniC ns t ∧ uniC ns t ≤ 2 := by
  unfold uniC
  generalize ns.getD t 0 = x
  have h := (tmod_emod x 3 (by omega)).2
  omega
theorem uniS_length (ns : List Int) (n : Nat) : ∀ k, (uniS ns n k).length = n
  | 0 => by simp [uniS, idM]
  | k + 1 => by simp [uniS, uniS_length ns n k]
theorem uniS_wid (ns : List Int) (n : Nat) : ∀ k, Wid n (uniS ns n k)
  | 0 => fun i hi => by
    simp only [uniS, idM, List.length_map, List.length_range] at hi ⊢
    rw [map_range_getL _ hi]; simp
  | k + 1 => fun i hi => by
    have hi' : i < (uniS ns n k).length := by simpa [uniS] using hi
    have := uniS_wid ns n k i hi'
    simp only [uniS, List.getD_eq_getElem?_getD, List.getElem?_map] at this ⊢
    rw [List.getElem?_eq_getElem hi'] at this ⊢
    simp only [Option.map_some, Option.getD_some] at this ⊢
    rw [rowOp_length]; exact this
/-- Entries are not great. -/
def EB (B : Int) (M : List (List Int)) : Prop := ∀ r ∈ M, ∀ x ∈ r, -B ≤ x ∧ x ≤ B
theorem EB_get {B : Int} (hB : 0 ≤ B) {r : List Int} (h : ∀ x ∈ r, -B ≤ x ∧ x ≤ B) (k : Nat) : -B ≤ r.getD k 0 ∧ r.getD k 0 ≤ B := by
  rw [List.getD_eq_getElem?_getD]
  cases hx : r[k]? with
  | none => simp; omega
  | some x => exact h x (List.mem_of_getElem? hx)
theorem mul_c {c x B : Int} (hc : -2 ≤ c ∧ c ≤ 2) (hx : -B ≤ x ∧ x ≤ B) : -(2 * B) ≤ c * x ∧ c * x ≤ 2 * B := by
  have : c = -2 ∨ c = -1 ∨ c = 0 ∨ c = 1 ∨ c = 2 := by omega
  rcases this with rfl | rfl | rfl | rfl | rfl <;> omega
theorem rowOp_EB {B : Int} (hB : 0 ≤ B) {i j : Nat} {c : Int} (hc : -2 ≤ c ∧ c ≤ 2) {r : List Int} (h : ∀ x ∈ r, -B ≤ x ∧ x ≤ B) : ∀ x ∈ rowOp i j c r, -(3 * B) ≤ x ∧ x ≤ 3 * B := by
  have g1 := EB_get hB h i
  have g2 := EB_get hB h j
  have g3 := mul_c hc g2
  intro x hx
  unfold rowOp at hx
  split at hx
  · split at hx
    · rcases List.mem_or_eq_of_mem_set hx with hx | rfl
      · have := h x hx; omega
      · omega
    · have := h x hx; omega
  · split at hx
    · rcases List.mem_or_eq_of_mem_set hx with hx | rfl
      · rcases List.mem_or_eq_of_mem_set hx with hx | rfl
        · have := h x hx; omega
        · omega
      · omega
    · rcases List.mem_or_eq_of_mem_set hx with hx | rfl
      · have := h x hx; omega
      · omega
theorem uniS_EB (ns : List Int) (n : Nat) : ∀ k, EB (3 ^ k) (uniS ns n k)
  | 0 => fun r hr x hx => by
    simp only [uniS, idM] at hr
    obtain ⟨i, -, rfl⟩ := List.mem_map.1 hr
    rcases List.mem_or_eq_of_mem_set hx with hx | rfl
    · have := (List.mem_replicate.1 hx).2; subst this; simp
    · simp
  | k + 1 => fun r hr x hx => by
    simp only [uniS] at hr
    obtain ⟨q, hq, rfl⟩ := List.mem_map.1 hr
    have := rowOp_EB (B := 3 ^ k) (Int.le_of_lt (Int.pow_pos (by omega))) (uniC_bd ns _) (uniS_EB ns n k q hq) x hx
    rw [Int.pow_succ, Int.mul_comm]; exact this
def uniN (ns : List Int) : Nat := min 12 ((ns.length + 2) / 3)
end Go.Eng
open Go Go.Proofs
set_option linter.unusedVariables false
set_option linter.unusedSimpArgs false
set_option maxRecDepth 4000
set_option maxHeartbeats 40000000
namespace Go.Eng
attribute [local irreducible] Good ACalls runL regW stepW opW gdV' gdD condW gifW binW arW loadW storeW idxAW lenW appW appBW cutW onSome onBnd callW fldAW Again thenQ blockQ resW endQ Up loadR
theorem c_Unimodular (ns : List Int) (n : Nat) (hn : 1 ≤ n ∧ n ≤ 100) (hns : ByteOk ns) (h : AH) : ACalls Try.prog 35 [byteV ns, .int .i64 n] h (fun v h' => v = matV (uniS ns n (uniN ns)) ∧ h' = h) := by
  refine ACalls.sealedT (uniS_length ns n _) (wid_mem (uniS_wid ns n _)) ?_
  have hlen : ∀ (t : TypeId) (K : AV → Prop), lenW Try.prog t (byteV ns) K = (knT Try.prog t = some 3 ∧ K (.int .i64 (ns.length : Int))) := fun t K => by rw [byteV, len_tree, List.length_map]
  have hmB : memA (byteV ns) = true := rfl
  have hcB : cellsA (byteV ns) = [byteV ns] := rfl
  have hoB : oneA (byteV ns) = true := rfl
  have hfit : fitsB Try.prog 23 (byteV ns) = true := by rw [byteV, fit_tree, agT_23]; rfl
  have hf9 := fill59 ns
  obtain ⟨Z, hZ⟩ : ∃ Z, Z = List.replicate n (0 : Int) := ⟨_, rfl⟩
  have hZl : Z.length = n := by rw [hZ]; simp
  refine acalls_of_good 2 145 [.tmp 4] Try.func35 rfl rfl (by kernel_rfl) rfl rfl (by decide) ?_
  simp (disch := first | assumption | omega) only [go_sem, Option.map, List.isEmpty, ↓reduceIte, Nat.reduceEqDiff, Nat.reduceAdd, Nat.reduceSub, Nat.reduceMul, Nat.reduceLT, Nat.reduceLeDiff, reduceCtorEq, Nat.reduceBEq, Nat.reduceBNe, Int.reduceNeg, Int.reduceLE, Int.reduceLT, Int.reduceToNat]
  repeat' (first | (first | refine good_seq ?_ | refine good_reg false (fun K hK => ?_) | (refine runL_nil (hK _ _ ?_); clear hK K) | refine runL_none rfl (fun K2 hK2 => ?_) | refine runL_some rfl rfl (fun R S hR hS => ?_) | (refine hK2 _ _ ?_; clear hK2 K2) | (refine hK2 _ _ ?_ ?_ <;> clear hK2 K2) | (refine regW_nil (hK _ _ ?_); clear hK K) | (refine regW_load rfl rfl rfl (fun F1 F2 hF1 hF2 => ?_)) | (refine hF1 _ ?_ ?_ <;> clear hF1 hF2 F1 F2) | (refine hF2 _ _ (fun K2 hK2 => ?_); clear hF1 hF2 F1 F2) | refine regW_light rfl rfl rfl (fun _ _ => rfl) (fun K2 hK2 => ?_) | refine regW_lguard rfl rfl rfl rfl (fun _ _ => rfl) (fun R S hR hS => ?_) | refine regW_heavy rfl rfl (fun K2 hK2 => ?_) | with_reducible refine log_goal ?_ | (refine hR _ (fun K2 hK2 => ?_); clear hR hS R S) | (refine hS _ ?_; clear hR hS R S) | refine good_block ?_ | refine good_skip ?_ | refine good_exit ?_ | refine good_ret ?_ | refine good_cond ?_ | refine And.intro ?_ ?_ | intro _) <;> try simp (disch := first | assumption | omega) only [go_sem, Option.map, List.isEmpty, ↓reduceIte, Nat.reduceEqDiff, Nat.reduceAdd, Nat.reduceSub, Nat.reduceMul, Nat.reduceLT, Nat.reduceLeDiff, reduceCtorEq, Nat.reduceBEq, Nat.reduceBNe, Int.reduceNeg, Int.reduceLE, Int.reduceLT, Int.reduceToNat] | omega)
  refine good_loop_s (σ := List (List Int)) (fun R' => [(0, byteV ns), (1, .int .i64 n), (5, .bsl h.n 0 n .full), (16, .int .i64 n), (17, .int .i64 R'.length)]) (fun R' => pmH h n n R') (fun R' => R'.length ≤ n ∧ R' = (List.range R'.length).map fun i => Z.set i 1) (fun R' => n - R'.length) [] ?_ pm_zero.symm ⟨Nat.zero_le _, rfl⟩ ?_
  · simp (disch := first | assumption | omega) only [go_sem, Option.map, List.isEmpty, ↓reduceIte, Nat.reduceEqDiff, Nat.reduceAdd, Nat.reduceSub, Nat.reduceMul, Nat.reduceLT, Nat.reduceLeDiff, reduceCtorEq, Nat.reduceBEq, Nat.reduceBNe, Int.reduceNeg, Int.reduceLE, Int.reduceLT, Int.reduceToNat]; (try (refine ⟨?_, ?_⟩ <;> omega)); (try omega)
  intro R' hI n1 hn1
  by_cases hlt : R'.length < n
  · have hpm : ((pmH h n n R').mk_ ((List.replicate n (0 : Int)).map (AV.int .i64))).put h.n ((pmC h.n n R'.length n).set R'.length (.bsl (h.n + 1 + R'.length) 0 n .full)) = pmH h n n (R' ++ [Z]) := by rw [← hZ]; exact pm_more hlt Z
    repeat' (first | (first | refine good_seq ?_ | refine good_reg false (fun K hK => ?_) | (refine runL_nil (hK _ _ ?_); clear hK K) | refine runL_none rfl (fun K2 hK2 => ?_) | refine runL_some rfl rfl (fun R S hR hS => ?_) | (refine hK2 _ _ ?_; clear hK2 K2) | (refine hK2 _ _ ?_ ?_ <;> clear hK2 K2) | (refine regW_nil (hK _ _ ?_); clear hK K) | (refine regW_load rfl rfl rfl (fun F1 F2 hF1 hF2 => ?_)) | (refine hF1 _ ?_ ?_ <;> clear hF1 hF2 F1 F2) | (refine hF2 _ _ (fun K2 hK2 => ?_); clear hF1 hF2 F1 F2) | refine regW_light rfl rfl rfl (fun _ _ => rfl) (fun K2 hK2 => ?_) | refine regW_lguard rfl rfl rfl rfl (fun _ _ => rfl) (fun R S hR hS => ?_) | refine regW_heavy rfl rfl (fun K2 hK2 => ?_) | with_reducible refine log_goal ?_ | (refine hR _ (fun K2 hK2 => ?_); clear hR hS R S) | (refine hS _ ?_; clear hR hS R S) | refine good_block ?_ | refine good_skip ?_ | refine good_exit ?_ | refine good_ret ?_ | refine good_cond ?_ | refine And.intro ?_ ?_ | intro _) <;> try simp (disch := first | assumption | omega) only [go_sem, Option.map, List.isEmpty, ↓reduceIte, Nat.reduceEqDiff, Nat.reduceAdd, Nat.reduceSub, Nat.reduceMul, Nat.reduceLT, Nat.reduceLeDiff, reduceCtorEq, Nat.reduceBEq, Nat.reduceBNe, Int.reduceNeg, Int.reduceLE, Int.reduceLT, Int.reduceToNat, hpm, hZl] | ((first | fail) <;> try simp (disch := first | assumption | omega) only [go_sem, Option.map, List.isEmpty, ↓reduceIte, Nat.reduceEqDiff, Nat.reduceAdd, Nat.reduceSub, Nat.reduceMul, Nat.reduceLT, Nat.reduceLeDiff, reduceCtorEq, Nat.reduceBEq, Nat.reduceBNe, Int.reduceNeg, Int.reduceLE, Int.reduceLT, Int.reduceToNat, hpm, hZl]) | omega)
    refine Again.to (R' ++ [Z.set R'.length 1]) ⟨by rw [List.length_append, List.length_singleton]; exact hlt, ?_⟩ (by show n - (R' ++ [_]).length < n1; rw [List.length_append, List.length_singleton]; omega) ?_ rfl
    · rw [List.length_append, List.length_singleton, range_snoc, ← hI.2]
    · simp (disch := first | assumption | omega) only [go_sem, Option.map, List.isEmpty, ↓reduceIte, Nat.reduceEqDiff, Nat.reduceAdd, Nat.reduceSub, Nat.reduceMul, Nat.reduceLT, Nat.reduceLeDiff, reduceCtorEq, Nat.reduceBEq, Nat.reduceBNe, Int.reduceNeg, Int.reduceLE, Int.reduceLT, Int.reduceToNat]; (try (refine ⟨?_, ?_⟩ <;> omega)); (try omega)
  have hRn : R'.length = n := by omega
  have hRe : R' = uniS ns n 0 := by rw [hI.2, hRn, hZ]; rfl
  subst hRe
  have q0 := th_n (h := h) hRn
  repeat' (first | (first | refine good_seq ?_ | refine good_reg false (fun K hK => ?_) | (refine runL_nil (hK _ _ ?_); clear hK K) | refine runL_none rfl (fun K2 hK2 => ?_) | refine runL_some rfl rfl (fun R S hR hS => ?_) | (refine hK2 _ _ ?_; clear hK2 K2) | (refine hK2 _ _ ?_ ?_ <;> clear hK2 K2) | (refine regW_nil (hK _ _ ?_); clear hK K) | (refine regW_load rfl rfl rfl (fun F1 F2 hF1 hF2 => ?_)) | (refine hF1 _ ?_ ?_ <;> clear hF1 hF2 F1 F2) | (refine hF2 _ _ (fun K2 hK2 => ?_); clear hF1 hF2 F1 F2) | refine regW_light rfl rfl rfl (fun _ _ => rfl) (fun K2 hK2 => ?_) | refine regW_lguard rfl rfl rfl rfl (fun _ _ => rfl) (fun R S hR hS => ?_) | refine regW_heavy rfl rfl (fun K2 hK2 => ?_) | with_reducible refine log_goal ?_ | (refine hR _ (fun K2 hK2 => ?_); clear hR hS R S) | (refine hS _ ?_; clear hR hS R S) | refine good_block ?_ | refine good_skip ?_ | refine good_exit ?_ | refine good_ret ?_ | refine good_cond ?_ | refine And.intro ?_ ?_ | intro _) <;> try simp (disch := first | assumption | omega) only [go_sem, Option.map, List.isEmpty, ↓reduceIte, Nat.reduceEqDiff, Nat.reduceAdd, Nat.reduceSub, Nat.reduceMul, Nat.reduceLT, Nat.reduceLeDiff, reduceCtorEq, Nat.reduceBEq, Nat.reduceBNe, Int.reduceNeg, Int.reduceLE, Int.reduceLT, Int.reduceToNat, hf9, hmB, hcB, hoB, hfit, q0] | ((first | fail) <;> try simp (disch := first | assumption | omega) only [go_sem, Option.map, List.isEmpty, ↓reduceIte, Nat.reduceEqDiff, Nat.reduceAdd, Nat.reduceSub, Nat.reduceMul, Nat.reduceLT, Nat.reduceLeDiff, reduceCtorEq, Nat.reduceBEq, Nat.reduceBNe, Int.reduceNeg, Int.reduceLE, Int.reduceLT, Int.reduceToNat, hf9, hmB, hcB, hoB, hfit, q0]) | omega)
  refine good_loop_s (σ := Nat) (fun k => [(1, .int .i64 n), (5, .bsl h.n 0 n .full), (7, .ptr (h.n + 1 + n) 0), (8, .int .i64 k)]) (fun k => (pmH h n n (uniS ns n k)).mk_ [byteV ns, .int .i64 (min (3 * k) ns.length : Nat)]) (fun k => k ≤ uniN ns) (fun k => uniN ns - k) 0 ?_ ?_ (Nat.zero_le _) ?_
  · simp (disch := first | assumption | omega) only [go_sem, Option.map, List.isEmpty, ↓reduceIte, Nat.reduceEqDiff, Nat.reduceAdd, Nat.reduceSub, Nat.reduceMul, Nat.reduceLT, Nat.reduceLeDiff, reduceCtorEq, Nat.reduceBEq, Nat.reduceBNe, Int.reduceNeg, Int.reduceLE, Int.reduceLT, Int.reduceToNat]; (try (refine ⟨?_, ?_⟩ <;> omega)); (try omega)
  · simp only [Nat.mul_zero, Nat.zero_min]; rfl
  intro k hk n2 hn2
  have hUl := uniS_length ns n k
  have hUw := uniS_wid ns n k
  have hUN : uniN ns ≤ 12 := by unfold uniN; omega
  have hq : ∀ y, ((pmH h n n (uniS ns n k)).mk_ y).f (h.n + 1 + n) = some y := fun y => th_q hUl
  have hp : ∀ y z, ((pmH h n n (uniS ns n k)).mk_ y).put (h.n + 1 + n) z = (pmH h n n (uniS ns n k)).mk_ z := fun y z => th_putq hUl z
  by_cases hkN : k < uniN ns
  · have hk3 : k < 12 ∧ 3 * k < ns.length := by unfold uniN at hkN; omega
    have hm0 : min (3 * k) ns.length = 3 * k := by omega
    obtain ⟨i, hi⟩ : ∃ i, i = belN ns n (3 * k) := ⟨_, rfl⟩
    obtain ⟨j, hj⟩ : ∃ j, j = belN ns n (3 * k + 1) := ⟨_, rfl⟩
    obtain ⟨c, hc⟩ : ∃ c, c = uniC ns (3 * k + 2) := ⟨_, rfl⟩
    have hin : i < n := by rw [hi]; exact belN_lt (by omega)
    have hjn : j < n := by rw [hj]; exact belN_lt (by omega)
    have hcb := uniC_bd ns (3 * k + 2)
    rw [← hc] at hcb
    have hcc : (ns.getD (3 * k + 2) 0).tmod 3 = c := by rw [hc]; rfl
    have hnb := byte_get hns (3 * k + 2)
    repeat' (first | ((first | (refine hR _ (fun F1 F2 hF1 hF2 => ?_); clear hR hS R S) | (refine regW_glload rfl rfl rfl rfl (fun R S hR hS => ?_)) | refine good_drw (id := 10) mixed false [[], [0], [0, 1], [0, 1, 2], [0, 1, 2, 3], [0, 1, 2, 3, 4], [0, 1, 2, 3, 4, 5], [0, 1, 2], [0, 1, 2, 7], [0, 1, 2, 7, 8], [0, 1, 2, 7, 8, 9], [0, 1, 2, 7, 8, 9, 10], [0, 1, 2, 3, 4, 5, 6, 7, 8, 9, 10, 11], [0, 1, 2, 3, 4, 5, 6, 7, 8, 9, 10, 11, 12]] [0, 1, 2, 3, 4, 5, 6, 7, 8, 9, 10, 11, 12, 13] (by decide +kernel) (fun K hK => ?_) | refine good_drw (id := 18) mixed false [[], [], [0, 1], [0, 1, 2], [], [], [], [5, 6], [5, 6, 7], [], [5, 6, 7, 8, 9], [5, 6, 7, 8, 9, 10], [5, 6, 7, 8, 9, 10, 11], [0, 1, 2, 3, 4, 5, 6, 7, 8, 9, 10, 11, 12], [0, 1, 2, 3, 4, 5, 6, 7, 8, 9, 10, 11, 12, 13]] [0, 1, 2, 3, 4, 5, 6, 7, 8, 9, 10, 11, 12, 13, 14] (by decide +kernel) (fun K hK => ?_) | refine good_drw (id := 20) mixed false [[], [], [0, 1], [0, 1, 2], [], [], [], [5, 6], [5, 6, 7], [], [], [], [10, 11], [10, 11, 12], [], [10, 11, 12, 13, 14], [10, 11, 12, 13, 14, 15], [], [], [17, 18], [17, 18, 19], [], [17, 18, 19, 20, 21], [17, 18, 19, 20, 21, 22], [0, 1, 2, 3, 4, 5, 6, 7, 8, 10, 11, 12, 13, 14, 15, 16, 17, 18, 19, 20, 21, 22, 23], [0, 1, 2, 3, 4, 5, 6, 7, 8, 10, 11, 12, 13, 14, 15, 16, 17, 18, 19, 20, 21, 22, 23, 24], [0, 1, 2, 3, 4, 5, 6, 7, 8, 9, 10, 11, 12, 13, 14, 15, 16, 17, 18, 19, 20, 21, 22, 23, 24, 25], [0, 1, 2, 3, 4, 5, 6, 7, 8, 9, 10, 11, 12, 13, 14, 15, 16, 17, 18, 19, 20, 21, 22, 23, 24, 25, 26]] [0, 1, 2, 3, 4, 5, 6, 7, 8, 9, 10, 11, 12, 13, 14, 15, 16, 17, 18, 19, 20, 21, 22, 23, 24, 25, 26, 27] (by decide +kernel) (fun K hK => ?_) | refine good_drw (id := 22) mixed false [[], [], [0, 1], [0, 1, 2], [], [0, 1, 2, 3, 4], [0, 1, 2, 3, 4, 5], [], [], [], [8, 9], [8, 9, 10], [], [8, 9, 10, 11, 12], [8, 9, 10, 11, 12, 13], [7, 8, 9, 10, 11, 12, 13, 14], [0, 1, 2, 3, 4, 5, 6, 7, 8, 9, 10, 11, 12, 13, 14, 15], [0, 1, 2, 3, 4, 5, 6, 7, 8, 9, 10, 11, 12, 13, 14, 15, 16], [0, 1, 2, 3, 4, 5, 6, 7, 8, 9, 10, 11, 12, 13, 14, 15, 16, 17]] [0, 1, 2, 3, 4, 5, 6, 7, 8, 9, 10, 11, 12, 13, 14, 15, 16, 17, 18] (by decide +kernel) (fun K hK => ?_) | (refine ACalls.mono (c_Below _ (h.n + 1 + n) ns n (3 * k) hn hns (hq _) (by omega)) (fun v h' hv => ?_); obtain ⟨rfl, hh⟩ := hv; subst h'; rw [hp, ← hi]) | (refine ACalls.mono (c_Below _ (h.n + 1 + n) ns n (3 * k + 1) hn hns (hq _) (by omega)) (fun v h' hv => ?_); obtain ⟨rfl, hh⟩ := hv; subst h'; rw [hp, ← hj]) | (refine ACalls.mono (c_Next _ (h.n + 1 + n) ns (3 * k + 2) hns (hq _) (by omega)) (fun v h' hv => ?_); obtain ⟨rfl, hh⟩ := hv; subst h'; rw [hp])) <;> try simp (disch := first | assumption | omega) only [go_sem, Option.map, List.isEmpty, ↓reduceIte, Nat.reduceEqDiff, Nat.reduceAdd, Nat.reduceSub, Nat.reduceMul, Nat.reduceLT, Nat.reduceLeDiff, reduceCtorEq, Nat.reduceBEq, Nat.reduceBNe, Int.reduceNeg, Int.reduceLE, Int.reduceLT, Int.reduceToNat, hlen, hfit, hq, hp, hcc]) | (first | refine good_seq ?_ | refine good_reg false (fun K hK => ?_) | (refine runL_nil (hK _ _ ?_); clear hK K) | refine runL_none rfl (fun K2 hK2 => ?_) | refine runL_some rfl rfl (fun R S hR hS => ?_) | (refine hK2 _ _ ?_; clear hK2 K2) | (refine hK2 _ _ ?_ ?_ <;> clear hK2 K2) | (refine regW_nil (hK _ _ ?_); clear hK K) | (refine regW_load rfl rfl rfl (fun F1 F2 hF1 hF2 => ?_)) | (refine hF1 _ ?_ ?_ <;> clear hF1 hF2 F1 F2) | (refine hF2 _ _ (fun K2 hK2 => ?_); clear hF1 hF2 F1 F2) | refine regW_light rfl rfl rfl (fun _ _ => rfl) (fun K2 hK2 => ?_) | refine regW_lguard rfl rfl rfl rfl (fun _ _ => rfl) (fun R S hR hS => ?_) | refine regW_heavy rfl rfl (fun K2 hK2 => ?_) | with_reducible refine log_goal ?_ | (refine hR _ (fun K2 hK2 => ?_); clear hR hS R S) | (refine hS _ ?_; clear hR hS R S) | refine good_block ?_ | refine good_skip ?_ | refine good_exit ?_ | refine good_ret ?_ | refine good_cond ?_ | refine And.intro ?_ ?_ | intro _) <;> try simp (disch := first | assumption | omega) only [go_sem, Option.map, List.isEmpty, ↓reduceIte, Nat.reduceEqDiff, Nat.reduceAdd, Nat.reduceSub, Nat.reduceMul, Nat.reduceLT, Nat.reduceLeDiff, reduceCtorEq, Nat.reduceBEq, Nat.reduceBNe, Int.reduceNeg, Int.reduceLE, Int.reduceLT, Int.reduceToNat, hlen, hfit, hq, hp, hcc] | omega)
    have hEB := uniS_EB ns n k
    have hB3 : (3 : Int) ^ k ≤ 177147 := by
      have h1 : k ≤ 11 := by omega
      have : ∀ m : Nat, m ≤ 11 → (3 : Int) ^ m ≤ 177147 := by decide
      exact this k h1
    have hB0 : (0 : Int) ≤ 3 ^ k := Int.le_of_lt (Int.pow_pos (by omega))
    obtain ⟨U, hU⟩ : ∃ U, U = uniS ns n k := ⟨_, rfl⟩
    obtain ⟨y, hy⟩ : ∃ y, y = [byteV ns, AV.int .i64 (min (3 * k + 2 + 1) ns.length : Nat)] := ⟨_, rfl⟩
    rw [← hU] at hUl hUw hEB
    rw [← hU, ← hy]
    refine good_loop_s (σ := Nat) (fun q => [(1, .int .i64 n), (5, .bsl h.n 0 n .full), (7, .ptr (h.n + 1 + n) 0), (8, .int .i64 k), (9, .int .i64 i), (10, .int .i64 j), (11, .int .i64 c), (61, .int .i64 n), (62, .int .i64 q)]) (fun q => (pmH h n n (mapTo (rowOp i j c) U q)).mk_ y) (fun q => q ≤ n) (fun q => n - q) 0 ?_ ?_ (Nat.zero_le _) ?_
    · simp (disch := first | assumption | omega) only [go_sem, Option.map, List.isEmpty, ↓reduceIte, Nat.reduceEqDiff, Nat.reduceAdd, Nat.reduceSub, Nat.reduceMul, Nat.reduceLT, Nat.reduceLeDiff, reduceCtorEq, Nat.reduceBEq, Nat.reduceBNe, Int.reduceNeg, Int.reduceLE, Int.reduceLT, Int.reduceToNat]; (try (refine ⟨?_, ?_⟩ <;> omega)); (try omega)
    · simp only [mapTo_zero]
    intro q hqn n3 hn3
    by_cases hql : q < n
    · obtain ⟨M, hM⟩ : ∃ M, M = mapTo (rowOp i j c) U q := ⟨_, rfl⟩
      have hMl : M.length = n := by rw [hM, mapTo_length, hUl]
      obtain ⟨r, hr⟩ : ∃ r, r = M.getD q [] := ⟨_, rfl⟩
      have hrU : r = U.getD q [] := by rw [hr, hM]; exact mapTo_ge _ _ (by omega)
      have hrl : r.length = n := by rw [hrU]; exact hUw q (by omega)
      have hre : ∀ x ∈ r, -(3 ^ k) ≤ x ∧ x ≤ 3 ^ k := by rw [hrU]; exact hEB _ (mem_getD (by omega))
      have gi := EB_get hB0 hre i
      have gj := EB_get hB0 hre j
      have gc := mul_c hcb gj
      have hnext : ∀ x, x = rowOp i j c r → M.set q x = mapTo (rowOp i j c) U (q + 1) := fun x hx => by rw [hx, hrU, hM]; exact mapTo_set _ _ (by omega)
      have hMr : M.set q r = M := by rw [hr]; exact set_same (by omega)
      have w1 : ((pmH h n n M).mk_ y).f h.n = some (pmC h.n n n n) := th_O hMl
      have w2 : ((pmH h n n M).mk_ y).f (h.n + 1 + q) = some (r.map (AV.int .i64)) := by rw [hr]; exact th_row hMl hql
      have w3 : ∀ x : List Int, ((pmH h n n M).mk_ y).put (h.n + 1 + q) (x.map (AV.int .i64)) = (pmH h n n (M.set q x)).mk_ y := fun x => th_put hMl hql x
      have w4 : ∀ x : List Int, ((pmH h n n (M.set q x)).mk_ y).f (h.n + 1 + q) = some (x.map (AV.int .i64)) := fun x => by
        rw [th_row (by rw [List.length_set]; exact hMl) hql, getD_setM _ _ _ (by omega)]
      have w5 : ∀ x z : List Int, ((pmH h n n (M.set q x)).mk_ y).put (h.n + 1 + q) (z.map (AV.int .i64)) = (pmH h n n (M.set q z)).mk_ y := fun x z => by
        rw [th_put (by rw [List.length_set]; exact hMl) hql, List.set_set]
      have w6 : ∀ x : List Int, ((pmH h n n (M.set q x)).mk_ y).f h.n = some (pmC h.n n n n) := fun x => th_O (by rw [List.length_set]; exact hMl)
      rw [← hM]
      clear hEB hB0 hre hlen hfit hq hp hcc hk3 hUN
      by_cases hij : i = j
      · have c1 : ((i : Int) == (j : Int)) = true := by simp [hij]
        have c2 : ((i : Int) != (j : Int)) = false := by simp [hij]
        by_cases hc0 : c < 0
        · have hx := hnext (r.set i (-(r.getD i 0))) (by unfold rowOp; rw [if_pos hij, if_pos hc0])
          repeat' (first | (first | refine good_seq ?_ | refine good_reg false (fun K hK => ?_) | (refine runL_nil (hK _ _ ?_); clear hK K) | refine runL_none rfl (fun K2 hK2 => ?_) | refine runL_some rfl rfl (fun R S hR hS => ?_) | (refine hK2 _ _ ?_; clear hK2 K2) | (refine hK2 _ _ ?_ ?_ <;> clear hK2 K2) | (refine regW_nil (hK _ _ ?_); clear hK K) | (refine regW_load rfl rfl rfl (fun F1 F2 hF1 hF2 => ?_)) | (refine hF1 _ ?_ ?_ <;> clear hF1 hF2 F1 F2) | (refine hF2 _ _ (fun K2 hK2 => ?_); clear hF1 hF2 F1 F2) | refine regW_light rfl rfl rfl (fun _ _ => rfl) (fun K2 hK2 => ?_) | refine regW_lguard rfl rfl rfl rfl (fun _ _ => rfl) (fun R S hR hS => ?_) | refine regW_heavy rfl rfl (fun K2 hK2 => ?_) | with_reducible refine log_goal ?_ | (refine hR _ (fun K2 hK2 => ?_); clear hR hS R S) | (refine hS _ ?_; clear hR hS R S) | refine good_block ?_ | refine good_skip ?_ | refine good_exit ?_ | refine good_ret ?_ | refine good_cond ?_ | refine And.intro ?_ ?_ | intro _) <;> try simp (disch := first | assumption | omega) only [go_sem, Option.map, List.isEmpty, ↓reduceIte, Nat.reduceEqDiff, Nat.reduceAdd, Nat.reduceSub, Nat.reduceMul, Nat.reduceLT, Nat.reduceLeDiff, reduceCtorEq, Nat.reduceBEq, Nat.reduceBNe, Int.reduceNeg, Int.reduceLE, Int.reduceLT, Int.reduceToNat, c1, c2, w1, w2, w3, w4, w5, w6, Int.zero_sub] | ((first | refine good_drw (id := 10) mixed false [[], [0], [0, 1], [0, 1, 2], [0, 1, 2, 3], [0, 1, 2, 3, 4], [0, 1, 2, 3, 4, 5], [0, 1, 2], [0, 1, 2, 7], [0, 1, 2, 7, 8], [0, 1, 2, 7, 8, 9], [0, 1, 2, 7, 8, 9, 10], [0, 1, 2, 3, 4, 5, 6, 7, 8, 9, 10, 11], [0, 1, 2, 3, 4, 5, 6, 7, 8, 9, 10, 11, 12]] [0, 1, 2, 3, 4, 5, 6, 7, 8, 9, 10, 11, 12, 13] (by decide +kernel) (fun K hK => ?_) | refine good_drw (id := 18) mixed false [[], [], [0, 1], [0, 1, 2], [], [], [], [5, 6], [5, 6, 7], [], [5, 6, 7, 8, 9], [5, 6, 7, 8, 9, 10], [5, 6, 7, 8, 9, 10, 11], [0, 1, 2, 3, 4, 5, 6, 7, 8, 9, 10, 11, 12], [0, 1, 2, 3, 4, 5, 6, 7, 8, 9, 10, 11, 12, 13]] [0, 1, 2, 3, 4, 5, 6, 7, 8, 9, 10, 11, 12, 13, 14] (by decide +kernel) (fun K hK => ?_) | refine good_drw (id := 20) mixed false [[], [], [0, 1], [0, 1, 2], [], [], [], [5, 6], [5, 6, 7], [], [], [], [10, 11], [10, 11, 12], [], [10, 11, 12, 13, 14], [10, 11, 12, 13, 14, 15], [], [], [17, 18], [17, 18, 19], [], [17, 18, 19, 20, 21], [17, 18, 19, 20, 21, 22], [0, 1, 2, 3, 4, 5, 6, 7, 8, 10, 11, 12, 13, 14, 15, 16, 17, 18, 19, 20, 21, 22, 23], [0, 1, 2, 3, 4, 5, 6, 7, 8, 10, 11, 12, 13, 14, 15, 16, 17, 18, 19, 20, 21, 22, 23, 24], [0, 1, 2, 3, 4, 5, 6, 7, 8, 9, 10, 11, 12, 13, 14, 15, 16, 17, 18, 19, 20, 21, 22, 23, 24, 25], [0, 1, 2, 3, 4, 5, 6, 7, 8, 9, 10, 11, 12, 13, 14, 15, 16, 17, 18, 19, 20, 21, 22, 23, 24, 25, 26]] [0, 1, 2, 3, 4, 5, 6, 7, 8, 9, 10, 11, 12, 13, 14, 15, 16, 17, 18, 19, 20, 21, 22, 23, 24, 25, 26, 27] (by decide +kernel) (fun K hK => ?_) | refine good_drw (id := 22) mixed false [[], [], [0, 1], [0, 1, 2], [], [0, 1, 2, 3, 4], [0, 1, 2, 3, 4, 5], [], [], [], [8, 9], [8, 9, 10], [], [8, 9, 10, 11, 12], [8, 9, 10, 11, 12, 13], [7, 8, 9, 10, 11, 12, 13, 14], [0, 1, 2, 3, 4, 5, 6, 7, 8, 9, 10, 11, 12, 13, 14, 15], [0, 1, 2, 3, 4, 5, 6, 7, 8, 9, 10, 11, 12, 13, 14, 15, 16], [0, 1, 2, 3, 4, 5, 6, 7, 8, 9, 10, 11, 12, 13, 14, 15, 16, 17]] [0, 1, 2, 3, 4, 5, 6, 7, 8, 9, 10, 11, 12, 13, 14, 15, 16, 17, 18] (by decide +kernel) (fun K hK => ?_)) <;> try simp (disch := first | assumption | omega) only [go_sem, Option.map, List.isEmpty, ↓reduceIte, Nat.reduceEqDiff, Nat.reduceAdd, Nat.reduceSub, Nat.reduceMul, Nat.reduceLT, Nat.reduceLeDiff, reduceCtorEq, Nat.reduceBEq, Nat.reduceBNe, Int.reduceNeg, Int.reduceLE, Int.reduceLT, Int.reduceToNat, c1, c2, w1, w2, w3, w4, w5, w6, Int.zero_sub]) | omega)
          refine Again.to (q + 1) (by omega) (by omega) ?_ ?_
          · simp (disch := first | assumption | omega) only [go_sem, Option.map, List.isEmpty, ↓reduceIte, Nat.reduceEqDiff, Nat.reduceAdd, Nat.reduceSub, Nat.reduceMul, Nat.reduceLT, Nat.reduceLeDiff, reduceCtorEq, Nat.reduceBEq, Nat.reduceBNe, Int.reduceNeg, Int.reduceLE, Int.reduceLT, Int.reduceToNat]; (try (refine ⟨?_, ?_⟩ <;> omega)); (try omega)
          · show (pmH h n n (mapTo (rowOp i j c) U (q + 1))).mk_ y = _
            rw [← hx]
        · have hx := hnext r (by unfold rowOp; rw [if_pos hij, if_neg hc0])
          rw [hMr] at hx
          repeat' (first | (first | refine good_seq ?_ | refine good_reg false (fun K hK => ?_) | (refine runL_nil (hK _ _ ?_); clear hK K) | refine runL_none rfl (fun K2 hK2 => ?_) | refine runL_some rfl rfl (fun R S hR hS => ?_) | (refine hK2 _ _ ?_; clear hK2 K2) | (refine hK2 _ _ ?_ ?_ <;> clear hK2 K2) | (refine regW_nil (hK _ _ ?_); clear hK K) | (refine regW_load rfl rfl rfl (fun F1 F2 hF1 hF2 => ?_)) | (refine hF1 _ ?_ ?_ <;> clear hF1 hF2 F1 F2) | (refine hF2 _ _ (fun K2 hK2 => ?_); clear hF1 hF2 F1 F2) | refine regW_light rfl rfl rfl (fun _ _ => rfl) (fun K2 hK2 => ?_) | refine regW_lguard rfl rfl rfl rfl (fun _ _ => rfl) (fun R S hR hS => ?_) | refine regW_heavy rfl rfl (fun K2 hK2 => ?_) | with_reducible refine log_goal ?_ | (refine hR _ (fun K2 hK2 => ?_); clear hR hS R S) | (refine hS _ ?_; clear hR hS R S) | refine good_block ?_ | refine good_skip ?_ | refine good_exit ?_ | refine good_ret ?_ | refine good_cond ?_ | refine And.intro ?_ ?_ | intro _) <;> try simp (disch := first | assumption | omega) only [go_sem, Option.map, List.isEmpty, ↓reduceIte, Nat.reduceEqDiff, Nat.reduceAdd, Nat.reduceSub, Nat.reduceMul, Nat.reduceLT, Nat.reduceLeDiff, reduceCtorEq, Nat.reduceBEq, Nat.reduceBNe, Int.reduceNeg, Int.reduceLE, Int.reduceLT, Int.reduceToNat, c1, c2, w1, w2, w3, w4, w5, w6, Int.zero_sub] | ((first | refine good_drw (id := 10) mixed false [[], [0], [0, 1], [0, 1, 2], [0, 1, 2, 3], [0, 1, 2, 3, 4], [0, 1, 2, 3, 4, 5], [0, 1, 2], [0, 1, 2, 7], [0, 1, 2, 7, 8], [0, 1, 2, 7, 8, 9], [0, 1, 2, 7, 8, 9, 10], [0, 1, 2, 3, 4, 5, 6, 7, 8, 9, 10, 11], [0, 1, 2, 3, 4, 5, 6, 7, 8, 9, 10, 11, 12]] [0, 1, 2, 3, 4, 5, 6, 7, 8, 9, 10, 11, 12, 13] (by decide +kernel) (fun K hK => ?_) | refine good_drw (id := 18) mixed false [[], [], [0, 1], [0, 1, 2], [], [], [], [5, 6], [5, 6, 7], [], [5, 6, 7, 8, 9], [5, 6, 7, 8, 9, 10], [5, 6, 7, 8, 9, 10, 11], [0, 1, 2, 3, 4, 5, 6, 7, 8, 9, 10, 11, 12], [0, 1, 2, 3, 4, 5, 6, 7, 8, 9, 10, 11, 12, 13]] [0, 1, 2, 3, 4, 5, 6, 7, 8, 9, 10, 11, 12, 13, 14] (by decide +kernel) (fun K hK => ?_) | refine good_drw (id := 20) mixed false [[], [], [0, 1], [0, 1, 2], [], [], [], [5, 6], [5, 6, 7], [], [], [], [10, 11], [10, 11, 12], [], [10, 11, 12, 13, 14], [10, 11, 12, 13, 14, 15], [], [], [17, 18], [17, 18, 19], [], [17, 18, 19, 20, 21], [17, 18, 19, 20, 21, 22], [0, 1, 2, 3, 4, 5, 6, 7, 8, 10, 11, 12, 13, 14, 15, 16, 17, 18, 19, 20, 21, 22, 23], [0, 1, 2, 3, 4, 5, 6, 7, 8, 10, 11, 12, 13, 14, 15, 16, 17, 18, 19, 20, 21, 22, 23, 24], [0, 1, 2, 3, 4, 5, 6, 7, 8, 9, 10, 11, 12, 13, 14, 15, 16, 17, 18, 19, 20, 21, 22, 23, 24, 25], [0, 1, 2, 3, 4, 5, 6, 7, 8, 9, 10, 11, 12, 13, 14, 15, 16, 17, 18, 19, 20, 21, 22, 23, 24, 25, 26]] [0, 1, 2, 3, 4, 5, 6, 7, 8, 9, 10, 11, 12, 13, 14, 15, 16, 17, 18, 19, 20, 21, 22, 23, 24, 25, 26, 27] (by decide +kernel) (fun K hK => ?_) | refine good_drw (id := 22) mixed false [[], [], [0, 1], [0, 1, 2], [], [0, 1, 2, 3, 4], [0, 1, 2, 3, 4, 5], [], [], [], [8, 9], [8, 9, 10], [], [8, 9, 10, 11, 12], [8, 9, 10, 11, 12, 13], [7, 8, 9, 10, 11, 12, 13, 14], [0, 1, 2, 3, 4, 5, 6, 7, 8, 9, 10, 11, 12, 13, 14, 15], [0, 1, 2, 3, 4, 5, 6, 7, 8, 9, 10, 11, 12, 13, 14, 15, 16], [0, 1, 2, 3, 4, 5, 6, 7, 8, 9, 10, 11, 12, 13, 14, 15, 16, 17]] [0, 1, 2, 3, 4, 5, 6, 7, 8, 9, 10, 11, 12, 13, 14, 15, 16, 17, 18] (by decide +kernel) (fun K hK => ?_)) <;> try simp (disch := first | assumption | omega) only [go_sem, Option.map, List.isEmpty, ↓reduceIte, Nat.reduceEqDiff, Nat.reduceAdd, Nat.reduceSub, Nat.reduceMul, Nat.reduceLT, Nat.reduceLeDiff, reduceCtorEq, Nat.reduceBEq, Nat.reduceBNe, Int.reduceNeg, Int.reduceLE, Int.reduceLT, Int.reduceToNat, c1, c2, w1, w2, w3, w4, w5, w6, Int.zero_sub]) | omega)
          refine Again.to (q + 1) (by omega) (by omega) ?_ ?_
          · simp (disch := first | assumption | omega) only [go_sem, Option.map, List.isEmpty, ↓reduceIte, Nat.reduceEqDiff, Nat.reduceAdd, Nat.reduceSub, Nat.reduceMul, Nat.reduceLT, Nat.reduceLeDiff, reduceCtorEq, Nat.reduceBEq, Nat.reduceBNe, Int.reduceNeg, Int.reduceLE, Int.reduceLT, Int.reduceToNat]; (try (refine ⟨?_, ?_⟩ <;> omega)); (try omega)
          · show (pmH h n n (mapTo (rowOp i j c) U (q + 1))).mk_ y = _
            rw [← hx]
      · have c1 : ((i : Int) == (j : Int)) = false := by simp; omega
        have c2 : ((i : Int) != (j : Int)) = true := by simp; omega
        by_cases hc0 : c = 0
        · have hx := hnext ((r.set i (r.getD j 0)).set j (r.getD i 0)) (by unfold rowOp; rw [if_neg hij, if_pos hc0])
          have c3 : (c == 0) = true := by simp [hc0]
          repeat' (first | (first | refine good_seq ?_ | refine good_reg false (fun K hK => ?_) | (refine runL_nil (hK _ _ ?_); clear hK K) | refine runL_none rfl (fun K2 hK2 => ?_) | refine runL_some rfl rfl (fun R S hR hS => ?_) | (refine hK2 _ _ ?_; clear hK2 K2) | (refine hK2 _ _ ?_ ?_ <;> clear hK2 K2) | (refine regW_nil (hK _ _ ?_); clear hK K) | (refine regW_load rfl rfl rfl (fun F1 F2 hF1 hF2 => ?_)) | (refine hF1 _ ?_ ?_ <;> clear hF1 hF2 F1 F2) | (refine hF2 _ _ (fun K2 hK2 => ?_); clear hF1 hF2 F1 F2) | refine regW_light rfl rfl rfl (fun _ _ => rfl) (fun K2 hK2 => ?_) | refine regW_lguard rfl rfl rfl rfl (fun _ _ => rfl) (fun R S hR hS => ?_) | refine regW_heavy rfl rfl (fun K2 hK2 => ?_) | with_reducible refine log_goal ?_ | (refine hR _ (fun K2 hK2 => ?_); clear hR hS R S) | (refine hS _ ?_; clear hR hS R S) | refine good_block ?_ | refine good_skip ?_ | refine good_exit ?_ | refine good_ret ?_ | refine good_cond ?_ | refine And.intro ?_ ?_ | intro _) <;> try simp (disch := first | assumption | omega) only [go_sem, Option.map, List.isEmpty, ↓reduceIte, Nat.reduceEqDiff, Nat.reduceAdd, Nat.reduceSub, Nat.reduceMul, Nat.reduceLT, Nat.reduceLeDiff, reduceCtorEq, Nat.reduceBEq, Nat.reduceBNe, Int.reduceNeg, Int.reduceLE, Int.reduceLT, Int.reduceToNat, c1, c2, c3, w1, w2, w3, w4, w5, w6] | ((first | refine good_drw (id := 10) mixed false [[], [0], [0, 1], [0, 1, 2], [0, 1, 2, 3], [0, 1, 2, 3, 4], [0, 1, 2, 3, 4, 5], [0, 1, 2], [0, 1, 2, 7], [0, 1, 2, 7, 8], [0, 1, 2, 7, 8, 9], [0, 1, 2, 7, 8, 9, 10], [0, 1, 2, 3, 4, 5, 6, 7, 8, 9, 10, 11], [0, 1, 2, 3, 4, 5, 6, 7, 8, 9, 10, 11, 12]] [0, 1, 2, 3, 4, 5, 6, 7, 8, 9, 10, 11, 12, 13] (by decide +kernel) (fun K hK => ?_) | refine good_drw (id := 18) mixed false [[], [], [0, 1], [0, 1, 2], [], [], [], [5, 6], [5, 6, 7], [], [5, 6, 7, 8, 9], [5, 6, 7, 8, 9, 10], [5, 6, 7, 8, 9, 10, 11], [0, 1, 2, 3, 4, 5, 6, 7, 8, 9, 10, 11, 12], [0, 1, 2, 3, 4, 5, 6, 7, 8, 9, 10, 11, 12, 13]] [0, 1, 2, 3, 4, 5, 6, 7, 8, 9, 10, 11, 12, 13, 14] (by decide +kernel) (fun K hK => ?_) | refine good_drw (id := 20) mixed false [[], [], [0, 1], [0, 1, 2], [], [], [], [5, 6], [5, 6, 7], [], [], [], [10, 11], [10, 11, 12], [], [10, 11, 12, 13, 14], [10, 11, 12, 13, 14, 15], [], [], [17, 18], [17, 18, 19], [], [17, 18, 19, 20, 21], [17, 18, 19, 20, 21, 22], [0, 1, 2, 3, 4, 5, 6, 7, 8, 10, 11, 12, 13, 14, 15, 16, 17, 18, 19, 20, 21, 22, 23], [0, 1, 2, 3, 4, 5, 6, 7, 8, 10, 11, 12, 13, 14, 15, 16, 17, 18, 19, 20, 21, 22, 23, 24], [0, 1, 2, 3, 4, 5, 6, 7, 8, 9, 10, 11, 12, 13, 14, 15, 16, 17, 18, 19, 20, 21, 22, 23, 24, 25], [0, 1, 2, 3, 4, 5, 6, 7, 8, 9, 10, 11, 12, 13, 14, 15, 16, 17, 18, 19, 20, 21, 22, 23, 24, 25, 26]] [0, 1, 2, 3, 4, 5, 6, 7, 8, 9, 10, 11, 12, 13, 14, 15, 16, 17, 18, 19, 20, 21, 22, 23, 24, 25, 26, 27] (by decide +kernel) (fun K hK => ?_) | refine good_drw (id := 22) mixed false [[], [], [0, 1], [0, 1, 2], [], [0, 1, 2, 3, 4], [0, 1, 2, 3, 4, 5], [], [], [], [8, 9], [8, 9, 10], [], [8, 9, 10, 11, 12], [8, 9, 10, 11, 12, 13], [7, 8, 9, 10, 11, 12, 13, 14], [0, 1, 2, 3, 4, 5, 6, 7, 8, 9, 10, 11, 12, 13, 14, 15], [0, 1, 2, 3, 4, 5, 6, 7, 8, 9, 10, 11, 12, 13, 14, 15, 16], [0, 1, 2, 3, 4, 5, 6, 7, 8, 9, 10, 11, 12, 13, 14, 15, 16, 17]] [0, 1, 2, 3, 4, 5, 6, 7, 8, 9, 10, 11, 12, 13, 14, 15, 16, 17, 18] (by decide +kernel) (fun K hK => ?_)) <;> try simp (disch := first | assumption | omega) only [go_sem, Option.map, List.isEmpty, ↓reduceIte, Nat.reduceEqDiff, Nat.reduceAdd, Nat.reduceSub, Nat.reduceMul, Nat.reduceLT, Nat.reduceLeDiff, reduceCtorEq, Nat.reduceBEq, Nat.reduceBNe, Int.reduceNeg, Int.reduceLE, Int.reduceLT, Int.reduceToNat, c1, c2, c3, w1, w2, w3, w4, w5, w6]) | omega)
          refine Again.to (q + 1) (by omega) (by omega) ?_ ?_
          · simp (disch := first | assumption | omega) only [go_sem, Option.map, List.isEmpty, ↓reduceIte, Nat.reduceEqDiff, Nat.reduceAdd, Nat.reduceSub, Nat.reduceMul, Nat.reduceLT, Nat.reduceLeDiff, reduceCtorEq, Nat.reduceBEq, Nat.reduceBNe, Int.reduceNeg, Int.reduceLE, Int.reduceLT, Int.reduceToNat]; (try (refine ⟨?_, ?_⟩ <;> omega)); (try omega)
          · show (pmH h n n (mapTo (rowOp i j c) U (q + 1))).mk_ y = _
            rw [← hx]
        · have hx := hnext (r.set i (r.getD i 0 + c * r.getD j 0)) (by unfold rowOp; rw [if_neg hij, if_neg hc0])
          have c3 : (c == 0) = false := by simpa using hc0
          repeat' (first | (first | refine good_seq ?_ | refine good_reg false (fun K hK => ?_) | (refine runL_nil (hK _ _ ?_); clear hK K) | refine runL_none rfl (fun K2 hK2 => ?_) | refine runL_some rfl rfl (fun R S hR hS => ?_) | (refine hK2 _ _ ?_; clear hK2 K2) | (refine hK2 _ _ ?_ ?_ <;> clear hK2 K2) | (refine regW_nil (hK _ _ ?_); clear hK K) | (refine regW_load rfl rfl rfl (fun F1 F2 hF1 hF2 => ?_)) | (refine hF1 _ ?_ ?_ <;> clear hF1 hF2 F1 F2) | (refine hF2 _ _ (fun K2 hK2 => ?_); clear hF1 hF2 F1 F2) | refine regW_light rfl rfl rfl (fun _ _ => rfl) (fun K2 hK2 => ?_) | refine regW_lguard rfl rfl rfl rfl (fun _ _ => rfl) (fun R S hR hS => ?_) | refine regW_heavy rfl rfl (fun K2 hK2 => ?_) | with_reducible refine log_goal ?_ | (refine hR _ (fun K2 hK2 => ?_); clear hR hS R S) | (refine hS _ ?_; clear hR hS R S) | refine good_block ?_ | refine good_skip ?_ | refine good_exit ?_ | refine good_ret ?_ | refine good_cond ?_ | refine And.intro ?_ ?_ | intro _) <;> try simp (disch := first | assumption | omega) only [go_sem, Option.map, List.isEmpty, ↓reduceIte, Nat.reduceEqDiff, Nat.reduceAdd, Nat.reduceSub, Nat.reduceMul, Nat.reduceLT, Nat.reduceLeDiff, reduceCtorEq, Nat.reduceBEq, Nat.reduceBNe, Int.reduceNeg, Int.reduceLE, Int.reduceLT, Int.reduceToNat, c1, c2, c3, w1, w2, w3, w4, w5, w6] | ((first | refine good_drw (id := 10) mixed false [[], [0], [0, 1], [0, 1, 2], [0, 1, 2, 3], [0, 1, 2, 3, 4], [0, 1, 2, 3, 4, 5], [0, 1, 2], [0, 1, 2, 7], [0, 1, 2, 7, 8], [0, 1, 2, 7, 8, 9], [0, 1, 2, 7, 8, 9, 10], [0, 1, 2, 3, 4, 5, 6, 7, 8, 9, 10, 11], [0, 1, 2, 3, 4, 5, 6, 7, 8, 9, 10, 11, 12]] [0, 1, 2, 3, 4, 5, 6, 7, 8, 9, 10, 11, 12, 13] (by decide +kernel) (fun K hK => ?_) | refine good_drw (id := 18) mixed false [[], [], [0, 1], [0, 1, 2], [], [], [], [5, 6], [5, 6, 7], [], [5, 6, 7, 8, 9], [5, 6, 7, 8, 9, 10], [5, 6, 7, 8, 9, 10, 11], [0, 1, 2, 3, 4, 5, 6, 7, 8, 9, 10, 11, 12], [0, 1, 2, 3, 4, 5, 6, 7, 8, 9, 10, 11, 12, 13]] [0, 1, 2, 3, 4, 5, 6, 7, 8, 9, 10, 11, 12, 13, 14] (by decide +kernel) (fun K hK => ?_) | refine good_drw (id := 20) mixed false [[], [], [0, 1], [0, 1, 2], [], [], [], [5, 6], [5, 6, 7], [], [], [], [10, 11], [10, 11, 12], [], [10, 11, 12, 13, 14], [10, 11, 12, 13, 14, 15], [], [], [17, 18], [17, 18, 19], [], [17, 18, 19, 20, 21], [17, 18, 19, 20, 21, 22], [0, 1, 2, 3, 4, 5, 6, 7, 8, 10, 11, 12, 13, 14, 15, 16, 17, 18, 19, 20, 21, 22, 23], [0, 1, 2, 3, 4, 5, 6, 7, 8, 10, 11, 12, 13, 14, 15, 16, 17, 18, 19, 20, 21, 22, 23, 24], [0, 1, 2, 3, 4, 5, 6, 7, 8, 9, 10, 11, 12, 13, 14, 15, 16, 17, 18, 19, 20, 21, 22, 23, 24, 25], [0, 1, 2, 3, 4, 5, 6, 7, 8, 9, 10, 11, 12, 13, 14, 15, 16, 17, 18, 19, 20, 21, 22, 23, 24, 25, 26]] [0, 1, 2, 3, 4, 5, 6, 7, 8, 9, 10, 11, 12, 13, 14, 15, 16, 17, 18, 19, 20, 21, 22, 23, 24, 25, 26, 27] (by decide +kernel) (fun K hK => ?_) | refine good_drw (id := 22) mixed false [[], [], [0, 1], [0, 1, 2], [], [0, 1, 2, 3, 4], [0, 1, 2, 3, 4, 5], [], [], [], [8, 9], [8, 9, 10], [], [8, 9, 10, 11, 12], [8, 9, 10, 11, 12, 13], [7, 8, 9, 10, 11, 12, 13, 14], [0, 1, 2, 3, 4, 5, 6, 7, 8, 9, 10, 11, 12, 13, 14, 15], [0, 1, 2, 3, 4, 5, 6, 7, 8, 9, 10, 11, 12, 13, 14, 15, 16], [0, 1, 2, 3, 4, 5, 6, 7, 8, 9, 10, 11, 12, 13, 14, 15, 16, 17]] [0, 1, 2, 3, 4, 5, 6, 7, 8, 9, 10, 11, 12, 13, 14, 15, 16, 17, 18] (by decide +kernel) (fun K hK => ?_)) <;> try simp (disch := first | assumption | omega) only [go_sem, Option.map, List.isEmpty, ↓reduceIte, Nat.reduceEqDiff, Nat.reduceAdd, Nat.reduceSub, Nat.reduceMul, Nat.reduceLT, Nat.reduceLeDiff, reduceCtorEq, Nat.reduceBEq, Nat.reduceBNe, Int.reduceNeg, Int.reduceLE, Int.reduceLT, Int.reduceToNat, c1, c2, c3, w1, w2, w3, w4, w5, w6]) | omega)
          refine Again.to (q + 1) (by omega) (by omega) ?_ ?_
          · simp (disch := first | assumption | omega) only [go_sem, Option.map, List.isEmpty, ↓reduceIte, Nat.reduceEqDiff, Nat.reduceAdd, Nat.reduceSub, Nat.reduceMul, Nat.reduceLT, Nat.reduceLeDiff, reduceCtorEq, Nat.reduceBEq, Nat.reduceBNe, Int.reduceNeg, Int.reduceLE, Int.reduceLT, Int.reduceToNat]; (try (refine ⟨?_, ?_⟩ <;> omega)); (try omega)
          · show (pmH h n n (mapTo (rowOp i j c) U (q + 1))).mk_ y = _
            rw [← hx]
    · have hqe : q = n := by omega
      have hfull : mapTo (rowOp i j c) U q = uniS ns n (k + 1) := by rw [mapTo_full _ _ (by omega), hU, hi, hj, hc]; rfl
      repeat' (first | (first | refine good_seq ?_ | refine good_reg false (fun K hK => ?_) | (refine runL_nil (hK _ _ ?_); clear hK K) | refine runL_none rfl (fun K2 hK2 => ?_) | refine runL_some rfl rfl (fun R S hR hS => ?_) | (refine hK2 _ _ ?_; clear hK2 K2) | (refine hK2 _ _ ?_ ?_ <;> clear hK2 K2) | (refine regW_nil (hK _ _ ?_); clear hK K) | (refine regW_load rfl rfl rfl (fun F1 F2 hF1 hF2 => ?_)) | (refine hF1 _ ?_ ?_ <;> clear hF1 hF2 F1 F2) | (refine hF2 _ _ (fun K2 hK2 => ?_); clear hF1 hF2 F1 F2) | refine regW_light rfl rfl rfl (fun _ _ => rfl) (fun K2 hK2 => ?_) | refine regW_lguard rfl rfl rfl rfl (fun _ _ => rfl) (fun R S hR hS => ?_) | refine regW_heavy rfl rfl (fun K2 hK2 => ?_) | with_reducible refine log_goal ?_ | (refine hR _ (fun K2 hK2 => ?_); clear hR hS R S) | (refine hS _ ?_; clear hR hS R S) | refine good_block ?_ | refine good_skip ?_ | refine good_exit ?_ | refine good_ret ?_ | refine good_cond ?_ | refine And.intro ?_ ?_ | intro _) <;> try simp (disch := first | assumption | omega) only [go_sem, Option.map, List.isEmpty, ↓reduceIte, Nat.reduceEqDiff, Nat.reduceAdd, Nat.reduceSub, Nat.reduceMul, Nat.reduceLT, Nat.reduceLeDiff, reduceCtorEq, Nat.reduceBEq, Nat.reduceBNe, Int.reduceNeg, Int.reduceLE, Int.reduceLT, Int.reduceToNat] | omega)
      refine Again.to (k + 1) (by omega) (by omega) ?_ ?_
      · simp (disch := first | assumption | omega) only [go_sem, Option.map, List.isEmpty, ↓reduceIte, Nat.reduceEqDiff, Nat.reduceAdd, Nat.reduceSub, Nat.reduceMul, Nat.reduceLT, Nat.reduceLeDiff, reduceCtorEq, Nat.reduceBEq, Nat.reduceBNe, Int.reduceNeg, Int.reduceLE, Int.reduceLT, Int.reduceToNat]; (try (refine ⟨?_, ?_⟩ <;> omega)); (try omega)
      · rw [hfull, hy]
        have : min (3 * (k + 1)) ns.length = min (3 * k + 2 + 1) ns.length := by omega
        simp only [this]
  · have hkk : ¬ (k < 12 ∧ 3 * k < ns.length) := by unfold uniN at hkN hk; omega
    repeat' (first | ((first | (refine hR _ (fun F1 F2 hF1 hF2 => ?_); clear hR hS R S) | (refine regW_glload rfl rfl rfl rfl (fun R S hR hS => ?_)) | refine good_drw (id := 10) mixed false [[], [0], [0, 1], [0, 1, 2], [0, 1, 2, 3], [0, 1, 2, 3, 4], [0, 1, 2, 3, 4, 5], [0, 1, 2], [0, 1, 2, 7], [0, 1, 2, 7, 8], [0, 1, 2, 7, 8, 9], [0, 1, 2, 7, 8, 9, 10], [0, 1, 2, 3, 4, 5, 6, 7, 8, 9, 10, 11], [0, 1, 2, 3, 4, 5, 6, 7, 8, 9, 10, 11, 12]] [0, 1, 2, 3, 4, 5, 6, 7, 8, 9, 10, 11, 12, 13] (by decide +kernel) (fun K hK => ?_) | refine good_drw (id := 18) mixed false [[], [], [0, 1], [0, 1, 2], [], [], [], [5, 6], [5, 6, 7], [], [5, 6, 7, 8, 9], [5, 6, 7, 8, 9, 10], [5, 6, 7, 8, 9, 10, 11], [0, 1, 2, 3, 4, 5, 6, 7, 8, 9, 10, 11, 12], [0, 1, 2, 3, 4, 5, 6, 7, 8, 9, 10, 11, 12, 13]] [0, 1, 2, 3, 4, 5, 6, 7, 8, 9, 10, 11, 12, 13, 14] (by decide +kernel) (fun K hK => ?_) | refine good_drw (id := 20) mixed false [[], [], [0, 1], [0, 1, 2], [], [], [], [5, 6], [5, 6, 7], [], [], [], [10, 11], [10, 11, 12], [], [10, 11, 12, 13, 14], [10, 11, 12, 13, 14, 15], [], [], [17, 18], [17, 18, 19], [], [17, 18, 19, 20, 21], [17, 18, 19, 20, 21, 22], [0, 1, 2, 3, 4, 5, 6, 7, 8, 10, 11, 12, 13, 14, 15, 16, 17, 18, 19, 20, 21, 22, 23], [0, 1, 2, 3, 4, 5, 6, 7, 8, 10, 11, 12, 13, 14, 15, 16, 17, 18, 19, 20, 21, 22, 23, 24], [0, 1, 2, 3, 4, 5, 6, 7, 8, 9, 10, 11, 12, 13, 14, 15, 16, 17, 18, 19, 20, 21, 22, 23, 24, 25], [0, 1, 2, 3, 4, 5, 6, 7, 8, 9, 10, 11, 12, 13, 14, 15, 16, 17, 18, 19, 20, 21, 22, 23, 24, 25, 26]] [0, 1, 2, 3, 4, 5, 6, 7, 8, 9, 10, 11, 12, 13, 14, 15, 16, 17, 18, 19, 20, 21, 22, 23, 24, 25, 26, 27] (by decide +kernel) (fun K hK => ?_) | refine good_drw (id := 22) mixed false [[], [], [0, 1], [0, 1, 2], [], [0, 1, 2, 3, 4], [0, 1, 2, 3, 4, 5], [], [], [], [8, 9], [8, 9, 10], [], [8, 9, 10, 11, 12], [8, 9, 10, 11, 12, 13], [7, 8, 9, 10, 11, 12, 13, 14], [0, 1, 2, 3, 4, 5, 6, 7, 8, 9, 10, 11, 12, 13, 14, 15], [0, 1, 2, 3, 4, 5, 6, 7, 8, 9, 10, 11, 12, 13, 14, 15, 16], [0, 1, 2, 3, 4, 5, 6, 7, 8, 9, 10, 11, 12, 13, 14, 15, 16, 17]] [0, 1, 2, 3, 4, 5, 6, 7, 8, 9, 10, 11, 12, 13, 14, 15, 16, 17, 18] (by decide +kernel) (fun K hK => ?_)) <;> try simp (disch := first | assumption | omega) only [go_sem, Option.map, List.isEmpty, ↓reduceIte, Nat.reduceEqDiff, Nat.reduceAdd, Nat.reduceSub, Nat.reduceMul, Nat.reduceLT, Nat.reduceLeDiff, reduceCtorEq, Nat.reduceBEq, Nat.reduceBNe, Int.reduceNeg, Int.reduceLE, Int.reduceLT, Int.reduceToNat, hlen, hfit, hq]) | (first | refine good_seq ?_ | refine good_reg false (fun K hK => ?_) | (refine runL_nil (hK _ _ ?_); clear hK K) | refine runL_none rfl (fun K2 hK2 => ?_) | refine runL_some rfl rfl (fun R S hR hS => ?_) | (refine hK2 _ _ ?_; clear hK2 K2) | (refine hK2 _ _ ?_ ?_ <;> clear hK2 K2) | (refine regW_nil (hK _ _ ?_); clear hK K) | (refine regW_load rfl rfl rfl (fun F1 F2 hF1 hF2 => ?_)) | (refine hF1 _ ?_ ?_ <;> clear hF1 hF2 F1 F2) | (refine hF2 _ _ (fun K2 hK2 => ?_); clear hF1 hF2 F1 F2) | refine regW_light rfl rfl rfl (fun _ _ => rfl) (fun K2 hK2 => ?_) | refine regW_lguard rfl rfl rfl rfl (fun _ _ => rfl) (fun R S hR hS => ?_) | refine regW_heavy rfl rfl (fun K2 hK2 => ?_) | with_reducible refine log_goal ?_ | (refine hR _ (fun K2 hK2 => ?_); clear hR hS R S) | (refine hS _ ?_; clear hR hS R S) | refine good_block ?_ | refine good_skip ?_ | refine good_exit ?_ | refine good_ret ?_ | refine good_cond ?_ | refine And.intro ?_ ?_ | intro _) <;> try simp (disch := first | assumption | omega) only [go_sem, Option.map, List.isEmpty, ↓reduceIte, Nat.reduceEqDiff, Nat.reduceAdd, Nat.reduceSub, Nat.reduceMul, Nat.reduceLT, Nat.reduceLeDiff, reduceCtorEq, Nat.reduceBEq, Nat.reduceBNe, Int.reduceNeg, Int.reduceLE, Int.reduceLT, Int.reduceToNat, hlen, hfit, hq] | omega)
    all_goals first | omega | exact ⟨_, by rw [show uniN ns = k by omega]⟩
end Go.Eng
open Go Go.Proofs
set_option linter.unusedVariables false
set_option linter.unusedSimpArgs false
set_option maxRecDepth 4000
set_option maxHeartbeats 40000000
namespace Go.Eng
attribute [local irreducible] Good ACalls runL regW stepW opW gdV' gdD condW gifW binW arW loadW storeW idxAW lenW appW appBW cutW onSome onBnd callW fldAW Again thenQ blockQ resW endQ Up loadR
/-! ### the law on row operations -/
theorem uniS_KT (p : Int) (ns : List Int) {n : Nat} (hn : 0 < n) : ∀ k, KT p n (uniS ns n k)
  | 0 => KT.id p n
  | k + 1 => (uniS_KT p ns hn k).op (uniS_length ns n k) (uniS_wid ns n k) (belN_lt hn) (belN_lt hn)
theorem spaces_eq {A U : List (List Int)} {p : Int} (hP : isP p = true) (hm : modB p = true) (hv : ValidP A) (hU : ValidP U) (hUl : U.length = A.length) (hUw : Wid A.length U) (hK : KT p A.length U) :
    mulE U A p = 0 ∧ ValidP (mulM U A p) ∧ echR (mulM U A p) p = echR A p := by
  have hpp := isP_spec hP
  have hv1 := hv.1
  have hU0 := hUw 0 (by omega)
  have hmp : mulP U A := ⟨hU, hv, hU0⟩
  have eM : mulE U A p = 0 := by simp [mulE, hmp, hm]
  have eB : mulM U A p = prodM (redM U p) (redM A p) p := by simp [mulM, hmp, hm]
  obtain ⟨B, hB⟩ : ∃ B, B = mulM U A p := ⟨_, rfl⟩
  obtain ⟨m, hmm⟩ : ∃ m, m = (A.getD 0 []).length := ⟨_, rfl⟩
  have hA0 : ((redM A p).getD 0 []).length = m := by rw [redM_get A p 0 (by omega), List.length_map, hmm]
  have hBl : B.length = A.length := by rw [hB, eB, prodM_length, redM_length, hUl]
  have hBw : Wid m B := fun i hi => by
    rw [hB, eB] at hi ⊢
    rw [prodM_rows rfl _ (mem_getD hi), hA0]
  have hB0 := hBw 0 (by omega)
  have hv3 := hv.2.2.1
  have hv4 := hv.2.2.2.1
  have hv2 := hv.2.1
  have hvB : ValidP B := ⟨by omega, by omega, by omega, by omega, fun i hi => by rw [hBw i hi, hB0]⟩
  have hBent : ∀ r ∈ B, ∀ x ∈ r, 0 ≤ x ∧ x < p := by rw [hB, eB]; exact prodM_ent (by omega)
  have hid : redM B p = B := redM_id hBent
  have hAw : Wid m (redM A p) := by rw [hmm]; exact redM_wid hv
  have hAr : InR p m (redM A p) := by rw [hmm]; exact redM_in hpp.1 hv
  have hBr : InR p m B := fun i j hi hj => mem_ent hBent hi (by rw [hBw i hi]; exact hj)
  have hF1 := echA_form (isP_prime hP) hpp.1 hAw hAr (by rw [redM_length]; exact hv1)
  have hF2 := echA_form (isP_prime hP) hpp.1 hBw hBr (by omega)
  have hsol := hK.sol (A := redM A p) (B := B) (m := m) (by rw [redM_length]) hBl (fun r k hr hk => by
    have hent : ent B r k = dotm (redM U p) (redM A p) p r k A.length := by
      unfold ent
      rw [hB, eB]
      unfold prodM
      rw [map_range_getL _ (by rw [redM_length]; omega), map_range_get _ (by rw [hA0]; exact hk), redM_length]
    rw [hent]
    have h1 := dotm_sum (a := redM U p) (b := redM A p) (m := p) r k A.length
    have h2 : p ∣ sm A.length (fun q => ent (redM U p) r q * ent (redM A p) q k) - sm A.length (fun q => ent U r q * ent (redM A p) q k) := sm_dvd _ fun q hq => by
      rw [← Int.sub_mul]
      refine Int.dvd_mul_of_dvd_left ?_
      unfold ent
      rw [redM_ent U p r q (by omega) (by rw [hUw r (by omega)]; exact hq)]
      exact emod_dvd _ _
    have := Int.dvd_add h1 h2
    have e : dotm (redM U p) (redM A p) p r k A.length - sm A.length (fun q => ent U r q * ent (redM A p) q k) = (dotm (redM U p) (redM A p) p r k A.length - sm A.length (fun q => ent (redM U p) r q * ent (redM A p) q k)) + (sm A.length (fun q => ent (redM U p) r q * ent (redM A p) q k) - sm A.length (fun q => ent U r q * ent (redM A p) q k)) := by omega
    rw [e]; exact this)
  rw [← hB]
  refine ⟨eM, hvB, ?_⟩
  simp only [echR, if_pos (show echB B p from ⟨hvB, hP⟩), if_pos (show echB A p from ⟨hv, hP⟩), hid]
  exact hF2.fin.unique hpp.1 hF1.fin fun x => ((hF2.sol x).trans (hsol x)).trans (hF1.sol x).symm
theorem l_Spaces (xr xc : Int) (xn base : List Int) (k : Int) (hx : GridOk xr xc xn) (hbs : ByteOk base) (hk : 0 ≤ k ∧ k ≤ 255) (h : AH) :
    ACalls Try.prog 9 [gridV xr xc xn, byteV base, .int .u8 k] h (fun v h' => v = .bool true ∧ True) := by
  have hmB : ∀ ns, memA (byteV ns) = true := fun ns => rfl
  have hcB : ∀ ns, cellsA (byteV ns) = [byteV ns] := fun ns => rfl
  have hoB : ∀ ns, oneA (byteV ns) = true := fun ns => rfl
  have hd : ∀ p q r : AV, ([p, q, r].drop 0).take 3 = [p, q, r] := fun p q r => rfl
  obtain ⟨A, hA⟩ : ∃ x, x = gridM xr xc xn 6 := ⟨_, rfl⟩
  have hv : ValidP A := by rw [hA]; exact grid_valid hx.r.1 hx.c.1 (by omega)
  obtain ⟨p, hp⟩ : ∃ x, x = oddP k := ⟨_, rfl⟩
  have hpp := oddP_ok hk.1
  rw [← hp] at hpp
  have hv1 := hv.1
  have hv2 := hv.2.1
  obtain ⟨U, hU⟩ : ∃ U, U = uniS base A.length (uniN base) := ⟨_, rfl⟩
  have hUl : U.length = A.length := by rw [hU]; exact uniS_length _ _ _
  have hUw : Wid A.length U := by rw [hU]; exact uniS_wid _ _ _
  have hU0 := hUw 0 (by omega)
  have hUv : ValidP U := ⟨by omega, by omega, by omega, by omega, fun i hi => by rw [hUw i hi, hU0]⟩
  have hUK : KT p A.length U := by rw [hU]; exact uniS_KT p base (by omega) _
  obtain ⟨eM, hvB, eR⟩ := spaces_eq hpp.1 hpp.2 hv hUv hUl hUw hUK
  have eE : echE A p = 0 := by simp [echE, hv, hpp.1]
  have eE2 : echE (mulM U A p) p = 0 := by simp [echE, hvB, hpp.1]
  have hsm := (ech_small A p).1
  have hsame : (decide (echR A p = echR A p) : Bool) = true := by simp
  unfold gridV
  refine acalls_of_good 3 63 [.tmp 6] Try.func9 rfl rfl (by kernel_rfl) rfl rfl (by decide) ?_
  simp (disch := first | assumption | omega) only [go_sem, Option.map, List.isEmpty, ↓reduceIte, Nat.reduceEqDiff, Nat.reduceAdd, Nat.reduceSub, Nat.reduceMul, Nat.reduceLT, Nat.reduceLeDiff, reduceCtorEq, Nat.reduceBEq, Nat.reduceBNe, Int.reduceNeg, Int.reduceLE, Int.reduceLT, Int.reduceToNat]
  repeat' (first | (first | refine good_seq ?_ | refine good_reg false (fun K hK => ?_) | (refine runL_nil (hK _ _ ?_); clear hK K) | refine runL_none rfl (fun K2 hK2 => ?_) | refine runL_some rfl rfl (fun R S hR hS => ?_) | (refine hK2 _ _ ?_; clear hK2 K2) | (refine hK2 _ _ ?_ ?_ <;> clear hK2 K2) | (refine regW_nil (hK _ _ ?_); clear hK K) | (refine regW_load rfl rfl rfl (fun F1 F2 hF1 hF2 => ?_)) | (refine hF1 _ ?_ ?_ <;> clear hF1 hF2 F1 F2) | (refine hF2 _ _ (fun K2 hK2 => ?_); clear hF1 hF2 F1 F2) | refine regW_light rfl rfl rfl (fun _ _ => rfl) (fun K2 hK2 => ?_) | refine regW_lguard rfl rfl rfl rfl (fun _ _ => rfl) (fun R S hR hS => ?_) | refine regW_heavy rfl rfl (fun K2 hK2 => ?_) | with_reducible refine log_goal ?_ | (refine hR _ (fun K2 hK2 => ?_); clear hR hS R S) | (refine hS _ ?_; clear hR hS R S) | refine good_block ?_ | refine good_skip ?_ | refine good_exit ?_ | refine good_ret ?_ | refine good_cond ?_ | refine And.intro ?_ ?_ | intro _) <;> try simp (disch := first | assumption | omega) only [go_sem, Option.map, List.isEmpty, ↓reduceIte, Nat.reduceEqDiff, Nat.reduceAdd, Nat.reduceSub, Nat.reduceMul, Nat.reduceLT, Nat.reduceLeDiff, reduceCtorEq, Nat.reduceBEq, Nat.reduceBNe, Int.reduceNeg, Int.reduceLE, Int.reduceLT, Int.reduceToNat, hmB, hcB, hoB, hd, hsame] | ((first | (refine ACalls.mono (c_Ints xr xc xn 6 hx.r hx.c hx.n (by omega) _) (fun v h' hv => ?_); obtain ⟨rfl, hh⟩ := hv; subst h'; rw [← hA]) | (refine ACalls.mono (c_OddPrime k hk _) (fun v h' hv => ?_); obtain ⟨rfl, hh⟩ := hv; subst h'; rw [← hp]) | (refine ACalls.mono (c_Unimodular base A.length (by omega) hbs _) (fun v h' hv => ?_); obtain ⟨rfl, hh⟩ := hv; subst h'; rw [← hU]) | (refine ACalls.mono (c_mMul U A p _) (fun v h' hv => ?_); obtain ⟨rfl, hh⟩ := hv; subst h'; rw [eM]) | (refine ACalls.mono (c_Echelon A p _) (fun v h' hv => ?_); obtain ⟨rfl, hh⟩ := hv; subst h'; rw [eE]) | (refine ACalls.mono (c_Echelon (mulM U A p) p _) (fun v h' hv => ?_); obtain ⟨rfl, hh⟩ := hv; subst h'; rw [eE2, eR]) | (refine ACalls.mono (c_Same _ _ hsm.1 hsm.2 _) (fun v h' hv => ?_); obtain ⟨rfl, hh⟩ := hv; subst h') | (refine ACalls.mono (c_awake _) (fun v h' hv => ?_); obtain ⟨rfl, hh⟩ := hv; subst h')) <;> try simp (disch := first | assumption | omega) only [go_sem, Option.map, List.isEmpty, ↓reduceIte, Nat.reduceEqDiff, Nat.reduceAdd, Nat.reduceSub, Nat.reduceMul, Nat.reduceLT, Nat.reduceLeDiff, reduceCtorEq, Nat.reduceBEq, Nat.reduceBNe, Int.reduceNeg, Int.reduceLE, Int.reduceLT, Int.reduceToNat, hmB, hcB, hoB, hd, hsame]) | omega)
end Go.Eng
