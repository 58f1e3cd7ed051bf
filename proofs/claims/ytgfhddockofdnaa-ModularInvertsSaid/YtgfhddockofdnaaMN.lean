/- Texts E35 E36 W38 W39 of an engine over abstract values and of the walks of this program, one after the other. -/
import Derived.Test.YtgfhddockofdnaaML
import Derived.Test.YtgfhddockofdnaaMC
import Derived.Test.YtgfhddockofdnaaMD
import Derived.Test.YtgfhddockofdnaaML
/- Determinants of matrices of integers: alternating and linear in the rows, the only such function; products, transposes, cofactors. Plain. -/
set_option linter.unusedVariables false
set_option linter.unusedSimpArgs false
namespace Go.Eng

abbrev Mx := Nat → Nat → Int
/-- The number of the column j after the column c is left out. -/
def skp (c j : Nat) : Nat := if j < c then j else j + 1
def unsk (c j : Nat) : Nat := if j < c then j else j - 1
/-- Without the row r and the column c. -/
def mnr (r c : Nat) (A : Mx) : Mx := fun i j => A (skp r i) (skp c j)
def sg (c : Nat) : Int := if c % 2 = 0 then 1 else -1
def det : Nat → Mx → Int
  | 0, _ => 1
  | n + 1, A => sm (n + 1) fun c => sg c * A 0 c * det n (mnr 0 c A)
def updR (A : Mx) (i : Nat) (u : Nat → Int) : Mx := fun r k => if r = i then u k else A r k
def mxI : Mx := fun i j => if i = j then 1 else 0
def trn (A : Mx) : Mx := fun i j => A j i
def mxM (n : Nat) (A B : Mx) : Mx := fun i j => sm n fun k => A i k * B k j

theorem sg_succ (c : Nat) : sg (c + 1) = - sg c := by
  unfold sg
  by_cases h : c % 2 = 0
  · rw [if_pos h, if_neg (by omega)]
  · rw [if_neg h, if_pos (by omega)]; rfl
theorem sg_zero : sg 0 = 1 := rfl
theorem sg_sq (c : Nat) : sg c * sg c = 1 := by
  unfold sg; split <;> rfl
theorem sg_add (a b : Nat) : sg (a + b) = sg a * sg b := by
  induction b with
  | zero => rw [sg_zero, Int.mul_one]; rfl
  | succ b ih => rw [← Nat.add_assoc, sg_succ, sg_succ, ih, Int.mul_neg]
theorem skp_lt {c j n : Nat} (h : j < n) : skp c j < n + 1 := by unfold skp; split <;> omega
theorem skp_ne (c j : Nat) : skp c j ≠ c := by unfold skp; split <;> omega
theorem unsk_skp (c j : Nat) : unsk c (skp c j) = j := by unfold unsk skp; split <;> (try split) <;> omega
theorem skp_unsk {c j : Nat} (h : j ≠ c) : skp c (unsk c j) = j := by unfold unsk skp; split <;> (try split) <;> omega
theorem skp_zero (j : Nat) : skp 0 j = j + 1 := by unfold skp; rw [if_neg (Nat.not_lt_zero _)]
theorem updR_self (A : Mx) (i : Nat) (u : Nat → Int) (k : Nat) : updR A i u i k = u k := if_pos rfl
theorem updR_ne (A : Mx) {i r : Nat} (u : Nat → Int) (k : Nat) (h : r ≠ i) : updR A i u r k = A r k := if_neg h
theorem mnr_upd_self (A : Mx) (r c : Nat) (u : Nat → Int) : mnr r c (updR A r u) = mnr r c A := by
  funext i j; exact updR_ne _ _ _ (skp_ne _ _)
theorem mnr_upd_ne (A : Mx) {r i : Nat} (c : Nat) (u : Nat → Int) (h : i ≠ r) : mnr r c (updR A i u) = updR (mnr r c A) (unsk r i) (fun k => u (skp c k)) := by
  funext a j
  unfold mnr updR
  by_cases ha : a = unsk r i
  · subst ha; rw [if_pos (skp_unsk h), if_pos rfl]
  · rw [if_neg ha, if_neg]
    intro e; exact ha (by rw [← e, unsk_skp])
theorem unsk_lt {r i n : Nat} (hi : i < n + 1) (hr : r < n + 1) (h : i ≠ r) : unsk r i < n := by unfold unsk; split <;> omega

theorem det_mod {p : Int} : ∀ (n : Nat) (A B : Mx), (∀ i j, i < n → j < n → p ∣ A i j - B i j) → p ∣ det n A - det n B
  | 0, _, _, _ => by simp [det]
  | n + 1, A, B, h => by
    simp only [det]
    refine sm_dvd (n + 1) fun c hc => ?_
    have h1 := h 0 c (by omega) hc
    have h2 := det_mod n (mnr 0 c A) (mnr 0 c B) fun i j hi hj => h _ _ (skp_lt hi) (skp_lt hj)
    generalize det n (mnr 0 c A) = x at h2
    generalize det n (mnr 0 c B) = y at h2
    have e : sg c * A 0 c * x - sg c * B 0 c * y = sg c * (A 0 c - B 0 c) * x + sg c * B 0 c * (x - y) := by
      rw [Int.mul_sub, Int.mul_sub, Int.sub_mul]; omega
    rw [e]
    exact Int.dvd_add (Int.dvd_mul_of_dvd_left (Int.dvd_mul_of_dvd_right h1)) (Int.dvd_mul_of_dvd_right h2)
theorem det_congr {n : Nat} {A B : Mx} (h : ∀ i j, i < n → j < n → A i j = B i j) : det n A = det n B := by
  have := det_mod (p := 0) n A B fun i j hi hj => by rw [h i j hi hj, Int.sub_self]; exact Int.dvd_refl 0
  have := Int.zero_dvd.1 this
  omega

/-- Linear in each row, and zero where two rows that follow each other are equal. -/
structure AM (n : Nat) (F : Mx → Int) : Prop where
  congr : ∀ A B, (∀ i j, i < n → j < n → A i j = B i j) → F A = F B
  lin : ∀ A i u v a, i < n → F (updR A i (fun k => a * u k + v k)) = a * F (updR A i u) + F (updR A i v)
  adj : ∀ A i, i + 1 < n → (∀ j, j < n → A i j = A (i + 1) j) → F A = 0

section
variable {n : Nat} {F : Mx → Int} (hF : AM n F)
include hF
theorem AM.zero (A : Mx) {i : Nat} (hi : i < n) : F (updR A i fun _ => 0) = 0 := by
  have := hF.lin A i (fun _ => 0) (fun _ => 0) 1 hi
  simp only [Int.mul_zero, Int.add_zero, Int.one_mul] at this
  omega
theorem AM.scale (A : Mx) {i : Nat} (hi : i < n) (u : Nat → Int) (a : Int) : F (updR A i fun k => a * u k) = a * F (updR A i u) := by
  have := hF.lin A i u (fun _ => 0) a hi
  rw [hF.zero A hi] at this
  simpa using this
theorem AM.add (A : Mx) {i : Nat} (hi : i < n) (u v : Nat → Int) : F (updR A i fun k => u k + v k) = F (updR A i u) + F (updR A i v) := by
  have := hF.lin A i u v 1 hi
  simpa using this
theorem AM.same (A : Mx) {i : Nat} (u : Nat → Int) (h : ∀ k, k < n → u k = A i k) : F (updR A i u) = F A :=
  hF.congr _ _ fun a b ha hb => by unfold updR; split <;> simp_all
/-- A multiple of a row whose place next to it would be zero is added. -/
theorem AM.addOf {A : Mx} {i k : Nat} (hi : i < n) (q : Int) (h : F (updR A i (A k)) = 0) : F (updR A i fun j => A i j + q * A k j) = F A := by
  have e : (fun j => A i j + q * A k j) = fun j => q * A k j + A i j := by funext j; omega
  rw [e, hF.lin A i (A k) (A i) q hi, h, Int.mul_zero, Int.zero_add]
  exact hF.same A _ fun _ _ => rfl
theorem AM.swapOf {A : Mx} {i k : Nat} (hi : i < n) (hk : k < n) (hik : i ≠ k) (h : ∀ B : Mx, (∀ j, j < n → B i j = B k j) → F B = 0) : F (fun r => A (sw i k r)) = - F A := by
  -- rows i, k: u, v. The sum of both rows in both places is zero.
  have h0 := h (updR (updR A i fun j => A i j + A k j) k fun j => A i j + A k j) fun j _ => by rw [updR_self, updR_ne _ _ _ hik, updR_self]
  rw [hF.add _ hk] at h0
  have c1 : ∀ w : Nat → Int, updR (updR A i fun j => A i j + A k j) k w = updR (updR A k w) i fun j => A i j + A k j := fun w => by
    funext r j; unfold updR
    by_cases h1 : r = k
    · subst h1; rw [if_pos rfl, if_neg (fun e => hik e.symm), if_pos rfl]
    · rw [if_neg h1]; by_cases h2 : r = i
      · rw [if_pos h2, if_pos h2]
      · rw [if_neg h2, if_neg h2, if_neg h1]
  rw [c1, c1, hF.add _ hi, hF.add _ hi] at h0
  have z1 : F (updR (updR A k (A i)) i (A i)) = 0 := h _ fun j _ => by rw [updR_self, updR_ne _ _ _ (fun e => hik e.symm), updR_self]
  have z2 : F (updR (updR A k (A k)) i (A k)) = 0 := h _ fun j _ => by rw [updR_self, updR_ne _ _ _ (fun e => hik e.symm), updR_self]
  have z3 : F (updR (updR A k (A k)) i (A i)) = F A := hF.congr _ _ fun a b _ _ => by
    unfold updR; split
    · rename_i e; rw [e]
    · split
      · rename_i e; rw [e]
      · rfl
  have z4 : F (updR (updR A k (A i)) i (A k)) = F (fun r => A (sw i k r)) := hF.congr _ _ fun a b _ _ => by
    unfold updR sw
    by_cases h1 : a = i
    · subst h1; rw [if_pos rfl]; congr 1; split <;> (try split) <;> omega
    · rw [if_neg h1]
      by_cases h2 : a = k
      · subst h2; rw [if_pos rfl]; congr 1; split <;> (try split) <;> omega
      · rw [if_neg h2]; congr 1; split <;> (try split) <;> omega
  rw [z1, z2, z3, z4] at h0
  omega
/-- Zero where any two rows are equal. -/
theorem AM.alt : ∀ (d : Nat) (A : Mx) (i : Nat), i + d + 1 < n → (∀ j, j < n → A i j = A (i + d + 1) j) → F A = 0
  | 0, A, i, hi, h => hF.adj A i hi h
  | d + 1, A, i, hi, h => by
    have hs : F (fun r => A (sw (i + d + 1) (i + d + 2) r)) = - F A := hF.swapOf (by omega) (by omega) (by omega) fun B hB => hF.adj B _ (by omega) hB
    have := AM.alt d (fun r => A (sw (i + d + 1) (i + d + 2) r)) i (by omega) fun j hj => by
      have e1 : sw (i + d + 1) (i + d + 2) i = i := by unfold sw; split <;> (try split) <;> omega
      have e2 : sw (i + d + 1) (i + d + 2) (i + d + 1) = i + d + 2 := by unfold sw; split <;> (try split) <;> omega
      rw [e1, e2]; exact h j hj
    omega
theorem AM.eq0 (A : Mx) {i k : Nat} (hi : i < n) (hk : k < n) (hik : i ≠ k) (h : ∀ j, j < n → A i j = A k j) : F A = 0 := by
  by_cases hlt : i < k
  · have e : k = i + (k - i - 1) + 1 := by omega
    exact hF.alt (k - i - 1) A i (by omega) fun j hj => by rw [← e]; exact h j hj
  · have e : i = k + (i - k - 1) + 1 := by omega
    exact hF.alt (i - k - 1) A k (by omega) fun j hj => by rw [← e]; exact (h j hj).symm
theorem AM.swap (A : Mx) {i k : Nat} (hi : i < n) (hk : k < n) (hik : i ≠ k) : F (fun r => A (sw i k r)) = - F A :=
  hF.swapOf hi hk hik fun B hB => hF.eq0 B hi hk hik hB
theorem AM.addRow (A : Mx) {i k : Nat} (hi : i < n) (hk : k < n) (hik : i ≠ k) (q : Int) : F (updR A i fun j => A i j + q * A k j) = F A :=
  hF.addOf hi q (hF.eq0 _ hi hk hik fun j _ => by rw [updR_self, updR_ne _ _ _ (fun e => hik e.symm)])
theorem AM.sum (A : Mx) {i : Nat} (hi : i < n) (a : Nat → Int) (e : Nat → Nat → Int) : ∀ m, F (updR A i fun k => sm m fun c => a c * e c k) = sm m fun c => a c * F (updR A i (e c))
  | 0 => by simp only [sm]; exact hF.zero A hi
  | m + 1 => by
    simp only [sm]
    rw [hF.add A hi (fun k => sm m fun c => a c * e c k) (fun k => a m * e m k), AM.sum A hi a e m, hF.scale A hi]
/-- The row c moved to the top. -/
def rot (c : Nat) (A : Mx) : Mx := fun r => A (if r = 0 then c else skp c (r - 1))
omit hF in
theorem rot_zero (A : Mx) : rot 0 A = A := by
  funext r
  unfold rot
  by_cases h : r = 0
  · rw [if_pos h, h]
  · rw [if_neg h, skp_zero]; congr 1; omega
omit hF in
theorem rot_succ (c : Nat) (A : Mx) : (fun r => rot (c + 1) A (sw 0 (c + 1) r)) = rot c A := by
  funext r
  unfold rot sw skp
  by_cases h0 : r = 0
  · subst h0
    simp
  · by_cases h1 : r = c + 1
    · subst h1
      simp
    · simp only [if_neg h0, if_neg h1]
      congr 1
      split <;> split <;> omega
theorem AM.rot (A : Mx) : ∀ c, c < n → F (rot c A) = sg c * F A
  | 0, _ => by rw [rot_zero, sg_zero, Int.one_mul]
  | c + 1, h => by
    have h1 := hF.swap (Eng.rot (c + 1) A) (i := 0) (k := c + 1) (by omega) h (by omega)
    rw [rot_succ, AM.rot A c (by omega)] at h1
    rw [sg_succ, Int.neg_mul]; omega
end

/-! ### det is one -/
theorem sm_anti : ∀ (n : Nat) (f : Nat → Nat → Int), (∀ c d, c ≤ d → d < n → f (d + 1) c = - f c d) → sm (n + 1) (fun c => sm n (f c)) = 0
  | 0, f, _ => rfl
  | n + 1, f, h => by
    have ih := sm_anti n f fun c d hc hd => h c d hc (by omega)
    have e1 : sm (n + 1) (fun c => sm (n + 1) (f c)) = sm (n + 1) (fun c => sm n (f c)) + sm (n + 1) (fun c => f c n) := by
      rw [← sm_add]; exact sm_congr _ fun c _ => rfl
    have e2 : sm (n + 1) (f (n + 1)) = - sm (n + 1) (fun c => f c n) := by
      have : sm (n + 1) (f (n + 1)) = sm (n + 1) (fun c => (-1) * f c n) := sm_congr _ fun c hc => by rw [h c n (by omega) (by omega)]; omega
      rw [this, sm_mul]; omega
    show sm (n + 1) (fun c => sm (n + 1) (f c)) + sm (n + 1) (f (n + 1)) = 0
    rw [e1, ih, e2]; omega
theorem det_am : ∀ n, AM n (det n)
  | 0 => ⟨fun _ _ _ => rfl, fun _ i _ _ _ hi => absurd hi (Nat.not_lt_zero _), fun _ i hi => absurd hi (Nat.not_lt_zero _)⟩
  | n + 1 => by
    have ih := det_am n
    refine ⟨fun A B h => det_congr h, fun A i u v a hi => ?_, fun A i hi h => ?_⟩
    · simp only [det]
      rw [← sm_mul, ← sm_add]
      refine sm_congr _ fun c hc => ?_
      by_cases h0 : i = 0
      · subst h0
        rw [mnr_upd_self, mnr_upd_self, mnr_upd_self, updR_self, updR_self, updR_self]
        rw [Int.mul_add, Int.add_mul, ← Int.mul_assoc, Int.mul_comm (sg c) a, Int.mul_assoc a, Int.mul_assoc a]
      · rw [mnr_upd_ne _ _ _ h0, mnr_upd_ne _ _ _ h0, mnr_upd_ne _ _ _ h0, updR_ne _ _ _ (fun e => h0 e.symm), updR_ne _ _ _ (fun e => h0 e.symm), updR_ne _ _ _ (fun e => h0 e.symm)]
        rw [ih.lin (mnr 0 c A) (unsk 0 i) (fun k => u (skp c k)) (fun k => v (skp c k)) a (unsk_lt hi (by omega) h0)]
        rw [Int.mul_add, ← Int.mul_assoc, Int.mul_comm _ a, Int.mul_assoc a]
    · cases i with
      | zero =>
        cases n with
        | zero => omega
        | succ n =>
          simp only [det]
          have e : ∀ c, sg c * A 0 c * sm (n + 1) (fun d => sg d * mnr 0 c A 0 d * det n (mnr 0 d (mnr 0 c A))) = sm (n + 1) fun d => sg c * A 0 c * (sg d * A 1 (skp c d) * det n (fun i j => A (i + 2) (skp c (skp d j)))) := fun c => by
            rw [← sm_mul]
            refine sm_congr _ fun d _ => ?_
            have : mnr 0 d (mnr 0 c A) = fun i j => A (i + 2) (skp c (skp d j)) := by funext i j; unfold mnr; rw [skp_zero, skp_zero]
            rw [this]
            rfl
          rw [sm_congr _ fun c _ => e c]
          refine sm_anti (n + 1) _ fun c d hcd hd => ?_
          have s1 : skp (d + 1) c = c := by unfold skp; rw [if_pos (by omega)]
          have s2 : skp c d = d + 1 := by unfold skp; rw [if_neg (by omega)]
          have s3 : ∀ j, skp (d + 1) (skp c j) = skp c (skp d j) := fun j => by unfold skp; split <;> (try split) <;> (try split) <;> (try split) <;> omega
          simp only [s1, s2, s3, sg_succ]
          rw [h c (by omega), h (d + 1) (by omega)]
          generalize det n _ = x
          generalize A (0 + 1) c = y
          generalize A (0 + 1) (d + 1) = w
          show -sg d * w * (sg c * y * x) = -(sg c * y * (sg d * w * x))
          rw [Int.neg_mul, Int.neg_mul, Int.mul_left_comm]
      | succ i =>
        simp only [det]
        refine sm_zero _ fun c hc => ?_
        rw [ih.adj (mnr 0 c A) i (by omega) fun j hj => by unfold mnr; rw [skp_zero, skp_zero]; exact h _ (skp_lt hj), Int.mul_zero]

/-! ### the only one -/
theorem sm_unit {n j : Nat} (hj : j < n) (f : Nat → Int) : sm n (fun c => f c * mxI c j) = f j := by
  rw [sm_single n hj fun k hk hkj => by unfold mxI; rw [if_neg hkj, Int.mul_zero]]
  unfold mxI; rw [if_pos rfl, Int.mul_one]
theorem det_uniq : ∀ (n : Nat) (F : Mx → Int), AM n F → ∀ A, F A = det n A * F mxI
  | 0, F, hF, A => by
    rw [hF.congr A mxI fun i j hi => absurd hi (Nat.not_lt_zero _)]; simp [det]
  | n + 1, F, hF, A => by
    have e1 : F A = F (updR A 0 fun k => sm (n + 1) fun c => A 0 c * mxI c k) := (hF.same A _ fun k hk => sm_unit hk _).symm
    rw [e1, hF.sum A (by omega) (A 0) mxI (n + 1)]
    have hG : ∀ c, c < n + 1 → F (updR A 0 (mxI c)) = det n (mnr 0 c A) * (sg c * F mxI) := fun c hc => by
      let ins : Mx → Mx := fun M i j => if i = 0 then mxI c j else if j = c then 0 else M (i - 1) (unsk c j)
      have hI : AM n fun M => F (ins M) := by
        refine ⟨fun A B h => hF.congr _ _ fun i j hi hj => ?_, fun M i u v a hi => ?_, fun M i hi h => hF.adj _ (i + 1) (by omega) fun j hj => ?_⟩
        · show (if i = 0 then mxI c j else if j = c then 0 else A (i - 1) (unsk c j)) = (if i = 0 then mxI c j else if j = c then 0 else B (i - 1) (unsk c j))
          by_cases h0 : i = 0
          · rw [if_pos h0, if_pos h0]
          · by_cases h1 : j = c
            · rw [if_neg h0, if_neg h0, if_pos h1, if_pos h1]
            · rw [if_neg h0, if_neg h0, if_neg h1, if_neg h1]
              exact h _ _ (by omega) (unsk_lt hj hc h1)
        · have key : ∀ w : Nat → Int, ins (updR M i w) = updR (ins M) (i + 1) (fun j => if j = c then 0 else w (unsk c j)) := fun w => by
            funext r j
            show (if r = 0 then mxI c j else if j = c then 0 else updR M i w (r - 1) (unsk c j)) = if r = i + 1 then (if j = c then 0 else w (unsk c j)) else if r = 0 then mxI c j else if j = c then 0 else M (r - 1) (unsk c j)
            unfold updR
            by_cases h0 : r = 0
            · rw [if_pos h0, if_neg (by omega), if_pos h0]
            · by_cases h1 : r = i + 1
              · rw [if_neg h0, if_pos h1, if_pos (show r - 1 = i by omega)]
              · rw [if_neg h0, if_neg h1, if_neg h0, if_neg (show ¬ r - 1 = i by omega)]
          rw [key, key, key, ← hF.lin (ins M) (i + 1) _ _ a (by omega)]
          congr 1
          congr 1
          funext j
          by_cases h1 : j = c
          · simp [h1]
          · simp [h1]
        · show (if i + 1 = 0 then mxI c j else if j = c then 0 else M (i + 1 - 1) (unsk c j)) = if i + 1 + 1 = 0 then mxI c j else if j = c then 0 else M (i + 1 + 1 - 1) (unsk c j)
          rw [if_neg (show ¬ i + 1 = 0 by omega), if_neg (show ¬ i + 1 + 1 = 0 by omega)]
          by_cases h1 : j = c
          · rw [if_pos h1, if_pos h1]
          · rw [if_neg h1, if_neg h1]
            exact h _ (unsk_lt hj hc h1)
      have h2 : ∀ t, t ≤ n → F (updR A 0 (mxI c)) = F (fun i j => if i = 0 then mxI c j else if i ≤ t ∧ j = c then 0 else A i j) := fun t => by
        induction t with
        | zero =>
          intro _
          refine hF.congr _ _ fun i j _ _ => ?_
          unfold updR
          by_cases h0 : i = 0
          · rw [if_pos h0, if_pos h0]
          · rw [if_neg h0, if_neg h0, if_neg (by omega)]
        | succ t iht =>
          intro ht
          rw [iht (by omega), ← hF.addRow _ (i := t + 1) (k := 0) (by omega) (by omega) (by omega) (- A (t + 1) c)]
          refine hF.congr _ _ fun i j hi hj => ?_
          unfold updR mxI
          by_cases h0 : i = 0
          · simp [h0]
          · by_cases h1 : i = t + 1
            · subst h1
              by_cases hjc : j = c
              · subst hjc; simp; omega
              · have : ¬ c = j := fun e => hjc e.symm
                simp [hjc, this]
            · have : i ≤ t ↔ i ≤ t + 1 := by omega
              simp [h0, h1, this]
      have h3 : F (updR A 0 (mxI c)) = F (ins (mnr 0 c A)) := by
        rw [h2 n (Nat.le_refl _)]
        refine hF.congr _ _ fun i j hi hj => ?_
        show _ = if i = 0 then mxI c j else if j = c then 0 else mnr 0 c A (i - 1) (unsk c j)
        by_cases h0 : i = 0
        · rw [if_pos h0, if_pos h0]
        · rw [if_neg h0, if_neg h0]
          by_cases h1 : j = c
          · rw [if_pos h1, if_pos ⟨by omega, h1⟩]
          · rw [if_neg h1, if_neg (by omega)]
            unfold mnr
            rw [skp_unsk h1, skp_zero, Nat.sub_add_cancel (by omega)]
      have h4 : F (ins mxI) = sg c * F mxI := by
        rw [← hF.rot mxI c hc]
        refine hF.congr _ _ fun i j hi hj => ?_
        show (if i = 0 then mxI c j else if j = c then 0 else mxI (i - 1) (unsk c j)) = mxI (if i = 0 then c else skp c (i - 1)) j
        by_cases h0 : i = 0
        · rw [if_pos h0, if_pos h0]
        · rw [if_neg h0, if_neg h0]
          unfold mxI
          by_cases h1 : j = c
          · rw [if_pos h1, if_neg]; intro e; exact skp_ne c (i - 1) (e.trans h1)
          · rw [if_neg h1]
            by_cases h5 : i - 1 = unsk c j
            · rw [if_pos h5, if_pos (by rw [h5, skp_unsk h1])]
            · rw [if_neg h5, if_neg]; intro e; exact h5 (by rw [← e, unsk_skp])
      rw [h3, det_uniq n _ hI (mnr 0 c A)]
      show det n (mnr 0 c A) * F (ins mxI) = _
      rw [h4]
    rw [sm_congr _ fun c hc => by rw [hG c hc]]
    simp only [det]
    rw [Int.mul_comm, ← sm_mul]
    refine sm_congr _ fun c hc => ?_
    generalize det n (mnr 0 c A) = x
    rw [Int.mul_comm (F mxI), Int.mul_assoc, Int.mul_assoc, Int.mul_left_comm (sg c), Int.mul_left_comm x]

/-! ### what follows -/
theorem det_one : ∀ n, det n mxI = 1
  | 0 => rfl
  | n + 1 => by
    simp only [det]
    rw [sm_single (n + 1) (j := 0) (by omega) fun k hk hk0 => by
      have : mxI 0 k = 0 := if_neg (fun e => hk0 e.symm)
      rw [this, Int.mul_zero, Int.zero_mul]]
    have : mnr 0 0 mxI = mxI := by
      funext i j; unfold mnr mxI; rw [skp_zero, skp_zero]
      by_cases h : i = j
      · rw [if_pos h, if_pos (by omega)]
      · rw [if_neg h, if_neg (by omega)]
    rw [this, det_one n]; rfl
theorem det_mul (n : Nat) (A B : Mx) : det n (mxM n A B) = det n A * det n B := by
  have hD := det_am n
  have hF : AM n fun A => det n (mxM n A B) := by
    refine ⟨fun A A' h => det_congr fun i j hi hj => sm_congr _ fun k hk => by rw [h i k hi hk], fun A i u v a hi => ?_, fun A i hi h => hD.adj _ i hi fun j hj => sm_congr _ fun k hk => by rw [h k hk]⟩
    have key : ∀ w : Nat → Int, mxM n (updR A i w) B = updR (mxM n A B) i (fun j => sm n fun k => w k * B k j) := fun w => by
      funext r j
      unfold mxM updR
      by_cases h : r = i
      · simp [h]
      · simp [h]
    show det n (mxM n (updR A i _) B) = a * det n (mxM n (updR A i u) B) + det n (mxM n (updR A i v) B)
    rw [key, key, key, ← hD.lin _ i _ _ a hi]
    congr 1
    congr 1
    funext j
    rw [← sm_mul, ← sm_add]
    exact sm_congr _ fun k _ => by rw [Int.add_mul, Int.mul_assoc]
  rw [det_uniq n _ hF A]
  congr 1
  refine det_congr fun i j hi hj => ?_
  show sm n (fun k => mxI i k * B k j) = B i j
  rw [sm_single n hi fun k hk hki => by unfold mxI; rw [if_neg (fun e => hki e.symm), Int.zero_mul]]
  unfold mxI; rw [if_pos rfl, Int.one_mul]
theorem det_trn_am : ∀ n, AM n fun A => det n (trn A)
  | 0 => ⟨fun _ _ _ => rfl, fun _ i _ _ _ hi => absurd hi (Nat.not_lt_zero _), fun _ i hi => absurd hi (Nat.not_lt_zero _)⟩
  | n + 1 => by
    have ih := det_trn_am n
    have hm : ∀ c A, mnr 0 c (trn A) = trn (mnr c 0 A) := fun _ _ => rfl
    refine ⟨fun A B h => det_congr fun i j hi hj => h j i hj hi, fun A i u v a hi => ?_, fun A i hi h => ?_⟩
    · simp only [det]
      rw [← sm_mul, ← sm_add]
      refine sm_congr _ fun c hc => ?_
      rw [hm, hm, hm]
      simp only [trn]
      by_cases h0 : i = c
      · subst h0
        rw [mnr_upd_self, mnr_upd_self, mnr_upd_self, updR_self, updR_self, updR_self]
        rw [Int.mul_add, Int.add_mul, ← Int.mul_assoc, Int.mul_comm (sg i) a, Int.mul_assoc a, Int.mul_assoc a]
      · rw [mnr_upd_ne _ _ _ h0, mnr_upd_ne _ _ _ h0, mnr_upd_ne _ _ _ h0, updR_ne _ _ _ (fun e => h0 e.symm), updR_ne _ _ _ (fun e => h0 e.symm), updR_ne _ _ _ (fun e => h0 e.symm)]
        have := ih.lin (mnr c 0 A) (unsk c i) (fun k => u (skp 0 k)) (fun k => v (skp 0 k)) a (unsk_lt hi hc h0)
        show sg c * A c 0 * det n (trn (updR (mnr c 0 A) (unsk c i) fun k => a * u (skp 0 k) + v (skp 0 k))) = a * (sg c * A c 0 * det n (trn (updR (mnr c 0 A) (unsk c i) fun k => u (skp 0 k)))) + sg c * A c 0 * det n (trn (updR (mnr c 0 A) (unsk c i) fun k => v (skp 0 k)))
        rw [this]
        rw [Int.mul_add, ← Int.mul_assoc, Int.mul_comm _ a, Int.mul_assoc a]
    · show det (n + 1) (trn A) = 0
      simp only [det]
      have hz : ∀ c, c < n + 1 → c ≠ i → c ≠ i + 1 → sg c * trn A 0 c * det n (mnr 0 c (trn A)) = 0 := fun c hc h1 h2 => by
        rw [hm]
        have hlt : unsk c i + 1 < n ∧ skp c (unsk c i + 1) = i + 1 := by unfold unsk skp; split <;> (try split) <;> omega
        rw [ih.adj (mnr c 0 A) (unsk c i) hlt.1 fun j hj => by unfold mnr; rw [skp_unsk (fun e => h1 e.symm), hlt.2]; exact h _ (skp_lt hj), Int.mul_zero]
      have hp : ∀ (f : Nat → Int) (m : Nat), i + 1 < m → (∀ c, c < m → c ≠ i → c ≠ i + 1 → f c = 0) → sm m f = f i + f (i + 1) := fun f m => by
        induction m with
        | zero => intro h; omega
        | succ m ihm =>
          intro hm1 hf
          show sm m f + f m = _
          by_cases e : i + 1 = m
          · subst e
            rw [sm_single (i + 1) (j := i) (by omega) fun k hk hki => hf k (by omega) hki (by omega)]
          · rw [ihm (by omega) fun c hc => hf c (by omega), hf m (by omega) (by omega) (by omega)]; omega
      rw [hp _ _ hi hz, hm, hm]
      have : det n (trn (mnr i 0 A)) = det n (trn (mnr (i + 1) 0 A)) := det_congr fun a b ha hb => by
        unfold trn mnr
        by_cases e : b = i
        · subst e
          have s1 : skp b b = b + 1 := by unfold skp; rw [if_neg (by omega)]
          have s2 : skp (b + 1) b = b := by unfold skp; rw [if_pos (by omega)]
          rw [s1, s2]; exact (h _ (skp_lt ha)).symm
        · have : skp i b = skp (i + 1) b := by unfold skp; split <;> split <;> omega
          rw [this]
      rw [this, sg_succ]
      unfold trn
      rw [h 0 (by omega)]
      rw [Int.neg_mul, Int.neg_mul]; omega
theorem det_trn (n : Nat) (A : Mx) : det n (trn A) = det n A := by
  rw [det_uniq n _ (det_trn_am n) A]
  have : det n (trn mxI) = 1 := by
    rw [show trn mxI = mxI from by funext i j; unfold trn mxI; by_cases h : i = j <;> simp [h, eq_comm], det_one]
  rw [this, Int.mul_one]
/-- Cofactors: the rows of the adjugate against the rows of the matrix. -/
theorem det_cof (n : Nat) (A : Mx) {i k : Nat} (hi : i < n + 1) (hk : k < n + 1) : sm (n + 1) (fun c => A k c * (sg (i + c) * det n (mnr i c A))) = if k = i then det (n + 1) A else 0 := by
  have hD := det_am (n + 1)
  have h1 : det (n + 1) (rot i (updR A i (A k))) = sm (n + 1) fun c => sg c * A k c * det n (mnr i c A) := by
    simp only [det]
    refine sm_congr _ fun c hc => ?_
    have e1 : rot i (updR A i (A k)) 0 c = A k c := by unfold rot; rw [if_pos rfl, updR_self]
    have e2 : mnr 0 c (rot i (updR A i (A k))) = mnr i c A := by
      funext a b
      unfold mnr rot
      rw [skp_zero, if_neg (by omega)]
      exact updR_ne _ _ _ (skp_ne _ _)
    rw [e1, e2]
  have h2 : sm (n + 1) (fun c => A k c * (sg (i + c) * det n (mnr i c A))) = sg i * det (n + 1) (rot i (updR A i (A k))) := by
    rw [h1, ← sm_mul]
    refine sm_congr _ fun c hc => ?_
    rw [sg_add, Int.mul_assoc (sg i), Int.mul_left_comm (A k c), Int.mul_left_comm (A k c), Int.mul_assoc (sg c)]
  rw [h2, hD.rot _ i hi, ← Int.mul_assoc, sg_sq, Int.one_mul]
  by_cases h : k = i
  · subst h; rw [if_pos rfl]; exact hD.same A _ fun _ _ => rfl
  · rw [if_neg h]
    exact hD.eq0 _ hi hk (fun e => h e.symm) fun j _ => by rw [updR_self, updR_ne _ _ _ h]
def prD : Nat → Mx → Int
  | 0, _ => 1
  | n + 1, A => prD n A * A n n
theorem det_lower : ∀ (n : Nat) (A : Mx), (∀ i j, i < n → j < n → i < j → A i j = 0) → det n A = prD n A := fun n => by
  have key : ∀ (n : Nat) (A : Mx), prD (n + 1) A = A 0 0 * prD n (fun i j => A (i + 1) (j + 1)) := fun n => by
    induction n with
    | zero => intro A; simp [prD]
    | succ n ih => intro A; rw [show prD (n + 2) A = prD (n + 1) A * A (n + 1) (n + 1) from rfl, ih A, Int.mul_assoc]; rfl
  induction n with
  | zero => intro A _; rfl
  | succ n ih =>
    intro A h
    simp only [det]
    rw [sm_single (n + 1) (j := 0) (by omega) fun k hk hk0 => by rw [h 0 k (by omega) hk (by omega), Int.mul_zero, Int.zero_mul]]
    have : mnr 0 0 A = fun i j => A (i + 1) (j + 1) := by funext i j; unfold mnr; rw [skp_zero, skp_zero]
    rw [this, ih _ fun i j hi hj hij => h _ _ (by omega) (by omega) (by omega), key, sg_zero, Int.one_mul]
theorem prD_congr {A B : Mx} : ∀ n, (∀ i, i < n → A i i = B i i) → prD n A = prD n B
  | 0, _ => rfl
  | n + 1, h => by simp only [prD]; rw [prD_congr n fun i hi => h i (by omega), h n (by omega)]
/-- The determinant of an upper triangular matrix. -/
theorem det_upper (n : Nat) (A : Mx) (h : ∀ i j, i < n → j < n → j < i → A i j = 0) : det n A = prD n A := by
  rw [← det_trn, det_lower n (trn A) fun i j hi hj hij => h j i hj hi hij]
  exact prD_congr n fun _ _ => rfl
end Go.Eng
/- The determinant by Euclid's algorithm on rows modulo p: what each step keeps. Plain. -/
set_option linter.unusedVariables false
set_option linter.unusedSimpArgs false
namespace Go.Eng

/-- d is, up to a sign and modulo p, the product of the first c entries of the diagonal; the columns before c are done. -/
def DI (p : Int) (n : Nat) (A0 A : List (List Int)) (c : Nat) (d : Int) : Prop :=
  ∃ s : Int, (s = 1 ∨ s = -1) ∧ p ∣ s * det n (ent A) - det n (ent A0) ∧ p ∣ d - s * prD c (ent A) ∧ ∀ i j, j < c → j < i → i < n → ent A i j = 0
/-- The rows between c and i are zero in the column c. -/
def Cl (A : List (List Int)) (c i : Nat) : Prop := ∀ r, c < r → r < i → ent A r c = 0
/-- Row c less q times row i. -/
def eucR (p : Int) (n : Nat) (A : List (List Int)) (c i : Nat) : List Int := (List.range n).map (subG (A.getD c []) (A.getD i []) (ent A c c / ent A i c) p)
def eucA (p : Int) (n : Nat) (A : List (List Int)) (c i : Nat) : List (List Int) := swp [] (A.set c (eucR p n A c i)) c i

theorem DI.start (p : Int) (n : Nat) (A0 : List (List Int)) : DI p n A0 A0 0 1 :=
  ⟨1, .inl rfl, by rw [Int.one_mul, Int.sub_self]; exact Int.dvd_zero p, by simp [prD], fun i j h => absurd h (Nat.not_lt_zero _)⟩
section
variable {p : Int} {n c i : Nat} {A0 A : List (List Int)} {d : Int}
theorem ent_euc (hl : A.length = n) (hi : i < n) (hci : c < i) (r k : Nat) (hk : k < n) : ent (eucA p n A c i) r k = if r = i then subG (A.getD c []) (A.getD i []) (ent A c c / ent A i c) p k else if r = c then ent A i k else ent A r k := by
  unfold eucA
  rw [ent_swp (by rw [List.length_set]; omega) (by rw [List.length_set]; omega)]
  unfold ent sw
  by_cases h1 : r = i
  · subst h1
    rw [if_pos rfl, if_pos rfl, getD_setM _ _ _ (by omega)]
    unfold eucR
    rw [map_range_get _ hk]; rfl
  · rw [if_neg h1, if_neg h1]
    by_cases h2 : r = c
    · rw [if_pos h2, if_pos h2, getD_setNe [] A _ (by omega)]
    · rw [if_neg h2, if_neg h2, getD_setNe [] A _ h2]
theorem subG_dvd (Y X : List Int) (f p : Int) (k : Nat) : p ∣ subG Y X f p k - (Y.getD k 0 + (- f) * X.getD k 0) := by
  unfold subG
  generalize Y.getD k 0 = u
  rw [Int.neg_mul]
  generalize f * X.getD k 0 = v
  have h1 := emod_dvd (u - v % p) p
  have h2 := emod_dvd v p
  have : (u - v % p) % p - (u + -v) = ((u - v % p) % p - (u - v % p)) - (v % p - v) := by omega
  rw [this]; exact Int.dvd_sub h1 h2
theorem DI.euc (h : DI p n A0 A c d) (hl : A.length = n) (hi : i < n) (hci : c < i) : DI p n A0 (eucA p n A c i) c (p - d) := by
  obtain ⟨s, hs, h1, h2, h3⟩ := h
  have hD := det_am n
  have e0 : p ∣ det n (ent (eucA p n A c i)) + det n (ent A) := by
    have e1 : det n (fun r => updR (ent A) c (fun j => ent A c j + (- (ent A c c / ent A i c)) * ent A i j) (sw c i r)) = - det n (ent A) := by
      rw [hD.swap _ (by omega) hi (by omega), hD.addRow _ (by omega) hi (by omega)]
    have e2 := det_mod (p := p) n (ent (eucA p n A c i)) (fun r => updR (ent A) c (fun j => ent A c j + (- (ent A c c / ent A i c)) * ent A i j) (sw c i r)) fun r k hr hk => by
      rw [ent_euc hl hi hci r k hk]
      unfold updR sw
      by_cases g1 : r = i
      · rw [if_pos g1, if_pos g1, if_pos rfl]; exact subG_dvd _ _ _ _ _
      · rw [if_neg g1, if_neg g1]
        by_cases g2 : r = c
        · rw [if_pos g2, if_pos g2, if_neg (by omega), Int.sub_self]; exact Int.dvd_zero p
        · rw [if_neg g2, if_neg g2, if_neg g2, Int.sub_self]; exact Int.dvd_zero p
    rw [e1] at e2
    have : det n (ent (eucA p n A c i)) + det n (ent A) = det n (ent (eucA p n A c i)) - -det n (ent A) := by omega
    rw [this]; exact e2
  refine ⟨-s, by omega, ?_, ?_, fun r j hj hjr hr => ?_⟩
  · generalize det n (ent (eucA p n A c i)) = x at e0
    generalize det n (ent A) = y at e0 h1
    have : -s * x - det n (ent A0) = (s * y - det n (ent A0)) - s * (x + y) := by rw [Int.neg_mul, Int.mul_add]; omega
    rw [this]; exact Int.dvd_sub h1 (Int.dvd_mul_of_dvd_right e0)
  · have : prD c (ent (eucA p n A c i)) = prD c (ent A) := prD_congr c fun k hk => by
      rw [ent_euc hl hi hci k k (by omega), if_neg (by omega), if_neg (by omega)]
    rw [this]
    generalize prD c (ent A) = x at h2
    have : p - d - -s * x = p - (d - s * x) := by rw [Int.neg_mul]; omega
    rw [this]; exact Int.dvd_sub (Int.dvd_refl p) h2
  · rw [ent_euc hl hi hci r j (by omega)]
    have z1 := h3 i j hj (by omega) hi
    have z2 := h3 c j hj hj (by omega)
    split
    · unfold subG ent at *
      rw [z1, z2]; simp
    · split
      · exact z1
      · exact h3 r j hj hjr hr
theorem Cl.euc (h : Cl A c i) (hl : A.length = n) (hi : i < n) (hci : c < i) : Cl (eucA p n A c i) c i := fun r h1 h2 => by
  rw [ent_euc hl hi hci r c (by omega), if_neg (by omega), if_neg (by omega)]; exact h r h1 h2
theorem Cl.next (h : Cl A c i) (hz : ent A i c = 0) : Cl A c (i + 1) := fun r h1 h2 => by
  by_cases e : r = i
  · rw [e]; exact hz
  · exact h r h1 (by omega)
theorem Cl.start (A : List (List Int)) (c : Nat) : Cl A c (c + 1) := fun r h1 h2 => by omega
theorem DI.col (h : DI p n A0 A c d) (hc : Cl A c n) : DI p n A0 A (c + 1) (d * ent A c c % p) := by
  obtain ⟨s, hs, h1, h2, h3⟩ := h
  refine ⟨s, hs, h1, ?_, fun i j hj hji hi => ?_⟩
  · simp only [prD]
    have e1 := emod_dvd (d * ent A c c) p
    generalize prD c (ent A) = x at h2
    generalize ent A c c = y at e1
    have : d * y % p - s * (x * y) = (d * y % p - d * y) + (d - s * x) * y := by rw [Int.sub_mul, Int.mul_assoc]; omega
    rw [this]; exact Int.dvd_add e1 (Int.dvd_mul_of_dvd_left h2)
  · by_cases e : j = c
    · subst e; exact hc i hji hi
    · exact h3 i j (by omega) hji hi
theorem DI.done (h : DI p n A0 A n d) : d % p = det n (ent A0) % p := by
  obtain ⟨s, hs, h1, h2, h3⟩ := h
  rw [det_upper n (ent A) fun i j hi hj hji => h3 i j hj hji hi] at h1
  have : p ∣ d - det n (ent A0) := by
    have e : d - det n (ent A0) = (d - s * prD n (ent A)) + (s * prD n (ent A) - det n (ent A0)) := by omega
    rw [e]; exact Int.dvd_add h2 h1
  exact Int.emod_eq_emod_iff_emod_sub_eq_zero.2 (Int.emod_eq_zero_of_dvd this)
theorem InR.euc (hR : InR p n A) (hp : 2 ≤ p) (hl : A.length = n) (hi : i < n) (hci : c < i) : InR p n (eucA p n A c i) := by
  unfold eucA
  refine InR.swp (hR.set c fun j hj => ?_) (by rw [List.length_set]; omega) (by rw [List.length_set]; omega)
  unfold eucR
  rw [map_range_get _ hj]
  exact ⟨Int.emod_nonneg _ (by omega), Int.emod_lt_of_pos _ (by omega)⟩
theorem Wid.euc (hw : Wid n A) (hl : A.length = n) (hi : i < n) (hci : c < i) : Wid n (eucA p n A c i) := by
  unfold eucA
  exact Wid.swp (hw.set c (by unfold eucR; simp)) (by rw [List.length_set]; omega) (by rw [List.length_set]; omega)
theorem euc_length : (eucA p n A c i).length = A.length := by unfold eucA; rw [swp_length, List.length_set]
/-- The entry that Euclid's algorithm brings down. -/
theorem euc_less (hR : InR p n A) (hp : 2 ≤ p) (hl : A.length = n) (hi : i < n) (hci : c < i) (hz : ent A i c ≠ 0) : (ent (eucA p n A c i) i c).toNat < (ent A i c).toNat := by
  rw [ent_euc hl hi hci i c (by omega), if_pos rfl]
  have h1 : 0 ≤ ent A c c ∧ ent A c c < p := hR c c (by omega) (by omega)
  have h2 : 0 ≤ ent A i c ∧ ent A i c < p := hR i c (by omega) (by omega)
  have e : subG (A.getD c []) (A.getD i []) (ent A c c / ent A i c) p c = (ent A c c - ent A c c / ent A i c * ent A i c % p) % p := rfl
  rw [e]
  generalize ent A c c = x at h1 ⊢
  generalize ent A i c = y at h2 hz ⊢
  have h3 := Int.emod_add_mul_ediv x y
  have h4 := Int.emod_nonneg x hz
  have h5 := Int.emod_lt_of_pos x (show 0 < y by omega)
  have h6 : x / y * y = x - x % y := by rw [Int.mul_comm]; omega
  have h7 : 0 ≤ x / y * y := Int.mul_nonneg (Int.ediv_nonneg h1.1 h2.1) h2.1
  rw [Int.emod_eq_of_lt h7 (by omega), h6]
  have : x - (x - x % y) = x % y := by omega
  rw [this, Int.emod_eq_of_lt h4 (by omega)]
  omega
/-- The quotient is a remainder. -/
theorem euc_q (hR : InR p n A) (hl : A.length = n) (hi : i < n) (hci : c < i) (hz : ent A i c ≠ 0) : 0 ≤ ent A c c / ent A i c ∧ ent A c c / ent A i c < p := by
  have h1 : 0 ≤ ent A c c ∧ ent A c c < p := hR c c (by omega) (by omega)
  have h2 : 0 ≤ ent A i c ∧ ent A i c < p := hR i c (by omega) (by omega)
  refine ⟨Int.ediv_nonneg h1.1 h2.1, ?_⟩
  have := Int.ediv_le_self (ent A i c) h1.1
  omega
end
end Go.Eng
open Go Go.Proofs
set_option linter.unusedVariables false
set_option linter.unusedSimpArgs false
set_option maxRecDepth 4000
set_option maxHeartbeats 40000000
namespace Go.Eng
attribute [local irreducible] Good ACalls runL regW stepW opW gdV' gdD condW gifW binW arW loadW storeW idxAW lenW appW appBW cutW onSome onBnd callW fldAW Again thenQ blockQ resW endQ Up loadR
/-! ### the determinant -/
/-- The state of the loops. -/
structure DW (O : Nat) (ids0 : List Nat) (A0 : List (List Int)) (n : Nat) (p : Int) (ids : List Nat) (A : List (List Int)) (c : Nat) (d : Int) : Prop where
  ok : MatOk O ids n A
  sub : ∀ b ∈ ids, b ∈ ids0
  len : A.length = n
  rng : InR p n A
  wid : Wid n A
  db : 0 ≤ d ∧ d ≤ p
  inv : DI p n A0 A c d
theorem c_determinant (O : Nat) (ids0 : List Nat) (A0 : List (List Int)) (n : Nat) (p : Int) (cc : Cp) (h : AH) (hp : 2 ≤ p ∧ p ≤ 2147483647) (ho : MatOk O ids0 n A0) (hl : A0.length = n) (hn : 1 ≤ n ∧ n ≤ 1000000) (hR : InR p n A0) :
    ACalls Try.prog 49 [.bsl O 0 n cc, .int .i64 p] (matH h O ids0 n A0) (fun v h' => ∃ d ids A, v = .int .i64 d ∧ (0 ≤ d ∧ d < p) ∧ d = det n (ent A0) % p ∧ h' = matH h O ids n A ∧ MatOk O ids n A ∧ ∀ b ∈ ids, b ∈ ids0) := by
  have hE0 : DW O ids0 A0 n p ids0 A0 0 1 := ⟨ho, fun b hb => hb, hl, hR, fun i hi => ho.row hi, by omega, DI.start p n A0⟩
  refine acalls_of_good 2 109 [.tmp 4] Try.func49 rfl rfl (by kernel_rfl) rfl rfl (by decide) ?_
  simp (disch := first | assumption | omega) only [go_sem, Option.map, List.isEmpty, ↓reduceIte, Nat.reduceEqDiff, Nat.reduceAdd, Nat.reduceSub, Nat.reduceMul, Nat.reduceLT, Nat.reduceLeDiff, reduceCtorEq, Nat.reduceBEq, Nat.reduceBNe, Int.reduceNeg, Int.reduceLE, Int.reduceLT, Int.reduceToNat]
  repeat' (first | (first | refine good_seq ?_ | refine good_reg false (fun K hK => ?_) | (refine runL_nil (hK _ _ ?_); clear hK K) | refine runL_none rfl (fun K2 hK2 => ?_) | refine runL_some rfl rfl (fun R S hR hS => ?_) | (refine hK2 _ _ ?_; clear hK2 K2) | (refine hK2 _ _ ?_ ?_ <;> clear hK2 K2) | (refine regW_nil (hK _ _ ?_); clear hK K) | (refine regW_load rfl rfl rfl (fun F1 F2 hF1 hF2 => ?_)) | (refine hF1 _ ?_ ?_ <;> clear hF1 hF2 F1 F2) | (refine hF2 _ _ (fun K2 hK2 => ?_); clear hF1 hF2 F1 F2) | refine regW_light rfl rfl rfl (fun _ _ => rfl) (fun K2 hK2 => ?_) | refine regW_lguard rfl rfl rfl rfl (fun _ _ => rfl) (fun R S hR hS => ?_) | refine regW_heavy rfl rfl (fun K2 hK2 => ?_) | with_reducible refine log_goal ?_ | (refine hR _ (fun K2 hK2 => ?_); clear hR hS R S) | (refine hS _ ?_; clear hR hS R S) | refine good_block ?_ | refine good_skip ?_ | refine good_exit ?_ | refine good_ret ?_ | refine good_cond ?_ | refine And.intro ?_ ?_ | intro _) <;> try simp (disch := first | assumption | omega) only [go_sem, Option.map, List.isEmpty, ↓reduceIte, Nat.reduceEqDiff, Nat.reduceAdd, Nat.reduceSub, Nat.reduceMul, Nat.reduceLT, Nat.reduceLeDiff, reduceCtorEq, Nat.reduceBEq, Nat.reduceBNe, Int.reduceNeg, Int.reduceLE, Int.reduceLT, Int.reduceToNat] | omega)
  refine good_loop_s (σ := List Nat × List (List Int) × Nat × Int) (fun s => [(0, .bsl O 0 n cc), (1, .int .i64 p), (5, .int .i64 s.2.2.2), (11, .int .i64 n), (12, .int .i64 s.2.2.1)])
    (fun s => matH h O s.1 n s.2.1) (fun s => (s.2.2.1 ≤ n ∧ (s.2.2.1 = n → 0 < n → s.2.2.2 < p)) ∧ DW O ids0 A0 n p s.1 s.2.1 s.2.2.1 s.2.2.2) (fun s => n - s.2.2.1) (ids0, A0, 0, 1) ?_ rfl ⟨⟨Nat.zero_le _, fun e _ => by dsimp only at e; omega⟩, hE0⟩ ?_
  · simp (disch := first | assumption | omega) only [go_sem, Option.map, List.isEmpty, ↓reduceIte, Nat.reduceEqDiff, Nat.reduceAdd, Nat.reduceSub, Nat.reduceMul, Nat.reduceLT, Nat.reduceLeDiff, reduceCtorEq, Nat.reduceBEq, Nat.reduceBNe, Int.reduceNeg, Int.reduceLE, Int.reduceLT, Int.reduceToNat]; (try (refine ⟨?_, ?_⟩ <;> omega)); (try omega)
  rintro ⟨ids, A, c, d⟩ ⟨⟨hc, hdl⟩, hE⟩ mu hmu
  dsimp only at hc hdl hE hmu ⊢
  by_cases hcn : c = n
  · have hdb := hE.db
    have hdl' := hdl hcn (by omega)
    repeat' (first | (first | refine good_seq ?_ | refine good_reg false (fun K hK => ?_) | (refine runL_nil (hK _ _ ?_); clear hK K) | refine runL_none rfl (fun K2 hK2 => ?_) | refine runL_some rfl rfl (fun R S hR hS => ?_) | (refine hK2 _ _ ?_; clear hK2 K2) | (refine hK2 _ _ ?_ ?_ <;> clear hK2 K2) | (refine regW_nil (hK _ _ ?_); clear hK K) | (refine regW_load rfl rfl rfl (fun F1 F2 hF1 hF2 => ?_)) | (refine hF1 _ ?_ ?_ <;> clear hF1 hF2 F1 F2) | (refine hF2 _ _ (fun K2 hK2 => ?_); clear hF1 hF2 F1 F2) | refine regW_light rfl rfl rfl (fun _ _ => rfl) (fun K2 hK2 => ?_) | refine regW_lguard rfl rfl rfl rfl (fun _ _ => rfl) (fun R S hR hS => ?_) | refine regW_heavy rfl rfl (fun K2 hK2 => ?_) | with_reducible refine log_goal ?_ | (refine hR _ (fun K2 hK2 => ?_); clear hR hS R S) | (refine hS _ ?_; clear hR hS R S) | refine good_block ?_ | refine good_skip ?_ | refine good_exit ?_ | refine good_ret ?_ | refine good_cond ?_ | refine And.intro ?_ ?_ | intro _) <;> try simp (disch := first | assumption | omega) only [go_sem, Option.map, List.isEmpty, ↓reduceIte, Nat.reduceEqDiff, Nat.reduceAdd, Nat.reduceSub, Nat.reduceMul, Nat.reduceLT, Nat.reduceLeDiff, reduceCtorEq, Nat.reduceBEq, Nat.reduceBNe, Int.reduceNeg, Int.reduceLE, Int.reduceLT, Int.reduceToNat] | omega)
    refine ⟨d, ids, A, rfl, ⟨hdb.1, hdl'⟩, ?_, rfl, hE.ok, hE.sub⟩
    have := (hcn ▸ hE.inv : DI p n A0 A n d).done
    rw [← this, Int.emod_eq_of_lt hdb.1 hdl']
  clear hdl
  repeat' (first | (first | refine good_seq ?_ | refine good_reg false (fun K hK => ?_) | (refine runL_nil (hK _ _ ?_); clear hK K) | refine runL_none rfl (fun K2 hK2 => ?_) | refine runL_some rfl rfl (fun R S hR hS => ?_) | (refine hK2 _ _ ?_; clear hK2 K2) | (refine hK2 _ _ ?_ ?_ <;> clear hK2 K2) | (refine regW_nil (hK _ _ ?_); clear hK K) | (refine regW_load rfl rfl rfl (fun F1 F2 hF1 hF2 => ?_)) | (refine hF1 _ ?_ ?_ <;> clear hF1 hF2 F1 F2) | (refine hF2 _ _ (fun K2 hK2 => ?_); clear hF1 hF2 F1 F2) | refine regW_light rfl rfl rfl (fun _ _ => rfl) (fun K2 hK2 => ?_) | refine regW_lguard rfl rfl rfl rfl (fun _ _ => rfl) (fun R S hR hS => ?_) | refine regW_heavy rfl rfl (fun K2 hK2 => ?_) | with_reducible refine log_goal ?_ | (refine hR _ (fun K2 hK2 => ?_); clear hR hS R S) | (refine hS _ ?_; clear hR hS R S) | refine good_block ?_ | refine good_skip ?_ | refine good_exit ?_ | refine good_ret ?_ | refine good_cond ?_ | refine And.intro ?_ ?_ | intro _) <;> try simp (disch := first | assumption | omega) only [go_sem, Option.map, List.isEmpty, ↓reduceIte, Nat.reduceEqDiff, Nat.reduceAdd, Nat.reduceSub, Nat.reduceMul, Nat.reduceLT, Nat.reduceLeDiff, reduceCtorEq, Nat.reduceBEq, Nat.reduceBNe, Int.reduceNeg, Int.reduceLE, Int.reduceLT, Int.reduceToNat] | omega)
  refine good_loop_s (σ := List Nat × List (List Int) × Nat × Int) (fun s => [(0, .bsl O 0 n cc), (1, .int .i64 p), (5, .int .i64 s.2.2.2), (6, .int .i64 c), (7, .int .i64 s.2.2.1), (11, .int .i64 n), (12, .int .i64 c)])
    (fun s => matH h O s.1 n s.2.1) (fun s => (c < s.2.2.1 ∧ s.2.2.1 ≤ n) ∧ Cl s.2.1 c s.2.2.1 ∧ DW O ids0 A0 n p s.1 s.2.1 c s.2.2.2) (fun s => n - s.2.2.1) (ids, A, c + 1, d) ?_ rfl ⟨⟨by show c < c + 1; omega, by show c + 1 ≤ n; omega⟩, Cl.start A c, hE⟩ ?_
  · simp (disch := first | assumption | omega) only [go_sem, Option.map, List.isEmpty, ↓reduceIte, Nat.reduceEqDiff, Nat.reduceAdd, Nat.reduceSub, Nat.reduceMul, Nat.reduceLT, Nat.reduceLeDiff, reduceCtorEq, Nat.reduceBEq, Nat.reduceBNe, Int.reduceNeg, Int.reduceLE, Int.reduceLT, Int.reduceToNat]; (try (refine ⟨?_, ?_⟩ <;> omega)); (try omega)
  clear hE
  rintro ⟨ids, A, i, d⟩ ⟨⟨hci, hin⟩, hcl, hE⟩ mu2 hmu2
  dsimp only at hci hin hcl hE hmu2 ⊢
  by_cases hi : i = n
  · have hok := hE.ok
    have hlen := hE.len
    have hil : ids.length = n := by rw [hok.len, hlen]
    have hwc := hE.wid c (by omega)
    have b1 := hE.rng c c (by omega) (by omega)
    have b2 := hE.db
    have b3 : 0 ≤ d * (A.getD c []).getD c 0 ∧ d * (A.getD c []).getD c 0 ≤ 4611686011984936962 := by
      refine ⟨Int.mul_nonneg b2.1 b1.1, ?_⟩
      have := Int.mul_le_mul (show d ≤ 2147483647 by omega) (show (A.getD c []).getD c 0 ≤ 2147483646 by omega) b1.1 (by omega)
      omega
    have b4 : (d * (A.getD c []).getD c 0).tmod p = d * (A.getD c []).getD c 0 % p := tmod_nn b3.1
    have b5 := Int.emod_nonneg (d * (A.getD c []).getD c 0) (show p ≠ 0 by omega)
    have b6 := Int.emod_lt_of_pos (d * (A.getD c []).getD c 0) (show 0 < p by omega)
    have hE2 : DW O ids0 A0 n p ids A (c + 1) (d * (A.getD c []).getD c 0 % p) := ⟨hok, hE.sub, hlen, hE.rng, hE.wid, ⟨b5, by omega⟩, hE.inv.col (hi ▸ hcl)⟩
    repeat' (first | (first | refine good_seq ?_ | refine good_reg false (fun K hK => ?_) | (refine runL_nil (hK _ _ ?_); clear hK K) | refine runL_none rfl (fun K2 hK2 => ?_) | refine runL_some rfl rfl (fun R S hR hS => ?_) | (refine hK2 _ _ ?_; clear hK2 K2) | (refine hK2 _ _ ?_ ?_ <;> clear hK2 K2) | (refine regW_nil (hK _ _ ?_); clear hK K) | (refine regW_load rfl rfl rfl (fun F1 F2 hF1 hF2 => ?_)) | (refine hF1 _ ?_ ?_ <;> clear hF1 hF2 F1 F2) | (refine hF2 _ _ (fun K2 hK2 => ?_); clear hF1 hF2 F1 F2) | refine regW_light rfl rfl rfl (fun _ _ => rfl) (fun K2 hK2 => ?_) | refine regW_lguard rfl rfl rfl rfl (fun _ _ => rfl) (fun R S hR hS => ?_) | refine regW_heavy rfl rfl (fun K2 hK2 => ?_) | with_reducible refine log_goal ?_ | (refine hR _ (fun K2 hK2 => ?_); clear hR hS R S) | (refine hS _ ?_; clear hR hS R S) | refine good_block ?_ | refine good_skip ?_ | refine good_exit ?_ | refine good_ret ?_ | refine good_cond ?_ | refine And.intro ?_ ?_ | intro _) <;> try simp (disch := first | assumption | omega) only [go_sem, Option.map, List.isEmpty, ↓reduceIte, Nat.reduceEqDiff, Nat.reduceAdd, Nat.reduceSub, Nat.reduceMul, Nat.reduceLT, Nat.reduceLeDiff, reduceCtorEq, Nat.reduceBEq, Nat.reduceBNe, Int.reduceNeg, Int.reduceLE, Int.reduceLT, Int.reduceToNat, b4] | ((first | fail) <;> try simp (disch := first | assumption | omega) only [go_sem, Option.map, List.isEmpty, ↓reduceIte, Nat.reduceEqDiff, Nat.reduceAdd, Nat.reduceSub, Nat.reduceMul, Nat.reduceLT, Nat.reduceLeDiff, reduceCtorEq, Nat.reduceBEq, Nat.reduceBNe, Int.reduceNeg, Int.reduceLE, Int.reduceLT, Int.reduceToNat, b4]) | omega)
    refine Again.to (ids, A, c + 1, d * (A.getD c []).getD c 0 % p) ⟨⟨by show c + 1 ≤ n; omega, fun _ _ => b6⟩, hE2⟩ (by show n - (c + 1) < mu; omega) ?_ rfl
    simp (disch := first | assumption | omega) only [go_sem, Option.map, List.isEmpty, ↓reduceIte, Nat.reduceEqDiff, Nat.reduceAdd, Nat.reduceSub, Nat.reduceMul, Nat.reduceLT, Nat.reduceLeDiff, reduceCtorEq, Nat.reduceBEq, Nat.reduceBNe, Int.reduceNeg, Int.reduceLE, Int.reduceLT, Int.reduceToNat]; (try (refine ⟨?_, ?_⟩ <;> omega)); (try omega)
  repeat' (first | (first | refine good_seq ?_ | refine good_reg false (fun K hK => ?_) | (refine runL_nil (hK _ _ ?_); clear hK K) | refine runL_none rfl (fun K2 hK2 => ?_) | refine runL_some rfl rfl (fun R S hR hS => ?_) | (refine hK2 _ _ ?_; clear hK2 K2) | (refine hK2 _ _ ?_ ?_ <;> clear hK2 K2) | (refine regW_nil (hK _ _ ?_); clear hK K) | (refine regW_load rfl rfl rfl (fun F1 F2 hF1 hF2 => ?_)) | (refine hF1 _ ?_ ?_ <;> clear hF1 hF2 F1 F2) | (refine hF2 _ _ (fun K2 hK2 => ?_); clear hF1 hF2 F1 F2) | refine regW_light rfl rfl rfl (fun _ _ => rfl) (fun K2 hK2 => ?_) | refine regW_lguard rfl rfl rfl rfl (fun _ _ => rfl) (fun R S hR hS => ?_) | refine regW_heavy rfl rfl (fun K2 hK2 => ?_) | with_reducible refine log_goal ?_ | (refine hR _ (fun K2 hK2 => ?_); clear hR hS R S) | (refine hS _ ?_; clear hR hS R S) | refine good_block ?_ | refine good_skip ?_ | refine good_exit ?_ | refine good_ret ?_ | refine good_cond ?_ | refine And.intro ?_ ?_ | intro _) <;> try simp (disch := first | assumption | omega) only [go_sem, Option.map, List.isEmpty, ↓reduceIte, Nat.reduceEqDiff, Nat.reduceAdd, Nat.reduceSub, Nat.reduceMul, Nat.reduceLT, Nat.reduceLeDiff, reduceCtorEq, Nat.reduceBEq, Nat.reduceBNe, Int.reduceNeg, Int.reduceLE, Int.reduceLT, Int.reduceToNat] | omega)
  refine good_loop_s (σ := List Nat × List (List Int) × Int) (fun s => [(0, .bsl O 0 n cc), (1, .int .i64 p), (5, .int .i64 s.2.2), (6, .int .i64 c), (7, .int .i64 i), (11, .int .i64 n), (12, .int .i64 c)])
    (fun s => matH h O s.1 n s.2.1) (fun s => Cl s.2.1 c i ∧ DW O ids0 A0 n p s.1 s.2.1 c s.2.2) (fun s => (ent s.2.1 i c).toNat) (ids, A, d) ?_ rfl ⟨hcl, hE⟩ ?_
  · simp (disch := first | assumption | omega) only [go_sem, Option.map, List.isEmpty, ↓reduceIte, Nat.reduceEqDiff, Nat.reduceAdd, Nat.reduceSub, Nat.reduceMul, Nat.reduceLT, Nat.reduceLeDiff, reduceCtorEq, Nat.reduceBEq, Nat.reduceBNe, Int.reduceNeg, Int.reduceLE, Int.reduceLT, Int.reduceToNat]; (try (refine ⟨?_, ?_⟩ <;> omega)); (try omega)
  clear hE hcl
  rintro ⟨ids, A, d⟩ ⟨hcl, hE⟩ mu3 hmu3
  dsimp only at hcl hE hmu3 ⊢
  have hok := hE.ok
  have hlen := hE.len
  have hil : ids.length = n := by rw [hok.len, hlen]
  have hwc := hE.wid c (by omega)
  have hwi := hE.wid i (by omega)
  have hin' : i < n := by omega
  by_cases hz : (A.getD i []).getD c 0 = 0
  · repeat' (first | (first | refine good_seq ?_ | refine good_reg false (fun K hK => ?_) | (refine runL_nil (hK _ _ ?_); clear hK K) | refine runL_none rfl (fun K2 hK2 => ?_) | refine runL_some rfl rfl (fun R S hR hS => ?_) | (refine hK2 _ _ ?_; clear hK2 K2) | (refine hK2 _ _ ?_ ?_ <;> clear hK2 K2) | (refine regW_nil (hK _ _ ?_); clear hK K) | (refine regW_load rfl rfl rfl (fun F1 F2 hF1 hF2 => ?_)) | (refine hF1 _ ?_ ?_ <;> clear hF1 hF2 F1 F2) | (refine hF2 _ _ (fun K2 hK2 => ?_); clear hF1 hF2 F1 F2) | refine regW_light rfl rfl rfl (fun _ _ => rfl) (fun K2 hK2 => ?_) | refine regW_lguard rfl rfl rfl rfl (fun _ _ => rfl) (fun R S hR hS => ?_) | refine regW_heavy rfl rfl (fun K2 hK2 => ?_) | with_reducible refine log_goal ?_ | (refine hR _ (fun K2 hK2 => ?_); clear hR hS R S) | (refine hS _ ?_; clear hR hS R S) | refine good_block ?_ | refine good_skip ?_ | refine good_exit ?_ | refine good_ret ?_ | refine good_cond ?_ | refine And.intro ?_ ?_ | intro _) <;> try simp (disch := first | assumption | omega) only [go_sem, Option.map, List.isEmpty, ↓reduceIte, Nat.reduceEqDiff, Nat.reduceAdd, Nat.reduceSub, Nat.reduceMul, Nat.reduceLT, Nat.reduceLeDiff, reduceCtorEq, Nat.reduceBEq, Nat.reduceBNe, Int.reduceNeg, Int.reduceLE, Int.reduceLT, Int.reduceToNat, hz] | ((first | fail) <;> try simp (disch := first | assumption | omega) only [go_sem, Option.map, List.isEmpty, ↓reduceIte, Nat.reduceEqDiff, Nat.reduceAdd, Nat.reduceSub, Nat.reduceMul, Nat.reduceLT, Nat.reduceLeDiff, reduceCtorEq, Nat.reduceBEq, Nat.reduceBNe, Int.reduceNeg, Int.reduceLE, Int.reduceLT, Int.reduceToNat, hz]) | omega)
    refine Again.to (ids, A, i + 1, d) ⟨⟨by show c < i + 1; omega, by show i + 1 ≤ n; omega⟩, hcl.next hz, hE⟩ (by show n - (i + 1) < mu2; omega) ?_ rfl
    simp (disch := first | assumption | omega) only [go_sem, Option.map, List.isEmpty, ↓reduceIte, Nat.reduceEqDiff, Nat.reduceAdd, Nat.reduceSub, Nat.reduceMul, Nat.reduceLT, Nat.reduceLeDiff, reduceCtorEq, Nat.reduceBEq, Nat.reduceBNe, Int.reduceNeg, Int.reduceLE, Int.reduceLT, Int.reduceToNat]; (try (refine ⟨?_, ?_⟩ <;> omega)); (try omega)
  have hrc := hE.rng c c (by omega) (by omega)
  have hri := hE.rng i c (by omega) (by omega)
  have hdb := hE.db
  have hq : 0 ≤ (A.getD c []).getD c 0 / (A.getD i []).getD c 0 ∧ (A.getD c []).getD c 0 / (A.getD i []).getD c 0 < p := euc_q hE.rng hlen hin' hci hz
  have hqt : ((A.getD c []).getD c 0).tdiv ((A.getD i []).getD c 0) = (A.getD c []).getD c 0 / (A.getD i []).getD c 0 := Int.tdiv_eq_ediv_of_nonneg hrc.1
  obtain ⟨q, hqe⟩ : ∃ q, q = (A.getD c []).getD c 0 / (A.getD i []).getD c 0 := ⟨_, rfl⟩
  rw [← hqe] at hq hqt
  repeat' (first | (first | refine good_seq ?_ | refine good_reg false (fun K hK => ?_) | (refine runL_nil (hK _ _ ?_); clear hK K) | refine runL_none rfl (fun K2 hK2 => ?_) | refine runL_some rfl rfl (fun R S hR hS => ?_) | (refine hK2 _ _ ?_; clear hK2 K2) | (refine hK2 _ _ ?_ ?_ <;> clear hK2 K2) | (refine regW_nil (hK _ _ ?_); clear hK K) | (refine regW_load rfl rfl rfl (fun F1 F2 hF1 hF2 => ?_)) | (refine hF1 _ ?_ ?_ <;> clear hF1 hF2 F1 F2) | (refine hF2 _ _ (fun K2 hK2 => ?_); clear hF1 hF2 F1 F2) | refine regW_light rfl rfl rfl (fun _ _ => rfl) (fun K2 hK2 => ?_) | refine regW_lguard rfl rfl rfl rfl (fun _ _ => rfl) (fun R S hR hS => ?_) | refine regW_heavy rfl rfl (fun K2 hK2 => ?_) | with_reducible refine log_goal ?_ | (refine hR _ (fun K2 hK2 => ?_); clear hR hS R S) | (refine hS _ ?_; clear hR hS R S) | refine good_block ?_ | refine good_skip ?_ | refine good_exit ?_ | refine good_ret ?_ | refine good_cond ?_ | refine And.intro ?_ ?_ | intro _) <;> try simp (disch := first | assumption | omega) only [go_sem, Option.map, List.isEmpty, ↓reduceIte, Nat.reduceEqDiff, Nat.reduceAdd, Nat.reduceSub, Nat.reduceMul, Nat.reduceLT, Nat.reduceLeDiff, reduceCtorEq, Nat.reduceBEq, Nat.reduceBNe, Int.reduceNeg, Int.reduceLE, Int.reduceLT, Int.reduceToNat, hqt] | ((first | refine good_drw (id := 9) mixed false [[], [], [0, 1], [0, 1, 2], [], [0, 1, 2, 3, 4], [0, 1, 2, 3, 4, 5], [], [], [7, 8], [7, 8, 9], [], [7, 8, 9, 10, 11], [7, 8, 9, 10, 11, 12], [0, 1, 2, 3, 4, 5, 6, 7, 8, 9, 10, 11, 12, 13], [0, 1, 2, 3, 4, 5, 6, 7, 8, 9, 10, 11, 12, 13, 14]] [0, 1, 2, 3, 4, 5, 6, 7, 8, 9, 10, 11, 12, 13, 14, 15] (by decide +kernel) (fun K hK => ?_) | refine good_drw (id := 13) mixed false [[], [], [0, 1], [0, 1, 2], [], [], [], [5, 6], [5, 6, 7], [], [5, 6, 7, 8, 9], [5, 6, 7, 8, 9, 10], [], [], [], [13, 14], [13, 14, 15], [], [13, 14, 15, 16, 17], [13, 14, 15, 16, 17, 18], [12, 13, 14, 15, 16, 17, 18, 19], [], [12, 13, 14, 15, 16, 17, 18, 19, 20, 21], [5, 6, 7, 8, 9, 10, 11, 12, 13, 14, 15, 16, 17, 18, 19, 20, 21, 22], [], [5, 6, 7, 8, 9, 10, 11, 12, 13, 14, 15, 16, 17, 18, 19, 20, 21, 22, 23, 24], [0, 1, 2, 3, 4, 5, 6, 7, 8, 9, 10, 11, 12, 13, 14, 15, 16, 17, 18, 19, 20, 21, 22, 23, 24, 25], [0, 1, 2, 3, 4, 5, 6, 7, 8, 9, 10, 11, 12, 13, 14, 15, 16, 17, 18, 19, 20, 21, 22, 23, 24, 25, 26]] [0, 1, 2, 3, 4, 5, 6, 7, 8, 9, 10, 11, 12, 13, 14, 15, 16, 17, 18, 19, 20, 21, 22, 23, 24, 25, 26, 27] (by decide +kernel) (fun K hK => ?_) | refine good_drw (id := 15) mixed false [[], [], [], [], [], [], [4, 5], [4, 5, 6], [], [], [8, 9], [8, 9, 10], [0, 1, 4, 5, 6, 7, 8, 9, 10, 11], [0, 1, 4, 5, 6, 7, 8, 9, 10, 11, 12], [0, 1, 2, 3, 4, 5, 6, 7, 8, 9, 10, 11, 12, 13], [0, 1, 2, 3, 4, 5, 6, 7, 8, 9, 10, 11, 12, 13, 14]] [0, 1, 2, 3, 4, 5, 6, 7, 8, 9, 10, 11, 12, 13, 14, 15] (by decide +kernel) (fun K hK => ?_)) <;> try simp (disch := first | assumption | omega) only [go_sem, Option.map, List.isEmpty, ↓reduceIte, Nat.reduceEqDiff, Nat.reduceAdd, Nat.reduceSub, Nat.reduceMul, Nat.reduceLT, Nat.reduceLeDiff, reduceCtorEq, Nat.reduceBEq, Nat.reduceBNe, Int.reduceNeg, Int.reduceLE, Int.reduceLT, Int.reduceToNat, hqt]) | omega)
  refine good_loop_s (σ := Nat) (fun k => [(0, .bsl O 0 n cc), (1, .int .i64 p), (5, .int .i64 d), (6, .int .i64 c), (7, .int .i64 i), (8, .int .i64 q), (11, .int .i64 n), (12, .int .i64 c), (47, .int .i64 n), (48, .int .i64 k)])
    (fun k => matH h O ids n (A.set c (upto (subG (A.getD c []) (A.getD i []) q p) (A.getD c []) k))) (fun k => k ≤ n) (fun k => n - k) 0 ?_ ?_ (Nat.zero_le _) ?_
  · simp (disch := first | assumption | omega) only [go_sem, Option.map, List.isEmpty, ↓reduceIte, Nat.reduceEqDiff, Nat.reduceAdd, Nat.reduceSub, Nat.reduceMul, Nat.reduceLT, Nat.reduceLeDiff, reduceCtorEq, Nat.reduceBEq, Nat.reduceBNe, Int.reduceNeg, Int.reduceLE, Int.reduceLT, Int.reduceToNat]; (try (refine ⟨?_, ?_⟩ <;> omega)); (try omega)
  · simp only [upto_zero]; rw [set_same (by omega)]
  intro k hk mu4 hmu4
  have hul := upto_length (subG (A.getD c []) (A.getD i []) q p) (A.getD c []) (k := k) (by omega)
  have hge := upto_ge (subG (A.getD c []) (A.getD i []) q p) (A.getD c []) (Nat.le_refl k)
  have hok2 := hok.set c (r := upto (subG (A.getD c []) (A.getD i []) q p) (A.getD c []) k) (by omega)
  have htp : (A.set c (upto (subG (A.getD c []) (A.getD i []) q p) (A.getD c []) k)).getD c [] = upto (subG (A.getD c []) (A.getD i []) q p) (A.getD c []) k := getD_setM _ _ _ (by omega)
  have hti : (A.set c (upto (subG (A.getD c []) (A.getD i []) q p) (A.getD c []) k)).getD i [] = A.getD i [] := getD_setNe [] A _ (by omega)
  have hdif := ids_inj hok (i := c) (j := i) (by omega) (by omega) (by omega)
  by_cases hkn : k < n
  · have c1 := hE.rng c k (by omega) hkn
    have c2 := hE.rng i k (by omega) hkn
    have c3 := mul_bd hp.2 hq c2
    have c4 : (q * (A.getD i []).getD k 0).tmod p = q * (A.getD i []).getD k 0 % p := tmod_nn c3.1
    have c5 := Int.emod_nonneg (q * (A.getD i []).getD k 0) (show p ≠ 0 by omega)
    have c6 := Int.emod_lt_of_pos (q * (A.getD i []).getD k 0) (show 0 < p by omega)
    repeat' (first | (first | refine good_seq ?_ | refine good_reg false (fun K hK => ?_) | (refine runL_nil (hK _ _ ?_); clear hK K) | refine runL_none rfl (fun K2 hK2 => ?_) | refine runL_some rfl rfl (fun R S hR hS => ?_) | (refine hK2 _ _ ?_; clear hK2 K2) | (refine hK2 _ _ ?_ ?_ <;> clear hK2 K2) | (refine regW_nil (hK _ _ ?_); clear hK K) | (refine regW_load rfl rfl rfl (fun F1 F2 hF1 hF2 => ?_)) | (refine hF1 _ ?_ ?_ <;> clear hF1 hF2 F1 F2) | (refine hF2 _ _ (fun K2 hK2 => ?_); clear hF1 hF2 F1 F2) | refine regW_light rfl rfl rfl (fun _ _ => rfl) (fun K2 hK2 => ?_) | refine regW_lguard rfl rfl rfl rfl (fun _ _ => rfl) (fun R S hR hS => ?_) | refine regW_heavy rfl rfl (fun K2 hK2 => ?_) | with_reducible refine log_goal ?_ | (refine hR _ (fun K2 hK2 => ?_); clear hR hS R S) | (refine hS _ ?_; clear hR hS R S) | refine good_block ?_ | refine good_skip ?_ | refine good_exit ?_ | refine good_ret ?_ | refine good_cond ?_ | refine And.intro ?_ ?_ | intro _) <;> try simp (disch := first | assumption | omega) only [go_sem, Option.map, List.isEmpty, ↓reduceIte, Nat.reduceEqDiff, Nat.reduceAdd, Nat.reduceSub, Nat.reduceMul, Nat.reduceLT, Nat.reduceLeDiff, reduceCtorEq, Nat.reduceBEq, Nat.reduceBNe, Int.reduceNeg, Int.reduceLE, Int.reduceLT, Int.reduceToNat, htp, hti, hge, c4, List.set_set] | ((first | refine good_drw (id := 9) mixed false [[], [], [0, 1], [0, 1, 2], [], [0, 1, 2, 3, 4], [0, 1, 2, 3, 4, 5], [], [], [7, 8], [7, 8, 9], [], [7, 8, 9, 10, 11], [7, 8, 9, 10, 11, 12], [0, 1, 2, 3, 4, 5, 6, 7, 8, 9, 10, 11, 12, 13], [0, 1, 2, 3, 4, 5, 6, 7, 8, 9, 10, 11, 12, 13, 14]] [0, 1, 2, 3, 4, 5, 6, 7, 8, 9, 10, 11, 12, 13, 14, 15] (by decide +kernel) (fun K hK => ?_) | refine good_drw (id := 13) mixed false [[], [], [0, 1], [0, 1, 2], [], [], [], [5, 6], [5, 6, 7], [], [5, 6, 7, 8, 9], [5, 6, 7, 8, 9, 10], [], [], [], [13, 14], [13, 14, 15], [], [13, 14, 15, 16, 17], [13, 14, 15, 16, 17, 18], [12, 13, 14, 15, 16, 17, 18, 19], [], [12, 13, 14, 15, 16, 17, 18, 19, 20, 21], [5, 6, 7, 8, 9, 10, 11, 12, 13, 14, 15, 16, 17, 18, 19, 20, 21, 22], [], [5, 6, 7, 8, 9, 10, 11, 12, 13, 14, 15, 16, 17, 18, 19, 20, 21, 22, 23, 24], [0, 1, 2, 3, 4, 5, 6, 7, 8, 9, 10, 11, 12, 13, 14, 15, 16, 17, 18, 19, 20, 21, 22, 23, 24, 25], [0, 1, 2, 3, 4, 5, 6, 7, 8, 9, 10, 11, 12, 13, 14, 15, 16, 17, 18, 19, 20, 21, 22, 23, 24, 25, 26]] [0, 1, 2, 3, 4, 5, 6, 7, 8, 9, 10, 11, 12, 13, 14, 15, 16, 17, 18, 19, 20, 21, 22, 23, 24, 25, 26, 27] (by decide +kernel) (fun K hK => ?_) | refine good_drw (id := 15) mixed false [[], [], [], [], [], [], [4, 5], [4, 5, 6], [], [], [8, 9], [8, 9, 10], [0, 1, 4, 5, 6, 7, 8, 9, 10, 11], [0, 1, 4, 5, 6, 7, 8, 9, 10, 11, 12], [0, 1, 2, 3, 4, 5, 6, 7, 8, 9, 10, 11, 12, 13], [0, 1, 2, 3, 4, 5, 6, 7, 8, 9, 10, 11, 12, 13, 14]] [0, 1, 2, 3, 4, 5, 6, 7, 8, 9, 10, 11, 12, 13, 14, 15] (by decide +kernel) (fun K hK => ?_) | (refine ACalls.mono (c_residue _ _ (by omega) _) (fun v h' hv => ?_); obtain ⟨rfl, rfl⟩ := hv)) <;> try simp (disch := first | assumption | omega) only [go_sem, Option.map, List.isEmpty, ↓reduceIte, Nat.reduceEqDiff, Nat.reduceAdd, Nat.reduceSub, Nat.reduceMul, Nat.reduceLT, Nat.reduceLeDiff, reduceCtorEq, Nat.reduceBEq, Nat.reduceBNe, Int.reduceNeg, Int.reduceLE, Int.reduceLT, Int.reduceToNat, htp, hti, hge, c4, List.set_set]) | omega)
    refine Again.to (k + 1) (by omega) (by omega) ?_ ?_
    · simp (disch := first | assumption | omega) only [go_sem, Option.map, List.isEmpty, ↓reduceIte, Nat.reduceEqDiff, Nat.reduceAdd, Nat.reduceSub, Nat.reduceMul, Nat.reduceLT, Nat.reduceLeDiff, reduceCtorEq, Nat.reduceBEq, Nat.reduceBNe, Int.reduceNeg, Int.reduceLE, Int.reduceLT, Int.reduceToNat]; (try (refine ⟨?_, ?_⟩ <;> omega)); (try omega)
    · rw [← upto_set (subG (A.getD c []) (A.getD i []) q p) (A.getD c []) (by omega)]; rfl
  have hke : k = n := by omega
  subst hke
  obtain ⟨A1, hA1⟩ : ∃ x, x = A.set c (upto (subG (A.getD c []) (A.getD i []) q p) (A.getD c []) k) := ⟨_, rfl⟩
  have hA1' : A1 = A.set c (eucR p k A c i) := by rw [hA1, upto_full _ _ hwc, hqe]; rfl
  obtain ⟨ids2, hids2⟩ : ∃ x, x = swp 0 ids c i := ⟨_, rfl⟩
  obtain ⟨A2, hA2⟩ : ∃ x, x = swp [] A1 c i := ⟨_, rfl⟩
  have hA2' : A2 = eucA p k A c i := by rw [hA2, hA1']; rfl
  rw [← hA1] at hok2 ⊢
  have hA1l : A1.length = k := by rw [hA1, List.length_set, hlen]
  have hsw : (matH h O ids k A1).put O (((rowsC ids k).set c (.bsl (ids.getD i 0) 0 k .ro)).set i (.bsl (ids.getD c 0) 0 k .ro)) = matH h O ids2 k A2 := by rw [hids2, hA2]; exact matH_swp hok2 (by omega) (by omega)
  have hE2 : DW O ids0 A0 k p ids2 A2 c (p - d) := ⟨by rw [hids2, hA2]; exact hok2.swp (by omega) (by omega), fun b hb => hE.sub b (by rw [hids2] at hb; exact swp_mem 0 ids (by omega) (by omega) hb), by rw [hA2', euc_length, hlen], by rw [hA2']; exact hE.rng.euc hp.1 hlen hin' hci, by rw [hA2']; exact hE.wid.euc hlen hin' hci, by omega, by rw [hA2']; exact hE.inv.euc hlen hin' hci⟩
  have hless : (ent A2 i c).toNat < mu3 := by rw [hA2', hmu3]; exact euc_less hE.rng hp.1 hlen hin' hci hz
  have hcl2 : Cl A2 c i := by rw [hA2']; exact hcl.euc hlen hin' hci
  repeat' (first | (first | refine good_seq ?_ | refine good_reg false (fun K hK => ?_) | (refine runL_nil (hK _ _ ?_); clear hK K) | refine runL_none rfl (fun K2 hK2 => ?_) | refine runL_some rfl rfl (fun R S hR hS => ?_) | (refine hK2 _ _ ?_; clear hK2 K2) | (refine hK2 _ _ ?_ ?_ <;> clear hK2 K2) | (refine regW_nil (hK _ _ ?_); clear hK K) | (refine regW_load rfl rfl rfl (fun F1 F2 hF1 hF2 => ?_)) | (refine hF1 _ ?_ ?_ <;> clear hF1 hF2 F1 F2) | (refine hF2 _ _ (fun K2 hK2 => ?_); clear hF1 hF2 F1 F2) | refine regW_light rfl rfl rfl (fun _ _ => rfl) (fun K2 hK2 => ?_) | refine regW_lguard rfl rfl rfl rfl (fun _ _ => rfl) (fun R S hR hS => ?_) | refine regW_heavy rfl rfl (fun K2 hK2 => ?_) | with_reducible refine log_goal ?_ | (refine hR _ (fun K2 hK2 => ?_); clear hR hS R S) | (refine hS _ ?_; clear hR hS R S) | refine good_block ?_ | refine good_skip ?_ | refine good_exit ?_ | refine good_ret ?_ | refine good_cond ?_ | refine And.intro ?_ ?_ | intro _) <;> try simp (disch := first | assumption | omega) only [go_sem, Option.map, List.isEmpty, ↓reduceIte, Nat.reduceEqDiff, Nat.reduceAdd, Nat.reduceSub, Nat.reduceMul, Nat.reduceLT, Nat.reduceLeDiff, reduceCtorEq, Nat.reduceBEq, Nat.reduceBNe, Int.reduceNeg, Int.reduceLE, Int.reduceLT, Int.reduceToNat, hsw] | ((first | refine good_drw (id := 9) mixed false [[], [], [0, 1], [0, 1, 2], [], [0, 1, 2, 3, 4], [0, 1, 2, 3, 4, 5], [], [], [7, 8], [7, 8, 9], [], [7, 8, 9, 10, 11], [7, 8, 9, 10, 11, 12], [0, 1, 2, 3, 4, 5, 6, 7, 8, 9, 10, 11, 12, 13], [0, 1, 2, 3, 4, 5, 6, 7, 8, 9, 10, 11, 12, 13, 14]] [0, 1, 2, 3, 4, 5, 6, 7, 8, 9, 10, 11, 12, 13, 14, 15] (by decide +kernel) (fun K hK => ?_) | refine good_drw (id := 13) mixed false [[], [], [0, 1], [0, 1, 2], [], [], [], [5, 6], [5, 6, 7], [], [5, 6, 7, 8, 9], [5, 6, 7, 8, 9, 10], [], [], [], [13, 14], [13, 14, 15], [], [13, 14, 15, 16, 17], [13, 14, 15, 16, 17, 18], [12, 13, 14, 15, 16, 17, 18, 19], [], [12, 13, 14, 15, 16, 17, 18, 19, 20, 21], [5, 6, 7, 8, 9, 10, 11, 12, 13, 14, 15, 16, 17, 18, 19, 20, 21, 22], [], [5, 6, 7, 8, 9, 10, 11, 12, 13, 14, 15, 16, 17, 18, 19, 20, 21, 22, 23, 24], [0, 1, 2, 3, 4, 5, 6, 7, 8, 9, 10, 11, 12, 13, 14, 15, 16, 17, 18, 19, 20, 21, 22, 23, 24, 25], [0, 1, 2, 3, 4, 5, 6, 7, 8, 9, 10, 11, 12, 13, 14, 15, 16, 17, 18, 19, 20, 21, 22, 23, 24, 25, 26]] [0, 1, 2, 3, 4, 5, 6, 7, 8, 9, 10, 11, 12, 13, 14, 15, 16, 17, 18, 19, 20, 21, 22, 23, 24, 25, 26, 27] (by decide +kernel) (fun K hK => ?_) | refine good_drw (id := 15) mixed false [[], [], [], [], [], [], [4, 5], [4, 5, 6], [], [], [8, 9], [8, 9, 10], [0, 1, 4, 5, 6, 7, 8, 9, 10, 11], [0, 1, 4, 5, 6, 7, 8, 9, 10, 11, 12], [0, 1, 2, 3, 4, 5, 6, 7, 8, 9, 10, 11, 12, 13], [0, 1, 2, 3, 4, 5, 6, 7, 8, 9, 10, 11, 12, 13, 14]] [0, 1, 2, 3, 4, 5, 6, 7, 8, 9, 10, 11, 12, 13, 14, 15] (by decide +kernel) (fun K hK => ?_)) <;> try simp (disch := first | assumption | omega) only [go_sem, Option.map, List.isEmpty, ↓reduceIte, Nat.reduceEqDiff, Nat.reduceAdd, Nat.reduceSub, Nat.reduceMul, Nat.reduceLT, Nat.reduceLeDiff, reduceCtorEq, Nat.reduceBEq, Nat.reduceBNe, Int.reduceNeg, Int.reduceLE, Int.reduceLT, Int.reduceToNat, hsw]) | omega)
  refine Again.to (ids2, A2, p - d) ⟨hcl2, hE2⟩ hless ?_ rfl
  simp (disch := first | assumption | omega) only [go_sem, Option.map, List.isEmpty, ↓reduceIte, Nat.reduceEqDiff, Nat.reduceAdd, Nat.reduceSub, Nat.reduceMul, Nat.reduceLT, Nat.reduceLeDiff, reduceCtorEq, Nat.reduceBEq, Nat.reduceBNe, Int.reduceNeg, Int.reduceLE, Int.reduceLT, Int.reduceToNat]; (try (refine ⟨?_, ?_⟩ <;> omega)); (try omega)
end Go.Eng
open Go Go.Proofs
set_option linter.unusedVariables false
set_option linter.unusedSimpArgs false
set_option maxRecDepth 4000
set_option maxHeartbeats 40000000
namespace Go.Eng
attribute [local irreducible] Good ACalls runL regW stepW opW gdV' gdD condW gifW binW arW loadW storeW idxAW lenW appW appBW cutW onSome onBnd callW fldAW Again thenQ blockQ resW endQ Up loadR
/-! ### Det -/
theorem emod_of_dvd {p x y : Int} (h : p ∣ x - y) : x % p = y % p := Int.emod_eq_emod_iff_emod_sub_eq_zero.2 (Int.emod_eq_zero_of_dvd h)
theorem dvd_of_emod {p x y : Int} (h : x % p = y % p) : p ∣ x - y := Int.dvd_of_emod_eq_zero (Int.emod_eq_emod_iff_emod_sub_eq_zero.1 h)
theorem SquareP.wid {a : List (List Int)} (h : SquareP a) : Wid a.length a := fun i hi => by rw [h.1.2.2.2.2 i hi, h.2.1]
theorem red_wid {a : List (List Int)} {n : Nat} (hw : Wid n a) (m : Int) : Wid n (redM a m) := fun i hi => by
  rw [redM_length] at hi
  rw [redM_get a m i hi, List.length_map]; exact hw i hi
theorem red_ent {a : List (List Int)} {n : Nat} (hw : Wid n a) (m : Int) {i j : Nat} (hi : i < a.length) (hj : j < n) : ent (redM a m) i j = ent a i j % m := redM_ent a m i j hi (by rw [hw i hi]; exact hj)
theorem red_in {a : List (List Int)} {n : Nat} (hw : Wid n a) {m : Int} (hm : 2 ≤ m) : InR m n (redM a m) := fun i j hi hj => by
  rw [redM_length] at hi
  have := red_ent hw m hi hj
  unfold ent at this
  rw [this]; exact ⟨Int.emod_nonneg _ (by omega), Int.emod_lt_of_pos _ (by omega)⟩
theorem det_red {a : List (List Int)} {n : Nat} (hl : a.length = n) (hw : Wid n a) (m : Int) : det n (ent (redM a m)) % m = det n (ent a) % m :=
  emod_of_dvd (det_mod n _ _ fun i j hi hj => by rw [red_ent hw m (by omega) hj]; exact emod_dvd _ m)
/-- determinant on a matrix just made. -/
theorem c_detP (A0 : List (List Int)) (n : Nat) (p : Int) (h : AH) (hp : 2 ≤ p ∧ p ≤ 2147483647) (hl : A0.length = n) (hw : Wid n A0) (hn : 1 ≤ n ∧ n ≤ 1000000) (hR : InR p n A0) :
    ACalls Try.prog 49 [.bsl h.n 0 n .full, .int .i64 p] (pmH h n n A0) (fun v h' => v = .int .i64 (det n (ent A0) % p) ∧ Ext h h') := by
  subst hl
  refine ACalls.heap (HUp.pm (wid_mem hw)) ?_
  refine ACalls.mono (c_determinant h.n (idsOf h.n A0.length) A0 A0.length p .full { h with n := h.n + 1 + A0.length } hp (pm_ok (wid_mem hw)) rfl hn hR) fun v h' hv => ?_
  obtain ⟨d, ids, A, rfl, h1, rfl, rfl, h2, h3⟩ := hv
  refine ⟨rfl, ?_⟩
  refine ⟨by show h.n ≤ h.n + 1 + A0.length; omega, Nat.le_refl _, fun b hb => ?_, fun _ _ => rfl⟩
  rw [mh_other (by omega) (fun hm => by have := mem_idsOf.1 (h3 b hm); omega)]
def detR (a : List (List Int)) (m : Int) : Int := if SquareP a ∧ modB m = true then det a.length (ent a) % m else 0
def detE (a : List (List Int)) (m : Int) : Int := if SquareP a then (if modB m = true then 0 else 1) else 3
theorem c_Det (a : List (List Int)) (m : Int) (h : AH) : ACalls Try.prog 30 [matV a, .int .i64 m] h (fun v h' => v = .tup [.int .i64 (detR a m), .int .i64 (detE a m)] ∧ h' = h) := by
  by_cases hs : SquareP a
  · by_cases hm : modB m = true
    · have hmm := modB_spec hm
      have hw := hs.wid
      have hs1 := hs.1.1
      have hs2 := hs.2.2
      have hrl := redM_length a m
      have hrw := red_wid hw m
      have hri := red_in hw hmm.1
      have hdr := det_red rfl hw m
      have hdb := And.intro (Int.emod_nonneg (det a.length (ent (redM a m))) (show m ≠ 0 by omega)) (Int.emod_lt_of_pos (det a.length (ent (redM a m))) (show 0 < m by omega))
      have htm : (det a.length (ent (redM a m)) % m).tmod m = det a.length (ent a) % m := by rw [tmod_nn hdb.1, Int.emod_eq_of_lt hdb.1 hdb.2]; exact hdr
      rw [show detR a m = det a.length (ent a) % m by simp [detR, hs, hm], show detE a m = 0 by simp [detE, hs, hm]]
      refine ACalls.still ?_
      refine acalls_of_good 2 19 [.tmp 4, .tmp 5] Try.func30 rfl rfl (by kernel_rfl) rfl rfl (by decide) ?_
      simp (disch := first | assumption | omega) only [go_sem, Option.map, List.isEmpty, ↓reduceIte, Nat.reduceEqDiff, Nat.reduceAdd, Nat.reduceSub, Nat.reduceMul, Nat.reduceLT, Nat.reduceLeDiff, reduceCtorEq, Nat.reduceBEq, Nat.reduceBNe, Int.reduceNeg, Int.reduceLE, Int.reduceLT, Int.reduceToNat]
      repeat' (first | (first | refine good_seq ?_ | refine good_reg false (fun K hK => ?_) | (refine runL_nil (hK _ _ ?_); clear hK K) | refine runL_none rfl (fun K2 hK2 => ?_) | refine runL_some rfl rfl (fun R S hR hS => ?_) | (refine hK2 _ _ ?_; clear hK2 K2) | (refine hK2 _ _ ?_ ?_ <;> clear hK2 K2) | (refine regW_nil (hK _ _ ?_); clear hK K) | (refine regW_load rfl rfl rfl (fun F1 F2 hF1 hF2 => ?_)) | (refine hF1 _ ?_ ?_ <;> clear hF1 hF2 F1 F2) | (refine hF2 _ _ (fun K2 hK2 => ?_); clear hF1 hF2 F1 F2) | refine regW_light rfl rfl rfl (fun _ _ => rfl) (fun K2 hK2 => ?_) | refine regW_lguard rfl rfl rfl rfl (fun _ _ => rfl) (fun R S hR hS => ?_) | refine regW_heavy rfl rfl (fun K2 hK2 => ?_) | with_reducible refine log_goal ?_ | (refine hR _ (fun K2 hK2 => ?_); clear hR hS R S) | (refine hS _ ?_; clear hR hS R S) | refine good_block ?_ | refine good_skip ?_ | refine good_exit ?_ | refine good_ret ?_ | refine good_cond ?_ | refine And.intro ?_ ?_ | intro _) <;> try simp (disch := first | assumption | omega) only [go_sem, Option.map, List.isEmpty, ↓reduceIte, Nat.reduceEqDiff, Nat.reduceAdd, Nat.reduceSub, Nat.reduceMul, Nat.reduceLT, Nat.reduceLeDiff, reduceCtorEq, Nat.reduceBEq, Nat.reduceBNe, Int.reduceNeg, Int.reduceLE, Int.reduceLT, Int.reduceToNat, htm] | ((first | (refine ACalls.mono (c_square a _) (fun v h' hv' => ?_); obtain ⟨rfl, rfl⟩ := hv'; rw [decide_eq_true hs]) | (refine ACalls.mono (c_modulus _ _) (fun v h' hv' => ?_); obtain ⟨rfl, rfl⟩ := hv'; rw [hm]) | (refine ACalls.mono (c_reduced a a.length m (by omega) (by omega) hw _) (fun v h' hv' => ?_); obtain ⟨rfl, hh⟩ := hv'; rw [show (a.map fun r => r.map (· % m)) = redM a m from rfl] at hh; subst hh) | (refine ACalls.mono (c_detP (redM a m) a.length m _ (by omega) hrl hrw (by omega) hri) (fun v h' hv' => ?_); obtain ⟨rfl, hx⟩ := hv')) <;> try simp (disch := first | assumption | omega) only [go_sem, Option.map, List.isEmpty, ↓reduceIte, Nat.reduceEqDiff, Nat.reduceAdd, Nat.reduceSub, Nat.reduceMul, Nat.reduceLT, Nat.reduceLeDiff, reduceCtorEq, Nat.reduceBEq, Nat.reduceBNe, Int.reduceNeg, Int.reduceLE, Int.reduceLT, Int.reduceToNat, htm]) | omega)
      · simp only [roA, roL]; exact Up.refl _
      · simp [pur, purL]
    · have hm' : modB m = false := by simpa using hm
      rw [show detR a m = 0 by simp [detR, hs, hm], show detE a m = 1 by simp [detE, hs, hm]]
      refine acalls_of_good 2 19 [.tmp 4, .tmp 5] Try.func30 rfl rfl (by kernel_rfl) rfl rfl (by decide) ?_
      simp (disch := first | assumption | omega) only [go_sem, Option.map, List.isEmpty, ↓reduceIte, Nat.reduceEqDiff, Nat.reduceAdd, Nat.reduceSub, Nat.reduceMul, Nat.reduceLT, Nat.reduceLeDiff, reduceCtorEq, Nat.reduceBEq, Nat.reduceBNe, Int.reduceNeg, Int.reduceLE, Int.reduceLT, Int.reduceToNat]
      repeat' (first | (first | refine good_seq ?_ | refine good_reg false (fun K hK => ?_) | (refine runL_nil (hK _ _ ?_); clear hK K) | refine runL_none rfl (fun K2 hK2 => ?_) | refine runL_some rfl rfl (fun R S hR hS => ?_) | (refine hK2 _ _ ?_; clear hK2 K2) | (refine hK2 _ _ ?_ ?_ <;> clear hK2 K2) | (refine regW_nil (hK _ _ ?_); clear hK K) | (refine regW_load rfl rfl rfl (fun F1 F2 hF1 hF2 => ?_)) | (refine hF1 _ ?_ ?_ <;> clear hF1 hF2 F1 F2) | (refine hF2 _ _ (fun K2 hK2 => ?_); clear hF1 hF2 F1 F2) | refine regW_light rfl rfl rfl (fun _ _ => rfl) (fun K2 hK2 => ?_) | refine regW_lguard rfl rfl rfl rfl (fun _ _ => rfl) (fun R S hR hS => ?_) | refine regW_heavy rfl rfl (fun K2 hK2 => ?_) | with_reducible refine log_goal ?_ | (refine hR _ (fun K2 hK2 => ?_); clear hR hS R S) | (refine hS _ ?_; clear hR hS R S) | refine good_block ?_ | refine good_skip ?_ | refine good_exit ?_ | refine good_ret ?_ | refine good_cond ?_ | refine And.intro ?_ ?_ | intro _) <;> try simp (disch := first | assumption | omega) only [go_sem, Option.map, List.isEmpty, ↓reduceIte, Nat.reduceEqDiff, Nat.reduceAdd, Nat.reduceSub, Nat.reduceMul, Nat.reduceLT, Nat.reduceLeDiff, reduceCtorEq, Nat.reduceBEq, Nat.reduceBNe, Int.reduceNeg, Int.reduceLE, Int.reduceLT, Int.reduceToNat] | ((first | (refine ACalls.mono (c_square a _) (fun v h' hv' => ?_); obtain ⟨rfl, rfl⟩ := hv'; rw [decide_eq_true hs]) | (refine ACalls.mono (c_modulus _ _) (fun v h' hv' => ?_); obtain ⟨rfl, rfl⟩ := hv'; rw [hm'])) <;> try simp (disch := first | assumption | omega) only [go_sem, Option.map, List.isEmpty, ↓reduceIte, Nat.reduceEqDiff, Nat.reduceAdd, Nat.reduceSub, Nat.reduceMul, Nat.reduceLT, Nat.reduceLeDiff, reduceCtorEq, Nat.reduceBEq, Nat.reduceBNe, Int.reduceNeg, Int.reduceLE, Int.reduceLT, Int.reduceToNat]) | omega)
  · rw [show detR a m = 0 by simp [detR, hs], show detE a m = 3 by simp [detE, hs]]
    refine acalls_of_good 2 19 [.tmp 4, .tmp 5] Try.func30 rfl rfl (by kernel_rfl) rfl rfl (by decide) ?_
    simp (disch := first | assumption | omega) only [go_sem, Option.map, List.isEmpty, ↓reduceIte, Nat.reduceEqDiff, Nat.reduceAdd, Nat.reduceSub, Nat.reduceMul, Nat.reduceLT, Nat.reduceLeDiff, reduceCtorEq, Nat.reduceBEq, Nat.reduceBNe, Int.reduceNeg, Int.reduceLE, Int.reduceLT, Int.reduceToNat]
    repeat' (first | (first | refine good_seq ?_ | refine good_reg false (fun K hK => ?_) | (refine runL_nil (hK _ _ ?_); clear hK K) | refine runL_none rfl (fun K2 hK2 => ?_) | refine runL_some rfl rfl (fun R S hR hS => ?_) | (refine hK2 _ _ ?_; clear hK2 K2) | (refine hK2 _ _ ?_ ?_ <;> clear hK2 K2) | (refine regW_nil (hK _ _ ?_); clear hK K) | (refine regW_load rfl rfl rfl (fun F1 F2 hF1 hF2 => ?_)) | (refine hF1 _ ?_ ?_ <;> clear hF1 hF2 F1 F2) | (refine hF2 _ _ (fun K2 hK2 => ?_); clear hF1 hF2 F1 F2) | refine regW_light rfl rfl rfl (fun _ _ => rfl) (fun K2 hK2 => ?_) | refine regW_lguard rfl rfl rfl rfl (fun _ _ => rfl) (fun R S hR hS => ?_) | refine regW_heavy rfl rfl (fun K2 hK2 => ?_) | with_reducible refine log_goal ?_ | (refine hR _ (fun K2 hK2 => ?_); clear hR hS R S) | (refine hS _ ?_; clear hR hS R S) | refine good_block ?_ | refine good_skip ?_ | refine good_exit ?_ | refine good_ret ?_ | refine good_cond ?_ | refine And.intro ?_ ?_ | intro _) <;> try simp (disch := first | assumption | omega) only [go_sem, Option.map, List.isEmpty, ↓reduceIte, Nat.reduceEqDiff, Nat.reduceAdd, Nat.reduceSub, Nat.reduceMul, Nat.reduceLT, Nat.reduceLeDiff, reduceCtorEq, Nat.reduceBEq, Nat.reduceBNe, Int.reduceNeg, Int.reduceLE, Int.reduceLT, Int.reduceToNat] | ((first | (refine ACalls.mono (c_square a _) (fun v h' hv' => ?_); obtain ⟨rfl, rfl⟩ := hv'; rw [decide_eq_false hs])) <;> try simp (disch := first | assumption | omega) only [go_sem, Option.map, List.isEmpty, ↓reduceIte, Nat.reduceEqDiff, Nat.reduceAdd, Nat.reduceSub, Nat.reduceMul, Nat.reduceLT, Nat.reduceLeDiff, reduceCtorEq, Nat.reduceBEq, Nat.reduceBNe, Int.reduceNeg, Int.reduceLE, Int.reduceLT, Int.reduceToNat]) | omega)
/-! ### products -/
theorem ent_prodM {a b : List (List Int)} {m : Int} {n : Nat} (ha : a.length = n) (hb : b.length = n) (hw : Wid n b) {i j : Nat} (hi : i < n) (hj : j < n) : m ∣ ent (prodM a b m) i j - mxM n (ent a) (ent b) i j := by
  have hd : ent (prodM a b m) i j = dotm a b m i j n := by
    unfold ent prodM
    rw [map_range_getL _ (by omega), map_range_get _ (by rw [hw 0 (by omega)]; exact hj), hb]
  rw [hd]; exact dotm_sum i j n
theorem det_prodM {a b : List (List Int)} {m : Int} {n : Nat} (ha : a.length = n) (hb : b.length = n) (hw : Wid n b) : det n (ent (prodM a b m)) % m = det n (ent a) * det n (ent b) % m := by
  rw [← det_mul]
  exact emod_of_dvd (det_mod n _ _ fun i j hi hj => ent_prodM ha hb hw hi hj)
theorem prod_wid {a b : List (List Int)} {m : Int} {n : Nat} (hb : b.length = n) (hw : Wid n b) (hn : 0 < n) : Wid n (prodM a b m) := fun i hi => prodM_rows (hw 0 (by omega)) _ (mem_getD hi)
theorem ent_transM {t : List (List Int)} {n : Nat} (ht : t.length = n) (hw : Wid n t) {i j : Nat} (hi : i < n) (hj : j < n) : ent (transM t) i j = ent t j i := by
  unfold ent
  rw [trans_row (by rw [hw 0 (by omega)]; exact hi), col_get (by omega)]
theorem det_transM {t : List (List Int)} {n : Nat} (ht : t.length = n) (hw : Wid n t) : det n (ent (transM t)) = det n (ent t) := by
  rw [← det_trn n (ent t)]
  exact det_congr fun i j hi hj => ent_transM ht hw hi hj
theorem SquareP.of {a : List (List Int)} {n : Nat} (hl : a.length = n) (hw : Wid n a) (hn : 1 ≤ n ∧ n ≤ 8) : SquareP a := by
  have h0 := hw 0 (by omega)
  exact ⟨⟨by omega, by omega, by omega, by omega, fun i hi => by rw [hw i hi, h0]⟩, by omega, by omega⟩
theorem detR_of {a : List (List Int)} {n : Nat} {m : Int} (hl : a.length = n) (hw : Wid n a) (hn : 1 ≤ n ∧ n ≤ 8) (hm : modB m = true) : detR a m = det n (ent a) % m ∧ detE a m = 0 := by
  have hs := SquareP.of hl hw hn
  subst hl
  exact ⟨by simp [detR, hs, hm], by simp [detE, hs, hm]⟩
/-- Determinants of a product and of a congruent matrix. -/
theorem det_laws {A B : List (List Int)} {n : Nat} {m : Int} (hA : A.length = n) (hwA : Wid n A) (hB : B.length = n) (hwB : Wid n B) (hn : 1 ≤ n ∧ n ≤ 8) (hm : modB m = true) :
    detR (mulM A B m) m = detR A m * detR B m % m ∧ detR (congM A B m) m = detR (mulM A B m) m * detR B m % m ∧ detE (mulM A B m) m = 0 ∧ detE (congM A B m) m = 0 ∧ detE A m = 0 ∧ detE B m = 0 ∧ mulE A B m = 0 ∧ congE A B m = 0 := by
  have sA := SquareP.of hA hwA hn
  have sB := SquareP.of hB hwB hn
  have hmP : mulP A B := ⟨sA.1, sB.1, by rw [hwA 0 (by omega)]; omega⟩
  have hcP : congP A B := ⟨sA.1, sB.1, by rw [hwA 0 (by omega)]; omega, by omega⟩
  have e1 : mulM A B m = prodM (redM A m) (redM B m) m := by simp [mulM, hmP, hm]
  have e2 : congM A B m = prodM (transM (redM B m)) (prodM (redM A m) (redM B m) m) m := by simp [congM, hcP, hm]
  have hrA := redM_length A m
  have hrB := redM_length B m
  have wB := red_wid hwB m
  have pl : (prodM (redM A m) (redM B m) m).length = n := by rw [prodM_length]; omega
  have pw : Wid n (prodM (redM A m) (redM B m) m) := prod_wid (by omega) wB (by omega)
  have tl : (transM (redM B m)).length = n := by rw [trans_length, wB 0 (by omega)]
  have ql : (prodM (transM (redM B m)) (prodM (redM A m) (redM B m) m) m).length = n := by rw [prodM_length]; exact tl
  have qw : Wid n (prodM (transM (redM B m)) (prodM (redM A m) (redM B m) m) m) := prod_wid pl pw (by omega)
  obtain ⟨dA, eA⟩ := detR_of hA hwA hn hm
  obtain ⟨dB, eB⟩ := detR_of hB hwB hn hm
  obtain ⟨dP, eP⟩ := detR_of pl pw hn hm
  obtain ⟨dQ, eQ⟩ := detR_of ql qw hn hm
  have f1 : detR (mulM A B m) m = detR A m * detR B m % m := by
    rw [e1, dP, det_prodM (by omega) (by omega) wB, dA, dB, Int.mul_emod, det_red hA hwA m, det_red hB hwB m]
  refine ⟨f1, ?_, by rw [e1]; exact eP, by rw [e2]; exact eQ, eA, eB, by simp [mulE, hmP, hm], by simp [congE, hcP, hm]⟩
  rw [e2, dQ, det_prodM tl pl pw, det_transM (by omega) wB, e1, dP, dB, Int.mul_comm, Int.mul_emod, det_red hB hwB m]
theorem l_DetProduct (xr xc : Int) (xn : List Int) (yr yc : Int) (yn : List Int) (k : Int) (hx : GridOk xr xc xn) (hy : GridOk yr yc yn) (hk : 0 ≤ k ∧ k ≤ 65535) (h : AH) :
    ACalls Try.prog 14 [gridV xr xc xn, gridV yr yc yn, .int .u16 k] h (fun v h' => v = .bool true ∧ True) := by
  have hmB : ∀ ns, memA (byteV ns) = true := fun ns => rfl
  have hcB : ∀ ns, cellsA (byteV ns) = [byteV ns] := fun ns => rfl
  have hoB : ∀ ns, oneA (byteV ns) = true := fun ns => rfl
  have hd : ∀ p q r : AV, ([p, q, r].drop 0).take 3 = [p, q, r] := fun p q r => rfl
  have hee : ∀ x : Int, ((x == x) : Bool) = true := fun x => by simp
  obtain ⟨m, hm⟩ : ∃ x, x = 2 + k := ⟨_, rfl⟩
  have hmB2 : modB m = true := by simp [modB]; omega
  obtain ⟨A, hA⟩ : ∃ x, x = gridM xr xr xn 6 := ⟨_, rfl⟩
  obtain ⟨B, hB⟩ : ∃ x, x = gridM xr xr yn 6 := ⟨_, rfl⟩
  have g1 := gridN_bd (x := xr) (most := 6) (by omega) hx.r.1
  have lA : A.length = gridN xr 6 := by rw [hA]; exact gridM_length _ _ _ _
  have lB : B.length = gridN xr 6 := by rw [hB]; exact gridM_length _ _ _ _
  have wA : Wid (gridN xr 6) A := fun i hi => by rw [lA] at hi; rw [hA]; exact gridM_row hi
  have wB : Wid (gridN xr 6) B := fun i hi => by rw [lB] at hi; rw [hB]; exact gridM_row hi
  obtain ⟨q1, q2, q3, q4, q5, q6, q7, q8⟩ := det_laws lA wA lB wB (by omega) hmB2
  have bA := (detR_of lA wA (by omega) hmB2).1
  have bB := (detR_of lB wB (by omega) hmB2).1
  have bd : ∀ x : Int, 0 ≤ x % m ∧ x % m < m := fun x => ⟨Int.emod_nonneg _ (by omega), Int.emod_lt_of_pos _ (by omega)⟩
  have b1 := bd (det (gridN xr 6) (ent A))
  have b2 := bd (det (gridN xr 6) (ent B))
  have b3 := bd (detR A m * detR B m)
  rw [← bA] at b1
  rw [← bB] at b2
  rw [← q1] at b3
  obtain ⟨P, hP⟩ : ∃ x, x = mulM A B m := ⟨_, rfl⟩
  obtain ⟨Q, hQ⟩ : ∃ x, x = congM A B m := ⟨_, rfl⟩
  rw [← hP] at q1 q2 q3 b3
  rw [← hQ] at q2 q4
  obtain ⟨d, hd1⟩ : ∃ x, x = detR A m := ⟨_, rfl⟩
  obtain ⟨w, hw1⟩ : ∃ x, x = detR B m := ⟨_, rfl⟩
  obtain ⟨u, hu1⟩ : ∃ x, x = detR P m := ⟨_, rfl⟩
  obtain ⟨v, hv1⟩ : ∃ x, x = detR Q m := ⟨_, rfl⟩
  rw [← hd1] at b1 q1
  rw [← hw1] at b2 q1 q2
  rw [← hu1] at b3 q1 q2
  rw [← hv1] at q2
  have m1 := mul_bd (m := m) (by omega) b1 b2
  have m2 := mul_bd (m := m) (by omega) b3 b2
  have t1 : (d * w).tmod m = u := by rw [tmod_nn m1.1]; exact q1.symm
  have t2 : (u * w).tmod m = v := by rw [tmod_nn m2.1]; exact q2.symm
  clear bA bB bd
  unfold gridV
  refine acalls_of_good 3 117 [.tmp 6] Try.func14 rfl rfl (by kernel_rfl) rfl rfl (by decide) ?_
  simp (disch := first | assumption | omega) only [go_sem, Option.map, List.isEmpty, ↓reduceIte, Nat.reduceEqDiff, Nat.reduceAdd, Nat.reduceSub, Nat.reduceMul, Nat.reduceLT, Nat.reduceLeDiff, reduceCtorEq, Nat.reduceBEq, Nat.reduceBNe, Int.reduceNeg, Int.reduceLE, Int.reduceLT, Int.reduceToNat]
  repeat' (first | (first | refine good_seq ?_ | refine good_reg false (fun K hK => ?_) | (refine runL_nil (hK _ _ ?_); clear hK K) | refine runL_none rfl (fun K2 hK2 => ?_) | refine runL_some rfl rfl (fun R S hR hS => ?_) | (refine hK2 _ _ ?_; clear hK2 K2) | (refine hK2 _ _ ?_ ?_ <;> clear hK2 K2) | (refine regW_nil (hK _ _ ?_); clear hK K) | (refine regW_load rfl rfl rfl (fun F1 F2 hF1 hF2 => ?_)) | (refine hF1 _ ?_ ?_ <;> clear hF1 hF2 F1 F2) | (refine hF2 _ _ (fun K2 hK2 => ?_); clear hF1 hF2 F1 F2) | refine regW_light rfl rfl rfl (fun _ _ => rfl) (fun K2 hK2 => ?_) | refine regW_lguard rfl rfl rfl rfl (fun _ _ => rfl) (fun R S hR hS => ?_) | refine regW_heavy rfl rfl (fun K2 hK2 => ?_) | with_reducible refine log_goal ?_ | (refine hR _ (fun K2 hK2 => ?_); clear hR hS R S) | (refine hS _ ?_; clear hR hS R S) | refine good_block ?_ | refine good_skip ?_ | refine good_exit ?_ | refine good_ret ?_ | refine good_cond ?_ | refine And.intro ?_ ?_ | intro _) <;> try simp (disch := first | assumption | omega) only [go_sem, Option.map, List.isEmpty, ↓reduceIte, Nat.reduceEqDiff, Nat.reduceAdd, Nat.reduceSub, Nat.reduceMul, Nat.reduceLT, Nat.reduceLeDiff, reduceCtorEq, Nat.reduceBEq, Nat.reduceBNe, Int.reduceNeg, Int.reduceLE, Int.reduceLT, Int.reduceToNat, hmB, hcB, hoB, hd, hee, ← hm, t1, t2, List.set_cons_zero, List.set_cons_succ, mk2_f0, mk2_f1, mk2_put1, mk2_put0] | ((first | refine good_drw (id := 2) mixed false [[], [0], [], [0, 1, 2], [0, 1, 2, 3], [0, 1, 2, 3, 4]] [0, 2, 1, 3, 4, 5] (by decide +kernel) (fun K hK => ?_) | (refine ACalls.mono (c_awake _) (fun v h' hv => ?_); obtain ⟨rfl, hh⟩ := hv; subst h') | (refine ACalls.mono (c_Ints xr xr xn 6 hx.r hx.r hx.n (by omega) _) (fun v h' hv => ?_); obtain ⟨rfl, hh⟩ := hv; subst h'; rw [← hA]) | (refine ACalls.mono (c_Ints xr xr yn 6 hx.r hx.r hy.n (by omega) _) (fun v h' hv => ?_); obtain ⟨rfl, hh⟩ := hv; subst h'; rw [← hB]) | (refine ACalls.mono (c_mMul A B m _) (fun v h' hv => ?_); obtain ⟨rfl, hh⟩ := hv; subst h'; rw [q7, ← hP]) | (refine ACalls.mono (c_mCong A B m _) (fun v h' hv => ?_); obtain ⟨rfl, hh⟩ := hv; subst h'; rw [q8, ← hQ]) | (refine ACalls.mono (c_Det A m _) (fun v h' hv => ?_); obtain ⟨rfl, hh⟩ := hv; subst h'; rw [q5, ← hd1]) | (refine ACalls.mono (c_Det B m _) (fun v h' hv => ?_); obtain ⟨rfl, hh⟩ := hv; subst h'; rw [q6, ← hw1]) | (refine ACalls.mono (c_Det P m _) (fun v h' hv => ?_); obtain ⟨rfl, hh⟩ := hv; subst h'; rw [q3, ← hu1]) | (refine ACalls.mono (c_Det Q m _) (fun v h' hv => ?_); obtain ⟨rfl, hh⟩ := hv; subst h'; rw [q4, ← hv1])) <;> try simp (disch := first | assumption | omega) only [go_sem, Option.map, List.isEmpty, ↓reduceIte, Nat.reduceEqDiff, Nat.reduceAdd, Nat.reduceSub, Nat.reduceMul, Nat.reduceLT, Nat.reduceLeDiff, reduceCtorEq, Nat.reduceBEq, Nat.reduceBNe, Int.reduceNeg, Int.reduceLE, Int.reduceLT, Int.reduceToNat, hmB, hcB, hoB, hd, hee, ← hm, t1, t2, List.set_cons_zero, List.set_cons_succ, mk2_f0, mk2_f1, mk2_put1, mk2_put0]) | omega)
end Go.Eng
