/- An engine, part 5: slices: made, written out, cut, appended to. Over any program. -/
import Derived.Test.YtgfhddockofdnaaE4
set_option linter.unusedVariables false
set_option linter.unusedSimpArgs false
namespace Go.Eng
open Go.RowKit (Below)

section
variable {P : Program} {ρ : Ip} {h : AH} {w : World}

/-- The elements' cells, one behind the other. -/
def flat (vs : Nat → Value) : Nat → List Value
  | 0 => []
  | n + 1 => flat vs n ++ (vs n).cells.toList
theorem flat_length {vs : Nat → Value} {sz : Nat} : ∀ n, (∀ i, i < n → (vs i).cells.size = sz) → (flat vs n).length = n * sz
  | 0, _ => by simp [flat]
  | n + 1, h => by rw [flat, List.length_append, flat_length n (fun i hi => h i (by omega)), Array.length_toList, h n (by omega), Nat.succ_mul]
theorem flat_get {vs : Nat → Value} {sz : Nat} : ∀ n, (∀ i, i < n → (vs i).cells.size = sz) → ∀ i j, i < n → j < sz → (flat vs n)[i * sz + j]? = some ((vs i).cells.getD j undef)
  | 0, _, i, j, hi, _ => by omega
  | n + 1, h, i, j, hi, hj => by
    have hl := flat_length n (vs := vs) (sz := sz) (fun i hi => h i (by omega))
    rw [flat]
    by_cases hin : i < n
    · have hlt : i * sz + j < (flat vs n).length := by
        rw [hl]
        have : (i + 1) * sz ≤ n * sz := Nat.mul_le_mul_right _ hin
        rw [Nat.succ_mul] at this
        omega
      rw [List.getElem?_append_left hlt]
      exact flat_get n (fun i hi => h i (by omega)) i j hin hj
    · have : i = n := by omega
      subst this
      rw [List.getElem?_append_right (by omega), hl, show i * sz + j - i * sz = j from by omega, Array.getElem?_toList]
      have hs := h i (by omega)
      have hj' : j < (vs i).cells.size := by omega
      rw [Array.getElem?_eq_getElem hj']
      simp [Array.getD, hj']
/-- A cell of the flat row is an element's. -/
theorem flat_cell {vs : Nat → Value} {sz : Nat} (n : Nat) (h : ∀ i, i < n → (vs i).cells.size = sz) {q : Nat} {u : Value} (hq : (flat vs n)[q]? = some u) : 0 < sz ∧ q / sz < n ∧ q % sz < sz ∧ u = (vs (q / sz)).cells.getD (q % sz) undef := by
  have hlt : q < n * sz := by
    rw [← flat_length n h]
    exact (List.getElem?_eq_some_iff.1 hq).1
  have hsz : 0 < sz := by
    rcases Nat.eq_zero_or_pos sz with h0 | h0
    · rw [h0, Nat.mul_zero] at hlt; omega
    · exact h0
  have hd : q / sz < n := by rw [Nat.div_lt_iff_lt_mul hsz]; exact hlt
  have hm := Nat.mod_lt q hsz
  refine ⟨hsz, hd, hm, ?_⟩
  have := flat_get n h (q / sz) (q % sz) hd hm
  rw [Nat.div_add_mod' q sz, hq] at this
  exact Option.some.inj this

/-- A tree out of its cells in a block that stays. -/
theorem tree_of {pr : Addr → Option Value} {sz : Nat} {xs : List AV} {g : Nat} {cap : Nat} {gr : Gr} {vs : Nat → Value} (hcap : xs.length ≤ cap) (hmax : cap ≤ maxLen) (hg : gr = .ro ∨ (gr = .full ∧ cap = xs.length))
    (hv : ∀ i (h : i < xs.length), PV pr xs[i] (vs i)) (hs : ∀ i, i < xs.length → (vs i).cells.size = sz) (hc : ∀ q u, q < xs.length * sz → (flat vs xs.length)[q]? = some u → pr ⟨g, q, none⟩ = some u) :
    PV pr (.tree sz xs gr) (.slice (some ⟨g, 0, none⟩) xs.length cap) := by
  refine .tree sz xs gr ⟨g, 0, none⟩ cap vs hcap hmax hg hv hs (fun i j hi hj => ?_)
  have hlt : i * sz + j < xs.length * sz := by
    have : (i + 1) * sz ≤ xs.length * sz := Nat.mul_le_mul_right _ hi
    rw [Nat.succ_mul] at this
    omega
  rw [Addr.add_lit, Nat.zero_add]
  exact hc _ _ hlt (flat_get xs.length hs i j hi hj)
end

/-! ### a slice that is written out -/
/-- The parts stand in order, without gaps. -/
def inOrder : Nat → List (Nat × AV) → Bool
  | _, [] => true
  | k, (i, _) :: rest => i == k && inOrder (k + 1) rest
def allB (p : AV → Bool) : List AV → Bool
  | [] => true
  | v :: vs => p v && allB p vs
theorem allB_get {p : AV → Bool} : ∀ {l : List AV}, allB p l = true → ∀ i (h : i < l.length), p l[i] = true
  | [], _, i, h => absurd h (Nat.not_lt_zero _)
  | v :: vs, hp, 0, h => by rw [allB, Bool.and_eq_true] at hp; exact hp.1
  | v :: vs, hp, i + 1, h => by rw [allB, Bool.and_eq_true] at hp; exact allB_get hp.2 i (by simpa using h)
/-- A value that is an element of sz cells and leads to nothing that is written. -/
def elemB (sz : Nat) (v : AV) : Bool := memA v && pur v && (cellsA v).length == sz
/-- An element of sz cells. -/
def elemM (sz : Nat) (v : AV) : Bool := memA v && (cellsA v).length == sz
def catA : List AV → List AV
  | [] => []
  | v :: vs => cellsA v ++ catA vs

theorem inOrder_get : ∀ {k : Nat} {l : List (Nat × AV)}, inOrder k l = true → ∀ i (h : i < l.length), l[i].1 = k + i
  | _, [], _, i, h => absurd h (Nat.not_lt_zero _)
  | k, (i0, v) :: rest, hp, 0, h => by rw [inOrder, Bool.and_eq_true, beq_iff_eq] at hp; simpa using hp.1
  | k, (i0, v) :: rest, hp, i + 1, h => by
    rw [inOrder, Bool.and_eq_true] at hp
    have := inOrder_get hp.2 i (by simpa using h)
    simp only [List.getElem_cons_succ]
    omega

/-- Filling elements in order, one behind the other. -/
theorem fill_row (sz : Nat) (vs : Nat → Value) (total : Nat) : ∀ (m k : Nat) (partsc : List (Nat × Value)) (cells : Array Value), partsc.length = m → (∀ i, i < m → partsc.getD i (0, undef) = (k + i, vs (k + i))) → (∀ i, i < k + m → (vs i).cells.size = sz) → cells.size = total * sz → k + m = total →
    (∀ q, q < k * sz → cells[q]? = (flat vs total)[q]?) → ∃ out, Instr.fill (fun i => some (i * sz, sz)) cells partsc = some out ∧ out.toList = flat vs total
  | 0, k, partsc, cells, hl, hp, hs, hsz, hkm, hq => by
    have : partsc = [] := List.eq_nil_of_length_eq_zero hl
    subst this
    refine ⟨cells, rfl, ?_⟩
    apply List.ext_getElem?
    intro q
    by_cases hqk : q < k * sz
    · rw [Array.getElem?_toList, hq q hqk]
    · have hk : k = total := by omega
      have := flat_length total (vs := vs) (sz := sz) (fun i hi => hs i (by omega))
      rw [List.getElem?_eq_none (by rw [Array.length_toList]; rw [hk] at hqk; omega), List.getElem?_eq_none (by rw [this]; rw [hk] at hqk; omega)]
  | m + 1, k, partsc, cells, hl, hp, hs, hsz, hkm, hq => by
    match partsc, hl with
    | (i0, v0) :: rest, hl =>
      have h0 := hp 0 (by omega)
      simp only [List.getD_cons_zero, Nat.add_zero, Prod.mk.injEq] at h0
      obtain ⟨rfl, rfl⟩ := h0
      have hs0 := hs i0 (by omega)
      have hfit : i0 * sz + (vs i0).cells.size ≤ cells.size := by
        rw [hs0, hsz, ← Nat.succ_mul]
        exact Nat.mul_le_mul_right _ (by omega)
      obtain ⟨f1, f2⟩ := foldl_lay (vs i0).cells.toList (i0 * sz) 0 cells (by simpa using hfit)
      have hx : Instr.fill (fun i => some (i * sz, sz)) cells ((i0, vs i0) :: rest) = Instr.fill (fun i => some (i * sz, sz)) (((vs i0).cells.toList.zipIdx 0).foldl (fun cs (p : Value × Nat) => cs.setIfInBounds (i0 * sz + p.2) p.1) cells) rest := by
        simp only [Instr.fill]
        rw [if_neg (by simp only [Bool.or_eq_true, decide_eq_true_eq]; omega)]
        congr 1
        rw [← Array.foldl_toList, Array.toList_zipIdx]
      rw [hx]
      refine fill_row sz vs total m (i0 + 1) rest _ (by simpa using hl) (fun i hi => by have := hp (i + 1) (by omega); simp only [List.getD_cons_succ] at this; rw [this]; simp only [Prod.mk.injEq]; exact ⟨by omega, by congr 1; omega⟩) (fun i hi => hs i (by omega)) (by rw [f1, hsz]) (by omega) (fun q hqk => ?_)
      have hqt : q < total * sz := by
        have : (i0 + 1) * sz ≤ total * sz := Nat.mul_le_mul_right _ (by omega)
        omega
      have hg : ∀ (a : Array Value), q < a.size → a[q]? = some (a.getD q undef) := fun a ha => by simp [Array.getD, ha]
      rw [hg _ (by rw [f1, hsz]; exact hqt), f2 q]
      by_cases hc : i0 * sz + 0 ≤ q ∧ q < i0 * sz + 0 + (vs i0).cells.toList.length
      · rw [if_pos hc]
        have hj : q - i0 * sz < sz := by simp at hc; omega
        have := flat_get total (fun i hi => hs i (by omega)) i0 (q - i0 * sz) (by omega) hj
        rw [show i0 * sz + (q - i0 * sz) = q from by omega] at this
        rw [this, Nat.add_zero, ← getD_toList]
      · rw [if_neg hc]
        have hlt : q < i0 * sz := by
          rw [Nat.succ_mul] at hqk
          simp at hc
          omega
        rw [← hq q hlt]
        exact (hg cells (by rw [hsz]; exact hqt)).symm

section
variable {P : Program} {ρ : Ip} {h : AH} {w : World}

/-- The concrete side of a slice that is written out. -/
theorem run_buildSlice {t e : TypeId} {sz : Nat} (he : elT P t = some e) (hs : szT P e = some sz) (hz : (zrT P e).isSome = true) {parts : List (Nat × AV)} {partsc : Array (Nat × Value)} {n : Nat} (hn : parts.length = n) (hlen : parts.length = partsc.size)
    (hp : ∀ i (hi : i < parts.length), (partsc.toList.getD i (0, undef)).1 = parts[i].1) (ho : inOrder 0 parts = true) (hcs : ∀ i, i < n → ((partsc.toList.getD i (0, undef)).2).cells.size = sz) (hbig : n * sz ≤ 16777216) :
    ∃ out : Array Value, out.toList = flat (fun i => (partsc.toList.getD i (0, undef)).2) n ∧ (Instr.buildSlice t n partsc).run P w = .ok (.slice (some ⟨w.heap.size, 0, none⟩) n n) (w.alloc (.cells out e)) := by
  have hn1 : ¬ (n * sz > 2 ^ 24) := by omega
  obtain ⟨out, hf, hout⟩ := fill_row sz (fun i => (partsc.toList.getD i (0, undef)).2) n n 0 partsc.toList ((Array.range (n * sz)).map (fun j => (match (zrT P e) with | some _ => (((P.info? e).bind (·.zero)).getD undef).cells[j % (((P.info? e).bind (·.zero)).getD undef).cells.size]! | none => undef)))
    (by simp; omega) (fun i hi => by
      have h1 := hp i (by omega)
      have h2 := inOrder_get ho i (by omega)
      rw [h2] at h1
      simp only [Nat.zero_add] at h1 ⊢
      exact Prod.ext h1 rfl) (fun i hi => hcs i (by omega)) (by simp) (by omega) (fun q hq => by simp at hq)
  refine ⟨out, hout, ?_⟩
  obtain ⟨za, hza⟩ := Option.isSome_iff_exists.1 hz
  unfold zrT at hza
  obtain ⟨i, hi, hza'⟩ := Option.bind_eq_some_iff.1 hza
  obtain ⟨z, hzz, hzo⟩ := Option.bind_eq_some_iff.1 hza'
  have hzr : zrT P e = some za := by unfold zrT; rw [hi]; simp [hzz, hzo]
  simp only [hzr, hi, Option.bind_some, hzz, Option.getD_some] at hf
  have hzv : (zeroValue e).run P w = .ok z w := by simp [zeroValue, typeInfo, program, Sem.run, hi, hzz]
  unfold Instr.buildSlice
  simp only [Sem.run_bind, run_under_of he, Result.andThen_ok, run_sizeOf_of hs, if_neg hn1]
  by_cases h0 : n * sz = 0
  · simp only [h0, if_true, Sem.run_pure, Result.andThen_ok]
    rw [h0] at hf
    have : (Array.map (fun x => (#[] : Array Value)[x % (#[] : Array Value).size]!) (Array.range 0)) = Array.map (fun x => z.cells[x % z.cells.size]!) (Array.range 0) := by simp
    simp only [this, hf, newRow, newObj, Sem.run, Sem.run_bind, Result.andThen_ok, Sem.run_pure, World.alloc_eq]
  · simp only [h0, if_false, Sem.run_bind, hzv, Result.andThen_ok, Sem.run_pure, hf, newRow, newObj, Sem.run, World.alloc_eq]

/-- A slice that is written out, never to be written again. -/
theorem lit_sound {t e : TypeId} {sz : Nat} (he : elT P t = some e) (hs : szT P e = some sz) (hz : (zrT P e).isSome = true) {parts : List (Nat × AV)} {partsc : Array (Nat × Value)} {n : Nat} (hn : parts.length = n) (hlen : parts.length = partsc.size)
    (hp : ∀ i (hi : i < parts.length), (partsc.toList.getD i (0, undef)).1 = parts[i].1 ∧ RV ρ parts[i].2 (partsc.toList.getD i (0, undef)).2) (ho : inOrder 0 parts = true) (hel : allB (elemB sz) (parts.map (·.2)) = true) (hbig : n * sz ≤ 16777216) (h0 : 0 < sz) (hR : RH ρ h w) :
    ∃ w' vc ρ', (Instr.buildSlice t n partsc).run P w = .ok vc w' ∧ ρ.Le ρ' ∧ RH ρ' h w' ∧ PV ρ'.prot (.tree sz (roL (parts.map (·.2))) .full) vc := by
  have hei : ∀ i (hi : i < parts.length), memA parts[i].2 = true ∧ pur parts[i].2 = true ∧ (cellsA parts[i].2).length = sz := fun i hi => by
    have := allB_get hel i (by simpa using hi)
    simpa [elemB, Bool.and_eq_true, and_assoc] using this
  have hcs : ∀ i, i < n → ((partsc.toList.getD i (0, undef)).2).cells.size = sz := fun i hi => by
    have h1 := hei i (by omega)
    rw [← h1.2.2]
    exact ((hp i (by omega)).2.cells h1.1).1.symm
  obtain ⟨out, hout, hrun⟩ := run_buildSlice (w := w) he hs hz hn hlen (fun i hi => (hp i hi).1) ho hcs hbig
  have hone : ∀ (j : Nat) (u : Value), out[j]? = some u → u.oneCell' = true := fun j u hu => by
    rw [← Array.getElem?_toList, hout] at hu
    obtain ⟨-, b1, b2, b3⟩ := flat_cell n hcs hu
    rw [b3]
    have hi' : j / sz < parts.length := by omega
    obtain ⟨c1, c2, c3⟩ := (hp _ hi').2.cells (hei _ hi').1
    exact c3 _ (by rw [← c1, (hei _ hi').2.2]; exact b2)
  obtain ⟨ρ', hle, hprot, hR'⟩ := hR.allocT out e hone
  have hl : (roL (parts.map (·.2))).length = n := by rw [roL_length, List.length_map, hn]
  refine ⟨_, _, ρ', hrun, hle, hR', ?_⟩
  have hmx : n ≤ maxLen := by
    have : n ≤ n * sz := Nat.le_mul_of_pos_right n h0
    simp only [maxLen]; omega
  have hT := tree_of (pr := ρ'.prot) (sz := sz) (xs := roL (parts.map (·.2))) (g := w.heap.size) (cap := n) (gr := .full) (vs := fun i => (partsc.toList.getD i (0, undef)).2) (by omega) hmx (.inr ⟨rfl, hl.symm⟩)
    (fun i hi => by
      rw [roL_get]
      have hi' : i < parts.length := by rw [hl] at hi; omega
      simp only [List.getElem_map]
      exact pure_RV ((hp i hi').2.mono hle) (hei i hi').2.1)
    (fun i hi => hcs i (by omega))
    (fun q u _ hq => hprot q u (by rw [hl, ← hout, Array.getElem?_toList] at hq; exact hq))
  rw [hl] at hT
  exact hT

theorem catA_length {sz : Nat} : ∀ {l : List AV}, allB (elemM sz) l = true → (catA l).length = l.length * sz
  | [], _ => by simp [catA]
  | v :: vs, hp => by
    rw [allB, Bool.and_eq_true] at hp
    have h1 : (cellsA v).length = sz := by simpa [elemM] using And.right (by simpa [elemM] using hp.1)
    rw [catA, List.length_append, catA_length hp.2, h1, List.length_cons, Nat.succ_mul, Nat.add_comm]
theorem catA_get {sz : Nat} : ∀ {l : List AV}, allB (elemM sz) l = true → ∀ i j (hi : i < l.length) (hj : j < sz), ∃ h : i * sz + j < (catA l).length, ∃ h2 : j < (cellsA l[i]).length, (catA l)[i * sz + j] = (cellsA l[i])[j]
  | [], _, i, j, hi, _ => absurd hi (Nat.not_lt_zero _)
  | v :: vs, hp, i, j, hi, hj => by
    rw [allB, Bool.and_eq_true] at hp
    have h1 : (cellsA v).length = sz := by simpa [elemM] using And.right (by simpa [elemM] using hp.1)
    match i, hi with
    | 0, _ =>
      refine ⟨by rw [catA, List.length_append]; omega, by simpa [h1] using hj, ?_⟩
      simp only [catA, Nat.zero_mul, Nat.zero_add, List.getElem_cons_zero]
      rw [List.getElem_append_left (by omega)]
    | i + 1, hi =>
      obtain ⟨k1, k2, k3⟩ := catA_get hp.2 i j (by simpa using hi) hj
      refine ⟨by rw [catA, List.length_append, Nat.succ_mul]; omega, by simpa using k2, ?_⟩
      simp only [catA, List.getElem_cons_succ]
      rw [List.getElem_append_right (by rw [Nat.succ_mul]; omega)]
      simp only [h1, show (i + 1) * sz + j - sz = i * sz + j from by rw [Nat.succ_mul]; omega]
      exact k3

/-- A slice that is written out and may be written later. -/
theorem litM_sound {t e : TypeId} {sz : Nat} (he : elT P t = some e) (hs : szT P e = some sz) (hz : (zrT P e).isSome = true) {parts : List (Nat × AV)} {partsc : Array (Nat × Value)} {n : Nat} (hn : parts.length = n) (hlen : parts.length = partsc.size)
    (hp : ∀ i (hi : i < parts.length), (partsc.toList.getD i (0, undef)).1 = parts[i].1 ∧ RV ρ parts[i].2 (partsc.toList.getD i (0, undef)).2) (ho : inOrder 0 parts = true) (hel : allB (elemM sz) (parts.map (·.2)) = true) (hbig : n * sz ≤ 16777216) (h0 : 0 < sz) (hR : RH ρ h w) :
    ∃ w' vc ρ', (Instr.buildSlice t n partsc).run P w = .ok vc w' ∧ ρ.Le ρ' ∧ RH ρ' (h.mk_ (catA (parts.map (·.2)))) w' ∧ RV ρ' (.bsl h.n 0 n .full) vc := by
  have hei : ∀ i (hi : i < parts.length), memA parts[i].2 = true ∧ (cellsA parts[i].2).length = sz := fun i hi => by
    have := allB_get hel i (by simpa using hi)
    simpa [elemM, Bool.and_eq_true] using this
  have hcs : ∀ i, i < n → ((partsc.toList.getD i (0, undef)).2).cells.size = sz := fun i hi => by
    have h1 := hei i (by omega)
    rw [← h1.2]
    exact ((hp i (by omega)).2.cells h1.1).1.symm
  obtain ⟨out, hout, hrun⟩ := run_buildSlice (w := w) he hs hz hn hlen (fun i hi => (hp i hi).1) ho hcs hbig
  have hcl := catA_length hel
  rw [List.length_map, hn] at hcl
  have hos : out.size = n * sz := by rw [← Array.length_toList, hout, flat_length n hcs]
  have hcell : ∀ q (hq : q < (catA (parts.map (·.2))).length), RV ρ (catA (parts.map (·.2)))[q] (out.getD q undef) ∧ (out.getD q undef).oneCell' = true := fun q hq => by
    have hqn : q < out.size := by omega
    have hf : (flat (fun i => (partsc.toList.getD i (0, undef)).2) n)[q]? = some (out.getD q undef) := by
      rw [← hout, Array.getElem?_toList]; simp [Array.getD, hqn]
    obtain ⟨-, h1, h2, h3⟩ := flat_cell n hcs hf
    have hi' : q / sz < parts.length := by omega
    obtain ⟨k1, k2, k3⟩ := (hp _ hi').2.cells (hei _ hi').1
    obtain ⟨c1, c2, c3⟩ := catA_get hel (q / sz) (q % sz) (by simpa using hi') h2
    simp only [List.getElem_map] at c2 c3
    have c3' : (catA (parts.map (·.2)))[q] = (cellsA (parts[q / sz]).2)[q % sz] := by
      rw [← c3]; congr 1; exact (Nat.div_add_mod' q sz).symm
    rw [c3', h3]
    exact ⟨k2 _ c2, k3 _ (by rw [← k1]; exact c2)⟩
  obtain ⟨ρ', hle, hphi, hnb, hR'⟩ := hR.alloc (catA (parts.map (·.2))) out e (by omega) hcell
  refine ⟨_, _, ρ', hrun, hle, hR', ?_⟩
  have hmx : n ≤ maxLen := by
    have : n ≤ n * sz := Nat.le_mul_of_pos_right n h0
    simp only [maxLen]; omega
  exact .bsl _ _ _ _ _ _ (by rw [hnb]; exact Nat.lt_succ_self _) (Nat.le_refl _) hmx (fun g m hx => by rw [hphi] at hx; rw [(Prod.mk.inj (Option.some.inj hx)).1]) (fun _ => rfl) (fun _ hx => by cases hx)

/-- n copies of an element's cells. -/
def copies (z : List AV) : Nat → List AV
  | 0 => []
  | n + 1 => z ++ copies z n
theorem copies_one (v : AV) : ∀ n, copies [v] n = List.replicate n v
  | 0 => rfl
  | n + 1 => by rw [copies, copies_one v n, List.replicate_succ]; rfl
theorem copies_length (z : List AV) : ∀ n, (copies z n).length = n * z.length
  | 0 => by simp [copies]
  | n + 1 => by rw [copies, List.length_append, copies_length z n, Nat.succ_mul, Nat.add_comm]
theorem copies_get (z : List AV) : ∀ n q (h : q < (copies z n).length), ∃ h2 : q % z.length < z.length, (copies z n)[q] = z[q % z.length]
  | 0, q, h => absurd h (Nat.not_lt_zero _)
  | n + 1, q, h => by
    have hl := copies_length z n
    rw [copies, List.length_append] at h
    by_cases hq : q < z.length
    · refine ⟨by rw [Nat.mod_eq_of_lt hq]; exact hq, ?_⟩
      simp only [copies, List.getElem_append_left hq, Nat.mod_eq_of_lt hq]
    · have hq' : q - z.length < (copies z n).length := by omega
      obtain ⟨k1, k2⟩ := copies_get z n (q - z.length) hq'
      have hm : q % z.length = (q - z.length) % z.length := Nat.mod_eq_sub_mod (by omega)
      refine ⟨by rw [hm]; exact k1, ?_⟩
      simp only [copies, List.getElem_append_right (Nat.le_of_not_lt hq), k2, hm]

/-- make([]T, n) -/
theorem make_sound {t e : TypeId} {sz by_ : Nat} {z : AV} (he : elT P t = some e) (hs : szT P e = some sz) (hb : byT P e = some by_) (hz : zrT P e = some z) (hm : memA z = true) (hzl : (cellsA z).length = sz) (h0 : 0 < sz) {kl kc : IntKind} {n : Int} (hn0 : 0 ≤ n) (hn : n.toNat ≤ maxLen) (hbig : n.toNat * by_ ≤ 140737488355328) (hR : RH ρ h w) :
    ∃ w' vc ρ', (Instr.makeSlice t (.int kl n) (.int kc n)).run P w = .ok vc w' ∧ ρ.Le ρ' ∧ RH ρ' (h.mk_ (copies (cellsA z) n.toNat)) w' ∧ RV ρ' (.bsl h.n 0 n.toNat .full) vc := by
  unfold zrT at hz
  obtain ⟨i, hi, hz⟩ := Option.bind_eq_some_iff.1 hz
  obtain ⟨zv, hzz, hzo⟩ := Option.bind_eq_some_iff.1 hz
  have hs' : i.size = sz := by unfold szT at hs; rw [hi] at hs; simpa using hs
  have hb' : i.bytes = by_ := by unfold byT at hb; rw [hi] at hb; simpa using hb
  have hzp : PV ρ.prot z zv := ofV_PV hzo
  obtain ⟨k1, k2, k3⟩ := hzp.cells hm
  have hbb : (i.bytes : Int) * n ≤ 281474976710656 := by
    obtain ⟨m, rfl⟩ := Int.eq_ofNat_of_zero_le hn0
    rw [hb']
    have : ((by_ * m : Nat) : Int) ≤ 281474976710656 := by
      simp only [Int.toNat_natCast] at hbig
      rw [Nat.mul_comm] at hbig
      omega
    rwa [Int.natCast_mul] at this
  have hrun := run_make (P := P) w t e i zv (elT_under he) hi hzz kl kc n n hn0 (Int.le_refl _) hbb (by simp only [maxLen] at hn; omega)
  rw [hs'] at hrun
  have hmc : ∀ q, q < n.toNat * sz → (madeCells zv.cells (n.toNat * sz)).getD q undef = zv.cells.getD (q % sz) undef := fun q hq => by
    have hmod : q % zv.cells.size < zv.cells.size := Nat.mod_lt _ (by omega)
    have hzs : zv.cells.size = sz := by omega
    rw [Array.getD_eq_getD_getElem?]
    simp only [madeCells, Array.getElem?_map]
    rw [Array.getElem?_eq_getElem (by simpa using hq)]
    simp only [Array.getElem_range, Option.map_some, Option.getD_some, hzs]
    rw [getElem!_pos _ _ (by rw [← hzs]; exact hmod), Array.getD_eq_getD_getElem?, Array.getElem?_eq_getElem (by rw [← hzs]; exact hmod)]
    rfl
  have hcl : (copies (cellsA z) n.toNat).length = n.toNat * sz := by rw [copies_length, hzl]
  have hcell : ∀ q (hq : q < (copies (cellsA z) n.toNat).length), RV ρ (copies (cellsA z) n.toNat)[q] ((madeCells zv.cells (n.toNat * sz)).getD q undef) ∧ ((madeCells zv.cells (n.toNat * sz)).getD q undef).oneCell' = true := fun q hq => by
    obtain ⟨h2, h3⟩ := copies_get (cellsA z) n.toNat q hq
    rw [hmc q (by omega), h3]
    have e1 : q % (cellsA z).length = q % sz := by rw [hzl]
    refine ⟨?_, k3 _ (by rw [← k1, ← e1]; exact h2)⟩
    rw [← e1]
    exact .pure _ _ (k2 (q % (cellsA z).length) h2)
  obtain ⟨ρ', hle, hphi, hnb, hR'⟩ := hR.alloc (copies (cellsA z) n.toNat) (madeCells zv.cells (n.toNat * sz)) e (by rw [hcl, size_madeCells]; exact Nat.le_refl _) hcell
  refine ⟨_, _, ρ', hrun, hle, hR', ?_⟩
  exact .bsl _ _ _ _ _ _ (by rw [hnb]; exact Nat.lt_succ_self _) (Nat.le_refl _) hn (fun g m hx => by rw [hphi] at hx; rw [(Prod.mk.inj (Option.some.inj hx)).1]) (fun _ => rfl) (fun _ hx => by cases hx)

/-! ### append to a slice whose elements stay -/
theorem old_cells {pr : Addr → Option Value} {xs : List AV} {sz : Nat} {ad : Addr} {vs : Nat → Value} (hpr : ∀ a u, pr a = some u → w.cell? a = some u ∧ u.oneCell' = true) (hs : ∀ i, i < xs.length → (vs i).cells.size = sz)
    (hc : ∀ i j, i < xs.length → j < sz → pr (ad.add (i * sz + j)) = some ((vs i).cells.getD j undef)) : ∀ q u, (flat vs xs.length)[q]? = some u → w.cell? (ad.add q) = some u ∧ u.oneCell' = true := fun q u hq => by
  obtain ⟨-, h1, h2, h3⟩ := flat_cell xs.length hs hq
  have := hpr _ _ (hc (q / sz) (q % sz) h1 h2)
  rw [Nat.div_add_mod' q sz] at this
  rw [h3]; exact this

/-- Two rows of elements, one behind the other. -/
theorem flat_add (vs us : Nat → Value) (n : Nat) : ∀ m, flat (fun i => if i < n then vs i else us (i - n)) (n + m) = flat vs n ++ flat us m
  | 0 => by
    simp only [Nat.add_zero, flat, List.append_nil]
    have : ∀ k, k ≤ n → flat (fun i => if i < n then vs i else us (i - n)) k = flat vs k := by
      intro k
      induction k with
      | zero => intro _; rfl
      | succ k ih => intro hk; simp only [flat]; rw [ih (by omega), if_pos (by omega)]
    exact this n (Nat.le_refl _)
  | m + 1 => by
    rw [← Nat.add_assoc, flat, flat_add vs us n m, if_neg (by omega), show n + m - n = m from by omega, List.append_assoc]
    rfl

theorem run_append_room' (t ty e e' : TypeId) (i : TypeInfo) (ht : P.underlying t = some (.slice e)) (hi : P.info? e = some i)
    (g sLen sCap : Nat) (cur : Array Value) (hg : w.heap[g]? = some (.cells cur e' (0, 0)))
    (a : Addr) (m c : Nat) (news : List Value) (hl : news.length = m * i.size) (hnews : ∀ j u, news[j]? = some u → w.cell? (a.add j) = some u) (h1 : ∀ u ∈ news, u.oneCell' = true)
    (hroom : sLen + m ≤ sCap) (hfit : sLen * i.size + news.length ≤ cur.size) :
    (Builtin.append_ #[t, t] ty #[.slice (some ⟨g, 0, none⟩) sLen sCap, .slice (some a) m c]).run P w =
      .ok (.slice (some ⟨g, 0, none⟩) (sLen + m) sCap) (w.setRow g (cur.toList.take (sLen * i.size) ++ news ++ cur.toList.drop (sLen * i.size + news.length)).toArray) := by
  have hf := run_firstCells_some (P := P) w i.size m a m c news hl hnews
  have hst := run_storeCells_at P g (sLen * i.size) e' news 0 cur w hg (by simpa using hfit) h1
  simp only [Nat.add_zero] at hst
  simp [Builtin.append_, run_underlying ht, sizeOf, typeInfo, hi, Builtin.lenOf, hroom, hf, Addr.add_lit, hst]

/-- What an append leaves (g: what was known of the spare room). -/
structure AppRes (P : Program) (ρ : Ip) (h : AH) (w : World) (run : Result Value) (sz n : Nat) (zs : List AV) (κ : Option Nat) : Prop where
  out : ∃ w' vc ρ', run = .ok vc w' ∧ ρ.Le ρ' ∧ RH ρ' (match κ with | none => h.begun n | some κ => h.grown κ n) w' ∧ RV ρ' (.tree sz zs (.own (κ.getD h.k))) vc

theorem app_tree {sz by_ : Nat} {t ty e : TypeId} (he : elT P t = some e) (hs : szT P e = some sz) (hb : byT P e = some by_) {z : AV} (hz : zrT P e = some z) (hm : memA z = true) (hzl : (cellsA z).length = sz) (h0 : 0 < sz)
    (xs ys : List AV) (hys : ys ≠ []) {sc xc : Value} {g2 : Gr} (hx : RV ρ (.tree sz ys g2) xc) (hmx : xs.length + ys.length ≤ maxLen) (hbig : (xs.length + ys.length) * by_ ≤ 140737488355328) (hR : RH ρ h w) {κ : Option Nat}
    (hsc : (κ = none ∧ xs = [] ∧ sc = .slice none 0 0) ∨ (κ = none ∧ RV ρ (.tree sz xs .full) sc) ∨ (∃ k, κ = some k ∧ h.gr k = xs.length ∧ RV ρ (.tree sz xs (.own k)) sc)) :
    AppRes P ρ h w ((Builtin.append_ #[t, t] ty #[sc, xc]).run P w) sz (xs.length + ys.length) (xs ++ ys) κ := by
  unfold zrT at hz
  obtain ⟨i, hi, hz⟩ := Option.bind_eq_some_iff.1 hz
  obtain ⟨zv, hzz, hzo⟩ := Option.bind_eq_some_iff.1 hz
  have hs' : i.size = sz := by unfold szT at hs; rw [hi] at hs; simpa using hs
  have hb' : i.bytes = by_ := by unfold byT at hb; rw [hi] at hb; simpa using hb
  have hzc : zv.cells.size = sz := by
    have hzp : PV ρ.prot z zv := ofV_PV hzo
    rw [← hzl]; exact (hzp.cells hm).1.symm
  have hu := elT_under he
  have hylen : 0 < ys.length := List.length_pos_iff.2 hys
  -- what is appended
  rcases inv_tree hx with ⟨h1, -, -⟩ | ⟨ady, capy, us, rfl, -, -, -, hyv, hys', hyc⟩
  · exact absurd h1 hys
  have hnews2 := old_cells hR.prot hys' hyc
  have hnews : ∀ q u, (flat us ys.length)[q]? = some u → w.cell? (ady.add q) = some u := fun q u hq => (hnews2 q u hq).1
  have hnl : (flat us ys.length).length = ys.length * i.size := by rw [flat_length _ hys', hs']
  -- a new row
  have newRow : ∀ (vs : Nat → Value) (olds : List Value) (old : Nat), olds = flat vs xs.length → (∀ i (h : i < xs.length), PV ρ.prot xs[i] (vs i)) → (∀ i, i < xs.length → (vs i).cells.size = sz) → (∀ (q : Nat) (u : Value), (flat vs xs.length)[q]? = some u → u.oneCell' = true) → old < xs.length + ys.length →
      ∀ (arr : Array Value) (c : Nat), arr = olds.toArray ++ (flat us ys.length).toArray ++ Builtin.zeroCells zv.cells (c - (xs.length + ys.length)) → xs.length + ys.length ≤ c → c ≤ maxLen →
      arr.size = c * sz ∧ (∀ q u, q < (xs ++ ys).length * sz → (flat (fun i => if i < xs.length then vs i else us (i - xs.length)) (xs ++ ys).length)[q]? = some u → arr[q]? = some u) ∧
      ∀ (j : Nat) (u : Value), j < (xs.length + ys.length) * sz → arr[j]? = some u → u.oneCell' = true := by
    intro vs olds old ho hv hvs h1x hlt arr c ha hc hcm
    have hfl : (flat vs xs.length).length = xs.length * sz := flat_length _ hvs
    have hul : (flat us ys.length).length = ys.length * sz := flat_length _ hys'
    have hget : ∀ q, q < (xs.length + ys.length) * sz → arr[q]? = (flat vs xs.length ++ flat us ys.length)[q]? := fun q hq => by
      rw [ha, ho]
      rw [Array.getElem?_append_left (by simp only [Array.size_append, List.size_toArray, hfl, hul, ← Nat.add_mul]; exact hq)]
      rw [show (flat vs xs.length).toArray ++ (flat us ys.length).toArray = (flat vs xs.length ++ flat us ys.length).toArray from by simp, List.getElem?_toArray]
    refine ⟨?_, fun q u hq hf => ?_, fun q u hq hf => ?_⟩
    · rw [ha, ho]
      simp only [Array.size_append, List.size_toArray, size_zeroCells, hzc, hfl, hul, ← Nat.add_mul]
      congr 1
      omega
    · rw [List.length_append, flat_add] at hf
      rw [hget q (by rw [← List.length_append]; exact hq)]
      exact hf
    · rw [hget q hq] at hf
      rcases Nat.lt_or_ge q (flat vs xs.length).length with hl | hl
      · rw [List.getElem?_append_left hl] at hf; exact h1x _ _ hf
      · rw [List.getElem?_append_right hl] at hf; exact (hnews2 _ _ hf).2
  have elems : ∀ (vs : Nat → Value) {ρ' : Ip}, ρ.Le ρ' → (∀ i (h : i < xs.length), PV ρ.prot xs[i] (vs i)) → ∀ i (h : i < (xs ++ ys).length), PV ρ'.prot (xs ++ ys)[i] (if i < xs.length then vs i else us (i - xs.length)) := by
    intro vs ρ' hle hv i hi
    by_cases hix : i < xs.length
    · rw [if_pos hix, List.getElem_append_left hix]; exact (hv i hix).mono hle.prot
    · rw [if_neg hix, List.getElem_append_right (Nat.le_of_not_lt hix)]
      exact (hyv _ (by rw [List.length_append] at hi; omega)).mono hle.prot
  have sizes : ∀ (vs : Nat → Value), (∀ i, i < xs.length → (vs i).cells.size = sz) → ∀ i, i < (xs ++ ys).length → (if i < xs.length then vs i else us (i - xs.length)).cells.size = sz := by
    intro vs hvs i hi
    by_cases hix : i < xs.length
    · rw [if_pos hix]; exact hvs i hix
    · rw [if_neg hix]; exact hys' _ (by rw [List.length_append] at hi; omega)
  -- the row, as a value
  have value : ∀ (vs : Nat → Value) {ρ' : Ip} {κ' g c : Nat}, ρ.Le ρ' → (∀ i (h : i < xs.length), PV ρ.prot xs[i] (vs i)) → (∀ i, i < xs.length → (vs i).cells.size = sz) → ρ'.gam κ' = some (g, xs.length + ys.length, c, sz) → xs.length + ys.length ≤ c → c ≤ maxLen →
      (∀ q u, q < (xs ++ ys).length * sz → (flat (fun i => if i < xs.length then vs i else us (i - xs.length)) (xs ++ ys).length)[q]? = some u → ρ'.prot ⟨g, q, none⟩ = some u) → RV ρ' (.tree sz (xs ++ ys) (.own κ')) (.slice (some ⟨g, 0, none⟩) (xs.length + ys.length) c) := by
    intro vs ρ' κ' g c hle hv hvs hg hc hcm hp
    have hT := tree_of (pr := ρ'.prot) (sz := sz) (xs := xs ++ ys) (g := g) (cap := c) (gr := .ro) (vs := fun i => if i < xs.length then vs i else us (i - xs.length)) (by rw [List.length_append]; exact hc) hcm (.inl rfl) (elems vs hle hv) (sizes vs hvs) hp
    have := RV.own (ρ := ρ') sz (xs ++ ys) κ' ⟨g, 0, none⟩ c g (xs.length + ys.length) c hg (by rw [List.length_append]; exact Nat.le_refl _) hT (fun _ => ⟨rfl, rfl⟩)
    rw [List.length_append] at this
    exact this
  have hmx' : xs.length + ys.length ≤ 9223372036854775807 := by simp only [maxLen] at hmx; omega
  have nilCase : κ = none → xs = [] → sc = .slice none 0 0 → AppRes P ρ h w ((Builtin.append_ #[t, t] ty #[sc, .slice (some ady) ys.length capy]).run P w) sz (xs.length + ys.length) (xs ++ ys) κ := by
    rintro rfl rfl rfl
    refine ⟨?_⟩
    simp only [List.length_nil, Nat.zero_add, List.nil_append] at hmx hbig newRow value ⊢
    have hr := run_append_nil (P := P) w t ty e i zv hu hi hzz ady ys.length capy (flat us ys.length) hnl hnews hylen (by simp only [maxLen] at hmx; omega) (by rw [hb']; omega)
    have hge := grownCap_ge w ys.length 0 e
    have hcm := grownCap_le_maxLen w ys.length 0 e hmx
    obtain ⟨hsz, hpre, h1c⟩ := newRow (fun _ => undef) [] 0 rfl (fun i h => absurd h (Nat.not_lt_zero _)) (fun i h => absurd h (Nat.not_lt_zero _)) (fun q u h => by simp [flat] at h) hylen _ _ rfl hge hcm
    simp only [List.toArray, Array.empty_append] at hsz hpre h1c
    obtain ⟨ρ', hle, hg, hp, hR'⟩ := hR.drew.growNew ((flat us ys.length).toArray ++ Builtin.zeroCells zv.cells (grownCap w ys.length 0 e - ys.length)) e ys.length (grownCap w ys.length 0 e) sz (by simpa using hsz) hge hcm (fun j u hj hu => h1c j u hj (by simpa using hu))
    refine ⟨_, _, ρ', hr, hle, hR', ?_⟩
    exact value (fun _ => undef) hle (fun i h => absurd h (Nat.not_lt_zero _)) (fun i h => absurd h (Nat.not_lt_zero _)) hg hge hcm (fun q u hq hf => hp q u hq (by simpa using hpre q u hq hf))
  refine ⟨?_⟩
  rcases hsc with ⟨h1, h2, h3⟩ | ⟨rfl, hsv⟩ | ⟨k, rfl, hgr, hsv⟩
  · exact (nilCase h1 h2 h3).out
  · -- no spare room
    rcases inv_tree hsv with ⟨rfl, rfl, -⟩ | ⟨adx, capx, vs, rfl, -, -, hfull, hxv, hxs, hxc⟩
    · exact (nilCase rfl rfl rfl).out
    have hcap := hfull rfl
    have holds2 := old_cells (w := w) hR.prot hxs hxc
    have holds : ∀ q u, (flat vs xs.length)[q]? = some u → w.cell? _ = some u := fun q u hq => (holds2 q u hq).1
    have hr := run_append_grow (P := P) w t ty e i zv hu hi hzz adx xs.length capx (flat vs xs.length) (by rw [flat_length _ hxs, hs']) holds ady ys.length capy (flat us ys.length) hnl hnews (by omega) (by omega) (growslice_fits (by omega) (by rw [hb']; exact hbig))
    have hge := grownCap_ge w (xs.length + ys.length) capx e
    have hcm := grownCap_le_maxLen w (xs.length + ys.length) capx e hmx
    obtain ⟨hsz, hpre, h1c⟩ := newRow vs _ capx rfl hxv hxs (fun q u hq => (holds2 q u hq).2) (by omega) _ _ rfl hge hcm
    obtain ⟨ρ', hle, hg, hp, hR'⟩ := hR.drew.growNew _ e (xs.length + ys.length) _ sz hsz hge hcm h1c
    refine ⟨_, _, ρ', hr, hle, hR', ?_⟩
    exact value vs hle hxv hxs hg hge hcm (fun q u hq hf => hp q u (by rw [← List.length_append]; exact hq) (hpre q u hq hf))
  · -- it has been appended to before
    cases hsv with
    | pure _ _ hpv =>
      rcases pinv_tree hpv with ⟨-, -, hg⟩ | ⟨_, _, _, -, -, -, hg, -⟩
      · rcases hg with hg | hg <;> cases hg
      · rcases hg with hg | ⟨hg, _⟩ <;> cases hg
    | own _ _ _ adx capx g n c hg hn ht hl =>
    have hk : k < h.k := hR.gnone k _ hg
    obtain ⟨g', c', s', arr, e', k1, k2, k3, k4, k5, k6, k7, k8, k9⟩ := hR.gam k hk
    rw [hg] at k1
    simp only [Option.some.injEq, Prod.mk.injEq] at k1
    obtain ⟨rfl, rfl, rfl, rfl⟩ := k1
    obtain ⟨rfl, rfl⟩ := hl hgr.symm
    rcases pinv_tree ht with ⟨-, h3, -⟩ | ⟨adx, capx', vs, h3, -, -, -, hxv, hxs, hxc⟩
    · cases h3
    injection h3 with h3 _ h3'
    injection h3 with h3
    subst h3; subst h3'
    have holds2 := old_cells (w := w) hR.prot hxs hxc
    have holds : ∀ q u, (flat vs xs.length)[q]? = some u → w.cell? _ = some u := fun q u hq => (holds2 q u hq).1
    by_cases hroom : xs.length + ys.length ≤ capx
    · -- in its place
      have h1c : ∀ u ∈ flat us ys.length, u.oneCell' = true := fun u hu => by
        obtain ⟨q, hq, rfl⟩ := List.mem_iff_getElem.1 hu
        have hq' := List.getElem?_eq_getElem hq
        exact (hnews2 _ _ hq').2
      have hul : (flat us ys.length).length = ys.length * sz := flat_length _ hys'
      have hfit : xs.length * i.size + (flat us ys.length).length ≤ arr.size := by rw [hul, hs', k3, ← Nat.add_mul]; exact Nat.mul_le_mul_right _ hroom
      have hr := run_append_room' (P := P) (w := w) t ty e e' i hu hi g xs.length capx arr k2 ady ys.length capy (flat us ys.length) hnl hnews h1c hroom hfit
      rw [hs'] at hr hfit
      have hxl : (flat vs xs.length).length = xs.length * sz := flat_length _ hxs
      -- what lies in the row already
      have hpre : ∀ q, q < xs.length * sz → arr[q]? = (flat vs xs.length)[q]? := fun q hq => by
        have hq' : q < (flat vs xs.length).length := by omega
        have := holds q _ (List.getElem?_eq_getElem hq')
        rw [Addr.add_lit, Nat.zero_add, cell_of_row w g q arr e' (0, 0) k2] at this
        rw [this, List.getElem?_eq_getElem hq']
      let arr' : Array Value := (arr.toList.take (xs.length * sz) ++ flat us ys.length ++ arr.toList.drop (xs.length * sz + (flat us ys.length).length)).toArray
      have htl : (arr.toList.take (xs.length * sz)).length = xs.length * sz := by
        have ha : arr.toList.length = arr.size := Array.length_toList
        rw [List.length_take, ha]; omega
      have hsz' : arr'.size = arr.size := by
        simp only [arr', List.size_toArray, List.length_append, List.length_drop, Array.length_toList, htl]; omega
      have hget : ∀ q, arr'[q]? = (arr.toList.take (xs.length * sz) ++ flat us ys.length ++ arr.toList.drop (xs.length * sz + (flat us ys.length).length))[q]? := fun q => List.getElem?_toArray
      have hsame : ∀ q, q < h.gr k * sz → arr'[q]? = arr[q]? := fun q hq => by
        rw [hgr] at hq
        rw [hget, List.append_assoc, List.getElem?_append_left (by omega), List.getElem?_take, if_pos hq, Array.getElem?_toList]
      have hall : ∀ q, q < (xs.length + ys.length) * sz → arr'[q]? = (flat vs xs.length ++ flat us ys.length)[q]? := fun q hq => by
        rw [hget, List.getElem?_append_left (by rw [List.length_append, htl, hul, ← Nat.add_mul]; exact hq)]
        by_cases hql : q < xs.length * sz
        · rw [List.getElem?_append_left (by omega), List.getElem?_take, if_pos hql, Array.getElem?_toList, hpre q hql]
          rw [List.getElem?_append_left (by omega)]
        · rw [List.getElem?_append_right (by omega), List.getElem?_append_right (by omega), htl, hxl]
      have h1a : ∀ (q : Nat) (u : Value), q < (xs.length + ys.length) * sz → arr'[q]? = some u → u.oneCell' = true := fun q u hq hf => by
        rw [hall q hq] at hf
        rcases Nat.lt_or_ge q (flat vs xs.length).length with hl2 | hl2
        · rw [List.getElem?_append_left hl2] at hf; exact (holds2 _ _ hf).2
        · rw [List.getElem?_append_right hl2] at hf; exact (hnews2 _ _ hf).2
      obtain ⟨ρ', hle, hg', hp, hR'⟩ := hR.growIn hk hg arr' k2 hsz' (xs.length + ys.length) hroom (by omega) hsame h1a
      refine ⟨_, _, ρ', hr, hle, hR', ?_⟩
      refine value vs hle hxv hxs hg' hroom k5 (fun q u hq hf => hp q u (by rw [← List.length_append]; exact hq) ?_)
      rw [List.length_append, flat_add] at hf
      rw [hall q (by rw [← List.length_append]; exact hq)]
      exact hf
    · have hr := run_append_grow (P := P) w t ty e i zv hu hi hzz ⟨g, 0, none⟩ xs.length capx (flat vs xs.length) (by rw [flat_length _ hxs, hs']) holds ady ys.length capy (flat us ys.length) hnl hnews (by omega) (by omega) (growslice_fits (by omega) (by rw [hb']; exact hbig))
      have hge := grownCap_ge w (xs.length + ys.length) capx e
      have hcm := grownCap_le_maxLen w (xs.length + ys.length) capx e hmx
      obtain ⟨hsz, hpre, h1c⟩ := newRow vs _ capx rfl hxv hxs (fun q u hq => (holds2 q u hq).2) (by omega) _ _ rfl hge hcm
      obtain ⟨ρ', hle, hg', hp, hR'⟩ := hR.drew.growMove hk _ e (xs.length + ys.length) _ sz hsz hge hcm (by omega) h1c hg
      refine ⟨_, _, ρ', hr, hle, hR', ?_⟩
      exact value vs hle hxv hxs hg' hge hcm (fun q u hq hf => hp q u (by rw [← List.length_append]; exact hq) (hpre q u hq hf))
end
end Go.Eng
