/- An engine, part 2: what values look like, constants, types, and the operations on abstract values. Over any program. -/
import Derived.Test.YtgfhddockofdnaaE1
set_option linter.unusedVariables false
set_option linter.unusedSimpArgs false
namespace Go.Eng
open Go.RowKit (Below)

/-! ### what a value looks like -/
section
variable {ρ : Ip} {vc : Value}
theorem inv_int {k n} (h : RV ρ (.int k n) vc) : vc = .int k n := by cases h with | pure _ _ h => cases h; rfl
theorem inv_bool {b} (h : RV ρ (.bool b) vc) : vc = .bool b := by cases h with | pure _ _ h => cases h; rfl
theorem inv_str {b} (h : RV ρ (.str b) vc) : vc = .string b := by cases h with | pure _ _ h => cases h; rfl
theorem inv_nils (h : RV ρ .nils vc) : vc = .slice none 0 0 := by cases h with | pure _ _ h => cases h; rfl
theorem inv_nilp (h : RV ρ .nilp vc) : vc = .pointer none := by cases h with | pure _ _ h => cases h; rfl
theorem inv_nilf (h : RV ρ .nilf vc) : vc = .nilFunc := by cases h with | pure _ _ h => cases h; rfl
theorem inv_nili (h : RV ρ .nili vc) : vc = .nilIface := by cases h with | pure _ _ h => cases h; rfl
theorem inv_iface {t v} (h : RV ρ (.iface t v) vc) : ∃ u, vc = .iface t u ∧ RV ρ v u := by
  cases h with
  | pure _ _ h => cases h with | iface _ _ u hu => exact ⟨u, rfl, .pure _ _ hu⟩
  | iface _ _ u hu => exact ⟨u, rfl, hu⟩
theorem inv_agg {cs} (h : RV ρ (.agg cs) vc) : ∃ vs, vc = .agg vs ∧ cs.length = vs.size ∧ (∀ i (h : i < cs.length), RV ρ cs[i] (vs.getD i undef)) ∧ ∀ i, i < vs.size → (vs.getD i undef).oneCell' = true := by
  cases h with
  | pure _ _ h => cases h with | agg _ vs hl hv h1 => exact ⟨vs, rfl, hl, fun i hi => .pure _ _ (hv i hi), h1⟩
  | agg _ vs hl hv h1 => exact ⟨vs, rfl, hl, hv, h1⟩
theorem inv_tup {cs} (h : RV ρ (.tup cs) vc) : ∃ vs, vc = .tuple vs ∧ cs.length = vs.size ∧ (∀ i (h : i < cs.length), RV ρ cs[i] (vs.getD i undef)) := by
  cases h with
  | pure _ _ h => cases h with | tup _ vs hl hv => exact ⟨vs, rfl, hl, fun i hi => .pure _ _ (hv i hi)⟩
  | tup _ vs hl hv => exact ⟨vs, rfl, hl, hv⟩
theorem inv_func {fn a b} (h : RV ρ (.func fn a b) vc) : ∃ vf vb, vc = .func fn vf vb ∧ a.length = vf.size ∧ b.length = vb.size ∧ (∀ i (h : i < a.length), RV ρ a[i] (vf.getD i undef)) ∧ (∀ i (h : i < b.length), RV ρ b[i] (vb.getD i undef)) := by
  cases h with
  | pure _ _ h => cases h with | func _ _ _ vf vb h1 h2 h3 h4 => exact ⟨vf, vb, rfl, h1, h2, fun i hi => .pure _ _ (h3 i hi), fun i hi => .pure _ _ (h4 i hi)⟩
  | func _ _ _ vf vb h1 h2 h3 h4 => exact ⟨vf, vb, rfl, h1, h2, h3, h4⟩
theorem inv_ptr {b o} (h : RV ρ (.ptr b o) vc) : ∃ ad, vc = .pointer (some ad) ∧ b < ρ.nb ∧ ∀ g n, ρ.phi b = some (g, n) → ad = ⟨g, o, none⟩ := by
  cases h with
  | pure _ _ h => cases h
  | ptr _ _ ad hb h => exact ⟨ad, rfl, hb, h⟩
theorem inv_eptr {v} (h : RV ρ (.eptr v) vc) : ∃ ad u, vc = .pointer (some ad) ∧ PV ρ.prot v u ∧ ∀ j, j < u.cells.size → ρ.prot (ad.add j) = some (u.cells.getD j undef) := by
  cases h with
  | pure _ _ h => cases h with | eptr _ u ad hv hc => exact ⟨ad, u, rfl, hv, hc⟩
theorem inv_bsl {b o len c} (h : RV ρ (.bsl b o len c) vc) : ∃ ad cap, vc = .slice (some ad) len cap ∧ b < ρ.nb ∧ len ≤ cap ∧ cap ≤ maxLen ∧ (∀ g n, ρ.phi b = some (g, n) → ad = ⟨g, o, none⟩) ∧ (c = .full → cap = len) ∧
    (∀ sz, c = .grow sz → o = 0 ∧ ∀ g n, ρ.phi b = some (g, n) → cap * sz = n) := by
  cases h with
  | pure _ _ h => cases h
  | bsl _ _ _ _ ad cap hb hcap hmax h hc hg => exact ⟨ad, cap, rfl, hb, hcap, hmax, h, hc, hg⟩
/-- A slice that is never written: empty and nil, or its elements lie where its address says. -/
theorem pinv_tree {pr : Addr → Option Value} {sz xs g} (h : PV pr (.tree sz xs g) vc) : (xs = [] ∧ vc = .slice none 0 0 ∧ (g = .ro ∨ g = .full)) ∨ ∃ (ad : Addr) (cap : Nat) (vs : Nat → Value), vc = .slice (some ad) xs.length cap ∧ xs.length ≤ cap ∧ cap ≤ maxLen ∧ (g = .ro ∨ (g = .full ∧ cap = xs.length)) ∧
    (∀ i (h : i < xs.length), PV pr xs[i] (vs i)) ∧ (∀ i, i < xs.length → (vs i).cells.size = sz) ∧ (∀ i j, i < xs.length → j < sz → pr (ad.add (i * sz + j)) = some ((vs i).cells.getD j undef)) := by
  cases h with
  | none_ _ _ hg => exact .inl ⟨rfl, rfl, hg⟩
  | tree _ _ _ ad cap vs h1 h2 h3 h4 h5 h6 => exact .inr ⟨ad, cap, vs, rfl, h1, h2, h3, h4, h5, h6⟩
theorem inv_tree {sz xs g} (h : RV ρ (.tree sz xs g) vc) : (xs = [] ∧ vc = .slice none 0 0 ∧ (g = .ro ∨ g = .full)) ∨ ∃ (ad : Addr) (cap : Nat) (vs : Nat → Value), vc = .slice (some ad) xs.length cap ∧ xs.length ≤ cap ∧ cap ≤ maxLen ∧ (g = .full → cap = xs.length) ∧
    (∀ i (h : i < xs.length), PV ρ.prot xs[i] (vs i)) ∧ (∀ i, i < xs.length → (vs i).cells.size = sz) ∧ (∀ i j, i < xs.length → j < sz → ρ.prot (ad.add (i * sz + j)) = some ((vs i).cells.getD j undef)) := by
  cases h with
  | pure _ _ h =>
    rcases pinv_tree h with h | ⟨ad, cap, vs, h1, h2, h3, h4, h5, h6, h7⟩
    · exact .inl h
    · refine .inr ⟨ad, cap, vs, h1, h2, h3, fun e => ?_, h5, h6, h7⟩
      rcases h4 with h4 | h4
      · rw [e] at h4; cases h4
      · exact h4.2
  | own _ _ κ ad cap g n c hg hn ht hl =>
    rcases pinv_tree ht with ⟨-, h, -⟩ | ⟨ad', cap', vs, h1, h2, h3, h4, h5, h6, h7⟩
    · cases h
    · injection h1 with h1 _ h1'
      injection h1 with h1
      subst h1; subst h1'
      exact .inr ⟨ad, cap, vs, rfl, h2, h3, (fun e => by cases e), h5, h6, h7⟩
/-- What is known of the spare room may be forgotten. -/
theorem PV.ro {pr : Addr → Option Value} {sz xs g} (h : PV pr (.tree sz xs g) vc) : PV pr (.tree sz xs .ro) vc := by
  rcases pinv_tree h with ⟨rfl, rfl, -⟩ | ⟨ad, cap, vs, rfl, h2, h3, h4, h5, h6, h7⟩
  · exact .none_ _ _ (.inl rfl)
  · exact .tree _ _ _ _ _ vs h2 h3 (.inl rfl) h5 h6 h7
theorem RV.ro {sz xs g} (h : RV ρ (.tree sz xs g) vc) : PV ρ.prot (.tree sz xs .ro) vc := by
  rcases inv_tree h with ⟨rfl, rfl, -⟩ | ⟨ad, cap, vs, rfl, h2, h3, h4, h5, h6, h7⟩
  · exact .none_ _ _ (.inl rfl)
  · exact .tree _ _ _ _ _ vs h2 h3 (.inl rfl) h5 h6 h7
end

/-! ### values that lead to nothing that is written -/
mutual
def pur : AV → Bool
  | .ptr _ _ => false
  | .bsl _ _ _ _ => false
  | .junk => false
  | .iface _ v => pur v
  | .func _ a b => purL a && purL b
  | .agg cs => purL cs
  | .tup cs => purL cs
  | .int _ _ => true
  | .bool _ => true
  | .str _ => true
  | .nilp => true
  | .eptr _ => true
  | .nils => true
  | .tree _ _ _ => true
  | .nilf => true
  | .nili => true
def purL : List AV → Bool
  | [] => true
  | v :: vs => pur v && purL vs
end
mutual
def roA : AV → AV
  | .tree sz xs (.own _) => .tree sz xs .ro
  | .tree sz xs .ro => .tree sz xs .ro
  | .tree sz xs .full => .tree sz xs .full
  | .iface t v => .iface t (roA v)
  | .func fn a b => .func fn (roL a) (roL b)
  | .agg cs => .agg (roL cs)
  | .tup cs => .tup (roL cs)
  | .ptr b o => .ptr b o
  | .bsl b o n c => .bsl b o n c
  | .junk => .junk
  | .int k n => .int k n
  | .bool b => .bool b
  | .str s => .str s
  | .nilp => .nilp
  | .eptr v => .eptr v
  | .nils => .nils
  | .nilf => .nilf
  | .nili => .nili
def roL : List AV → List AV
  | [] => []
  | v :: vs => roA v :: roL vs
end
theorem roL_length : ∀ l : List AV, (roL l).length = l.length
  | [] => rfl
  | v :: vs => by rw [roL, List.length_cons, List.length_cons, roL_length vs]
theorem roL_get : ∀ (l : List AV) (i : Nat) (h : i < (roL l).length), (roL l)[i] = roA (l[i]'(by rw [roL_length] at h; exact h))
  | [], i, h => absurd h (by rw [roL]; exact Nat.not_lt_zero _)
  | v :: vs, 0, h => by simp only [roL, List.getElem_cons_zero]
  | v :: vs, i + 1, h => by
    simp only [roL, List.getElem_cons_succ]
    exact roL_get vs i (by rw [roL] at h; simpa using h)
theorem purL_get : ∀ (l : List AV), purL l = true → ∀ (i : Nat) (h : i < l.length), pur l[i] = true
  | [], _, i, h => absurd h (Nat.not_lt_zero _)
  | v :: vs, hp, 0, h => by rw [purL, Bool.and_eq_true] at hp; exact hp.1
  | v :: vs, hp, i + 1, h => by rw [purL, Bool.and_eq_true] at hp; exact purL_get vs hp.2 i (by simpa using h)

theorem pure_PV {pr : Addr → Option Value} {v : AV} {vc : Value} (h : PV pr v vc) : PV pr (roA v) vc := by
  induction h with
  | int => simp only [roA]; exact .int _ _
  | bool => simp only [roA]; exact .bool _
  | str => simp only [roA]; exact .str _
  | nilp => simp only [roA]; exact .nilp
  | nils => simp only [roA]; exact .nils
  | none_ sz g hg => rcases hg with rfl | rfl <;> simp only [roA] <;> exact .none_ _ _ (by simp)
  | tree sz xs g ad cap vs hcap hmax hg hv hs hc _ =>
    rcases hg with rfl | ⟨rfl, h2⟩ <;> simp only [roA]
    · exact .tree sz xs _ ad cap vs hcap hmax (.inl rfl) hv hs hc
    · exact .tree sz xs _ ad cap vs hcap hmax (.inr ⟨rfl, h2⟩) hv hs hc
  | eptr v vc ad hv hc _ => simp only [roA]; exact .eptr v vc ad hv hc
  | nilf => simp only [roA]; exact .nilf
  | nili => simp only [roA]; exact .nili
  | iface t v vc _ ih => simp only [roA]; exact .iface t _ vc ih
  | func fn fst cap vf vc hf hc _ _ i1 i2 =>
    simp only [roA]
    exact .func fn _ _ vf vc (by rw [roL_length]; exact hf) (by rw [roL_length]; exact hc) (fun i hi => by rw [roL_get]; exact i1 i _) (fun i hi => by rw [roL_get]; exact i2 i _)
  | agg cs vs hl _ h1 ih => simp only [roA]; exact .agg _ vs (by rw [roL_length]; exact hl) (fun i hi => by rw [roL_get]; exact ih i _) h1
  | tup cs vs hl _ ih => simp only [roA]; exact .tup _ vs (by rw [roL_length]; exact hl) (fun i hi => by rw [roL_get]; exact ih i _)

theorem pure_RV {ρ : Ip} {v : AV} {vc : Value} (h : RV ρ v vc) : pur v = true → PV ρ.prot (roA v) vc := by
  induction h with
  | pure v vc h => exact fun _ => pure_PV h
  | own sz xs κ ad cap g n c hg hn ht hl => intro _; simp only [roA]; exact ht
  | ptr => intro h; simp [pur] at h
  | bsl => intro h; simp [pur] at h
  | iface t v vc _ ih => intro h; simp only [roA]; exact .iface t _ vc (ih (by simpa [pur] using h))
  | func fn fst cap vf vc hf hc _ _ i1 i2 =>
    intro h
    rw [pur, Bool.and_eq_true] at h
    simp only [roA]
    exact .func fn _ _ vf vc (by rw [roL_length]; exact hf) (by rw [roL_length]; exact hc) (fun i hi => by rw [roL_get]; exact i1 i _ (purL_get _ h.1 i _)) (fun i hi => by rw [roL_get]; exact i2 i _ (purL_get _ h.2 i _))
  | agg cs vs hl _ h1 ih =>
    intro h
    rw [pur] at h
    simp only [roA]; exact .agg _ vs (by rw [roL_length]; exact hl) (fun i hi => by rw [roL_get]; exact ih i _ (purL_get _ h i _)) h1
  | tup cs vs hl _ ih =>
    intro h
    rw [pur] at h
    simp only [roA]; exact .tup _ vs (by rw [roL_length]; exact hl) (fun i hi => by rw [roL_get]; exact ih i _ (purL_get _ h i _))
  | junk => intro h; simp [pur] at h

/-! ### cells -/
def cellsA : AV → List AV
  | .agg cs => cs
  | v => [v]
/-- A value of one cell. -/
def oneA : AV → Bool
  | .agg _ => false
  | .tup _ => false
  | .junk => false
  | _ => true
/-- A value that can lie in memory. -/
def memA : AV → Bool
  | .tup _ => false
  | .junk => false
  | _ => true
theorem PV.one {pr : Addr → Option Value} {v : AV} {vc : Value} (h : PV pr v vc) (h1 : oneA v = true) : vc.oneCell' = true ∧ vc.cells = #[vc] := by
  cases h <;> first | exact ⟨rfl, rfl⟩ | simp [oneA] at h1
theorem RV.one {ρ : Ip} {v : AV} {vc : Value} (h : RV ρ v vc) (h1 : oneA v = true) : vc.oneCell' = true ∧ vc.cells = #[vc] := by
  cases h with
  | pure _ _ h => exact h.one h1
  | _ => first | exact ⟨rfl, rfl⟩ | simp [oneA] at h1
theorem RV.cells {ρ : Ip} {v : AV} {vc : Value} (h : RV ρ v vc) (h1 : memA v = true) : (cellsA v).length = vc.cells.size ∧ (∀ i (hi : i < (cellsA v).length), RV ρ (cellsA v)[i] (vc.cells.getD i undef)) ∧ ∀ i, i < vc.cells.size → (vc.cells.getD i undef).oneCell' = true := by
  by_cases ho : oneA v = true
  · obtain ⟨h2, h3⟩ := h.one ho
    have hc : cellsA v = [v] := by cases v <;> first | rfl | simp [oneA] at ho
    rw [h3, hc]
    refine ⟨rfl, fun i hi => ?_, fun i hi => ?_⟩
    · have : i = 0 := by simpa using hi
      subst this
      exact h
    · have : i = 0 := by simpa using hi
      subst this
      exact h2
  · cases v <;> first | (exfalso; exact ho rfl) | (simp [memA] at h1; done) | skip
    obtain ⟨vs, rfl, hl, hv, h1⟩ := inv_agg h
    exact ⟨hl, hv, h1⟩
theorem PV.cells {pr : Addr → Option Value} {v : AV} {vc : Value} (h : PV pr v vc) (h1 : memA v = true) : (cellsA v).length = vc.cells.size ∧ (∀ i (hi : i < (cellsA v).length), PV pr (cellsA v)[i] (vc.cells.getD i undef)) ∧ ∀ i, i < vc.cells.size → (vc.cells.getD i undef).oneCell' = true := by
  by_cases ho : oneA v = true
  · obtain ⟨h2, h3⟩ := h.one ho
    have hc : cellsA v = [v] := by cases v <;> first | rfl | simp [oneA] at ho
    rw [h3, hc]
    refine ⟨rfl, fun i hi => ?_, fun i hi => ?_⟩
    · have : i = 0 := by simpa using hi
      subst this
      exact h
    · have : i = 0 := by simpa using hi
      subst this
      exact h2
  · cases v <;> first | (exfalso; exact ho rfl) | (simp [memA] at h1; done) | skip
    cases h with | agg _ vs hl hv h1 => exact ⟨hl, hv, h1⟩

/-! ### constants -/
def ofV1 : Value → Option AV
  | .int k n => some (.int k n)
  | .bool b => some (.bool b)
  | .string s => some (.str s)
  | .pointer none => some .nilp
  | .slice none 0 0 => some .nils
  | .nilFunc => some .nilf
  | .nilIface => some .nili
  | _ => none
def ofVs : List Value → Option (List AV)
  | [] => some []
  | v :: vs => (ofV1 v).bind fun a => (ofVs vs).map fun as_ => a :: as_
def ofV : Value → Option AV
  | .agg cs => (ofVs cs.toList).map .agg
  | v => ofV1 v
theorem ofV1_PV {pr : Addr → Option Value} {v : Value} {a : AV} (h : ofV1 v = some a) : PV pr a v ∧ v.oneCell' = true := by
  unfold ofV1 at h
  split at h <;> first | (injection h with h; subst h; exact ⟨by constructor, rfl⟩) | cases h
theorem ofVs_PV {pr : Addr → Option Value} : ∀ {vs : List Value} {as_ : List AV}, ofVs vs = some as_ → as_.length = vs.length ∧ ∀ i (h : i < as_.length), PV pr as_[i] (vs.getD i undef) ∧ (vs.getD i undef).oneCell' = true
  | [], as_, h => by
    simp only [ofVs, Option.some.injEq] at h
    subst h
    exact ⟨rfl, fun i hi => absurd hi (Nat.not_lt_zero _)⟩
  | v :: vs, as_, h => by
    simp only [ofVs] at h
    obtain ⟨a, h1, h2⟩ := Option.bind_eq_some_iff.1 h
    obtain ⟨bs, h3, rfl⟩ := Option.map_eq_some_iff.1 h2
    obtain ⟨k1, k2⟩ := ofVs_PV (pr := pr) h3
    refine ⟨by simp [k1], fun i hi => ?_⟩
    cases i with
    | zero => simpa using ofV1_PV h1
    | succ i => simpa using k2 i (by simpa using hi)
theorem ofV_PV {pr : Addr → Option Value} {v : Value} {a : AV} (h : ofV v = some a) : PV pr a v := by
  unfold ofV at h
  split at h
  · rename_i cs
    obtain ⟨bs, h3, rfl⟩ := Option.map_eq_some_iff.1 h
    obtain ⟨k1, k2⟩ := ofVs_PV (pr := pr) h3
    have hg : ∀ i, cs.getD i undef = cs.toList.getD i undef := fun i => by simp [List.getD, Array.getD_eq_getD_getElem?]
    refine .agg _ _ (by simpa using k1) (fun i hi => ?_) (fun i hi => ?_)
    · rw [hg]; exact (k2 i hi).1
    · rw [hg]; exact (k2 i (by rw [k1]; simpa using hi)).2
  · exact (ofV1_PV h).1

/-! ### types -/
def szT (P : Program) (t : TypeId) : Option Nat := (P.info? t).map (·.size)
def byT (P : Program) (t : TypeId) : Option Nat := (P.info? t).map (·.bytes)
def zrT (P : Program) (t : TypeId) : Option AV := (P.info? t).bind fun i => i.zero.bind ofV
def agT (P : Program) (t : TypeId) : Option Bool := match P.underlying t with
  | some (.struct _) => some true
  | some (.array _ _) => some true
  | some _ => some false
  | none => none
def elT (P : Program) (t : TypeId) : Option TypeId := match P.underlying t with
  | some (.slice e) => some e
  | _ => none
def flT (P : Program) (t : TypeId) (f : Nat) : Option (Nat × TypeId) := match P.underlying t with
  | some (.struct fs) => (fs[f]?).map fun f => (f.offset, f.type)
  | _ => none
/-- Kinds of types: 0 bool, 1 int, 2 string, 3 slice, 4 other. -/
def knT (P : Program) (t : TypeId) : Option Nat := match P.underlying t with
  | some .bool => some 0
  | some (.int _) => some 1
  | some .string => some 2
  | some (.slice _) => some 3
  | some _ => some 4
  | none => none

end Go.Eng
