/- An engine, part 1: abstract values and abstract memory, how they stand for the model's values and memory, and what each change of memory leaves. Over any program. -/
import Derived.Orders
import Derived.Below
import Derived.Laws.Cells
import Derived.Laws.Rows
import Derived.Laws.Tables
import Derived.Laws.AppendOwn
import Derived.Laws.Append
import Derived.Laws.CopyRow
import Derived.Laws.MakeOwn
set_option linter.unusedVariables false
set_option linter.unusedSimpArgs false
namespace Go.Eng
open Go.RowKit (Below)

/-- What is known of a slice's spare room: nothing; none is there; what has been appended last to row number κ lies at its end. -/
inductive Gr where
  | ro | full | own (κ : Nat)
  deriving DecidableEq

/-- The same of a slice of a block that may be written. -/
inductive Cp where
  | ro | full | grow (sz : Nat)
  deriving DecidableEq

inductive AV where
  | int (k : IntKind) (n : Int)
  | bool (b : Bool)
  | str (s : ByteArray)
  | nilp
  | ptr (b o : Nat)
  | eptr (v : AV)
  | nils
  | tree (sz : Nat) (xs : List AV) (g : Gr)
  | bsl (b o len : Nat) (c : Cp)
  | func (fn : Fn) (fst cap : List AV)
  | nilf
  | iface (t : TypeId) (v : AV)
  | nili
  | agg (cs : List AV)
  | tup (vs : List AV)
  | junk
  deriving Inhabited

/-- Abstract memory: blocks that may be written; how long the rows are that are being appended to. -/
structure AH where
  f : Nat → Option (List AV)
  n : Nat
  gr : Nat → Nat
  k : Nat

structure Ip where
  w0 : World
  prot : Addr → Option Value
  phi : Nat → Option (Nat × Nat)
  nb : Nat
  gam : Nat → Option (Nat × Nat × Nat × Nat)
  ng : Nat

/-- Values that lead to nothing that is ever written. -/
inductive PV (pr : Addr → Option Value) : AV → Value → Prop where
  | int (k n) : PV pr (.int k n) (.int k n)
  | bool (b) : PV pr (.bool b) (.bool b)
  | str (s) : PV pr (.str s) (.string s)
  | nilp : PV pr .nilp (.pointer none)
  | nils : PV pr .nils (.slice none 0 0)
  | none_ (sz g) (hg : g = .ro ∨ g = .full) : PV pr (.tree sz [] g) (.slice none 0 0)
  | tree (sz xs g ad cap) (vs : Nat → Value) (hcap : xs.length ≤ cap) (hmax : cap ≤ maxLen) (hg : g = .ro ∨ (g = .full ∧ cap = xs.length))
      (hv : ∀ i (h : i < xs.length), PV pr xs[i] (vs i)) (hs : ∀ i, i < xs.length → (vs i).cells.size = sz)
      (hc : ∀ i j, i < xs.length → j < sz → pr (ad.add (i * sz + j)) = some ((vs i).cells.getD j undef)) : PV pr (.tree sz xs g) (.slice (some ad) xs.length cap)
  | eptr (v vc ad) (hv : PV pr v vc) (hc : ∀ j, j < vc.cells.size → pr (ad.add j) = some (vc.cells.getD j undef)) : PV pr (.eptr v) (.pointer (some ad))
  | nilf : PV pr .nilf .nilFunc
  | nili : PV pr .nili .nilIface
  | iface (t v vc) (hv : PV pr v vc) : PV pr (.iface t v) (.iface t vc)
  | func (fn) (fst cap : List AV) (vf vc : Array Value) (hf : fst.length = vf.size) (hc : cap.length = vc.size)
      (h1 : ∀ i (h : i < fst.length), PV pr fst[i] (vf.getD i undef)) (h2 : ∀ i (h : i < cap.length), PV pr cap[i] (vc.getD i undef)) : PV pr (.func fn fst cap) (.func fn vf vc)
  | agg (cs) (vs : Array Value) (hl : cs.length = vs.size) (hv : ∀ i (h : i < cs.length), PV pr cs[i] (vs.getD i undef)) (h1 : ∀ i, i < vs.size → (vs.getD i undef).oneCell' = true) : PV pr (.agg cs) (.agg vs)
  | tup (cs) (vs : Array Value) (hl : cs.length = vs.size) (hv : ∀ i (h : i < cs.length), PV pr cs[i] (vs.getD i undef)) : PV pr (.tup cs) (.tuple vs)

/-- Values as a slot holds them. -/
inductive RV (ρ : Ip) : AV → Value → Prop where
  | pure (v vc) (h : PV ρ.prot v vc) : RV ρ v vc
  | own (sz xs κ ad cap g n c) (hg : ρ.gam κ = some (g, n, c, sz)) (hn : xs.length ≤ n) (ht : PV ρ.prot (.tree sz xs .ro) (.slice (some ad) xs.length cap)) (hl : xs.length = n → ad = ⟨g, 0, none⟩ ∧ cap = c) :
      RV ρ (.tree sz xs (.own κ)) (.slice (some ad) xs.length cap)
  | ptr (b o ad) (hb : b < ρ.nb) (h : ∀ g n, ρ.phi b = some (g, n) → ad = ⟨g, o, none⟩) : RV ρ (.ptr b o) (.pointer (some ad))
  | bsl (b o len c ad cap) (hb : b < ρ.nb) (hcap : len ≤ cap) (hmax : cap ≤ maxLen) (h : ∀ g n, ρ.phi b = some (g, n) → ad = ⟨g, o, none⟩)
      (hc : c = .full → cap = len) (hg : ∀ sz, c = .grow sz → o = 0 ∧ ∀ g n, ρ.phi b = some (g, n) → cap * sz = n) : RV ρ (.bsl b o len c) (.slice (some ad) len cap)
  | iface (t v vc) (hv : RV ρ v vc) : RV ρ (.iface t v) (.iface t vc)
  | func (fn) (fst cap : List AV) (vf vc : Array Value) (hf : fst.length = vf.size) (hc : cap.length = vc.size)
      (h1 : ∀ i (h : i < fst.length), RV ρ fst[i] (vf.getD i undef)) (h2 : ∀ i (h : i < cap.length), RV ρ cap[i] (vc.getD i undef)) : RV ρ (.func fn fst cap) (.func fn vf vc)
  | agg (cs) (vs : Array Value) (hl : cs.length = vs.size) (hv : ∀ i (h : i < cs.length), RV ρ cs[i] (vs.getD i undef)) (h1 : ∀ i, i < vs.size → (vs.getD i undef).oneCell' = true) : RV ρ (.agg cs) (.agg vs)
  | tup (cs) (vs : Array Value) (hl : cs.length = vs.size) (hv : ∀ i (h : i < cs.length), RV ρ cs[i] (vs.getD i undef)) : RV ρ (.tup cs) (.tuple vs)
  | junk (vc) : RV ρ .junk vc

structure Ip.Le (ρ ρ' : Ip) : Prop where
  w0 : ρ'.w0 = ρ.w0
  prot : ∀ a u, ρ.prot a = some u → ρ'.prot a = some u
  gam : ∀ κ g n c s, ρ.gam κ = some (g, n, c, s) → ∃ g' n' c', ρ'.gam κ = some (g', n', c', s) ∧ n ≤ n' ∧ (n = n' → g' = g ∧ c' = c)
  nb : ρ.nb ≤ ρ'.nb
  phi : ∀ b x, b < ρ.nb → ρ'.phi b = some x → ρ.phi b = some x

theorem Ip.Le.refl (ρ : Ip) : ρ.Le ρ := ⟨rfl, fun _ _ h => h, fun κ g n c s h => ⟨g, n, c, h, Nat.le_refl _, fun _ => ⟨rfl, rfl⟩⟩, Nat.le_refl _, fun _ _ _ h => h⟩
theorem Ip.Le.trans {a b c : Ip} (h : a.Le b) (k : b.Le c) : a.Le c := by
  refine ⟨k.w0.trans h.w0, fun x u hx => k.prot x u (h.prot x u hx), fun κ g n cc s hx => ?_, Nat.le_trans h.nb k.nb, fun x y hx hy => h.phi x y hx (k.phi x y (Nat.lt_of_lt_of_le hx h.nb) hy)⟩
  obtain ⟨g', n', c', h1, h2, h3⟩ := h.gam κ g n cc s hx
  obtain ⟨g'', n'', c'', k1, k2, k3⟩ := k.gam κ g' n' c' s h1
  refine ⟨g'', n'', c'', k1, Nat.le_trans h2 k2, fun e => ?_⟩
  have e1 : n = n' := by omega
  have e2 : n' = n'' := by omega
  obtain ⟨a1, a2⟩ := h3 e1
  obtain ⟨b1, b2⟩ := k3 e2
  exact ⟨b1.trans a1, b2.trans a2⟩

theorem PV.mono {pr pr' : Addr → Option Value} (hp : ∀ a u, pr a = some u → pr' a = some u) {v : AV} {vc : Value} (h : PV pr v vc) : PV pr' v vc := by
  induction h with
  | int => exact .int _ _
  | bool => exact .bool _
  | str => exact .str _
  | nilp => exact .nilp
  | nils => exact .nils
  | none_ sz g hg => exact .none_ _ _ hg
  | tree sz xs g ad cap vs hcap hmax hg _ hs hc ih => exact .tree sz xs g ad cap vs hcap hmax hg ih hs (fun i j hi hj => hp _ _ (hc i j hi hj))
  | eptr v vc ad _ hc ih => exact .eptr v vc ad ih (fun j hj => hp _ _ (hc j hj))
  | nilf => exact .nilf
  | nili => exact .nili
  | iface t v vc _ ih => exact .iface t v vc ih
  | func fn fst cap vf vc hf hc _ _ i1 i2 => exact .func fn fst cap vf vc hf hc i1 i2
  | agg cs vs hl _ h1 ih => exact .agg cs vs hl ih h1
  | tup cs vs hl _ ih => exact .tup cs vs hl ih

theorem RV.mono {ρ ρ' : Ip} (hp : ρ.Le ρ') {v : AV} {vc : Value} (h : RV ρ v vc) : RV ρ' v vc := by
  induction h with
  | pure v vc h => exact .pure v vc (h.mono hp.prot)
  | own sz xs κ ad cap g n c hg hn ht hl =>
    obtain ⟨g', n', c', h1, h2, h3⟩ := hp.gam κ g n c sz hg
    refine .own sz xs κ ad cap g' n' c' h1 (by omega) (ht.mono hp.prot) (fun e => ?_)
    obtain ⟨a1, a2⟩ := h3 (by omega)
    obtain ⟨b1, b2⟩ := hl (by omega)
    exact ⟨by rw [b1, a1], by rw [b2, a2]⟩
  | ptr b o ad hb h => exact .ptr b o ad (Nat.lt_of_lt_of_le hb hp.nb) (fun g n hx => h g n (hp.phi b _ hb hx))
  | bsl b o len c ad cap hb hcap hmax h hc hg =>
    exact .bsl b o len c ad cap (Nat.lt_of_lt_of_le hb hp.nb) hcap hmax (fun g n hx => h g n (hp.phi b _ hb hx)) hc (fun sz e => ⟨(hg sz e).1, fun g n hx => (hg sz e).2 g n (hp.phi b _ hb hx)⟩)
  | iface t v vc _ ih => exact .iface t v vc ih
  | func fn fst cap vf vc hf hc _ _ i1 i2 => exact .func fn fst cap vf vc hf hc i1 i2
  | agg cs vs hl _ h1 ih => exact .agg cs vs hl ih h1
  | tup cs vs hl _ ih => exact .tup cs vs hl ih
  | junk vc => exact .junk vc

/-- The abstract memory stands for the world's. -/
structure RH (ρ : Ip) (H : AH) (w : World) : Prop where
  below : Below ρ.w0.heap.size ρ.w0 w
  prot : ∀ a u, ρ.prot a = some u → w.cell? a = some u ∧ u.oneCell' = true
  nb : ρ.nb = H.n
  ng : ρ.ng = H.k
  blk : ∀ b cs, H.f b = some cs → b < H.n ∧ ∃ g arr e, ρ.phi b = some (g, arr.size) ∧ w.heap[g]? = some (.cells arr e (0, 0)) ∧ cs.length ≤ arr.size ∧
    ∀ i (h : i < cs.length), RV ρ cs[i] (arr.getD i undef) ∧ (arr.getD i undef).oneCell' = true
  phi : ∀ b x, ρ.phi b = some x → ∃ cs, H.f b = some cs
  fresh : ∀ b g n, ρ.phi b = some (g, n) → ρ.w0.heap.size ≤ g ∧ g < w.heap.size ∧ ∀ a, a.block = g → ρ.prot a = none
  inj : ∀ b b' g n n', ρ.phi b = some (g, n) → ρ.phi b' = some (g, n') → b = b'
  gam : ∀ κ, κ < H.k → ∃ g c s arr e, ρ.gam κ = some (g, H.gr κ, c, s) ∧ w.heap[g]? = some (.cells arr e (0, 0)) ∧ arr.size = c * s ∧ H.gr κ ≤ c ∧ c ≤ maxLen ∧ ρ.w0.heap.size ≤ g ∧
    (∀ a, a.block = g → H.gr κ * s ≤ a.off → ρ.prot a = none) ∧ (∀ b n, ρ.phi b ≠ some (g, n)) ∧ (∀ κ' n c' s', κ' < H.k → ρ.gam κ' = some (g, n, c', s') → κ' = κ)
  gnone : ∀ κ x, ρ.gam κ = some x → κ < H.k

theorem RH.drew {ρ : Ip} {H : AH} {w : World} (h : RH ρ H w) : RH ρ H w.drew := ⟨⟨h.below.os, h.below.tape, h.below.output, h.below.size, h.below.block⟩, h.prot, h.nb, h.ng, h.blk, h.phi, h.fresh, h.inj, h.gam, h.gnone⟩


def upd {α : Type} (f : Nat → α) (i : Nat) (v : α) : Nat → α := fun j => if j = i then v else f j
theorem upd_same {α : Type} (f : Nat → α) (i : Nat) (v : α) : upd f i v i = v := by simp [upd]
theorem upd_ne {α : Type} (f : Nat → α) {i j : Nat} (v : α) (h : j ≠ i) : upd f i v j = f j := by simp [upd, h]

theorem cell_heap {w : World} {a : Addr} {u : Value} (h : w.cell? a = some u) : ∃ c e fr, w.heap[a.block]? = some (.cells c e fr) ∧ a.spot = none ∧ c[a.off]? = some u := by
  unfold World.cell? at h
  split at h
  · rename_i c e fr hb
    refine ⟨c, e, fr, hb, ?_, ?_⟩
    · cases hs : a.spot with
      | none => rfl
      | some _ => simp [hs] at h
    · cases hs : a.spot with
      | none => simpa [hs] using h
      | some _ => simp [hs] at h
  · cases h

theorem alloc_last (w : World) (o : Obj) : (w.alloc o).heap[w.heap.size]? = some o := heap_alloc_new w o
theorem alloc_old (w : World) (o : Obj) (k : Nat) (h : k < w.heap.size) : (w.alloc o).heap[k]? = w.heap[k]? := Go.RowKit.Below.heap_alloc w o k h

theorem lt_of_heap {w : World} {g : Nat} {o : Obj} (h : w.heap[g]? = some o) : g < w.heap.size := by
  rcases Nat.lt_or_ge g w.heap.size with h1 | h1
  · exact h1
  · rw [Array.getElem?_eq_none h1] at h; cases h

section
variable {ρ : Ip} {H : AH} {w : World}

theorem RH.prot_lt (h : RH ρ H w) {a : Addr} {u : Value} (hp : ρ.prot a = some u) : a.block < w.heap.size := World.block_lt_of_cell? w a (h.prot a u hp).1

/-- A block that may be written is made. -/
theorem RH.alloc (h : RH ρ H w) (cs : List AV) (arr : Array Value) (e : TypeId) (hl : cs.length ≤ arr.size)
    (hv : ∀ i (h : i < cs.length), RV ρ cs[i] (arr.getD i undef) ∧ (arr.getD i undef).oneCell' = true) :
    ∃ ρ', ρ.Le ρ' ∧ ρ'.phi H.n = some (w.heap.size, arr.size) ∧ ρ'.nb = H.n + 1 ∧ RH ρ' { H with f := upd H.f H.n (some cs), n := H.n + 1 } (w.alloc (.cells arr e)) := by
  let ρ' : Ip := { ρ with phi := upd ρ.phi H.n (some (w.heap.size, arr.size)), nb := H.n + 1 }
  have hle : ρ.Le ρ' := ⟨rfl, fun _ _ x => x, fun κ g n c s x => ⟨g, n, c, x, Nat.le_refl _, fun _ => ⟨rfl, rfl⟩⟩, by show ρ.nb ≤ H.n + 1; rw [h.nb]; omega, fun b x hb hx => by
    have hb' : b < H.n := by rw [← h.nb]; exact hb
    have : ρ'.phi b = ρ.phi b := upd_ne _ _ (by omega)
    rw [← this]; exact hx⟩
  have hold : ∀ k, k < w.heap.size → (w.alloc (.cells arr e)).heap[k]? = w.heap[k]? := fun k hk => alloc_old w _ k hk
  refine ⟨ρ', hle, upd_same _ _ _, rfl, ⟨?_, ?_, rfl, h.ng, ?_, ?_, ?_, ?_, ?_, h.gnone⟩⟩
  · exact h.below.alloc (Nat.le_trans (Nat.le_refl _) h.below.size) _
  · intro a u hp
    have hp' : ρ.prot a = some u := hp
    rw [World.cell?_alloc_lt w _ a (h.prot_lt hp')]
    exact h.prot a u hp'
  · intro b cs' hb
    by_cases hbn : b = H.n
    · subst hbn
      have : cs' = cs := by
        have : upd H.f H.n (some cs) H.n = some cs' := hb
        rw [upd_same] at this; exact (Option.some.inj this).symm
      subst this
      exact ⟨Nat.lt_succ_self _, w.heap.size, arr, e, upd_same _ _ _, alloc_last w _, hl, fun i hi => ⟨(hv i hi).1.mono hle, (hv i hi).2⟩⟩
    · have hb' : H.f b = some cs' := by
        have : upd H.f H.n (some cs) b = some cs' := hb
        rwa [upd_ne _ _ hbn] at this
      obtain ⟨h1, g, arr', e', h2, h3, h4, h5⟩ := h.blk b cs' hb'
      exact ⟨Nat.lt_succ_of_lt h1, g, arr', e', (upd_ne _ _ hbn).trans h2, (hold g (lt_of_heap h3)).trans h3, h4, fun i hi => ⟨(h5 i hi).1.mono hle, (h5 i hi).2⟩⟩
  · intro b x hx
    by_cases hbn : b = H.n
    · exact ⟨cs, by rw [hbn]; exact upd_same _ _ _⟩
    · obtain ⟨cs', h'⟩ := h.phi b x ((upd_ne _ _ hbn).symm.trans hx)
      exact ⟨cs', (upd_ne _ _ hbn).trans h'⟩
  · intro b g n hx
    by_cases hbn : b = H.n
    · subst hbn
      have hx' : some (w.heap.size, arr.size) = some (g, n) := (upd_same ρ.phi H.n _).symm.trans hx
      have hg : g = w.heap.size := (Prod.mk.inj (Option.some.inj hx')).1.symm
      subst hg
      refine ⟨h.below.size, by simp, fun a ha => ?_⟩
      show ρ.prot a = none
      cases hp : ρ.prot a with
      | none => rfl
      | some u => have := h.prot_lt hp; omega
    · obtain ⟨h1, h2, h3⟩ := h.fresh b g n ((upd_ne _ _ hbn).symm.trans hx)
      exact ⟨h1, by simp; omega, h3⟩
  · intro b b' g n n' hx hx'
    have key : ∀ c m, c ≠ H.n → ρ'.phi c = some (g, m) → g < w.heap.size := fun c m hc hm => (h.fresh c g m ((upd_ne _ _ hc).symm.trans hm)).2.1
    have last : ∀ m, ρ'.phi H.n = some (g, m) → g = w.heap.size := fun m hm => by
      have hm' : some (w.heap.size, arr.size) = some (g, m) := (upd_same ρ.phi H.n _).symm.trans hm
      exact (Prod.mk.inj (Option.some.inj hm')).1.symm
    by_cases hbn : b = H.n <;> by_cases hbn' : b' = H.n
    · rw [hbn, hbn']
    · subst hbn; have := last n hx; have := key b' n' hbn' hx'; omega
    · subst hbn'; have := last n' hx'; have := key b n hbn hx; omega
    · exact h.inj b b' g n n' ((upd_ne _ _ hbn).symm.trans hx) ((upd_ne _ _ hbn').symm.trans hx')
  · intro κ hκ
    obtain ⟨g, c, s, arr', e', h1, h2, h3, h4, h5, h6, h7, h8, h9⟩ := h.gam κ hκ
    refine ⟨g, c, s, arr', e', h1, (hold g (lt_of_heap h2)).trans h2, h3, h4, h5, h6, h7, fun b n hx => ?_, h9⟩
    by_cases hbn : b = H.n
    · subst hbn
      have hx' : some (w.heap.size, arr.size) = some (g, n) := (upd_same ρ.phi H.n _).symm.trans hx
      have := lt_of_heap h2
      have := (Prod.mk.inj (Option.some.inj hx')).1
      omega
    · exact h8 b n ((upd_ne _ _ hbn).symm.trans hx)

/-- A block that is never written is made. -/
theorem RH.allocT (h : RH ρ H w) (arr : Array Value) (e : TypeId) (h1 : ∀ (j : Nat) (u : Value), arr[j]? = some u → u.oneCell' = true) :
    ∃ ρ', ρ.Le ρ' ∧ (∀ j u, arr[j]? = some u → ρ'.prot ⟨w.heap.size, j, none⟩ = some u) ∧ RH ρ' H (w.alloc (.cells arr e)) := by
  let ρ' : Ip := { ρ with prot := fun a => if a.block = w.heap.size then (if a.spot = none then arr[a.off]? else none) else ρ.prot a }
  have hpn : ∀ a, a.block ≠ w.heap.size → ρ'.prot a = ρ.prot a := fun a ha => if_neg ha
  have hle : ρ.Le ρ' := ⟨rfl, fun a u x => (hpn a (Nat.ne_of_lt (h.prot_lt x))).trans x, fun κ g n c s x => ⟨g, n, c, x, Nat.le_refl _, fun _ => ⟨rfl, rfl⟩⟩, Nat.le_refl _, fun _ _ _ x => x⟩
  have hold : ∀ k, k < w.heap.size → (w.alloc (.cells arr e)).heap[k]? = w.heap[k]? := fun k hk => alloc_old w _ k hk
  refine ⟨ρ', hle, fun j u hj => by show (if w.heap.size = w.heap.size then _ else _) = _; rw [if_pos rfl, if_pos rfl]; exact hj, ⟨?_, ?_, h.nb, h.ng, ?_, h.phi, ?_, h.inj, ?_, h.gnone⟩⟩
  · exact h.below.alloc (Nat.le_trans (Nat.le_refl _) h.below.size) _
  · intro a u hp
    by_cases ha : a.block = w.heap.size
    · have hp' : (if a.spot = none then arr[a.off]? else none) = some u := (if_pos ha).symm.trans hp
      obtain ⟨ab, ao, asp⟩ := a
      cases asp with
      | some _ => simp at hp'
      | none =>
        simp only at ha
        subst ha
        rw [World.cell?_alloc_new]
        have hp2 : arr[ao]? = some u := by simpa using hp'
        exact ⟨hp2, h1 _ _ hp2⟩
    · have hp' : ρ.prot a = some u := (hpn a ha).symm.trans hp
      rw [World.cell?_alloc_lt w _ a (h.prot_lt hp')]
      exact h.prot a u hp'
  · intro b cs' hb
    obtain ⟨h1, g, arr', e', h2, h3, h4, h5⟩ := h.blk b cs' hb
    exact ⟨h1, g, arr', e', h2, (hold g (lt_of_heap h3)).trans h3, h4, fun i hi => ⟨(h5 i hi).1.mono hle, (h5 i hi).2⟩⟩
  · intro b g n hx
    obtain ⟨h1, h2, h3⟩ := h.fresh b g n hx
    exact ⟨h1, by simp; omega, fun a ha => (hpn a (by omega)).trans (h3 a ha)⟩
  · intro κ hκ
    obtain ⟨g, c, s, arr', e', h1, h2, h3, h4, h5, h6, h7, h8, h9⟩ := h.gam κ hκ
    exact ⟨g, c, s, arr', e', h1, (hold g (lt_of_heap h2)).trans h2, h3, h4, h5, h6, fun a ha ho => (hpn a (by have := lt_of_heap h2; omega)).trans (h7 a ha ho), h8, h9⟩

/-- One cell of a block is written. -/
theorem RH.set (h : RH ρ H w) {b : Nat} {cs : List AV} (hb : H.f b = some cs) {o : Nat} (ho : o < cs.length) {v : AV} {u : Value} (hv : RV ρ v u) (h1 : u.oneCell' = true) :
    ∃ g n, ρ.phi b = some (g, n) ∧ (∃ u0, w.cell? ⟨g, o, none⟩ = some u0) ∧ w.frozen? ⟨g, o, none⟩ = false ∧ RH ρ { H with f := upd H.f b (some (cs.set o v)) } (w.setCell ⟨g, o, none⟩ u) := by
  obtain ⟨hbn, g, arr, e, hg, hh, hl, hc⟩ := h.blk b cs hb
  have hoa : o < arr.size := by omega
  refine ⟨g, arr.size, hg, ⟨arr[o], by rw [cell_of_row w g o arr e (0, 0) hh]; exact Array.getElem?_eq_getElem hoa⟩, frozen_of_row w g o arr e hh, ?_⟩
  obtain ⟨hw0, hgs, hgp⟩ := h.fresh b g _ hg
  have hold : ∀ k, k ≠ g → (w.setCell ⟨g, o, none⟩ u).heap[k]? = w.heap[k]? := fun k hk => heap_setCell_other w ⟨g, o, none⟩ k u hk
  have hnew : (w.setCell ⟨g, o, none⟩ u).heap[g]? = some (.cells (arr.setIfInBounds o u) e (0, 0)) := heap_setCell_same w g o arr e u hh
  refine ⟨h.below.setCell hw0 u, fun a x hp => ?_, h.nb, h.ng, ?_, ?_, ?_, h.inj, ?_, h.gnone⟩
  · have : a.block ≠ g := fun he => by rw [hgp a he] at hp; cases hp
    have hca := h.prot a x hp
    rw [World.cell?_setCell_other w _ _ u (fun he => this (by rw [← he]))]
    exact hca
  · intro b' cs' hb'
    by_cases hbb : b' = b
    · subst hbb
      have : cs' = cs.set o v := by
        have : upd H.f b' (some (cs.set o v)) b' = some cs' := hb'
        rw [upd_same] at this; exact (Option.some.inj this).symm
      subst this
      refine ⟨hbn, g, arr.setIfInBounds o u, e, by simpa using hg, hnew, by simpa using hl, fun i hi => ?_⟩
      rw [List.length_set] at hi
      by_cases hio : i = o
      · subst hio
        have : (arr.setIfInBounds i u).getD i undef = u := by simp [Array.getD, hoa]
        rw [this]
        simpa using ⟨hv, h1⟩
      · have : (arr.setIfInBounds o u).getD i undef = arr.getD i undef := by
          simp only [Array.getD_eq_getD_getElem?]
          rw [Array.getElem?_setIfInBounds_ne (by omega)]
        rw [this, List.getElem_set_ne (by omega)]
        exact hc i hi
    · have hb2 : H.f b' = some cs' := by
        have : upd H.f b (some (cs.set o v)) b' = some cs' := hb'
        rwa [upd_ne _ _ hbb] at this
      obtain ⟨k1, g', arr', e', k2, k3, k4, k5⟩ := h.blk b' cs' hb2
      have hgg : g' ≠ g := fun he => hbb (h.inj b' b g _ _ (by rw [← he]; exact k2) hg)
      exact ⟨k1, g', arr', e', k2, (hold g' hgg).trans k3, k4, k5⟩
  · intro b' x hx
    obtain ⟨cs', h'⟩ := h.phi b' x hx
    by_cases hbb : b' = b
    · exact ⟨cs.set o v, by rw [hbb]; exact upd_same _ _ _⟩
    · exact ⟨cs', (upd_ne _ _ hbb).trans h'⟩
  · intro b' g' n hx
    obtain ⟨k1, k2, k3⟩ := h.fresh b' g' n hx
    exact ⟨k1, by simpa using k2, k3⟩
  · intro κ hκ
    obtain ⟨g', c, s, arr', e', k1, k2, k3, k4, k5, k6, k7, k8, k9⟩ := h.gam κ hκ
    have hgg : g' ≠ g := fun he => k8 b arr.size (by rw [he]; exact hg)
    exact ⟨g', c, s, arr', e', k1, (hold g' hgg).trans k2, k3, k4, k5, k6, k7, k8, k9⟩

/-- A block is let go. -/
theorem RH.drop (h : RH ρ H w) (b : Nat) : ∃ ρ', ρ.Le ρ' ∧ RH ρ' { H with f := upd H.f b none } w := by
  let ρ' : Ip := { ρ with phi := upd ρ.phi b none }
  have back : ∀ b' x, ρ'.phi b' = some x → b' ≠ b ∧ ρ.phi b' = some x := fun b' x hx => by
    by_cases hbb : b' = b
    · subst hbb
      have : upd ρ.phi b' none b' = some x := hx
      rw [upd_same] at this; cases this
    · exact ⟨hbb, (upd_ne _ _ hbb).symm.trans hx⟩
  have hle : ρ.Le ρ' := ⟨rfl, fun _ _ x => x, fun κ g n c s x => ⟨g, n, c, x, Nat.le_refl _, fun _ => ⟨rfl, rfl⟩⟩, Nat.le_refl _, fun b' x _ hx => (back b' x hx).2⟩
  refine ⟨ρ', hle, ⟨h.below, h.prot, h.nb, h.ng, ?_, ?_, ?_, ?_, ?_, h.gnone⟩⟩
  · intro b' cs' hb'
    by_cases hbb : b' = b
    · subst hbb
      have : upd H.f b' none b' = some cs' := hb'
      rw [upd_same] at this; cases this
    · have hb2 : H.f b' = some cs' := (upd_ne _ _ hbb).symm.trans hb'
      obtain ⟨k1, g', arr', e', k2, k3, k4, k5⟩ := h.blk b' cs' hb2
      exact ⟨k1, g', arr', e', (upd_ne _ _ hbb).trans k2, k3, k4, fun i hi => ⟨(k5 i hi).1.mono hle, (k5 i hi).2⟩⟩
  · intro b' x hx
    obtain ⟨hbb, hx'⟩ := back b' x hx
    obtain ⟨cs', h'⟩ := h.phi b' x hx'
    exact ⟨cs', (upd_ne _ _ hbb).trans h'⟩
  · exact fun b' g n hx => h.fresh b' g n (back b' _ hx).2
  · exact fun b1 b2 g n n' hx hx' => h.inj b1 b2 g n n' (back b1 _ hx).2 (back b2 _ hx').2
  · intro κ hκ
    obtain ⟨g', c, s, arr', e', k1, k2, k3, k4, k5, k6, k7, k8, k9⟩ := h.gam κ hκ
    exact ⟨g', c, s, arr', e', k1, k2, k3, k4, k5, k6, k7, fun b' n hx => k8 b' n (back b' _ hx).2, k9⟩

/-- A row is begun that will be appended to: its first n elements are never written again. -/
theorem RH.growNew (h : RH ρ H w) (arr : Array Value) (e : TypeId) (n c s : Nat) (hsz : arr.size = c * s) (hn : n ≤ c) (hc : c ≤ maxLen) (h1 : ∀ (j : Nat) (u : Value), j < n * s → arr[j]? = some u → u.oneCell' = true) :
    ∃ ρ', ρ.Le ρ' ∧ ρ'.gam H.k = some (w.heap.size, n, c, s) ∧ (∀ j u, j < n * s → arr[j]? = some u → ρ'.prot ⟨w.heap.size, j, none⟩ = some u) ∧
      RH ρ' { H with gr := upd H.gr H.k n, k := H.k + 1 } (w.alloc (.cells arr e)) := by
  let ρ' : Ip := { ρ with prot := fun a => if a.block = w.heap.size then (if a.spot = none ∧ a.off < n * s then arr[a.off]? else none) else ρ.prot a, gam := upd ρ.gam H.k (some (w.heap.size, n, c, s)), ng := H.k + 1 }
  have hpn : ∀ a, a.block ≠ w.heap.size → ρ'.prot a = ρ.prot a := fun a ha => if_neg ha
  have hgn : ∀ κ, κ ≠ H.k → ρ'.gam κ = ρ.gam κ := fun κ hk => upd_ne _ _ hk
  have hle : ρ.Le ρ' := ⟨rfl, fun a u x => (hpn a (Nat.ne_of_lt (h.prot_lt x))).trans x, fun κ g n c s x => ⟨g, n, c, (hgn κ (Nat.ne_of_lt (h.gnone κ _ x))).trans x, Nat.le_refl _, fun _ => ⟨rfl, rfl⟩⟩, Nat.le_refl _, fun _ _ _ x => x⟩
  have hold : ∀ k, k < w.heap.size → (w.alloc (.cells arr e)).heap[k]? = w.heap[k]? := fun k hk => alloc_old w _ k hk
  refine ⟨ρ', hle, upd_same _ _ _, fun j u hj hu => by show (if w.heap.size = w.heap.size then _ else _) = _; rw [if_pos rfl, if_pos ⟨rfl, hj⟩]; exact hu, ⟨?_, ?_, h.nb, rfl, ?_, h.phi, ?_, h.inj, ?_, ?_⟩⟩
  · exact h.below.alloc (Nat.le_trans (Nat.le_refl _) h.below.size) _
  · intro a u hp
    by_cases ha : a.block = w.heap.size
    · have hp' : (if a.spot = none ∧ a.off < n * s then arr[a.off]? else none) = some u := (if_pos ha).symm.trans hp
      obtain ⟨ab, ao, asp⟩ := a
      cases asp with
      | some _ => simp at hp'
      | none =>
        simp only at ha
        subst ha
        rw [World.cell?_alloc_new]
        split at hp'
        · rename_i hlt'
          exact ⟨hp', h1 _ _ hlt'.2 hp'⟩
        · cases hp'
    · have hp' : ρ.prot a = some u := (hpn a ha).symm.trans hp
      rw [World.cell?_alloc_lt w _ a (h.prot_lt hp')]
      exact h.prot a u hp'
  · intro b cs' hb
    obtain ⟨h1, g, arr', e', h2, h3, h4, h5⟩ := h.blk b cs' hb
    exact ⟨h1, g, arr', e', h2, (hold g (lt_of_heap h3)).trans h3, h4, fun i hi => ⟨(h5 i hi).1.mono hle, (h5 i hi).2⟩⟩
  · intro b g m hx
    obtain ⟨h1, h2, h3⟩ := h.fresh b g m hx
    exact ⟨h1, by simp; omega, fun a ha => (hpn a (by omega)).trans (h3 a ha)⟩
  · intro κ hκ
    by_cases hk : κ = H.k
    · subst hk
      refine ⟨w.heap.size, c, s, arr, e, by rw [show ρ'.gam H.k = _ from upd_same _ _ _]; simp [upd_same], alloc_last w _, hsz, by simpa [upd_same] using hn, hc, h.below.size, fun a ha ho => ?_, fun b m hx => ?_, fun κ' m c' s' hk' hx => ?_⟩
      · show (if a.block = w.heap.size then _ else _) = none
        rw [if_pos ha, if_neg (by simp only [upd_same] at ho; omega)]
      · have := (h.fresh b _ m hx).2.1; omega
      · by_cases hkk : κ' = H.k
        · exact hkk
        · have hx' := (hgn κ' hkk).symm.trans hx
          obtain ⟨g2, c2, s2, arr2, e2, h1, h2, _⟩ := h.gam κ' (h.gnone κ' _ hx')
          rw [hx'] at h1
          have hg2 := (Prod.mk.inj (Option.some.inj h1)).1
          have := lt_of_heap h2
          omega
    · have hκ' : κ < H.k := by have : κ < H.k + 1 := hκ; omega
      obtain ⟨g, c', s', arr', e', h1, h2, h3, h4, h5, h6, h7, h8, h9⟩ := h.gam κ hκ'
      have hgl := lt_of_heap h2
      have hgr : upd H.gr H.k n κ = H.gr κ := upd_ne _ _ hk
      refine ⟨g, c', s', arr', e', by show ρ'.gam κ = _; rw [hgn κ hk, h1]; simp [hgr], (hold g hgl).trans h2, h3, by simpa [hgr] using h4, h5, h6, fun a ha ho => (hpn a (by omega)).trans (h7 a ha (by simpa [hgr] using ho)), h8, fun κ' m c2 s2 hk' hx => ?_⟩
      by_cases hkk : κ' = H.k
      · subst hkk
        have hx' : some (w.heap.size, n, c, s) = some (g, m, c2, s2) := (upd_same ρ.gam H.k _).symm.trans hx
        have := (Prod.mk.inj (Option.some.inj hx')).1
        omega
      · have hx' := (hgn κ' hkk).symm.trans hx
        exact h9 κ' m c2 s2 (h.gnone κ' _ hx') hx'
  · intro κ x hx
    by_cases hk : κ = H.k
    · show κ < H.k + 1; omega
    · have := h.gnone κ x ((hgn κ hk).symm.trans hx)
      show κ < H.k + 1; omega

/-- The row κ is moved to a new place, where it is longer. -/
theorem RH.growMove (h : RH ρ H w) {κ : Nat} (hκ : κ < H.k) (arr : Array Value) (e : TypeId) (n c s : Nat) (hsz : arr.size = c * s) (hn : n ≤ c) (hc : c ≤ maxLen) (hlt : H.gr κ < n) (h1 : ∀ (j : Nat) (u : Value), j < n * s → arr[j]? = some u → u.oneCell' = true)
    {g0 c0 : Nat} (hs : ρ.gam κ = some (g0, H.gr κ, c0, s)) :
    ∃ ρ', ρ.Le ρ' ∧ ρ'.gam κ = some (w.heap.size, n, c, s) ∧ (∀ j u, j < n * s → arr[j]? = some u → ρ'.prot ⟨w.heap.size, j, none⟩ = some u) ∧
      RH ρ' { H with gr := upd H.gr κ n } (w.alloc (.cells arr e)) := by
  let ρ' : Ip := { ρ with prot := fun a => if a.block = w.heap.size then (if a.spot = none ∧ a.off < n * s then arr[a.off]? else none) else ρ.prot a, gam := upd ρ.gam κ (some (w.heap.size, n, c, s)) }
  have hpn : ∀ a, a.block ≠ w.heap.size → ρ'.prot a = ρ.prot a := fun a ha => if_neg ha
  have hgn : ∀ κ', κ' ≠ κ → ρ'.gam κ' = ρ.gam κ' := fun κ' hk => upd_ne _ _ hk
  have hle : ρ.Le ρ' := ⟨rfl, fun a u x => (hpn a (Nat.ne_of_lt (h.prot_lt x))).trans x, fun κ' g m c' s' x => by
    by_cases hk : κ' = κ
    · subst hk
      rw [hs] at x
      simp only [Option.some.injEq, Prod.mk.injEq] at x
      obtain ⟨rfl, rfl, rfl, rfl⟩ := x
      exact ⟨w.heap.size, n, c, upd_same _ _ _, by omega, fun he => by omega⟩
    · exact ⟨g, m, c', (hgn κ' hk).trans x, Nat.le_refl _, fun _ => ⟨rfl, rfl⟩⟩, Nat.le_refl _, fun _ _ _ x => x⟩
  have hold : ∀ k, k < w.heap.size → (w.alloc (.cells arr e)).heap[k]? = w.heap[k]? := fun k hk => alloc_old w _ k hk
  refine ⟨ρ', hle, upd_same _ _ _, fun j u hj hu => by show (if w.heap.size = w.heap.size then _ else _) = _; rw [if_pos rfl, if_pos ⟨rfl, hj⟩]; exact hu, ⟨?_, ?_, h.nb, h.ng, ?_, h.phi, ?_, h.inj, ?_, ?_⟩⟩
  · exact h.below.alloc (Nat.le_trans (Nat.le_refl _) h.below.size) _
  · intro a u hp
    by_cases ha : a.block = w.heap.size
    · have hp' : (if a.spot = none ∧ a.off < n * s then arr[a.off]? else none) = some u := (if_pos ha).symm.trans hp
      obtain ⟨ab, ao, asp⟩ := a
      cases asp with
      | some _ => simp at hp'
      | none =>
        simp only at ha
        subst ha
        rw [World.cell?_alloc_new]
        split at hp'
        · rename_i hlt'
          exact ⟨hp', h1 _ _ hlt'.2 hp'⟩
        · cases hp'
    · have hp' : ρ.prot a = some u := (hpn a ha).symm.trans hp
      rw [World.cell?_alloc_lt w _ a (h.prot_lt hp')]
      exact h.prot a u hp'
  · intro b cs' hb
    obtain ⟨h1, g, arr', e', h2, h3, h4, h5⟩ := h.blk b cs' hb
    exact ⟨h1, g, arr', e', h2, (hold g (lt_of_heap h3)).trans h3, h4, fun i hi => ⟨(h5 i hi).1.mono hle, (h5 i hi).2⟩⟩
  · intro b g m hx
    obtain ⟨h1, h2, h3⟩ := h.fresh b g m hx
    exact ⟨h1, by simp; omega, fun a ha => (hpn a (by omega)).trans (h3 a ha)⟩
  · intro κ1 hκ1
    by_cases hk : κ1 = κ
    · subst hk
      refine ⟨w.heap.size, c, s, arr, e, by rw [show ρ'.gam κ1 = _ from upd_same _ _ _]; simp [upd_same], alloc_last w _, hsz, by simpa [upd_same] using hn, hc, h.below.size, fun a ha ho => ?_, fun b m hx => ?_, fun κ' m c' s' hk' hx => ?_⟩
      · show (if a.block = w.heap.size then _ else _) = none
        rw [if_pos ha, if_neg (by simp only [upd_same] at ho; omega)]
      · have := (h.fresh b _ m hx).2.1; omega
      · by_cases hkk : κ' = κ1
        · exact hkk
        · have hx' := (hgn κ' hkk).symm.trans hx
          obtain ⟨g2, c2, s2, arr2, e2, h1, h2, _⟩ := h.gam κ' (h.gnone κ' _ hx')
          rw [hx'] at h1
          have hg2 := (Prod.mk.inj (Option.some.inj h1)).1
          have := lt_of_heap h2
          omega
    · obtain ⟨g, c', s', arr', e', h1, h2, h3, h4, h5, h6, h7, h8, h9⟩ := h.gam κ1 hκ1
      have hgl := lt_of_heap h2
      have hgr : upd H.gr κ n κ1 = H.gr κ1 := upd_ne _ _ hk
      refine ⟨g, c', s', arr', e', by show ρ'.gam κ1 = _; rw [hgn κ1 hk, h1]; simp [hgr], (hold g hgl).trans h2, h3, by simpa [hgr] using h4, h5, h6, fun a ha ho => (hpn a (by omega)).trans (h7 a ha (by simpa [hgr] using ho)), h8, fun κ' m c2 s2 hk' hx => ?_⟩
      by_cases hkk : κ' = κ
      · subst hkk
        have hx' : some (w.heap.size, n, c, s) = some (g, m, c2, s2) := (upd_same ρ.gam κ' _).symm.trans hx
        have := (Prod.mk.inj (Option.some.inj hx')).1
        omega
      · have hx' := (hgn κ' hkk).symm.trans hx
        exact h9 κ' m c2 s2 hk' hx'
  · intro κ1 x hx
    by_cases hk : κ1 = κ
    · rw [hk]; exact hκ
    · exact h.gnone κ1 x ((hgn κ1 hk).symm.trans hx)

/-- The row κ grows in its place. -/
theorem RH.growIn (h : RH ρ H w) {κ : Nat} (hκ : κ < H.k) {g c s : Nat} (hg : ρ.gam κ = some (g, H.gr κ, c, s)) (arr : Array Value) {old : Array Value} {e : TypeId} (ho : w.heap[g]? = some (.cells old e (0, 0)))
    (hsz : arr.size = old.size) (n : Nat) (hn : n ≤ c) (hlt : H.gr κ < n) (hpre : ∀ j, j < H.gr κ * s → arr[j]? = old[j]?) (hone : ∀ (j : Nat) (u : Value), j < n * s → arr[j]? = some u → u.oneCell' = true) :
    ∃ ρ', ρ.Le ρ' ∧ ρ'.gam κ = some (g, n, c, s) ∧ (∀ j u, j < n * s → arr[j]? = some u → ρ'.prot ⟨g, j, none⟩ = some u) ∧
      RH ρ' { H with gr := upd H.gr κ n } (w.setRow g arr) := by
  obtain ⟨g1, c1, s1, arr1, e1, h1, h2, h3, h4, h5, h6, h7, h8, h9⟩ := h.gam κ hκ
  rw [hg] at h1
  simp only [Option.some.injEq, Prod.mk.injEq] at h1
  obtain ⟨rfl, -, rfl, rfl⟩ := h1
  rw [ho] at h2
  have h2' := Option.some.inj h2
  injection h2' with h2a h2b h2c
  subst h2a
  let ρ' : Ip := { ρ with prot := fun a => if a.block = g ∧ a.spot = none ∧ a.off < n * s then arr[a.off]? else ρ.prot a, gam := upd ρ.gam κ (some (g, n, c, s)) }
  have hpg : ∀ a, a.block ≠ g → ρ'.prot a = ρ.prot a := fun a ha => if_neg (fun x => ha x.1)
  have hgn : ∀ κ', κ' ≠ κ → ρ'.gam κ' = ρ.gam κ' := fun κ' hk => upd_ne _ _ hk
  have hnew : (w.setRow g arr).heap[g]? = some (.cells arr e (0, 0)) := setRow_heap w g old arr e (0, 0) ho
  have hold : ∀ k, k ≠ g → (w.setRow g arr).heap[k]? = w.heap[k]? := fun k hk => setRow_other w g k arr hk
  -- what was protected in this block: the elements before
  have hprev : ∀ a u, a.block = g → ρ.prot a = some u → a.spot = none ∧ a.off < H.gr κ * s ∧ old[a.off]? = some u := by
    intro a u ha hp
    obtain ⟨c2, e2, fr2, k1, k2, k3⟩ := cell_heap (h.prot a u hp).1
    rw [ha, ho] at k1
    injection k1 with k1
    injection k1 with k1a _ _
    subst k1a
    refine ⟨k2, ?_, k3⟩
    rcases Nat.lt_or_ge a.off (H.gr κ * s) with hx | hx
    · exact hx
    · rw [h7 a ha hx] at hp; cases hp
  have hmul : H.gr κ * s ≤ n * s := Nat.mul_le_mul_right _ (Nat.le_of_lt hlt)
  have hle : ρ.Le ρ' := ⟨rfl, fun a u x => by
    by_cases ha : a.block = g
    · obtain ⟨k1, k2, k3⟩ := hprev a u ha x
      show (if a.block = g ∧ a.spot = none ∧ a.off < n * s then arr[a.off]? else ρ.prot a) = some u
      rw [if_pos ⟨ha, k1, by omega⟩, hpre _ k2]
      exact k3
    · exact (hpg a ha).trans x, fun κ' g' m c' s' x => by
    by_cases hk : κ' = κ
    · subst hk
      rw [hg] at x
      simp only [Option.some.injEq, Prod.mk.injEq] at x
      obtain ⟨rfl, rfl, rfl, rfl⟩ := x
      exact ⟨g, n, c, upd_same _ _ _, by omega, fun he => by omega⟩
    · exact ⟨g', m, c', (hgn κ' hk).trans x, Nat.le_refl _, fun _ => ⟨rfl, rfl⟩⟩, Nat.le_refl _, fun _ _ _ x => x⟩
  refine ⟨ρ', hle, upd_same _ _ _, fun j u hj hu => by show (if g = g ∧ (none : Option Nat) = none ∧ j < n * s then arr[j]? else _) = _; rw [if_pos ⟨rfl, rfl, hj⟩]; exact hu, ⟨?_, ?_, h.nb, h.ng, ?_, h.phi, ?_, h.inj, ?_, ?_⟩⟩
  · exact ⟨h.below.os, h.below.tape, h.below.output, by simpa using h.below.size, fun k hk => (hold k (by have hk' : k < ρ.w0.heap.size := hk; omega)).trans (h.below.block k hk)⟩
  · intro a u hp
    by_cases ha : a.block = g ∧ a.spot = none ∧ a.off < n * s
    · have hp' : arr[a.off]? = some u := (if_pos ha).symm.trans hp
      obtain ⟨ab, ao, asp⟩ := a
      obtain ⟨rfl, rfl, hlt'⟩ := ha
      rw [cell_of_row _ ab ao arr e (0, 0) hnew]
      exact ⟨hp', hone _ _ hlt' hp'⟩
    · have hp' : ρ.prot a = some u := (if_neg ha).symm.trans hp
      by_cases hag : a.block = g
      · obtain ⟨k1, k2, k3⟩ := hprev a u hag hp'
        exact absurd ⟨hag, k1, by omega⟩ ha
      · rw [World.cell?_of_block (hold a.block hag)]
        exact h.prot a u hp'
  · intro b cs' hb
    obtain ⟨k1, g', arr', e', k2, k3, k4, k5⟩ := h.blk b cs' hb
    have hgg : g' ≠ g := fun he => h8 b arr'.size (by rw [← he]; exact k2)
    exact ⟨k1, g', arr', e', k2, (hold g' hgg).trans k3, k4, fun i hi => ⟨(k5 i hi).1.mono hle, (k5 i hi).2⟩⟩
  · intro b g' m hx
    obtain ⟨k1, k2, k3⟩ := h.fresh b g' m hx
    have hgg : g' ≠ g := fun he => h8 b m (by rw [← he]; exact hx)
    exact ⟨k1, by simpa using k2, fun a ha => (hpg a (by omega)).trans (k3 a ha)⟩
  · intro κ1 hκ1
    by_cases hk : κ1 = κ
    · subst hk
      refine ⟨g, c, s, arr, e, by rw [show ρ'.gam κ1 = _ from upd_same _ _ _]; simp [upd_same], hnew, by rw [hsz, h3], by simpa [upd_same] using hn, h5, h6, fun a ha hof => ?_, h8, fun κ' m c' s' hk' hx => ?_⟩
      · simp only [upd_same] at hof
        show (if a.block = g ∧ a.spot = none ∧ a.off < n * s then arr[a.off]? else ρ.prot a) = none
        rw [if_neg (by omega)]
        exact h7 a ha (by omega)
      · by_cases hkk : κ' = κ1
        · exact hkk
        · exact h9 κ' m c' s' hk' ((hgn κ' hkk).symm.trans hx)
    · obtain ⟨g', c', s', arr', e', k1, k2, k3, k4, k5, k6, k7, k8, k9⟩ := h.gam κ1 hκ1
      have hgr : upd H.gr κ n κ1 = H.gr κ1 := upd_ne _ _ hk
      have hgg : g' ≠ g := fun he => hk (k9 κ _ _ _ hκ (by rw [he]; exact hg)).symm
      refine ⟨g', c', s', arr', e', by show ρ'.gam κ1 = _; rw [hgn κ1 hk, k1]; simp [hgr], (hold g' hgg).trans k2, k3, by simpa [hgr] using k4, k5, k6, fun a ha hof => (hpg a (by omega)).trans (k7 a ha (by simpa [hgr] using hof)), k8, fun κ' m c2 s2 hk' hx => ?_⟩
      by_cases hkk : κ' = κ
      · subst hkk
        have hx' : some (g, n, c, s) = some (g', m, c2, s2) := (upd_same ρ.gam κ' _).symm.trans hx
        exact absurd (Prod.mk.inj (Option.some.inj hx')).1.symm hgg
      · exact k9 κ' m c2 s2 hk' ((hgn κ' hkk).symm.trans hx)
  · intro κ1 x hx
    by_cases hk : κ1 = κ
    · rw [hk]; exact hκ
    · exact h.gnone κ1 x ((hgn κ1 hk).symm.trans hx)
end
end Go.Eng
