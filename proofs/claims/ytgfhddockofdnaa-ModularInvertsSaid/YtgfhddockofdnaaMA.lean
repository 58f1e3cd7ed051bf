/- Texts E1 E2 E3 E4 E5 E5b E6 of an engine over abstract values and of the walks of this program, one after the other. -/
import Derived.Orders
import Derived.Below
import Derived.Laws.Cells
import Derived.Laws.Rows
import Derived.Laws.Tables
import Derived.Laws.AppendOwn
import Derived.Laws.Append
import Derived.Laws.CopyRow
import Derived.Laws.MakeOwn
import Derived.Laws.Build
import Derived.Laws.Small
/- An engine, part 1: abstract values and abstract memory, how they stand for the model's values and memory, and what each change of memory leaves. Over any program. -/
set_option linter.unusedVariables false
set_option linter.unusedSimpArgs false
namespace Go.Eng
open Go.RowKit (Below)

/-- What is known of a slice's spare room: nothing; none is there; what has been appended last to row number κ lies at its end. -/
inductive Gr where
  | ro | full | own (κ : Nat)
  deriving DecidableEq

/-- The same of a slice of a block that may be written. -/
inductive Cp where
  | ro | full | grow (sz : Nat)
  deriving DecidableEq

inductive AV where
  | int (k : IntKind) (n : Int)
  | bool (b : Bool)
  | str (s : ByteArray)
  | nilp
  | ptr (b o : Nat)
  | eptr (v : AV)
  | nils
  | tree (sz : Nat) (xs : List AV) (g : Gr)
  | bsl (b o len : Nat) (c : Cp)
  | func (fn : Fn) (fst cap : List AV)
  | nilf
  | iface (t : TypeId) (v : AV)
  | nili
  | agg (cs : List AV)
  | tup (vs : List AV)
  | junk
  deriving Inhabited

/-- Abstract memory: blocks that may be written; how long the rows are that are being appended to. -/
structure AH where
  f : Nat → Option (List AV)
  n : Nat
  gr : Nat → Nat
  k : Nat

structure Ip where
  w0 : World
  prot : Addr → Option Value
  phi : Nat → Option (Nat × Nat)
  nb : Nat
  gam : Nat → Option (Nat × Nat × Nat × Nat)
  ng : Nat

/-- Values that lead to nothing that is ever written. -/
inductive PV (pr : Addr → Option Value) : AV → Value → Prop where
  | int (k n) : PV pr (.int k n) (.int k n)
  | bool (b) : PV pr (.bool b) (.bool b)
  | str (s) : PV pr (.str s) (.string s)
  | nilp : PV pr .nilp (.pointer none)
  | nils : PV pr .nils (.slice none 0 0)
  | none_ (sz g) (hg : g = .ro ∨ g = .full) : PV pr (.tree sz [] g) (.slice none 0 0)
  | tree (sz xs g ad cap) (vs : Nat → Value) (hcap : xs.length ≤ cap) (hmax : cap ≤ maxLen) (hg : g = .ro ∨ (g = .full ∧ cap = xs.length))
      (hv : ∀ i (h : i < xs.length), PV pr xs[i] (vs i)) (hs : ∀ i, i < xs.length → (vs i).cells.size = sz)
      (hc : ∀ i j, i < xs.length → j < sz → pr (ad.add (i * sz + j)) = some ((vs i).cells.getD j undef)) : PV pr (.tree sz xs g) (.slice (some ad) xs.length cap)
  | eptr (v vc ad) (hv : PV pr v vc) (hc : ∀ j, j < vc.cells.size → pr (ad.add j) = some (vc.cells.getD j undef)) : PV pr (.eptr v) (.pointer (some ad))
  | nilf : PV pr .nilf .nilFunc
  | nili : PV pr .nili .nilIface
  | iface (t v vc) (hv : PV pr v vc) : PV pr (.iface t v) (.iface t vc)
  | func (fn) (fst cap : List AV) (vf vc : Array Value) (hf : fst.length = vf.size) (hc : cap.length = vc.size)
      (h1 : ∀ i (h : i < fst.length), PV pr fst[i] (vf.getD i undef)) (h2 : ∀ i (h : i < cap.length), PV pr cap[i] (vc.getD i undef)) : PV pr (.func fn fst cap) (.func fn vf vc)
  | agg (cs) (vs : Array Value) (hl : cs.length = vs.size) (hv : ∀ i (h : i < cs.length), PV pr cs[i] (vs.getD i undef)) (h1 : ∀ i, i < vs.size → (vs.getD i undef).oneCell' = true) : PV pr (.agg cs) (.agg vs)
  | tup (cs) (vs : Array Value) (hl : cs.length = vs.size) (hv : ∀ i (h : i < cs.length), PV pr cs[i] (vs.getD i undef)) : PV pr (.tup cs) (.tuple vs)

/-- Values as a slot holds them. -/
inductive RV (ρ : Ip) : AV → Value → Prop where
  | pure (v vc) (h : PV ρ.prot v vc) : RV ρ v vc
  | own (sz xs κ ad cap g n c) (hg : ρ.gam κ = some (g, n, c, sz)) (hn : xs.length ≤ n) (ht : PV ρ.prot (.tree sz xs .ro) (.slice (some ad) xs.length cap)) (hl : xs.length = n → ad = ⟨g, 0, none⟩ ∧ cap = c) :
      RV ρ (.tree sz xs (.own κ)) (.slice (some ad) xs.length cap)
  | ptr (b o ad) (hb : b < ρ.nb) (h : ∀ g n, ρ.phi b = some (g, n) → ad = ⟨g, o, none⟩) : RV ρ (.ptr b o) (.pointer (some ad))
  | bsl (b o len c ad cap) (hb : b < ρ.nb) (hcap : len ≤ cap) (hmax : cap ≤ maxLen) (h : ∀ g n, ρ.phi b = some (g, n) → ad = ⟨g, o, none⟩)
      (hc : c = .full → cap = len) (hg : ∀ sz, c = .grow sz → o = 0 ∧ ∀ g n, ρ.phi b = some (g, n) → cap * sz = n) : RV ρ (.bsl b o len c) (.slice (some ad) len cap)
  | iface (t v vc) (hv : RV ρ v vc) : RV ρ (.iface t v) (.iface t vc)
  | func (fn) (fst cap : List AV) (vf vc : Array Value) (hf : fst.length = vf.size) (hc : cap.length = vc.size)
      (h1 : ∀ i (h : i < fst.length), RV ρ fst[i] (vf.getD i undef)) (h2 : ∀ i (h : i < cap.length), RV ρ cap[i] (vc.getD i undef)) : RV ρ (.func fn fst cap) (.func fn vf vc)
  | agg (cs) (vs : Array Value) (hl : cs.length = vs.size) (hv : ∀ i (h : i < cs.length), RV ρ cs[i] (vs.getD i undef)) (h1 : ∀ i, i < vs.size → (vs.getD i undef).oneCell' = true) : RV ρ (.agg cs) (.agg vs)
  | tup (cs) (vs : Array Value) (hl : cs.length = vs.size) (hv : ∀ i (h : i < cs.length), RV ρ cs[i] (vs.getD i undef)) : RV ρ (.tup cs) (.tuple vs)
  | junk (vc) : RV ρ .junk vc

structure Ip.Le (ρ ρ' : Ip) : Prop where
  w0 : ρ'.w0 = ρ.w0
  prot : ∀ a u, ρ.prot a = some u → ρ'.prot a = some u
  gam : ∀ κ g n c s, ρ.gam κ = some (g, n, c, s) → ∃ g' n' c', ρ'.gam κ = some (g', n', c', s) ∧ n ≤ n' ∧ (n = n' → g' = g ∧ c' = c)
  nb : ρ.nb ≤ ρ'.nb
  phi : ∀ b x, b < ρ.nb → ρ'.phi b = some x → ρ.phi b = some x

theorem Ip.Le.refl (ρ : Ip) : ρ.Le ρ := ⟨rfl, fun _ _ h => h, fun κ g n c s h => ⟨g, n, c, h, Nat.le_refl _, fun _ => ⟨rfl, rfl⟩⟩, Nat.le_refl _, fun _ _ _ h => h⟩
theorem Ip.Le.trans {a b c : Ip} (h : a.Le b) (k : b.Le c) : a.Le c := by
  refine ⟨k.w0.trans h.w0, fun x u hx => k.prot x u (h.prot x u hx), fun κ g n cc s hx => ?_, Nat.le_trans h.nb k.nb, fun x y hx hy => h.phi x y hx (k.phi x y (Nat.lt_of_lt_of_le hx h.nb) hy)⟩
  obtain ⟨g', n', c', h1, h2, h3⟩ := h.gam κ g n cc s hx
  obtain ⟨g'', n'', c'', k1, k2, k3⟩ := k.gam κ g' n' c' s h1
  refine ⟨g'', n'', c'', k1, Nat.le_trans h2 k2, fun e => ?_⟩
  have e1 : n = n' := by omega
  have e2 : n' = n'' := by omega
  obtain ⟨a1, a2⟩ := h3 e1
  obtain ⟨b1, b2⟩ := k3 e2
  exact ⟨b1.trans a1, b2.trans a2⟩

theorem PV.mono {pr pr' : Addr → Option Value} (hp : ∀ a u, pr a = some u → pr' a = some u) {v : AV} {vc : Value} (h : PV pr v vc) : PV pr' v vc := by
  induction h with
  | int => exact .int _ _
  | bool => exact .bool _
  | str => exact .str _
  | nilp => exact .nilp
  | nils => exact .nils
  | none_ sz g hg => exact .none_ _ _ hg
  | tree sz xs g ad cap vs hcap hmax hg _ hs hc ih => exact .tree sz xs g ad cap vs hcap hmax hg ih hs (fun i j hi hj => hp _ _ (hc i j hi hj))
  | eptr v vc ad _ hc ih => exact .eptr v vc ad ih (fun j hj => hp _ _ (hc j hj))
  | nilf => exact .nilf
  | nili => exact .nili
  | iface t v vc _ ih => exact .iface t v vc ih
  | func fn fst cap vf vc hf hc _ _ i1 i2 => exact .func fn fst cap vf vc hf hc i1 i2
  | agg cs vs hl _ h1 ih => exact .agg cs vs hl ih h1
  | tup cs vs hl _ ih => exact .tup cs vs hl ih

theorem RV.mono {ρ ρ' : Ip} (hp : ρ.Le ρ') {v : AV} {vc : Value} (h : RV ρ v vc) : RV ρ' v vc := by
  induction h with
  | pure v vc h => exact .pure v vc (h.mono hp.prot)
  | own sz xs κ ad cap g n c hg hn ht hl =>
    obtain ⟨g', n', c', h1, h2, h3⟩ := hp.gam κ g n c sz hg
    refine .own sz xs κ ad cap g' n' c' h1 (by omega) (ht.mono hp.prot) (fun e => ?_)
    obtain ⟨a1, a2⟩ := h3 (by omega)
    obtain ⟨b1, b2⟩ := hl (by omega)
    exact ⟨by rw [b1, a1], by rw [b2, a2]⟩
  | ptr b o ad hb h => exact .ptr b o ad (Nat.lt_of_lt_of_le hb hp.nb) (fun g n hx => h g n (hp.phi b _ hb hx))
  | bsl b o len c ad cap hb hcap hmax h hc hg =>
    exact .bsl b o len c ad cap (Nat.lt_of_lt_of_le hb hp.nb) hcap hmax (fun g n hx => h g n (hp.phi b _ hb hx)) hc (fun sz e => ⟨(hg sz e).1, fun g n hx => (hg sz e).2 g n (hp.phi b _ hb hx)⟩)
  | iface t v vc _ ih => exact .iface t v vc ih
  | func fn fst cap vf vc hf hc _ _ i1 i2 => exact .func fn fst cap vf vc hf hc i1 i2
  | agg cs vs hl _ h1 ih => exact .agg cs vs hl ih h1
  | tup cs vs hl _ ih => exact .tup cs vs hl ih
  | junk vc => exact .junk vc

/-- The abstract memory stands for the world's. -/
structure RH (ρ : Ip) (H : AH) (w : World) : Prop where
  below : Below ρ.w0.heap.size ρ.w0 w
  prot : ∀ a u, ρ.prot a = some u → w.cell? a = some u ∧ u.oneCell' = true
  nb : ρ.nb = H.n
  ng : ρ.ng = H.k
  blk : ∀ b cs, H.f b = some cs → b < H.n ∧ ∃ g arr e, ρ.phi b = some (g, arr.size) ∧ w.heap[g]? = some (.cells arr e (0, 0)) ∧ cs.length ≤ arr.size ∧
    ∀ i (h : i < cs.length), RV ρ cs[i] (arr.getD i undef) ∧ (arr.getD i undef).oneCell' = true
  phi : ∀ b x, ρ.phi b = some x → ∃ cs, H.f b = some cs
  fresh : ∀ b g n, ρ.phi b = some (g, n) → ρ.w0.heap.size ≤ g ∧ g < w.heap.size ∧ ∀ a, a.block = g → ρ.prot a = none
  inj : ∀ b b' g n n', ρ.phi b = some (g, n) → ρ.phi b' = some (g, n') → b = b'
  gam : ∀ κ, κ < H.k → ∃ g c s arr e, ρ.gam κ = some (g, H.gr κ, c, s) ∧ w.heap[g]? = some (.cells arr e (0, 0)) ∧ arr.size = c * s ∧ H.gr κ ≤ c ∧ c ≤ maxLen ∧ ρ.w0.heap.size ≤ g ∧
    (∀ a, a.block = g → H.gr κ * s ≤ a.off → ρ.prot a = none) ∧ (∀ b n, ρ.phi b ≠ some (g, n)) ∧ (∀ κ' n c' s', κ' < H.k → ρ.gam κ' = some (g, n, c', s') → κ' = κ)
  gnone : ∀ κ x, ρ.gam κ = some x → κ < H.k

theorem RH.drew {ρ : Ip} {H : AH} {w : World} (h : RH ρ H w) : RH ρ H w.drew := ⟨⟨h.below.os, h.below.tape, h.below.output, h.below.size, h.below.block⟩, h.prot, h.nb, h.ng, h.blk, h.phi, h.fresh, h.inj, h.gam, h.gnone⟩


def upd {α : Type} (f : Nat → α) (i : Nat) (v : α) : Nat → α := fun j => if j = i then v else f j
theorem upd_same {α : Type} (f : Nat → α) (i : Nat) (v : α) : upd f i v i = v := by simp [upd]
theorem upd_ne {α : Type} (f : Nat → α) {i j : Nat} (v : α) (h : j ≠ i) : upd f i v j = f j := by simp [upd, h]

theorem cell_heap {w : World} {a : Addr} {u : Value} (h : w.cell? a = some u) : ∃ c e fr, w.heap[a.block]? = some (.cells c e fr) ∧ a.spot = none ∧ c[a.off]? = some u := by
  unfold World.cell? at h
  split at h
  · rename_i c e fr hb
    refine ⟨c, e, fr, hb, ?_, ?_⟩
    · cases hs : a.spot with
      | none => rfl
      | some _ => simp [hs] at h
    · cases hs : a.spot with
      | none => simpa [hs] using h
      | some _ => simp [hs] at h
  · cases h

theorem alloc_last (w : World) (o : Obj) : (w.alloc o).heap[w.heap.size]? = some o := heap_alloc_new w o
theorem alloc_old (w : World) (o : Obj) (k : Nat) (h : k < w.heap.size) : (w.alloc o).heap[k]? = w.heap[k]? := Go.RowKit.Below.heap_alloc w o k h

theorem lt_of_heap {w : World} {g : Nat} {o : Obj} (h : w.heap[g]? = some o) : g < w.heap.size := by
  rcases Nat.lt_or_ge g w.heap.size with h1 | h1
  · exact h1
  · rw [Array.getElem?_eq_none h1] at h; cases h

section
variable {ρ : Ip} {H : AH} {w : World}

theorem RH.prot_lt (h : RH ρ H w) {a : Addr} {u : Value} (hp : ρ.prot a = some u) : a.block < w.heap.size := World.block_lt_of_cell? w a (h.prot a u hp).1

/-- A block that may be written is made. -/
theorem RH.alloc (h : RH ρ H w) (cs : List AV) (arr : Array Value) (e : TypeId) (hl : cs.length ≤ arr.size)
    (hv : ∀ i (h : i < cs.length), RV ρ cs[i] (arr.getD i undef) ∧ (arr.getD i undef).oneCell' = true) :
    ∃ ρ', ρ.Le ρ' ∧ ρ'.phi H.n = some (w.heap.size, arr.size) ∧ ρ'.nb = H.n + 1 ∧ RH ρ' { H with f := upd H.f H.n (some cs), n := H.n + 1 } (w.alloc (.cells arr e)) := by
  let ρ' : Ip := { ρ with phi := upd ρ.phi H.n (some (w.heap.size, arr.size)), nb := H.n + 1 }
  have hle : ρ.Le ρ' := ⟨rfl, fun _ _ x => x, fun κ g n c s x => ⟨g, n, c, x, Nat.le_refl _, fun _ => ⟨rfl, rfl⟩⟩, by show ρ.nb ≤ H.n + 1; rw [h.nb]; omega, fun b x hb hx => by
    have hb' : b < H.n := by rw [← h.nb]; exact hb
    have : ρ'.phi b = ρ.phi b := upd_ne _ _ (by omega)
    rw [← this]; exact hx⟩
  have hold : ∀ k, k < w.heap.size → (w.alloc (.cells arr e)).heap[k]? = w.heap[k]? := fun k hk => alloc_old w _ k hk
  refine ⟨ρ', hle, upd_same _ _ _, rfl, ⟨?_, ?_, rfl, h.ng, ?_, ?_, ?_, ?_, ?_, h.gnone⟩⟩
  · exact h.below.alloc (Nat.le_trans (Nat.le_refl _) h.below.size) _
  · intro a u hp
    have hp' : ρ.prot a = some u := hp
    rw [World.cell?_alloc_lt w _ a (h.prot_lt hp')]
    exact h.prot a u hp'
  · intro b cs' hb
    by_cases hbn : b = H.n
    · subst hbn
      have : cs' = cs := by
        have : upd H.f H.n (some cs) H.n = some cs' := hb
        rw [upd_same] at this; exact (Option.some.inj this).symm
      subst this
      exact ⟨Nat.lt_succ_self _, w.heap.size, arr, e, upd_same _ _ _, alloc_last w _, hl, fun i hi => ⟨(hv i hi).1.mono hle, (hv i hi).2⟩⟩
    · have hb' : H.f b = some cs' := by
        have : upd H.f H.n (some cs) b = some cs' := hb
        rwa [upd_ne _ _ hbn] at this
      obtain ⟨h1, g, arr', e', h2, h3, h4, h5⟩ := h.blk b cs' hb'
      exact ⟨Nat.lt_succ_of_lt h1, g, arr', e', (upd_ne _ _ hbn).trans h2, (hold g (lt_of_heap h3)).trans h3, h4, fun i hi => ⟨(h5 i hi).1.mono hle, (h5 i hi).2⟩⟩
  · intro b x hx
    by_cases hbn : b = H.n
    · exact ⟨cs, by rw [hbn]; exact upd_same _ _ _⟩
    · obtain ⟨cs', h'⟩ := h.phi b x ((upd_ne _ _ hbn).symm.trans hx)
      exact ⟨cs', (upd_ne _ _ hbn).trans h'⟩
  · intro b g n hx
    by_cases hbn : b = H.n
    · subst hbn
      have hx' : some (w.heap.size, arr.size) = some (g, n) := (upd_same ρ.phi H.n _).symm.trans hx
      have hg : g = w.heap.size := (Prod.mk.inj (Option.some.inj hx')).1.symm
      subst hg
      refine ⟨h.below.size, by simp, fun a ha => ?_⟩
      show ρ.prot a = none
      cases hp : ρ.prot a with
      | none => rfl
      | some u => have := h.prot_lt hp; omega
    · obtain ⟨h1, h2, h3⟩ := h.fresh b g n ((upd_ne _ _ hbn).symm.trans hx)
      exact ⟨h1, by simp; omega, h3⟩
  · intro b b' g n n' hx hx'
    have key : ∀ c m, c ≠ H.n → ρ'.phi c = some (g, m) → g < w.heap.size := fun c m hc hm => (h.fresh c g m ((upd_ne _ _ hc).symm.trans hm)).2.1
    have last : ∀ m, ρ'.phi H.n = some (g, m) → g = w.heap.size := fun m hm => by
      have hm' : some (w.heap.size, arr.size) = some (g, m) := (upd_same ρ.phi H.n _).symm.trans hm
      exact (Prod.mk.inj (Option.some.inj hm')).1.symm
    by_cases hbn : b = H.n <;> by_cases hbn' : b' = H.n
    · rw [hbn, hbn']
    · subst hbn; have := last n hx; have := key b' n' hbn' hx'; omega
    · subst hbn'; have := last n' hx'; have := key b n hbn hx; omega
    · exact h.inj b b' g n n' ((upd_ne _ _ hbn).symm.trans hx) ((upd_ne _ _ hbn').symm.trans hx')
  · intro κ hκ
    obtain ⟨g, c, s, arr', e', h1, h2, h3, h4, h5, h6, h7, h8, h9⟩ := h.gam κ hκ
    refine ⟨g, c, s, arr', e', h1, (hold g (lt_of_heap h2)).trans h2, h3, h4, h5, h6, h7, fun b n hx => ?_, h9⟩
    by_cases hbn : b = H.n
    · subst hbn
      have hx' : some (w.heap.size, arr.size) = some (g, n) := (upd_same ρ.phi H.n _).symm.trans hx
      have := lt_of_heap h2
      have := (Prod.mk.inj (Option.some.inj hx')).1
      omega
    · exact h8 b n ((upd_ne _ _ hbn).symm.trans hx)

/-- A block that is never written is made. -/
theorem RH.allocT (h : RH ρ H w) (arr : Array Value) (e : TypeId) (h1 : ∀ (j : Nat) (u : Value), arr[j]? = some u → u.oneCell' = true) :
    ∃ ρ', ρ.Le ρ' ∧ (∀ j u, arr[j]? = some u → ρ'.prot ⟨w.heap.size, j, none⟩ = some u) ∧ RH ρ' H (w.alloc (.cells arr e)) := by
  let ρ' : Ip := { ρ with prot := fun a => if a.block = w.heap.size then (if a.spot = none then arr[a.off]? else none) else ρ.prot a }
  have hpn : ∀ a, a.block ≠ w.heap.size → ρ'.prot a = ρ.prot a := fun a ha => if_neg ha
  have hle : ρ.Le ρ' := ⟨rfl, fun a u x => (hpn a (Nat.ne_of_lt (h.prot_lt x))).trans x, fun κ g n c s x => ⟨g, n, c, x, Nat.le_refl _, fun _ => ⟨rfl, rfl⟩⟩, Nat.le_refl _, fun _ _ _ x => x⟩
  have hold : ∀ k, k < w.heap.size → (w.alloc (.cells arr e)).heap[k]? = w.heap[k]? := fun k hk => alloc_old w _ k hk
  refine ⟨ρ', hle, fun j u hj => by show (if w.heap.size = w.heap.size then _ else _) = _; rw [if_pos rfl, if_pos rfl]; exact hj, ⟨?_, ?_, h.nb, h.ng, ?_, h.phi, ?_, h.inj, ?_, h.gnone⟩⟩
  · exact h.below.alloc (Nat.le_trans (Nat.le_refl _) h.below.size) _
  · intro a u hp
    by_cases ha : a.block = w.heap.size
    · have hp' : (if a.spot = none then arr[a.off]? else none) = some u := (if_pos ha).symm.trans hp
      obtain ⟨ab, ao, asp⟩ := a
      cases asp with
      | some _ => simp at hp'
      | none =>
        simp only at ha
        subst ha
        rw [World.cell?_alloc_new]
        have hp2 : arr[ao]? = some u := by simpa using hp'
        exact ⟨hp2, h1 _ _ hp2⟩
    · have hp' : ρ.prot a = some u := (hpn a ha).symm.trans hp
      rw [World.cell?_alloc_lt w _ a (h.prot_lt hp')]
      exact h.prot a u hp'
  · intro b cs' hb
    obtain ⟨h1, g, arr', e', h2, h3, h4, h5⟩ := h.blk b cs' hb
    exact ⟨h1, g, arr', e', h2, (hold g (lt_of_heap h3)).trans h3, h4, fun i hi => ⟨(h5 i hi).1.mono hle, (h5 i hi).2⟩⟩
  · intro b g n hx
    obtain ⟨h1, h2, h3⟩ := h.fresh b g n hx
    exact ⟨h1, by simp; omega, fun a ha => (hpn a (by omega)).trans (h3 a ha)⟩
  · intro κ hκ
    obtain ⟨g, c, s, arr', e', h1, h2, h3, h4, h5, h6, h7, h8, h9⟩ := h.gam κ hκ
    exact ⟨g, c, s, arr', e', h1, (hold g (lt_of_heap h2)).trans h2, h3, h4, h5, h6, fun a ha ho => (hpn a (by have := lt_of_heap h2; omega)).trans (h7 a ha ho), h8, h9⟩

/-- One cell of a block is written. -/
theorem RH.set (h : RH ρ H w) {b : Nat} {cs : List AV} (hb : H.f b = some cs) {o : Nat} (ho : o < cs.length) {v : AV} {u : Value} (hv : RV ρ v u) (h1 : u.oneCell' = true) :
    ∃ g n, ρ.phi b = some (g, n) ∧ (∃ u0, w.cell? ⟨g, o, none⟩ = some u0) ∧ w.frozen? ⟨g, o, none⟩ = false ∧ RH ρ { H with f := upd H.f b (some (cs.set o v)) } (w.setCell ⟨g, o, none⟩ u) := by
  obtain ⟨hbn, g, arr, e, hg, hh, hl, hc⟩ := h.blk b cs hb
  have hoa : o < arr.size := by omega
  refine ⟨g, arr.size, hg, ⟨arr[o], by rw [cell_of_row w g o arr e (0, 0) hh]; exact Array.getElem?_eq_getElem hoa⟩, frozen_of_row w g o arr e hh, ?_⟩
  obtain ⟨hw0, hgs, hgp⟩ := h.fresh b g _ hg
  have hold : ∀ k, k ≠ g → (w.setCell ⟨g, o, none⟩ u).heap[k]? = w.heap[k]? := fun k hk => heap_setCell_other w ⟨g, o, none⟩ k u hk
  have hnew : (w.setCell ⟨g, o, none⟩ u).heap[g]? = some (.cells (arr.setIfInBounds o u) e (0, 0)) := heap_setCell_same w g o arr e u hh
  refine ⟨h.below.setCell hw0 u, fun a x hp => ?_, h.nb, h.ng, ?_, ?_, ?_, h.inj, ?_, h.gnone⟩
  · have : a.block ≠ g := fun he => by rw [hgp a he] at hp; cases hp
    have hca := h.prot a x hp
    rw [World.cell?_setCell_other w _ _ u (fun he => this (by rw [← he]))]
    exact hca
  · intro b' cs' hb'
    by_cases hbb : b' = b
    · subst hbb
      have : cs' = cs.set o v := by
        have : upd H.f b' (some (cs.set o v)) b' = some cs' := hb'
        rw [upd_same] at this; exact (Option.some.inj this).symm
      subst this
      refine ⟨hbn, g, arr.setIfInBounds o u, e, by simpa using hg, hnew, by simpa using hl, fun i hi => ?_⟩
      rw [List.length_set] at hi
      by_cases hio : i = o
      · subst hio
        have : (arr.setIfInBounds i u).getD i undef = u := by simp [Array.getD, hoa]
        rw [this]
        simpa using ⟨hv, h1⟩
      · have : (arr.setIfInBounds o u).getD i undef = arr.getD i undef := by
          simp only [Array.getD_eq_getD_getElem?]
          rw [Array.getElem?_setIfInBounds_ne (by omega)]
        rw [this, List.getElem_set_ne (by omega)]
        exact hc i hi
    · have hb2 : H.f b' = some cs' := by
        have : upd H.f b (some (cs.set o v)) b' = some cs' := hb'
        rwa [upd_ne _ _ hbb] at this
      obtain ⟨k1, g', arr', e', k2, k3, k4, k5⟩ := h.blk b' cs' hb2
      have hgg : g' ≠ g := fun he => hbb (h.inj b' b g _ _ (by rw [← he]; exact k2) hg)
      exact ⟨k1, g', arr', e', k2, (hold g' hgg).trans k3, k4, k5⟩
  · intro b' x hx
    obtain ⟨cs', h'⟩ := h.phi b' x hx
    by_cases hbb : b' = b
    · exact ⟨cs.set o v, by rw [hbb]; exact upd_same _ _ _⟩
    · exact ⟨cs', (upd_ne _ _ hbb).trans h'⟩
  · intro b' g' n hx
    obtain ⟨k1, k2, k3⟩ := h.fresh b' g' n hx
    exact ⟨k1, by simpa using k2, k3⟩
  · intro κ hκ
    obtain ⟨g', c, s, arr', e', k1, k2, k3, k4, k5, k6, k7, k8, k9⟩ := h.gam κ hκ
    have hgg : g' ≠ g := fun he => k8 b arr.size (by rw [he]; exact hg)
    exact ⟨g', c, s, arr', e', k1, (hold g' hgg).trans k2, k3, k4, k5, k6, k7, k8, k9⟩

/-- A block is let go. -/
theorem RH.drop (h : RH ρ H w) (b : Nat) : ∃ ρ', ρ.Le ρ' ∧ RH ρ' { H with f := upd H.f b none } w := by
  let ρ' : Ip := { ρ with phi := upd ρ.phi b none }
  have back : ∀ b' x, ρ'.phi b' = some x → b' ≠ b ∧ ρ.phi b' = some x := fun b' x hx => by
    by_cases hbb : b' = b
    · subst hbb
      have : upd ρ.phi b' none b' = some x := hx
      rw [upd_same] at this; cases this
    · exact ⟨hbb, (upd_ne _ _ hbb).symm.trans hx⟩
  have hle : ρ.Le ρ' := ⟨rfl, fun _ _ x => x, fun κ g n c s x => ⟨g, n, c, x, Nat.le_refl _, fun _ => ⟨rfl, rfl⟩⟩, Nat.le_refl _, fun b' x _ hx => (back b' x hx).2⟩
  refine ⟨ρ', hle, ⟨h.below, h.prot, h.nb, h.ng, ?_, ?_, ?_, ?_, ?_, h.gnone⟩⟩
  · intro b' cs' hb'
    by_cases hbb : b' = b
    · subst hbb
      have : upd H.f b' none b' = some cs' := hb'
      rw [upd_same] at this; cases this
    · have hb2 : H.f b' = some cs' := (upd_ne _ _ hbb).symm.trans hb'
      obtain ⟨k1, g', arr', e', k2, k3, k4, k5⟩ := h.blk b' cs' hb2
      exact ⟨k1, g', arr', e', (upd_ne _ _ hbb).trans k2, k3, k4, fun i hi => ⟨(k5 i hi).1.mono hle, (k5 i hi).2⟩⟩
  · intro b' x hx
    obtain ⟨hbb, hx'⟩ := back b' x hx
    obtain ⟨cs', h'⟩ := h.phi b' x hx'
    exact ⟨cs', (upd_ne _ _ hbb).trans h'⟩
  · exact fun b' g n hx => h.fresh b' g n (back b' _ hx).2
  · exact fun b1 b2 g n n' hx hx' => h.inj b1 b2 g n n' (back b1 _ hx).2 (back b2 _ hx').2
  · intro κ hκ
    obtain ⟨g', c, s, arr', e', k1, k2, k3, k4, k5, k6, k7, k8, k9⟩ := h.gam κ hκ
    exact ⟨g', c, s, arr', e', k1, k2, k3, k4, k5, k6, k7, fun b' n hx => k8 b' n (back b' _ hx).2, k9⟩

/-- A row is begun that will be appended to: its first n elements are never written again. -/
theorem RH.growNew (h : RH ρ H w) (arr : Array Value) (e : TypeId) (n c s : Nat) (hsz : arr.size = c * s) (hn : n ≤ c) (hc : c ≤ maxLen) (h1 : ∀ (j : Nat) (u : Value), j < n * s → arr[j]? = some u → u.oneCell' = true) :
    ∃ ρ', ρ.Le ρ' ∧ ρ'.gam H.k = some (w.heap.size, n, c, s) ∧ (∀ j u, j < n * s → arr[j]? = some u → ρ'.prot ⟨w.heap.size, j, none⟩ = some u) ∧
      RH ρ' { H with gr := upd H.gr H.k n, k := H.k + 1 } (w.alloc (.cells arr e)) := by
  let ρ' : Ip := { ρ with prot := fun a => if a.block = w.heap.size then (if a.spot = none ∧ a.off < n * s then arr[a.off]? else none) else ρ.prot a, gam := upd ρ.gam H.k (some (w.heap.size, n, c, s)), ng := H.k + 1 }
  have hpn : ∀ a, a.block ≠ w.heap.size → ρ'.prot a = ρ.prot a := fun a ha => if_neg ha
  have hgn : ∀ κ, κ ≠ H.k → ρ'.gam κ = ρ.gam κ := fun κ hk => upd_ne _ _ hk
  have hle : ρ.Le ρ' := ⟨rfl, fun a u x => (hpn a (Nat.ne_of_lt (h.prot_lt x))).trans x, fun κ g n c s x => ⟨g, n, c, (hgn κ (Nat.ne_of_lt (h.gnone κ _ x))).trans x, Nat.le_refl _, fun _ => ⟨rfl, rfl⟩⟩, Nat.le_refl _, fun _ _ _ x => x⟩
  have hold : ∀ k, k < w.heap.size → (w.alloc (.cells arr e)).heap[k]? = w.heap[k]? := fun k hk => alloc_old w _ k hk
  refine ⟨ρ', hle, upd_same _ _ _, fun j u hj hu => by show (if w.heap.size = w.heap.size then _ else _) = _; rw [if_pos rfl, if_pos ⟨rfl, hj⟩]; exact hu, ⟨?_, ?_, h.nb, rfl, ?_, h.phi, ?_, h.inj, ?_, ?_⟩⟩
  · exact h.below.alloc (Nat.le_trans (Nat.le_refl _) h.below.size) _
  · intro a u hp
    by_cases ha : a.block = w.heap.size
    · have hp' : (if a.spot = none ∧ a.off < n * s then arr[a.off]? else none) = some u := (if_pos ha).symm.trans hp
      obtain ⟨ab, ao, asp⟩ := a
      cases asp with
      | some _ => simp at hp'
      | none =>
        simp only at ha
        subst ha
        rw [World.cell?_alloc_new]
        split at hp'
        · rename_i hlt'
          exact ⟨hp', h1 _ _ hlt'.2 hp'⟩
        · cases hp'
    · have hp' : ρ.prot a = some u := (hpn a ha).symm.trans hp
      rw [World.cell?_alloc_lt w _ a (h.prot_lt hp')]
      exact h.prot a u hp'
  · intro b cs' hb
    obtain ⟨h1, g, arr', e', h2, h3, h4, h5⟩ := h.blk b cs' hb
    exact ⟨h1, g, arr', e', h2, (hold g (lt_of_heap h3)).trans h3, h4, fun i hi => ⟨(h5 i hi).1.mono hle, (h5 i hi).2⟩⟩
  · intro b g m hx
    obtain ⟨h1, h2, h3⟩ := h.fresh b g m hx
    exact ⟨h1, by simp; omega, fun a ha => (hpn a (by omega)).trans (h3 a ha)⟩
  · intro κ hκ
    by_cases hk : κ = H.k
    · subst hk
      refine ⟨w.heap.size, c, s, arr, e, by rw [show ρ'.gam H.k = _ from upd_same _ _ _]; simp [upd_same], alloc_last w _, hsz, by simpa [upd_same] using hn, hc, h.below.size, fun a ha ho => ?_, fun b m hx => ?_, fun κ' m c' s' hk' hx => ?_⟩
      · show (if a.block = w.heap.size then _ else _) = none
        rw [if_pos ha, if_neg (by simp only [upd_same] at ho; omega)]
      · have := (h.fresh b _ m hx).2.1; omega
      · by_cases hkk : κ' = H.k
        · exact hkk
        · have hx' := (hgn κ' hkk).symm.trans hx
          obtain ⟨g2, c2, s2, arr2, e2, h1, h2, _⟩ := h.gam κ' (h.gnone κ' _ hx')
          rw [hx'] at h1
          have hg2 := (Prod.mk.inj (Option.some.inj h1)).1
          have := lt_of_heap h2
          omega
    · have hκ' : κ < H.k := by have : κ < H.k + 1 := hκ; omega
      obtain ⟨g, c', s', arr', e', h1, h2, h3, h4, h5, h6, h7, h8, h9⟩ := h.gam κ hκ'
      have hgl := lt_of_heap h2
      have hgr : upd H.gr H.k n κ = H.gr κ := upd_ne _ _ hk
      refine ⟨g, c', s', arr', e', by show ρ'.gam κ = _; rw [hgn κ hk, h1]; simp [hgr], (hold g hgl).trans h2, h3, by simpa [hgr] using h4, h5, h6, fun a ha ho => (hpn a (by omega)).trans (h7 a ha (by simpa [hgr] using ho)), h8, fun κ' m c2 s2 hk' hx => ?_⟩
      by_cases hkk : κ' = H.k
      · subst hkk
        have hx' : some (w.heap.size, n, c, s) = some (g, m, c2, s2) := (upd_same ρ.gam H.k _).symm.trans hx
        have := (Prod.mk.inj (Option.some.inj hx')).1
        omega
      · have hx' := (hgn κ' hkk).symm.trans hx
        exact h9 κ' m c2 s2 (h.gnone κ' _ hx') hx'
  · intro κ x hx
    by_cases hk : κ = H.k
    · show κ < H.k + 1; omega
    · have := h.gnone κ x ((hgn κ hk).symm.trans hx)
      show κ < H.k + 1; omega

/-- The row κ is moved to a new place, where it is longer. -/
theorem RH.growMove (h : RH ρ H w) {κ : Nat} (hκ : κ < H.k) (arr : Array Value) (e : TypeId) (n c s : Nat) (hsz : arr.size = c * s) (hn : n ≤ c) (hc : c ≤ maxLen) (hlt : H.gr κ < n) (h1 : ∀ (j : Nat) (u : Value), j < n * s → arr[j]? = some u → u.oneCell' = true)
    {g0 c0 : Nat} (hs : ρ.gam κ = some (g0, H.gr κ, c0, s)) :
    ∃ ρ', ρ.Le ρ' ∧ ρ'.gam κ = some (w.heap.size, n, c, s) ∧ (∀ j u, j < n * s → arr[j]? = some u → ρ'.prot ⟨w.heap.size, j, none⟩ = some u) ∧
      RH ρ' { H with gr := upd H.gr κ n } (w.alloc (.cells arr e)) := by
  let ρ' : Ip := { ρ with prot := fun a => if a.block = w.heap.size then (if a.spot = none ∧ a.off < n * s then arr[a.off]? else none) else ρ.prot a, gam := upd ρ.gam κ (some (w.heap.size, n, c, s)) }
  have hpn : ∀ a, a.block ≠ w.heap.size → ρ'.prot a = ρ.prot a := fun a ha => if_neg ha
  have hgn : ∀ κ', κ' ≠ κ → ρ'.gam κ' = ρ.gam κ' := fun κ' hk => upd_ne _ _ hk
  have hle : ρ.Le ρ' := ⟨rfl, fun a u x => (hpn a (Nat.ne_of_lt (h.prot_lt x))).trans x, fun κ' g m c' s' x => by
    by_cases hk : κ' = κ
    · subst hk
      rw [hs] at x
      simp only [Option.some.injEq, Prod.mk.injEq] at x
      obtain ⟨rfl, rfl, rfl, rfl⟩ := x
      exact ⟨w.heap.size, n, c, upd_same _ _ _, by omega, fun he => by omega⟩
    · exact ⟨g, m, c', (hgn κ' hk).trans x, Nat.le_refl _, fun _ => ⟨rfl, rfl⟩⟩, Nat.le_refl _, fun _ _ _ x => x⟩
  have hold : ∀ k, k < w.heap.size → (w.alloc (.cells arr e)).heap[k]? = w.heap[k]? := fun k hk => alloc_old w _ k hk
  refine ⟨ρ', hle, upd_same _ _ _, fun j u hj hu => by show (if w.heap.size = w.heap.size then _ else _) = _; rw [if_pos rfl, if_pos ⟨rfl, hj⟩]; exact hu, ⟨?_, ?_, h.nb, h.ng, ?_, h.phi, ?_, h.inj, ?_, ?_⟩⟩
  · exact h.below.alloc (Nat.le_trans (Nat.le_refl _) h.below.size) _
  · intro a u hp
    by_cases ha : a.block = w.heap.size
    · have hp' : (if a.spot = none ∧ a.off < n * s then arr[a.off]? else none) = some u := (if_pos ha).symm.trans hp
      obtain ⟨ab, ao, asp⟩ := a
      cases asp with
      | some _ => simp at hp'
      | none =>
        simp only at ha
        subst ha
        rw [World.cell?_alloc_new]
        split at hp'
        · rename_i hlt'
          exact ⟨hp', h1 _ _ hlt'.2 hp'⟩
        · cases hp'
    · have hp' : ρ.prot a = some u := (hpn a ha).symm.trans hp
      rw [World.cell?_alloc_lt w _ a (h.prot_lt hp')]
      exact h.prot a u hp'
  · intro b cs' hb
    obtain ⟨h1, g, arr', e', h2, h3, h4, h5⟩ := h.blk b cs' hb
    exact ⟨h1, g, arr', e', h2, (hold g (lt_of_heap h3)).trans h3, h4, fun i hi => ⟨(h5 i hi).1.mono hle, (h5 i hi).2⟩⟩
  · intro b g m hx
    obtain ⟨h1, h2, h3⟩ := h.fresh b g m hx
    exact ⟨h1, by simp; omega, fun a ha => (hpn a (by omega)).trans (h3 a ha)⟩
  · intro κ1 hκ1
    by_cases hk : κ1 = κ
    · subst hk
      refine ⟨w.heap.size, c, s, arr, e, by rw [show ρ'.gam κ1 = _ from upd_same _ _ _]; simp [upd_same], alloc_last w _, hsz, by simpa [upd_same] using hn, hc, h.below.size, fun a ha ho => ?_, fun b m hx => ?_, fun κ' m c' s' hk' hx => ?_⟩
      · show (if a.block = w.heap.size then _ else _) = none
        rw [if_pos ha, if_neg (by simp only [upd_same] at ho; omega)]
      · have := (h.fresh b _ m hx).2.1; omega
      · by_cases hkk : κ' = κ1
        · exact hkk
        · have hx' := (hgn κ' hkk).symm.trans hx
          obtain ⟨g2, c2, s2, arr2, e2, h1, h2, _⟩ := h.gam κ' (h.gnone κ' _ hx')
          rw [hx'] at h1
          have hg2 := (Prod.mk.inj (Option.some.inj h1)).1
          have := lt_of_heap h2
          omega
    · obtain ⟨g, c', s', arr', e', h1, h2, h3, h4, h5, h6, h7, h8, h9⟩ := h.gam κ1 hκ1
      have hgl := lt_of_heap h2
      have hgr : upd H.gr κ n κ1 = H.gr κ1 := upd_ne _ _ hk
      refine ⟨g, c', s', arr', e', by show ρ'.gam κ1 = _; rw [hgn κ1 hk, h1]; simp [hgr], (hold g hgl).trans h2, h3, by simpa [hgr] using h4, h5, h6, fun a ha ho => (hpn a (by omega)).trans (h7 a ha (by simpa [hgr] using ho)), h8, fun κ' m c2 s2 hk' hx => ?_⟩
      by_cases hkk : κ' = κ
      · subst hkk
        have hx' : some (w.heap.size, n, c, s) = some (g, m, c2, s2) := (upd_same ρ.gam κ' _).symm.trans hx
        have := (Prod.mk.inj (Option.some.inj hx')).1
        omega
      · have hx' := (hgn κ' hkk).symm.trans hx
        exact h9 κ' m c2 s2 hk' hx'
  · intro κ1 x hx
    by_cases hk : κ1 = κ
    · rw [hk]; exact hκ
    · exact h.gnone κ1 x ((hgn κ1 hk).symm.trans hx)

/-- The row κ grows in its place. -/
theorem RH.growIn (h : RH ρ H w) {κ : Nat} (hκ : κ < H.k) {g c s : Nat} (hg : ρ.gam κ = some (g, H.gr κ, c, s)) (arr : Array Value) {old : Array Value} {e : TypeId} (ho : w.heap[g]? = some (.cells old e (0, 0)))
    (hsz : arr.size = old.size) (n : Nat) (hn : n ≤ c) (hlt : H.gr κ < n) (hpre : ∀ j, j < H.gr κ * s → arr[j]? = old[j]?) (hone : ∀ (j : Nat) (u : Value), j < n * s → arr[j]? = some u → u.oneCell' = true) :
    ∃ ρ', ρ.Le ρ' ∧ ρ'.gam κ = some (g, n, c, s) ∧ (∀ j u, j < n * s → arr[j]? = some u → ρ'.prot ⟨g, j, none⟩ = some u) ∧
      RH ρ' { H with gr := upd H.gr κ n } (w.setRow g arr) := by
  obtain ⟨g1, c1, s1, arr1, e1, h1, h2, h3, h4, h5, h6, h7, h8, h9⟩ := h.gam κ hκ
  rw [hg] at h1
  simp only [Option.some.injEq, Prod.mk.injEq] at h1
  obtain ⟨rfl, -, rfl, rfl⟩ := h1
  rw [ho] at h2
  have h2' := Option.some.inj h2
  injection h2' with h2a h2b h2c
  subst h2a
  let ρ' : Ip := { ρ with prot := fun a => if a.block = g ∧ a.spot = none ∧ a.off < n * s then arr[a.off]? else ρ.prot a, gam := upd ρ.gam κ (some (g, n, c, s)) }
  have hpg : ∀ a, a.block ≠ g → ρ'.prot a = ρ.prot a := fun a ha => if_neg (fun x => ha x.1)
  have hgn : ∀ κ', κ' ≠ κ → ρ'.gam κ' = ρ.gam κ' := fun κ' hk => upd_ne _ _ hk
  have hnew : (w.setRow g arr).heap[g]? = some (.cells arr e (0, 0)) := setRow_heap w g old arr e (0, 0) ho
  have hold : ∀ k, k ≠ g → (w.setRow g arr).heap[k]? = w.heap[k]? := fun k hk => setRow_other w g k arr hk
  -- what was protected in this block: the elements before
  have hprev : ∀ a u, a.block = g → ρ.prot a = some u → a.spot = none ∧ a.off < H.gr κ * s ∧ old[a.off]? = some u := by
    intro a u ha hp
    obtain ⟨c2, e2, fr2, k1, k2, k3⟩ := cell_heap (h.prot a u hp).1
    rw [ha, ho] at k1
    injection k1 with k1
    injection k1 with k1a _ _
    subst k1a
    refine ⟨k2, ?_, k3⟩
    rcases Nat.lt_or_ge a.off (H.gr κ * s) with hx | hx
    · exact hx
    · rw [h7 a ha hx] at hp; cases hp
  have hmul : H.gr κ * s ≤ n * s := Nat.mul_le_mul_right _ (Nat.le_of_lt hlt)
  have hle : ρ.Le ρ' := ⟨rfl, fun a u x => by
    by_cases ha : a.block = g
    · obtain ⟨k1, k2, k3⟩ := hprev a u ha x
      show (if a.block = g ∧ a.spot = none ∧ a.off < n * s then arr[a.off]? else ρ.prot a) = some u
      rw [if_pos ⟨ha, k1, by omega⟩, hpre _ k2]
      exact k3
    · exact (hpg a ha).trans x, fun κ' g' m c' s' x => by
    by_cases hk : κ' = κ
    · subst hk
      rw [hg] at x
      simp only [Option.some.injEq, Prod.mk.injEq] at x
      obtain ⟨rfl, rfl, rfl, rfl⟩ := x
      exact ⟨g, n, c, upd_same _ _ _, by omega, fun he => by omega⟩
    · exact ⟨g', m, c', (hgn κ' hk).trans x, Nat.le_refl _, fun _ => ⟨rfl, rfl⟩⟩, Nat.le_refl _, fun _ _ _ x => x⟩
  refine ⟨ρ', hle, upd_same _ _ _, fun j u hj hu => by show (if g = g ∧ (none : Option Nat) = none ∧ j < n * s then arr[j]? else _) = _; rw [if_pos ⟨rfl, rfl, hj⟩]; exact hu, ⟨?_, ?_, h.nb, h.ng, ?_, h.phi, ?_, h.inj, ?_, ?_⟩⟩
  · exact ⟨h.below.os, h.below.tape, h.below.output, by simpa using h.below.size, fun k hk => (hold k (by have hk' : k < ρ.w0.heap.size := hk; omega)).trans (h.below.block k hk)⟩
  · intro a u hp
    by_cases ha : a.block = g ∧ a.spot = none ∧ a.off < n * s
    · have hp' : arr[a.off]? = some u := (if_pos ha).symm.trans hp
      obtain ⟨ab, ao, asp⟩ := a
      obtain ⟨rfl, rfl, hlt'⟩ := ha
      rw [cell_of_row _ ab ao arr e (0, 0) hnew]
      exact ⟨hp', hone _ _ hlt' hp'⟩
    · have hp' : ρ.prot a = some u := (if_neg ha).symm.trans hp
      by_cases hag : a.block = g
      · obtain ⟨k1, k2, k3⟩ := hprev a u hag hp'
        exact absurd ⟨hag, k1, by omega⟩ ha
      · rw [World.cell?_of_block (hold a.block hag)]
        exact h.prot a u hp'
  · intro b cs' hb
    obtain ⟨k1, g', arr', e', k2, k3, k4, k5⟩ := h.blk b cs' hb
    have hgg : g' ≠ g := fun he => h8 b arr'.size (by rw [← he]; exact k2)
    exact ⟨k1, g', arr', e', k2, (hold g' hgg).trans k3, k4, fun i hi => ⟨(k5 i hi).1.mono hle, (k5 i hi).2⟩⟩
  · intro b g' m hx
    obtain ⟨k1, k2, k3⟩ := h.fresh b g' m hx
    have hgg : g' ≠ g := fun he => h8 b m (by rw [← he]; exact hx)
    exact ⟨k1, by simpa using k2, fun a ha => (hpg a (by omega)).trans (k3 a ha)⟩
  · intro κ1 hκ1
    by_cases hk : κ1 = κ
    · subst hk
      refine ⟨g, c, s, arr, e, by rw [show ρ'.gam κ1 = _ from upd_same _ _ _]; simp [upd_same], hnew, by rw [hsz, h3], by simpa [upd_same] using hn, h5, h6, fun a ha hof => ?_, h8, fun κ' m c' s' hk' hx => ?_⟩
      · simp only [upd_same] at hof
        show (if a.block = g ∧ a.spot = none ∧ a.off < n * s then arr[a.off]? else ρ.prot a) = none
        rw [if_neg (by omega)]
        exact h7 a ha (by omega)
      · by_cases hkk : κ' = κ1
        · exact hkk
        · exact h9 κ' m c' s' hk' ((hgn κ' hkk).symm.trans hx)
    · obtain ⟨g', c', s', arr', e', k1, k2, k3, k4, k5, k6, k7, k8, k9⟩ := h.gam κ1 hκ1
      have hgr : upd H.gr κ n κ1 = H.gr κ1 := upd_ne _ _ hk
      have hgg : g' ≠ g := fun he => hk (k9 κ _ _ _ hκ (by rw [he]; exact hg)).symm
      refine ⟨g', c', s', arr', e', by show ρ'.gam κ1 = _; rw [hgn κ1 hk, k1]; simp [hgr], (hold g' hgg).trans k2, k3, by simpa [hgr] using k4, k5, k6, fun a ha hof => (hpg a (by omega)).trans (k7 a ha (by simpa [hgr] using hof)), k8, fun κ' m c2 s2 hk' hx => ?_⟩
      by_cases hkk : κ' = κ
      · subst hkk
        have hx' : some (g, n, c, s) = some (g', m, c2, s2) := (upd_same ρ.gam κ' _).symm.trans hx
        exact absurd (Prod.mk.inj (Option.some.inj hx')).1.symm hgg
      · exact k9 κ' m c2 s2 hk' ((hgn κ' hkk).symm.trans hx)
  · intro κ1 x hx
    by_cases hk : κ1 = κ
    · rw [hk]; exact hκ
    · exact h.gnone κ1 x ((hgn κ1 hk).symm.trans hx)
end
end Go.Eng
/- An engine, part 2: what values look like, constants, types, and the operations on abstract values. Over any program. -/
set_option linter.unusedVariables false
set_option linter.unusedSimpArgs false
namespace Go.Eng
open Go.RowKit (Below)

/-! ### what a value looks like -/
section
variable {ρ : Ip} {vc : Value}
theorem inv_int {k n} (h : RV ρ (.int k n) vc) : vc = .int k n := by cases h with | pure _ _ h => cases h; rfl
theorem inv_bool {b} (h : RV ρ (.bool b) vc) : vc = .bool b := by cases h with | pure _ _ h => cases h; rfl
theorem inv_str {b} (h : RV ρ (.str b) vc) : vc = .string b := by cases h with | pure _ _ h => cases h; rfl
theorem inv_nils (h : RV ρ .nils vc) : vc = .slice none 0 0 := by cases h with | pure _ _ h => cases h; rfl
theorem inv_nilp (h : RV ρ .nilp vc) : vc = .pointer none := by cases h with | pure _ _ h => cases h; rfl
theorem inv_nilf (h : RV ρ .nilf vc) : vc = .nilFunc := by cases h with | pure _ _ h => cases h; rfl
theorem inv_nili (h : RV ρ .nili vc) : vc = .nilIface := by cases h with | pure _ _ h => cases h; rfl
theorem inv_iface {t v} (h : RV ρ (.iface t v) vc) : ∃ u, vc = .iface t u ∧ RV ρ v u := by
  cases h with
  | pure _ _ h => cases h with | iface _ _ u hu => exact ⟨u, rfl, .pure _ _ hu⟩
  | iface _ _ u hu => exact ⟨u, rfl, hu⟩
theorem inv_agg {cs} (h : RV ρ (.agg cs) vc) : ∃ vs, vc = .agg vs ∧ cs.length = vs.size ∧ (∀ i (h : i < cs.length), RV ρ cs[i] (vs.getD i undef)) ∧ ∀ i, i < vs.size → (vs.getD i undef).oneCell' = true := by
  cases h with
  | pure _ _ h => cases h with | agg _ vs hl hv h1 => exact ⟨vs, rfl, hl, fun i hi => .pure _ _ (hv i hi), h1⟩
  | agg _ vs hl hv h1 => exact ⟨vs, rfl, hl, hv, h1⟩
theorem inv_tup {cs} (h : RV ρ (.tup cs) vc) : ∃ vs, vc = .tuple vs ∧ cs.length = vs.size ∧ (∀ i (h : i < cs.length), RV ρ cs[i] (vs.getD i undef)) := by
  cases h with
  | pure _ _ h => cases h with | tup _ vs hl hv => exact ⟨vs, rfl, hl, fun i hi => .pure _ _ (hv i hi)⟩
  | tup _ vs hl hv => exact ⟨vs, rfl, hl, hv⟩
theorem inv_func {fn a b} (h : RV ρ (.func fn a b) vc) : ∃ vf vb, vc = .func fn vf vb ∧ a.length = vf.size ∧ b.length = vb.size ∧ (∀ i (h : i < a.length), RV ρ a[i] (vf.getD i undef)) ∧ (∀ i (h : i < b.length), RV ρ b[i] (vb.getD i undef)) := by
  cases h with
  | pure _ _ h => cases h with | func _ _ _ vf vb h1 h2 h3 h4 => exact ⟨vf, vb, rfl, h1, h2, fun i hi => .pure _ _ (h3 i hi), fun i hi => .pure _ _ (h4 i hi)⟩
  | func _ _ _ vf vb h1 h2 h3 h4 => exact ⟨vf, vb, rfl, h1, h2, h3, h4⟩
theorem inv_ptr {b o} (h : RV ρ (.ptr b o) vc) : ∃ ad, vc = .pointer (some ad) ∧ b < ρ.nb ∧ ∀ g n, ρ.phi b = some (g, n) → ad = ⟨g, o, none⟩ := by
  cases h with
  | pure _ _ h => cases h
  | ptr _ _ ad hb h => exact ⟨ad, rfl, hb, h⟩
theorem inv_eptr {v} (h : RV ρ (.eptr v) vc) : ∃ ad u, vc = .pointer (some ad) ∧ PV ρ.prot v u ∧ ∀ j, j < u.cells.size → ρ.prot (ad.add j) = some (u.cells.getD j undef) := by
  cases h with
  | pure _ _ h => cases h with | eptr _ u ad hv hc => exact ⟨ad, u, rfl, hv, hc⟩
theorem inv_bsl {b o len c} (h : RV ρ (.bsl b o len c) vc) : ∃ ad cap, vc = .slice (some ad) len cap ∧ b < ρ.nb ∧ len ≤ cap ∧ cap ≤ maxLen ∧ (∀ g n, ρ.phi b = some (g, n) → ad = ⟨g, o, none⟩) ∧ (c = .full → cap = len) ∧
    (∀ sz, c = .grow sz → o = 0 ∧ ∀ g n, ρ.phi b = some (g, n) → cap * sz = n) := by
  cases h with
  | pure _ _ h => cases h
  | bsl _ _ _ _ ad cap hb hcap hmax h hc hg => exact ⟨ad, cap, rfl, hb, hcap, hmax, h, hc, hg⟩
/-- A slice that is never written: empty and nil, or its elements lie where its address says. -/
theorem pinv_tree {pr : Addr → Option Value} {sz xs g} (h : PV pr (.tree sz xs g) vc) : (xs = [] ∧ vc = .slice none 0 0 ∧ (g = .ro ∨ g = .full)) ∨ ∃ (ad : Addr) (cap : Nat) (vs : Nat → Value), vc = .slice (some ad) xs.length cap ∧ xs.length ≤ cap ∧ cap ≤ maxLen ∧ (g = .ro ∨ (g = .full ∧ cap = xs.length)) ∧
    (∀ i (h : i < xs.length), PV pr xs[i] (vs i)) ∧ (∀ i, i < xs.length → (vs i).cells.size = sz) ∧ (∀ i j, i < xs.length → j < sz → pr (ad.add (i * sz + j)) = some ((vs i).cells.getD j undef)) := by
  cases h with
  | none_ _ _ hg => exact .inl ⟨rfl, rfl, hg⟩
  | tree _ _ _ ad cap vs h1 h2 h3 h4 h5 h6 => exact .inr ⟨ad, cap, vs, rfl, h1, h2, h3, h4, h5, h6⟩
theorem inv_tree {sz xs g} (h : RV ρ (.tree sz xs g) vc) : (xs = [] ∧ vc = .slice none 0 0 ∧ (g = .ro ∨ g = .full)) ∨ ∃ (ad : Addr) (cap : Nat) (vs : Nat → Value), vc = .slice (some ad) xs.length cap ∧ xs.length ≤ cap ∧ cap ≤ maxLen ∧ (g = .full → cap = xs.length) ∧
    (∀ i (h : i < xs.length), PV ρ.prot xs[i] (vs i)) ∧ (∀ i, i < xs.length → (vs i).cells.size = sz) ∧ (∀ i j, i < xs.length → j < sz → ρ.prot (ad.add (i * sz + j)) = some ((vs i).cells.getD j undef)) := by
  cases h with
  | pure _ _ h =>
    rcases pinv_tree h with h | ⟨ad, cap, vs, h1, h2, h3, h4, h5, h6, h7⟩
    · exact .inl h
    · refine .inr ⟨ad, cap, vs, h1, h2, h3, fun e => ?_, h5, h6, h7⟩
      rcases h4 with h4 | h4
      · rw [e] at h4; cases h4
      · exact h4.2
  | own _ _ κ ad cap g n c hg hn ht hl =>
    rcases pinv_tree ht with ⟨-, h, -⟩ | ⟨ad', cap', vs, h1, h2, h3, h4, h5, h6, h7⟩
    · cases h
    · injection h1 with h1 _ h1'
      injection h1 with h1
      subst h1; subst h1'
      exact .inr ⟨ad, cap, vs, rfl, h2, h3, (fun e => by cases e), h5, h6, h7⟩
/-- What is known of the spare room may be forgotten. -/
theorem PV.ro {pr : Addr → Option Value} {sz xs g} (h : PV pr (.tree sz xs g) vc) : PV pr (.tree sz xs .ro) vc := by
  rcases pinv_tree h with ⟨rfl, rfl, -⟩ | ⟨ad, cap, vs, rfl, h2, h3, h4, h5, h6, h7⟩
  · exact .none_ _ _ (.inl rfl)
  · exact .tree _ _ _ _ _ vs h2 h3 (.inl rfl) h5 h6 h7
theorem RV.ro {sz xs g} (h : RV ρ (.tree sz xs g) vc) : PV ρ.prot (.tree sz xs .ro) vc := by
  rcases inv_tree h with ⟨rfl, rfl, -⟩ | ⟨ad, cap, vs, rfl, h2, h3, h4, h5, h6, h7⟩
  · exact .none_ _ _ (.inl rfl)
  · exact .tree _ _ _ _ _ vs h2 h3 (.inl rfl) h5 h6 h7
end

/-! ### values that lead to nothing that is written -/
mutual
def pur : AV → Bool
  | .ptr _ _ => false
  | .bsl _ _ _ _ => false
  | .junk => false
  | .iface _ v => pur v
  | .func _ a b => purL a && purL b
  | .agg cs => purL cs
  | .tup cs => purL cs
  | .int _ _ => true
  | .bool _ => true
  | .str _ => true
  | .nilp => true
  | .eptr _ => true
  | .nils => true
  | .tree _ _ _ => true
  | .nilf => true
  | .nili => true
def purL : List AV → Bool
  | [] => true
  | v :: vs => pur v && purL vs
end
mutual
def roA : AV → AV
  | .tree sz xs (.own _) => .tree sz xs .ro
  | .tree sz xs .ro => .tree sz xs .ro
  | .tree sz xs .full => .tree sz xs .full
  | .iface t v => .iface t (roA v)
  | .func fn a b => .func fn (roL a) (roL b)
  | .agg cs => .agg (roL cs)
  | .tup cs => .tup (roL cs)
  | .ptr b o => .ptr b o
  | .bsl b o n c => .bsl b o n c
  | .junk => .junk
  | .int k n => .int k n
  | .bool b => .bool b
  | .str s => .str s
  | .nilp => .nilp
  | .eptr v => .eptr v
  | .nils => .nils
  | .nilf => .nilf
  | .nili => .nili
def roL : List AV → List AV
  | [] => []
  | v :: vs => roA v :: roL vs
end
theorem roL_length : ∀ l : List AV, (roL l).length = l.length
  | [] => rfl
  | v :: vs => by rw [roL, List.length_cons, List.length_cons, roL_length vs]
theorem roL_get : ∀ (l : List AV) (i : Nat) (h : i < (roL l).length), (roL l)[i] = roA (l[i]'(by rw [roL_length] at h; exact h))
  | [], i, h => absurd h (by rw [roL]; exact Nat.not_lt_zero _)
  | v :: vs, 0, h => by simp only [roL, List.getElem_cons_zero]
  | v :: vs, i + 1, h => by
    simp only [roL, List.getElem_cons_succ]
    exact roL_get vs i (by rw [roL] at h; simpa using h)
theorem purL_get : ∀ (l : List AV), purL l = true → ∀ (i : Nat) (h : i < l.length), pur l[i] = true
  | [], _, i, h => absurd h (Nat.not_lt_zero _)
  | v :: vs, hp, 0, h => by rw [purL, Bool.and_eq_true] at hp; exact hp.1
  | v :: vs, hp, i + 1, h => by rw [purL, Bool.and_eq_true] at hp; exact purL_get vs hp.2 i (by simpa using h)

theorem pure_PV {pr : Addr → Option Value} {v : AV} {vc : Value} (h : PV pr v vc) : PV pr (roA v) vc := by
  induction h with
  | int => simp only [roA]; exact .int _ _
  | bool => simp only [roA]; exact .bool _
  | str => simp only [roA]; exact .str _
  | nilp => simp only [roA]; exact .nilp
  | nils => simp only [roA]; exact .nils
  | none_ sz g hg => rcases hg with rfl | rfl <;> simp only [roA] <;> exact .none_ _ _ (by simp)
  | tree sz xs g ad cap vs hcap hmax hg hv hs hc _ =>
    rcases hg with rfl | ⟨rfl, h2⟩ <;> simp only [roA]
    · exact .tree sz xs _ ad cap vs hcap hmax (.inl rfl) hv hs hc
    · exact .tree sz xs _ ad cap vs hcap hmax (.inr ⟨rfl, h2⟩) hv hs hc
  | eptr v vc ad hv hc _ => simp only [roA]; exact .eptr v vc ad hv hc
  | nilf => simp only [roA]; exact .nilf
  | nili => simp only [roA]; exact .nili
  | iface t v vc _ ih => simp only [roA]; exact .iface t _ vc ih
  | func fn fst cap vf vc hf hc _ _ i1 i2 =>
    simp only [roA]
    exact .func fn _ _ vf vc (by rw [roL_length]; exact hf) (by rw [roL_length]; exact hc) (fun i hi => by rw [roL_get]; exact i1 i _) (fun i hi => by rw [roL_get]; exact i2 i _)
  | agg cs vs hl _ h1 ih => simp only [roA]; exact .agg _ vs (by rw [roL_length]; exact hl) (fun i hi => by rw [roL_get]; exact ih i _) h1
  | tup cs vs hl _ ih => simp only [roA]; exact .tup _ vs (by rw [roL_length]; exact hl) (fun i hi => by rw [roL_get]; exact ih i _)

theorem pure_RV {ρ : Ip} {v : AV} {vc : Value} (h : RV ρ v vc) : pur v = true → PV ρ.prot (roA v) vc := by
  induction h with
  | pure v vc h => exact fun _ => pure_PV h
  | own sz xs κ ad cap g n c hg hn ht hl => intro _; simp only [roA]; exact ht
  | ptr => intro h; simp [pur] at h
  | bsl => intro h; simp [pur] at h
  | iface t v vc _ ih => intro h; simp only [roA]; exact .iface t _ vc (ih (by simpa [pur] using h))
  | func fn fst cap vf vc hf hc _ _ i1 i2 =>
    intro h
    rw [pur, Bool.and_eq_true] at h
    simp only [roA]
    exact .func fn _ _ vf vc (by rw [roL_length]; exact hf) (by rw [roL_length]; exact hc) (fun i hi => by rw [roL_get]; exact i1 i _ (purL_get _ h.1 i _)) (fun i hi => by rw [roL_get]; exact i2 i _ (purL_get _ h.2 i _))
  | agg cs vs hl _ h1 ih =>
    intro h
    rw [pur] at h
    simp only [roA]; exact .agg _ vs (by rw [roL_length]; exact hl) (fun i hi => by rw [roL_get]; exact ih i _ (purL_get _ h i _)) h1
  | tup cs vs hl _ ih =>
    intro h
    rw [pur] at h
    simp only [roA]; exact .tup _ vs (by rw [roL_length]; exact hl) (fun i hi => by rw [roL_get]; exact ih i _ (purL_get _ h i _))
  | junk => intro h; simp [pur] at h

/-! ### cells -/
def cellsA : AV → List AV
  | .agg cs => cs
  | v => [v]
/-- A value of one cell. -/
def oneA : AV → Bool
  | .agg _ => false
  | .tup _ => false
  | .junk => false
  | _ => true
/-- A value that can lie in memory. -/
def memA : AV → Bool
  | .tup _ => false
  | .junk => false
  | _ => true
theorem PV.one {pr : Addr → Option Value} {v : AV} {vc : Value} (h : PV pr v vc) (h1 : oneA v = true) : vc.oneCell' = true ∧ vc.cells = #[vc] := by
  cases h <;> first | exact ⟨rfl, rfl⟩ | simp [oneA] at h1
theorem RV.one {ρ : Ip} {v : AV} {vc : Value} (h : RV ρ v vc) (h1 : oneA v = true) : vc.oneCell' = true ∧ vc.cells = #[vc] := by
  cases h with
  | pure _ _ h => exact h.one h1
  | _ => first | exact ⟨rfl, rfl⟩ | simp [oneA] at h1
theorem RV.cells {ρ : Ip} {v : AV} {vc : Value} (h : RV ρ v vc) (h1 : memA v = true) : (cellsA v).length = vc.cells.size ∧ (∀ i (hi : i < (cellsA v).length), RV ρ (cellsA v)[i] (vc.cells.getD i undef)) ∧ ∀ i, i < vc.cells.size → (vc.cells.getD i undef).oneCell' = true := by
  by_cases ho : oneA v = true
  · obtain ⟨h2, h3⟩ := h.one ho
    have hc : cellsA v = [v] := by cases v <;> first | rfl | simp [oneA] at ho
    rw [h3, hc]
    refine ⟨rfl, fun i hi => ?_, fun i hi => ?_⟩
    · have : i = 0 := by simpa using hi
      subst this
      exact h
    · have : i = 0 := by simpa using hi
      subst this
      exact h2
  · cases v <;> first | (exfalso; exact ho rfl) | (simp [memA] at h1; done) | skip
    obtain ⟨vs, rfl, hl, hv, h1⟩ := inv_agg h
    exact ⟨hl, hv, h1⟩
theorem PV.cells {pr : Addr → Option Value} {v : AV} {vc : Value} (h : PV pr v vc) (h1 : memA v = true) : (cellsA v).length = vc.cells.size ∧ (∀ i (hi : i < (cellsA v).length), PV pr (cellsA v)[i] (vc.cells.getD i undef)) ∧ ∀ i, i < vc.cells.size → (vc.cells.getD i undef).oneCell' = true := by
  by_cases ho : oneA v = true
  · obtain ⟨h2, h3⟩ := h.one ho
    have hc : cellsA v = [v] := by cases v <;> first | rfl | simp [oneA] at ho
    rw [h3, hc]
    refine ⟨rfl, fun i hi => ?_, fun i hi => ?_⟩
    · have : i = 0 := by simpa using hi
      subst this
      exact h
    · have : i = 0 := by simpa using hi
      subst this
      exact h2
  · cases v <;> first | (exfalso; exact ho rfl) | (simp [memA] at h1; done) | skip
    cases h with | agg _ vs hl hv h1 => exact ⟨hl, hv, h1⟩

/-! ### constants -/
def ofV1 : Value → Option AV
  | .int k n => some (.int k n)
  | .bool b => some (.bool b)
  | .string s => some (.str s)
  | .pointer none => some .nilp
  | .slice none 0 0 => some .nils
  | .nilFunc => some .nilf
  | .nilIface => some .nili
  | _ => none
def ofVs : List Value → Option (List AV)
  | [] => some []
  | v :: vs => (ofV1 v).bind fun a => (ofVs vs).map fun as_ => a :: as_
def ofV : Value → Option AV
  | .agg cs => (ofVs cs.toList).map .agg
  | v => ofV1 v
theorem ofV1_PV {pr : Addr → Option Value} {v : Value} {a : AV} (h : ofV1 v = some a) : PV pr a v ∧ v.oneCell' = true := by
  unfold ofV1 at h
  split at h <;> first | (injection h with h; subst h; exact ⟨by constructor, rfl⟩) | cases h
theorem ofVs_PV {pr : Addr → Option Value} : ∀ {vs : List Value} {as_ : List AV}, ofVs vs = some as_ → as_.length = vs.length ∧ ∀ i (h : i < as_.length), PV pr as_[i] (vs.getD i undef) ∧ (vs.getD i undef).oneCell' = true
  | [], as_, h => by
    simp only [ofVs, Option.some.injEq] at h
    subst h
    exact ⟨rfl, fun i hi => absurd hi (Nat.not_lt_zero _)⟩
  | v :: vs, as_, h => by
    simp only [ofVs] at h
    obtain ⟨a, h1, h2⟩ := Option.bind_eq_some_iff.1 h
    obtain ⟨bs, h3, rfl⟩ := Option.map_eq_some_iff.1 h2
    obtain ⟨k1, k2⟩ := ofVs_PV (pr := pr) h3
    refine ⟨by simp [k1], fun i hi => ?_⟩
    cases i with
    | zero => simpa using ofV1_PV h1
    | succ i => simpa using k2 i (by simpa using hi)
theorem ofV_PV {pr : Addr → Option Value} {v : Value} {a : AV} (h : ofV v = some a) : PV pr a v := by
  unfold ofV at h
  split at h
  · rename_i cs
    obtain ⟨bs, h3, rfl⟩ := Option.map_eq_some_iff.1 h
    obtain ⟨k1, k2⟩ := ofVs_PV (pr := pr) h3
    have hg : ∀ i, cs.getD i undef = cs.toList.getD i undef := fun i => by simp [List.getD, Array.getD_eq_getD_getElem?]
    refine .agg _ _ (by simpa using k1) (fun i hi => ?_) (fun i hi => ?_)
    · rw [hg]; exact (k2 i hi).1
    · rw [hg]; exact (k2 i (by rw [k1]; simpa using hi)).2
  · exact (ofV1_PV h).1

/-! ### types -/
def szT (P : Program) (t : TypeId) : Option Nat := (P.info? t).map (·.size)
def byT (P : Program) (t : TypeId) : Option Nat := (P.info? t).map (·.bytes)
def zrT (P : Program) (t : TypeId) : Option AV := (P.info? t).bind fun i => i.zero.bind ofV
def agT (P : Program) (t : TypeId) : Option Bool := match P.underlying t with
  | some (.struct _) => some true
  | some (.array _ _) => some true
  | some _ => some false
  | none => none
def elT (P : Program) (t : TypeId) : Option TypeId := match P.underlying t with
  | some (.slice e) => some e
  | _ => none
def flT (P : Program) (t : TypeId) (f : Nat) : Option (Nat × TypeId) := match P.underlying t with
  | some (.struct fs) => (fs[f]?).map fun f => (f.offset, f.type)
  | _ => none
/-- Kinds of types: 0 bool, 1 int, 2 string, 3 slice, 4 other. -/
def knT (P : Program) (t : TypeId) : Option Nat := match P.underlying t with
  | some .bool => some 0
  | some (.int _) => some 1
  | some .string => some 2
  | some (.slice _) => some 3
  | some _ => some 4
  | none => none

end Go.Eng
/- An engine, part 3: what each operation does to abstract values and abstract memory, and that the model does the same. Over any program. -/
set_option linter.unusedVariables false
set_option linter.unusedSimpArgs false
namespace Go.Eng
open Go.RowKit (Below)

def evA (t : Nat → AV) : Operand → AV
  | .tmp i => t i
  | .const v => (ofV v).getD .junk
  | .func f => .func (.func f) [] []
  | .global _ => .junk

/-- Cells are written one by one. -/
def splice : List AV → Nat → List AV → List AV
  | cs, _, [] => cs
  | cs, o, v :: vs => splice (cs.set o v) (o + 1) vs
theorem splice_length : ∀ (vs cs : List AV) (o : Nat), (splice cs o vs).length = cs.length
  | [], cs, o => rfl
  | v :: vs, cs, o => by rw [splice, splice_length vs, List.length_set]

def kdT (P : Program) (t : TypeId) : Option IntKind := match P.underlying t with
  | some (.int k) => some k
  | _ => none

/-- May a value be loaded as one of type t? -/
def fitsB (P : Program) (t : TypeId) : AV → Bool
  | .agg cs => agT P t == some true && szT P t == some cs.length
  | v => oneA v && agT P t == some false

def AH.put (h : AH) (b : Nat) (cs : List AV) : AH := { h with f := upd h.f b (some cs) }
def AH.mk_ (h : AH) (cs : List AV) : AH := { h with f := upd h.f h.n (some cs), n := h.n + 1 }
def AH.rm (h : AH) (b : Nat) : AH := { h with f := upd h.f b none }
def AH.grown (h : AH) (κ n : Nat) : AH := { h with gr := upd h.gr κ n }
def AH.begun (h : AH) (n : Nat) : AH := { h with gr := upd h.gr h.k n, k := h.k + 1 }

def loadW (P : Program) (t : TypeId) (x : AV) (h : AH) (K : AV → AH → Prop) : Prop := match x with
  | .eptr v => fitsB P t v = true ∧ K v h
  | .ptr b o => ∃ cs, h.f b = some cs ∧ ((agT P t = some false ∧ o < cs.length ∧ K (cs.getD o .junk) h) ∨
      (∃ n, agT P t = some true ∧ szT P t = some n ∧ o + n ≤ cs.length ∧ K (.agg ((cs.drop o).take n)) h))
  | _ => False
def storeW (P : Program) (t : TypeId) (x v : AV) (h : AH) (K : AV → AH → Prop) : Prop := match x with
  | .ptr b o => ∃ cs, h.f b = some cs ∧ memA v = true ∧ szT P t = some (cellsA v).length ∧ o + (cellsA v).length ≤ cs.length ∧ K .junk (h.put b (splice cs o (cellsA v)))
  | _ => False

section
variable {P : Program} {ρ : Ip} {h : AH} {w : World}

theorem getD_toList (a : Array Value) (i : Nat) : a.getD i undef = a.toList.getD i undef := by simp [List.getD, Array.getD_eq_getD_getElem?]
theorem toList_of_getD {a : Array Value} {i : Nat} {v : Value} (h : a.toList[i]? = some v) : a.getD i undef = v ∧ i < a.size := by
  obtain ⟨h1, h2⟩ := List.getElem?_eq_some_iff.1 h
  simp only [Array.length_toList] at h1
  refine ⟨?_, h1⟩
  rw [getD_toList, List.getD, h]; rfl

theorem run_isAgg_of {t : TypeId} {b : Bool} (ha : agT P t = some b) : (isAgg t).run P w = .ok b w := by
  unfold agT at ha
  unfold isAgg underlying
  cases hu : P.underlying t with
  | none => rw [hu] at ha; simp at ha
  | some d =>
    rw [hu] at ha
    simp only [Sem.run_bind, program, Sem.run, Result.andThen_ok, hu, Sem.run_pure]
    cases d <;> simp at ha <;> subst ha <;> rfl
theorem run_sizeOf_of {t : TypeId} {n : Nat} (ha : szT P t = some n) : (sizeOf t).run P w = .ok n w := by
  unfold szT at ha
  obtain ⟨i, hi, rfl⟩ := Option.map_eq_some_iff.1 ha
  simp [sizeOf, typeInfo, program, Sem.run, hi]
theorem run_under_of {t e : TypeId} (ha : elT P t = some e) : (underlying t).run P w = .ok (.slice e) w := by
  unfold elT at ha
  split at ha
  · rename_i e' hu
    injection ha with ha
    subst ha
    simp [underlying, program, Sem.run, hu]
  · cases ha
theorem elT_under {t e : TypeId} (ha : elT P t = some e) : P.underlying t = some (.slice e) := by
  unfold elT at ha
  split at ha
  · rename_i e' hu
    injection ha with ha
    subst ha
    exact hu
  · cases ha

theorem fitsB_run {t : TypeId} {v : AV} {u : Value} {ad : Addr} (hf : fitsB P t v = true) (hv : PV ρ.prot v u) (hc : ∀ j, j < u.cells.size → ρ.prot (ad.add j) = some (u.cells.getD j undef)) (hR : RH ρ h w) :
    (loadVar t ad).run P w = .ok u w := by
  by_cases ho : oneA v = true
  · have ha : agT P t = some false := by
      cases v <;> first | (simp [oneA] at ho; done) | (simp only [fitsB, Bool.and_eq_true, beq_iff_eq] at hf; exact hf.2)
    obtain ⟨h1, h2⟩ := hv.one ho
    have hcell := (hR.prot _ _ (hc 0 (by rw [h2]; exact Nat.zero_lt_one))).1
    rw [h2] at hcell
    have hcell' : w.cell? ad = some u := by simpa [Addr.add] using hcell
    unfold loadVar
    simp only [Sem.run_bind, run_isAgg_of ha, Result.andThen_ok, Bool.false_eq_true, if_false, run_load, hcell']
  · cases v <;> first | (exfalso; exact ho rfl) | (simp [fitsB, oneA] at hf; done) | skip
    rename_i cs
    simp only [fitsB, Bool.and_eq_true, beq_iff_eq] at hf
    cases hv with | agg _ vs hl hv1 h1 =>
    have hcs : ∀ j x, vs.toList[j]? = some x → w.cell? (ad.add j) = some x := fun j x hx => by
      obtain ⟨k1, k2⟩ := toList_of_getD hx
      rw [← k1]
      exact (hR.prot _ _ (hc j k2)).1
    unfold loadVar
    have hr := run_loadCells_list (P := P) w ad vs.toList hcs
    have hlen : vs.toList.length = cs.length := by rw [hl]; simp
    rw [hlen] at hr
    simp only [Sem.run_bind, run_isAgg_of hf.1, Result.andThen_ok, if_true, run_sizeOf_of hf.2, hr, Sem.run_pure]

theorem load_sound {t : TypeId} {x : AV} {K : AV → AH → Prop} (hw : loadW P t x h K) (hR : RH ρ h w) {xc : Value} (hx : RV ρ x xc) :
    ∃ vc v, (Instr.loadAt t xc).run P w = .ok vc w ∧ RV ρ v vc ∧ K v h := by
  unfold loadW at hw
  split at hw
  · rename_i v
    obtain ⟨ad, u, rfl, hv, hc⟩ := inv_eptr hx
    refine ⟨u, v, ?_, .pure _ _ hv, hw.2⟩
    simp only [Instr.loadAt, Instr.sureAddr, Sem.run_bind, Sem.run_pure, Result.andThen_ok, fitsB_run hw.1 hv hc hR]
  · rename_i b o
    obtain ⟨cs, hb, hw⟩ := hw
    obtain ⟨ad, rfl, hbn, hphi⟩ := inv_ptr hx
    obtain ⟨hbn', g, arr, e, hg, hh, hl, hcell⟩ := hR.blk b cs hb
    obtain rfl := hphi g _ hg
    rcases hw with ⟨ha, ho, hK⟩ | ⟨n, ha, hn, ho, hK⟩
    · have hoa : o < arr.size := by omega
      have hc : w.cell? ⟨g, o, none⟩ = some (arr.getD o undef) := by
        rw [cell_of_row w g o arr e (0, 0) hh, Array.getElem?_eq_getElem hoa]
        simp [Array.getD, hoa]
      refine ⟨arr.getD o undef, cs.getD o .junk, ?_, ?_, hK⟩
      · simp only [Instr.loadAt, Instr.sureAddr, Sem.run_bind, Sem.run_pure, Result.andThen_ok, loadVar, run_isAgg_of ha, Bool.false_eq_true, if_false, run_load, hc]
      · have := (hcell o ho).1
        rw [List.getD_eq_getElem?_getD, List.getElem?_eq_getElem ho]
        exact this
    · have hcs : ∀ j x, ((arr.toList.drop o).take n)[j]? = some x → w.cell? ((⟨g, o, none⟩ : Addr).add j) = some x := fun j x hx => by
        rw [Addr.add_lit, cell_of_row w g (o + j) arr e (0, 0) hh]
        rw [List.getElem?_take] at hx
        split at hx
        · rw [List.getElem?_drop, Array.getElem?_toList] at hx; exact hx
        · cases hx
      have hlen : ((arr.toList.drop o).take n).length = n := by simp; omega
      have hr := run_loadCells_list (P := P) w ⟨g, o, none⟩ _ hcs
      rw [hlen] at hr
      have hgd : ∀ i, i < n → ((arr.toList.drop o).take n).toArray.getD i undef = arr.getD (o + i) undef := fun i hi => by
        rw [getD_toList, getD_toList]
        simp only [List.getD_eq_getElem?_getD, List.getElem?_take, hi, if_true, List.getElem?_drop]
      refine ⟨.agg ((arr.toList.drop o).take n).toArray, _, ?_, ?_, hK⟩
      · simp only [Instr.loadAt, Instr.sureAddr, Sem.run_bind, Sem.run_pure, Result.andThen_ok, loadVar, run_isAgg_of ha, if_true, run_sizeOf_of hn, hr]
      · refine .agg _ _ (by simp; omega) (fun i hi => ?_) (fun i hi => ?_)
        · have hi' : i < n := by simp at hi; omega
          rw [hgd i hi', List.getElem_take, List.getElem_drop]
          exact (hcell (o + i) (by omega)).1
        · have hi' : i < n := by simpa [hlen] using hi
          rw [hgd i hi']
          exact (hcell (o + i) (by omega)).2
  · exact hw.elim

/-- Several cells of a block are written. -/
theorem RH.sets : ∀ (vs : List AV) (us : List Value) (cs : List AV) (o : Nat) {ρ : Ip} {h : AH} {w : World} (hR : RH ρ h w) {b : Nat} (hb : h.f b = some cs) {g n : Nat} (hg : ρ.phi b = some (g, n)), vs.length = us.length →
    (∀ i (hi : i < vs.length), RV ρ vs[i] (us.getD i undef)) → (∀ u ∈ us, u.oneCell' = true) → ∀ i, o + i + vs.length ≤ cs.length →
    ∃ w', (storeCells ⟨g, o, none⟩ us i).run P w = .ok () w' ∧ RH ρ (h.put b (splice cs (o + i) vs)) w'
  | [], [], cs, o, ρ, h, w, hR, b, hb, g, n, hg, _, _, _, i, _ => by
    refine ⟨w, rfl, ?_⟩
    have : h.put b (splice cs (o + i) []) = h := by
      unfold AH.put
      have : upd h.f b (some (splice cs (o + i) [])) = h.f := by
        funext j
        by_cases hj : j = b
        · rw [hj, upd_same, hb]; rfl
        · rw [upd_ne _ _ hj]
      rw [this]
    rw [this]; exact hR
  | [], u :: us, cs, o, ρ, h, w, hR, b, hb, g, n, hg, hl, _, _, i, _ => by simp at hl
  | v :: vs, [], cs, o, ρ, h, w, hR, b, hb, g, n, hg, hl, _, _, i, _ => by simp at hl
  | v :: vs, u :: us, cs, o, ρ, h, w, hR, b, hb, g, n, hg, hl, hv, h1, i, hlen => by
    simp only [List.length_cons] at hlen hl
    have ho : o + i < cs.length := by omega
    obtain ⟨g', n', hg', ⟨u0, hc⟩, hfr, hR'⟩ := hR.set hb ho (v := v) (u := u) (hv 0 (by simp)) (h1 u (by simp))
    have hgg : g' = g := by rw [hg] at hg'; exact (Prod.mk.inj (Option.some.inj hg')).1.symm
    subst hgg
    obtain ⟨w', hr, hR2⟩ := RH.sets vs us (cs.set (o + i) v) o hR' (b := b) (upd_same _ _ _) hg (by omega) (fun j hj => by have := hv (j + 1) (by simpa using hj); rw [List.getElem_cons_succ] at this; simpa using this) (fun x hx => h1 x (by simp [hx])) (i + 1) (by rw [List.length_set]; omega)
    refine ⟨w', ?_, ?_⟩
    · simp only [storeCells, Sem.run_bind, Addr.add_lit, run_store P w _ u .plain (h1 u (by simp)), hc, hfr, Bool.false_eq_true, if_false, Result.andThen_ok, hr]
    · have e1 : (AH.put { h with f := upd h.f b (some (cs.set (o + i) v)) } b (splice (cs.set (o + i) v) (o + (i + 1)) vs)) = h.put b (splice cs (o + i) (v :: vs)) := by
        unfold AH.put
        have : upd (upd h.f b (some (cs.set (o + i) v))) b (some (splice (cs.set (o + i) v) (o + (i + 1)) vs)) = upd h.f b (some (splice cs (o + i) (v :: vs))) := by
          funext j
          by_cases hj : j = b
          · rw [hj, upd_same, upd_same, splice, Nat.add_assoc]
          · rw [upd_ne _ _ hj, upd_ne _ _ hj, upd_ne _ _ hj]
        rw [this]
      rw [← e1]
      exact hR2

theorem store_sound {t : TypeId} {x v : AV} {K : AV → AH → Prop} (hw : storeW P t x v h K) (hR : RH ρ h w) {xc vc : Value} (hx : RV ρ x xc) (hv : RV ρ v vc) :
    ∃ w' h', (Instr.storeAt t xc vc).run P w = .ok () w' ∧ RH ρ h' w' ∧ K .junk h' := by
  unfold storeW at hw
  split at hw
  · rename_i b o
    obtain ⟨cs, hb, hm, hsz, hlen, hK⟩ := hw
    obtain ⟨ad, rfl, hbn, hphi⟩ := inv_ptr hx
    obtain ⟨hbn', g, arr, e, hg, hh, hl, hcell⟩ := hR.blk b cs hb
    obtain rfl := hphi g _ hg
    obtain ⟨h1, h2, h3⟩ := hv.cells hm
    obtain ⟨w', hr, hR'⟩ := RH.sets (P := P) (cellsA v) vc.cells.toList cs o hR hb hg (by simpa using h1) (fun i hi => by rw [← getD_toList]; exact h2 i hi)
      (fun u hu => by
        obtain ⟨j, hj, rfl⟩ := List.mem_iff_getElem.1 hu
        have := h3 j (by simpa using hj)
        rw [getD_toList, List.getD_eq_getElem?_getD, List.getElem?_eq_getElem hj] at this
        exact this) 0 (by simpa using hlen)
    refine ⟨w', _, ?_, by simpa using hR', hK⟩
    have hne : ¬ (vc.cells.size ≠ (cellsA v).length) := by rw [h1]; simp
    simp only [Instr.storeAt, Instr.sureAddr, storeVar, Sem.run_bind, Sem.run_pure, Result.andThen_ok, run_sizeOf_of hsz, if_neg hne, hr]
  · exact hw.elim

end
end Go.Eng
/- An engine, part 4: numbers, structs, slices: what the operations do that only compute, and those that make memory. Over any program. -/
set_option linter.unusedVariables false
set_option linter.unusedSimpArgs false
namespace Go.Eng
open Go.RowKit (Below)

def arW (op : BinOp) (k : IntKind) (a b : Int) (K : AV → Prop) : Prop := match op with
  | .add => K (.int k (k.wrap (a + b)))
  | .sub => K (.int k (k.wrap (a - b)))
  | .mul => K (.int k (k.wrap (a * b)))
  | .quo => b ≠ 0 ∧ K (.int k (k.wrap (a.tdiv b)))
  | .rem => b ≠ 0 ∧ K (.int k (a.tmod b))
  | .and => K (.int k (k.wrap (BitVec.ofInt k.bits a &&& BitVec.ofInt k.bits b).toNat))
  | .or => K (.int k (k.wrap (BitVec.ofInt k.bits a ||| BitVec.ofInt k.bits b).toNat))
  | .xor => K (.int k (k.wrap (BitVec.ofInt k.bits a ^^^ BitVec.ofInt k.bits b).toNat))
  | .andNot => K (.int k (k.wrap (BitVec.ofInt k.bits a &&& ~~~BitVec.ofInt k.bits b).toNat))
  | .eql => K (.bool (a == b))
  | .neq => K (.bool (a != b))
  | .lss => K (.bool (decide (a < b)))
  | .leq => K (.bool (decide (a ≤ b)))
  | .gtr => K (.bool (decide (a > b)))
  | .geq => K (.bool (decide (a ≥ b)))
  | .shl => 0 ≤ b ∧ K (.int k (k.wrap (a * 2 ^ min b.toNat k.bits)))
  | .shr => 0 ≤ b ∧ K (.int k (a.fdiv (2 ^ min b.toNat k.bits)))
def stW (op : BinOp) (a b : ByteArray) (K : AV → Prop) : Prop := match op with
  | .add => a.size + b.size ≤ 9223372036854775807 ∧ K (.str (a ++ b))
  | .eql => K (.bool (a.toList == b.toList))
  | .neq => K (.bool (!(a.toList == b.toList)))
  | .lss => K (.bool (Op.bytesLess a.toList b.toList))
  | .leq => K (.bool (Op.bytesLess a.toList b.toList || a.toList == b.toList))
  | .gtr => K (.bool (!(Op.bytesLess a.toList b.toList || a.toList == b.toList)))
  | .geq => K (.bool (!Op.bytesLess a.toList b.toList))
  | _ => False
/-- Is the kind of the right operand free? (shifts) -/
def freeK : BinOp → Bool
  | .shl => true
  | .shr => true
  | _ => false
def binW (P : Program) (op : BinOp) (t : TypeId) (x y : AV) (K : AV → Prop) : Prop := match x, y with
  | .int k a, .int k' b => (freeK op = true ∨ k = k') ∧ arW op k a b K
  | .bool a, .bool b => knT P t = some 0 ∧ ((op = .eql ∧ K (.bool (a == b))) ∨ (op = .neq ∧ K (.bool (!(a == b)))))
  | .str a, .str b => stW op a b K
  | _, _ => False

theorem arW_mono {op k a b} {K K' : AV → Prop} (hK : ∀ v, K v → K' v) (h : arW op k a b K) : arW op k a b K' := by
  cases op <;> simp only [arW] at h ⊢ <;> first | exact hK _ h | exact ⟨h.1, hK _ h.2⟩

section
variable {P : Program} {ρ : Ip} {w : World}

theorem knT0 {t : TypeId} (h : knT P t = some 0) : P.underlying t = some .bool := by
  unfold knT at h
  split at h <;> first | assumption | (simp at h)

theorem bin_sound {op : BinOp} {t : TypeId} {x y : AV} {K : AV → Prop} (hw : binW P op t x y K) {xo yo : Operand} {xc yc : Value} (hx : RV ρ x xc) (hy : RV ρ y yc) :
    ∃ vc v, (do eqGuard op t xo yo xc yc; binOp op t xc yc : Sem Value).run P w = .ok vc w ∧ PV ρ.prot v vc ∧ K v := by
  unfold binW at hw
  split at hw
  · rename_i k a k' b
    obtain rfl := inv_int hx
    obtain rfl := inv_int hy
    obtain ⟨hk, hw⟩ := hw
    have he : eqGuard op t xo yo (.int k a) (.int k' b) = pure () := by cases op <;> rfl
    by_cases hf : freeK op = true
    · cases op <;> first | (simp [freeK] at hf; done) | skip
      all_goals
        obtain ⟨h0, hK⟩ := hw
        have hn : ¬ b < 0 := by omega
        refine ⟨_, _, ?_, .int _ _, hK⟩
        simp only [he, Sem.run_bind, Sem.run_pure, Result.andThen_ok, binOp, Op.shift, if_neg hn]
    · obtain rfl : k = k' := hk.resolve_left hf
      have hne : ¬ (k ≠ k) := fun h => h rfl
      cases op <;> first | (exfalso; exact hf rfl) | skip
      all_goals simp only [arW] at hw
      all_goals first
        | (obtain ⟨h0, hK⟩ := hw
           refine ⟨_, _, ?_, .int _ _, hK⟩
           simp only [he, Sem.run_bind, Sem.run_pure, Result.andThen_ok, binOp, if_neg hne, Op.intDiv, if_neg h0]
           done)
        | (refine ⟨_, _, ?_, .int _ _, hw⟩
           simp only [he, Sem.run_bind, Sem.run_pure, Result.andThen_ok, binOp, if_neg hne, Op.intArith, Op.intBits]
           done)
        | (refine ⟨_, _, ?_, .bool _, hw⟩
           simp only [he, Sem.run_bind, Sem.run_pure, Result.andThen_ok, binOp, if_neg hne, Op.intCmp]
           done)
  · rename_i a b
    obtain rfl := inv_bool hx
    obtain rfl := inv_bool hy
    obtain ⟨hk, hw⟩ := hw
    have hu := knT0 hk
    have he : eqGuard op t xo yo (.bool a) (.bool b) = pure () := by cases op <;> rfl
    rcases hw with ⟨rfl, hK⟩ | ⟨rfl, hK⟩
    · refine ⟨_, _, ?_, .bool _, hK⟩
      simp only [he, Sem.run_bind, Sem.run_pure, Result.andThen_ok, run_eql_bool w t a b hu]
    · refine ⟨_, _, ?_, .bool _, hK⟩
      simp only [he, Sem.run_bind, Sem.run_pure, Result.andThen_ok, run_neq_bool w t a b hu]
  · rename_i a b
    obtain rfl := inv_str hx
    obtain rfl := inv_str hy
    have he : eqGuard op t xo yo (.string a) (.string b) = pure () := by cases op <;> rfl
    cases op <;> simp only [stW] at hw <;> first | exact hw.elim | skip
    · obtain ⟨h0, hK⟩ := hw
      have hn : ¬ (((a.size + b.size : Nat) : Int) > IntKind.i64.max) := by rw [IntKind.max_i64]; omega
      refine ⟨_, _, ?_, .str _, hK⟩
      simp only [he, Sem.run_bind, Sem.run_pure, Result.andThen_ok, binOp, Op.stringOp, if_neg hn]
    all_goals
      refine ⟨_, _, ?_, .bool _, hw⟩
      simp only [he, Sem.run_bind, Sem.run_pure, Result.andThen_ok, binOp, Op.stringOp]
  · exact hw.elim
end

/-! ### structs -/
/-- What building a struct wants to know: its zero cells, its fields' places and sizes. -/
def bdT (P : Program) (t : TypeId) : Option (List AV × List (Nat × Nat)) := match P.info? t, P.underlying t with
  | some it, some (.struct fields) => it.zero.bind fun z => (ofV z).bind fun za => (fields.toList.mapM (fun f => (P.info? f.type).map fun i => (f.offset, i.size))).map fun pl => (cellsA za, pl)
  | _, _ => none
def fillA (pl : List (Nat × Nat)) : List AV → List (Nat × AV) → Option (List AV)
  | cells, [] => some cells
  | cells, (i, v) :: rest => match pl[i]? with
    | none => none
    | some (off, size) => if memA v = true ∧ (cellsA v).length = size ∧ off + size ≤ cells.length then fillA pl (splice cells off (cellsA v)) rest else none

theorem splice_get : ∀ (vs cs : List AV) (o i : Nat) (h : i < (splice cs o vs).length), (splice cs o vs)[i] = if h2 : o ≤ i ∧ i < o + vs.length then vs[i - o]'(by omega) else cs[i]'(by rw [splice_length] at h; exact h)
  | [], cs, o, i, h => by rw [dif_neg (by simp only [List.length_nil]; omega)]; rfl
  | v :: vs, cs, o, i, h => by
    simp only [splice]
    rw [splice_get vs (cs.set o v) (o + 1) i (by simpa [splice] using h)]
    by_cases h1 : i = o
    · subst h1
      rw [dif_neg (by omega), dif_pos ⟨Nat.le_refl _, by simp⟩]
      simp
    · by_cases h2 : o ≤ i ∧ i < o + (v :: vs).length
      · have h3 : o + 1 ≤ i ∧ i < o + 1 + vs.length := by simp at h2; omega
        rw [dif_pos h3, dif_pos h2]
        obtain ⟨j, rfl⟩ : ∃ j, i = o + 1 + j := ⟨i - (o + 1), by omega⟩
        simp only [show o + 1 + j - (o + 1) = j from by omega, show o + 1 + j - o = j + 1 from by omega, List.getElem_cons_succ]
      · rw [dif_neg (by simp at h2; omega), dif_neg h2, List.getElem_set_ne (by omega)]

/-- The model's way of laying a part over cells. -/
theorem foldl_lay (v : List Value) (off : Nat) : ∀ (k : Nat) (cells : Array Value), off + k + v.length ≤ cells.size →
    ((v.zipIdx k).foldl (fun cs (p : Value × Nat) => cs.setIfInBounds (off + p.2) p.1) cells).size = cells.size ∧
    ∀ i, ((v.zipIdx k).foldl (fun cs (p : Value × Nat) => cs.setIfInBounds (off + p.2) p.1) cells).getD i undef = if off + k ≤ i ∧ i < off + k + v.length then v.getD (i - (off + k)) undef else cells.getD i undef := by
  induction v with
  | nil => intro k cells _; exact ⟨rfl, fun i => by rw [if_neg (by simp only [List.length_nil]; omega)]; rfl⟩
  | cons x v ih =>
    intro k cells hk
    simp only [List.length_cons] at hk
    simp only [List.zipIdx_cons, List.foldl_cons]
    obtain ⟨h1, h2⟩ := ih (k + 1) (cells.setIfInBounds (off + k) x) (by rw [Array.size_setIfInBounds]; omega)
    refine ⟨by rw [h1, Array.size_setIfInBounds], fun i => ?_⟩
    rw [h2 i]
    by_cases h3 : i = off + k
    · subst h3
      rw [if_neg (by omega), if_pos ⟨Nat.le_refl _, by simp⟩]
      simp only [Nat.sub_self, List.getD_cons_zero]
      rw [Array.getD_eq_getD_getElem?, Array.getElem?_setIfInBounds_self_of_lt (by omega)]
      rfl
    · have h4 : (cells.setIfInBounds (off + k) x).getD i undef = cells.getD i undef := by
        rw [Array.getD_eq_getD_getElem?, Array.getD_eq_getD_getElem?, Array.getElem?_setIfInBounds_ne (by omega)]
      by_cases h5 : off + k ≤ i ∧ i < off + k + (x :: v).length
      · rw [if_pos h5, if_pos (by simp at h5; omega)]
        obtain ⟨j, rfl⟩ : ∃ j, i = off + (k + 1) + j := ⟨i - (off + (k + 1)), by omega⟩
        rw [show off + (k + 1) + j - (off + (k + 1)) = j from by omega, show off + (k + 1) + j - (off + k) = j + 1 from by omega, List.getD_cons_succ]
      · rw [if_neg h5, if_neg (by simp at h5; omega), h4]

theorem fill_sound {ρ : Ip} {pl : List (Nat × Nat)} : ∀ (parts : List (Nat × AV)) (partsc : List (Nat × Value)) (cells out : List AV) (cellsc : Array Value), parts.length = partsc.length →
    (∀ i (hi : i < parts.length), (partsc.getD i (0, undef)).1 = parts[i].1 ∧ RV ρ parts[i].2 (partsc.getD i (0, undef)).2) → fillA pl cells parts = some out → cells.length = cellsc.size →
    (∀ i (hi : i < cells.length), RV ρ cells[i] (cellsc.getD i undef)) → (∀ i, i < cellsc.size → (cellsc.getD i undef).oneCell' = true) →
    ∃ outc, Instr.fill (pl.toArray[·]?) cellsc partsc = some outc ∧ out.length = outc.size ∧ (∀ i (hi : i < out.length), RV ρ out[i] (outc.getD i undef)) ∧ ∀ i, i < outc.size → (outc.getD i undef).oneCell' = true
  | [], [], cells, out, cellsc, _, _, hf, hl, hv, h1 => by
    simp only [fillA, Option.some.injEq] at hf
    subst hf
    exact ⟨cellsc, rfl, hl, hv, h1⟩
  | [], _ :: _, _, _, _, h, _, _, _, _, _ => by simp at h
  | _ :: _, [], _, _, _, h, _, _, _, _, _ => by simp at h
  | (i, v) :: parts, (ic, vc) :: partsc, cells, out, cellsc, hlen, hp, hf, hl, hv, h1 => by
    obtain ⟨hi, hvv⟩ := hp 0 (by simp)
    simp only [List.getD_cons_zero, List.getElem_cons_zero] at hi hvv
    subst hi
    simp only [fillA] at hf
    cases hpl : pl[ic]? with
    | none => simp [hpl] at hf
    | some os =>
      obtain ⟨off, size⟩ := os
      simp only [hpl] at hf
      split at hf
      · rename_i hc
        obtain ⟨hm, hsz, hfit⟩ := hc
        obtain ⟨k1, k2, k3⟩ := hvv.cells hm
        have hfold := foldl_lay vc.cells.toList off 0 cellsc (by simp; omega)
        obtain ⟨f1, f2⟩ := hfold
        have hx : Instr.fill (pl.toArray[·]?) cellsc ((ic, vc) :: partsc) = Instr.fill (pl.toArray[·]?) ((vc.cells.toList.zipIdx 0).foldl (fun cs (p : Value × Nat) => cs.setIfInBounds (off + p.2) p.1) cellsc) partsc := by
          have hpl' : pl.toArray[ic]? = some (off, size) := by simpa using hpl
          simp only [Instr.fill, hpl']
          rw [if_neg (by simp only [Bool.or_eq_true, decide_eq_true_eq]; omega)]
          congr 1
          rw [← Array.foldl_toList, Array.toList_zipIdx]
        rw [hx]
        refine fill_sound parts partsc _ out _ (by simpa using hlen) (fun j hj => by have := hp (j + 1) (by simpa using hj); simpa using this) hf (by rw [splice_length, f1, hl]) (fun j hj => ?_) (fun j hj => ?_)
        · rw [splice_get, f2 j]
          by_cases hc : off ≤ j ∧ j < off + (cellsA v).length
          · rw [dif_pos hc, if_pos (by simp; omega), Nat.add_zero, ← getD_toList]
            exact k2 (j - off) (by omega)
          · rw [dif_neg hc, if_neg (by simp; omega)]
            exact hv j (by rw [splice_length] at hj; exact hj)
        · rw [f2 j]
          by_cases hc : off + 0 ≤ j ∧ j < off + 0 + vc.cells.toList.length
          · rw [if_pos hc, ← getD_toList]
            exact k3 _ (by simp at hc ⊢; omega)
          · rw [if_neg hc]
            exact h1 j (by rw [f1] at hj; exact hj)
      · cases hf

theorem build_sound {P : Program} {ρ : Ip} {w : World} {t : TypeId} {za : List AV} {pl : List (Nat × Nat)} (hb : bdT P t = some (za, pl)) {parts : List (Nat × AV)} {partsc : Array (Nat × Value)} {out : List AV} (hlen : parts.length = partsc.size)
    (hp : ∀ i (hi : i < parts.length), (partsc.toList.getD i (0, undef)).1 = parts[i].1 ∧ RV ρ parts[i].2 (partsc.toList.getD i (0, undef)).2) (hf : fillA pl za parts = some out) :
    ∃ vs, (Instr.build t partsc).run P w = .ok (.agg vs) w ∧ RV ρ (.agg out) (.agg vs) := by
  unfold bdT at hb
  split at hb
  · rename_i it fields hi hu
    obtain ⟨z, hz, hb⟩ := Option.bind_eq_some_iff.1 hb
    obtain ⟨za', hza, hb⟩ := Option.bind_eq_some_iff.1 hb
    obtain ⟨pl', hpl, hb⟩ := Option.map_eq_some_iff.1 hb
    obtain ⟨rfl, rfl⟩ := Prod.mk.inj hb
    have hzp : PV ρ.prot za' z := ofV_PV hza
    by_cases hm : memA za' = true
    · obtain ⟨k1, k2, k3⟩ := hzp.cells hm
      obtain ⟨outc, f1, f2, f3, f4⟩ := fill_sound (ρ := ρ) parts partsc.toList (cellsA za') out z.cells (by simpa using hlen) hp hf k1 (fun i hi => .pure _ _ (k2 i hi)) k3
      refine ⟨outc, run_build w t partsc outc ?_, .agg _ _ f2 f3 f4⟩
      simp only [Program.built, hi, hu, hz, hpl]
      exact f1
    · exfalso
      apply hm
      cases z with
      | agg cs =>
        simp only [ofV] at hza
        obtain ⟨bs, _, rfl⟩ := Option.map_eq_some_iff.1 hza
        rfl
      | _ =>
        simp only [ofV] at hza
        unfold ofV1 at hza
        split at hza <;> first | (injection hza with hza; subst hza; rfl) | (cases hza)
  · cases hb

end Go.Eng
/- An engine, part 5: slices: made, written out, cut, appended to. Over any program. -/
set_option linter.unusedVariables false
set_option linter.unusedSimpArgs false
namespace Go.Eng
open Go.RowKit (Below)

section
variable {P : Program} {ρ : Ip} {h : AH} {w : World}

/-- The elements' cells, one behind the other. -/
def flat (vs : Nat → Value) : Nat → List Value
  | 0 => []
  | n + 1 => flat vs n ++ (vs n).cells.toList
theorem flat_length {vs : Nat → Value} {sz : Nat} : ∀ n, (∀ i, i < n → (vs i).cells.size = sz) → (flat vs n).length = n * sz
  | 0, _ => by simp [flat]
  | n + 1, h => by rw [flat, List.length_append, flat_length n (fun i hi => h i (by omega)), Array.length_toList, h n (by omega), Nat.succ_mul]
theorem flat_get {vs : Nat → Value} {sz : Nat} : ∀ n, (∀ i, i < n → (vs i).cells.size = sz) → ∀ i j, i < n → j < sz → (flat vs n)[i * sz + j]? = some ((vs i).cells.getD j undef)
  | 0, _, i, j, hi, _ => by omega
  | n + 1, h, i, j, hi, hj => by
    have hl := flat_length n (vs := vs) (sz := sz) (fun i hi => h i (by omega))
    rw [flat]
    by_cases hin : i < n
    · have hlt : i * sz + j < (flat vs n).length := by
        rw [hl]
        have : (i + 1) * sz ≤ n * sz := Nat.mul_le_mul_right _ hin
        rw [Nat.succ_mul] at this
        omega
      rw [List.getElem?_append_left hlt]
      exact flat_get n (fun i hi => h i (by omega)) i j hin hj
    · have : i = n := by omega
      subst this
      rw [List.getElem?_append_right (by omega), hl, show i * sz + j - i * sz = j from by omega, Array.getElem?_toList]
      have hs := h i (by omega)
      have hj' : j < (vs i).cells.size := by omega
      rw [Array.getElem?_eq_getElem hj']
      simp [Array.getD, hj']
/-- A cell of the flat row is an element's. -/
theorem flat_cell {vs : Nat → Value} {sz : Nat} (n : Nat) (h : ∀ i, i < n → (vs i).cells.size = sz) {q : Nat} {u : Value} (hq : (flat vs n)[q]? = some u) : 0 < sz ∧ q / sz < n ∧ q % sz < sz ∧ u = (vs (q / sz)).cells.getD (q % sz) undef := by
  have hlt : q < n * sz := by
    rw [← flat_length n h]
    exact (List.getElem?_eq_some_iff.1 hq).1
  have hsz : 0 < sz := by
    rcases Nat.eq_zero_or_pos sz with h0 | h0
    · rw [h0, Nat.mul_zero] at hlt; omega
    · exact h0
  have hd : q / sz < n := by rw [Nat.div_lt_iff_lt_mul hsz]; exact hlt
  have hm := Nat.mod_lt q hsz
  refine ⟨hsz, hd, hm, ?_⟩
  have := flat_get n h (q / sz) (q % sz) hd hm
  rw [Nat.div_add_mod' q sz, hq] at this
  exact Option.some.inj this

/-- A tree out of its cells in a block that stays. -/
theorem tree_of {pr : Addr → Option Value} {sz : Nat} {xs : List AV} {g : Nat} {cap : Nat} {gr : Gr} {vs : Nat → Value} (hcap : xs.length ≤ cap) (hmax : cap ≤ maxLen) (hg : gr = .ro ∨ (gr = .full ∧ cap = xs.length))
    (hv : ∀ i (h : i < xs.length), PV pr xs[i] (vs i)) (hs : ∀ i, i < xs.length → (vs i).cells.size = sz) (hc : ∀ q u, q < xs.length * sz → (flat vs xs.length)[q]? = some u → pr ⟨g, q, none⟩ = some u) :
    PV pr (.tree sz xs gr) (.slice (some ⟨g, 0, none⟩) xs.length cap) := by
  refine .tree sz xs gr ⟨g, 0, none⟩ cap vs hcap hmax hg hv hs (fun i j hi hj => ?_)
  have hlt : i * sz + j < xs.length * sz := by
    have : (i + 1) * sz ≤ xs.length * sz := Nat.mul_le_mul_right _ hi
    rw [Nat.succ_mul] at this
    omega
  rw [Addr.add_lit, Nat.zero_add]
  exact hc _ _ hlt (flat_get xs.length hs i j hi hj)
end

/-! ### a slice that is written out -/
/-- The parts stand in order, without gaps. -/
def inOrder : Nat → List (Nat × AV) → Bool
  | _, [] => true
  | k, (i, _) :: rest => i == k && inOrder (k + 1) rest
def allB (p : AV → Bool) : List AV → Bool
  | [] => true
  | v :: vs => p v && allB p vs
theorem allB_get {p : AV → Bool} : ∀ {l : List AV}, allB p l = true → ∀ i (h : i < l.length), p l[i] = true
  | [], _, i, h => absurd h (Nat.not_lt_zero _)
  | v :: vs, hp, 0, h => by rw [allB, Bool.and_eq_true] at hp; exact hp.1
  | v :: vs, hp, i + 1, h => by rw [allB, Bool.and_eq_true] at hp; exact allB_get hp.2 i (by simpa using h)
/-- A value that is an element of sz cells and leads to nothing that is written. -/
def elemB (sz : Nat) (v : AV) : Bool := memA v && pur v && (cellsA v).length == sz
/-- An element of sz cells. -/
def elemM (sz : Nat) (v : AV) : Bool := memA v && (cellsA v).length == sz
def catA : List AV → List AV
  | [] => []
  | v :: vs => cellsA v ++ catA vs

theorem inOrder_get : ∀ {k : Nat} {l : List (Nat × AV)}, inOrder k l = true → ∀ i (h : i < l.length), l[i].1 = k + i
  | _, [], _, i, h => absurd h (Nat.not_lt_zero _)
  | k, (i0, v) :: rest, hp, 0, h => by rw [inOrder, Bool.and_eq_true, beq_iff_eq] at hp; simpa using hp.1
  | k, (i0, v) :: rest, hp, i + 1, h => by
    rw [inOrder, Bool.and_eq_true] at hp
    have := inOrder_get hp.2 i (by simpa using h)
    simp only [List.getElem_cons_succ]
    omega

/-- Filling elements in order, one behind the other. -/
theorem fill_row (sz : Nat) (vs : Nat → Value) (total : Nat) : ∀ (m k : Nat) (partsc : List (Nat × Value)) (cells : Array Value), partsc.length = m → (∀ i, i < m → partsc.getD i (0, undef) = (k + i, vs (k + i))) → (∀ i, i < k + m → (vs i).cells.size = sz) → cells.size = total * sz → k + m = total →
    (∀ q, q < k * sz → cells[q]? = (flat vs total)[q]?) → ∃ out, Instr.fill (fun i => some (i * sz, sz)) cells partsc = some out ∧ out.toList = flat vs total
  | 0, k, partsc, cells, hl, hp, hs, hsz, hkm, hq => by
    have : partsc = [] := List.eq_nil_of_length_eq_zero hl
    subst this
    refine ⟨cells, rfl, ?_⟩
    apply List.ext_getElem?
    intro q
    by_cases hqk : q < k * sz
    · rw [Array.getElem?_toList, hq q hqk]
    · have hk : k = total := by omega
      have := flat_length total (vs := vs) (sz := sz) (fun i hi => hs i (by omega))
      rw [List.getElem?_eq_none (by rw [Array.length_toList]; rw [hk] at hqk; omega), List.getElem?_eq_none (by rw [this]; rw [hk] at hqk; omega)]
  | m + 1, k, partsc, cells, hl, hp, hs, hsz, hkm, hq => by
    match partsc, hl with
    | (i0, v0) :: rest, hl =>
      have h0 := hp 0 (by omega)
      simp only [List.getD_cons_zero, Nat.add_zero, Prod.mk.injEq] at h0
      obtain ⟨rfl, rfl⟩ := h0
      have hs0 := hs i0 (by omega)
      have hfit : i0 * sz + (vs i0).cells.size ≤ cells.size := by
        rw [hs0, hsz, ← Nat.succ_mul]
        exact Nat.mul_le_mul_right _ (by omega)
      obtain ⟨f1, f2⟩ := foldl_lay (vs i0).cells.toList (i0 * sz) 0 cells (by simpa using hfit)
      have hx : Instr.fill (fun i => some (i * sz, sz)) cells ((i0, vs i0) :: rest) = Instr.fill (fun i => some (i * sz, sz)) (((vs i0).cells.toList.zipIdx 0).foldl (fun cs (p : Value × Nat) => cs.setIfInBounds (i0 * sz + p.2) p.1) cells) rest := by
        simp only [Instr.fill]
        rw [if_neg (by simp only [Bool.or_eq_true, decide_eq_true_eq]; omega)]
        congr 1
        rw [← Array.foldl_toList, Array.toList_zipIdx]
      rw [hx]
      refine fill_row sz vs total m (i0 + 1) rest _ (by simpa using hl) (fun i hi => by have := hp (i + 1) (by omega); simp only [List.getD_cons_succ] at this; rw [this]; simp only [Prod.mk.injEq]; exact ⟨by omega, by congr 1; omega⟩) (fun i hi => hs i (by omega)) (by rw [f1, hsz]) (by omega) (fun q hqk => ?_)
      have hqt : q < total * sz := by
        have : (i0 + 1) * sz ≤ total * sz := Nat.mul_le_mul_right _ (by omega)
        omega
      have hg : ∀ (a : Array Value), q < a.size → a[q]? = some (a.getD q undef) := fun a ha => by simp [Array.getD, ha]
      rw [hg _ (by rw [f1, hsz]; exact hqt), f2 q]
      by_cases hc : i0 * sz + 0 ≤ q ∧ q < i0 * sz + 0 + (vs i0).cells.toList.length
      · rw [if_pos hc]
        have hj : q - i0 * sz < sz := by simp at hc; omega
        have := flat_get total (fun i hi => hs i (by omega)) i0 (q - i0 * sz) (by omega) hj
        rw [show i0 * sz + (q - i0 * sz) = q from by omega] at this
        rw [this, Nat.add_zero, ← getD_toList]
      · rw [if_neg hc]
        have hlt : q < i0 * sz := by
          rw [Nat.succ_mul] at hqk
          simp at hc
          omega
        rw [← hq q hlt]
        exact (hg cells (by rw [hsz]; exact hqt)).symm

section
variable {P : Program} {ρ : Ip} {h : AH} {w : World}

/-- The concrete side of a slice that is written out. -/
theorem run_buildSlice {t e : TypeId} {sz : Nat} (he : elT P t = some e) (hs : szT P e = some sz) (hz : (zrT P e).isSome = true) {parts : List (Nat × AV)} {partsc : Array (Nat × Value)} {n : Nat} (hn : parts.length = n) (hlen : parts.length = partsc.size)
    (hp : ∀ i (hi : i < parts.length), (partsc.toList.getD i (0, undef)).1 = parts[i].1) (ho : inOrder 0 parts = true) (hcs : ∀ i, i < n → ((partsc.toList.getD i (0, undef)).2).cells.size = sz) (hbig : n * sz ≤ 16777216) :
    ∃ out : Array Value, out.toList = flat (fun i => (partsc.toList.getD i (0, undef)).2) n ∧ (Instr.buildSlice t n partsc).run P w = .ok (.slice (some ⟨w.heap.size, 0, none⟩) n n) (w.alloc (.cells out e)) := by
  have hn1 : ¬ (n * sz > 2 ^ 24) := by omega
  obtain ⟨out, hf, hout⟩ := fill_row sz (fun i => (partsc.toList.getD i (0, undef)).2) n n 0 partsc.toList ((Array.range (n * sz)).map (fun j => (match (zrT P e) with | some _ => (((P.info? e).bind (·.zero)).getD undef).cells[j % (((P.info? e).bind (·.zero)).getD undef).cells.size]! | none => undef)))
    (by simp; omega) (fun i hi => by
      have h1 := hp i (by omega)
      have h2 := inOrder_get ho i (by omega)
      rw [h2] at h1
      simp only [Nat.zero_add] at h1 ⊢
      exact Prod.ext h1 rfl) (fun i hi => hcs i (by omega)) (by simp) (by omega) (fun q hq => by simp at hq)
  refine ⟨out, hout, ?_⟩
  obtain ⟨za, hza⟩ := Option.isSome_iff_exists.1 hz
  unfold zrT at hza
  obtain ⟨i, hi, hza'⟩ := Option.bind_eq_some_iff.1 hza
  obtain ⟨z, hzz, hzo⟩ := Option.bind_eq_some_iff.1 hza'
  have hzr : zrT P e = some za := by unfold zrT; rw [hi]; simp [hzz, hzo]
  simp only [hzr, hi, Option.bind_some, hzz, Option.getD_some] at hf
  have hzv : (zeroValue e).run P w = .ok z w := by simp [zeroValue, typeInfo, program, Sem.run, hi, hzz]
  unfold Instr.buildSlice
  simp only [Sem.run_bind, run_under_of he, Result.andThen_ok, run_sizeOf_of hs, if_neg hn1]
  by_cases h0 : n * sz = 0
  · simp only [h0, if_true, Sem.run_pure, Result.andThen_ok]
    rw [h0] at hf
    have : (Array.map (fun x => (#[] : Array Value)[x % (#[] : Array Value).size]!) (Array.range 0)) = Array.map (fun x => z.cells[x % z.cells.size]!) (Array.range 0) := by simp
    simp only [this, hf, newRow, newObj, Sem.run, Sem.run_bind, Result.andThen_ok, Sem.run_pure, World.alloc_eq]
  · simp only [h0, if_false, Sem.run_bind, hzv, Result.andThen_ok, Sem.run_pure, hf, newRow, newObj, Sem.run, World.alloc_eq]

/-- A slice that is written out, never to be written again. -/
theorem lit_sound {t e : TypeId} {sz : Nat} (he : elT P t = some e) (hs : szT P e = some sz) (hz : (zrT P e).isSome = true) {parts : List (Nat × AV)} {partsc : Array (Nat × Value)} {n : Nat} (hn : parts.length = n) (hlen : parts.length = partsc.size)
    (hp : ∀ i (hi : i < parts.length), (partsc.toList.getD i (0, undef)).1 = parts[i].1 ∧ RV ρ parts[i].2 (partsc.toList.getD i (0, undef)).2) (ho : inOrder 0 parts = true) (hel : allB (elemB sz) (parts.map (·.2)) = true) (hbig : n * sz ≤ 16777216) (h0 : 0 < sz) (hR : RH ρ h w) :
    ∃ w' vc ρ', (Instr.buildSlice t n partsc).run P w = .ok vc w' ∧ ρ.Le ρ' ∧ RH ρ' h w' ∧ PV ρ'.prot (.tree sz (roL (parts.map (·.2))) .full) vc := by
  have hei : ∀ i (hi : i < parts.length), memA parts[i].2 = true ∧ pur parts[i].2 = true ∧ (cellsA parts[i].2).length = sz := fun i hi => by
    have := allB_get hel i (by simpa using hi)
    simpa [elemB, Bool.and_eq_true, and_assoc] using this
  have hcs : ∀ i, i < n → ((partsc.toList.getD i (0, undef)).2).cells.size = sz := fun i hi => by
    have h1 := hei i (by omega)
    rw [← h1.2.2]
    exact ((hp i (by omega)).2.cells h1.1).1.symm
  obtain ⟨out, hout, hrun⟩ := run_buildSlice (w := w) he hs hz hn hlen (fun i hi => (hp i hi).1) ho hcs hbig
  have hone : ∀ (j : Nat) (u : Value), out[j]? = some u → u.oneCell' = true := fun j u hu => by
    rw [← Array.getElem?_toList, hout] at hu
    obtain ⟨-, b1, b2, b3⟩ := flat_cell n hcs hu
    rw [b3]
    have hi' : j / sz < parts.length := by omega
    obtain ⟨c1, c2, c3⟩ := (hp _ hi').2.cells (hei _ hi').1
    exact c3 _ (by rw [← c1, (hei _ hi').2.2]; exact b2)
  obtain ⟨ρ', hle, hprot, hR'⟩ := hR.allocT out e hone
  have hl : (roL (parts.map (·.2))).length = n := by rw [roL_length, List.length_map, hn]
  refine ⟨_, _, ρ', hrun, hle, hR', ?_⟩
  have hmx : n ≤ maxLen := by
    have : n ≤ n * sz := Nat.le_mul_of_pos_right n h0
    simp only [maxLen]; omega
  have hT := tree_of (pr := ρ'.prot) (sz := sz) (xs := roL (parts.map (·.2))) (g := w.heap.size) (cap := n) (gr := .full) (vs := fun i => (partsc.toList.getD i (0, undef)).2) (by omega) hmx (.inr ⟨rfl, hl.symm⟩)
    (fun i hi => by
      rw [roL_get]
      have hi' : i < parts.length := by rw [hl] at hi; omega
      simp only [List.getElem_map]
      exact pure_RV ((hp i hi').2.mono hle) (hei i hi').2.1)
    (fun i hi => hcs i (by omega))
    (fun q u _ hq => hprot q u (by rw [hl, ← hout, Array.getElem?_toList] at hq; exact hq))
  rw [hl] at hT
  exact hT

theorem catA_length {sz : Nat} : ∀ {l : List AV}, allB (elemM sz) l = true → (catA l).length = l.length * sz
  | [], _ => by simp [catA]
  | v :: vs, hp => by
    rw [allB, Bool.and_eq_true] at hp
    have h1 : (cellsA v).length = sz := by simpa [elemM] using And.right (by simpa [elemM] using hp.1)
    rw [catA, List.length_append, catA_length hp.2, h1, List.length_cons, Nat.succ_mul, Nat.add_comm]
theorem catA_get {sz : Nat} : ∀ {l : List AV}, allB (elemM sz) l = true → ∀ i j (hi : i < l.length) (hj : j < sz), ∃ h : i * sz + j < (catA l).length, ∃ h2 : j < (cellsA l[i]).length, (catA l)[i * sz + j] = (cellsA l[i])[j]
  | [], _, i, j, hi, _ => absurd hi (Nat.not_lt_zero _)
  | v :: vs, hp, i, j, hi, hj => by
    rw [allB, Bool.and_eq_true] at hp
    have h1 : (cellsA v).length = sz := by simpa [elemM] using And.right (by simpa [elemM] using hp.1)
    match i, hi with
    | 0, _ =>
      refine ⟨by rw [catA, List.length_append]; omega, by simpa [h1] using hj, ?_⟩
      simp only [catA, Nat.zero_mul, Nat.zero_add, List.getElem_cons_zero]
      rw [List.getElem_append_left (by omega)]
    | i + 1, hi =>
      obtain ⟨k1, k2, k3⟩ := catA_get hp.2 i j (by simpa using hi) hj
      refine ⟨by rw [catA, List.length_append, Nat.succ_mul]; omega, by simpa using k2, ?_⟩
      simp only [catA, List.getElem_cons_succ]
      rw [List.getElem_append_right (by rw [Nat.succ_mul]; omega)]
      simp only [h1, show (i + 1) * sz + j - sz = i * sz + j from by rw [Nat.succ_mul]; omega]
      exact k3

/-- A slice that is written out and may be written later. -/
theorem litM_sound {t e : TypeId} {sz : Nat} (he : elT P t = some e) (hs : szT P e = some sz) (hz : (zrT P e).isSome = true) {parts : List (Nat × AV)} {partsc : Array (Nat × Value)} {n : Nat} (hn : parts.length = n) (hlen : parts.length = partsc.size)
    (hp : ∀ i (hi : i < parts.length), (partsc.toList.getD i (0, undef)).1 = parts[i].1 ∧ RV ρ parts[i].2 (partsc.toList.getD i (0, undef)).2) (ho : inOrder 0 parts = true) (hel : allB (elemM sz) (parts.map (·.2)) = true) (hbig : n * sz ≤ 16777216) (h0 : 0 < sz) (hR : RH ρ h w) :
    ∃ w' vc ρ', (Instr.buildSlice t n partsc).run P w = .ok vc w' ∧ ρ.Le ρ' ∧ RH ρ' (h.mk_ (catA (parts.map (·.2)))) w' ∧ RV ρ' (.bsl h.n 0 n (if n = 0 then .grow sz else .full)) vc := by
  have hei : ∀ i (hi : i < parts.length), memA parts[i].2 = true ∧ (cellsA parts[i].2).length = sz := fun i hi => by
    have := allB_get hel i (by simpa using hi)
    simpa [elemM, Bool.and_eq_true] using this
  have hcs : ∀ i, i < n → ((partsc.toList.getD i (0, undef)).2).cells.size = sz := fun i hi => by
    have h1 := hei i (by omega)
    rw [← h1.2]
    exact ((hp i (by omega)).2.cells h1.1).1.symm
  obtain ⟨out, hout, hrun⟩ := run_buildSlice (w := w) he hs hz hn hlen (fun i hi => (hp i hi).1) ho hcs hbig
  have hcl := catA_length hel
  rw [List.length_map, hn] at hcl
  have hos : out.size = n * sz := by rw [← Array.length_toList, hout, flat_length n hcs]
  have hcell : ∀ q (hq : q < (catA (parts.map (·.2))).length), RV ρ (catA (parts.map (·.2)))[q] (out.getD q undef) ∧ (out.getD q undef).oneCell' = true := fun q hq => by
    have hqn : q < out.size := by omega
    have hf : (flat (fun i => (partsc.toList.getD i (0, undef)).2) n)[q]? = some (out.getD q undef) := by
      rw [← hout, Array.getElem?_toList]; simp [Array.getD, hqn]
    obtain ⟨-, h1, h2, h3⟩ := flat_cell n hcs hf
    have hi' : q / sz < parts.length := by omega
    obtain ⟨k1, k2, k3⟩ := (hp _ hi').2.cells (hei _ hi').1
    obtain ⟨c1, c2, c3⟩ := catA_get hel (q / sz) (q % sz) (by simpa using hi') h2
    simp only [List.getElem_map] at c2 c3
    have c3' : (catA (parts.map (·.2)))[q] = (cellsA (parts[q / sz]).2)[q % sz] := by
      rw [← c3]; congr 1; exact (Nat.div_add_mod' q sz).symm
    rw [c3', h3]
    exact ⟨k2 _ c2, k3 _ (by rw [← k1]; exact c2)⟩
  obtain ⟨ρ', hle, hphi, hnb, hR'⟩ := hR.alloc (catA (parts.map (·.2))) out e (by omega) hcell
  refine ⟨_, _, ρ', hrun, hle, hR', ?_⟩
  have hmx : n ≤ maxLen := by
    have : n ≤ n * sz := Nat.le_mul_of_pos_right n h0
    simp only [maxLen]; omega
  exact .bsl _ _ _ _ _ _ (by rw [hnb]; exact Nat.lt_succ_self _) (Nat.le_refl _) hmx (fun g m hx => by rw [hphi] at hx; rw [(Prod.mk.inj (Option.some.inj hx)).1]) (fun _ => rfl) (fun sz2 hx => by
    by_cases h0 : n = 0
    · rw [if_pos h0] at hx
      injection hx with hx; subst hx
      exact ⟨rfl, fun g m hx => by rw [hphi] at hx; rw [← (Prod.mk.inj (Option.some.inj hx)).2, hos]⟩
    · rw [if_neg h0] at hx; cases hx)

/-- n copies of an element's cells. -/
def copies (z : List AV) : Nat → List AV
  | 0 => []
  | n + 1 => z ++ copies z n
theorem copies_one (v : AV) : ∀ n, copies [v] n = List.replicate n v
  | 0 => rfl
  | n + 1 => by rw [copies, copies_one v n, List.replicate_succ]; rfl
theorem copies_length (z : List AV) : ∀ n, (copies z n).length = n * z.length
  | 0 => by simp [copies]
  | n + 1 => by rw [copies, List.length_append, copies_length z n, Nat.succ_mul, Nat.add_comm]
theorem copies_get (z : List AV) : ∀ n q (h : q < (copies z n).length), ∃ h2 : q % z.length < z.length, (copies z n)[q] = z[q % z.length]
  | 0, q, h => absurd h (Nat.not_lt_zero _)
  | n + 1, q, h => by
    have hl := copies_length z n
    rw [copies, List.length_append] at h
    by_cases hq : q < z.length
    · refine ⟨by rw [Nat.mod_eq_of_lt hq]; exact hq, ?_⟩
      simp only [copies, List.getElem_append_left hq, Nat.mod_eq_of_lt hq]
    · have hq' : q - z.length < (copies z n).length := by omega
      obtain ⟨k1, k2⟩ := copies_get z n (q - z.length) hq'
      have hm : q % z.length = (q - z.length) % z.length := Nat.mod_eq_sub_mod (by omega)
      refine ⟨by rw [hm]; exact k1, ?_⟩
      simp only [copies, List.getElem_append_right (Nat.le_of_not_lt hq), k2, hm]

/-- make([]T, n) -/
theorem make_sound {t e : TypeId} {sz by_ : Nat} {z : AV} (he : elT P t = some e) (hs : szT P e = some sz) (hb : byT P e = some by_) (hz : zrT P e = some z) (hm : memA z = true) (hzl : (cellsA z).length = sz) (h0 : 0 < sz) {kl kc : IntKind} {n : Int} (hn0 : 0 ≤ n) (hn : n.toNat ≤ maxLen) (hbig : n.toNat * by_ ≤ 140737488355328) (hR : RH ρ h w) :
    ∃ w' vc ρ', (Instr.makeSlice t (.int kl n) (.int kc n)).run P w = .ok vc w' ∧ ρ.Le ρ' ∧ RH ρ' (h.mk_ (copies (cellsA z) n.toNat)) w' ∧ RV ρ' (.bsl h.n 0 n.toNat .full) vc := by
  unfold zrT at hz
  obtain ⟨i, hi, hz⟩ := Option.bind_eq_some_iff.1 hz
  obtain ⟨zv, hzz, hzo⟩ := Option.bind_eq_some_iff.1 hz
  have hs' : i.size = sz := by unfold szT at hs; rw [hi] at hs; simpa using hs
  have hb' : i.bytes = by_ := by unfold byT at hb; rw [hi] at hb; simpa using hb
  have hzp : PV ρ.prot z zv := ofV_PV hzo
  obtain ⟨k1, k2, k3⟩ := hzp.cells hm
  have hbb : (i.bytes : Int) * n ≤ 281474976710656 := by
    obtain ⟨m, rfl⟩ := Int.eq_ofNat_of_zero_le hn0
    rw [hb']
    have : ((by_ * m : Nat) : Int) ≤ 281474976710656 := by
      simp only [Int.toNat_natCast] at hbig
      rw [Nat.mul_comm] at hbig
      omega
    rwa [Int.natCast_mul] at this
  have hrun := run_make (P := P) w t e i zv (elT_under he) hi hzz kl kc n n hn0 (Int.le_refl _) hbb (by simp only [maxLen] at hn; omega)
  rw [hs'] at hrun
  have hmc : ∀ q, q < n.toNat * sz → (madeCells zv.cells (n.toNat * sz)).getD q undef = zv.cells.getD (q % sz) undef := fun q hq => by
    have hmod : q % zv.cells.size < zv.cells.size := Nat.mod_lt _ (by omega)
    have hzs : zv.cells.size = sz := by omega
    rw [Array.getD_eq_getD_getElem?]
    simp only [madeCells, Array.getElem?_map]
    rw [Array.getElem?_eq_getElem (by simpa using hq)]
    simp only [Array.getElem_range, Option.map_some, Option.getD_some, hzs]
    rw [getElem!_pos _ _ (by rw [← hzs]; exact hmod), Array.getD_eq_getD_getElem?, Array.getElem?_eq_getElem (by rw [← hzs]; exact hmod)]
    rfl
  have hcl : (copies (cellsA z) n.toNat).length = n.toNat * sz := by rw [copies_length, hzl]
  have hcell : ∀ q (hq : q < (copies (cellsA z) n.toNat).length), RV ρ (copies (cellsA z) n.toNat)[q] ((madeCells zv.cells (n.toNat * sz)).getD q undef) ∧ ((madeCells zv.cells (n.toNat * sz)).getD q undef).oneCell' = true := fun q hq => by
    obtain ⟨h2, h3⟩ := copies_get (cellsA z) n.toNat q hq
    rw [hmc q (by omega), h3]
    have e1 : q % (cellsA z).length = q % sz := by rw [hzl]
    refine ⟨?_, k3 _ (by rw [← k1, ← e1]; exact h2)⟩
    rw [← e1]
    exact .pure _ _ (k2 (q % (cellsA z).length) h2)
  obtain ⟨ρ', hle, hphi, hnb, hR'⟩ := hR.alloc (copies (cellsA z) n.toNat) (madeCells zv.cells (n.toNat * sz)) e (by rw [hcl, size_madeCells]; exact Nat.le_refl _) hcell
  refine ⟨_, _, ρ', hrun, hle, hR', ?_⟩
  exact .bsl _ _ _ _ _ _ (by rw [hnb]; exact Nat.lt_succ_self _) (Nat.le_refl _) hn (fun g m hx => by rw [hphi] at hx; rw [(Prod.mk.inj (Option.some.inj hx)).1]) (fun _ => rfl) (fun _ hx => by cases hx)

/-! ### append to a slice whose elements stay -/
theorem old_cells {pr : Addr → Option Value} {xs : List AV} {sz : Nat} {ad : Addr} {vs : Nat → Value} (hpr : ∀ a u, pr a = some u → w.cell? a = some u ∧ u.oneCell' = true) (hs : ∀ i, i < xs.length → (vs i).cells.size = sz)
    (hc : ∀ i j, i < xs.length → j < sz → pr (ad.add (i * sz + j)) = some ((vs i).cells.getD j undef)) : ∀ q u, (flat vs xs.length)[q]? = some u → w.cell? (ad.add q) = some u ∧ u.oneCell' = true := fun q u hq => by
  obtain ⟨-, h1, h2, h3⟩ := flat_cell xs.length hs hq
  have := hpr _ _ (hc (q / sz) (q % sz) h1 h2)
  rw [Nat.div_add_mod' q sz] at this
  rw [h3]; exact this

/-- Two rows of elements, one behind the other. -/
theorem flat_add (vs us : Nat → Value) (n : Nat) : ∀ m, flat (fun i => if i < n then vs i else us (i - n)) (n + m) = flat vs n ++ flat us m
  | 0 => by
    simp only [Nat.add_zero, flat, List.append_nil]
    have : ∀ k, k ≤ n → flat (fun i => if i < n then vs i else us (i - n)) k = flat vs k := by
      intro k
      induction k with
      | zero => intro _; rfl
      | succ k ih => intro hk; simp only [flat]; rw [ih (by omega), if_pos (by omega)]
    exact this n (Nat.le_refl _)
  | m + 1 => by
    rw [← Nat.add_assoc, flat, flat_add vs us n m, if_neg (by omega), show n + m - n = m from by omega, List.append_assoc]
    rfl

theorem run_append_room' (t ty e e' : TypeId) (i : TypeInfo) (ht : P.underlying t = some (.slice e)) (hi : P.info? e = some i)
    (g sLen sCap : Nat) (cur : Array Value) (hg : w.heap[g]? = some (.cells cur e' (0, 0)))
    (a : Addr) (m c : Nat) (news : List Value) (hl : news.length = m * i.size) (hnews : ∀ j u, news[j]? = some u → w.cell? (a.add j) = some u) (h1 : ∀ u ∈ news, u.oneCell' = true)
    (hroom : sLen + m ≤ sCap) (hfit : sLen * i.size + news.length ≤ cur.size) :
    (Builtin.append_ #[t, t] ty #[.slice (some ⟨g, 0, none⟩) sLen sCap, .slice (some a) m c]).run P w =
      .ok (.slice (some ⟨g, 0, none⟩) (sLen + m) sCap) (w.setRow g (cur.toList.take (sLen * i.size) ++ news ++ cur.toList.drop (sLen * i.size + news.length)).toArray) := by
  have hf := run_firstCells_some (P := P) w i.size m a m c news hl hnews
  have hst := run_storeCells_at P g (sLen * i.size) e' news 0 cur w hg (by simpa using hfit) h1
  simp only [Nat.add_zero] at hst
  simp [Builtin.append_, run_underlying ht, sizeOf, typeInfo, hi, Builtin.lenOf, hroom, hf, Addr.add_lit, hst]

/-- What an append leaves (g: what was known of the spare room). -/
structure AppRes (P : Program) (ρ : Ip) (h : AH) (w : World) (run : Result Value) (sz n : Nat) (zs : List AV) (κ : Option Nat) : Prop where
  out : ∃ w' vc ρ', run = .ok vc w' ∧ ρ.Le ρ' ∧ RH ρ' (match κ with | none => h.begun n | some κ => h.grown κ n) w' ∧ RV ρ' (.tree sz zs (.own (κ.getD h.k))) vc

theorem app_tree {sz by_ : Nat} {t ty e : TypeId} (he : elT P t = some e) (hs : szT P e = some sz) (hb : byT P e = some by_) {z : AV} (hz : zrT P e = some z) (hm : memA z = true) (hzl : (cellsA z).length = sz) (h0 : 0 < sz)
    (xs ys : List AV) (hys : ys ≠ []) {sc xc : Value} {g2 : Gr} (hx : RV ρ (.tree sz ys g2) xc) (hmx : xs.length + ys.length ≤ maxLen) (hbig : (xs.length + ys.length) * by_ ≤ 140737488355328) (hR : RH ρ h w) {κ : Option Nat}
    (hsc : (κ = none ∧ xs = [] ∧ sc = .slice none 0 0) ∨ (κ = none ∧ RV ρ (.tree sz xs .full) sc) ∨ (∃ k, κ = some k ∧ h.gr k = xs.length ∧ RV ρ (.tree sz xs (.own k)) sc)) :
    AppRes P ρ h w ((Builtin.append_ #[t, t] ty #[sc, xc]).run P w) sz (xs.length + ys.length) (xs ++ ys) κ := by
  unfold zrT at hz
  obtain ⟨i, hi, hz⟩ := Option.bind_eq_some_iff.1 hz
  obtain ⟨zv, hzz, hzo⟩ := Option.bind_eq_some_iff.1 hz
  have hs' : i.size = sz := by unfold szT at hs; rw [hi] at hs; simpa using hs
  have hb' : i.bytes = by_ := by unfold byT at hb; rw [hi] at hb; simpa using hb
  have hzc : zv.cells.size = sz := by
    have hzp : PV ρ.prot z zv := ofV_PV hzo
    rw [← hzl]; exact (hzp.cells hm).1.symm
  have hu := elT_under he
  have hylen : 0 < ys.length := List.length_pos_iff.2 hys
  -- what is appended
  rcases inv_tree hx with ⟨h1, -, -⟩ | ⟨ady, capy, us, rfl, -, -, -, hyv, hys', hyc⟩
  · exact absurd h1 hys
  have hnews2 := old_cells hR.prot hys' hyc
  have hnews : ∀ q u, (flat us ys.length)[q]? = some u → w.cell? (ady.add q) = some u := fun q u hq => (hnews2 q u hq).1
  have hnl : (flat us ys.length).length = ys.length * i.size := by rw [flat_length _ hys', hs']
  -- a new row
  have newRow : ∀ (vs : Nat → Value) (olds : List Value) (old : Nat), olds = flat vs xs.length → (∀ i (h : i < xs.length), PV ρ.prot xs[i] (vs i)) → (∀ i, i < xs.length → (vs i).cells.size = sz) → (∀ (q : Nat) (u : Value), (flat vs xs.length)[q]? = some u → u.oneCell' = true) → old < xs.length + ys.length →
      ∀ (arr : Array Value) (c : Nat), arr = olds.toArray ++ (flat us ys.length).toArray ++ Builtin.zeroCells zv.cells (c - (xs.length + ys.length)) → xs.length + ys.length ≤ c → c ≤ maxLen →
      arr.size = c * sz ∧ (∀ q u, q < (xs ++ ys).length * sz → (flat (fun i => if i < xs.length then vs i else us (i - xs.length)) (xs ++ ys).length)[q]? = some u → arr[q]? = some u) ∧
      ∀ (j : Nat) (u : Value), j < (xs.length + ys.length) * sz → arr[j]? = some u → u.oneCell' = true := by
    intro vs olds old ho hv hvs h1x hlt arr c ha hc hcm
    have hfl : (flat vs xs.length).length = xs.length * sz := flat_length _ hvs
    have hul : (flat us ys.length).length = ys.length * sz := flat_length _ hys'
    have hget : ∀ q, q < (xs.length + ys.length) * sz → arr[q]? = (flat vs xs.length ++ flat us ys.length)[q]? := fun q hq => by
      rw [ha, ho]
      rw [Array.getElem?_append_left (by simp only [Array.size_append, List.size_toArray, hfl, hul, ← Nat.add_mul]; exact hq)]
      rw [show (flat vs xs.length).toArray ++ (flat us ys.length).toArray = (flat vs xs.length ++ flat us ys.length).toArray from by simp, List.getElem?_toArray]
    refine ⟨?_, fun q u hq hf => ?_, fun q u hq hf => ?_⟩
    · rw [ha, ho]
      simp only [Array.size_append, List.size_toArray, size_zeroCells, hzc, hfl, hul, ← Nat.add_mul]
      congr 1
      omega
    · rw [List.length_append, flat_add] at hf
      rw [hget q (by rw [← List.length_append]; exact hq)]
      exact hf
    · rw [hget q hq] at hf
      rcases Nat.lt_or_ge q (flat vs xs.length).length with hl | hl
      · rw [List.getElem?_append_left hl] at hf; exact h1x _ _ hf
      · rw [List.getElem?_append_right hl] at hf; exact (hnews2 _ _ hf).2
  have elems : ∀ (vs : Nat → Value) {ρ' : Ip}, ρ.Le ρ' → (∀ i (h : i < xs.length), PV ρ.prot xs[i] (vs i)) → ∀ i (h : i < (xs ++ ys).length), PV ρ'.prot (xs ++ ys)[i] (if i < xs.length then vs i else us (i - xs.length)) := by
    intro vs ρ' hle hv i hi
    by_cases hix : i < xs.length
    · rw [if_pos hix, List.getElem_append_left hix]; exact (hv i hix).mono hle.prot
    · rw [if_neg hix, List.getElem_append_right (Nat.le_of_not_lt hix)]
      exact (hyv _ (by rw [List.length_append] at hi; omega)).mono hle.prot
  have sizes : ∀ (vs : Nat → Value), (∀ i, i < xs.length → (vs i).cells.size = sz) → ∀ i, i < (xs ++ ys).length → (if i < xs.length then vs i else us (i - xs.length)).cells.size = sz := by
    intro vs hvs i hi
    by_cases hix : i < xs.length
    · rw [if_pos hix]; exact hvs i hix
    · rw [if_neg hix]; exact hys' _ (by rw [List.length_append] at hi; omega)
  -- the row, as a value
  have value : ∀ (vs : Nat → Value) {ρ' : Ip} {κ' g c : Nat}, ρ.Le ρ' → (∀ i (h : i < xs.length), PV ρ.prot xs[i] (vs i)) → (∀ i, i < xs.length → (vs i).cells.size = sz) → ρ'.gam κ' = some (g, xs.length + ys.length, c, sz) → xs.length + ys.length ≤ c → c ≤ maxLen →
      (∀ q u, q < (xs ++ ys).length * sz → (flat (fun i => if i < xs.length then vs i else us (i - xs.length)) (xs ++ ys).length)[q]? = some u → ρ'.prot ⟨g, q, none⟩ = some u) → RV ρ' (.tree sz (xs ++ ys) (.own κ')) (.slice (some ⟨g, 0, none⟩) (xs.length + ys.length) c) := by
    intro vs ρ' κ' g c hle hv hvs hg hc hcm hp
    have hT := tree_of (pr := ρ'.prot) (sz := sz) (xs := xs ++ ys) (g := g) (cap := c) (gr := .ro) (vs := fun i => if i < xs.length then vs i else us (i - xs.length)) (by rw [List.length_append]; exact hc) hcm (.inl rfl) (elems vs hle hv) (sizes vs hvs) hp
    have := RV.own (ρ := ρ') sz (xs ++ ys) κ' ⟨g, 0, none⟩ c g (xs.length + ys.length) c hg (by rw [List.length_append]; exact Nat.le_refl _) hT (fun _ => ⟨rfl, rfl⟩)
    rw [List.length_append] at this
    exact this
  have hmx' : xs.length + ys.length ≤ 9223372036854775807 := by simp only [maxLen] at hmx; omega
  have nilCase : κ = none → xs = [] → sc = .slice none 0 0 → AppRes P ρ h w ((Builtin.append_ #[t, t] ty #[sc, .slice (some ady) ys.length capy]).run P w) sz (xs.length + ys.length) (xs ++ ys) κ := by
    rintro rfl rfl rfl
    refine ⟨?_⟩
    simp only [List.length_nil, Nat.zero_add, List.nil_append] at hmx hbig newRow value ⊢
    have hr := run_append_nil (P := P) w t ty e i zv hu hi hzz ady ys.length capy (flat us ys.length) hnl hnews hylen (by simp only [maxLen] at hmx; omega) (by rw [hb']; omega)
    have hge := grownCap_ge w ys.length 0 e
    have hcm := grownCap_le_maxLen w ys.length 0 e hmx
    obtain ⟨hsz, hpre, h1c⟩ := newRow (fun _ => undef) [] 0 rfl (fun i h => absurd h (Nat.not_lt_zero _)) (fun i h => absurd h (Nat.not_lt_zero _)) (fun q u h => by simp [flat] at h) hylen _ _ rfl hge hcm
    simp only [List.toArray, Array.empty_append] at hsz hpre h1c
    obtain ⟨ρ', hle, hg, hp, hR'⟩ := hR.drew.growNew ((flat us ys.length).toArray ++ Builtin.zeroCells zv.cells (grownCap w ys.length 0 e - ys.length)) e ys.length (grownCap w ys.length 0 e) sz (by simpa using hsz) hge hcm (fun j u hj hu => h1c j u hj (by simpa using hu))
    refine ⟨_, _, ρ', hr, hle, hR', ?_⟩
    exact value (fun _ => undef) hle (fun i h => absurd h (Nat.not_lt_zero _)) (fun i h => absurd h (Nat.not_lt_zero _)) hg hge hcm (fun q u hq hf => hp q u hq (by simpa using hpre q u hq hf))
  refine ⟨?_⟩
  rcases hsc with ⟨h1, h2, h3⟩ | ⟨rfl, hsv⟩ | ⟨k, rfl, hgr, hsv⟩
  · exact (nilCase h1 h2 h3).out
  · -- no spare room
    rcases inv_tree hsv with ⟨rfl, rfl, -⟩ | ⟨adx, capx, vs, rfl, -, -, hfull, hxv, hxs, hxc⟩
    · exact (nilCase rfl rfl rfl).out
    have hcap := hfull rfl
    have holds2 := old_cells (w := w) hR.prot hxs hxc
    have holds : ∀ q u, (flat vs xs.length)[q]? = some u → w.cell? _ = some u := fun q u hq => (holds2 q u hq).1
    have hr := run_append_grow (P := P) w t ty e i zv hu hi hzz adx xs.length capx (flat vs xs.length) (by rw [flat_length _ hxs, hs']) holds ady ys.length capy (flat us ys.length) hnl hnews (by omega) (by omega) (growslice_fits (by omega) (by rw [hb']; exact hbig))
    have hge := grownCap_ge w (xs.length + ys.length) capx e
    have hcm := grownCap_le_maxLen w (xs.length + ys.length) capx e hmx
    obtain ⟨hsz, hpre, h1c⟩ := newRow vs _ capx rfl hxv hxs (fun q u hq => (holds2 q u hq).2) (by omega) _ _ rfl hge hcm
    obtain ⟨ρ', hle, hg, hp, hR'⟩ := hR.drew.growNew _ e (xs.length + ys.length) _ sz hsz hge hcm h1c
    refine ⟨_, _, ρ', hr, hle, hR', ?_⟩
    exact value vs hle hxv hxs hg hge hcm (fun q u hq hf => hp q u (by rw [← List.length_append]; exact hq) (hpre q u hq hf))
  · -- it has been appended to before
    cases hsv with
    | pure _ _ hpv =>
      rcases pinv_tree hpv with ⟨-, -, hg⟩ | ⟨_, _, _, -, -, -, hg, -⟩
      · rcases hg with hg | hg <;> cases hg
      · rcases hg with hg | ⟨hg, _⟩ <;> cases hg
    | own _ _ _ adx capx g n c hg hn ht hl =>
    have hk : k < h.k := hR.gnone k _ hg
    obtain ⟨g', c', s', arr, e', k1, k2, k3, k4, k5, k6, k7, k8, k9⟩ := hR.gam k hk
    rw [hg] at k1
    simp only [Option.some.injEq, Prod.mk.injEq] at k1
    obtain ⟨rfl, rfl, rfl, rfl⟩ := k1
    obtain ⟨rfl, rfl⟩ := hl hgr.symm
    rcases pinv_tree ht with ⟨-, h3, -⟩ | ⟨adx, capx', vs, h3, -, -, -, hxv, hxs, hxc⟩
    · cases h3
    injection h3 with h3 _ h3'
    injection h3 with h3
    subst h3; subst h3'
    have holds2 := old_cells (w := w) hR.prot hxs hxc
    have holds : ∀ q u, (flat vs xs.length)[q]? = some u → w.cell? _ = some u := fun q u hq => (holds2 q u hq).1
    by_cases hroom : xs.length + ys.length ≤ capx
    · -- in its place
      have h1c : ∀ u ∈ flat us ys.length, u.oneCell' = true := fun u hu => by
        obtain ⟨q, hq, rfl⟩ := List.mem_iff_getElem.1 hu
        have hq' := List.getElem?_eq_getElem hq
        exact (hnews2 _ _ hq').2
      have hul : (flat us ys.length).length = ys.length * sz := flat_length _ hys'
      have hfit : xs.length * i.size + (flat us ys.length).length ≤ arr.size := by rw [hul, hs', k3, ← Nat.add_mul]; exact Nat.mul_le_mul_right _ hroom
      have hr := run_append_room' (P := P) (w := w) t ty e e' i hu hi g xs.length capx arr k2 ady ys.length capy (flat us ys.length) hnl hnews h1c hroom hfit
      rw [hs'] at hr hfit
      have hxl : (flat vs xs.length).length = xs.length * sz := flat_length _ hxs
      -- what lies in the row already
      have hpre : ∀ q, q < xs.length * sz → arr[q]? = (flat vs xs.length)[q]? := fun q hq => by
        have hq' : q < (flat vs xs.length).length := by omega
        have := holds q _ (List.getElem?_eq_getElem hq')
        rw [Addr.add_lit, Nat.zero_add, cell_of_row w g q arr e' (0, 0) k2] at this
        rw [this, List.getElem?_eq_getElem hq']
      let arr' : Array Value := (arr.toList.take (xs.length * sz) ++ flat us ys.length ++ arr.toList.drop (xs.length * sz + (flat us ys.length).length)).toArray
      have htl : (arr.toList.take (xs.length * sz)).length = xs.length * sz := by
        have ha : arr.toList.length = arr.size := Array.length_toList
        rw [List.length_take, ha]; omega
      have hsz' : arr'.size = arr.size := by
        simp only [arr', List.size_toArray, List.length_append, List.length_drop, Array.length_toList, htl]; omega
      have hget : ∀ q, arr'[q]? = (arr.toList.take (xs.length * sz) ++ flat us ys.length ++ arr.toList.drop (xs.length * sz + (flat us ys.length).length))[q]? := fun q => List.getElem?_toArray
      have hsame : ∀ q, q < h.gr k * sz → arr'[q]? = arr[q]? := fun q hq => by
        rw [hgr] at hq
        rw [hget, List.append_assoc, List.getElem?_append_left (by omega), List.getElem?_take, if_pos hq, Array.getElem?_toList]
      have hall : ∀ q, q < (xs.length + ys.length) * sz → arr'[q]? = (flat vs xs.length ++ flat us ys.length)[q]? := fun q hq => by
        rw [hget, List.getElem?_append_left (by rw [List.length_append, htl, hul, ← Nat.add_mul]; exact hq)]
        by_cases hql : q < xs.length * sz
        · rw [List.getElem?_append_left (by omega), List.getElem?_take, if_pos hql, Array.getElem?_toList, hpre q hql]
          rw [List.getElem?_append_left (by omega)]
        · rw [List.getElem?_append_right (by omega), List.getElem?_append_right (by omega), htl, hxl]
      have h1a : ∀ (q : Nat) (u : Value), q < (xs.length + ys.length) * sz → arr'[q]? = some u → u.oneCell' = true := fun q u hq hf => by
        rw [hall q hq] at hf
        rcases Nat.lt_or_ge q (flat vs xs.length).length with hl2 | hl2
        · rw [List.getElem?_append_left hl2] at hf; exact (holds2 _ _ hf).2
        · rw [List.getElem?_append_right hl2] at hf; exact (hnews2 _ _ hf).2
      obtain ⟨ρ', hle, hg', hp, hR'⟩ := hR.growIn hk hg arr' k2 hsz' (xs.length + ys.length) hroom (by omega) hsame h1a
      refine ⟨_, _, ρ', hr, hle, hR', ?_⟩
      refine value vs hle hxv hxs hg' hroom k5 (fun q u hq hf => hp q u (by rw [← List.length_append]; exact hq) ?_)
      rw [List.length_append, flat_add] at hf
      rw [hall q (by rw [← List.length_append]; exact hq)]
      exact hf
    · have hr := run_append_grow (P := P) w t ty e i zv hu hi hzz ⟨g, 0, none⟩ xs.length capx (flat vs xs.length) (by rw [flat_length _ hxs, hs']) holds ady ys.length capy (flat us ys.length) hnl hnews (by omega) (by omega) (growslice_fits (by omega) (by rw [hb']; exact hbig))
      have hge := grownCap_ge w (xs.length + ys.length) capx e
      have hcm := grownCap_le_maxLen w (xs.length + ys.length) capx e hmx
      obtain ⟨hsz, hpre, h1c⟩ := newRow vs _ capx rfl hxv hxs (fun q u hq => (holds2 q u hq).2) (by omega) _ _ rfl hge hcm
      obtain ⟨ρ', hle, hg', hp, hR'⟩ := hR.drew.growMove hk _ e (xs.length + ys.length) _ sz hsz hge hcm (by omega) h1c hg
      refine ⟨_, _, ρ', hr, hle, hR', ?_⟩
      exact value vs hle hxv hxs hg' hge hcm (fun q u hq hf => hp q u (by rw [← List.length_append]; exact hq) (hpre q u hq hf))
end
end Go.Eng
/- An engine, part 5b: append to a slice whose elements may be written. Over any program. -/
set_option linter.unusedVariables false
set_option linter.unusedSimpArgs false
namespace Go.Eng
open Go.RowKit (Below)
section
variable {P : Program} {ρ : Ip} {h : AH} {w : World}

/-- A whole block is written anew. -/
theorem RH.setRow (hR : RH ρ h w) {b : Nat} {cs : List AV} (hb : h.f b = some cs) {g n : Nat} (hg : ρ.phi b = some (g, n)) (arr' : Array Value) (hsz : arr'.size = n) {cs' : List AV} (hl : cs'.length ≤ arr'.size)
    (hv : ∀ i (hi : i < cs'.length), RV ρ cs'[i] (arr'.getD i undef) ∧ (arr'.getD i undef).oneCell' = true) : RH ρ (h.put b cs') (w.setRow g arr') := by
  obtain ⟨hbn, g1, arr, e, hg1, hh, hl1, hc⟩ := hR.blk b cs hb
  rw [hg] at hg1
  simp only [Option.some.injEq, Prod.mk.injEq] at hg1
  obtain ⟨rfl, rfl⟩ := hg1
  obtain ⟨hw0, hgs, hgp⟩ := hR.fresh b g _ hg
  have hold : ∀ k, k ≠ g → (w.setRow g arr').heap[k]? = w.heap[k]? := fun k hk => setRow_other w g k arr' hk
  have hnew : (w.setRow g arr').heap[g]? = some (.cells arr' e (0, 0)) := setRow_heap w g arr arr' e (0, 0) hh
  refine ⟨⟨hR.below.os, hR.below.tape, hR.below.output, by simpa using hR.below.size, fun k hk => (hold k (by have hk' : k < ρ.w0.heap.size := hk; omega)).trans (hR.below.block k hk)⟩, fun a x hp => ?_, hR.nb, hR.ng, ?_, ?_, ?_, hR.inj, ?_, hR.gnone⟩
  · have : a.block ≠ g := fun he => by rw [hgp a he] at hp; cases hp
    rw [World.cell?_of_block (hold a.block this)]
    exact hR.prot a x hp
  · intro b' cs2 hb'
    by_cases hbb : b' = b
    · subst hbb
      have : cs2 = cs' := by
        have : upd h.f b' (some cs') b' = some cs2 := hb'
        rw [upd_same] at this; exact (Option.some.inj this).symm
      subst this
      exact ⟨hbn, g, arr', e, by rw [hsz]; exact hg, hnew, hl, hv⟩
    · have hb2 : h.f b' = some cs2 := (upd_ne _ _ hbb).symm.trans hb'
      obtain ⟨k1, g', arr2, e', k2, k3, k4, k5⟩ := hR.blk b' cs2 hb2
      have hgg : g' ≠ g := fun he => hbb (hR.inj b' b g _ _ (by rw [← he]; exact k2) hg)
      exact ⟨k1, g', arr2, e', k2, (hold g' hgg).trans k3, k4, k5⟩
  · intro b' x hx
    obtain ⟨cs2, h'⟩ := hR.phi b' x hx
    by_cases hbb : b' = b
    · exact ⟨cs', by rw [hbb]; exact upd_same _ _ _⟩
    · exact ⟨cs2, (upd_ne _ _ hbb).trans h'⟩
  · intro b' g' n hx
    obtain ⟨k1, k2, k3⟩ := hR.fresh b' g' n hx
    exact ⟨k1, by simpa using k2, k3⟩
  · intro κ hκ
    obtain ⟨g', c, s, arr2, e', k1, k2, k3, k4, k5, k6, k7, k8, k9⟩ := hR.gam κ hκ
    have hgg : g' ≠ g := fun he => k8 b arr.size (by rw [he]; exact hg)
    exact ⟨g', c, s, arr2, e', k1, (hold g' hgg).trans k2, k3, k4, k5, k6, k7, k8, k9⟩

/-- A block gets a new name; the old one means nothing any more. -/
theorem RH.rename (hR : RH ρ h w) {b : Nat} {cs : List AV} (hb : h.f b = some cs) {x : Nat × Nat} (hg : ρ.phi b = some x) :
    ∃ ρ', ρ.Le ρ' ∧ ρ'.phi h.n = some x ∧ ρ'.nb = h.n + 1 ∧ RH ρ' ((h.rm b).mk_ cs) w := by
  have hbn := (hR.blk b cs hb).1
  let ρ' : Ip := { ρ with phi := upd (upd ρ.phi b none) h.n (some x), nb := h.n + 1 }
  have back : ∀ b' y, ρ'.phi b' = some y → (b' = h.n ∧ y = x) ∨ (b' ≠ h.n ∧ b' ≠ b ∧ ρ.phi b' = some y) := fun b' y hy => by
    by_cases h1 : b' = h.n
    · subst h1
      have : some x = some y := (upd_same _ _ _).symm.trans hy
      exact .inl ⟨rfl, (Option.some.inj this).symm⟩
    · have hy' : upd ρ.phi b none b' = some y := (upd_ne _ _ h1).symm.trans hy
      by_cases h2 : b' = b
      · rw [h2, upd_same] at hy'; cases hy'
      · exact .inr ⟨h1, h2, (upd_ne _ _ h2).symm.trans hy'⟩
  have hle : ρ.Le ρ' := ⟨rfl, fun _ _ x => x, fun κ g n c s x => ⟨g, n, c, x, Nat.le_refl _, fun _ => ⟨rfl, rfl⟩⟩, by show ρ.nb ≤ h.n + 1; rw [hR.nb]; omega, fun b' y hb' hy => by
    rcases back b' y hy with ⟨h1, -⟩ | ⟨-, -, h3⟩
    · rw [hR.nb] at hb'; omega
    · exact h3⟩
  have src : ∀ b' y, ρ'.phi b' = some y → ∃ b0, ρ.phi b0 = some y ∧ (b' = h.n → b0 = b) ∧ (b' ≠ h.n → b0 = b' ∧ b' ≠ b) := fun b' y hy => by
    rcases back b' y hy with ⟨h1, h2⟩ | ⟨h1, h2, h3⟩
    · exact ⟨b, by rw [h2]; exact hg, fun _ => rfl, fun h => absurd h1 h⟩
    · exact ⟨b', h3, fun h => absurd h h1, fun _ => ⟨rfl, h2⟩⟩
  have newf : ∀ b' cs', ((h.rm b).mk_ cs).f b' = some cs' → (b' = h.n ∧ cs' = cs) ∨ (b' ≠ h.n ∧ b' ≠ b ∧ h.f b' = some cs') := fun b' cs' hb' => by
    by_cases h1 : b' = h.n
    · subst h1
      have : some cs = some cs' := (upd_same _ _ _).symm.trans hb'
      exact .inl ⟨rfl, (Option.some.inj this).symm⟩
    · have hy' : upd h.f b none b' = some cs' := (upd_ne _ _ h1).symm.trans hb'
      by_cases h2 : b' = b
      · rw [h2, upd_same] at hy'; cases hy'
      · exact .inr ⟨h1, h2, (upd_ne _ _ h2).symm.trans hy'⟩
  refine ⟨ρ', hle, upd_same _ _ _, rfl, ⟨hR.below, hR.prot, rfl, hR.ng, ?_, ?_, ?_, ?_, ?_, hR.gnone⟩⟩
  · intro b' cs' hb'
    rcases newf b' cs' hb' with ⟨rfl, rfl⟩ | ⟨h1, h2, h3⟩
    · obtain ⟨-, g, arr, e, k2, k3, k4, k5⟩ := hR.blk b cs' hb
      exact ⟨Nat.lt_succ_self _, g, arr, e, by rw [hg] at k2; rw [← k2]; exact upd_same _ _ _, k3, k4, fun i hi => ⟨(k5 i hi).1.mono hle, (k5 i hi).2⟩⟩
    · obtain ⟨k1, g, arr, e, k2, k3, k4, k5⟩ := hR.blk b' cs' h3
      exact ⟨Nat.lt_succ_of_lt k1, g, arr, e, by show upd (upd ρ.phi b none) h.n _ b' = _; rw [upd_ne _ _ h1, upd_ne _ _ h2]; exact k2, k3, k4, fun i hi => ⟨(k5 i hi).1.mono hle, (k5 i hi).2⟩⟩
  · intro b' y hy
    rcases back b' y hy with ⟨rfl, -⟩ | ⟨h1, h2, h3⟩
    · exact ⟨cs, upd_same _ _ _⟩
    · obtain ⟨cs', h'⟩ := hR.phi b' y h3
      exact ⟨cs', by show upd (upd h.f b none) h.n _ b' = _; rw [upd_ne _ _ h1, upd_ne _ _ h2]; exact h'⟩
  · intro b' g n hx
    obtain ⟨b0, h1, -⟩ := src b' _ hx
    exact hR.fresh b0 g n h1
  · intro b1 b2 g n n' hx hx'
    obtain ⟨c1, h1, h2, h3⟩ := src b1 _ hx
    obtain ⟨c2, k1, k2, k3⟩ := src b2 _ hx'
    have hcc := hR.inj c1 c2 g n n' h1 k1
    by_cases e1 : b1 = h.n <;> by_cases e2 : b2 = h.n
    · rw [e1, e2]
    · have := h2 e1; have := k3 e2; omega
    · have := k2 e2; have := h3 e1; omega
    · have := h3 e1; have := k3 e2; omega
  · intro κ hκ
    obtain ⟨g', c, s, arr', e', k1, k2, k3, k4, k5, k6, k7, k8, k9⟩ := hR.gam κ hκ
    exact ⟨g', c, s, arr', e', k1, k2, k3, k4, k5, k6, k7, fun b' n hx => (by
      obtain ⟨b0, h1, -⟩ := src b' _ hx
      exact k8 b0 n h1), k9⟩

/-- What a row holds, read cell by cell. -/
def Src (ρ : Ip) (w : World) (ad : Addr) (ys : List AV) (us : List Value) : Prop := us.length = ys.length ∧ ∀ j (hj : j < ys.length), w.cell? (ad.add j) = some (us.getD j undef) ∧ RV ρ ys[j] (us.getD j undef) ∧ (us.getD j undef).oneCell' = true

theorem src_tree {ys : List AV} {g : Gr} {xc : Value} (hR : RH ρ h w) (hx : RV ρ (.tree 1 ys g) xc) (h1 : allB oneA ys = true) (hne : ys ≠ []) : ∃ ad cap us, xc = .slice (some ad) ys.length cap ∧ Src ρ w ad ys us := by
  rcases inv_tree hx with ⟨h1, -, -⟩ | ⟨ad, cap, vs, rfl, -, -, -, hv, hs, hc⟩
  · exact absurd h1 hne
  · refine ⟨ad, cap, (List.range ys.length).map vs, rfl, by simp, fun j hj => ?_⟩
    have he : ((List.range ys.length).map vs).getD j undef = vs j := by simp [List.getD_eq_getElem?_getD, hj]
    rw [he]
    have ho := allB_get h1 j hj
    obtain ⟨k1, k2⟩ := (hv j hj).one ho
    have := hR.prot _ _ (hc j 0 hj (by omega))
    rw [k2] at this
    have e0 : (#[vs j] : Array Value).getD 0 undef = vs j := rfl
    rw [e0, show j * 1 + 0 = j from by omega] at this
    exact ⟨this.1, .pure _ _ (hv j hj), this.2⟩

theorem src_blk {b o n : Nat} {c : Cp} {cs : List AV} {xc : Value} (hR : RH ρ h w) (hx : RV ρ (.bsl b o n c) xc) (hb : h.f b = some cs) (hn : o + n ≤ cs.length) : ∃ ad cap us, xc = .slice (some ad) n cap ∧ Src ρ w ad ((cs.drop o).take n) us := by
  obtain ⟨ad, cap, rfl, -, hcap, hmax, hphi, -, -⟩ := inv_bsl hx
  obtain ⟨-, g, arr, e, k2, k3, k4, k5⟩ := hR.blk b cs hb
  have had := hphi g _ k2
  subst had
  refine ⟨_, cap, (List.range n).map fun j => arr.getD (o + j) undef, rfl, by simp; omega, fun j hj => ?_⟩
  have hj' : j < n := by simp at hj; omega
  have he : ((List.range n).map fun j => arr.getD (o + j) undef).getD j undef = arr.getD (o + j) undef := by simp [List.getD_eq_getElem?_getD, hj']
  rw [he]
  obtain ⟨q1, q2⟩ := k5 (o + j) (by omega)
  refine ⟨?_, ?_, q2⟩
  · rw [Addr.add_lit, cell_of_row w g (o + j) arr e (0, 0) k3]
    have : o + j < arr.size := by omega
    simp [Array.getD, this]
  · rw [List.getElem_take, List.getElem_drop]; exact q1

theorem app_blk {by_ : Nat} {t ty e : TypeId} (he : elT P t = some e) (hs : szT P e = some 1) (hb : byT P e = some by_) {z : AV} (hz : zrT P e = some z) (hm : memA z = true) (hzl : (cellsA z).length = 1)
    (xs ys : List AV) (us : List Value) (hys : ys ≠ []) {sc : Value} {ady : Addr} {capy : Nat} (hx : Src ρ w ady ys us) (hmx : xs.length + ys.length ≤ maxLen) (hbig : (xs.length + ys.length) * by_ ≤ 140737488355328) (hR : RH ρ h w)
    {h1 : AH} (hsc : (xs = [] ∧ sc = .slice none 0 0 ∧ h1 = h) ∨ (∃ b, h.f b = some xs ∧ h1 = h.rm b ∧ RV ρ (.bsl b 0 xs.length (.grow 1)) sc)) :
    ∃ w' vc ρ', (Builtin.append_ #[t, t] ty #[sc, .slice (some ady) ys.length capy]).run P w = .ok vc w' ∧ ρ.Le ρ' ∧ RH ρ' (h1.mk_ (xs ++ ys)) w' ∧ RV ρ' (.bsl h.n 0 (xs.length + ys.length) (.grow 1)) vc := by
  unfold zrT at hz
  obtain ⟨i, hi, hz⟩ := Option.bind_eq_some_iff.1 hz
  obtain ⟨zv, hzz, hzo⟩ := Option.bind_eq_some_iff.1 hz
  have hs' : i.size = 1 := by unfold szT at hs; rw [hi] at hs; simpa using hs
  have hb' : i.bytes = by_ := by unfold byT at hb; rw [hi] at hb; simpa using hb
  have hzc : zv.cells.size = 1 := by
    have hzp : PV ρ.prot z zv := ofV_PV hzo
    rw [← hzl]; exact (hzp.cells hm).1.symm
  have hu := elT_under he
  have hylen : 0 < ys.length := List.length_pos_iff.2 hys
  obtain ⟨hul, hxs⟩ := hx
  have hnl : us.length = ys.length * i.size := by rw [hs', Nat.mul_one, hul]
  have gd : ∀ {j : Nat} {u : Value}, us[j]? = some u → j < ys.length ∧ us.getD j undef = u := fun {j u} hj => by
    have := (List.getElem?_eq_some_iff.1 hj).1
    exact ⟨by omega, by rw [List.getD_eq_getElem?_getD, hj]; rfl⟩
  have hnews : ∀ j u, us[j]? = some u → w.cell? (ady.add j) = some u := fun j u hj => by
    obtain ⟨k1, k2⟩ := gd hj
    rw [← k2]; exact (hxs j k1).1
  -- a new row
  have fresh : ∀ (olds : List Value) (old : Nat) (hRm : ∃ ρ1, ρ.Le ρ1 ∧ RH ρ1 h1 w), olds.length = xs.length → (∀ i (hi : i < xs.length), RV ρ xs[i] (olds.getD i undef) ∧ (olds.getD i undef).oneCell' = true) → h1.n = h.n →
      ∀ (c : Nat), xs.length + ys.length ≤ c → c ≤ maxLen →
      ∃ ρ', ρ.Le ρ' ∧ RH ρ' (h1.mk_ (xs ++ ys)) (w.drew.alloc (.cells (olds.toArray ++ us.toArray ++ Builtin.zeroCells zv.cells (c - (xs.length + ys.length))) e)) ∧ RV ρ' (.bsl h.n 0 (xs.length + ys.length) (.grow 1)) (.slice (some ⟨w.heap.size, 0, none⟩) (xs.length + ys.length) c) := by
    intro olds old hRm hol hov hn1 c hc hcm
    obtain ⟨ρ1, hle1, hR1⟩ := hRm
    have hsz : (olds.toArray ++ us.toArray ++ Builtin.zeroCells zv.cells (c - (xs.length + ys.length))).size = c := by
      simp only [Array.size_append, List.size_toArray, size_zeroCells, hzc, hol, hul]; omega
    have hget : ∀ q, q < xs.length + ys.length → (olds.toArray ++ us.toArray ++ Builtin.zeroCells zv.cells (c - (xs.length + ys.length))).getD q undef = if q < xs.length then olds.getD q undef else us.getD (q - xs.length) undef := fun q hq => by
      rw [Array.getD_eq_getD_getElem?, Array.getElem?_append_left (by simp only [Array.size_append, List.size_toArray]; omega)]
      by_cases hqx : q < xs.length
      · rw [if_pos hqx, Array.getElem?_append_left (by simp only [List.size_toArray]; omega), List.getElem?_toArray, List.getD_eq_getElem?_getD]
      · rw [if_neg hqx, Array.getElem?_append_right (by simp only [List.size_toArray]; omega), List.size_toArray, hol, List.getElem?_toArray, List.getD_eq_getElem?_getD]
    obtain ⟨ρ', hle, hphi, hnb, hR'⟩ := hR1.drew.alloc (xs ++ ys) (olds.toArray ++ us.toArray ++ Builtin.zeroCells zv.cells (c - (xs.length + ys.length))) e (by rw [hsz, List.length_append]; exact hc) (fun q hq => by
      rw [List.length_append] at hq
      rw [hget q hq]
      by_cases hqx : q < xs.length
      · rw [if_pos hqx, List.getElem_append_left hqx]; exact ⟨(hov q hqx).1.mono hle1, (hov q hqx).2⟩
      · rw [if_neg hqx, List.getElem_append_right (Nat.le_of_not_lt hqx)]
        have := hxs (q - xs.length) (by omega)
        exact ⟨this.2.1.mono hle1, this.2.2⟩)
    refine ⟨ρ', hle1.trans hle, hR', .bsl _ _ _ _ _ _ (by rw [hnb, hn1]; exact Nat.lt_succ_self _) hc hcm (fun g m hx => ?_) (fun h => by cases h) (fun sz h => ⟨rfl, fun g m hx => ?_⟩)⟩
    · rw [← hn1, hphi] at hx
      have hx1 : w.heap.size = g := (Prod.mk.inj (Option.some.inj hx)).1
      rw [hx1]
    · injection h with h; subst h
      rw [← hn1, hphi] at hx; rw [← (Prod.mk.inj (Option.some.inj hx)).2, hsz]; omega
  have hmx' : xs.length + ys.length ≤ 9223372036854775807 := by simp only [maxLen] at hmx; omega
  rcases hsc with ⟨rfl, rfl, rfl⟩ | ⟨b, hbx, rfl, hsv⟩
  · simp only [List.length_nil, Nat.zero_add, List.nil_append] at hmx hbig fresh hmx' ⊢
    have hr := run_append_nil (P := P) w t ty e i zv hu hi hzz ady ys.length capy us hnl hnews hylen (by omega) (by rw [hb']; omega)
    have hh1 := fresh [] 0 ⟨ρ, .refl _, hR⟩ rfl (fun i hi => absurd hi (Nat.not_lt_zero _))
    obtain ⟨ρ', h2, h3, h4⟩ := hh1 trivial _ (grownCap_ge w ys.length 0 e) (grownCap_le_maxLen w ys.length 0 e hmx)
    simp only [List.toArray, Array.empty_append] at h3
    exact ⟨_, _, ρ', hr, h2, by simpa using h3, h4⟩
  · obtain ⟨ad, cap, rfl, hbn, hcap, hmax, hphi, -, hgrow⟩ := inv_bsl hsv
    obtain ⟨-, g, arr, e', k2, k3, k4, k5⟩ := hR.blk b xs hbx
    have had := hphi g _ k2
    subst had
    have hca := (hgrow 1 rfl).2 g _ k2
    rw [Nat.mul_one] at hca
    by_cases hroom : xs.length + ys.length ≤ cap
    · -- in its place
      have h1c : ∀ u ∈ us, u.oneCell' = true := fun u hu => by
        obtain ⟨q, hq, rfl⟩ := List.mem_iff_getElem.1 hu
        obtain ⟨q1, q2⟩ := gd (List.getElem?_eq_getElem hq)
        rw [← q2]; exact (hxs q q1).2.2
      have hr := run_append_room' (P := P) (w := w) t ty e e' i hu hi g xs.length cap arr k3 ady ys.length capy us hnl hnews h1c hroom (by rw [hs', hul]; omega)
      rw [hs', Nat.mul_one] at hr
      let arr' : Array Value := (arr.toList.take xs.length ++ us ++ arr.toList.drop (xs.length + us.length)).toArray
      have hal : arr.toList.length = arr.size := Array.length_toList
      have htl : (arr.toList.take xs.length).length = xs.length := by rw [List.length_take, hal]; omega
      have hsz' : arr'.size = arr.size := by
        simp only [arr', List.size_toArray, List.length_append, List.length_drop, htl, hal]; omega
      have hget : ∀ q, q < xs.length + ys.length → arr'.getD q undef = if q < xs.length then arr.getD q undef else us.getD (q - xs.length) undef := fun q hq => by
        simp only [arr']
        rw [Array.getD_eq_getD_getElem?, List.getElem?_toArray, List.getElem?_append_left (by rw [List.length_append, htl]; omega)]
        by_cases hqx : q < xs.length
        · rw [if_pos hqx, List.getElem?_append_left (by omega), List.getElem?_take, if_pos hqx, Array.getElem?_toList, Array.getD_eq_getD_getElem?]
        · rw [if_neg hqx, List.getElem?_append_right (by omega), htl, List.getD_eq_getElem?_getD]
      have hR2 := hR.setRow hbx k2 arr' hsz' (cs' := xs ++ ys) (by rw [List.length_append, hsz', ← hca]; exact hroom) (fun q hq => by
        rw [List.length_append] at hq
        rw [hget q hq]
        by_cases hqx : q < xs.length
        · rw [if_pos hqx, List.getElem_append_left hqx]; exact k5 q hqx
        · rw [if_neg hqx, List.getElem_append_right (Nat.le_of_not_lt hqx)]
          exact (hxs (q - xs.length) (by omega)).2)
      obtain ⟨ρ', hle, hphi', hnb, hR3⟩ := hR2.rename (b := b) (cs := xs ++ ys) (upd_same _ _ _) k2
      refine ⟨_, _, ρ', hr, hle, ?_, .bsl _ _ _ _ _ _ (by rw [hnb]; exact Nat.lt_succ_self _) hroom hmax (fun g' m hx => ?_) (fun h => by cases h) (fun sz h => ⟨rfl, fun g' m hx => ?_⟩)⟩
      · have : ((h.put b (xs ++ ys)).rm b).mk_ (xs ++ ys) = (h.rm b).mk_ (xs ++ ys) := by
          simp only [AH.put, AH.rm, AH.mk_]
          congr 1
          funext q
          simp only [upd]
          split
          · rfl
          · split <;> rfl
        rw [← this]; exact hR3
      · have hx' : some (g, arr.size) = some (g', m) := hphi'.symm.trans hx
        rw [(Prod.mk.inj (Option.some.inj hx')).1]
      · injection h with h; subst h
        have hx' : some (g, arr.size) = some (g', m) := hphi'.symm.trans hx
        rw [← (Prod.mk.inj (Option.some.inj hx')).2]; omega
    · have holds : ∀ j u, (arr.toList.take xs.length)[j]? = some u → w.cell? ((⟨g, 0, none⟩ : Addr).add j) = some u := fun j u hj => by
        rw [List.getElem?_take] at hj
        split at hj
        · rw [Addr.add_lit, Nat.zero_add, cell_of_row w g j arr e' (0, 0) k3]; simpa using hj
        · cases hj
      have hal : arr.toList.length = arr.size := Array.length_toList
      have htl : (arr.toList.take xs.length).length = xs.length := by rw [List.length_take, hal]; omega
      have hr := run_append_grow (P := P) w t ty e i zv hu hi hzz ⟨g, 0, none⟩ xs.length cap (arr.toList.take xs.length) (by rw [htl, hs', Nat.mul_one]) holds ady ys.length capy us hnl hnews (by omega) (by omega) (growslice_fits (by omega) (by rw [hb']; exact hbig))
      obtain ⟨ρ1, hle1, hR1⟩ := hR.drop b
      obtain ⟨ρ', h2, h3, h4⟩ := fresh (arr.toList.take xs.length) cap ⟨ρ1, hle1, hR1⟩ htl (fun q hq => by
        have : (arr.toList.take xs.length).getD q undef = arr.getD q undef := by
          rw [List.getD_eq_getElem?_getD, List.getElem?_take, if_pos hq, Array.getElem?_toList, Array.getD_eq_getD_getElem?]
        rw [this]; exact k5 q hq) rfl _ (grownCap_ge w (xs.length + ys.length) cap e) (grownCap_le_maxLen w (xs.length + ys.length) cap e hmx)
      exact ⟨_, _, ρ', hr, h2, h3, h4⟩
theorem src_blkS {b o n sz : Nat} {c : Cp} {cs : List AV} {xc : Value} (hR : RH ρ h w) (hx : RV ρ (.bsl b o n c) xc) (hb : h.f b = some cs) (hn : o + n * sz ≤ cs.length) : ∃ ad cap us, xc = .slice (some ad) n cap ∧ Src ρ w ad ((cs.drop o).take (n * sz)) us := by
  obtain ⟨ad, cap, rfl, -, hcap, hmax, hphi, -, -⟩ := inv_bsl hx
  obtain ⟨-, g, arr, e, k2, k3, k4, k5⟩ := hR.blk b cs hb
  have had := hphi g _ k2
  subst had
  refine ⟨_, cap, (List.range (n * sz)).map fun j => arr.getD (o + j) undef, rfl, by simp; omega, fun j hj => ?_⟩
  have hj' : j < n * sz := by simp at hj; omega
  have he : ((List.range (n * sz)).map fun j => arr.getD (o + j) undef).getD j undef = arr.getD (o + j) undef := by simp [List.getD_eq_getElem?_getD, hj']
  rw [he]
  obtain ⟨q1, q2⟩ := k5 (o + j) (by omega)
  refine ⟨?_, ?_, q2⟩
  · rw [Addr.add_lit, cell_of_row w g (o + j) arr e (0, 0) k3]
    have : o + j < arr.size := by omega
    simp [Array.getD, this]
  · rw [List.getElem_take, List.getElem_drop]; exact q1
theorem app_blkS {by_ sz n m : Nat} {t ty e : TypeId} (he : elT P t = some e) (hs : szT P e = some sz) (hb : byT P e = some by_) {z : AV} (hz : zrT P e = some z) (hm : memA z = true) (hzl : (cellsA z).length = sz) (h0 : 0 < sz)
    (xs ys : List AV) (us : List Value) (hxn : xs.length = n * sz) (hym : ys.length = m * sz) (hm0 : 0 < m) {sc : Value} {ady : Addr} {capy : Nat} (hx : Src ρ w ady ys us) (hmx : n + m ≤ maxLen) (hbig : (n + m) * by_ ≤ 140737488355328) (hR : RH ρ h w)
    {h1 : AH} (hsc : (n = 0 ∧ xs = [] ∧ sc = .slice none 0 0 ∧ h1 = h) ∨ (∃ b, h.f b = some xs ∧ h1 = h.rm b ∧ RV ρ (.bsl b 0 n (.grow sz)) sc)) :
    ∃ w' vc ρ', (Builtin.append_ #[t, t] ty #[sc, .slice (some ady) m capy]).run P w = .ok vc w' ∧ ρ.Le ρ' ∧ RH ρ' (h1.mk_ (xs ++ ys)) w' ∧ RV ρ' (.bsl h.n 0 (n + m) (.grow sz)) vc := by
  unfold zrT at hz
  obtain ⟨i, hi, hz⟩ := Option.bind_eq_some_iff.1 hz
  obtain ⟨zv, hzz, hzo⟩ := Option.bind_eq_some_iff.1 hz
  have hs' : i.size = sz := by unfold szT at hs; rw [hi] at hs; simpa using hs
  have hb' : i.bytes = by_ := by unfold byT at hb; rw [hi] at hb; simpa using hb
  have hzc : zv.cells.size = sz := by
    have hzp : PV ρ.prot z zv := ofV_PV hzo
    rw [← hzl]; exact (hzp.cells hm).1.symm
  have hu := elT_under he
  have hml : m ≤ m * sz := Nat.le_mul_of_pos_right m h0
  obtain ⟨hul, hxs⟩ := hx
  have hnl : us.length = m * i.size := by rw [hs', hul, hym]
  have hnm : xs.length + ys.length = (n + m) * sz := by rw [hxn, hym, Nat.add_mul]
  have gd : ∀ {j : Nat} {u : Value}, us[j]? = some u → j < ys.length ∧ us.getD j undef = u := fun {j u} hj => by
    have := (List.getElem?_eq_some_iff.1 hj).1
    exact ⟨by omega, by rw [List.getD_eq_getElem?_getD, hj]; rfl⟩
  have hnews : ∀ j u, us[j]? = some u → w.cell? (ady.add j) = some u := fun j u hj => by
    obtain ⟨k1, k2⟩ := gd hj
    rw [← k2]; exact (hxs j k1).1
  -- a new row
  have fresh : ∀ (olds : List Value) (old : Nat) (hRm : ∃ ρ1, ρ.Le ρ1 ∧ RH ρ1 h1 w), olds.length = xs.length → (∀ i (hi : i < xs.length), RV ρ xs[i] (olds.getD i undef) ∧ (olds.getD i undef).oneCell' = true) → h1.n = h.n →
      ∀ (c : Nat), n + m ≤ c → c ≤ maxLen →
      ∃ ρ', ρ.Le ρ' ∧ RH ρ' (h1.mk_ (xs ++ ys)) (w.drew.alloc (.cells (olds.toArray ++ us.toArray ++ Builtin.zeroCells zv.cells (c - (n + m))) e)) ∧ RV ρ' (.bsl h.n 0 (n + m) (.grow sz)) (.slice (some ⟨w.heap.size, 0, none⟩) (n + m) c) := by
    intro olds old hRm hol hov hn1 c hc hcm
    obtain ⟨ρ1, hle1, hR1⟩ := hRm
    have hsz : (olds.toArray ++ us.toArray ++ Builtin.zeroCells zv.cells (c - (n + m))).size = c * sz := by
      have : (c - (n + m)) * sz = c * sz - (n + m) * sz := Nat.sub_mul _ _ _
      have h3 : (n + m) * sz ≤ c * sz := Nat.mul_le_mul_right _ hc
      simp only [Array.size_append, List.size_toArray, size_zeroCells, hzc, hol, hul]; omega
    have hget : ∀ q, q < xs.length + ys.length → (olds.toArray ++ us.toArray ++ Builtin.zeroCells zv.cells (c - (n + m))).getD q undef = if q < xs.length then olds.getD q undef else us.getD (q - xs.length) undef := fun q hq => by
      rw [Array.getD_eq_getD_getElem?, Array.getElem?_append_left (by simp only [Array.size_append, List.size_toArray]; omega)]
      by_cases hqx : q < xs.length
      · rw [if_pos hqx, Array.getElem?_append_left (by simp only [List.size_toArray]; omega), List.getElem?_toArray, List.getD_eq_getElem?_getD]
      · rw [if_neg hqx, Array.getElem?_append_right (by simp only [List.size_toArray]; omega), List.size_toArray, hol, List.getElem?_toArray, List.getD_eq_getElem?_getD]
    obtain ⟨ρ', hle, hphi, hnb, hR'⟩ := hR1.drew.alloc (xs ++ ys) (olds.toArray ++ us.toArray ++ Builtin.zeroCells zv.cells (c - (n + m))) e (by rw [hsz, List.length_append, hnm]; exact Nat.mul_le_mul_right _ hc) (fun q hq => by
      rw [List.length_append] at hq
      rw [hget q hq]
      by_cases hqx : q < xs.length
      · rw [if_pos hqx, List.getElem_append_left hqx]; exact ⟨(hov q hqx).1.mono hle1, (hov q hqx).2⟩
      · rw [if_neg hqx, List.getElem_append_right (Nat.le_of_not_lt hqx)]
        have := hxs (q - xs.length) (by omega)
        exact ⟨this.2.1.mono hle1, this.2.2⟩)
    refine ⟨ρ', hle1.trans hle, hR', .bsl _ _ _ _ _ _ (by rw [hnb, hn1]; exact Nat.lt_succ_self _) hc hcm (fun g m hx => ?_) (fun h => by cases h) (fun sz2 h => ⟨rfl, fun g m hx => ?_⟩)⟩
    · rw [← hn1, hphi] at hx
      have hx1 : w.heap.size = g := (Prod.mk.inj (Option.some.inj hx)).1
      rw [hx1]
    · injection h with h; subst h
      rw [← hn1, hphi] at hx; rw [← (Prod.mk.inj (Option.some.inj hx)).2, hsz]
  have hmx' : n + m ≤ 9223372036854775807 := by simp only [maxLen] at hmx; omega
  rcases hsc with ⟨rfl, rfl, rfl, rfl⟩ | ⟨b, hbx, rfl, hsv⟩
  · simp only [List.length_nil, Nat.zero_add, List.nil_append] at hmx hbig fresh hmx' ⊢
    have hr := run_append_nil (P := P) w t ty e i zv hu hi hzz ady m capy us hnl hnews hm0 (by omega) (by rw [hb']; omega)
    have hh1 := fresh [] 0 ⟨ρ, .refl _, hR⟩ rfl (fun i hi => absurd hi (Nat.not_lt_zero _))
    obtain ⟨ρ', h2, h3, h4⟩ := hh1 trivial _ (grownCap_ge w m 0 e) (grownCap_le_maxLen w m 0 e hmx)
    simp only [List.toArray, Array.empty_append] at h3
    exact ⟨_, _, ρ', hr, h2, by simpa using h3, h4⟩
  · obtain ⟨ad, cap, rfl, hbn, hcap, hmax, hphi, -, hgrow⟩ := inv_bsl hsv
    obtain ⟨-, g, arr, e', k2, k3, k4, k5⟩ := hR.blk b xs hbx
    have had := hphi g _ k2
    subst had
    have hca := (hgrow sz rfl).2 g _ k2
    by_cases hroom : n + m ≤ cap
    · -- in its place
      have hroom' : (n + m) * sz ≤ cap * sz := Nat.mul_le_mul_right _ hroom
      have h1c : ∀ u ∈ us, u.oneCell' = true := fun u hu => by
        obtain ⟨q, hq, rfl⟩ := List.mem_iff_getElem.1 hu
        obtain ⟨q1, q2⟩ := gd (List.getElem?_eq_getElem hq)
        rw [← q2]; exact (hxs q q1).2.2
      have hr := run_append_room' (P := P) (w := w) t ty e e' i hu hi g n cap arr k3 ady m capy us hnl hnews h1c hroom (by rw [hs', hul]; omega)
      rw [hs', ← hxn] at hr
      let arr' : Array Value := (arr.toList.take xs.length ++ us ++ arr.toList.drop (xs.length + us.length)).toArray
      have hal : arr.toList.length = arr.size := Array.length_toList
      have htl : (arr.toList.take xs.length).length = xs.length := by rw [List.length_take, hal]; omega
      have hsz' : arr'.size = arr.size := by
        simp only [arr', List.size_toArray, List.length_append, List.length_drop, htl, hal]; omega
      have hget : ∀ q, q < xs.length + ys.length → arr'.getD q undef = if q < xs.length then arr.getD q undef else us.getD (q - xs.length) undef := fun q hq => by
        simp only [arr']
        rw [Array.getD_eq_getD_getElem?, List.getElem?_toArray, List.getElem?_append_left (by rw [List.length_append, htl]; omega)]
        by_cases hqx : q < xs.length
        · rw [if_pos hqx, List.getElem?_append_left (by omega), List.getElem?_take, if_pos hqx, Array.getElem?_toList, Array.getD_eq_getD_getElem?]
        · rw [if_neg hqx, List.getElem?_append_right (by omega), htl, List.getD_eq_getElem?_getD]
      have hR2 := hR.setRow hbx k2 arr' hsz' (cs' := xs ++ ys) (by rw [List.length_append, hsz', ← hca, hnm]; exact hroom') (fun q hq => by
        rw [List.length_append] at hq
        rw [hget q hq]
        by_cases hqx : q < xs.length
        · rw [if_pos hqx, List.getElem_append_left hqx]; exact k5 q hqx
        · rw [if_neg hqx, List.getElem_append_right (Nat.le_of_not_lt hqx)]
          exact (hxs (q - xs.length) (by omega)).2)
      obtain ⟨ρ', hle, hphi', hnb, hR3⟩ := hR2.rename (b := b) (cs := xs ++ ys) (upd_same _ _ _) k2
      refine ⟨_, _, ρ', hr, hle, ?_, .bsl _ _ _ _ _ _ (by rw [hnb]; exact Nat.lt_succ_self _) hroom hmax (fun g' m' hx => ?_) (fun h => by cases h) (fun sz2 h => ⟨rfl, fun g' m' hx => ?_⟩)⟩
      · have : ((h.put b (xs ++ ys)).rm b).mk_ (xs ++ ys) = (h.rm b).mk_ (xs ++ ys) := by
          simp only [AH.put, AH.rm, AH.mk_]
          congr 1
          funext q
          simp only [upd]
          split
          · rfl
          · split <;> rfl
        rw [← this]; exact hR3
      · have hx' : some (g, arr.size) = some (g', m') := hphi'.symm.trans hx
        rw [(Prod.mk.inj (Option.some.inj hx')).1]
      · injection h with h; subst h
        have hx' : some (g, arr.size) = some (g', m') := hphi'.symm.trans hx
        rw [← (Prod.mk.inj (Option.some.inj hx')).2]; omega
    · have holds : ∀ j u, (arr.toList.take xs.length)[j]? = some u → w.cell? ((⟨g, 0, none⟩ : Addr).add j) = some u := fun j u hj => by
        rw [List.getElem?_take] at hj
        split at hj
        · rw [Addr.add_lit, Nat.zero_add, cell_of_row w g j arr e' (0, 0) k3]; simpa using hj
        · cases hj
      have hal : arr.toList.length = arr.size := Array.length_toList
      have hcz : n * sz ≤ cap * sz := Nat.mul_le_mul_right _ (by omega)
      have htl : (arr.toList.take xs.length).length = xs.length := by rw [List.length_take, hal]; omega
      have hr := run_append_grow (P := P) w t ty e i zv hu hi hzz ⟨g, 0, none⟩ n cap (arr.toList.take xs.length) (by rw [htl, hs', hxn]) holds ady m capy us hnl hnews (by omega) (by omega) (growslice_fits (by omega) (by rw [hb']; exact hbig))
      obtain ⟨ρ1, hle1, hR1⟩ := hR.drop b
      obtain ⟨ρ', h2, h3, h4⟩ := fresh (arr.toList.take xs.length) cap ⟨ρ1, hle1, hR1⟩ htl (fun q hq => by
        have : (arr.toList.take xs.length).getD q undef = arr.getD q undef := by
          rw [List.getD_eq_getElem?_getD, List.getElem?_take, if_pos hq, Array.getElem?_toList, Array.getD_eq_getD_getElem?]
        rw [this]; exact k5 q hq) rfl _ (grownCap_ge w (n + m) cap e) (grownCap_le_maxLen w (n + m) cap e hmx)
      exact ⟨_, _, ρ', hr, h2, h3, h4⟩
/-- Nothing is appended. -/
theorem app_emp {t ty e : TypeId} {sz : Nat} (he : elT P t = some e) (hs : szT P e = some sz) {b b' : Option Addr} {l c c' : Nat} (hl : l ≤ c) : (Builtin.append_ #[t, t] ty #[.slice b l c, .slice b' 0 c']).run P w = .ok (.slice b l c) w := by
  have hu := elT_under he
  obtain ⟨i, hi, -⟩ : ∃ i, P.info? e = some i ∧ i.size = sz := by
    unfold szT at hs
    obtain ⟨i, h1, h2⟩ := Option.map_eq_some_iff.1 hs
    exact ⟨i, h1, h2⟩
  cases b <;> cases b' <;> simp [Builtin.append_, run_underlying hu, sizeOf, typeInfo, hi, Builtin.lenOf, Builtin.firstCells, loadCells, loadCellsFrom, storeCells, hl]
end
end Go.Eng
/- An engine, part 6: one operation, whichever it is, on abstract values. Over any program. -/
set_option linter.unusedVariables false
set_option linter.unusedSimpArgs false
namespace Go.Eng
open Go.RowKit (Below)

/-- Which field lies where: offset, size, type. -/
def fldT (P : Program) (t : TypeId) (f : Nat) : Option (Nat × Nat × TypeId) := match P.underlying t with
  | some (.struct fs) => (fs[f]?).bind fun f => (szT P f.type).map fun s => (f.offset, s, f.type)
  | _ => none
/-- A part of a struct's cells, as a value. -/
def partW (P : Program) (off sz : Nat) (ft : TypeId) (cs : List AV) (K : AV → Prop) : Prop :=
  (agT P ft = some false ∧ off < cs.length ∧ K (cs.getD off .junk)) ∨ (agT P ft = some true ∧ off + sz ≤ cs.length ∧ K (.agg ((cs.drop off).take sz)))
def unW (op : UnOp) (x : AV) (K : AV → Prop) : Prop := match op, x with
  | .neg, .int k n => K (.int k (k.wrap (0 - n)))
  | .not, .bool b => K (.bool (!b))
  | .xor, .int k n => arW .xor k (if k.signed then -1 else k.max) n K
  | _, _ => False
def cvW (P : Program) (s d : TypeId) (x : AV) (K : AV → Prop) : Prop := match x with
  | .int _ n => (P.underlying s).isSome = true ∧ ∃ k, kdT P d = some k ∧ K (.int k (k.wrap n))
  | _ => False
/-- A bound of a cut. -/
def bndA (d : Nat) (o : Option AV) (l : Nat) : Prop := match o with
  | none => l = d
  | some v => ∃ k, v = .int k l
def ORV (ρ : Ip) : Option AV → Option Value → Prop
  | none, none => True
  | some v, some vc => RV ρ v vc
  | _, _ => False
def cutW (P : Program) (t : TypeId) (x : AV) (lo hi mx : Option AV) (K : AV → Prop) : Prop := match x with
  | .str s => knT P t = some 2 ∧ mx = none ∧ ∃ l h : Nat, bndA 0 lo l ∧ bndA s.size hi h ∧ l ≤ h ∧ h ≤ s.size ∧ K (.str (s.extract l h))
  | .tree sz xs g => ∃ e, elT P t = some e ∧ szT P e = some sz ∧ ∃ l h : Nat, bndA 0 lo l ∧ bndA xs.length hi h ∧ l ≤ h ∧ h ≤ xs.length ∧
      ((mx = none ∧ K (.tree sz ((xs.take h).drop l) .ro)) ∨ (∃ k k', hi = some (.int k' h) ∧ mx = some (.int k h) ∧ K (.tree sz ((xs.take h).drop l) .full)))
  | .bsl b o n c => ∃ e s, elT P t = some e ∧ szT P e = some s ∧ ∃ l h : Nat, bndA 0 lo l ∧ bndA n hi h ∧ l ≤ h ∧ h ≤ n ∧ mx = none ∧ (l < h ∨ l = 0) ∧ K (.bsl b (o + l * s) (h - l) .ro)
  | _ => False
/-- append(s, x...), elements that stay. -/
def appW (P : Program) (t : TypeId) (s x : AV) (h : AH) (K : AV → AH → Prop) : Prop :=
  ∃ e sz by_ z, elT P t = some e ∧ szT P e = some sz ∧ byT P e = some by_ ∧ zrT P e = some z ∧ memA z = true ∧ (cellsA z).length = sz ∧ 0 < sz ∧
  match x with
  | .tree sz' ys _ => sz' = sz ∧ ys ≠ [] ∧ (match s with
    | .nils => ys.length ≤ 4294967296 ∧ ys.length * by_ ≤ 140737488355328 ∧ K (.tree sz ys (.own h.k)) (h.begun ys.length)
    | .tree sz'' xs .full => sz'' = sz ∧ xs.length + ys.length ≤ 4294967296 ∧ (xs.length + ys.length) * by_ ≤ 140737488355328 ∧ K (.tree sz (xs ++ ys) (.own h.k)) (h.begun (xs.length + ys.length))
    | .tree sz'' xs (.own κ) => sz'' = sz ∧ h.gr κ = xs.length ∧ xs.length + ys.length ≤ 4294967296 ∧ (xs.length + ys.length) * by_ ≤ 140737488355328 ∧ K (.tree sz (xs ++ ys) (.own κ)) (h.grown κ (xs.length + ys.length))
    | _ => False)
  | _ => False
/-- What is appended, from a row that stays or a block. -/
def srcW (h : AH) (x : AV) (ys : List AV) : Prop := match x with
  | .tree sz zs _ => sz = 1 ∧ allB oneA zs = true ∧ ys = zs
  | .bsl b o n _ => ∃ cs, h.f b = some cs ∧ o + n ≤ cs.length ∧ ys = (cs.drop o).take n
  | _ => False
/-- append(s, x...), elements that may be written. -/
def appBW (P : Program) (t : TypeId) (s x : AV) (h : AH) (K : AV → AH → Prop) : Prop :=
  ∃ e by_ z ys, elT P t = some e ∧ szT P e = some 1 ∧ byT P e = some by_ ∧ zrT P e = some z ∧ memA z = true ∧ (cellsA z).length = 1 ∧ srcW h x ys ∧ ys ≠ [] ∧ (match s with
    | .nils => ys.length ≤ 4294967296 ∧ ys.length * by_ ≤ 140737488355328 ∧ K (.bsl h.n 0 ys.length (.grow 1)) (h.mk_ ys)
    | .bsl b o n c => o = 0 ∧ c = .grow 1 ∧ ∃ cs, h.f b = some cs ∧ cs.length = n ∧ n + ys.length ≤ 4294967296 ∧ (n + ys.length) * by_ ≤ 140737488355328 ∧ K (.bsl h.n 0 (n + ys.length) (.grow 1)) ((h.rm b).mk_ (cs ++ ys))
    | _ => False)
/-- The same, elements of more cells than one, out of a block. -/
def appBS (P : Program) (t : TypeId) (s x : AV) (h : AH) (K : AV → AH → Prop) : Prop :=
  ∃ e sz by_ z, elT P t = some e ∧ szT P e = some sz ∧ sz ≠ 1 ∧ 0 < sz ∧ byT P e = some by_ ∧ zrT P e = some z ∧ memA z = true ∧ (cellsA z).length = sz ∧ (match x with
    | .bsl bx ox m _ => 0 < m ∧ ∃ cx, h.f bx = some cx ∧ ox + m * sz ≤ cx.length ∧ (match s with
      | .nils => m ≤ 4294967296 ∧ m * by_ ≤ 140737488355328 ∧ K (.bsl h.n 0 m (.grow sz)) (h.mk_ ((cx.drop ox).take (m * sz)))
      | .bsl b o n c => o = 0 ∧ c = .grow sz ∧ ∃ cs, h.f b = some cs ∧ cs.length = n * sz ∧ n + m ≤ 4294967296 ∧ (n + m) * by_ ≤ 140737488355328 ∧ K (.bsl h.n 0 (n + m) (.grow sz)) ((h.rm b).mk_ (cs ++ (cx.drop ox).take (m * sz)))
      | _ => False)
    | _ => False)
/-- Nothing is appended. -/
def empB (x : AV) : Bool := match x with
  | .nils => true
  | .tree _ xs _ => xs.isEmpty
  | .bsl _ _ n _ => n == 0
  | _ => false
def slB (s : AV) : Bool := match s with
  | .nils => true
  | .tree _ _ _ => true
  | .bsl _ _ _ _ => true
  | _ => false
def appE (P : Program) (t : TypeId) (s x : AV) (h : AH) (K : AV → AH → Prop) : Prop :=
  ∃ e sz, elT P t = some e ∧ szT P e = some sz ∧ empB x = true ∧ slB s = true ∧ K s h
def lenW (P : Program) (t : TypeId) (x : AV) (K : AV → Prop) : Prop := match x with
  | .nils => knT P t = some 3 ∧ K (.int .i64 0)
  | .tree _ xs _ => knT P t = some 3 ∧ K (.int .i64 (xs.length : Int))
  | .bsl _ _ n _ => knT P t = some 3 ∧ K (.int .i64 (n : Int))
  | .str s => knT P t = some 2 ∧ K (.int .i64 (s.size : Int))
  | _ => False
def idxAW (P : Program) (t : TypeId) (x i : AV) (K : AV → Prop) : Prop := match x, i with
  | .tree sz xs _, .int _ n => ∃ e, elT P t = some e ∧ szT P e = some sz ∧ 0 ≤ n ∧ n < (xs.length : Int) ∧ K (.eptr (xs.getD n.toNat .junk))
  | .bsl b o len _, .int _ n => ∃ e s, elT P t = some e ∧ szT P e = some s ∧ 0 ≤ n ∧ n < (len : Int) ∧ K (.ptr b (o + n.toNat * s))
  | _, _ => False
def fldAW (P : Program) (t : TypeId) (x : AV) (f : Nat) (K : AV → Prop) : Prop := ∃ off sz ft, fldT P t f = some (off, sz, ft) ∧ sz ≠ 0 ∧ (match x with
  | .ptr b o => K (.ptr b (o + off))
  | .eptr (.agg cs) => partW P off sz ft cs fun v => K (.eptr v)
  | _ => False)

/-- If the bit is as wanted, the one; if not, the other. -/
def gifW (c b : Bool) (run skip : Prop) : Prop := (c = b → run) ∧ (c = !b → skip)

def condW (x : AV) (yes no : Prop) : Prop := match x with
  | .bool t => gifW t true yes no
  | _ => False
def nilW (x : AV) (K : AV → Prop) : Prop := match x with
  | .ptr b o => K (.ptr b o)
  | .eptr v => K (.eptr v)
  | .func (.func f) a b => K (.func (.func f) a b)
  | _ => False

/-- An operation that is no call of a function of the program's own. blk: what it makes may be written later. -/
def opW (P : Program) (blk : Bool) (o : Op) (e : Operand → AV) (h : AH) (K : AV → AH → Prop) : Prop := match o with
  | .move x => K (e x) h
  | .assign x => K (e x) h
  | .pick c a b => condW (e c) (K (e a) h) (K (e b) h)
  | .load t x => loadW P t (e x) h K
  | .store t a x => storeW P t (e a) (e x) h K
  | .box t x => memA (e x) = true ∧ K (.ptr h.n 0) (h.mk_ (cellsA (e x)))
  | .alloc t => ∃ z, zrT P t = some z ∧ memA z = true ∧ K (.ptr h.n 0) (h.mk_ (cellsA z))
  | .build t parts => ∃ za pl out, bdT P t = some (za, pl) ∧ fillA pl za (parts.toList.map fun p => (p.1, e p.2)) = some out ∧ K (.agg out) h
  | .buildSlice t n parts => ∃ el sz, elT P t = some el ∧ szT P el = some sz ∧ (zrT P el).isSome = true ∧ 0 < sz ∧ parts.toList.length = n ∧ inOrder 0 (parts.toList.map fun p => (p.1, e p.2)) = true ∧ n * sz ≤ 16777216 ∧
      ((blk = false ∧ allB (elemB sz) (parts.toList.map fun p => e p.2) = true ∧ K (.tree sz (roL (parts.toList.map fun p => e p.2)) .full) h) ∨
       (blk = true ∧ allB (elemM sz) (parts.toList.map fun p => e p.2) = true ∧ K (.bsl h.n 0 n (if n = 0 then .grow sz else .full)) (h.mk_ (catA (parts.toList.map fun p => e p.2)))))
  | .nilCheck x => nilW (e x) fun v => K v h
  | .binOp op t x y _ => binW P op t (e x) (e y) fun v => K v h
  | .unOp op _ x => unW op (e x) fun v => K v h
  | .convert s d x => cvW P s d (e x) fun v => K v h
  | .makeFunc fn a b => K (.func fn (a.toList.map e) (b.toList.map e)) h
  | .makeInterface t x => P.concrete t = true ∧ K (.iface t (e x)) h
  | .makeSlice t l c => ∃ el sz by_ z kl kc n, elT P t = some el ∧ szT P el = some sz ∧ byT P el = some by_ ∧ zrT P el = some z ∧ memA z = true ∧ (cellsA z).length = sz ∧ 0 < sz ∧ e l = .int kl n ∧ e c = .int kc n ∧ 0 ≤ n ∧ n ≤ 4294967296 ∧ n.toNat * by_ ≤ 140737488355328 ∧
      K (.bsl h.n 0 n.toNat .full) (h.mk_ (copies (cellsA z) n.toNat))
  | .slice t x lo hi mx => cutW P t (e x) (lo.map e) (hi.map e) (mx.map e) fun v => K v h
  | .fieldAddr t x f => fldAW P t (e x) f fun v => K v h
  | .field t x f => ∃ off sz ft cs, fldT P t f = some (off, sz, ft) ∧ e x = .agg cs ∧ partW P off sz ft cs fun v => K v h
  | .indexAddr t x i => idxAW P t (e x) (e i) fun v => K v h
  | .index t x i => ∃ s k n, e x = .str s ∧ e i = .int k n ∧ knT P t = some 2 ∧ 0 ≤ n ∧ n < (s.size : Int) ∧ K (.int .u8 ((s.data.toList.getD n.toNat 0).toNat : Int)) h
  | .extract x i => ∃ vs, e x = .tup vs ∧ i < vs.length ∧ K (vs.getD i .junk) h
  | .call c => (match c.callee with
    | .builtin .len => ∃ x t, c.args = #[x] ∧ c.argTypes = #[t] ∧ lenW P t (e x) fun v => K v h
    | .builtin .append => ∃ s x t, c.args = #[s, x] ∧ c.argTypes = #[t, t] ∧ ((blk = false ∧ appW P t (e s) (e x) h K) ∨ (blk = true ∧ appBW P t (e s) (e x) h K) ∨ (blk = true ∧ appBS P t (e s) (e x) h K) ∨ appE P t (e s) (e x) h K)
    | _ => False)
  | _ => False

section
variable {P : Program} {ρ : Ip} {h : AH} {w : World}

/-- What an operation leaves. -/
def Does (P : Program) (ρ : Ip) (h : AH) (w : World) (s : Sem Value) (K : AV → AH → Prop) : Prop :=
  ∃ w' vc ρ' v h', s.run P w = .ok vc w' ∧ ρ.Le ρ' ∧ RH ρ' h' w' ∧ RV ρ' v vc ∧ K v h'

theorem Does.pure_ {v : AV} {vc : Value} {K : AV → AH → Prop} {s : Sem Value} (hr : s.run P w = .ok vc w) (hR : RH ρ h w) (hv : RV ρ v vc) (hK : K v h) : Does P ρ h w s K :=
  ⟨w, vc, ρ, v, h, hr, .refl _, hR, hv, hK⟩

theorem part_sound {off sz : Nat} {ft : TypeId} {cs : List AV} {K : AV → Prop} (hw : partW P off sz ft cs K) (hsz : szT P ft = some sz) {vs : Array Value} (hl : cs.length = vs.size) (hv : ∀ i (h : i < cs.length), RV ρ cs[i] (vs.getD i undef)) (h1 : ∀ i, i < vs.size → (vs.getD i undef).oneCell' = true) :
    ∃ v vc, (part ft vs off).run P w = .ok vc w ∧ RV ρ v vc ∧ K v := by
  rcases hw with ⟨ha, ho, hK⟩ | ⟨ha, ho, hK⟩
  · have hov : off < vs.size := by omega
    refine ⟨_, vs.getD off undef, ?_, ?_, hK⟩
    · simp only [part, Sem.run_bind, run_isAgg_of ha, Result.andThen_ok, Bool.false_eq_true, if_false, Array.getElem?_eq_getElem hov, Sem.run_pure]
      simp [Array.getD, hov]
    · rw [List.getD_eq_getElem?_getD, List.getElem?_eq_getElem ho]
      exact hv off ho
  · have hg : ∀ i, i < sz → (vs.extract off (off + sz)).getD i undef = vs.getD (off + i) undef := fun i hi => by
      rw [Array.getD_eq_getD_getElem?, Array.getD_eq_getD_getElem?, Array.getElem?_extract]
      rw [if_pos (by omega)]
    refine ⟨_, .agg (vs.extract off (off + sz)), ?_, ?_, hK⟩
    · simp only [part, Sem.run_bind, run_isAgg_of ha, Result.andThen_ok, if_true, run_sizeOf_of hsz, Sem.run_pure]
    · refine .agg _ _ (by simp; omega) (fun i hi => ?_) (fun i hi => ?_)
      · have hi' : i < sz := by simp at hi; omega
        rw [hg i hi', List.getElem_take, List.getElem_drop]
        exact hv (off + i) (by omega)
      · have hi' : i < sz := by simp at hi; omega
        rw [hg i hi']
        exact h1 (off + i) (by omega)

theorem fldT_spec {t : TypeId} {f off sz : Nat} {ft : TypeId} (hf : fldT P t f = some (off, sz, ft)) : ∃ fs fd, P.underlying t = some (.struct fs) ∧ fs[f]? = some fd ∧ fd.offset = off ∧ fd.type = ft ∧ szT P ft = some sz := by
  unfold fldT at hf
  split at hf
  · rename_i fs hu
    obtain ⟨fd, h1, h2⟩ := Option.bind_eq_some_iff.1 hf
    obtain ⟨s, h3, h4⟩ := Option.map_eq_some_iff.1 h2
    simp only [Prod.mk.injEq] at h4
    obtain ⟨rfl, rfl, rfl⟩ := h4
    exact ⟨fs, fd, hu, h1, rfl, rfl, h3⟩
  · cases hf

theorem field_sound {t : TypeId} {f off sz : Nat} {ft : TypeId} {cs : List AV} {K : AV → Prop} (hf : fldT P t f = some (off, sz, ft)) (hw : partW P off sz ft cs K) {xc : Value} (hx : RV ρ (.agg cs) xc) :
    ∃ v vc, (Instr.field t xc f).run P w = .ok vc w ∧ RV ρ v vc ∧ K v := by
  obtain ⟨fs, fd, hu, h1, rfl, rfl, h3⟩ := fldT_spec hf
  obtain ⟨vs, rfl, hl, hv, hone⟩ := inv_agg hx
  obtain ⟨v, vc, hr, hv', hK⟩ := part_sound (w := w) hw h3 hl hv hone
  refine ⟨v, vc, ?_, hv', hK⟩
  simp only [Instr.field, underlying, program, Sem.run_bind, Sem.run, Result.andThen_ok, hu, Sem.run_pure, h1, asAgg, hr]

theorem fieldAddr_sound {t : TypeId} {x : AV} {f : Nat} {K : AV → Prop} (hw : fldAW P t x f K) {xc : Value} (hx : RV ρ x xc) (hR : RH ρ h w) :
    ∃ v vc, (Instr.fieldAt t xc f).run P w = .ok vc w ∧ RV ρ v vc ∧ K v := by
  obtain ⟨off, sz, ft, hf, hne, hw⟩ := hw
  obtain ⟨fs, fd, hu, h1, rfl, rfl, h3⟩ := fldT_spec hf
  have hrun : ∀ ad, (Instr.fieldAt t (.pointer (some ad)) f).run P w = .ok (.pointer (some (ad.add fd.offset))) w := fun ad => by
    simp only [Instr.fieldAt, underlying, program, Sem.run_bind, Sem.run, Result.andThen_ok, hu, Sem.run_pure, h1, Instr.sureAddr, fieldPlace, run_sizeOf_of h3, if_neg hne]
  split at hw
  · rename_i b o
    obtain ⟨ad, rfl, hb, hphi⟩ := inv_ptr hx
    exact ⟨_, _, hrun ad, .ptr _ _ _ hb (fun g n hg => by rw [hphi g n hg, Addr.add_lit]), hw⟩
  · rename_i cs
    obtain ⟨ad, u, rfl, hv, hc⟩ := inv_eptr hx
    cases hv with | agg _ vs hl hv hone =>
    have hoff : ∀ j, (ad.add fd.offset).add j = ad.add (fd.offset + j) := fun j => by
      unfold Addr.add
      by_cases h1 : fd.offset = 0 <;> by_cases h2 : j = 0
      · simp [h1, h2]
      · simp [h1, h2]
      · simp [h1, h2]
      · simp [h1, h2, Nat.add_assoc]
    rcases hw with ⟨ha, ho, hK⟩ | ⟨ha, ho, hK⟩
    · have hov : fd.offset < vs.size := by omega
      refine ⟨_, _, hrun ad, .pure _ _ (.eptr _ (vs.getD fd.offset undef) _ ?_ (fun j hj => ?_)), hK⟩
      · rw [List.getD_eq_getElem?_getD, List.getElem?_eq_getElem ho]
        exact hv _ ho
      · have h1c : (vs.getD fd.offset undef).cells = #[vs.getD fd.offset undef] := by
          have := hone _ hov
          cases hq : vs.getD fd.offset undef <;> first | rfl | (rw [hq] at this; simp [Value.oneCell'] at this)
        rw [h1c] at hj ⊢
        have : j = 0 := by simpa using hj
        subst this
        rw [hoff, Nat.add_zero]
        exact hc fd.offset hov
    · have hg : ∀ i, i < sz → (vs.extract fd.offset (fd.offset + sz)).getD i undef = vs.getD (fd.offset + i) undef := fun i hi => by
        rw [Array.getD_eq_getD_getElem?, Array.getD_eq_getD_getElem?, Array.getElem?_extract]
        rw [if_pos (by omega)]
      refine ⟨_, _, hrun ad, .pure _ _ (.eptr _ (.agg (vs.extract fd.offset (fd.offset + sz))) _ (.agg _ _ (by simp; omega) (fun i hi => ?_) (fun i hi => ?_)) (fun j hj => ?_)), hK⟩
      · have hi' : i < sz := by simp at hi; omega
        rw [hg i hi', List.getElem_take, List.getElem_drop]
        exact hv (fd.offset + i) (by omega)
      · have hi' : i < sz := by simp at hi; omega
        rw [hg i hi']
        exact hone (fd.offset + i) (by omega)
      · have hj' : j < sz := by simp [Value.cells] at hj; omega
        rw [hoff]
        show _ = some ((vs.extract fd.offset (fd.offset + sz)).getD j undef)
        rw [hg j hj']
        exact hc (fd.offset + j) (by show _ < vs.size; omega)
  · exact hw.elim

theorem idx_sound {t : TypeId} {x i : AV} {K : AV → Prop} (hw : idxAW P t x i K) {xc ic : Value} (hx : RV ρ x xc) (hi : RV ρ i ic) (hR : RH ρ h w) :
    ∃ v vc, (Instr.indexAt t xc ic).run P w = .ok vc w ∧ RV ρ v vc ∧ K v := by
  unfold idxAW at hw
  split at hw
  · rename_i sz xs g k n
    obtain ⟨e, he, hs, h0, h1, hK⟩ := hw
    obtain rfl := inv_int hi
    rcases inv_tree hx with ⟨rfl, -, -⟩ | ⟨ad, cap, vs, rfl, -, -, -, hv, hsz, hc⟩
    · simp at h1; omega
    · have hlt : n.toNat < xs.length := by omega
      refine ⟨_, .pointer (some (ad.add (n.toNat * sz))), ?_, .pure _ _ (.eptr _ (vs n.toNat) _ ?_ (fun j hj => ?_)), hK⟩
      · have hu := elT_under he
        simp only [Instr.indexAt, asIntOf, underlying, program, Sem.run_bind, Sem.run, Result.andThen_ok, hu, Sem.run_pure, if_pos (show 0 ≤ n ∧ n < (xs.length : Int) from ⟨h0, h1⟩), run_sizeOf_of hs]
      · rw [List.getD_eq_getElem?_getD, List.getElem?_eq_getElem hlt]
        exact hv _ hlt
      · have hadd : (ad.add (n.toNat * sz)).add j = ad.add (n.toNat * sz + j) := by
          unfold Addr.add
          by_cases h1 : n.toNat * sz = 0 <;> by_cases h2 : j = 0 <;> simp [h1, h2, Nat.add_assoc]
        rw [hadd]
        exact hc _ _ hlt (by rw [← hsz _ hlt]; exact hj)
  · rename_i b o len c k n
    obtain ⟨e, s, he, hs, h0, h1, hK⟩ := hw
    obtain rfl := inv_int hi
    obtain ⟨ad, cap, rfl, hb, -, -, hphi, -, -⟩ := inv_bsl hx
    refine ⟨_, .pointer (some (ad.add (n.toNat * s))), ?_, .ptr _ _ _ hb (fun g m hg => by rw [hphi g m hg, Addr.add_lit]), hK⟩
    have hu := elT_under he
    simp only [Instr.indexAt, asIntOf, underlying, program, Sem.run_bind, Sem.run, Result.andThen_ok, hu, Sem.run_pure, if_pos (show 0 ≤ n ∧ n < (len : Int) from ⟨h0, h1⟩), run_sizeOf_of hs]
  · exact hw.elim

theorem un_sound {op : UnOp} {x : AV} {K : AV → Prop} (hw : unW op x K) {xc : Value} (hx : RV ρ x xc) : ∃ v vc, (Op.unary op xc).run P w = .ok vc w ∧ RV ρ v vc ∧ K v := by
  unfold unW at hw
  split at hw
  · obtain rfl := inv_int hx
    exact ⟨_, _, by simp only [Op.unary, Op.intArith, Sem.run_pure], .pure _ _ (.int _ _), hw⟩
  · obtain rfl := inv_bool hx
    exact ⟨_, _, by simp only [Op.unary, Sem.run_pure], .pure _ _ (.bool _), hw⟩
  · obtain rfl := inv_int hx
    simp only [arW] at hw
    exact ⟨_, _, by simp only [Op.unary, Op.intBits, Sem.run_pure], .pure _ _ (.int _ _), hw⟩
  · exact hw.elim

theorem cv_sound {s d : TypeId} {x : AV} {K : AV → Prop} (hw : cvW P s d x K) {xc : Value} (hx : RV ρ x xc) : ∃ v vc, (convert s d xc).run P w = .ok vc w ∧ RV ρ v vc ∧ K v := by
  unfold cvW at hw
  split at hw
  · rename_i k0 n
    obtain ⟨hsome, k, hk, hK⟩ := hw
    obtain rfl := inv_int hx
    obtain ⟨sd, hs⟩ := Option.isSome_iff_exists.1 hsome
    have hu : P.underlying d = some (.int k) := by
      unfold kdT at hk
      split at hk
      · rename_i k' hu; injection hk with hk; rw [hk] at hu; exact hu
      · cases hk
    refine ⟨_, _, ?_, .pure _ _ (.int _ _), hK⟩
    simp only [convert, underlying, program, Sem.run_bind, Sem.run, Result.andThen_ok, hs, hu, Sem.run_pure, Conv.intToInt]
  · exact hw.elim

theorem knT_slice {t : TypeId} (h : knT P t = some 3) : ∃ e, P.underlying t = some (.slice e) := by
  unfold knT at h
  split at h <;> first | exact ⟨_, by assumption⟩ | (simp at h)
theorem knT_str {t : TypeId} (h : knT P t = some 2) : P.underlying t = some .string := by
  unfold knT at h
  split at h <;> first | assumption | (simp at h)

theorem len_sound {t : TypeId} {x : AV} {K : AV → Prop} (hw : lenW P t x K) {xc : Value} (hx : RV ρ x xc) {ty : TypeId} : ∃ v vc, (Builtin.len_ #[t] ty #[xc]).run P w = .ok vc w ∧ RV ρ v vc ∧ K v := by
  unfold lenW at hw
  split at hw
  · obtain rfl := inv_nils hx
    obtain ⟨e, hu⟩ := knT_slice hw.1
    exact ⟨_, _, by simp [Builtin.len_, run_underlying hu, goInt], .pure _ _ (.int _ _), hw.2⟩
  · rename_i sz xs g
    obtain ⟨e, hu⟩ := knT_slice hw.1
    rcases inv_tree hx with ⟨rfl, rfl, -⟩ | ⟨ad, cap, vs, rfl, -⟩
    · exact ⟨_, _, by simp [Builtin.len_, run_underlying hu, goInt], .pure _ _ (.int _ _), hw.2⟩
    · exact ⟨_, _, by simp [Builtin.len_, run_underlying hu, goInt], .pure _ _ (.int _ _), hw.2⟩
  · rename_i b o n c
    obtain ⟨e, hu⟩ := knT_slice hw.1
    obtain ⟨ad, cap, rfl, -⟩ := inv_bsl hx
    exact ⟨_, _, by simp [Builtin.len_, run_underlying hu, goInt], .pure _ _ (.int _ _), hw.2⟩
  · rename_i s
    obtain rfl := inv_str hx
    have hu := knT_str hw.1
    exact ⟨_, _, by simp [Builtin.len_, run_underlying hu, goInt], .pure _ _ (.int _ _), hw.2⟩
  · exact hw.elim

theorem bound_sound {n : Nat} {y : Nat} {k : IntKind} {c : BoundsCode} (h : n ≤ y) : (Instr.sliceBound (.int k n) y c).run P w = .ok n w := by
  simp only [Instr.sliceBound, asIntOf, Sem.run_bind, Sem.run_pure, Result.andThen_ok, if_pos (show 0 ≤ (n : Int) ∧ (n : Int) ≤ (y : Int) from ⟨by omega, by omega⟩), Int.toNat_natCast]

/-- The two bounds of a cut without a third. -/
theorem bounds2_sound {is : Bool} {len cap l h : Nat} {lo hi : Option AV} {loc hic : Option Value} (hlo : bndA 0 lo l) (hhi : bndA len hi h)
    (hr : ORV ρ lo loc) (hr2 : ORV ρ hi hic) (h1 : l ≤ h) (h2 : h ≤ cap) :
    (Instr.sliceBounds is len cap loc hic none).run P w = .ok (l, h, cap) w := by
  unfold Instr.sliceBounds
  cases hi with
  | none =>
    cases hic with
    | some _ => exact hr2.elim
    | none =>
      simp only [bndA] at hhi
      subst hhi
      cases lo with
      | none =>
        cases loc with
        | some _ => exact hr.elim
        | none => simp only [bndA] at hlo; subst hlo; simp
      | some v =>
        cases loc with
        | none => exact hr.elim
        | some vc =>
          obtain ⟨k, rfl⟩ := hlo
          obtain rfl := inv_int hr
          simp [bound_sound h1]
  | some v2 =>
    cases hic with
    | none => exact hr2.elim
    | some vc2 =>
      obtain ⟨k2, rfl⟩ := hhi
      obtain rfl := inv_int hr2
      cases lo with
      | none =>
        cases loc with
        | some _ => exact hr.elim
        | none => simp only [bndA] at hlo; subst hlo; simp [bound_sound h2]
      | some v =>
        cases loc with
        | none => exact hr.elim
        | some vc =>
          obtain ⟨k, rfl⟩ := hlo
          obtain rfl := inv_int hr
          simp [bound_sound h1, bound_sound h2]
theorem bounds3_sound {len cap l h : Nat} {lo hi : Option AV} {loc hic : Option Value} {k : IntKind} (hlo : bndA 0 lo l) (hhi : ∃ v k, hi = some v ∧ v = AV.int k h)
    (hr : ORV ρ lo loc) (hr2 : ORV ρ hi hic) (h1 : l ≤ h) (h2 : h ≤ cap) :
    (Instr.sliceBounds true len cap loc hic (some (.int k h))).run P w = .ok (l, h, h) w := by
  unfold Instr.sliceBounds
  obtain ⟨v, k2, rfl, rfl⟩ := hhi
  cases hic with
  | none => exact hr2.elim
  | some vc2 =>
    obtain rfl := inv_int hr2
    cases lo with
    | none =>
      cases loc with
      | some _ => exact hr.elim
      | none => simp only [bndA] at hlo; subst hlo; simp [bound_sound h2, bound_sound (Nat.le_refl h)]
    | some v =>
      cases loc with
      | none => exact hr.elim
      | some vc =>
        obtain ⟨k, rfl⟩ := hlo
        obtain rfl := inv_int hr
        simp [bound_sound h1, bound_sound h2, bound_sound (Nat.le_refl h)]

theorem add_add (ad : Addr) (m j : Nat) : (ad.add m).add j = ad.add (m + j) := by
  unfold Addr.add
  by_cases h1 : m = 0 <;> by_cases h2 : j = 0 <;> simp [h1, h2, Nat.add_assoc]

theorem cut_sound {t : TypeId} {x : AV} {lo hi mx : Option AV} {K : AV → Prop} (hw : cutW P t x lo hi mx K) {xc : Value} {loc hic mxc : Option Value} (hx : RV ρ x xc)
    (hlo : ORV ρ lo loc) (hhi : ORV ρ hi hic) (hmx : ORV ρ mx mxc) :
    ∃ v vc, (Instr.sliceAt t xc loc hic mxc).run P w = .ok vc w ∧ RV ρ v vc ∧ K v := by
  unfold cutW at hw
  split at hw
  · rename_i s
    obtain ⟨hk, rfl, l, h, h1, h2, h3, h4, hK⟩ := hw
    obtain rfl := inv_str hx
    have hu := knT_str hk
    cases mxc with
    | some _ => exact hmx.elim
    | none =>
      have hb := bounds2_sound (P := P) (w := w) (is := false) (len := s.size) (cap := s.size) h1 h2 hlo hhi h3 h4
      exact ⟨_, _, by simp [Instr.sliceAt, Instr.slice, run_underlying hu, hb], .pure _ _ (.str _), hK⟩
  · rename_i sz xs g
    obtain ⟨e, he, hs, l, h, h1, h2, h3, h4, hw⟩ := hw
    have hu := elT_under he
    -- what the cut of a tree leaves
    have cutT : ∀ (ad : Addr) (cap cap' : Nat) (vs : Nat → Value) (gr : Gr), (gr = .ro ∨ (gr = .full ∧ cap' = h - l)) → xs.length ≤ cap → cap ≤ maxLen → h - l ≤ cap' → cap' ≤ cap → (∀ i (h : i < xs.length), PV ρ.prot xs[i] (vs i)) → (∀ i, i < xs.length → (vs i).cells.size = sz) →
        (∀ i j, i < xs.length → j < sz → ρ.prot (ad.add (i * sz + j)) = some ((vs i).cells.getD j undef)) → ∀ ad', (l < h → ad' = ad.add (l * sz)) → RV ρ (.tree sz ((xs.take h).drop l) gr) (.slice (some ad') (h - l) cap') := by
      intro ad cap cap' vs gr hgr hc1 hc2 hc3 hc4 hv hvs hcc ad' had
      have hlen : ((xs.take h).drop l).length = h - l := by simp; omega
      have := PV.tree (pr := ρ.prot) sz ((xs.take h).drop l) gr ad' cap' (fun i => vs (l + i)) (by omega) (by omega) (by rw [hlen]; exact hgr) (fun i hi => by
          rw [List.getElem_drop, List.getElem_take]
          exact hv (l + i) (by rw [hlen] at hi; omega)) (fun i hi => hvs (l + i) (by rw [hlen] at hi; omega)) (fun i j hi hj => by
          rw [hlen] at hi
          rw [had (by omega), add_add, show l * sz + (i * sz + j) = (l + i) * sz + j from by rw [Nat.add_mul]; omega]
          exact hcc (l + i) j (by omega) hj)
      rw [hlen] at this
      exact .pure _ _ this
    rcases inv_tree hx with ⟨rfl, rfl, -⟩ | ⟨ad, cap, vs, rfl, hcap, hmax, hfull, hv, hvs, hcc⟩
    · -- nil
      have h0 : h = 0 := by simpa using h4
      subst h0
      have l0 : l = 0 := by omega
      subst l0
      rcases hw with ⟨rfl, hK⟩ | ⟨k, k2, rfl, rfl, hK⟩
      · cases mxc with
        | some _ => exact hmx.elim
        | none =>
          have hb := bounds2_sound (P := P) (w := w) (is := true) (len := 0) (cap := 0) h1 h2 hlo hhi h3 (Nat.le_refl 0)
          exact ⟨_, .slice none 0 0, by simp [Instr.sliceAt, Instr.slice, run_underlying hu, hb, run_sizeOf_of hs], .pure _ _ (by simpa using PV.none_ (pr := ρ.prot) sz .ro (.inl rfl)), hK⟩
      · cases mxc with
        | none => exact hmx.elim
        | some mv =>
          obtain rfl := inv_int hmx
          have hb := bounds3_sound (P := P) (w := w) (len := 0) (cap := 0) (k := k) h1 ⟨_, k2, rfl, rfl⟩ hlo hhi h3 (Nat.le_refl 0)
          have hb' : (Instr.sliceBounds true 0 0 loc hic (some (.int k 0))).run P w = .ok (0, 0, 0) w := hb
          exact ⟨_, .slice none 0 0, by simp [Instr.sliceAt, Instr.slice, run_underlying hu, hb', run_sizeOf_of hs], .pure _ _ (by simpa using PV.none_ (pr := ρ.prot) sz .full (.inr rfl)), hK⟩
    · rcases hw with ⟨rfl, hK⟩ | ⟨k, k2, rfl, rfl, hK⟩
      · cases mxc with
        | some _ => exact hmx.elim
        | none =>
          have hb := bounds2_sound (P := P) (w := w) (is := true) (len := xs.length) (cap := cap) h1 h2 hlo hhi h3 (by omega)
          refine ⟨_, .slice (some (if cap = l then ad else ad.add (l * sz))) (h - l) (cap - l), ?_, cutT ad cap _ vs .ro (.inl rfl) hcap hmax (by omega) (by omega) hv hvs hcc _ (fun hlt => by rw [if_neg (by omega)]), hK⟩
          simp only [Instr.sliceAt, Instr.slice, run_underlying hu, Sem.run_bind, Result.andThen_ok, hb, run_sizeOf_of hs, Sem.run_pure, Option.map_some]
          congr 2
          split <;> rfl
      · cases mxc with
        | none => exact hmx.elim
        | some mv =>
          obtain rfl := inv_int hmx
          have hb := bounds3_sound (P := P) (w := w) (len := xs.length) (cap := cap) (k := k) h1 ⟨_, k2, rfl, rfl⟩ hlo hhi h3 (by omega)
          refine ⟨_, .slice (some (if h = l then ad else ad.add (l * sz))) (h - l) (h - l), ?_, cutT ad cap _ vs .full (.inr ⟨rfl, rfl⟩) hcap hmax (Nat.le_refl _) (by omega) hv hvs hcc _ (fun hlt => by rw [if_neg (by omega)]), hK⟩
          simp only [Instr.sliceAt, Instr.slice, run_underlying hu, Sem.run_bind, Result.andThen_ok, hb, run_sizeOf_of hs, Sem.run_pure, Option.map_some]
          congr 2
          split <;> rfl
  · rename_i b o n c
    obtain ⟨e, s, he, hs, l, h, h1, h2, h3, h4, rfl, h5, hK⟩ := hw
    have hu := elT_under he
    obtain ⟨ad, cap, rfl, hb, hcap, hmax, hphi, -, -⟩ := inv_bsl hx
    cases mxc with
    | some _ => exact hmx.elim
    | none =>
      have hbd := bounds2_sound (P := P) (w := w) (is := true) (len := n) (cap := cap) h1 h2 hlo hhi h3 (by omega)
      refine ⟨_, .slice (some (if cap = l then ad else ad.add (l * s))) (h - l) (cap - l), ?_, .bsl _ _ _ _ _ _ hb (by omega) (by omega) (fun g m hg => ?_) (fun hc => by cases hc) (fun _ hc => by cases hc), hK⟩
      · simp only [Instr.sliceAt, Instr.slice, run_underlying hu, Sem.run_bind, Result.andThen_ok, hbd, run_sizeOf_of hs, Sem.run_pure, Option.map_some]
        congr 2
        split <;> rfl
      · rcases h5 with h5 | rfl
        · rw [if_neg (by omega), hphi g m hg, Addr.add_lit]
        · rw [Nat.zero_mul, Nat.add_zero, Addr.add_zero', ite_self]; exact hphi g m hg
  · exact hw.elim

theorem evA_sound {t : Nat → AV} {a : Act} (ht : ∀ i, i < a.tmps.size → RV ρ (t i) (a.tmps.getD i undef)) {x : Operand} (hx : ∀ i, x = .tmp i → i < a.tmps.size) : RV ρ (evA t x) (a.eval x) := by
  cases x with
  | tmp i => exact ht i (hx i rfl)
  | const v =>
    simp only [evA, Act.eval]
    cases h : ofV v with
    | none => exact .junk _
    | some b => exact .pure _ _ (ofV_PV h)
  | global g => exact .junk _
  | func f => exact .pure _ _ (.func _ _ _ _ _ rfl rfl (fun i h => absurd h (Nat.not_lt_zero _)) (fun i h => absurd h (Nat.not_lt_zero _)))

/-- The operation's own run, as one value. -/
def runs (P : Program) (r : Result Next) (vc : Value) (w' : World) : Prop := r = .ok (.value vc) w' ∨ (r = .ok .skip w' ∧ vc = undef)

theorem op_sound {blk : Bool} {o : Oper} {t : Nat → AV} {a : Act} {K : AV → AH → Prop} (hw : opW P blk o.op (evA t) h K) (hR : RH ρ h w) (ht : ∀ i, i < a.tmps.size → RV ρ (t i) (a.tmps.getD i undef)) (hop : ∀ x ∈ o.op.operands, ∀ i, x = Operand.tmp i → i < a.tmps.size) :
    ∃ w' vc ρ' v h', runs P ((execOp a.eval o).run P w) vc w' ∧ ρ.Le ρ' ∧ RH ρ' h' w' ∧ RV ρ' v vc ∧ K v h' := by
  have ev : ∀ x ∈ o.op.operands, RV ρ (evA t x) (a.eval x) := fun x hx => evA_sound ht (hop x hx)
  have pure1 : ∀ {s : Sem Value} {v : AV} {vc : Value}, s.run P w = .ok vc w → RV ρ v vc → K v h → execOp a.eval o = (do pure (.value (← s))) → ∃ w' vc ρ' v h', runs P ((execOp a.eval o).run P w) vc w' ∧ ρ.Le ρ' ∧ RH ρ' h' w' ∧ RV ρ' v vc ∧ K v h' := by
    intro s v vc hr hv hK he
    exact ⟨w, vc, ρ, v, h, .inl (by rw [he]; simp only [Sem.run_bind, hr, Result.andThen_ok, Sem.run_pure]), .refl _, hR, hv, hK⟩
  obtain ⟨dst, op, type, pos, after, guard⟩ := o
  simp only at hw ev
  cases op <;> simp only [opW] at hw <;> first | exact hw.elim | skip
  case move x => exact ⟨w, _, ρ, _, h, .inl rfl, .refl _, hR, ev x (by simp [Op.operands]), hw⟩
  case assign x => exact ⟨w, _, ρ, _, h, .inl rfl, .refl _, hR, ev x (by simp [Op.operands]), hw⟩
  case pick c x y =>
    have hcv := ev c (by simp [Op.operands])
    unfold condW at hw
    split at hw
    rotate_left
    · exact hw.elim
    rename_i b hc
    obtain ⟨h1, h2⟩ := hw
    rw [hc] at hcv
    have hcc := inv_bool hcv
    cases b with
    | true => exact ⟨w, a.eval x, ρ, _, h, .inl (by simp [execOp, hcc, asBool]), .refl _, hR, ev x (by simp [Op.operands]), h1 rfl⟩
    | false => exact ⟨w, a.eval y, ρ, _, h, .inl (by simp [execOp, hcc, asBool]), .refl _, hR, ev y (by simp [Op.operands]), h2 rfl⟩
  case load ty x =>
    obtain ⟨vc, v, hr, hv, hK⟩ := load_sound hw hR (ev x (by simp [Op.operands]))
    exact pure1 hr hv hK rfl
  case store ty x y =>
    obtain ⟨w', h', hr, hR', hK⟩ := store_sound hw hR (ev x (by simp [Op.operands])) (ev y (by simp [Op.operands]))
    exact ⟨w', undef, ρ, .junk, h', .inr ⟨by simp only [execOp, Sem.run_bind, hr, Result.andThen_ok, Sem.run_pure], rfl⟩, .refl _, hR', .junk _, hK⟩
  case box ty x =>
    obtain ⟨hm, hK⟩ := hw
    obtain ⟨k1, k2, k3⟩ := (ev x (by simp [Op.operands])).cells hm
    obtain ⟨ρ', hle, hphi, hnb, hR'⟩ := hR.alloc (cellsA (evA t x)) (a.eval x).cells ty (by omega) (fun i hi => ⟨k2 i hi, k3 i (by omega)⟩)
    refine ⟨_, .pointer (some ⟨w.heap.size, 0, none⟩), ρ', _, _, .inl ?_, hle, hR', .ptr _ _ _ (by rw [hnb]; exact Nat.lt_succ_self _) (fun g n hg => by rw [hphi] at hg; rw [(Prod.mk.inj (Option.some.inj hg)).1]), hK⟩
    simp only [execOp, Instr.box, newVar, newRow, newObj, Sem.run_bind, Sem.run, Result.andThen_ok, Sem.run_pure, World.alloc_eq]
  case alloc ty =>
    obtain ⟨z, hz, hm, hK⟩ := hw
    unfold zrT at hz
    obtain ⟨i, hi, hz⟩ := Option.bind_eq_some_iff.1 hz
    obtain ⟨zv, hzz, hzo⟩ := Option.bind_eq_some_iff.1 hz
    have hzp : PV ρ.prot z zv := ofV_PV hzo
    obtain ⟨k1, k2, k3⟩ := hzp.cells hm
    obtain ⟨ρ', hle, hphi, hnb, hR'⟩ := hR.alloc (cellsA z) zv.cells ty (by omega) (fun i hi => ⟨.pure _ _ (k2 i hi), k3 i (by omega)⟩)
    refine ⟨_, .pointer (some ⟨w.heap.size, 0, none⟩), ρ', _, _, .inl ?_, hle, hR', .ptr _ _ _ (by rw [hnb]; exact Nat.lt_succ_self _) (fun g n hg => by rw [hphi] at hg; rw [(Prod.mk.inj (Option.some.inj hg)).1]), hK⟩
    have hzv : (zeroValue ty).run P w = .ok zv w := by simp [zeroValue, typeInfo, program, Sem.run, hi, hzz]
    simp only [execOp, Instr.alloc, newVar, newRow, newObj, Sem.run_bind, hzv, Sem.run, Result.andThen_ok, Sem.run_pure, World.alloc_eq]
  case build ty parts =>
    obtain ⟨za, pl, out, hb, hf, hK⟩ := hw
    obtain ⟨vs, hr, hv⟩ := build_sound (P := P) (w := w) (ρ := ρ) hb (parts := parts.toList.map fun p => (p.1, evA t p.2)) (partsc := parts.map fun (i, x) => (i, a.eval x)) (by simp) (fun i hi => by
      have hi' : i < parts.toList.length := by simpa using hi
      simp only [Array.toList_map, List.getD_eq_getElem?_getD, List.getElem?_map, List.getElem?_eq_getElem hi', Option.map_some, Option.getD_some, List.getElem_map, true_and]
      exact ev _ (by simp only [Op.operands]; exact List.mem_toArray.2 (List.mem_map.2 ⟨_, List.getElem_mem hi', rfl⟩))) hf
    exact pure1 hr hv hK rfl
  case buildSlice ty n parts =>
    obtain ⟨el, sz, he, hs, hz, h0, hn, ho, hbig, hw⟩ := hw
    have hpp : ∀ i (hi : i < (parts.toList.map fun p => (p.1, evA t p.2)).length), ((parts.map fun (i, x) => (i, a.eval x)).toList.getD i (0, undef)).1 = (parts.toList.map fun p => (p.1, evA t p.2))[i].1 ∧ RV ρ (parts.toList.map fun p => (p.1, evA t p.2))[i].2 ((parts.map fun (i, x) => (i, a.eval x)).toList.getD i (0, undef)).2 := fun i hi => by
      have hi' : i < parts.toList.length := by simpa using hi
      simp only [Array.toList_map, List.getD_eq_getElem?_getD, List.getElem?_map, List.getElem?_eq_getElem hi', Option.map_some, Option.getD_some, List.getElem_map, true_and]
      exact ev _ (by simp only [Op.operands]; exact List.mem_toArray.2 (List.mem_map.2 ⟨_, List.getElem_mem hi', rfl⟩))
    have hmm : (parts.toList.map fun p => (p.1, evA t p.2)).map (·.2) = parts.toList.map fun p => evA t p.2 := by simp [List.map_map, Function.comp_def]
    rcases hw with ⟨-, hel, hK⟩ | ⟨-, hel, hK⟩
    · obtain ⟨w', vc, ρ', hr, hle, hR', hv⟩ := lit_sound (P := P) (w := w) (ρ := ρ) he hs hz (parts := parts.toList.map fun p => (p.1, evA t p.2)) (partsc := parts.map fun (i, x) => (i, a.eval x)) (n := n) (by simpa using hn) (by simp) hpp ho (by rw [hmm]; exact hel) hbig h0 hR
      rw [hmm] at hv
      exact ⟨w', vc, ρ', _, h, .inl (by simp only [execOp, Sem.run_bind, hr, Result.andThen_ok, Sem.run_pure]), hle, hR', .pure _ _ hv, hK⟩
    · obtain ⟨w', vc, ρ', hr, hle, hR', hv⟩ := litM_sound (P := P) (w := w) (ρ := ρ) he hs hz (parts := parts.toList.map fun p => (p.1, evA t p.2)) (partsc := parts.map fun (i, x) => (i, a.eval x)) (n := n) (by simpa using hn) (by simp) hpp ho (by rw [hmm]; exact hel) hbig h0 hR
      rw [hmm] at hR'
      exact ⟨w', vc, ρ', _, _, .inl (by simp only [execOp, Sem.run_bind, hr, Result.andThen_ok, Sem.run_pure]), hle, hR', hv, hK⟩
  case nilCheck x =>
    have hx := ev x (by simp [Op.operands])
    unfold nilW at hw
    split at hw
    · rename_i b o he
      rw [he] at hx
      obtain ⟨ad, hp, hrest⟩ := inv_ptr hx
      exact ⟨w, a.eval x, ρ, _, h, .inl (by simp only [execOp, hp, Sem.run_pure]), .refl _, hR, hx, hw⟩
    · rename_i v he
      rw [he] at hx
      obtain ⟨ad, u, hp, hrest⟩ := inv_eptr hx
      exact ⟨w, a.eval x, ρ, _, h, .inl (by simp only [execOp, hp, Sem.run_pure]), .refl _, hR, hx, hw⟩
    · rename_i f x1 x2 he
      rw [he] at hx
      obtain ⟨vf, vb, hp, hrest⟩ := inv_func hx
      exact ⟨w, a.eval x, ρ, _, h, .inl (by simp only [execOp, hp, Sem.run_pure]), .refl _, hR, hx, hw⟩
    · exact hw.elim
  case binOp bop ty x y yt =>
    obtain ⟨vc, v, hr, hv, hK⟩ := bin_sound (P := P) (w := w) (xo := x) (yo := y) hw (ev x (by simp [Op.operands])) (ev y (by simp [Op.operands]))
    exact pure1 hr (.pure _ _ hv) hK rfl
  case unOp uop ty x =>
    obtain ⟨v, vc, hr, hv, hK⟩ := un_sound (P := P) (w := w) hw (ev x (by simp [Op.operands]))
    exact pure1 hr hv hK rfl
  case convert s d x =>
    obtain ⟨v, vc, hr, hv, hK⟩ := cv_sound (P := P) (w := w) hw (ev x (by simp [Op.operands]))
    exact pure1 hr hv hK rfl
  case makeFunc fn fs cs =>
    refine pure1 (s := Instr.makeFunc fn (fs.map a.eval) (cs.map a.eval)) (vc := .func fn (fs.map a.eval) (cs.map a.eval)) rfl (.func _ _ _ _ _ (by simp) (by simp) (fun i hi => ?_) (fun i hi => ?_)) hw rfl
    · have hi' : i < fs.size := by simpa using hi
      rw [List.getElem_map, Array.getD_eq_getD_getElem?, Array.getElem?_map, Array.getElem?_eq_getElem hi']
      exact ev _ (by simp only [Op.operands]; exact Array.mem_append_left _ (Array.getElem_mem hi'))
    · have hi' : i < cs.size := by simpa using hi
      rw [List.getElem_map, Array.getD_eq_getD_getElem?, Array.getElem?_map, Array.getElem?_eq_getElem hi']
      exact ev _ (by simp only [Op.operands]; exact Array.mem_append_right _ (Array.getElem_mem hi'))
  case makeInterface ty x => exact pure1 (run_makeInterface w ty (a.eval x) hw.1) (.iface _ _ _ (ev x (by simp [Op.operands]))) hw.2 rfl
  case makeSlice ty l c =>
    obtain ⟨el, sz, by_, z, kl, kc, n, he, hs, hb, hz, hm, hzl, h0, hl, hc, hn0, hn, hbig, hK⟩ := hw
    have hlv := ev l (by simp [Op.operands])
    have hcv := ev c (by simp [Op.operands])
    rw [hl] at hlv
    rw [hc] at hcv
    obtain ⟨w', vc, ρ', hr, hle, hR', hv⟩ := make_sound (P := P) (w := w) (ρ := ρ) (kl := kl) (kc := kc) he hs hb hz hm hzl h0 hn0 (by simp only [maxLen]; omega) hbig hR
    refine ⟨w', vc, ρ', _, _, .inl ?_, hle, hR', hv, hK⟩
    simp only [execOp, inv_int hlv, inv_int hcv, Sem.run_bind, hr, Result.andThen_ok, Sem.run_pure]
  case slice ty x lo hi mx =>
    have orv : ∀ (y : Option Operand), (∀ z, y = some z → z ∈ (Op.slice ty x lo hi mx).operands) → ORV ρ (y.map (evA t)) (y.map a.eval) := fun y hy => by
      cases y with
      | none => trivial
      | some z => exact ev z (hy z rfl)
    obtain ⟨v, vc, hr, hv, hK⟩ := cut_sound (P := P) (w := w) hw (ev x (by simp [Op.operands])) (orv lo (fun z hz => by subst hz; simp [Op.operands])) (orv hi (fun z hz => by subst hz; simp [Op.operands])) (orv mx (fun z hz => by subst hz; simp [Op.operands]))
    exact pure1 hr hv hK rfl
  case fieldAddr ty x f =>
    obtain ⟨v, vc, hr, hv, hK⟩ := fieldAddr_sound hw (ev x (by simp [Op.operands])) hR
    exact pure1 hr hv hK rfl
  case field ty x f =>
    obtain ⟨off, sz, ft, cs, hf, he, hw⟩ := hw
    have hx := ev x (by simp [Op.operands])
    rw [he] at hx
    obtain ⟨v, vc, hr, hv, hK⟩ := field_sound (w := w) hf hw hx
    exact pure1 hr hv hK rfl
  case indexAddr ty x i =>
    obtain ⟨v, vc, hr, hv, hK⟩ := idx_sound hw (ev x (by simp [Op.operands])) (ev i (by simp [Op.operands])) hR
    exact pure1 hr hv hK rfl
  case index ty x i =>
    obtain ⟨s, k, n, hs, hn, hk, h0, h1, hK⟩ := hw
    have hx := ev x (by simp [Op.operands])
    have hi := ev i (by simp [Op.operands])
    rw [hs] at hx
    rw [hn] at hi
    have hu := knT_str hk
    have hlt : n.toNat < s.size := by omega
    refine pure1 (s := Instr.index ty (a.eval x) (a.eval i)) (vc := .int .u8 ((s.data.toList.getD n.toNat 0).toNat : Int)) ?_ (.pure _ _ (.int _ _)) hK rfl
    have hg : s[n.toNat]? = some (s[n.toNat]'hlt) := getElem?_pos s n.toNat hlt
    have hd : s.data.toList.getD n.toNat 0 = s[n.toNat]'hlt := by
      have hlt' : n.toNat < s.data.toList.length := hlt
      rw [List.getD_eq_getElem?_getD, List.getElem?_eq_getElem hlt']
      rfl
    simp only [Instr.index, inv_str hx, inv_int hi, asIntOf, Sem.run_bind, Sem.run_pure, Result.andThen_ok, underlying, program, Sem.run, hu, if_pos h0, hg, hd]
  case extract x i =>
    obtain ⟨vs, he, hi, hK⟩ := hw
    have hx := ev x (by simp [Op.operands])
    rw [he] at hx
    obtain ⟨us, hu, hl, hv⟩ := inv_tup hx
    have hiu : i < us.size := by omega
    refine pure1 (s := Instr.extract (a.eval x) i) (vc := us.getD i undef) ?_ ?_ hK rfl
    · simp [Instr.extract, hu, Array.getElem?_eq_getElem hiu, Array.getD, hiu]
    · rw [List.getD_eq_getElem?_getD, List.getElem?_eq_getElem hi]
      exact hv i hi
  case call c =>
    split at hw
    · rename_i hcl
      obtain ⟨x, ty, ha, hty, hw⟩ := hw
      obtain ⟨callee, args, argTypes⟩ := c
      simp only at hcl ha hty
      subst hcl; subst ha; subst hty
      obtain ⟨v, vc, hr, hv, hK⟩ := len_sound (P := P) (w := w) (ty := type) hw (ev x (by simp [Op.operands, Call.operands]))
      refine ⟨w, vc, ρ, v, h, .inl ?_, .refl _, hR, hv, hK⟩
      simp [execOp, resolve, invoke, builtin, hr]
    · rename_i hcl
      obtain ⟨s, x, ty, ha, hty, hw⟩ := hw
      obtain ⟨callee, args, argTypes⟩ := c
      simp only at hcl ha hty
      subst hcl; subst ha; subst hty
      have hsv := ev s (by simp [Op.operands, Call.operands])
      have hxv := ev x (by simp [Op.operands, Call.operands])
      rcases hw with ⟨-, hw⟩ | ⟨-, hw⟩ | ⟨-, hw⟩ | hw
      rotate_left
      rotate_left
      · obtain ⟨e, sz, by_, z, he, hs, hs1, h0, hb, hz, hm, hzl, hw⟩ := hw
        split at hw
        · rename_i bx ox m cx0 hxe
          rw [hxe] at hxv
          obtain ⟨hm0, cx, hcx, hlx, hw⟩ := hw
          obtain ⟨ady, capy, us, hxe2, hS⟩ := src_blkS hR hxv hcx hlx
          have hyl : ((cx.drop ox).take (m * sz)).length = m * sz := by rw [List.length_take, List.length_drop]; omega
          have fin : ∀ {n : Nat} {xs : List AV} {h1 : AH}, xs.length = n * sz → (n = 0 ∧ xs = [] ∧ a.eval s = .slice none 0 0 ∧ h1 = h) ∨ (∃ b, h.f b = some xs ∧ h1 = h.rm b ∧ RV ρ (.bsl b 0 n (.grow sz)) (a.eval s)) → n + m ≤ 4294967296 → (n + m) * by_ ≤ 140737488355328 → K (.bsl h.n 0 (n + m) (.grow sz)) (h1.mk_ (xs ++ (cx.drop ox).take (m * sz))) →
              ∃ w' vc ρ' v h', runs P ((execOp a.eval { dst, op := .call { callee := .builtin .append, args := #[s, x], argTypes := #[ty, ty] }, type, pos, after, guard }).run P w) vc w' ∧ ρ.Le ρ' ∧ RH ρ' h' w' ∧ RV ρ' v vc ∧ K v h' := by
            intro n xs h1 hxl hsc h2 h3 hK
            obtain ⟨w', vc, ρ', hr, hle, hR', hv⟩ := app_blkS (P := P) (t := ty) (ty := type) he hs hb hz hm hzl h0 xs _ us hxl hyl hm0 hS (by simp only [maxLen]; omega) h3 hR hsc
            refine ⟨w', vc, ρ', _, _, .inl ?_, hle, hR', hv, hK⟩
            rw [← hxe2] at hr
            simp [execOp, resolve, invoke, builtin, hr]
          split at hw
          · rename_i hse
            rw [hse] at hsv
            obtain ⟨h1, h2, hK⟩ := hw
            exact fin (n := 0) (xs := []) (by simp) (.inl ⟨rfl, rfl, inv_nils hsv, rfl⟩) (by omega) (by simpa using h2) (by simpa using hK)
          · rename_i b o n c hse
            rw [hse] at hsv
            obtain ⟨rfl, rfl, cs, h1, hcl2, h2, h3, hK⟩ := hw
            exact fin hcl2 (.inr ⟨b, h1, rfl, hsv⟩) h2 h3 hK
          · exact hw.elim
        · exact hw.elim
      · obtain ⟨e, sz, he, hs, h1, h2, hK⟩ := hw
        have hx0 : ∃ b' c', a.eval x = .slice b' 0 c' := by
          unfold empB at h1
          split at h1
          · rename_i hxe
            rw [hxe] at hxv
            exact ⟨none, 0, inv_nils hxv⟩
          · rename_i sz' zs g hxe
            rw [hxe] at hxv
            have hz0 : zs = [] := by simpa using h1
            subst hz0
            rcases inv_tree hxv with ⟨-, h3, -⟩ | ⟨ad, cap, vs, h3, -⟩
            · exact ⟨none, 0, h3⟩
            · exact ⟨some ad, cap, h3⟩
          · rename_i b o n c hxe
            rw [hxe] at hxv
            have hn0 : n = 0 := by simpa using h1
            subst hn0
            obtain ⟨ad, cap, h3, -⟩ := inv_bsl hxv
            exact ⟨some ad, cap, h3⟩
          · cases h1
        have hs0 : ∃ b l c, a.eval s = .slice b l c ∧ l ≤ c := by
          unfold slB at h2
          split at h2
          · rename_i hxe
            rw [hxe] at hsv
            exact ⟨none, 0, 0, inv_nils hsv, Nat.le_refl _⟩
          · rename_i sz' zs g hxe
            rw [hxe] at hsv
            rcases inv_tree hsv with ⟨-, h3, -⟩ | ⟨ad, cap, vs, h3, h4, -⟩
            · exact ⟨none, 0, 0, h3, Nat.le_refl _⟩
            · exact ⟨some ad, _, cap, h3, h4⟩
          · rename_i b o n c hxe
            rw [hxe] at hsv
            obtain ⟨ad, cap, h3, -, h4, -⟩ := inv_bsl hsv
            exact ⟨some ad, _, cap, h3, h4⟩
          · cases h2
        obtain ⟨b', c', hx0⟩ := hx0
        obtain ⟨b, l, c, hs0, hlc⟩ := hs0
        have hr := app_emp (P := P) (w := w) (ty := type) he hs (b := b) (b' := b') (c' := c') hlc
        rw [← hx0, ← hs0] at hr
        refine ⟨w, a.eval s, ρ, _, h, .inl ?_, .refl _, hR, hsv, hK⟩
        simp [execOp, resolve, invoke, builtin, hr]
      rotate_left
      · obtain ⟨e, by_, z, ys, he, hs, hb, hz, hm, hzl, hsrc, hys, hw⟩ := hw
        obtain ⟨ady, capy, us, hxe, hS⟩ : ∃ ady capy us, a.eval x = .slice (some ady) ys.length capy ∧ Src ρ w ady ys us := by
          unfold srcW at hsrc
          split at hsrc
          · rename_i sz zs g hx
            obtain ⟨rfl, h1, rfl⟩ := hsrc
            rw [hx] at hxv
            exact src_tree hR hxv h1 hys
          · rename_i b o n c hx
            obtain ⟨cs, h1, h2, rfl⟩ := hsrc
            rw [hx] at hxv
            obtain ⟨ad, cap, us, k1, k2⟩ := src_blk hR hxv h1 h2
            exact ⟨ad, cap, us, by rw [k1]; simp; omega, k2⟩
          · exact hsrc.elim
        have fin : ∀ {xs : List AV} {h1 : AH}, (xs = [] ∧ a.eval s = .slice none 0 0 ∧ h1 = h) ∨ (∃ b, h.f b = some xs ∧ h1 = h.rm b ∧ RV ρ (.bsl b 0 xs.length (.grow 1)) (a.eval s)) → xs.length + ys.length ≤ 4294967296 → (xs.length + ys.length) * by_ ≤ 140737488355328 → K (.bsl h.n 0 (xs.length + ys.length) (.grow 1)) (h1.mk_ (xs ++ ys)) →
            ∃ w' vc ρ' v h', runs P ((execOp a.eval { dst, op := .call { callee := .builtin .append, args := #[s, x], argTypes := #[ty, ty] }, type, pos, after, guard }).run P w) vc w' ∧ ρ.Le ρ' ∧ RH ρ' h' w' ∧ RV ρ' v vc ∧ K v h' := by
          intro xs h1 hsc h2 h3 hK
          obtain ⟨w', vc, ρ', hr, hle, hR', hv⟩ := app_blk (P := P) (t := ty) (ty := type) he hs hb hz hm hzl xs ys us hys hS (by simp only [maxLen]; omega) h3 hR hsc
          refine ⟨w', vc, ρ', _, _, .inl ?_, hle, hR', hv, hK⟩
          rw [← hxe] at hr
          simp [execOp, resolve, invoke, builtin, hr]
        split at hw
        · rename_i hse
          rw [hse] at hsv
          obtain ⟨h1, h2, hK⟩ := hw
          exact fin (xs := []) (.inl ⟨rfl, inv_nils hsv, rfl⟩) (by simp only [List.length_nil]; omega) (by simpa using h2) (by simpa using hK)
        · rename_i b o n c hse
          rw [hse] at hsv
          obtain ⟨rfl, rfl, cs, h1, rfl, h2, h3, hK⟩ := hw
          exact fin (.inr ⟨b, h1, rfl, hsv⟩) h2 h3 hK
        · exact hw.elim
      obtain ⟨e, sz, by_, z, he, hs, hb, hz, hm, hzl, h0, hw⟩ := hw
      have fin : ∀ {n : Nat} {zs : List AV} {κ : Option Nat} {K' : Prop}, AppRes P ρ h w ((Builtin.append_ #[ty, ty] type #[a.eval s, a.eval x]).run P w) sz n zs κ → K (.tree sz zs (.own (κ.getD h.k))) (match κ with | none => h.begun n | some κ => h.grown κ n) → ∃ w' vc ρ' v h', runs P ((execOp a.eval { dst, op := .call { callee := .builtin .append, args := #[s, x], argTypes := #[ty, ty] }, type, pos, after, guard }).run P w) vc w' ∧ ρ.Le ρ' ∧ RH ρ' h' w' ∧ RV ρ' v vc ∧ K v h' := by
        intro n zs κ K' hA hK
        obtain ⟨w', vc, ρ', hr, hle, hR', hv⟩ := hA.out
        refine ⟨w', vc, ρ', _, _, .inl ?_, hle, hR', hv, hK⟩
        simp [execOp, resolve, invoke, builtin, hr]
      split at hw
      · rename_i sz' ys g2 hxe
        obtain ⟨rfl, hys, hw⟩ := hw
        rw [hxe] at hxv
        split at hw
        · rename_i hse
          rw [hse] at hsv
          obtain ⟨h1, h2, hK⟩ := hw
          exact fin (K' := True) (app_tree (ty := type) he hs hb hz hm hzl h0 [] ys hys hxv (by simp only [maxLen, List.length_nil]; omega) (by simpa using h2) hR (κ := none) (.inl ⟨rfl, rfl, inv_nils hsv⟩)) (by simpa using hK)
        · rename_i sz'' xs hse
          rw [hse] at hsv
          obtain ⟨rfl, h1, h2, hK⟩ := hw
          exact fin (K' := True) (app_tree (ty := type) he hs hb hz hm hzl h0 xs ys hys hxv (by simp only [maxLen]; omega) h2 hR (κ := none) (.inr (.inl ⟨rfl, hsv⟩))) hK
        · rename_i sz'' xs κ hse
          rw [hse] at hsv
          obtain ⟨rfl, hgr, h1, h2, hK⟩ := hw
          exact fin (K' := True) (app_tree (ty := type) he hs hb hz hm hzl h0 xs ys hys hxv (by simp only [maxLen]; omega) h2 hR (κ := some κ) (.inr (.inr ⟨κ, rfl, hgr, hsv⟩))) hK
        · exact hw.elim
      · exact hw.elim
    · exact hw.elim
end
end Go.Eng
