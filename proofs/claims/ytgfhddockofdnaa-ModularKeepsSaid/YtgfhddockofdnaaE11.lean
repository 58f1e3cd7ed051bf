/- An engine, part 11: what a function has made for itself is forgotten; blocks that are never written again. Over any program. -/
import Derived.Test.YtgfhddockofdnaaE10
set_option linter.unusedVariables false
set_option linter.unusedSimpArgs false
namespace Go.Eng
open Go.RowKit (Below)

/-! ### what lies outside is forgotten -/
mutual
def inB (n k : Nat) : AV → Prop
  | .ptr b _ => b < n
  | .bsl b _ _ _ => b < n
  | .tree _ _ (.own κ) => κ < k
  | .tree _ _ .ro => True
  | .tree _ _ .full => True
  | .iface _ v => inB n k v
  | .func _ a b => inBL n k a ∧ inBL n k b
  | .agg cs => inBL n k cs
  | .tup cs => inBL n k cs
  | .int _ _ => True
  | .bool _ => True
  | .str _ => True
  | .nilp => True
  | .eptr _ => True
  | .nils => True
  | .nilf => True
  | .nili => True
  | .junk => True
def inBL (n k : Nat) : List AV → Prop
  | [] => True
  | v :: vs => inB n k v ∧ inBL n k vs
end
theorem inBL_get {n k : Nat} : ∀ {l : List AV}, inBL n k l → ∀ i (h : i < l.length), inB n k l[i]
  | [], _, i, h => absurd h (Nat.not_lt_zero _)
  | v :: vs, hp, 0, h => by rw [inBL] at hp; exact hp.1
  | v :: vs, hp, i + 1, h => by rw [inBL] at hp; exact inBL_get hp.2 i (by simpa using h)
theorem inBL_of {n k : Nat} : ∀ {l : List AV}, (∀ i (h : i < l.length), inB n k l[i]) → inBL n k l
  | [], _ => by simp only [inBL]
  | v :: vs, hp => by
    rw [inBL]
    exact ⟨hp 0 (by simp), inBL_of fun i hi => hp (i + 1) (by simpa using hi)⟩

theorem PV.inB_ {pr : Addr → Option Value} {v : AV} {vc : Value} {n k : Nat} (h : PV pr v vc) : inB n k v := by
  induction h with
  | none_ sz g hg => rcases hg with rfl | rfl <;> simp only [inB]
  | tree sz xs g ad cap vs hcap hmax hg hv hs hc _ => rcases hg with rfl | ⟨rfl, _⟩ <;> simp only [inB]
  | iface t v vc _ ih => simp only [inB]; exact ih
  | func fn fst cap vf vc hf hc _ _ i1 i2 => simp only [inB]; exact ⟨inBL_of i1, inBL_of i2⟩
  | agg cs vs hl _ h1 ih => simp only [inB]; exact inBL_of ih
  | tup cs vs hl _ ih => simp only [inB]; exact inBL_of ih
  | _ => simp only [inB]

section
variable {P : Program} {ρ : Ip} {h : AH} {w : World}

theorem RV.inB_ (hR : RH ρ h w) {v : AV} {vc : Value} (hv : RV ρ v vc) : inB h.n h.k v := by
  induction hv with
  | pure v vc h => exact h.inB_
  | own sz xs κ ad cap g n c hg hn ht hl => simp only [inB]; exact hR.gnone κ _ hg
  | ptr b o ad hb h => simp only [inB]; rw [← hR.nb]; exact hb
  | bsl b o len c ad cap hb hcap hmax h hc hg => simp only [inB]; rw [← hR.nb]; exact hb
  | iface t v vc _ ih => simp only [inB]; exact ih
  | func fn fst cap vf vc hf hc _ _ i1 i2 => simp only [inB]; exact ⟨inBL_of i1, inBL_of i2⟩
  | agg cs vs hl _ h1 ih => simp only [inB]; exact inBL_of ih
  | tup cs vs hl _ ih => simp only [inB]; exact inBL_of ih
  | junk vc => simp only [inB]

/-- Only the first blocks and rows. -/
def Ip.cut (ρ : Ip) (n k : Nat) : Ip := { ρ with phi := fun b => if b < n then ρ.phi b else none, nb := n, gam := fun κ => if κ < k then ρ.gam κ else none, ng := k }
theorem cut_phi {n k b : Nat} {x : Nat × Nat} (h : (ρ.cut n k).phi b = some x) : b < n ∧ ρ.phi b = some x := by
  have h' : (if b < n then ρ.phi b else none) = some x := h
  split at h'
  · rename_i hb; exact ⟨hb, h'⟩
  · cases h'
theorem cut_gam {n k κ : Nat} {x : Nat × Nat × Nat × Nat} (h : (ρ.cut n k).gam κ = some x) : κ < k ∧ ρ.gam κ = some x := by
  have h' : (if κ < k then ρ.gam κ else none) = some x := h
  split at h'
  · rename_i hb; exact ⟨hb, h'⟩
  · cases h'

theorem RV.cut {n k : Nat} {v : AV} {vc : Value} (hv : RV ρ v vc) : inB n k v → RV (ρ.cut n k) v vc := by
  induction hv with
  | pure v vc h => exact fun _ => .pure _ _ h
  | own sz xs κ ad cap g m c hg hn ht hl =>
    intro hb
    simp only [inB] at hb
    exact .own sz xs κ ad cap g m c (by show (if κ < k then ρ.gam κ else none) = _; rw [if_pos hb]; exact hg) hn ht hl
  | ptr b o ad hb h =>
    intro hb'
    simp only [inB] at hb'
    exact .ptr b o ad hb' fun g m hx => h g m (cut_phi hx).2
  | bsl b o len c ad cap hb hcap hmax h hc hg =>
    intro hb'
    simp only [inB] at hb'
    exact .bsl b o len c ad cap hb' hcap hmax (fun g m hx => h g m (cut_phi hx).2) hc fun sz e => ⟨(hg sz e).1, fun g m hx => (hg sz e).2 g m (cut_phi hx).2⟩
  | iface t v vc _ ih => intro hb; simp only [inB] at hb; exact .iface t v vc (ih hb)
  | func fn fst cap vf vc hf hc _ _ i1 i2 =>
    intro hb
    simp only [inB] at hb
    exact .func fn fst cap vf vc hf hc (fun i hi => i1 i hi (inBL_get hb.1 i hi)) (fun i hi => i2 i hi (inBL_get hb.2 i hi))
  | agg cs vs hl _ h1 ih => intro hb; simp only [inB] at hb; exact .agg cs vs hl (fun i hi => ih i hi (inBL_get hb i hi)) h1
  | tup cs vs hl _ ih => intro hb; simp only [inB] at hb; exact .tup cs vs hl (fun i hi => ih i hi (inBL_get hb i hi))
  | junk vc => intro _; exact .junk vc

/-- The memory holds what it held; it may hold more. -/
structure Ext (h h' : AH) : Prop where
  n : h.n ≤ h'.n
  k : h.k ≤ h'.k
  f : ∀ b, b < h.n → h'.f b = h.f b
  gr : ∀ κ, κ < h.k → h'.gr κ = h.gr κ
theorem Ext.refl (h : AH) : Ext h h := ⟨Nat.le_refl _, Nat.le_refl _, fun _ _ => rfl, fun _ _ => rfl⟩
theorem Ext.trans {a b c : AH} (h : Ext a b) (k : Ext b c) : Ext a c :=
  ⟨Nat.le_trans h.n k.n, Nat.le_trans h.k k.k, fun x hx => (k.f x (Nat.lt_of_lt_of_le hx h.n)).trans (h.f x hx), fun x hx => (k.gr x (Nat.lt_of_lt_of_le hx h.k)).trans (h.gr x hx)⟩

theorem RH.cut {ρ' : Ip} {h' : AH} {w' : World} (hR : RH ρ h w) (hle : ρ.Le ρ') (hR' : RH ρ' h' w') (he : Ext h h') : RH (ρ'.cut h.n h.k) h w' ∧ ρ.Le (ρ'.cut h.n h.k) := by
  refine ⟨⟨⟨hR'.below.os, hR'.below.tape, hR'.below.output, hR'.below.size, hR'.below.block⟩, hR'.prot, rfl, rfl, ?_, ?_, ?_, ?_, ?_, ?_⟩, ?_⟩
  · intro b cs hb
    obtain ⟨h1, g0, arr0, e0, k2, k3, k4, k5⟩ := hR.blk b cs hb
    obtain ⟨-, g, arr, e, q2, q3, q4, q5⟩ := hR'.blk b cs (by rw [he.f b h1]; exact hb)
    refine ⟨h1, g, arr, e, by show (if b < h.n then _ else _) = _; rw [if_pos h1]; exact q2, q3, q4, fun i hi => ⟨(q5 i hi).1.cut ((k5 i hi).1.inB_ hR), (q5 i hi).2⟩⟩
  · intro b x hx
    obtain ⟨h1, h2⟩ := cut_phi hx
    obtain ⟨cs, h3⟩ := hR'.phi b x h2
    exact ⟨cs, by rw [← he.f b h1]; exact h3⟩
  · exact fun b g n hx => hR'.fresh b g n (cut_phi hx).2
  · exact fun b b' g n n' hx hx' => hR'.inj b b' g n n' (cut_phi hx).2 (cut_phi hx').2
  · intro κ hκ
    obtain ⟨g', c, s, arr', e', k1, k2, k3, k4, k5, k6, k7, k8, k9⟩ := hR'.gam κ (Nat.lt_of_lt_of_le hκ he.k)
    have hg := he.gr κ hκ
    rw [hg] at k1 k4 k7
    exact ⟨g', c, s, arr', e', by show (if κ < h.k then _ else _) = _; rw [if_pos hκ]; exact k1, k2, k3, k4, k5, k6, k7, fun b n hx => k8 b n (cut_phi hx).2, fun κ' n c' s' hκ' hx => k9 κ' n c' s' (Nat.lt_of_lt_of_le hκ' he.k) (cut_gam hx).2⟩
  · exact fun κ x hx => (cut_gam hx).1
  · refine ⟨hle.w0, hle.prot, fun κ g n c s hx => ?_, by rw [hR.nb]; exact Nat.le_refl _, fun b x hb hx => hle.phi b x hb (cut_phi hx).2⟩
    obtain ⟨g', n', c', h1, h2⟩ := hle.gam κ g n c s hx
    exact ⟨g', n', c', by show (if κ < h.k then _ else _) = _; rw [if_pos (hR.gnone κ _ hx)]; exact h1, h2⟩

/-- A function whose outcome leads to nothing that is written: the memory stays. -/
theorem ACalls.stays {f : FuncId} {args : List AV} {R : AV → Prop} (hc : ACalls P f args h (fun v h' => R v ∧ pur v = true ∧ Ext h h')) : ACalls P f args h (fun v h' => (∃ u, R u ∧ v = roA u) ∧ h' = h) := fun ρ w argc hR hL =>
  Calls.mono (hc ρ w argc hR hL) fun e w' he => by
    cases e with
    | returned vc =>
      obtain ⟨ρ', v, h', h1, h2, h3, h4, h5, h6⟩ := he
      obtain ⟨k1, k2⟩ := hR.cut h1 h2 h6
      exact ⟨_, roA v, h, k2, k1, .pure _ _ (show PV ρ'.prot _ _ from pure_RV h3 h5), ⟨v, h4, rfl⟩, rfl⟩
    | panicked c => exact he
    | outgrown => exact he

/-! ### blocks that are never written again -/
/-- More is known of what a block holds. -/
theorem RH.up (hR : RH ρ h w) {b : Nat} {cs cs' : List AV} (hb : h.f b = some cs) (hl : cs'.length ≤ cs.length) (hv : ∀ i (hi : i < cs'.length) vc, RV ρ (cs[i]'(by omega)) vc → RV ρ cs'[i] vc) : RH ρ (h.put b cs') w := by
  refine ⟨hR.below, hR.prot, hR.nb, hR.ng, ?_, ?_, hR.fresh, hR.inj, hR.gam, hR.gnone⟩
  · intro b' cs2 hb'
    by_cases hbb : b' = b
    · subst hbb
      have : cs2 = cs' := by
        have : upd h.f b' (some cs') b' = some cs2 := hb'
        rw [upd_same] at this; exact (Option.some.inj this).symm
      subst this
      obtain ⟨h1, g, arr, e, k2, k3, k4, k5⟩ := hR.blk b' cs hb
      exact ⟨h1, g, arr, e, k2, k3, by omega, fun i hi => ⟨hv i hi _ (k5 i (by omega)).1, (k5 i (by omega)).2⟩⟩
    · exact hR.blk b' cs2 ((upd_ne _ _ hbb).symm.trans hb')
  · intro b' x hx
    obtain ⟨cs2, h'⟩ := hR.phi b' x hx
    by_cases hbb : b' = b
    · exact ⟨cs', by rw [hbb]; exact upd_same _ _ _⟩
    · exact ⟨cs2, (upd_ne _ _ hbb).trans h'⟩

/-- A block is never written again: a slice of it is a row that stays. -/
theorem RH.freeze (hR : RH ρ h w) {b : Nat} {cs : List AV} (hb : h.f b = some cs) (hp : allB pur cs = true) (ho : allB oneA cs = true) :
    ∃ ρ', ρ.Le ρ' ∧ RH ρ' (h.rm b) w ∧ ∀ n c vc, n ≤ cs.length → RV ρ (.bsl b 0 n c) vc → PV ρ'.prot (.tree 1 ((roL cs).take n) .ro) vc := by
  obtain ⟨hbn, g, arr, e, hg, hh, hl, hc⟩ := hR.blk b cs hb
  obtain ⟨hw0, hgs, hgp⟩ := hR.fresh b g _ hg
  let ρ' : Ip := { ρ with prot := fun a => if a.block = g then (if a.spot = none ∧ a.off < cs.length then arr[a.off]? else none) else ρ.prot a, phi := upd ρ.phi b none }
  have back : ∀ b' x, ρ'.phi b' = some x → b' ≠ b ∧ ρ.phi b' = some x := fun b' x hx => by
    by_cases hbb : b' = b
    · subst hbb
      have : upd ρ.phi b' none b' = some x := hx
      rw [upd_same] at this; cases this
    · exact ⟨hbb, (upd_ne _ _ hbb).symm.trans hx⟩
  have hpn : ∀ a, a.block ≠ g → ρ'.prot a = ρ.prot a := fun a ha => if_neg ha
  have hle : ρ.Le ρ' := ⟨rfl, fun a u x => (hpn a (fun he => by rw [hgp a he] at x; cases x)).trans x, fun κ g n c s x => ⟨g, n, c, x, Nat.le_refl _, fun _ => ⟨rfl, rfl⟩⟩, Nat.le_refl _, fun b' x _ hx => (back b' x hx).2⟩
  refine ⟨ρ', hle, ⟨hR.below, ?_, hR.nb, hR.ng, ?_, ?_, ?_, ?_, ?_, hR.gnone⟩, ?_⟩
  · intro a u hx
    by_cases ha : a.block = g
    · have hx' : (if a.spot = none ∧ a.off < cs.length then arr[a.off]? else none) = some u := (if_pos ha).symm.trans hx
      split at hx'
      · rename_i hs
        obtain ⟨ab, ao, asp⟩ := a
        obtain ⟨rfl, hlt⟩ := hs
        simp only at ha hlt hx'
        subst ha
        rw [cell_of_row w ab ao arr e (0, 0) hh]
        refine ⟨hx', ?_⟩
        have := (hc ao hlt).2
        rw [Array.getD_eq_getD_getElem?, hx'] at this
        exact this
      · cases hx'
    · exact hR.prot a u ((hpn a ha).symm.trans hx)
  · intro b' cs' hb'
    by_cases hbb : b' = b
    · subst hbb
      have : upd h.f b' none b' = some cs' := hb'
      rw [upd_same] at this; cases this
    · obtain ⟨k1, g', arr', e', k2, k3, k4, k5⟩ := hR.blk b' cs' ((upd_ne _ _ hbb).symm.trans hb')
      exact ⟨k1, g', arr', e', (upd_ne _ _ hbb).trans k2, k3, k4, fun i hi => ⟨(k5 i hi).1.mono hle, (k5 i hi).2⟩⟩
  · intro b' x hx
    obtain ⟨hbb, hx'⟩ := back b' x hx
    obtain ⟨cs', h'⟩ := hR.phi b' x hx'
    exact ⟨cs', (upd_ne _ _ hbb).trans h'⟩
  · intro b' g' n hx
    obtain ⟨hbb, hx'⟩ := back b' _ hx
    obtain ⟨k1, k2, k3⟩ := hR.fresh b' g' n hx'
    have hgg : g' ≠ g := fun he => hbb (hR.inj b' b g' _ _ hx' (by rw [he]; exact hg))
    exact ⟨k1, k2, fun a ha => (hpn a (by omega)).trans (k3 a ha)⟩
  · exact fun b1 b2 g n n' hx hx' => hR.inj b1 b2 g n n' (back b1 _ hx).2 (back b2 _ hx').2
  · intro κ hκ
    obtain ⟨g', c, s, arr', e', k1, k2, k3, k4, k5, k6, k7, k8, k9⟩ := hR.gam κ hκ
    have hgg : g' ≠ g := fun he => k8 b arr.size (by rw [he]; exact hg)
    exact ⟨g', c, s, arr', e', k1, k2, k3, k4, k5, k6, fun a ha hof => (hpn a (by omega)).trans (k7 a ha hof), fun b' n hx => k8 b' n (back b' _ hx).2, k9⟩
  · intro n c vc hn hv
    obtain ⟨ad, cap, rfl, -, hcap, hmax, hphi, -, -⟩ := inv_bsl hv
    have had := hphi g _ hg
    subst had
    have hlen : ((roL cs).take n).length = n := by rw [List.length_take, roL_length]; omega
    have := PV.tree (pr := ρ'.prot) 1 ((roL cs).take n) .ro ⟨g, 0, none⟩ cap (fun i => arr.getD i undef) (by rw [hlen]; exact hcap) hmax (.inl rfl) (fun i hi => by
      rw [hlen] at hi
      rw [List.getElem_take, roL_get]
      have hi' : i < cs.length := by omega
      exact (pure_RV (hc i hi').1 (allB_get hp i hi')).mono hle.prot) (fun i hi => by
      rw [hlen] at hi
      have hi' : i < cs.length := by omega
      rw [((hc i hi').1.one (allB_get ho i hi')).2]; rfl) (fun i j hi hj => by
      rw [hlen] at hi
      have hi' : i < cs.length := by omega
      have j0 : j = 0 := by omega
      subst j0
      rw [show i * 1 + 0 = i from by omega, Addr.add_lit, Nat.zero_add]
      show (if g = g then (if (none : Option Nat) = none ∧ i < cs.length then arr[i]? else none) else _) = _
      rw [if_pos rfl, if_pos ⟨rfl, by omega⟩, ((hc i hi').1.one (allB_get ho i hi')).2]
      have : i < arr.size := by omega
      simp [Array.getD, this])
    rw [hlen] at this
    exact this

/-- More is known of what a block held before. -/
theorem RH.up_old {ρ' : Ip} {h' : AH} (hR : RH ρ h w) (hle : ρ.Le ρ') (hR' : RH ρ' h' w) {b : Nat} {cs cs1 cs' : List AV} (hb : h.f b = some cs) (hb' : h'.f b = some cs1) (hl : cs'.length ≤ cs.length) (hv : ∀ i (hi : i < cs'.length) vc, RV ρ (cs[i]'(by omega)) vc → RV ρ' cs'[i] vc) : RH ρ' (h'.put b cs') w := by
  refine ⟨hR'.below, hR'.prot, hR'.nb, hR'.ng, ?_, ?_, hR'.fresh, hR'.inj, hR'.gam, hR'.gnone⟩
  · intro b' cs2 hb2
    by_cases hbb : b' = b
    · subst hbb
      have : cs2 = cs' := by
        have : upd h'.f b' (some cs') b' = some cs2 := hb2
        rw [upd_same] at this; exact (Option.some.inj this).symm
      subst this
      obtain ⟨h1, g, arr, e, k2, k3, k4, k5⟩ := hR.blk b' cs hb
      obtain ⟨q1, g', arr', e', q2, q3, q4, q5⟩ := hR'.blk b' cs1 hb'
      have hp := hle.phi b' _ (by rw [hR.nb]; exact h1) q2
      rw [k2] at hp
      simp only [Option.some.injEq, Prod.mk.injEq] at hp
      obtain ⟨rfl, -⟩ := hp
      rw [k3] at q3
      injection q3 with q3
      injection q3 with q3a q3b q3c
      subst q3a
      exact ⟨q1, g, arr, e, q2, k3, by omega, fun i hi => ⟨hv i hi _ (k5 i (by omega)).1, (k5 i (by omega)).2⟩⟩
    · exact hR'.blk b' cs2 ((upd_ne _ _ hbb).symm.trans hb2)
  · intro b' x hx
    obtain ⟨cs2, h2⟩ := hR'.phi b' x hx
    by_cases hbb : b' = b
    · exact ⟨cs', by rw [hbb]; exact upd_same _ _ _⟩
    · exact ⟨cs2, (upd_ne _ _ hbb).trans h2⟩
end
end Go.Eng
