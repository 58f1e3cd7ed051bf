/- An engine, part 5b: append to a slice whose elements may be written. Over any program. -/
import Derived.Test.YtgfhddockofdnaaE5
set_option linter.unusedVariables false
set_option linter.unusedSimpArgs false
namespace Go.Eng
open Go.RowKit (Below)
section
variable {P : Program} {ρ : Ip} {h : AH} {w : World}

/-- A whole block is written anew. -/
theorem RH.setRow (hR : RH ρ h w) {b : Nat} {cs : List AV} (hb : h.f b = some cs) {g n : Nat} (hg : ρ.phi b = some (g, n)) (arr' : Array Value) (hsz : arr'.size = n) {cs' : List AV} (hl : cs'.length ≤ arr'.size)
    (hv : ∀ i (hi : i < cs'.length), RV ρ cs'[i] (arr'.getD i undef) ∧ (arr'.getD i undef).oneCell' = true) : RH ρ (h.put b cs') (w.setRow g arr') := by
  obtain ⟨hbn, g1, arr, e, hg1, hh, hl1, hc⟩ := hR.blk b cs hb
  rw [hg] at hg1
  simp only [Option.some.injEq, Prod.mk.injEq] at hg1
  obtain ⟨rfl, rfl⟩ := hg1
  obtain ⟨hw0, hgs, hgp⟩ := hR.fresh b g _ hg
  have hold : ∀ k, k ≠ g → (w.setRow g arr').heap[k]? = w.heap[k]? := fun k hk => setRow_other w g k arr' hk
  have hnew : (w.setRow g arr').heap[g]? = some (.cells arr' e (0, 0)) := setRow_heap w g arr arr' e (0, 0) hh
  refine ⟨⟨hR.below.os, hR.below.tape, hR.below.output, by simpa using hR.below.size, fun k hk => (hold k (by have hk' : k < ρ.w0.heap.size := hk; omega)).trans (hR.below.block k hk)⟩, fun a x hp => ?_, hR.nb, hR.ng, ?_, ?_, ?_, hR.inj, ?_, hR.gnone⟩
  · have : a.block ≠ g := fun he => by rw [hgp a he] at hp; cases hp
    rw [World.cell?_of_block (hold a.block this)]
    exact hR.prot a x hp
  · intro b' cs2 hb'
    by_cases hbb : b' = b
    · subst hbb
      have : cs2 = cs' := by
        have : upd h.f b' (some cs') b' = some cs2 := hb'
        rw [upd_same] at this; exact (Option.some.inj this).symm
      subst this
      exact ⟨hbn, g, arr', e, by rw [hsz]; exact hg, hnew, hl, hv⟩
    · have hb2 : h.f b' = some cs2 := (upd_ne _ _ hbb).symm.trans hb'
      obtain ⟨k1, g', arr2, e', k2, k3, k4, k5⟩ := hR.blk b' cs2 hb2
      have hgg : g' ≠ g := fun he => hbb (hR.inj b' b g _ _ (by rw [← he]; exact k2) hg)
      exact ⟨k1, g', arr2, e', k2, (hold g' hgg).trans k3, k4, k5⟩
  · intro b' x hx
    obtain ⟨cs2, h'⟩ := hR.phi b' x hx
    by_cases hbb : b' = b
    · exact ⟨cs', by rw [hbb]; exact upd_same _ _ _⟩
    · exact ⟨cs2, (upd_ne _ _ hbb).trans h'⟩
  · intro b' g' n hx
    obtain ⟨k1, k2, k3⟩ := hR.fresh b' g' n hx
    exact ⟨k1, by simpa using k2, k3⟩
  · intro κ hκ
    obtain ⟨g', c, s, arr2, e', k1, k2, k3, k4, k5, k6, k7, k8, k9⟩ := hR.gam κ hκ
    have hgg : g' ≠ g := fun he => k8 b arr.size (by rw [he]; exact hg)
    exact ⟨g', c, s, arr2, e', k1, (hold g' hgg).trans k2, k3, k4, k5, k6, k7, k8, k9⟩

/-- A block gets a new name; the old one means nothing any more. -/
theorem RH.rename (hR : RH ρ h w) {b : Nat} {cs : List AV} (hb : h.f b = some cs) {x : Nat × Nat} (hg : ρ.phi b = some x) :
    ∃ ρ', ρ.Le ρ' ∧ ρ'.phi h.n = some x ∧ ρ'.nb = h.n + 1 ∧ RH ρ' ((h.rm b).mk_ cs) w := by
  have hbn := (hR.blk b cs hb).1
  let ρ' : Ip := { ρ with phi := upd (upd ρ.phi b none) h.n (some x), nb := h.n + 1 }
  have back : ∀ b' y, ρ'.phi b' = some y → (b' = h.n ∧ y = x) ∨ (b' ≠ h.n ∧ b' ≠ b ∧ ρ.phi b' = some y) := fun b' y hy => by
    by_cases h1 : b' = h.n
    · subst h1
      have : some x = some y := (upd_same _ _ _).symm.trans hy
      exact .inl ⟨rfl, (Option.some.inj this).symm⟩
    · have hy' : upd ρ.phi b none b' = some y := (upd_ne _ _ h1).symm.trans hy
      by_cases h2 : b' = b
      · rw [h2, upd_same] at hy'; cases hy'
      · exact .inr ⟨h1, h2, (upd_ne _ _ h2).symm.trans hy'⟩
  have hle : ρ.Le ρ' := ⟨rfl, fun _ _ x => x, fun κ g n c s x => ⟨g, n, c, x, Nat.le_refl _, fun _ => ⟨rfl, rfl⟩⟩, by show ρ.nb ≤ h.n + 1; rw [hR.nb]; omega, fun b' y hb' hy => by
    rcases back b' y hy with ⟨h1, -⟩ | ⟨-, -, h3⟩
    · rw [hR.nb] at hb'; omega
    · exact h3⟩
  have src : ∀ b' y, ρ'.phi b' = some y → ∃ b0, ρ.phi b0 = some y ∧ (b' = h.n → b0 = b) ∧ (b' ≠ h.n → b0 = b' ∧ b' ≠ b) := fun b' y hy => by
    rcases back b' y hy with ⟨h1, h2⟩ | ⟨h1, h2, h3⟩
    · exact ⟨b, by rw [h2]; exact hg, fun _ => rfl, fun h => absurd h1 h⟩
    · exact ⟨b', h3, fun h => absurd h h1, fun _ => ⟨rfl, h2⟩⟩
  have newf : ∀ b' cs', ((h.rm b).mk_ cs).f b' = some cs' → (b' = h.n ∧ cs' = cs) ∨ (b' ≠ h.n ∧ b' ≠ b ∧ h.f b' = some cs') := fun b' cs' hb' => by
    by_cases h1 : b' = h.n
    · subst h1
      have : some cs = some cs' := (upd_same _ _ _).symm.trans hb'
      exact .inl ⟨rfl, (Option.some.inj this).symm⟩
    · have hy' : upd h.f b none b' = some cs' := (upd_ne _ _ h1).symm.trans hb'
      by_cases h2 : b' = b
      · rw [h2, upd_same] at hy'; cases hy'
      · exact .inr ⟨h1, h2, (upd_ne _ _ h2).symm.trans hy'⟩
  refine ⟨ρ', hle, upd_same _ _ _, rfl, ⟨hR.below, hR.prot, rfl, hR.ng, ?_, ?_, ?_, ?_, ?_, hR.gnone⟩⟩
  · intro b' cs' hb'
    rcases newf b' cs' hb' with ⟨rfl, rfl⟩ | ⟨h1, h2, h3⟩
    · obtain ⟨-, g, arr, e, k2, k3, k4, k5⟩ := hR.blk b cs' hb
      exact ⟨Nat.lt_succ_self _, g, arr, e, by rw [hg] at k2; rw [← k2]; exact upd_same _ _ _, k3, k4, fun i hi => ⟨(k5 i hi).1.mono hle, (k5 i hi).2⟩⟩
    · obtain ⟨k1, g, arr, e, k2, k3, k4, k5⟩ := hR.blk b' cs' h3
      exact ⟨Nat.lt_succ_of_lt k1, g, arr, e, by show upd (upd ρ.phi b none) h.n _ b' = _; rw [upd_ne _ _ h1, upd_ne _ _ h2]; exact k2, k3, k4, fun i hi => ⟨(k5 i hi).1.mono hle, (k5 i hi).2⟩⟩
  · intro b' y hy
    rcases back b' y hy with ⟨rfl, -⟩ | ⟨h1, h2, h3⟩
    · exact ⟨cs, upd_same _ _ _⟩
    · obtain ⟨cs', h'⟩ := hR.phi b' y h3
      exact ⟨cs', by show upd (upd h.f b none) h.n _ b' = _; rw [upd_ne _ _ h1, upd_ne _ _ h2]; exact h'⟩
  · intro b' g n hx
    obtain ⟨b0, h1, -⟩ := src b' _ hx
    exact hR.fresh b0 g n h1
  · intro b1 b2 g n n' hx hx'
    obtain ⟨c1, h1, h2, h3⟩ := src b1 _ hx
    obtain ⟨c2, k1, k2, k3⟩ := src b2 _ hx'
    have hcc := hR.inj c1 c2 g n n' h1 k1
    by_cases e1 : b1 = h.n <;> by_cases e2 : b2 = h.n
    · rw [e1, e2]
    · have := h2 e1; have := k3 e2; omega
    · have := k2 e2; have := h3 e1; omega
    · have := h3 e1; have := k3 e2; omega
  · intro κ hκ
    obtain ⟨g', c, s, arr', e', k1, k2, k3, k4, k5, k6, k7, k8, k9⟩ := hR.gam κ hκ
    exact ⟨g', c, s, arr', e', k1, k2, k3, k4, k5, k6, k7, fun b' n hx => (by
      obtain ⟨b0, h1, -⟩ := src b' _ hx
      exact k8 b0 n h1), k9⟩

/-- What a row holds, read cell by cell. -/
def Src (ρ : Ip) (w : World) (ad : Addr) (ys : List AV) (us : List Value) : Prop := us.length = ys.length ∧ ∀ j (hj : j < ys.length), w.cell? (ad.add j) = some (us.getD j undef) ∧ RV ρ ys[j] (us.getD j undef) ∧ (us.getD j undef).oneCell' = true

theorem src_tree {ys : List AV} {g : Gr} {xc : Value} (hR : RH ρ h w) (hx : RV ρ (.tree 1 ys g) xc) (h1 : allB oneA ys = true) (hne : ys ≠ []) : ∃ ad cap us, xc = .slice (some ad) ys.length cap ∧ Src ρ w ad ys us := by
  rcases inv_tree hx with ⟨h1, -, -⟩ | ⟨ad, cap, vs, rfl, -, -, -, hv, hs, hc⟩
  · exact absurd h1 hne
  · refine ⟨ad, cap, (List.range ys.length).map vs, rfl, by simp, fun j hj => ?_⟩
    have he : ((List.range ys.length).map vs).getD j undef = vs j := by simp [List.getD_eq_getElem?_getD, hj]
    rw [he]
    have ho := allB_get h1 j hj
    obtain ⟨k1, k2⟩ := (hv j hj).one ho
    have := hR.prot _ _ (hc j 0 hj (by omega))
    rw [k2] at this
    have e0 : (#[vs j] : Array Value).getD 0 undef = vs j := rfl
    rw [e0, show j * 1 + 0 = j from by omega] at this
    exact ⟨this.1, .pure _ _ (hv j hj), this.2⟩

theorem src_blk {b o n : Nat} {c : Cp} {cs : List AV} {xc : Value} (hR : RH ρ h w) (hx : RV ρ (.bsl b o n c) xc) (hb : h.f b = some cs) (hn : o + n ≤ cs.length) : ∃ ad cap us, xc = .slice (some ad) n cap ∧ Src ρ w ad ((cs.drop o).take n) us := by
  obtain ⟨ad, cap, rfl, -, hcap, hmax, hphi, -, -⟩ := inv_bsl hx
  obtain ⟨-, g, arr, e, k2, k3, k4, k5⟩ := hR.blk b cs hb
  have had := hphi g _ k2
  subst had
  refine ⟨_, cap, (List.range n).map fun j => arr.getD (o + j) undef, rfl, by simp; omega, fun j hj => ?_⟩
  have hj' : j < n := by simp at hj; omega
  have he : ((List.range n).map fun j => arr.getD (o + j) undef).getD j undef = arr.getD (o + j) undef := by simp [List.getD_eq_getElem?_getD, hj']
  rw [he]
  obtain ⟨q1, q2⟩ := k5 (o + j) (by omega)
  refine ⟨?_, ?_, q2⟩
  · rw [Addr.add_lit, cell_of_row w g (o + j) arr e (0, 0) k3]
    have : o + j < arr.size := by omega
    simp [Array.getD, this]
  · rw [List.getElem_take, List.getElem_drop]; exact q1

theorem app_blk {by_ : Nat} {t ty e : TypeId} (he : elT P t = some e) (hs : szT P e = some 1) (hb : byT P e = some by_) {z : AV} (hz : zrT P e = some z) (hm : memA z = true) (hzl : (cellsA z).length = 1)
    (xs ys : List AV) (us : List Value) (hys : ys ≠ []) {sc : Value} {ady : Addr} {capy : Nat} (hx : Src ρ w ady ys us) (hmx : xs.length + ys.length ≤ maxLen) (hbig : (xs.length + ys.length) * by_ ≤ 140737488355328) (hR : RH ρ h w)
    {h1 : AH} (hsc : (xs = [] ∧ sc = .slice none 0 0 ∧ h1 = h) ∨ (∃ b, h.f b = some xs ∧ h1 = h.rm b ∧ RV ρ (.bsl b 0 xs.length (.grow 1)) sc)) :
    ∃ w' vc ρ', (Builtin.append_ #[t, t] ty #[sc, .slice (some ady) ys.length capy]).run P w = .ok vc w' ∧ ρ.Le ρ' ∧ RH ρ' (h1.mk_ (xs ++ ys)) w' ∧ RV ρ' (.bsl h.n 0 (xs.length + ys.length) (.grow 1)) vc := by
  unfold zrT at hz
  obtain ⟨i, hi, hz⟩ := Option.bind_eq_some_iff.1 hz
  obtain ⟨zv, hzz, hzo⟩ := Option.bind_eq_some_iff.1 hz
  have hs' : i.size = 1 := by unfold szT at hs; rw [hi] at hs; simpa using hs
  have hb' : i.bytes = by_ := by unfold byT at hb; rw [hi] at hb; simpa using hb
  have hzc : zv.cells.size = 1 := by
    have hzp : PV ρ.prot z zv := ofV_PV hzo
    rw [← hzl]; exact (hzp.cells hm).1.symm
  have hu := elT_under he
  have hylen : 0 < ys.length := List.length_pos_iff.2 hys
  obtain ⟨hul, hxs⟩ := hx
  have hnl : us.length = ys.length * i.size := by rw [hs', Nat.mul_one, hul]
  have gd : ∀ {j : Nat} {u : Value}, us[j]? = some u → j < ys.length ∧ us.getD j undef = u := fun {j u} hj => by
    have := (List.getElem?_eq_some_iff.1 hj).1
    exact ⟨by omega, by rw [List.getD_eq_getElem?_getD, hj]; rfl⟩
  have hnews : ∀ j u, us[j]? = some u → w.cell? (ady.add j) = some u := fun j u hj => by
    obtain ⟨k1, k2⟩ := gd hj
    rw [← k2]; exact (hxs j k1).1
  -- a new row
  have fresh : ∀ (olds : List Value) (old : Nat) (hRm : ∃ ρ1, ρ.Le ρ1 ∧ RH ρ1 h1 w), olds.length = xs.length → (∀ i (hi : i < xs.length), RV ρ xs[i] (olds.getD i undef) ∧ (olds.getD i undef).oneCell' = true) → h1.n = h.n →
      ∀ (c : Nat), xs.length + ys.length ≤ c → c ≤ maxLen →
      ∃ ρ', ρ.Le ρ' ∧ RH ρ' (h1.mk_ (xs ++ ys)) (w.drew.alloc (.cells (olds.toArray ++ us.toArray ++ Builtin.zeroCells zv.cells (c - (xs.length + ys.length))) e)) ∧ RV ρ' (.bsl h.n 0 (xs.length + ys.length) (.grow 1)) (.slice (some ⟨w.heap.size, 0, none⟩) (xs.length + ys.length) c) := by
    intro olds old hRm hol hov hn1 c hc hcm
    obtain ⟨ρ1, hle1, hR1⟩ := hRm
    have hsz : (olds.toArray ++ us.toArray ++ Builtin.zeroCells zv.cells (c - (xs.length + ys.length))).size = c := by
      simp only [Array.size_append, List.size_toArray, size_zeroCells, hzc, hol, hul]; omega
    have hget : ∀ q, q < xs.length + ys.length → (olds.toArray ++ us.toArray ++ Builtin.zeroCells zv.cells (c - (xs.length + ys.length))).getD q undef = if q < xs.length then olds.getD q undef else us.getD (q - xs.length) undef := fun q hq => by
      rw [Array.getD_eq_getD_getElem?, Array.getElem?_append_left (by simp only [Array.size_append, List.size_toArray]; omega)]
      by_cases hqx : q < xs.length
      · rw [if_pos hqx, Array.getElem?_append_left (by simp only [List.size_toArray]; omega), List.getElem?_toArray, List.getD_eq_getElem?_getD]
      · rw [if_neg hqx, Array.getElem?_append_right (by simp only [List.size_toArray]; omega), List.size_toArray, hol, List.getElem?_toArray, List.getD_eq_getElem?_getD]
    obtain ⟨ρ', hle, hphi, hnb, hR'⟩ := hR1.drew.alloc (xs ++ ys) (olds.toArray ++ us.toArray ++ Builtin.zeroCells zv.cells (c - (xs.length + ys.length))) e (by rw [hsz, List.length_append]; exact hc) (fun q hq => by
      rw [List.length_append] at hq
      rw [hget q hq]
      by_cases hqx : q < xs.length
      · rw [if_pos hqx, List.getElem_append_left hqx]; exact ⟨(hov q hqx).1.mono hle1, (hov q hqx).2⟩
      · rw [if_neg hqx, List.getElem_append_right (Nat.le_of_not_lt hqx)]
        have := hxs (q - xs.length) (by omega)
        exact ⟨this.2.1.mono hle1, this.2.2⟩)
    refine ⟨ρ', hle1.trans hle, hR', .bsl _ _ _ _ _ _ (by rw [hnb, hn1]; exact Nat.lt_succ_self _) hc hcm (fun g m hx => ?_) (fun h => by cases h) (fun sz h => ⟨rfl, fun g m hx => ?_⟩)⟩
    · rw [← hn1, hphi] at hx
      have hx1 : w.heap.size = g := (Prod.mk.inj (Option.some.inj hx)).1
      rw [hx1]
    · injection h with h; subst h
      rw [← hn1, hphi] at hx; rw [← (Prod.mk.inj (Option.some.inj hx)).2, hsz]; omega
  have hmx' : xs.length + ys.length ≤ 9223372036854775807 := by simp only [maxLen] at hmx; omega
  rcases hsc with ⟨rfl, rfl, rfl⟩ | ⟨b, hbx, rfl, hsv⟩
  · simp only [List.length_nil, Nat.zero_add, List.nil_append] at hmx hbig fresh hmx' ⊢
    have hr := run_append_nil (P := P) w t ty e i zv hu hi hzz ady ys.length capy us hnl hnews hylen (by omega) (by rw [hb']; omega)
    have hh1 := fresh [] 0 ⟨ρ, .refl _, hR⟩ rfl (fun i hi => absurd hi (Nat.not_lt_zero _))
    obtain ⟨ρ', h2, h3, h4⟩ := hh1 trivial _ (grownCap_ge w ys.length 0 e) (grownCap_le_maxLen w ys.length 0 e hmx)
    simp only [List.toArray, Array.empty_append] at h3
    exact ⟨_, _, ρ', hr, h2, by simpa using h3, h4⟩
  · obtain ⟨ad, cap, rfl, hbn, hcap, hmax, hphi, -, hgrow⟩ := inv_bsl hsv
    obtain ⟨-, g, arr, e', k2, k3, k4, k5⟩ := hR.blk b xs hbx
    have had := hphi g _ k2
    subst had
    have hca := (hgrow 1 rfl).2 g _ k2
    rw [Nat.mul_one] at hca
    by_cases hroom : xs.length + ys.length ≤ cap
    · -- in its place
      have h1c : ∀ u ∈ us, u.oneCell' = true := fun u hu => by
        obtain ⟨q, hq, rfl⟩ := List.mem_iff_getElem.1 hu
        obtain ⟨q1, q2⟩ := gd (List.getElem?_eq_getElem hq)
        rw [← q2]; exact (hxs q q1).2.2
      have hr := run_append_room' (P := P) (w := w) t ty e e' i hu hi g xs.length cap arr k3 ady ys.length capy us hnl hnews h1c hroom (by rw [hs', hul]; omega)
      rw [hs', Nat.mul_one] at hr
      let arr' : Array Value := (arr.toList.take xs.length ++ us ++ arr.toList.drop (xs.length + us.length)).toArray
      have hal : arr.toList.length = arr.size := Array.length_toList
      have htl : (arr.toList.take xs.length).length = xs.length := by rw [List.length_take, hal]; omega
      have hsz' : arr'.size = arr.size := by
        simp only [arr', List.size_toArray, List.length_append, List.length_drop, htl, hal]; omega
      have hget : ∀ q, q < xs.length + ys.length → arr'.getD q undef = if q < xs.length then arr.getD q undef else us.getD (q - xs.length) undef := fun q hq => by
        simp only [arr']
        rw [Array.getD_eq_getD_getElem?, List.getElem?_toArray, List.getElem?_append_left (by rw [List.length_append, htl]; omega)]
        by_cases hqx : q < xs.length
        · rw [if_pos hqx, List.getElem?_append_left (by omega), List.getElem?_take, if_pos hqx, Array.getElem?_toList, Array.getD_eq_getD_getElem?]
        · rw [if_neg hqx, List.getElem?_append_right (by omega), htl, List.getD_eq_getElem?_getD]
      have hR2 := hR.setRow hbx k2 arr' hsz' (cs' := xs ++ ys) (by rw [List.length_append, hsz', ← hca]; exact hroom) (fun q hq => by
        rw [List.length_append] at hq
        rw [hget q hq]
        by_cases hqx : q < xs.length
        · rw [if_pos hqx, List.getElem_append_left hqx]; exact k5 q hqx
        · rw [if_neg hqx, List.getElem_append_right (Nat.le_of_not_lt hqx)]
          exact (hxs (q - xs.length) (by omega)).2)
      obtain ⟨ρ', hle, hphi', hnb, hR3⟩ := hR2.rename (b := b) (cs := xs ++ ys) (upd_same _ _ _) k2
      refine ⟨_, _, ρ', hr, hle, ?_, .bsl _ _ _ _ _ _ (by rw [hnb]; exact Nat.lt_succ_self _) hroom hmax (fun g' m hx => ?_) (fun h => by cases h) (fun sz h => ⟨rfl, fun g' m hx => ?_⟩)⟩
      · have : ((h.put b (xs ++ ys)).rm b).mk_ (xs ++ ys) = (h.rm b).mk_ (xs ++ ys) := by
          simp only [AH.put, AH.rm, AH.mk_]
          congr 1
          funext q
          simp only [upd]
          split
          · rfl
          · split <;> rfl
        rw [← this]; exact hR3
      · have hx' : some (g, arr.size) = some (g', m) := hphi'.symm.trans hx
        rw [(Prod.mk.inj (Option.some.inj hx')).1]
      · injection h with h; subst h
        have hx' : some (g, arr.size) = some (g', m) := hphi'.symm.trans hx
        rw [← (Prod.mk.inj (Option.some.inj hx')).2]; omega
    · have holds : ∀ j u, (arr.toList.take xs.length)[j]? = some u → w.cell? ((⟨g, 0, none⟩ : Addr).add j) = some u := fun j u hj => by
        rw [List.getElem?_take] at hj
        split at hj
        · rw [Addr.add_lit, Nat.zero_add, cell_of_row w g j arr e' (0, 0) k3]; simpa using hj
        · cases hj
      have hal : arr.toList.length = arr.size := Array.length_toList
      have htl : (arr.toList.take xs.length).length = xs.length := by rw [List.length_take, hal]; omega
      have hr := run_append_grow (P := P) w t ty e i zv hu hi hzz ⟨g, 0, none⟩ xs.length cap (arr.toList.take xs.length) (by rw [htl, hs', Nat.mul_one]) holds ady ys.length capy us hnl hnews (by omega) (by omega) (growslice_fits (by omega) (by rw [hb']; exact hbig))
      obtain ⟨ρ1, hle1, hR1⟩ := hR.drop b
      obtain ⟨ρ', h2, h3, h4⟩ := fresh (arr.toList.take xs.length) cap ⟨ρ1, hle1, hR1⟩ htl (fun q hq => by
        have : (arr.toList.take xs.length).getD q undef = arr.getD q undef := by
          rw [List.getD_eq_getElem?_getD, List.getElem?_take, if_pos hq, Array.getElem?_toList, Array.getD_eq_getD_getElem?]
        rw [this]; exact k5 q hq) rfl _ (grownCap_ge w (xs.length + ys.length) cap e) (grownCap_le_maxLen w (xs.length + ys.length) cap e hmx)
      exact ⟨_, _, ρ', hr, h2, h3, h4⟩
end
end Go.Eng
