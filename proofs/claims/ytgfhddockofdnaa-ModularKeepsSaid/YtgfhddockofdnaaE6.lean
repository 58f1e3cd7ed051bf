/- An engine, part 6: one operation, whichever it is, on abstract values. Over any program. -/
import Derived.Test.YtgfhddockofdnaaE5b
set_option linter.unusedVariables false
set_option linter.unusedSimpArgs false
namespace Go.Eng
open Go.RowKit (Below)

/-- Which field lies where: offset, size, type. -/
def fldT (P : Program) (t : TypeId) (f : Nat) : Option (Nat × Nat × TypeId) := match P.underlying t with
  | some (.struct fs) => (fs[f]?).bind fun f => (szT P f.type).map fun s => (f.offset, s, f.type)
  | _ => none
/-- A part of a struct's cells, as a value. -/
def partW (P : Program) (off sz : Nat) (ft : TypeId) (cs : List AV) (K : AV → Prop) : Prop :=
  (agT P ft = some false ∧ off < cs.length ∧ K (cs.getD off .junk)) ∨ (agT P ft = some true ∧ off + sz ≤ cs.length ∧ K (.agg ((cs.drop off).take sz)))
def unW (op : UnOp) (x : AV) (K : AV → Prop) : Prop := match op, x with
  | .neg, .int k n => K (.int k (k.wrap (0 - n)))
  | .not, .bool b => K (.bool (!b))
  | .xor, .int k n => arW .xor k (if k.signed then -1 else k.max) n K
  | _, _ => False
def cvW (P : Program) (s d : TypeId) (x : AV) (K : AV → Prop) : Prop := match x with
  | .int _ n => (P.underlying s).isSome = true ∧ ∃ k, kdT P d = some k ∧ K (.int k (k.wrap n))
  | _ => False
/-- A bound of a cut. -/
def bndA (d : Nat) (o : Option AV) (l : Nat) : Prop := match o with
  | none => l = d
  | some v => ∃ k, v = .int k l
def ORV (ρ : Ip) : Option AV → Option Value → Prop
  | none, none => True
  | some v, some vc => RV ρ v vc
  | _, _ => False
def cutW (P : Program) (t : TypeId) (x : AV) (lo hi mx : Option AV) (K : AV → Prop) : Prop := match x with
  | .str s => knT P t = some 2 ∧ mx = none ∧ ∃ l h : Nat, bndA 0 lo l ∧ bndA s.size hi h ∧ l ≤ h ∧ h ≤ s.size ∧ K (.str (s.extract l h))
  | .tree sz xs g => ∃ e, elT P t = some e ∧ szT P e = some sz ∧ ∃ l h : Nat, bndA 0 lo l ∧ bndA xs.length hi h ∧ l ≤ h ∧ h ≤ xs.length ∧
      ((mx = none ∧ K (.tree sz ((xs.take h).drop l) .ro)) ∨ (∃ k k', hi = some (.int k' h) ∧ mx = some (.int k h) ∧ K (.tree sz ((xs.take h).drop l) .full)))
  | .bsl b o n c => ∃ e s, elT P t = some e ∧ szT P e = some s ∧ ∃ l h : Nat, bndA 0 lo l ∧ bndA n hi h ∧ l ≤ h ∧ h ≤ n ∧ mx = none ∧ (l < h ∨ l = 0) ∧ K (.bsl b (o + l * s) (h - l) .ro)
  | _ => False
/-- append(s, x...), elements that stay. -/
def appW (P : Program) (t : TypeId) (s x : AV) (h : AH) (K : AV → AH → Prop) : Prop :=
  ∃ e sz by_ z, elT P t = some e ∧ szT P e = some sz ∧ byT P e = some by_ ∧ zrT P e = some z ∧ memA z = true ∧ (cellsA z).length = sz ∧ 0 < sz ∧
  match x with
  | .tree sz' ys _ => sz' = sz ∧ ys ≠ [] ∧ (match s with
    | .nils => ys.length ≤ 4294967296 ∧ ys.length * by_ ≤ 140737488355328 ∧ K (.tree sz ys (.own h.k)) (h.begun ys.length)
    | .tree sz'' xs .full => sz'' = sz ∧ xs.length + ys.length ≤ 4294967296 ∧ (xs.length + ys.length) * by_ ≤ 140737488355328 ∧ K (.tree sz (xs ++ ys) (.own h.k)) (h.begun (xs.length + ys.length))
    | .tree sz'' xs (.own κ) => sz'' = sz ∧ h.gr κ = xs.length ∧ xs.length + ys.length ≤ 4294967296 ∧ (xs.length + ys.length) * by_ ≤ 140737488355328 ∧ K (.tree sz (xs ++ ys) (.own κ)) (h.grown κ (xs.length + ys.length))
    | _ => False)
  | _ => False
/-- What is appended, from a row that stays or a block. -/
def srcW (h : AH) (x : AV) (ys : List AV) : Prop := match x with
  | .tree sz zs _ => sz = 1 ∧ allB oneA zs = true ∧ ys = zs
  | .bsl b o n _ => ∃ cs, h.f b = some cs ∧ o + n ≤ cs.length ∧ ys = (cs.drop o).take n
  | _ => False
/-- append(s, x...), elements that may be written. -/
def appBW (P : Program) (t : TypeId) (s x : AV) (h : AH) (K : AV → AH → Prop) : Prop :=
  ∃ e by_ z ys, elT P t = some e ∧ szT P e = some 1 ∧ byT P e = some by_ ∧ zrT P e = some z ∧ memA z = true ∧ (cellsA z).length = 1 ∧ srcW h x ys ∧ ys ≠ [] ∧ (match s with
    | .nils => ys.length ≤ 4294967296 ∧ ys.length * by_ ≤ 140737488355328 ∧ K (.bsl h.n 0 ys.length (.grow 1)) (h.mk_ ys)
    | .bsl b o n c => o = 0 ∧ c = .grow 1 ∧ ∃ cs, h.f b = some cs ∧ cs.length = n ∧ n + ys.length ≤ 4294967296 ∧ (n + ys.length) * by_ ≤ 140737488355328 ∧ K (.bsl h.n 0 (n + ys.length) (.grow 1)) ((h.rm b).mk_ (cs ++ ys))
    | _ => False)
def lenW (P : Program) (t : TypeId) (x : AV) (K : AV → Prop) : Prop := match x with
  | .nils => knT P t = some 3 ∧ K (.int .i64 0)
  | .tree _ xs _ => knT P t = some 3 ∧ K (.int .i64 (xs.length : Int))
  | .bsl _ _ n _ => knT P t = some 3 ∧ K (.int .i64 (n : Int))
  | .str s => knT P t = some 2 ∧ K (.int .i64 (s.size : Int))
  | _ => False
def idxAW (P : Program) (t : TypeId) (x i : AV) (K : AV → Prop) : Prop := match x, i with
  | .tree sz xs _, .int _ n => ∃ e, elT P t = some e ∧ szT P e = some sz ∧ 0 ≤ n ∧ n < (xs.length : Int) ∧ K (.eptr (xs.getD n.toNat .junk))
  | .bsl b o len _, .int _ n => ∃ e s, elT P t = some e ∧ szT P e = some s ∧ 0 ≤ n ∧ n < (len : Int) ∧ K (.ptr b (o + n.toNat * s))
  | _, _ => False
def fldAW (P : Program) (t : TypeId) (x : AV) (f : Nat) (K : AV → Prop) : Prop := ∃ off sz ft, fldT P t f = some (off, sz, ft) ∧ sz ≠ 0 ∧ (match x with
  | .ptr b o => K (.ptr b (o + off))
  | .eptr (.agg cs) => partW P off sz ft cs fun v => K (.eptr v)
  | _ => False)

/-- If the bit is as wanted, the one; if not, the other. -/
def gifW (c b : Bool) (run skip : Prop) : Prop := (c = b → run) ∧ (c = !b → skip)

def condW (x : AV) (yes no : Prop) : Prop := match x with
  | .bool t => gifW t true yes no
  | _ => False
def nilW (x : AV) (K : AV → Prop) : Prop := match x with
  | .ptr b o => K (.ptr b o)
  | .eptr v => K (.eptr v)
  | .func (.func f) a b => K (.func (.func f) a b)
  | _ => False

/-- An operation that is no call of a function of the program's own. blk: what it makes may be written later. -/
def opW (P : Program) (blk : Bool) (o : Op) (e : Operand → AV) (h : AH) (K : AV → AH → Prop) : Prop := match o with
  | .move x => K (e x) h
  | .assign x => K (e x) h
  | .pick c a b => condW (e c) (K (e a) h) (K (e b) h)
  | .load t x => loadW P t (e x) h K
  | .store t a x => storeW P t (e a) (e x) h K
  | .box t x => memA (e x) = true ∧ K (.ptr h.n 0) (h.mk_ (cellsA (e x)))
  | .alloc t => ∃ z, zrT P t = some z ∧ memA z = true ∧ K (.ptr h.n 0) (h.mk_ (cellsA z))
  | .build t parts => ∃ za pl out, bdT P t = some (za, pl) ∧ fillA pl za (parts.toList.map fun p => (p.1, e p.2)) = some out ∧ K (.agg out) h
  | .buildSlice t n parts => ∃ el sz, elT P t = some el ∧ szT P el = some sz ∧ (zrT P el).isSome = true ∧ 0 < sz ∧ parts.toList.length = n ∧ inOrder 0 (parts.toList.map fun p => (p.1, e p.2)) = true ∧ n * sz ≤ 16777216 ∧
      ((blk = false ∧ allB (elemB sz) (parts.toList.map fun p => e p.2) = true ∧ K (.tree sz (roL (parts.toList.map fun p => e p.2)) .full) h) ∨
       (blk = true ∧ allB (elemM sz) (parts.toList.map fun p => e p.2) = true ∧ K (.bsl h.n 0 n .full) (h.mk_ (catA (parts.toList.map fun p => e p.2)))))
  | .nilCheck x => nilW (e x) fun v => K v h
  | .binOp op t x y _ => binW P op t (e x) (e y) fun v => K v h
  | .unOp op _ x => unW op (e x) fun v => K v h
  | .convert s d x => cvW P s d (e x) fun v => K v h
  | .makeFunc fn a b => K (.func fn (a.toList.map e) (b.toList.map e)) h
  | .makeInterface t x => P.concrete t = true ∧ K (.iface t (e x)) h
  | .makeSlice t l c => ∃ el sz by_ z kl kc n, elT P t = some el ∧ szT P el = some sz ∧ byT P el = some by_ ∧ zrT P el = some z ∧ memA z = true ∧ (cellsA z).length = sz ∧ 0 < sz ∧ e l = .int kl n ∧ e c = .int kc n ∧ 0 ≤ n ∧ n ≤ 4294967296 ∧ n.toNat * by_ ≤ 140737488355328 ∧
      K (.bsl h.n 0 n.toNat .full) (h.mk_ (copies (cellsA z) n.toNat))
  | .slice t x lo hi mx => cutW P t (e x) (lo.map e) (hi.map e) (mx.map e) fun v => K v h
  | .fieldAddr t x f => fldAW P t (e x) f fun v => K v h
  | .field t x f => ∃ off sz ft cs, fldT P t f = some (off, sz, ft) ∧ e x = .agg cs ∧ partW P off sz ft cs fun v => K v h
  | .indexAddr t x i => idxAW P t (e x) (e i) fun v => K v h
  | .index t x i => ∃ s k n, e x = .str s ∧ e i = .int k n ∧ knT P t = some 2 ∧ 0 ≤ n ∧ n < (s.size : Int) ∧ K (.int .u8 ((s.data.toList.getD n.toNat 0).toNat : Int)) h
  | .extract x i => ∃ vs, e x = .tup vs ∧ i < vs.length ∧ K (vs.getD i .junk) h
  | .call c => (match c.callee with
    | .builtin .len => ∃ x t, c.args = #[x] ∧ c.argTypes = #[t] ∧ lenW P t (e x) fun v => K v h
    | .builtin .append => ∃ s x t, c.args = #[s, x] ∧ c.argTypes = #[t, t] ∧ ((blk = false ∧ appW P t (e s) (e x) h K) ∨ (blk = true ∧ appBW P t (e s) (e x) h K))
    | _ => False)
  | _ => False

section
variable {P : Program} {ρ : Ip} {h : AH} {w : World}

/-- What an operation leaves. -/
def Does (P : Program) (ρ : Ip) (h : AH) (w : World) (s : Sem Value) (K : AV → AH → Prop) : Prop :=
  ∃ w' vc ρ' v h', s.run P w = .ok vc w' ∧ ρ.Le ρ' ∧ RH ρ' h' w' ∧ RV ρ' v vc ∧ K v h'

theorem Does.pure_ {v : AV} {vc : Value} {K : AV → AH → Prop} {s : Sem Value} (hr : s.run P w = .ok vc w) (hR : RH ρ h w) (hv : RV ρ v vc) (hK : K v h) : Does P ρ h w s K :=
  ⟨w, vc, ρ, v, h, hr, .refl _, hR, hv, hK⟩

theorem part_sound {off sz : Nat} {ft : TypeId} {cs : List AV} {K : AV → Prop} (hw : partW P off sz ft cs K) (hsz : szT P ft = some sz) {vs : Array Value} (hl : cs.length = vs.size) (hv : ∀ i (h : i < cs.length), RV ρ cs[i] (vs.getD i undef)) (h1 : ∀ i, i < vs.size → (vs.getD i undef).oneCell' = true) :
    ∃ v vc, (part ft vs off).run P w = .ok vc w ∧ RV ρ v vc ∧ K v := by
  rcases hw with ⟨ha, ho, hK⟩ | ⟨ha, ho, hK⟩
  · have hov : off < vs.size := by omega
    refine ⟨_, vs.getD off undef, ?_, ?_, hK⟩
    · simp only [part, Sem.run_bind, run_isAgg_of ha, Result.andThen_ok, Bool.false_eq_true, if_false, Array.getElem?_eq_getElem hov, Sem.run_pure]
      simp [Array.getD, hov]
    · rw [List.getD_eq_getElem?_getD, List.getElem?_eq_getElem ho]
      exact hv off ho
  · have hg : ∀ i, i < sz → (vs.extract off (off + sz)).getD i undef = vs.getD (off + i) undef := fun i hi => by
      rw [Array.getD_eq_getD_getElem?, Array.getD_eq_getD_getElem?, Array.getElem?_extract]
      rw [if_pos (by omega)]
    refine ⟨_, .agg (vs.extract off (off + sz)), ?_, ?_, hK⟩
    · simp only [part, Sem.run_bind, run_isAgg_of ha, Result.andThen_ok, if_true, run_sizeOf_of hsz, Sem.run_pure]
    · refine .agg _ _ (by simp; omega) (fun i hi => ?_) (fun i hi => ?_)
      · have hi' : i < sz := by simp at hi; omega
        rw [hg i hi', List.getElem_take, List.getElem_drop]
        exact hv (off + i) (by omega)
      · have hi' : i < sz := by simp at hi; omega
        rw [hg i hi']
        exact h1 (off + i) (by omega)

theorem fldT_spec {t : TypeId} {f off sz : Nat} {ft : TypeId} (hf : fldT P t f = some (off, sz, ft)) : ∃ fs fd, P.underlying t = some (.struct fs) ∧ fs[f]? = some fd ∧ fd.offset = off ∧ fd.type = ft ∧ szT P ft = some sz := by
  unfold fldT at hf
  split at hf
  · rename_i fs hu
    obtain ⟨fd, h1, h2⟩ := Option.bind_eq_some_iff.1 hf
    obtain ⟨s, h3, h4⟩ := Option.map_eq_some_iff.1 h2
    simp only [Prod.mk.injEq] at h4
    obtain ⟨rfl, rfl, rfl⟩ := h4
    exact ⟨fs, fd, hu, h1, rfl, rfl, h3⟩
  · cases hf

theorem field_sound {t : TypeId} {f off sz : Nat} {ft : TypeId} {cs : List AV} {K : AV → Prop} (hf : fldT P t f = some (off, sz, ft)) (hw : partW P off sz ft cs K) {xc : Value} (hx : RV ρ (.agg cs) xc) :
    ∃ v vc, (Instr.field t xc f).run P w = .ok vc w ∧ RV ρ v vc ∧ K v := by
  obtain ⟨fs, fd, hu, h1, rfl, rfl, h3⟩ := fldT_spec hf
  obtain ⟨vs, rfl, hl, hv, hone⟩ := inv_agg hx
  obtain ⟨v, vc, hr, hv', hK⟩ := part_sound (w := w) hw h3 hl hv hone
  refine ⟨v, vc, ?_, hv', hK⟩
  simp only [Instr.field, underlying, program, Sem.run_bind, Sem.run, Result.andThen_ok, hu, Sem.run_pure, h1, asAgg, hr]

theorem fieldAddr_sound {t : TypeId} {x : AV} {f : Nat} {K : AV → Prop} (hw : fldAW P t x f K) {xc : Value} (hx : RV ρ x xc) (hR : RH ρ h w) :
    ∃ v vc, (Instr.fieldAt t xc f).run P w = .ok vc w ∧ RV ρ v vc ∧ K v := by
  obtain ⟨off, sz, ft, hf, hne, hw⟩ := hw
  obtain ⟨fs, fd, hu, h1, rfl, rfl, h3⟩ := fldT_spec hf
  have hrun : ∀ ad, (Instr.fieldAt t (.pointer (some ad)) f).run P w = .ok (.pointer (some (ad.add fd.offset))) w := fun ad => by
    simp only [Instr.fieldAt, underlying, program, Sem.run_bind, Sem.run, Result.andThen_ok, hu, Sem.run_pure, h1, Instr.sureAddr, fieldPlace, run_sizeOf_of h3, if_neg hne]
  split at hw
  · rename_i b o
    obtain ⟨ad, rfl, hb, hphi⟩ := inv_ptr hx
    exact ⟨_, _, hrun ad, .ptr _ _ _ hb (fun g n hg => by rw [hphi g n hg, Addr.add_lit]), hw⟩
  · rename_i cs
    obtain ⟨ad, u, rfl, hv, hc⟩ := inv_eptr hx
    cases hv with | agg _ vs hl hv hone =>
    have hoff : ∀ j, (ad.add fd.offset).add j = ad.add (fd.offset + j) := fun j => by
      unfold Addr.add
      by_cases h1 : fd.offset = 0 <;> by_cases h2 : j = 0
      · simp [h1, h2]
      · simp [h1, h2]
      · simp [h1, h2]
      · simp [h1, h2, Nat.add_assoc]
    rcases hw with ⟨ha, ho, hK⟩ | ⟨ha, ho, hK⟩
    · have hov : fd.offset < vs.size := by omega
      refine ⟨_, _, hrun ad, .pure _ _ (.eptr _ (vs.getD fd.offset undef) _ ?_ (fun j hj => ?_)), hK⟩
      · rw [List.getD_eq_getElem?_getD, List.getElem?_eq_getElem ho]
        exact hv _ ho
      · have h1c : (vs.getD fd.offset undef).cells = #[vs.getD fd.offset undef] := by
          have := hone _ hov
          cases hq : vs.getD fd.offset undef <;> first | rfl | (rw [hq] at this; simp [Value.oneCell'] at this)
        rw [h1c] at hj ⊢
        have : j = 0 := by simpa using hj
        subst this
        rw [hoff, Nat.add_zero]
        exact hc fd.offset hov
    · have hg : ∀ i, i < sz → (vs.extract fd.offset (fd.offset + sz)).getD i undef = vs.getD (fd.offset + i) undef := fun i hi => by
        rw [Array.getD_eq_getD_getElem?, Array.getD_eq_getD_getElem?, Array.getElem?_extract]
        rw [if_pos (by omega)]
      refine ⟨_, _, hrun ad, .pure _ _ (.eptr _ (.agg (vs.extract fd.offset (fd.offset + sz))) _ (.agg _ _ (by simp; omega) (fun i hi => ?_) (fun i hi => ?_)) (fun j hj => ?_)), hK⟩
      · have hi' : i < sz := by simp at hi; omega
        rw [hg i hi', List.getElem_take, List.getElem_drop]
        exact hv (fd.offset + i) (by omega)
      · have hi' : i < sz := by simp at hi; omega
        rw [hg i hi']
        exact hone (fd.offset + i) (by omega)
      · have hj' : j < sz := by simp [Value.cells] at hj; omega
        rw [hoff]
        show _ = some ((vs.extract fd.offset (fd.offset + sz)).getD j undef)
        rw [hg j hj']
        exact hc (fd.offset + j) (by show _ < vs.size; omega)
  · exact hw.elim

theorem idx_sound {t : TypeId} {x i : AV} {K : AV → Prop} (hw : idxAW P t x i K) {xc ic : Value} (hx : RV ρ x xc) (hi : RV ρ i ic) (hR : RH ρ h w) :
    ∃ v vc, (Instr.indexAt t xc ic).run P w = .ok vc w ∧ RV ρ v vc ∧ K v := by
  unfold idxAW at hw
  split at hw
  · rename_i sz xs g k n
    obtain ⟨e, he, hs, h0, h1, hK⟩ := hw
    obtain rfl := inv_int hi
    rcases inv_tree hx with ⟨rfl, -, -⟩ | ⟨ad, cap, vs, rfl, -, -, -, hv, hsz, hc⟩
    · simp at h1; omega
    · have hlt : n.toNat < xs.length := by omega
      refine ⟨_, .pointer (some (ad.add (n.toNat * sz))), ?_, .pure _ _ (.eptr _ (vs n.toNat) _ ?_ (fun j hj => ?_)), hK⟩
      · have hu := elT_under he
        simp only [Instr.indexAt, asIntOf, underlying, program, Sem.run_bind, Sem.run, Result.andThen_ok, hu, Sem.run_pure, if_pos (show 0 ≤ n ∧ n < (xs.length : Int) from ⟨h0, h1⟩), run_sizeOf_of hs]
      · rw [List.getD_eq_getElem?_getD, List.getElem?_eq_getElem hlt]
        exact hv _ hlt
      · have hadd : (ad.add (n.toNat * sz)).add j = ad.add (n.toNat * sz + j) := by
          unfold Addr.add
          by_cases h1 : n.toNat * sz = 0 <;> by_cases h2 : j = 0 <;> simp [h1, h2, Nat.add_assoc]
        rw [hadd]
        exact hc _ _ hlt (by rw [← hsz _ hlt]; exact hj)
  · rename_i b o len c k n
    obtain ⟨e, s, he, hs, h0, h1, hK⟩ := hw
    obtain rfl := inv_int hi
    obtain ⟨ad, cap, rfl, hb, -, -, hphi, -, -⟩ := inv_bsl hx
    refine ⟨_, .pointer (some (ad.add (n.toNat * s))), ?_, .ptr _ _ _ hb (fun g m hg => by rw [hphi g m hg, Addr.add_lit]), hK⟩
    have hu := elT_under he
    simp only [Instr.indexAt, asIntOf, underlying, program, Sem.run_bind, Sem.run, Result.andThen_ok, hu, Sem.run_pure, if_pos (show 0 ≤ n ∧ n < (len : Int) from ⟨h0, h1⟩), run_sizeOf_of hs]
  · exact hw.elim

theorem un_sound {op : UnOp} {x : AV} {K : AV → Prop} (hw : unW op x K) {xc : Value} (hx : RV ρ x xc) : ∃ v vc, (Op.unary op xc).run P w = .ok vc w ∧ RV ρ v vc ∧ K v := by
  unfold unW at hw
  split at hw
  · obtain rfl := inv_int hx
    exact ⟨_, _, by simp only [Op.unary, Op.intArith, Sem.run_pure], .pure _ _ (.int _ _), hw⟩
  · obtain rfl := inv_bool hx
    exact ⟨_, _, by simp only [Op.unary, Sem.run_pure], .pure _ _ (.bool _), hw⟩
  · obtain rfl := inv_int hx
    simp only [arW] at hw
    exact ⟨_, _, by simp only [Op.unary, Op.intBits, Sem.run_pure], .pure _ _ (.int _ _), hw⟩
  · exact hw.elim

theorem cv_sound {s d : TypeId} {x : AV} {K : AV → Prop} (hw : cvW P s d x K) {xc : Value} (hx : RV ρ x xc) : ∃ v vc, (convert s d xc).run P w = .ok vc w ∧ RV ρ v vc ∧ K v := by
  unfold cvW at hw
  split at hw
  · rename_i k0 n
    obtain ⟨hsome, k, hk, hK⟩ := hw
    obtain rfl := inv_int hx
    obtain ⟨sd, hs⟩ := Option.isSome_iff_exists.1 hsome
    have hu : P.underlying d = some (.int k) := by
      unfold kdT at hk
      split at hk
      · rename_i k' hu; injection hk with hk; rw [hk] at hu; exact hu
      · cases hk
    refine ⟨_, _, ?_, .pure _ _ (.int _ _), hK⟩
    simp only [convert, underlying, program, Sem.run_bind, Sem.run, Result.andThen_ok, hs, hu, Sem.run_pure, Conv.intToInt]
  · exact hw.elim

theorem knT_slice {t : TypeId} (h : knT P t = some 3) : ∃ e, P.underlying t = some (.slice e) := by
  unfold knT at h
  split at h <;> first | exact ⟨_, by assumption⟩ | (simp at h)
theorem knT_str {t : TypeId} (h : knT P t = some 2) : P.underlying t = some .string := by
  unfold knT at h
  split at h <;> first | assumption | (simp at h)

theorem len_sound {t : TypeId} {x : AV} {K : AV → Prop} (hw : lenW P t x K) {xc : Value} (hx : RV ρ x xc) {ty : TypeId} : ∃ v vc, (Builtin.len_ #[t] ty #[xc]).run P w = .ok vc w ∧ RV ρ v vc ∧ K v := by
  unfold lenW at hw
  split at hw
  · obtain rfl := inv_nils hx
    obtain ⟨e, hu⟩ := knT_slice hw.1
    exact ⟨_, _, by simp [Builtin.len_, run_underlying hu, goInt], .pure _ _ (.int _ _), hw.2⟩
  · rename_i sz xs g
    obtain ⟨e, hu⟩ := knT_slice hw.1
    rcases inv_tree hx with ⟨rfl, rfl, -⟩ | ⟨ad, cap, vs, rfl, -⟩
    · exact ⟨_, _, by simp [Builtin.len_, run_underlying hu, goInt], .pure _ _ (.int _ _), hw.2⟩
    · exact ⟨_, _, by simp [Builtin.len_, run_underlying hu, goInt], .pure _ _ (.int _ _), hw.2⟩
  · rename_i b o n c
    obtain ⟨e, hu⟩ := knT_slice hw.1
    obtain ⟨ad, cap, rfl, -⟩ := inv_bsl hx
    exact ⟨_, _, by simp [Builtin.len_, run_underlying hu, goInt], .pure _ _ (.int _ _), hw.2⟩
  · rename_i s
    obtain rfl := inv_str hx
    have hu := knT_str hw.1
    exact ⟨_, _, by simp [Builtin.len_, run_underlying hu, goInt], .pure _ _ (.int _ _), hw.2⟩
  · exact hw.elim

theorem bound_sound {n : Nat} {y : Nat} {k : IntKind} {c : BoundsCode} (h : n ≤ y) : (Instr.sliceBound (.int k n) y c).run P w = .ok n w := by
  simp only [Instr.sliceBound, asIntOf, Sem.run_bind, Sem.run_pure, Result.andThen_ok, if_pos (show 0 ≤ (n : Int) ∧ (n : Int) ≤ (y : Int) from ⟨by omega, by omega⟩), Int.toNat_natCast]

/-- The two bounds of a cut without a third. -/
theorem bounds2_sound {is : Bool} {len cap l h : Nat} {lo hi : Option AV} {loc hic : Option Value} (hlo : bndA 0 lo l) (hhi : bndA len hi h)
    (hr : ORV ρ lo loc) (hr2 : ORV ρ hi hic) (h1 : l ≤ h) (h2 : h ≤ cap) :
    (Instr.sliceBounds is len cap loc hic none).run P w = .ok (l, h, cap) w := by
  unfold Instr.sliceBounds
  cases hi with
  | none =>
    cases hic with
    | some _ => exact hr2.elim
    | none =>
      simp only [bndA] at hhi
      subst hhi
      cases lo with
      | none =>
        cases loc with
        | some _ => exact hr.elim
        | none => simp only [bndA] at hlo; subst hlo; simp
      | some v =>
        cases loc with
        | none => exact hr.elim
        | some vc =>
          obtain ⟨k, rfl⟩ := hlo
          obtain rfl := inv_int hr
          simp [bound_sound h1]
  | some v2 =>
    cases hic with
    | none => exact hr2.elim
    | some vc2 =>
      obtain ⟨k2, rfl⟩ := hhi
      obtain rfl := inv_int hr2
      cases lo with
      | none =>
        cases loc with
        | some _ => exact hr.elim
        | none => simp only [bndA] at hlo; subst hlo; simp [bound_sound h2]
      | some v =>
        cases loc with
        | none => exact hr.elim
        | some vc =>
          obtain ⟨k, rfl⟩ := hlo
          obtain rfl := inv_int hr
          simp [bound_sound h1, bound_sound h2]
theorem bounds3_sound {len cap l h : Nat} {lo hi : Option AV} {loc hic : Option Value} {k : IntKind} (hlo : bndA 0 lo l) (hhi : ∃ v k, hi = some v ∧ v = AV.int k h)
    (hr : ORV ρ lo loc) (hr2 : ORV ρ hi hic) (h1 : l ≤ h) (h2 : h ≤ cap) :
    (Instr.sliceBounds true len cap loc hic (some (.int k h))).run P w = .ok (l, h, h) w := by
  unfold Instr.sliceBounds
  obtain ⟨v, k2, rfl, rfl⟩ := hhi
  cases hic with
  | none => exact hr2.elim
  | some vc2 =>
    obtain rfl := inv_int hr2
    cases lo with
    | none =>
      cases loc with
      | some _ => exact hr.elim
      | none => simp only [bndA] at hlo; subst hlo; simp [bound_sound h2, bound_sound (Nat.le_refl h)]
    | some v =>
      cases loc with
      | none => exact hr.elim
      | some vc =>
        obtain ⟨k, rfl⟩ := hlo
        obtain rfl := inv_int hr
        simp [bound_sound h1, bound_sound h2, bound_sound (Nat.le_refl h)]

theorem add_add (ad : Addr) (m j : Nat) : (ad.add m).add j = ad.add (m + j) := by
  unfold Addr.add
  by_cases h1 : m = 0 <;> by_cases h2 : j = 0 <;> simp [h1, h2, Nat.add_assoc]

theorem cut_sound {t : TypeId} {x : AV} {lo hi mx : Option AV} {K : AV → Prop} (hw : cutW P t x lo hi mx K) {xc : Value} {loc hic mxc : Option Value} (hx : RV ρ x xc)
    (hlo : ORV ρ lo loc) (hhi : ORV ρ hi hic) (hmx : ORV ρ mx mxc) :
    ∃ v vc, (Instr.sliceAt t xc loc hic mxc).run P w = .ok vc w ∧ RV ρ v vc ∧ K v := by
  unfold cutW at hw
  split at hw
  · rename_i s
    obtain ⟨hk, rfl, l, h, h1, h2, h3, h4, hK⟩ := hw
    obtain rfl := inv_str hx
    have hu := knT_str hk
    cases mxc with
    | some _ => exact hmx.elim
    | none =>
      have hb := bounds2_sound (P := P) (w := w) (is := false) (len := s.size) (cap := s.size) h1 h2 hlo hhi h3 h4
      exact ⟨_, _, by simp [Instr.sliceAt, Instr.slice, run_underlying hu, hb], .pure _ _ (.str _), hK⟩
  · rename_i sz xs g
    obtain ⟨e, he, hs, l, h, h1, h2, h3, h4, hw⟩ := hw
    have hu := elT_under he
    -- what the cut of a tree leaves
    have cutT : ∀ (ad : Addr) (cap cap' : Nat) (vs : Nat → Value) (gr : Gr), (gr = .ro ∨ (gr = .full ∧ cap' = h - l)) → xs.length ≤ cap → cap ≤ maxLen → h - l ≤ cap' → cap' ≤ cap → (∀ i (h : i < xs.length), PV ρ.prot xs[i] (vs i)) → (∀ i, i < xs.length → (vs i).cells.size = sz) →
        (∀ i j, i < xs.length → j < sz → ρ.prot (ad.add (i * sz + j)) = some ((vs i).cells.getD j undef)) → ∀ ad', (l < h → ad' = ad.add (l * sz)) → RV ρ (.tree sz ((xs.take h).drop l) gr) (.slice (some ad') (h - l) cap') := by
      intro ad cap cap' vs gr hgr hc1 hc2 hc3 hc4 hv hvs hcc ad' had
      have hlen : ((xs.take h).drop l).length = h - l := by simp; omega
      have := PV.tree (pr := ρ.prot) sz ((xs.take h).drop l) gr ad' cap' (fun i => vs (l + i)) (by omega) (by omega) (by rw [hlen]; exact hgr) (fun i hi => by
          rw [List.getElem_drop, List.getElem_take]
          exact hv (l + i) (by rw [hlen] at hi; omega)) (fun i hi => hvs (l + i) (by rw [hlen] at hi; omega)) (fun i j hi hj => by
          rw [hlen] at hi
          rw [had (by omega), add_add, show l * sz + (i * sz + j) = (l + i) * sz + j from by rw [Nat.add_mul]; omega]
          exact hcc (l + i) j (by omega) hj)
      rw [hlen] at this
      exact .pure _ _ this
    rcases inv_tree hx with ⟨rfl, rfl, -⟩ | ⟨ad, cap, vs, rfl, hcap, hmax, hfull, hv, hvs, hcc⟩
    · -- nil
      have h0 : h = 0 := by simpa using h4
      subst h0
      have l0 : l = 0 := by omega
      subst l0
      rcases hw with ⟨rfl, hK⟩ | ⟨k, k2, rfl, rfl, hK⟩
      · cases mxc with
        | some _ => exact hmx.elim
        | none =>
          have hb := bounds2_sound (P := P) (w := w) (is := true) (len := 0) (cap := 0) h1 h2 hlo hhi h3 (Nat.le_refl 0)
          exact ⟨_, .slice none 0 0, by simp [Instr.sliceAt, Instr.slice, run_underlying hu, hb, run_sizeOf_of hs], .pure _ _ (by simpa using PV.none_ (pr := ρ.prot) sz .ro (.inl rfl)), hK⟩
      · cases mxc with
        | none => exact hmx.elim
        | some mv =>
          obtain rfl := inv_int hmx
          have hb := bounds3_sound (P := P) (w := w) (len := 0) (cap := 0) (k := k) h1 ⟨_, k2, rfl, rfl⟩ hlo hhi h3 (Nat.le_refl 0)
          have hb' : (Instr.sliceBounds true 0 0 loc hic (some (.int k 0))).run P w = .ok (0, 0, 0) w := hb
          exact ⟨_, .slice none 0 0, by simp [Instr.sliceAt, Instr.slice, run_underlying hu, hb', run_sizeOf_of hs], .pure _ _ (by simpa using PV.none_ (pr := ρ.prot) sz .full (.inr rfl)), hK⟩
    · rcases hw with ⟨rfl, hK⟩ | ⟨k, k2, rfl, rfl, hK⟩
      · cases mxc with
        | some _ => exact hmx.elim
        | none =>
          have hb := bounds2_sound (P := P) (w := w) (is := true) (len := xs.length) (cap := cap) h1 h2 hlo hhi h3 (by omega)
          refine ⟨_, .slice (some (if cap = l then ad else ad.add (l * sz))) (h - l) (cap - l), ?_, cutT ad cap _ vs .ro (.inl rfl) hcap hmax (by omega) (by omega) hv hvs hcc _ (fun hlt => by rw [if_neg (by omega)]), hK⟩
          simp only [Instr.sliceAt, Instr.slice, run_underlying hu, Sem.run_bind, Result.andThen_ok, hb, run_sizeOf_of hs, Sem.run_pure, Option.map_some]
          congr 2
          split <;> rfl
      · cases mxc with
        | none => exact hmx.elim
        | some mv =>
          obtain rfl := inv_int hmx
          have hb := bounds3_sound (P := P) (w := w) (len := xs.length) (cap := cap) (k := k) h1 ⟨_, k2, rfl, rfl⟩ hlo hhi h3 (by omega)
          refine ⟨_, .slice (some (if h = l then ad else ad.add (l * sz))) (h - l) (h - l), ?_, cutT ad cap _ vs .full (.inr ⟨rfl, rfl⟩) hcap hmax (Nat.le_refl _) (by omega) hv hvs hcc _ (fun hlt => by rw [if_neg (by omega)]), hK⟩
          simp only [Instr.sliceAt, Instr.slice, run_underlying hu, Sem.run_bind, Result.andThen_ok, hb, run_sizeOf_of hs, Sem.run_pure, Option.map_some]
          congr 2
          split <;> rfl
  · rename_i b o n c
    obtain ⟨e, s, he, hs, l, h, h1, h2, h3, h4, rfl, h5, hK⟩ := hw
    have hu := elT_under he
    obtain ⟨ad, cap, rfl, hb, hcap, hmax, hphi, -, -⟩ := inv_bsl hx
    cases mxc with
    | some _ => exact hmx.elim
    | none =>
      have hbd := bounds2_sound (P := P) (w := w) (is := true) (len := n) (cap := cap) h1 h2 hlo hhi h3 (by omega)
      refine ⟨_, .slice (some (if cap = l then ad else ad.add (l * s))) (h - l) (cap - l), ?_, .bsl _ _ _ _ _ _ hb (by omega) (by omega) (fun g m hg => ?_) (fun hc => by cases hc) (fun _ hc => by cases hc), hK⟩
      · simp only [Instr.sliceAt, Instr.slice, run_underlying hu, Sem.run_bind, Result.andThen_ok, hbd, run_sizeOf_of hs, Sem.run_pure, Option.map_some]
        congr 2
        split <;> rfl
      · rcases h5 with h5 | rfl
        · rw [if_neg (by omega), hphi g m hg, Addr.add_lit]
        · rw [Nat.zero_mul, Nat.add_zero, Addr.add_zero', ite_self]; exact hphi g m hg
  · exact hw.elim

theorem evA_sound {t : Nat → AV} {a : Act} (ht : ∀ i, i < a.tmps.size → RV ρ (t i) (a.tmps.getD i undef)) {x : Operand} (hx : ∀ i, x = .tmp i → i < a.tmps.size) : RV ρ (evA t x) (a.eval x) := by
  cases x with
  | tmp i => exact ht i (hx i rfl)
  | const v =>
    simp only [evA, Act.eval]
    cases h : ofV v with
    | none => exact .junk _
    | some b => exact .pure _ _ (ofV_PV h)
  | global g => exact .junk _
  | func f => exact .pure _ _ (.func _ _ _ _ _ rfl rfl (fun i h => absurd h (Nat.not_lt_zero _)) (fun i h => absurd h (Nat.not_lt_zero _)))

/-- The operation's own run, as one value. -/
def runs (P : Program) (r : Result Next) (vc : Value) (w' : World) : Prop := r = .ok (.value vc) w' ∨ (r = .ok .skip w' ∧ vc = undef)

theorem op_sound {blk : Bool} {o : Oper} {t : Nat → AV} {a : Act} {K : AV → AH → Prop} (hw : opW P blk o.op (evA t) h K) (hR : RH ρ h w) (ht : ∀ i, i < a.tmps.size → RV ρ (t i) (a.tmps.getD i undef)) (hop : ∀ x ∈ o.op.operands, ∀ i, x = Operand.tmp i → i < a.tmps.size) :
    ∃ w' vc ρ' v h', runs P ((execOp a.eval o).run P w) vc w' ∧ ρ.Le ρ' ∧ RH ρ' h' w' ∧ RV ρ' v vc ∧ K v h' := by
  have ev : ∀ x ∈ o.op.operands, RV ρ (evA t x) (a.eval x) := fun x hx => evA_sound ht (hop x hx)
  have pure1 : ∀ {s : Sem Value} {v : AV} {vc : Value}, s.run P w = .ok vc w → RV ρ v vc → K v h → execOp a.eval o = (do pure (.value (← s))) → ∃ w' vc ρ' v h', runs P ((execOp a.eval o).run P w) vc w' ∧ ρ.Le ρ' ∧ RH ρ' h' w' ∧ RV ρ' v vc ∧ K v h' := by
    intro s v vc hr hv hK he
    exact ⟨w, vc, ρ, v, h, .inl (by rw [he]; simp only [Sem.run_bind, hr, Result.andThen_ok, Sem.run_pure]), .refl _, hR, hv, hK⟩
  obtain ⟨dst, op, type, pos, after, guard⟩ := o
  simp only at hw ev
  cases op <;> simp only [opW] at hw <;> first | exact hw.elim | skip
  case move x => exact ⟨w, _, ρ, _, h, .inl rfl, .refl _, hR, ev x (by simp [Op.operands]), hw⟩
  case assign x => exact ⟨w, _, ρ, _, h, .inl rfl, .refl _, hR, ev x (by simp [Op.operands]), hw⟩
  case pick c x y =>
    have hcv := ev c (by simp [Op.operands])
    unfold condW at hw
    split at hw
    rotate_left
    · exact hw.elim
    rename_i b hc
    obtain ⟨h1, h2⟩ := hw
    rw [hc] at hcv
    have hcc := inv_bool hcv
    cases b with
    | true => exact ⟨w, a.eval x, ρ, _, h, .inl (by simp [execOp, hcc, asBool]), .refl _, hR, ev x (by simp [Op.operands]), h1 rfl⟩
    | false => exact ⟨w, a.eval y, ρ, _, h, .inl (by simp [execOp, hcc, asBool]), .refl _, hR, ev y (by simp [Op.operands]), h2 rfl⟩
  case load ty x =>
    obtain ⟨vc, v, hr, hv, hK⟩ := load_sound hw hR (ev x (by simp [Op.operands]))
    exact pure1 hr hv hK rfl
  case store ty x y =>
    obtain ⟨w', h', hr, hR', hK⟩ := store_sound hw hR (ev x (by simp [Op.operands])) (ev y (by simp [Op.operands]))
    exact ⟨w', undef, ρ, .junk, h', .inr ⟨by simp only [execOp, Sem.run_bind, hr, Result.andThen_ok, Sem.run_pure], rfl⟩, .refl _, hR', .junk _, hK⟩
  case box ty x =>
    obtain ⟨hm, hK⟩ := hw
    obtain ⟨k1, k2, k3⟩ := (ev x (by simp [Op.operands])).cells hm
    obtain ⟨ρ', hle, hphi, hnb, hR'⟩ := hR.alloc (cellsA (evA t x)) (a.eval x).cells ty (by omega) (fun i hi => ⟨k2 i hi, k3 i (by omega)⟩)
    refine ⟨_, .pointer (some ⟨w.heap.size, 0, none⟩), ρ', _, _, .inl ?_, hle, hR', .ptr _ _ _ (by rw [hnb]; exact Nat.lt_succ_self _) (fun g n hg => by rw [hphi] at hg; rw [(Prod.mk.inj (Option.some.inj hg)).1]), hK⟩
    simp only [execOp, Instr.box, newVar, newRow, newObj, Sem.run_bind, Sem.run, Result.andThen_ok, Sem.run_pure, World.alloc_eq]
  case alloc ty =>
    obtain ⟨z, hz, hm, hK⟩ := hw
    unfold zrT at hz
    obtain ⟨i, hi, hz⟩ := Option.bind_eq_some_iff.1 hz
    obtain ⟨zv, hzz, hzo⟩ := Option.bind_eq_some_iff.1 hz
    have hzp : PV ρ.prot z zv := ofV_PV hzo
    obtain ⟨k1, k2, k3⟩ := hzp.cells hm
    obtain ⟨ρ', hle, hphi, hnb, hR'⟩ := hR.alloc (cellsA z) zv.cells ty (by omega) (fun i hi => ⟨.pure _ _ (k2 i hi), k3 i (by omega)⟩)
    refine ⟨_, .pointer (some ⟨w.heap.size, 0, none⟩), ρ', _, _, .inl ?_, hle, hR', .ptr _ _ _ (by rw [hnb]; exact Nat.lt_succ_self _) (fun g n hg => by rw [hphi] at hg; rw [(Prod.mk.inj (Option.some.inj hg)).1]), hK⟩
    have hzv : (zeroValue ty).run P w = .ok zv w := by simp [zeroValue, typeInfo, program, Sem.run, hi, hzz]
    simp only [execOp, Instr.alloc, newVar, newRow, newObj, Sem.run_bind, hzv, Sem.run, Result.andThen_ok, Sem.run_pure, World.alloc_eq]
  case build ty parts =>
    obtain ⟨za, pl, out, hb, hf, hK⟩ := hw
    obtain ⟨vs, hr, hv⟩ := build_sound (P := P) (w := w) (ρ := ρ) hb (parts := parts.toList.map fun p => (p.1, evA t p.2)) (partsc := parts.map fun (i, x) => (i, a.eval x)) (by simp) (fun i hi => by
      have hi' : i < parts.toList.length := by simpa using hi
      simp only [Array.toList_map, List.getD_eq_getElem?_getD, List.getElem?_map, List.getElem?_eq_getElem hi', Option.map_some, Option.getD_some, List.getElem_map, true_and]
      exact ev _ (by simp only [Op.operands]; exact List.mem_toArray.2 (List.mem_map.2 ⟨_, List.getElem_mem hi', rfl⟩))) hf
    exact pure1 hr hv hK rfl
  case buildSlice ty n parts =>
    obtain ⟨el, sz, he, hs, hz, h0, hn, ho, hbig, hw⟩ := hw
    have hpp : ∀ i (hi : i < (parts.toList.map fun p => (p.1, evA t p.2)).length), ((parts.map fun (i, x) => (i, a.eval x)).toList.getD i (0, undef)).1 = (parts.toList.map fun p => (p.1, evA t p.2))[i].1 ∧ RV ρ (parts.toList.map fun p => (p.1, evA t p.2))[i].2 ((parts.map fun (i, x) => (i, a.eval x)).toList.getD i (0, undef)).2 := fun i hi => by
      have hi' : i < parts.toList.length := by simpa using hi
      simp only [Array.toList_map, List.getD_eq_getElem?_getD, List.getElem?_map, List.getElem?_eq_getElem hi', Option.map_some, Option.getD_some, List.getElem_map, true_and]
      exact ev _ (by simp only [Op.operands]; exact List.mem_toArray.2 (List.mem_map.2 ⟨_, List.getElem_mem hi', rfl⟩))
    have hmm : (parts.toList.map fun p => (p.1, evA t p.2)).map (·.2) = parts.toList.map fun p => evA t p.2 := by simp [List.map_map, Function.comp_def]
    rcases hw with ⟨-, hel, hK⟩ | ⟨-, hel, hK⟩
    · obtain ⟨w', vc, ρ', hr, hle, hR', hv⟩ := lit_sound (P := P) (w := w) (ρ := ρ) he hs hz (parts := parts.toList.map fun p => (p.1, evA t p.2)) (partsc := parts.map fun (i, x) => (i, a.eval x)) (n := n) (by simpa using hn) (by simp) hpp ho (by rw [hmm]; exact hel) hbig h0 hR
      rw [hmm] at hv
      exact ⟨w', vc, ρ', _, h, .inl (by simp only [execOp, Sem.run_bind, hr, Result.andThen_ok, Sem.run_pure]), hle, hR', .pure _ _ hv, hK⟩
    · obtain ⟨w', vc, ρ', hr, hle, hR', hv⟩ := litM_sound (P := P) (w := w) (ρ := ρ) he hs hz (parts := parts.toList.map fun p => (p.1, evA t p.2)) (partsc := parts.map fun (i, x) => (i, a.eval x)) (n := n) (by simpa using hn) (by simp) hpp ho (by rw [hmm]; exact hel) hbig h0 hR
      rw [hmm] at hR'
      exact ⟨w', vc, ρ', _, _, .inl (by simp only [execOp, Sem.run_bind, hr, Result.andThen_ok, Sem.run_pure]), hle, hR', hv, hK⟩
  case nilCheck x =>
    have hx := ev x (by simp [Op.operands])
    unfold nilW at hw
    split at hw
    · rename_i b o he
      rw [he] at hx
      obtain ⟨ad, hp, hrest⟩ := inv_ptr hx
      exact ⟨w, a.eval x, ρ, _, h, .inl (by simp only [execOp, hp, Sem.run_pure]), .refl _, hR, hx, hw⟩
    · rename_i v he
      rw [he] at hx
      obtain ⟨ad, u, hp, hrest⟩ := inv_eptr hx
      exact ⟨w, a.eval x, ρ, _, h, .inl (by simp only [execOp, hp, Sem.run_pure]), .refl _, hR, hx, hw⟩
    · rename_i f x1 x2 he
      rw [he] at hx
      obtain ⟨vf, vb, hp, hrest⟩ := inv_func hx
      exact ⟨w, a.eval x, ρ, _, h, .inl (by simp only [execOp, hp, Sem.run_pure]), .refl _, hR, hx, hw⟩
    · exact hw.elim
  case binOp bop ty x y yt =>
    obtain ⟨vc, v, hr, hv, hK⟩ := bin_sound (P := P) (w := w) (xo := x) (yo := y) hw (ev x (by simp [Op.operands])) (ev y (by simp [Op.operands]))
    exact pure1 hr (.pure _ _ hv) hK rfl
  case unOp uop ty x =>
    obtain ⟨v, vc, hr, hv, hK⟩ := un_sound (P := P) (w := w) hw (ev x (by simp [Op.operands]))
    exact pure1 hr hv hK rfl
  case convert s d x =>
    obtain ⟨v, vc, hr, hv, hK⟩ := cv_sound (P := P) (w := w) hw (ev x (by simp [Op.operands]))
    exact pure1 hr hv hK rfl
  case makeFunc fn fs cs =>
    refine pure1 (s := Instr.makeFunc fn (fs.map a.eval) (cs.map a.eval)) (vc := .func fn (fs.map a.eval) (cs.map a.eval)) rfl (.func _ _ _ _ _ (by simp) (by simp) (fun i hi => ?_) (fun i hi => ?_)) hw rfl
    · have hi' : i < fs.size := by simpa using hi
      rw [List.getElem_map, Array.getD_eq_getD_getElem?, Array.getElem?_map, Array.getElem?_eq_getElem hi']
      exact ev _ (by simp only [Op.operands]; exact Array.mem_append_left _ (Array.getElem_mem hi'))
    · have hi' : i < cs.size := by simpa using hi
      rw [List.getElem_map, Array.getD_eq_getD_getElem?, Array.getElem?_map, Array.getElem?_eq_getElem hi']
      exact ev _ (by simp only [Op.operands]; exact Array.mem_append_right _ (Array.getElem_mem hi'))
  case makeInterface ty x => exact pure1 (run_makeInterface w ty (a.eval x) hw.1) (.iface _ _ _ (ev x (by simp [Op.operands]))) hw.2 rfl
  case makeSlice ty l c =>
    obtain ⟨el, sz, by_, z, kl, kc, n, he, hs, hb, hz, hm, hzl, h0, hl, hc, hn0, hn, hbig, hK⟩ := hw
    have hlv := ev l (by simp [Op.operands])
    have hcv := ev c (by simp [Op.operands])
    rw [hl] at hlv
    rw [hc] at hcv
    obtain ⟨w', vc, ρ', hr, hle, hR', hv⟩ := make_sound (P := P) (w := w) (ρ := ρ) (kl := kl) (kc := kc) he hs hb hz hm hzl h0 hn0 (by simp only [maxLen]; omega) hbig hR
    refine ⟨w', vc, ρ', _, _, .inl ?_, hle, hR', hv, hK⟩
    simp only [execOp, inv_int hlv, inv_int hcv, Sem.run_bind, hr, Result.andThen_ok, Sem.run_pure]
  case slice ty x lo hi mx =>
    have orv : ∀ (y : Option Operand), (∀ z, y = some z → z ∈ (Op.slice ty x lo hi mx).operands) → ORV ρ (y.map (evA t)) (y.map a.eval) := fun y hy => by
      cases y with
      | none => trivial
      | some z => exact ev z (hy z rfl)
    obtain ⟨v, vc, hr, hv, hK⟩ := cut_sound (P := P) (w := w) hw (ev x (by simp [Op.operands])) (orv lo (fun z hz => by subst hz; simp [Op.operands])) (orv hi (fun z hz => by subst hz; simp [Op.operands])) (orv mx (fun z hz => by subst hz; simp [Op.operands]))
    exact pure1 hr hv hK rfl
  case fieldAddr ty x f =>
    obtain ⟨v, vc, hr, hv, hK⟩ := fieldAddr_sound hw (ev x (by simp [Op.operands])) hR
    exact pure1 hr hv hK rfl
  case field ty x f =>
    obtain ⟨off, sz, ft, cs, hf, he, hw⟩ := hw
    have hx := ev x (by simp [Op.operands])
    rw [he] at hx
    obtain ⟨v, vc, hr, hv, hK⟩ := field_sound (w := w) hf hw hx
    exact pure1 hr hv hK rfl
  case indexAddr ty x i =>
    obtain ⟨v, vc, hr, hv, hK⟩ := idx_sound hw (ev x (by simp [Op.operands])) (ev i (by simp [Op.operands])) hR
    exact pure1 hr hv hK rfl
  case index ty x i =>
    obtain ⟨s, k, n, hs, hn, hk, h0, h1, hK⟩ := hw
    have hx := ev x (by simp [Op.operands])
    have hi := ev i (by simp [Op.operands])
    rw [hs] at hx
    rw [hn] at hi
    have hu := knT_str hk
    have hlt : n.toNat < s.size := by omega
    refine pure1 (s := Instr.index ty (a.eval x) (a.eval i)) (vc := .int .u8 ((s.data.toList.getD n.toNat 0).toNat : Int)) ?_ (.pure _ _ (.int _ _)) hK rfl
    have hg : s[n.toNat]? = some (s[n.toNat]'hlt) := getElem?_pos s n.toNat hlt
    have hd : s.data.toList.getD n.toNat 0 = s[n.toNat]'hlt := by
      have hlt' : n.toNat < s.data.toList.length := hlt
      rw [List.getD_eq_getElem?_getD, List.getElem?_eq_getElem hlt']
      rfl
    simp only [Instr.index, inv_str hx, inv_int hi, asIntOf, Sem.run_bind, Sem.run_pure, Result.andThen_ok, underlying, program, Sem.run, hu, if_pos h0, hg, hd]
  case extract x i =>
    obtain ⟨vs, he, hi, hK⟩ := hw
    have hx := ev x (by simp [Op.operands])
    rw [he] at hx
    obtain ⟨us, hu, hl, hv⟩ := inv_tup hx
    have hiu : i < us.size := by omega
    refine pure1 (s := Instr.extract (a.eval x) i) (vc := us.getD i undef) ?_ ?_ hK rfl
    · simp [Instr.extract, hu, Array.getElem?_eq_getElem hiu, Array.getD, hiu]
    · rw [List.getD_eq_getElem?_getD, List.getElem?_eq_getElem hi]
      exact hv i hi
  case call c =>
    split at hw
    · rename_i hcl
      obtain ⟨x, ty, ha, hty, hw⟩ := hw
      obtain ⟨callee, args, argTypes⟩ := c
      simp only at hcl ha hty
      subst hcl; subst ha; subst hty
      obtain ⟨v, vc, hr, hv, hK⟩ := len_sound (P := P) (w := w) (ty := type) hw (ev x (by simp [Op.operands, Call.operands]))
      refine ⟨w, vc, ρ, v, h, .inl ?_, .refl _, hR, hv, hK⟩
      simp [execOp, resolve, invoke, builtin, hr]
    · rename_i hcl
      obtain ⟨s, x, ty, ha, hty, hw⟩ := hw
      obtain ⟨callee, args, argTypes⟩ := c
      simp only at hcl ha hty
      subst hcl; subst ha; subst hty
      have hsv := ev s (by simp [Op.operands, Call.operands])
      have hxv := ev x (by simp [Op.operands, Call.operands])
      rcases hw with ⟨-, hw⟩ | ⟨-, hw⟩
      rotate_left
      · obtain ⟨e, by_, z, ys, he, hs, hb, hz, hm, hzl, hsrc, hys, hw⟩ := hw
        obtain ⟨ady, capy, us, hxe, hS⟩ : ∃ ady capy us, a.eval x = .slice (some ady) ys.length capy ∧ Src ρ w ady ys us := by
          unfold srcW at hsrc
          split at hsrc
          · rename_i sz zs g hx
            obtain ⟨rfl, h1, rfl⟩ := hsrc
            rw [hx] at hxv
            exact src_tree hR hxv h1 hys
          · rename_i b o n c hx
            obtain ⟨cs, h1, h2, rfl⟩ := hsrc
            rw [hx] at hxv
            obtain ⟨ad, cap, us, k1, k2⟩ := src_blk hR hxv h1 h2
            exact ⟨ad, cap, us, by rw [k1]; simp; omega, k2⟩
          · exact hsrc.elim
        have fin : ∀ {xs : List AV} {h1 : AH}, (xs = [] ∧ a.eval s = .slice none 0 0 ∧ h1 = h) ∨ (∃ b, h.f b = some xs ∧ h1 = h.rm b ∧ RV ρ (.bsl b 0 xs.length (.grow 1)) (a.eval s)) → xs.length + ys.length ≤ 4294967296 → (xs.length + ys.length) * by_ ≤ 140737488355328 → K (.bsl h.n 0 (xs.length + ys.length) (.grow 1)) (h1.mk_ (xs ++ ys)) →
            ∃ w' vc ρ' v h', runs P ((execOp a.eval { dst, op := .call { callee := .builtin .append, args := #[s, x], argTypes := #[ty, ty] }, type, pos, after, guard }).run P w) vc w' ∧ ρ.Le ρ' ∧ RH ρ' h' w' ∧ RV ρ' v vc ∧ K v h' := by
          intro xs h1 hsc h2 h3 hK
          obtain ⟨w', vc, ρ', hr, hle, hR', hv⟩ := app_blk (P := P) (t := ty) (ty := type) he hs hb hz hm hzl xs ys us hys hS (by simp only [maxLen]; omega) h3 hR hsc
          refine ⟨w', vc, ρ', _, _, .inl ?_, hle, hR', hv, hK⟩
          rw [← hxe] at hr
          simp [execOp, resolve, invoke, builtin, hr]
        split at hw
        · rename_i hse
          rw [hse] at hsv
          obtain ⟨h1, h2, hK⟩ := hw
          exact fin (xs := []) (.inl ⟨rfl, inv_nils hsv, rfl⟩) (by simp only [List.length_nil]; omega) (by simpa using h2) (by simpa using hK)
        · rename_i b o n c hse
          rw [hse] at hsv
          obtain ⟨rfl, rfl, cs, h1, rfl, h2, h3, hK⟩ := hw
          exact fin (.inr ⟨b, h1, rfl, hsv⟩) h2 h3 hK
        · exact hw.elim
      obtain ⟨e, sz, by_, z, he, hs, hb, hz, hm, hzl, h0, hw⟩ := hw
      have fin : ∀ {n : Nat} {zs : List AV} {κ : Option Nat} {K' : Prop}, AppRes P ρ h w ((Builtin.append_ #[ty, ty] type #[a.eval s, a.eval x]).run P w) sz n zs κ → K (.tree sz zs (.own (κ.getD h.k))) (match κ with | none => h.begun n | some κ => h.grown κ n) → ∃ w' vc ρ' v h', runs P ((execOp a.eval { dst, op := .call { callee := .builtin .append, args := #[s, x], argTypes := #[ty, ty] }, type, pos, after, guard }).run P w) vc w' ∧ ρ.Le ρ' ∧ RH ρ' h' w' ∧ RV ρ' v vc ∧ K v h' := by
        intro n zs κ K' hA hK
        obtain ⟨w', vc, ρ', hr, hle, hR', hv⟩ := hA.out
        refine ⟨w', vc, ρ', _, _, .inl ?_, hle, hR', hv, hK⟩
        simp [execOp, resolve, invoke, builtin, hr]
      split at hw
      · rename_i sz' ys g2 hxe
        obtain ⟨rfl, hys, hw⟩ := hw
        rw [hxe] at hxv
        split at hw
        · rename_i hse
          rw [hse] at hsv
          obtain ⟨h1, h2, hK⟩ := hw
          exact fin (K' := True) (app_tree (ty := type) he hs hb hz hm hzl h0 [] ys hys hxv (by simp only [maxLen, List.length_nil]; omega) (by simpa using h2) hR (κ := none) (.inl ⟨rfl, rfl, inv_nils hsv⟩)) (by simpa using hK)
        · rename_i sz'' xs hse
          rw [hse] at hsv
          obtain ⟨rfl, h1, h2, hK⟩ := hw
          exact fin (K' := True) (app_tree (ty := type) he hs hb hz hm hzl h0 xs ys hys hxv (by simp only [maxLen]; omega) h2 hR (κ := none) (.inr (.inl ⟨rfl, hsv⟩))) hK
        · rename_i sz'' xs κ hse
          rw [hse] at hsv
          obtain ⟨rfl, hgr, h1, h2, hK⟩ := hw
          exact fin (K' := True) (app_tree (ty := type) he hs hb hz hm hzl h0 xs ys hys hxv (by simp only [maxLen]; omega) h2 hR (κ := some κ) (.inr (.inr ⟨κ, rfl, hgr, hsv⟩))) hK
        · exact hw.elim
      · exact hw.elim
    · exact hw.elim
end
end Go.Eng
