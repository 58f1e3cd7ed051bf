/- An engine, part 13: each operation as a rule for simp, which never looks at what follows before its turn. Over any program. -/
import Derived.Test.YtgfhddockofdnaaE12
set_option linter.unusedVariables false
set_option linter.unusedSimpArgs false
namespace Go.Eng
open Go.RowKit (Below)

/-- What is there is handed on. -/
def onSome {α : Type} (o : Option α) (F : α → Prop) : Prop := ∃ x, o = some x ∧ F x
@[congr] theorem onSome_c {α : Type} {o o' : Option α} {F : α → Prop} (h : o = o') : onSome o F = onSome o' F := by rw [h]
theorem onSome_some {α : Type} (x : α) (F : α → Prop) : onSome (some x) F = F x := propext ⟨fun ⟨y, h, k⟩ => by cases h; exact k, fun k => ⟨x, rfl, k⟩⟩
def onBnd (d : Nat) (o : Option AV) (F : Nat → Prop) : Prop := ∃ l, bndA d o l ∧ F l
@[congr] theorem onBnd_c {d d' : Nat} {o o' : Option AV} {F : Nat → Prop} (h : d = d') (h2 : o = o') : onBnd d o F = onBnd d' o' F := by rw [h, h2]
theorem onBnd_none (d : Nat) (F : Nat → Prop) : onBnd d none F = F d := propext ⟨fun ⟨l, h, k⟩ => by simp only [bndA] at h; subst h; exact k, fun k => ⟨d, rfl, k⟩⟩
theorem onBnd_int (d : Nat) (k : IntKind) (n : Int) (F : Nat → Prop) : onBnd d (some (.int k n)) F = (0 ≤ n ∧ F n.toNat) := propext ⟨fun ⟨l, ⟨k', h⟩, kk⟩ => by
    simp only [AV.int.injEq] at h
    obtain ⟨rfl, rfl⟩ := h
    exact ⟨by omega, by simpa using kk⟩, fun ⟨h, kk⟩ => ⟨n.toNat, ⟨k, by simp only [AV.int.injEq, true_and]; omega⟩, kk⟩⟩
def aggW (x : AV) (F : List AV → Prop) : Prop := match x with
  | .agg cs => F cs
  | _ => False
@[congr] theorem aggW_c {x x' : AV} {F : List AV → Prop} (h : x = x') : aggW x F = aggW x' F := by rw [h]
theorem aggW_agg (cs : List AV) (F : List AV → Prop) : aggW (.agg cs) F = F cs := rfl
def tupW (x : AV) (F : List AV → Prop) : Prop := match x with
  | .tup cs => F cs
  | _ => False
@[congr] theorem tupW_c {x x' : AV} {F : List AV → Prop} (h : x = x') : tupW x F = tupW x' F := by rw [h]
theorem tupW_tup (cs : List AV) (F : List AV → Prop) : tupW (.tup cs) F = F cs := rfl
def gdV' (x : AV) (d : Nat) (e : Env) (b : Bool) (run skip : Env → Prop) : Prop := match x with
  | .bool c => gifW c b (run (e.put d (.bool b))) (skip (e.put d (.bool (!b))))
  | .tup [] => skip e
  | _ => False
def gdD (o : Option Tmp) (e : Env) (b : Bool) (run skip : Env → Prop) : Prop := match o with
  | none => skip e
  | some d => gdV' (lk e d) d e b run skip
@[congr] theorem gdV'_c {x x' : AV} {d : Nat} {e e' : Env} {b : Bool} {run skip : Env → Prop} (h : x = x') (h2 : e = e') : gdV' x d e b run skip = gdV' x' d e' b run skip := by rw [h, h2]
@[congr] theorem gdD_c {o o' : Option Tmp} {e e' : Env} {b : Bool} {run skip : Env → Prop} (h : o = o') (h2 : e = e') : gdD o e b run skip = gdD o' e' b run skip := by rw [h, h2]

section
variable {P : Program} {bl : Bool} {t s d : TypeId} {op : BinOp} {k k' : IntKind} {a b : Int} {E : Operand → AV} {e : Env} {h : AH} {K : AV → Prop} {K2 : AV → AH → Prop} {run skip : Env → Prop} {v : AV} {sz o n i : Nat} {xs cs : List AV} {g : Gr} {c : Cp} {x y : Operand}

theorem g_none {ops : List Oper} : guardW e ops none run skip = run e := rfl
theorem g_some {ops : List Oper} (j : Nat) (w : Bool) : guardW e ops (some (j, w)) run skip = gdD (dstAt ops j) e w run skip := rfl
theorem g_dnone (w : Bool) : gdD none e w run skip = skip e := rfl
theorem g_dsome (w : Bool) (j : Nat) : gdD (some j) e w run skip = gdV' (lk e j) j e w run skip := rfl
theorem g_bool (w z : Bool) (j : Nat) : gdV' (.bool z) j e w run skip = gifW z w (run (e.put j (.bool w))) (skip (e.put j (.bool (!w)))) := rfl
theorem g_undef (w : Bool) (j : Nat) : gdV' (.tup []) j e w run skip = skip e := rfl
theorem c_bool (z : Bool) (p q : Prop) : condW (.bool z) p q = gifW z true p q := rfl
theorem n_ptr (q : Nat) : nilW (.ptr q o) K = K (.ptr q o) := rfl
theorem n_eptr : nilW (.eptr v) K = K (.eptr v) := rfl
theorem n_func (f : FuncId) (p q : List AV) : nilW (.func (.func f) p q) K = K (.func (.func f) p q) := rfl
theorem b_int : binW P op t (.int k a) (.int k' b) K = ((freeK op = true ∨ k = k') ∧ arW op k a b K) := rfl
theorem b_booleq (p q : Bool) : binW P .eql t (.bool p) (.bool q) K = (knT P t = some 0 ∧ K (.bool (p == q))) := by simp [binW]
theorem b_boolne (p q : Bool) : binW P .neq t (.bool p) (.bool q) K = (knT P t = some 0 ∧ K (.bool (!(p == q)))) := by simp [binW]
theorem u_neg : unW .neg (.int k a) K = K (.int k (k.wrap (0 - a))) := rfl
theorem u_not (p : Bool) : unW .not (.bool p) K = K (.bool (!p)) := rfl
theorem u_xor : unW .xor (.int k a) K = arW .xor k (if k.signed then -1 else k.max) a K := rfl
theorem cv_int : cvW P s d (.int k a) K = ((P.underlying s).isSome = true ∧ onSome (kdT P d) fun k => K (.int k (k.wrap a))) := rfl
theorem l_eptr : loadW P t (.eptr v) h K2 = (fitsB P t v = true ∧ K2 v h) := rfl
theorem l_ptr (q : Nat) : loadW P t (.ptr q o) h K2 = onSome (h.f q) fun cs => onSome (agT P t) fun ag => gifW ag false (o < cs.length ∧ K2 (cs.getD o .junk) h) (onSome (szT P t) fun n => o + n ≤ cs.length ∧ K2 (.agg ((cs.drop o).take n)) h) := by
  refine propext ⟨fun ⟨cs, h1, h2⟩ => ⟨cs, h1, ?_⟩, fun ⟨cs, h1, ag, h2, h3⟩ => ⟨cs, h1, ?_⟩⟩
  · rcases h2 with ⟨h2, h3⟩ | ⟨n, h2, h3, h4⟩
    · exact ⟨false, h2, ⟨fun _ => h3, fun h => by cases h⟩⟩
    · exact ⟨true, h2, ⟨fun h => (by cases h), fun _ => ⟨n, h3, h4⟩⟩⟩
  · cases ag with
    | false => exact .inl ⟨h2, h3.1 rfl⟩
    | true => obtain ⟨n, h4, h5⟩ := h3.2 rfl; exact .inr ⟨n, h2, h4, h5⟩
theorem s_ptr (q : Nat) : storeW P t (.ptr q o) v h K2 = onSome (h.f q) fun cs => memA v = true ∧ szT P t = some (cellsA v).length ∧ o + (cellsA v).length ≤ cs.length ∧ K2 .junk (h.put q (splice cs o (cellsA v))) := rfl
theorem len_nils : lenW P t .nils K = (knT P t = some 3 ∧ K (.int .i64 0)) := rfl
theorem len_tree : lenW P t (.tree sz xs g) K = (knT P t = some 3 ∧ K (.int .i64 (xs.length : Int))) := rfl
theorem len_bsl (q : Nat) : lenW P t (.bsl q o n c) K = (knT P t = some 3 ∧ K (.int .i64 (n : Int))) := rfl
theorem ix_tree : idxAW P t (.tree sz xs g) (.int k a) K = onSome (elT P t) fun e => szT P e = some sz ∧ 0 ≤ a ∧ a < (xs.length : Int) ∧ K (.eptr (xs.getD a.toNat .junk)) := rfl
theorem ix_bsl (q : Nat) : idxAW P t (.bsl q o n c) (.int k a) K = onSome (elT P t) fun e => onSome (szT P e) fun s => 0 ≤ a ∧ a < (n : Int) ∧ K (.ptr q (o + a.toNat * s)) := by
  refine propext ⟨fun ⟨e, s, h1, h2, h3⟩ => ⟨e, h1, s, h2, h3⟩, fun ⟨e, h1, s, h2, h3⟩ => ⟨e, s, h1, h2, h3⟩⟩
theorem ix_row (r : List Int) : idxAW P t (rowV r) (.int k a) K = ((onSome (elT P t) fun e => szT P e = some 1) ∧ 0 ≤ a ∧ a < (r.length : Int) ∧ K (.eptr (.int .i64 (r.getD a.toNat 0)))) := by
  rw [idx_row]; rfl
theorem ix_mat (M : List (List Int)) : idxAW P t (matV M) (.int k a) K = ((onSome (elT P t) fun e => szT P e = some 1) ∧ 0 ≤ a ∧ a < (M.length : Int) ∧ K (.eptr (rowV (M.getD a.toNat [])))) := by
  rw [idx_mat]; rfl
theorem p_part (off : Nat) (ft : TypeId) : partW P off sz ft cs K = onSome (agT P ft) fun ag => gifW ag false (off < cs.length ∧ K (cs.getD off .junk)) (off + sz ≤ cs.length ∧ K (.agg ((cs.drop off).take sz))) := by
  refine propext ⟨fun h => ?_, fun ⟨ag, h2, h3⟩ => ?_⟩
  · rcases h with ⟨h2, h3⟩ | ⟨h2, h3⟩
    · exact ⟨false, h2, ⟨fun _ => h3, fun h => by cases h⟩⟩
    · exact ⟨true, h2, ⟨fun h => (by cases h), fun _ => h3⟩⟩
  · cases ag with
    | false => exact .inl ⟨h2, h3.1 rfl⟩
    | true => exact .inr ⟨h2, h3.2 rfl⟩
theorem f_ptr (q f : Nat) : fldAW P t (.ptr q o) f K = onSome (fldT P t f) fun p => p.2.1 ≠ 0 ∧ K (.ptr q (o + p.1)) := by
  refine propext ⟨fun ⟨off, sz, ft, h1, h2, h3⟩ => ⟨_, h1, h2, h3⟩, fun ⟨⟨off, sz, ft⟩, h1, h2, h3⟩ => ⟨off, sz, ft, h1, h2, h3⟩⟩
theorem f_eptr (f : Nat) : fldAW P t (.eptr (.agg cs)) f K = onSome (fldT P t f) fun p => p.2.1 ≠ 0 ∧ partW P p.1 p.2.1 p.2.2 cs fun v => K (.eptr v) := by
  refine propext ⟨fun ⟨off, sz, ft, h1, h2, h3⟩ => ⟨_, h1, h2, h3⟩, fun ⟨⟨off, sz, ft⟩, h1, h2, h3⟩ => ⟨off, sz, ft, h1, h2, h3⟩⟩
theorem call_func (f : FuncId) (p q args : List AV) : callW P (.func (.func f) p q) args h K2 = (okF P f = true ∧ ACalls P f (p ++ args ++ q) h K2) := rfl

/-! whole operations -/
theorem o_move : opW P bl (.move x) E h K2 = K2 (E x) h := rfl
theorem o_assign : opW P bl (.assign x) E h K2 = K2 (E x) h := rfl
theorem o_pick (z : Operand) : opW P bl (.pick z x y) E h K2 = condW (E z) (K2 (E x) h) (K2 (E y) h) := rfl
theorem o_load : opW P bl (.load t x) E h K2 = loadW P t (E x) h K2 := rfl
theorem o_store : opW P bl (.store t x y) E h K2 = storeW P t (E x) (E y) h K2 := rfl
theorem o_box : opW P bl (.box t x) E h K2 = (memA (E x) = true ∧ K2 (.ptr h.n 0) (h.mk_ (cellsA (E x)))) := rfl
theorem o_alloc : opW P bl (.alloc t) E h K2 = onSome (zrT P t) fun z => memA z = true ∧ K2 (.ptr h.n 0) (h.mk_ (cellsA z)) := rfl
theorem o_build (ps : Array (Nat × Operand)) : opW P bl (.build t ps) E h K2 = onSome (bdT P t) fun p => onSome (fillA p.2 p.1 (ps.toList.map fun q => (q.1, E q.2))) fun out => K2 (.agg out) h := by
  refine propext ⟨fun ⟨za, pl, out, h1, h2, h3⟩ => ⟨_, h1, out, h2, h3⟩, fun ⟨⟨za, pl⟩, h1, out, h2, h3⟩ => ⟨za, pl, out, h1, h2, h3⟩⟩
theorem o_lit (m : Nat) (ps : Array (Nat × Operand)) : opW P false (.buildSlice t m ps) E h K2 = onSome (elT P t) fun el => onSome (szT P el) fun sz => (zrT P el).isSome = true ∧ 0 < sz ∧ ps.toList.length = m ∧ inOrder 0 (ps.toList.map fun p => (p.1, E p.2)) = true ∧ m * sz ≤ 16777216 ∧
    allB (elemB sz) (ps.toList.map fun p => E p.2) = true ∧ K2 (.tree sz (roL (ps.toList.map fun p => E p.2)) .full) h := by
  refine propext ⟨fun ⟨el, sz, h1, h2, h3, h4, h5, h6, h7, h8⟩ => ?_, fun ⟨el, h1, sz, h2, h3, h4, h5, h6, h7, h8, h9⟩ => ⟨el, sz, h1, h2, h3, h4, h5, h6, h7, .inl ⟨rfl, h8, h9⟩⟩⟩
  rcases h8 with ⟨-, h8, h9⟩ | ⟨h8, -⟩
  · exact ⟨el, h1, sz, h2, h3, h4, h5, h6, h7, h8, h9⟩
  · cases h8
theorem o_litM (m : Nat) (ps : Array (Nat × Operand)) : opW P true (.buildSlice t m ps) E h K2 = onSome (elT P t) fun el => onSome (szT P el) fun sz => (zrT P el).isSome = true ∧ 0 < sz ∧ ps.toList.length = m ∧ inOrder 0 (ps.toList.map fun p => (p.1, E p.2)) = true ∧ m * sz ≤ 16777216 ∧
    allB (elemM sz) (ps.toList.map fun p => E p.2) = true ∧ K2 (.bsl h.n 0 m .full) (h.mk_ (catA (ps.toList.map fun p => E p.2))) := by
  refine propext ⟨fun ⟨el, sz, h1, h2, h3, h4, h5, h6, h7, h8⟩ => ?_, fun ⟨el, h1, sz, h2, h3, h4, h5, h6, h7, h8, h9⟩ => ⟨el, sz, h1, h2, h3, h4, h5, h6, h7, .inr ⟨rfl, h8, h9⟩⟩⟩
  rcases h8 with ⟨h8, -⟩ | ⟨-, h8, h9⟩
  · cases h8
  · exact ⟨el, h1, sz, h2, h3, h4, h5, h6, h7, h8, h9⟩
theorem o_nil : opW P bl (.nilCheck x) E h K2 = nilW (E x) fun v => K2 v h := rfl
theorem o_bin (yt : TypeId) : opW P bl (.binOp op t x y yt) E h K2 = binW P op t (E x) (E y) fun v => K2 v h := rfl
theorem o_un (u : UnOp) : opW P bl (.unOp u t x) E h K2 = unW u (E x) fun v => K2 v h := rfl
theorem o_cv : opW P bl (.convert s d x) E h K2 = cvW P s d (E x) fun v => K2 v h := rfl
theorem o_func (fn : Fn) (p q : Array Operand) : opW P bl (.makeFunc fn p q) E h K2 = K2 (.func fn (p.toList.map E) (q.toList.map E)) h := rfl
def mkW (P : Program) (t : TypeId) (x y : AV) (h : AH) (K : AV → AH → Prop) : Prop := match x, y with
  | .int _ n, .int _ m => n = m ∧ 0 ≤ n ∧ n ≤ 4294967296 ∧ onSome (elT P t) fun el => onSome (szT P el) fun sz => onSome (byT P el) fun by_ => onSome (zrT P el) fun z => memA z = true ∧ (cellsA z).length = sz ∧ 0 < sz ∧ n.toNat * by_ ≤ 140737488355328 ∧ K (.bsl h.n 0 n.toNat .full) (h.mk_ (copies (cellsA z) n.toNat))
  | _, _ => False
@[congr] theorem mkW_c {p p' q q' : AV} {h h' : AH} (h1 : p = p') (h2 : q = q') (h3 : h = h') : mkW P t p q h K2 = mkW P t p' q' h' K2 := by rw [h1, h2, h3]
theorem m_int : mkW P t (.int k a) (.int k' b) h K2 = (a = b ∧ 0 ≤ a ∧ a ≤ 4294967296 ∧ onSome (elT P t) fun el => onSome (szT P el) fun sz => onSome (byT P el) fun by_ => onSome (zrT P el) fun z => memA z = true ∧ (cellsA z).length = sz ∧ 0 < sz ∧ a.toNat * by_ ≤ 140737488355328 ∧ K2 (.bsl h.n 0 a.toNat .full) (h.mk_ (copies (cellsA z) a.toNat))) := rfl
theorem o_make : opW P bl (.makeSlice t x y) E h K2 = mkW P t (E x) (E y) h K2 := by
  refine propext ⟨fun ⟨el, sz, by_, z, kl, kc, n, h1, h2, h3, h4, h5, h6, h7, h8, h9, h10, h11, h12, h13⟩ => ?_, fun hm => ?_⟩
  · rw [h8, h9]
    exact ⟨rfl, h10, h11, el, h1, sz, h2, by_, h3, z, h4, h5, h6, h7, h12, h13⟩
  · unfold mkW at hm
    split at hm
    · rename_i kl n kc m hx hy
      obtain ⟨rfl, h10, h11, el, h1, sz, h2, by_, h3, z, h4, h5, h6, h7, h12, h13⟩ := hm
      exact ⟨el, sz, by_, z, kl, kc, n, h1, h2, h3, h4, h5, h6, h7, hx, hy, h10, h11, h12, h13⟩
    · exact hm.elim
theorem o_slice (lo hi mx : Option Operand) : opW P bl (.slice t x lo hi mx) E h K2 = cutW P t (E x) (lo.map E) (hi.map E) (mx.map E) fun v => K2 v h := rfl
theorem o_fldA (f : Nat) : opW P bl (.fieldAddr t x f) E h K2 = fldAW P t (E x) f fun v => K2 v h := rfl
theorem o_fld (f : Nat) : opW P bl (.field t x f) E h K2 = onSome (fldT P t f) fun p => aggW (E x) fun cs => partW P p.1 p.2.1 p.2.2 cs fun v => K2 v h := by
  refine propext ⟨fun ⟨off, sz, ft, cs, h1, h2, h3⟩ => ⟨_, h1, by rw [h2]; exact h3⟩, fun ⟨⟨off, sz, ft⟩, h1, h2⟩ => ?_⟩
  unfold aggW at h2
  split at h2
  · rename_i cs hc; exact ⟨off, sz, ft, cs, h1, hc, h2⟩
  · exact h2.elim
theorem o_ixA : opW P bl (.indexAddr t x y) E h K2 = idxAW P t (E x) (E y) fun v => K2 v h := rfl
theorem o_ext (j : Nat) : opW P bl (.extract x j) E h K2 = tupW (E x) fun vs => j < vs.length ∧ K2 (vs.getD j .junk) h := by
  refine propext ⟨fun ⟨vs, h1, h2, h3⟩ => by rw [h1]; exact ⟨h2, h3⟩, fun h2 => ?_⟩
  unfold tupW at h2
  split at h2
  · rename_i vs hc; exact ⟨vs, hc, h2.1, h2.2⟩
  · exact h2.elim
theorem o_len : opW P bl (.call ⟨.builtin .len, #[x], #[t]⟩) E h K2 = lenW P t (E x) fun v => K2 v h := by
  refine propext ⟨fun ⟨x', t', h1, h2, h3⟩ => ?_, fun h3 => ⟨x, t, rfl, rfl, h3⟩⟩
  simp only [Array.mk.injEq, List.cons.injEq, and_true] at h1 h2
  rw [h1, h2]; exact h3
theorem o_app : opW P false (.call ⟨.builtin .append, #[x, y], #[t, t]⟩) E h K2 = appW P t (E x) (E y) h K2 := by
  refine propext ⟨fun ⟨x', y', t', h1, h2, h3⟩ => ?_, fun h3 => ⟨x, y, t, rfl, rfl, .inl ⟨rfl, h3⟩⟩⟩
  simp only [Array.mk.injEq, List.cons.injEq, and_true] at h1 h2
  obtain ⟨rfl, rfl⟩ := h1
  obtain ⟨rfl, -⟩ := h2
  exact h3.elim (fun h => h.2) (fun h => by cases h.1)
theorem o_appB : opW P true (.call ⟨.builtin .append, #[x, y], #[t, t]⟩) E h K2 = appBW P t (E x) (E y) h K2 := by
  refine propext ⟨fun ⟨x', y', t', h1, h2, h3⟩ => ?_, fun h3 => ⟨x, y, t, rfl, rfl, .inr ⟨rfl, h3⟩⟩⟩
  simp only [Array.mk.injEq, List.cons.injEq, and_true] at h1 h2
  obtain ⟨rfl, rfl⟩ := h1
  obtain ⟨rfl, -⟩ := h2
  exact h3.elim (fun h => by cases h.1) (fun h => h.2)
theorem st_call (args : Array Operand) (ts : Array TypeId) : stepW P bl (.call ⟨.value x, args, ts⟩) E h K2 = callW P (E x) (args.toList.map E) h K2 := rfl
theorem st_built (f : Builtin) (args : Array Operand) (ts : Array TypeId) : stepW P bl (.call ⟨.builtin f, args, ts⟩) E h K2 = opW P bl (.call ⟨.builtin f, args, ts⟩) E h K2 := rfl

theorem cut_tree {lo hi : Option AV} : cutW P t (.tree sz xs g) lo hi none K = onSome (elT P t) fun e => szT P e = some sz ∧ onBnd 0 lo fun l => onBnd xs.length hi fun r => l ≤ r ∧ r ≤ xs.length ∧ K (.tree sz ((xs.take r).drop l) .ro) := by
  refine propext ⟨fun ⟨e, h1, h2, l, r, h3, h4, h5, h6, h7⟩ => ?_, fun ⟨e, h1, h2, l, h3, r, h4, h5, h6, h7⟩ => ⟨e, h1, h2, l, r, h3, h4, h5, h6, .inl ⟨rfl, h7⟩⟩⟩
  rcases h7 with ⟨-, h7⟩ | ⟨_, _, _, h, -⟩
  · exact ⟨e, h1, h2, l, h3, r, h4, h5, h6, h7⟩
  · cases h
theorem cut_row {lo hi : Option AV} (r : List Int) : cutW P t (rowV r) lo hi none K = onSome (elT P t) fun e => szT P e = some 1 ∧ onBnd 0 lo fun l => onBnd r.length hi fun q => l ≤ q ∧ q ≤ r.length ∧ K (rowV ((r.take q).drop l)) := by
  rw [rowV, cut_tree]
  simp only [rowV, List.length_map, List.map_drop, List.map_take]
theorem cut_mat {lo hi : Option AV} (M : List (List Int)) : cutW P t (matV M) lo hi none K = onSome (elT P t) fun e => szT P e = some 1 ∧ onBnd 0 lo fun l => onBnd M.length hi fun q => l ≤ q ∧ q ≤ M.length ∧ K (matV ((M.take q).drop l)) := by
  rw [matV, cut_tree]
  simp only [matV, List.length_map, List.map_drop, List.map_take]
theorem cut_bsl {lo hi : Option AV} (q : Nat) : cutW P t (.bsl q o n c) lo hi none K = onSome (elT P t) fun e => onSome (szT P e) fun s => onBnd 0 lo fun l => onBnd n hi fun r => l ≤ r ∧ r ≤ n ∧ (l < r ∨ l = 0) ∧ K (.bsl q (o + l * s) (r - l) .ro) := by
  refine propext ⟨fun ⟨e, s, h1, h2, l, r, h3, h4, h5, h6, h7, h8, h9⟩ => ⟨e, h1, s, h2, l, h3, r, h4, h5, h6, h8, h9⟩, fun ⟨e, h1, s, h2, l, h3, r, h4, h5, h6, h8, h9⟩ => ⟨e, s, h1, h2, l, r, h3, h4, h5, h6, rfl, h8, h9⟩⟩

/-- append, elements that may be written. -/
def srcB (h : AH) (x : AV) (F : List AV → Prop) : Prop := match x with
  | .tree sz zs _ => sz = 1 ∧ allB oneA zs = true ∧ F zs
  | .bsl b o n _ => onSome (h.f b) fun cs => o + n ≤ cs.length ∧ F ((cs.drop o).take n)
  | _ => False
@[congr] theorem srcB_c {p p' : AV} {h h' : AH} {F : List AV → Prop} (h1 : p = p') (h2 : h = h') : srcB h p F = srcB h' p' F := by rw [h1, h2]
theorem sb_tree {F : List AV → Prop} : srcB h (.tree sz xs g) F = (sz = 1 ∧ allB oneA xs = true ∧ F xs) := rfl
theorem sb_bsl (q : Nat) {F : List AV → Prop} : srcB h (.bsl q o n c) F = onSome (h.f q) fun cs => o + n ≤ cs.length ∧ F ((cs.drop o).take n) := rfl
theorem srcW_eq (p : AV) (F : List AV → Prop) : (∃ ys, srcW h p ys ∧ F ys) = srcB h p F := by
  unfold srcW srcB
  split
  · exact propext ⟨fun ⟨ys, ⟨h1, h2, h3⟩, h4⟩ => ⟨h1, h2, h3 ▸ h4⟩, fun ⟨h1, h2, h3⟩ => ⟨_, ⟨h1, h2, rfl⟩, h3⟩⟩
  · exact propext ⟨fun ⟨ys, ⟨cs, h1, h2, h3⟩, h4⟩ => ⟨cs, h1, h2, h3 ▸ h4⟩, fun ⟨cs, h1, h2, h3⟩ => ⟨_, ⟨cs, h1, h2, rfl⟩, h3⟩⟩
  · rename_i h1 h2
    exact propext ⟨fun ⟨ys, h, _⟩ => (by cases p <;> first | exact h.elim | exact (h1 _ _ _ rfl).elim | exact (h2 _ _ _ _ rfl).elim), fun h => (by cases p <;> first | exact h.elim | exact (h1 _ _ _ rfl).elim | exact (h2 _ _ _ _ rfl).elim)⟩
theorem ab_nils {p : AV} : appBW P t .nils p h K2 = onSome (elT P t) fun e => szT P e = some 1 ∧ onSome (byT P e) fun by_ => onSome (zrT P e) fun z => memA z = true ∧ (cellsA z).length = 1 ∧ srcB h p fun ys => ys ≠ [] ∧ ys.length ≤ 4294967296 ∧ ys.length * by_ ≤ 140737488355328 ∧ K2 (.bsl h.n 0 ys.length (.grow 1)) (h.mk_ ys) := by
  simp only [← srcW_eq]
  exact propext ⟨fun ⟨e, by_, z, ys, h1, h2, h3, h4, h5, h6, h7, h8, h9⟩ => ⟨e, h1, h2, by_, h3, z, h4, h5, h6, ys, h7, h8, h9⟩, fun ⟨e, h1, h2, by_, h3, z, h4, h5, h6, ys, h7, h8, h9⟩ => ⟨e, by_, z, ys, h1, h2, h3, h4, h5, h6, h7, h8, h9⟩⟩
theorem ab_bsl {p : AV} (q : Nat) : appBW P t (.bsl q 0 n (.grow 1)) p h K2 = onSome (elT P t) fun e => szT P e = some 1 ∧ onSome (byT P e) fun by_ => onSome (zrT P e) fun z => memA z = true ∧ (cellsA z).length = 1 ∧ srcB h p fun ys => ys ≠ [] ∧ onSome (h.f q) fun cs => cs.length = n ∧ n + ys.length ≤ 4294967296 ∧ (n + ys.length) * by_ ≤ 140737488355328 ∧ K2 (.bsl h.n 0 (n + ys.length) (.grow 1)) ((h.rm q).mk_ (cs ++ ys)) := by
  simp only [← srcW_eq]
  exact propext ⟨fun ⟨e, by_, z, ys, h1, h2, h3, h4, h5, h6, h7, h8, _, _, cs, h9⟩ => ⟨e, h1, h2, by_, h3, z, h4, h5, h6, ys, h7, h8, cs, h9⟩, fun ⟨e, h1, h2, by_, h3, z, h4, h5, h6, ys, h7, h8, cs, h9⟩ => ⟨e, by_, z, ys, h1, h2, h3, h4, h5, h6, h7, h8, rfl, rfl, cs, h9⟩⟩

theorem fit_int : fitsB P t (.int k a) = (agT P t == some false) := by simp [fitsB, oneA]
theorem fit_bool (p : Bool) : fitsB P t (.bool p) = (agT P t == some false) := by simp [fitsB, oneA]
theorem fit_tree : fitsB P t (.tree sz xs g) = (agT P t == some false) := by simp [fitsB, oneA]
theorem fit_agg : fitsB P t (.agg cs) = (agT P t == some true && szT P t == some cs.length) := rfl
theorem fit_nils : fitsB P t .nils = (agT P t == some false) := by simp [fitsB, oneA]
end
end Go.Eng
