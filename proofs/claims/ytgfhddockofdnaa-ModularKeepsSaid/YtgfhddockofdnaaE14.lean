/- An engine, part 14: code operation by operation, what follows behind a name. Over any program. -/
import Derived.Test.YtgfhddockofdnaaE13
set_option linter.unusedVariables false
set_option linter.unusedSimpArgs false
namespace Go.Eng

section
variable {P : Program} {N : Nat} {bl : Bool} {ops r : List Oper} {o : Oper} {e : Env} {h : AH} {K : Env → AH → Prop} {Q : Post}

theorem good_reg {id : Nat} {a : Array Oper} (bl : Bool) (hg : ∀ K : Env → AH → Prop, (∀ e h, Q .normal e h → K e h) → runL P bl a.toList a.toList e h K) : Good P N (.region id a false) e h Q := good_region bl (hg _ fun _ _ h => h)
theorem good_drw {id : Nat} {a : Array Oper} (hm : P.follows .mixedOrders = true) (bl : Bool) (bf : List (List Nat)) (plan : List Nat) (hp : planOk bl a.toList bf plan = true)
    (hg : ∀ K : Env → AH → Prop, (∀ e h, Q .normal e h → K e h) → regW P bl a.toList bf plan [] e h K) : Good P N (.region id a true) e h Q := good_draw hm bl bf plan hp (hg _ fun _ _ h => h)

theorem runL_nil (hk : K e h) : runL P bl ops [] e h K := hk
theorem runL_none (hg : o.guard = none) (h1 : ∀ K2 : AV → AH → Prop, (∀ v h', runL P bl ops r (putE o.dst v e) h' K → K2 v h') → stepW P bl o.op (evA (lk e)) h K2) : runL P bl ops (o :: r) e h K := by
  unfold runL
  rw [hg]
  exact h1 _ fun _ _ h => h
theorem runL_some {j d : Nat} {b : Bool} (hg : o.guard = some (j, b)) (hd : dstAt ops j = some d)
    (h1 : ∀ R S : Env → Prop, (∀ e, (∀ K2 : AV → AH → Prop, (∀ v h', runL P bl ops r (putE o.dst v e) h' K → K2 v h') → stepW P bl o.op (evA (lk e)) h K2) → R e) → (∀ e, runL P bl ops r (putE o.dst (.tup []) e) h K → S e) → gdV' (lk e d) d e b R S) : runL P bl ops (o :: r) e h K := by
  unfold runL
  rw [hg, g_some, hd, g_dsome]
  exact h1 _ _ (fun e hk => hk _ fun _ _ h => h) (fun _ h => h)

variable {bf : List (List Nat)} {i : Nat} {pl : List Nat} {log : List (Nat × Nat × Option (List AV))}
theorem regW_nil (hk : K e h) : regW P bl ops bf [] log e h K := hk
/-- A light operation that looks at no block. -/
theorem regW_light (ho : opAt ops i = some o) (hl : lightB bl o.op = true) (hg : o.guard = none) (hm : ∀ E h, memoOf o.op E h = []) (h1 : ∀ K2 : AV → AH → Prop, (∀ v h', regW P bl ops bf pl log (putE o.dst v e) h' K → K2 v h') → stepW P bl o.op (evA (lk e)) h K2) : regW P bl ops bf (i :: pl) log e h K := by
  simp only [regW, ho, hl, cond_true, hg, g_none, hm, List.map_nil, List.append_nil]
  exact h1 _ fun _ _ h => h
theorem regW_lguard {j d : Nat} {b : Bool} (ho : opAt ops i = some o) (hl : lightB bl o.op = true) (hg : o.guard = some (j, b)) (hd : dstAt ops j = some d) (hm : ∀ E h, memoOf o.op E h = [])
    (h1 : ∀ R S : Env → Prop, (∀ e, (∀ K2 : AV → AH → Prop, (∀ v h', regW P bl ops bf pl log (putE o.dst v e) h' K → K2 v h') → stepW P bl o.op (evA (lk e)) h K2) → R e) → (∀ e, regW P bl ops bf pl log (putE o.dst (.tup []) e) h K → S e) → gdV' (lk e d) d e b R S) : regW P bl ops bf (i :: pl) log e h K := by
  simp only [regW, ho, hl, cond_true, hg, g_some, hd, g_dsome, hm, List.map_nil, List.append_nil]
  exact h1 _ _ (fun e hk => hk _ fun _ _ h => h) (fun _ h => h)
/-- A load: from a value that stays, or from a block. -/
theorem regW_loadV {t : TypeId} {x : Operand} {v : AV} (ho : opAt ops i = some o) (hop : o.op = .load t x) (hg : o.guard = none) (hx : evA (lk e) x = .eptr v) (hf : fitsB P t v = true) (h1 : regW P bl ops bf pl log (putE o.dst v e) h K) : regW P bl ops bf (i :: pl) log e h K := by
  simp only [regW, ho, hop, lightB, cond_true, hg, g_none, memoOf, hx, List.map_nil, List.append_nil, stepW, o_load, l_eptr]
  exact ⟨hf, h1⟩
theorem regW_loadB {t : TypeId} {x : Operand} {b q : Nat} (ho : opAt ops i = some o) (hop : o.op = .load t x) (hg : o.guard = none) (hx : evA (lk e) x = .ptr b q)
    (h1 : ∀ K2 : AV → AH → Prop, (∀ v h', regW P bl ops bf pl (log ++ [(i, b, h.f b)]) (putE o.dst v e) h' K → K2 v h') → loadW P t (.ptr b q) h K2) : regW P bl ops bf (i :: pl) log e h K := by
  simp only [regW, ho, hop, lightB, cond_true, hg, g_none, memoOf, hx, List.map_cons, List.map_nil, stepW, o_load]
  exact h1 _ fun _ _ h => h
theorem regW_heavy (ho : opAt ops i = some o) (hl : lightB bl o.op = false) (h1 : ∀ K2 : AV → AH → Prop, (∀ v h', logOk (befA bf i) log h' → regW P bl ops bf pl log (putE o.dst v e) h' K → K2 v h') → stepW P bl o.op (evA (lk e)) h K2) : regW P bl ops bf (i :: pl) log e h K := by
  simp only [regW, ho, hl, cond_false]
  exact h1 _ fun _ _ h k => ⟨h, k⟩
end

def loadR (x : AV) (F1 : AV → Prop) (F2 : Nat → Nat → Prop) : Prop := match x with
  | .eptr u => F1 u
  | .ptr b q => F2 b q
  | _ => False
@[congr] theorem loadR_c {x x' : AV} {F1 : AV → Prop} {F2 : Nat → Nat → Prop} (h : x = x') : loadR x F1 F2 = loadR x' F1 F2 := by rw [h]
theorem ld_eptr {u : AV} {F1 : AV → Prop} {F2 : Nat → Nat → Prop} : loadR (.eptr u) F1 F2 = F1 u := rfl
theorem ld_ptr {b q : Nat} {F1 : AV → Prop} {F2 : Nat → Nat → Prop} : loadR (.ptr b q) F1 F2 = F2 b q := rfl
section
variable {P : Program} {N : Nat} {bl : Bool} {ops r : List Oper} {o : Oper} {e : Env} {h : AH} {K : Env → AH → Prop} {bf : List (List Nat)} {i : Nat} {pl : List Nat} {log : List (Nat × Nat × Option (List AV))}
theorem regW_load {t : TypeId} {x : Operand} (ho : opAt ops i = some o) (hop : o.op = .load t x) (hg : o.guard = none)
    (h1 : ∀ (F1 : AV → Prop) (F2 : Nat → Nat → Prop), (∀ u, fitsB P t u = true → regW P bl ops bf pl log (putE o.dst u e) h K → F1 u) →
      (∀ b q, (∀ K2 : AV → AH → Prop, (∀ v h', regW P bl ops bf pl (log ++ [(i, b, h.f b)]) (putE o.dst v e) h' K → K2 v h') → loadW P t (.ptr b q) h K2) → F2 b q) → loadR (evA (lk e) x) F1 F2) : regW P bl ops bf (i :: pl) log e h K := by
  have := h1 _ _ (fun u hf hr => (⟨hf, hr⟩ : fitsB P t u = true ∧ regW P bl ops bf pl log (putE o.dst u e) h K)) (fun b q hk => hk)
  unfold loadR at this
  split at this
  · rename_i u hu; exact regW_loadV ho hop hg hu this.1 this.2
  · rename_i b q hu; exact regW_loadB ho hop hg hu this
  · exact this.elim
theorem regW_lload {t : TypeId} {x : Operand} {j d : Nat} {b : Bool} (ho : opAt ops i = some o) (hop : o.op = .load t x) (hg : o.guard = some (j, b)) (hd : dstAt ops j = some d)
    (h1 : ∀ R S : Env → Prop, (∀ e, (∀ F1 : AV → Prop, (∀ u, fitsB P t u = true → regW P bl ops bf pl log (putE o.dst u e) h K → F1 u) → loadR (evA (lk e) x) F1 (fun _ _ => False)) → R e) → (∀ e, regW P bl ops bf pl log (putE o.dst (.tup []) e) h K → S e) → gdV' (lk e d) d e b R S) : regW P bl ops bf (i :: pl) log e h K := by
  simp only [regW, ho, hop, lightB, cond_true, hg, g_some, hd, g_dsome]
  refine h1 _ _ (fun e hk => ?_) (fun _ h => h)
  have := hk _ (fun u hf hr => (⟨hf, hr⟩ : fitsB P t u = true ∧ regW P bl ops bf pl log (putE o.dst u e) h K))
  unfold loadR at this
  split at this
  · rename_i u hu
    simp only [stepW, o_load, memoOf, hu, l_eptr, List.map_nil, List.append_nil]
    exact this
  · exact this.elim
  · exact this.elim
end
/-- A loop's next round. -/
def Again {σ : Type} (env : σ → Env) (heap : σ → AH) (inv : σ → Prop) (μ : σ → Nat) (n : Nat) (e : Env) (h : AH) : Prop := ∃ s, inv s ∧ μ s < n ∧ Env.holds (env s) e ∧ heap s = h
@[congr] theorem Again_c {σ : Type} {env : σ → Env} {heap : σ → AH} {inv : σ → Prop} {μ : σ → Nat} {n : Nat} {e e' : Env} {h h' : AH} (h1 : e = e') (h2 : h = h') : Again env heap inv μ n e h = Again env heap inv μ n e' h' := by rw [h1, h2]
theorem Again.to {σ : Type} {env : σ → Env} {heap : σ → AH} {inv : σ → Prop} {μ : σ → Nat} {n : Nat} {e : Env} {h : AH} (s : σ) (h1 : inv s) (h2 : μ s < n) (h3 : Env.holds (env s) e) (h4 : heap s = h) : Again env heap inv μ n e h := ⟨s, h1, h2, h3, h4⟩
theorem good_loop_s {P : Program} {N : Nat} {e : Env} {h : AH} {Q : Post} {σ : Type} {c : Code} (env : σ → Env) (heap : σ → AH) (inv : σ → Prop) (μ : σ → Nat) (s0 : σ) (h1 : Env.holds (env s0) e) (h2 : heap s0 = h) (h3 : inv s0)
    (round : ∀ s, inv s → ∀ n, n = μ s → Good P N c (env s) (heap s) (thenQ (fun e h => Again env heap inv μ n e h) Q)) : Good P N (.loop c) e h Q :=
  good_loop_st env heap inv μ s0 h1 h2 h3 fun s hs => round s hs _ rfl

/-! looking up -/
theorem castS (n : Nat) : (n : Int) + 1 = ((n + 1 : Nat) : Int) := rfl
theorem holds_nil (e : Env) : Env.holds [] e = True := rfl
theorem holds_cons (i : Nat) (v : AV) (r e : Env) : Env.holds ((i, v) :: r) e = (lk e i = v ∧ Env.holds r e) := rfl
theorem ev_tmp (e : Env) (i : Nat) : evA (lk e) (.tmp i) = lk e i := rfl
theorem ev_const (e : Env) (v : Value) : evA (lk e) (.const v) = (ofV v).getD .junk := rfl
theorem ev_func (e : Env) (f : FuncId) : evA (lk e) (.func f) = .func (.func f) [] [] := rfl
theorem lk_cons (j i : Nat) (v : AV) (r : Env) : lk ((j, v) :: r) i = if j = i then v else lk r i := rfl
theorem lk_nil (i : Nat) : lk [] i = .junk := rfl
theorem put_cons (j i : Nat) (u v : AV) (r : Env) : Env.put ((j, u) :: r) i v = if j = i then (i, v) :: r else (j, u) :: Env.put r i v := rfl
theorem put_nil (i : Nat) (v : AV) : Env.put [] i v = [(i, v)] := rfl
theorem putE_some (d : Nat) (v : AV) (e : Env) : putE (some d) v e = e.put d v := rfl
theorem putE_none (v : AV) (e : Env) : putE none v e = e := rfl
theorem init_cons (i : Nat) (v : AV) (vs : List AV) : initE i (v :: vs) = (i, v) :: initE (i + 1) vs := rfl
theorem init_nil (i : Nat) : initE i [] = [] := rfl

section
variable {P : Program} {bl : Bool} {E : Operand → AV} {h : AH} {K2 : AV → AH → Prop} {x y z : Operand} {t s d : TypeId} {ps : Array (Nat × Operand)} {n : Nat} {op : BinOp} {u : UnOp} {fn : Fn} {p q : Array Operand} {lo hi mx : Option Operand}
theorem st_move : stepW P bl (.move x) E h K2 = opW P bl (.move x) E h K2 := rfl
theorem st_assign : stepW P bl (.assign x) E h K2 = opW P bl (.assign x) E h K2 := rfl
theorem st_pick : stepW P bl (.pick x y z) E h K2 = opW P bl (.pick x y z) E h K2 := rfl
theorem st_load : stepW P bl (.load t x) E h K2 = opW P bl (.load t x) E h K2 := rfl
theorem st_store : stepW P bl (.store t x y) E h K2 = opW P bl (.store t x y) E h K2 := rfl
theorem st_box : stepW P bl (.box t x) E h K2 = opW P bl (.box t x) E h K2 := rfl
theorem st_alloc : stepW P bl (.alloc t) E h K2 = opW P bl (.alloc t) E h K2 := rfl
theorem st_build : stepW P bl (.build t ps) E h K2 = opW P bl (.build t ps) E h K2 := rfl
theorem st_buildSlice : stepW P bl (.buildSlice t n ps) E h K2 = opW P bl (.buildSlice t n ps) E h K2 := rfl
theorem st_nilCheck : stepW P bl (.nilCheck x) E h K2 = opW P bl (.nilCheck x) E h K2 := rfl
theorem st_binOp : stepW P bl (.binOp op t x y d) E h K2 = opW P bl (.binOp op t x y d) E h K2 := rfl
theorem st_unOp : stepW P bl (.unOp u t x) E h K2 = opW P bl (.unOp u t x) E h K2 := rfl
theorem st_convert : stepW P bl (.convert s d x) E h K2 = opW P bl (.convert s d x) E h K2 := rfl
theorem st_makeInterface : stepW P bl (.makeInterface t x) E h K2 = opW P bl (.makeInterface t x) E h K2 := rfl
theorem st_makeFunc : stepW P bl (.makeFunc fn p q) E h K2 = opW P bl (.makeFunc fn p q) E h K2 := rfl
theorem st_makeSlice : stepW P bl (.makeSlice t x y) E h K2 = opW P bl (.makeSlice t x y) E h K2 := rfl
theorem st_slice : stepW P bl (.slice t x lo hi mx) E h K2 = opW P bl (.slice t x lo hi mx) E h K2 := rfl
theorem st_fieldAddr : stepW P bl (.fieldAddr t x n) E h K2 = opW P bl (.fieldAddr t x n) E h K2 := rfl
theorem st_field : stepW P bl (.field t x n) E h K2 = opW P bl (.field t x n) E h K2 := rfl
theorem st_indexAddr : stepW P bl (.indexAddr t x y) E h K2 = opW P bl (.indexAddr t x y) E h K2 := rfl
theorem st_index : stepW P bl (.index t x y) E h K2 = opW P bl (.index t x y) E h K2 := rfl
theorem st_extract : stepW P bl (.extract x n) E h K2 = opW P bl (.extract x n) E h K2 := rfl
end
section
variable {k : IntKind} {a b : Int} {K : AV → Prop}
theorem ar_add : arW .add k a b K = K (.int k (k.wrap (a + b))) := rfl
theorem ar_sub : arW .sub k a b K = K (.int k (k.wrap (a - b))) := rfl
theorem ar_mul : arW .mul k a b K = K (.int k (k.wrap (a * b))) := rfl
theorem ar_quo : arW .quo k a b K = (b ≠ 0 ∧ K (.int k (k.wrap (a.tdiv b)))) := rfl
theorem ar_rem : arW .rem k a b K = (b ≠ 0 ∧ K (.int k (a.tmod b))) := rfl
theorem ar_and : arW .and k a b K = K (.int k (k.wrap (BitVec.ofInt k.bits a &&& BitVec.ofInt k.bits b).toNat)) := rfl
theorem ar_or : arW .or k a b K = K (.int k (k.wrap (BitVec.ofInt k.bits a ||| BitVec.ofInt k.bits b).toNat)) := rfl
theorem ar_xor : arW .xor k a b K = K (.int k (k.wrap (BitVec.ofInt k.bits a ^^^ BitVec.ofInt k.bits b).toNat)) := rfl
theorem ar_andNot : arW .andNot k a b K = K (.int k (k.wrap (BitVec.ofInt k.bits a &&& ~~~BitVec.ofInt k.bits b).toNat)) := rfl
theorem ar_eql : arW .eql k a b K = K (.bool (a == b)) := rfl
theorem ar_neq : arW .neq k a b K = K (.bool (a != b)) := rfl
theorem ar_lss : arW .lss k a b K = K (.bool (decide (a < b))) := rfl
theorem ar_leq : arW .leq k a b K = K (.bool (decide (a ≤ b))) := rfl
theorem ar_gtr : arW .gtr k a b K = K (.bool (decide (a > b))) := rfl
theorem ar_geq : arW .geq k a b K = K (.bool (decide (a ≥ b))) := rfl
theorem ar_shl : arW .shl k a b K = (0 ≤ b ∧ K (.int k (k.wrap (a * 2 ^ min b.toNat k.bits)))) := rfl
theorem ar_shr : arW .shr k a b K = (0 ≤ b ∧ K (.int k (a.fdiv (2 ^ min b.toNat k.bits)))) := rfl
end
section
variable {next : Env → AH → Prop} {Q : Post} {e : Env} {h : AH} {i j : Nat} {P : Program} {rs : List ResultVar} {R : AV → AH → Prop}
theorem t_normal : thenQ next Q .normal e h = next e h := rfl
theorem t_exit : thenQ next Q (.exit i) e h = Q (.exit i) e h := rfl
theorem t_ret : thenQ next Q .ret e h = Q .ret e h := rfl
theorem bk_normal : blockQ i Q .normal e h = Q .normal e h := rfl
theorem bk_ret : blockQ i Q .ret e h = Q .ret e h := rfl
theorem bk_here : blockQ i Q (.exit i) e h = Q .normal e h := by simp [blockQ]
theorem bk_exit : blockQ i Q (.exit j) e h = ((j = i ∧ Q .normal e h) ∨ (j ≠ i ∧ Q (.exit j) e h)) := rfl
theorem e_normal : endQ P rs R .normal e h = resW P rs e h R := rfl
theorem e_ret : endQ P rs R .ret e h = resW P rs e h R := rfl
theorem r_one (t : Tmp) : resW P [.tmp t] e h R = R (lk e t) h := rfl
theorem r_cell (a : Tmp) (t : TypeId) : resW P [.cell a t] e h R = loadW P t (lk e a) h fun v _ => R v h := rfl
theorem r_nil : resW P [] e h R = R (.tup []) h := rfl
theorem r_two (x y : ResultVar) : resW P [x, y] e h R = resV P e h x fun v => resV P e h y fun u => R (.tup [v, u]) h := rfl
theorem r_three (x y z : ResultVar) : resW P [x, y, z] e h R = resV P e h x fun v => resV P e h y fun u => resV P e h z fun q => R (.tup [v, u, q]) h := rfl
theorem rv_tmp (t : Tmp) (K : AV → Prop) : resV P e h (.tmp t) K = K (lk e t) := rfl
theorem rv_cell (a : Tmp) (t : TypeId) (K : AV → Prop) : resV P e h (.cell a t) K = loadW P t (lk e a) h fun v _ => K v := rfl
end

section
variable {k : IntKind} {n : Int} {b : Bool} {s : ByteArray} {p q r : Nat} {v : AV} {xs ys : List AV} {g : Gr} {c : Cp} {fn : Fn} {t : TypeId}
theorem mm_int : memA (.int k n) = true := rfl
theorem oo_int : oneA (.int k n) = true := rfl
theorem cc_int : cellsA (.int k n) = [(.int k n)] := rfl
theorem pp_int : pur (.int k n) = true := by simp only [pur]
theorem mm_bool : memA (.bool b) = true := rfl
theorem oo_bool : oneA (.bool b) = true := rfl
theorem cc_bool : cellsA (.bool b) = [(.bool b)] := rfl
theorem pp_bool : pur (.bool b) = true := by simp only [pur]
theorem mm_str : memA (.str s) = true := rfl
theorem oo_str : oneA (.str s) = true := rfl
theorem cc_str : cellsA (.str s) = [(.str s)] := rfl
theorem pp_str : pur (.str s) = true := by simp only [pur]
theorem mm_nilp : memA .nilp = true := rfl
theorem oo_nilp : oneA .nilp = true := rfl
theorem cc_nilp : cellsA .nilp = [.nilp] := rfl
theorem pp_nilp : pur .nilp = true := by simp only [pur]
theorem mm_ptr : memA (.ptr p q) = true := rfl
theorem oo_ptr : oneA (.ptr p q) = true := rfl
theorem cc_ptr : cellsA (.ptr p q) = [(.ptr p q)] := rfl
theorem mm_eptr : memA (.eptr v) = true := rfl
theorem oo_eptr : oneA (.eptr v) = true := rfl
theorem cc_eptr : cellsA (.eptr v) = [(.eptr v)] := rfl
theorem pp_eptr : pur (.eptr v) = true := by simp only [pur]
theorem mm_nils : memA .nils = true := rfl
theorem oo_nils : oneA .nils = true := rfl
theorem cc_nils : cellsA .nils = [.nils] := rfl
theorem pp_nils : pur .nils = true := by simp only [pur]
theorem mm_tree : memA (.tree p xs g) = true := rfl
theorem oo_tree : oneA (.tree p xs g) = true := rfl
theorem cc_tree : cellsA (.tree p xs g) = [(.tree p xs g)] := rfl
theorem pp_tree : pur (.tree p xs g) = true := by simp only [pur]
theorem mm_bsl : memA (.bsl p q r c) = true := rfl
theorem oo_bsl : oneA (.bsl p q r c) = true := rfl
theorem cc_bsl : cellsA (.bsl p q r c) = [(.bsl p q r c)] := rfl
theorem mm_func : memA (.func fn xs ys) = true := rfl
theorem oo_func : oneA (.func fn xs ys) = true := rfl
theorem cc_func : cellsA (.func fn xs ys) = [(.func fn xs ys)] := rfl
theorem mm_nilf : memA .nilf = true := rfl
theorem oo_nilf : oneA .nilf = true := rfl
theorem cc_nilf : cellsA .nilf = [.nilf] := rfl
theorem pp_nilf : pur .nilf = true := by simp only [pur]
theorem mm_iface : memA (.iface t v) = true := rfl
theorem oo_iface : oneA (.iface t v) = true := rfl
theorem cc_iface : cellsA (.iface t v) = [(.iface t v)] := rfl
theorem mm_nili : memA .nili = true := rfl
theorem oo_nili : oneA .nili = true := rfl
theorem cc_nili : cellsA .nili = [.nili] := rfl
theorem pp_nili : pur .nili = true := by simp only [pur]
theorem mm_agg : memA (.agg xs) = true := rfl
theorem oo_agg : oneA (.agg xs) = false := rfl
theorem cc_agg : cellsA (.agg xs) = xs := rfl
theorem pp_agg : pur (.agg xs) = purL xs := by simp only [pur]
theorem pl_nil : purL [] = true := by simp only [purL]
theorem pl_cons : purL (v :: xs) = (pur v && purL xs) := by simp only [purL]
theorem ra_int : roA (.int k n) = .int k n := by simp only [roA]
theorem ra_bool : roA (.bool b) = .bool b := by simp only [roA]
theorem ra_nils : roA .nils = .nils := by simp only [roA]
theorem ra_agg : roA (.agg xs) = .agg (roL xs) := by simp only [roA]
theorem ra_own {κ : Nat} : roA (.tree p xs (.own κ)) = .tree p xs .ro := by simp only [roA]
theorem ra_ro : roA (.tree p xs .ro) = .tree p xs .ro := by simp only [roA]
theorem ra_full : roA (.tree p xs .full) = .tree p xs .full := by simp only [roA]
theorem ra_bsl : roA (.bsl p q r c) = .bsl p q r c := by simp only [roA]
theorem rl_nil : roL [] = [] := by simp only [roL]
theorem rl_cons : roL (v :: xs) = roA v :: roL xs := by simp only [roL]
end
theorem log_goal {bi : List Nat} {log : List (Nat × Nat × Option (List AV))} {h : AH} (hp : logOk bi log h = True) : logOk bi log h := of_eq_true hp
end Go.Eng
