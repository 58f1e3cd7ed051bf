/- Texts E7 E8 E9 E10 E11 E12 E13 E14 E15 E16 E17 F0 of an engine over abstract values and of the walks of this program, one after the other. -/
import Derived.Test.YtgfhddockofdnaaMA
import Derived.Deep.LoopGhost
import Derived.Test.YtgfhddockofdnaaProg
/- An engine, part 7: what a frame's slots hold; contracts of functions; rows of operations. Over any program. -/
set_option linter.unusedVariables false
set_option linter.unusedSimpArgs false
namespace Go.Eng
open Go.RowKit (Below)

/-- What is known of a frame's slots. -/
abbrev Env := List (Nat × AV)
def lk : Env → Nat → AV
  | [], _ => .junk
  | (j, v) :: r, i => if j = i then v else lk r i
def Env.put : Env → Nat → AV → Env
  | [], i, v => [(i, v)]
  | (j, u) :: r, i, v => if j = i then (i, v) :: r else (j, u) :: Env.put r i v
def putE (d : Option Tmp) (v : AV) (e : Env) : Env := match d with
  | some d => e.put d v
  | none => e

theorem lk_put (v : AV) : ∀ (e : Env) (i j : Nat), lk (e.put i v) j = if j = i then v else lk e j
  | [], i, j => by
    simp only [Env.put, lk]
    by_cases h : j = i
    · subst h; simp
    · rw [if_neg (Ne.symm h), if_neg h]
  | (k, u) :: r, i, j => by
    simp only [Env.put]
    by_cases hk : k = i
    · subst hk
      rw [if_pos rfl]
      simp only [lk]
      by_cases h : j = k
      · subst h; simp
      · rw [if_neg (Ne.symm h), if_neg h, if_neg (Ne.symm h)]
    · rw [if_neg hk]
      simp only [lk]
      by_cases h : k = j
      · subst h
        rw [if_pos rfl, if_neg hk, if_pos rfl]
      · rw [if_neg h, if_neg h]
        exact lk_put v r i j

/-- A frame's slots. -/
structure RT (ρ : Ip) (N : Nat) (e : Env) (a : Act) : Prop where
  size : a.tmps.size = N
  get : ∀ i, i < N → RV ρ (lk e i) (a.tmps.getD i undef)
  defers : a.defers = []

theorem RT.mono {ρ ρ' : Ip} (hp : ρ.Le ρ') {N : Nat} {e : Env} {a : Act} (h : RT ρ N e a) : RT ρ' N e a := ⟨h.size, fun i hi => (h.get i hi).mono hp, h.defers⟩

theorem RT.put {ρ : Ip} {N : Nat} {e : Env} {a : Act} (h : RT ρ N e a) (d : Option Tmp) {v : AV} {vc : Value} (hv : RV ρ v vc) : RT ρ N (putE d v e) (a.put d vc) := by
  cases d with
  | none => exact h
  | some d =>
    refine ⟨by simp [Act.put, h.size], fun i hi => ?_, h.defers⟩
    simp only [putE, lk_put, Act.put]
    have hs : i < a.tmps.size := by rw [h.size]; exact hi
    by_cases hid : i = d
    · subst hid
      rw [if_pos rfl, Array.getD_eq_getD_getElem?, Array.getElem?_setIfInBounds_self_of_lt hs]
      exact hv
    · rw [if_neg hid, Array.getD_eq_getD_getElem?, Array.getElem?_setIfInBounds_ne (Ne.symm hid), ← Array.getD_eq_getD_getElem?]
      exact h.get i hi

/-- Less is known. -/
def Weak (e' e : Env) : Prop := ∀ i, lk e' i = .junk ∨ lk e' i = lk e i
def Env.holds : Env → Env → Prop
  | [], _ => True
  | (i, v) :: r, e => lk e i = v ∧ Env.holds r e
theorem Env.holds_weak : ∀ {e' e : Env}, Env.holds e' e → Weak e' e
  | [], e, _ => fun i => .inl rfl
  | (j, v) :: r, e, h => fun i => by
    simp only [lk]
    by_cases hj : j = i
    · subst hj
      right
      simp [h.1]
    · rw [if_neg hj]
      exact Env.holds_weak h.2 i
theorem RT.weak {ρ : Ip} {N : Nat} {e e' : Env} {a : Act} (h : RT ρ N e a) (hw : Weak e' e) : RT ρ N e' a :=
  ⟨h.size, fun i hi => by
    rcases hw i with h1 | h1
    · rw [h1]; exact .junk _
    · rw [h1]; exact h.get i hi, h.defers⟩

/-- Lists of values. -/
def RL (ρ : Ip) (vs : List AV) (cs : Array Value) : Prop := vs.length = cs.size ∧ ∀ i (h : i < vs.length), RV ρ vs[i] (cs.getD i undef)

def retOf (ρ : Ip) (R : AV → AH → Prop) : Ending → World → Prop
  | .returned vc, w' => ∃ ρ' v h', ρ.Le ρ' ∧ RH ρ' h' w' ∧ RV ρ' v vc ∧ R v h'
  | _, _ => False

/-- What a function does to abstract values. -/
def ACalls (P : Program) (f : FuncId) (args : List AV) (h : AH) (R : AV → AH → Prop) : Prop :=
  ∀ (ρ : Ip) (w : World) (argc : Array Value), RH ρ h w → RL ρ args argc → Calls P f argc w (retOf ρ R)

theorem ACalls.mono {P : Program} {f : FuncId} {args : List AV} {h : AH} {R R' : AV → AH → Prop} (hc : ACalls P f args h R) (hr : ∀ v h', R v h' → R' v h') : ACalls P f args h R' :=
  fun ρ w argc hR hL => Calls.mono (hc ρ w argc hR hL) fun e w' he => by
    cases e with
    | returned vc =>
      obtain ⟨ρ', v, h', h1, h2, h3, h4⟩ := he
      exact ⟨ρ', v, h', h1, h2, h3, hr v h' h4⟩
    | panicked c => exact he
    | outgrown => exact he

@[congr] theorem ACalls.congr_ {P : Program} {f : FuncId} {args args' : List AV} {h h' : AH} {R : AV → AH → Prop} (h1 : args = args') (h2 : h = h') : ACalls P f args h R = ACalls P f args' h' R := by rw [h1, h2]

def okF (P : Program) (f : FuncId) : Bool := match P.funcs[f]? with
  | some fn => !(fn.name == "runtime.NumGoroutine") && fn.body.isSome
  | none => false

theorem run_callFunc_enter {P : Program} {f : FuncId} (h : okF P f = true) (args : Array Value) (w : World) : (callFunc f args).run P w = .ok (.enter f args) w := by
  unfold okF at h
  split at h
  · rename_i fn hf
    simp only [Bool.and_eq_true, Bool.not_eq_true'] at h
    have hb : fn.body.isNone = false := by
      cases hq : fn.body with
      | none => rw [hq] at h; simp at h
      | some _ => rfl
    simp only [callFunc, program, Sem.run_bind, Sem.run, Result.andThen_ok, hf, h.1, hb]
    rfl
  · cases h

/-- A call of a value that is a function. -/
def callW (P : Program) (x : AV) (args : List AV) (h : AH) (K : AV → AH → Prop) : Prop := match x with
  | .func (.func f) fst cap => okF P f = true ∧ ACalls P f (fst ++ args ++ cap) h K
  | _ => False

def stepW (P : Program) (bl : Bool) (op : Op) (e : Operand → AV) (h : AH) (K : AV → AH → Prop) : Prop := match op with
  | .call c => (match c.callee with
    | .value x => callW P (e x) (c.args.toList.map e) h K
    | _ => opW P bl (.call c) e h K)
  | op => opW P bl op e h K

/-- Are the slots there? -/
def opndOk (N : Nat) : Operand → Bool
  | .tmp i => decide (i < N)
  | _ => true
def operOk (N : Nat) (o : Oper) : Bool := o.op.operands.toList.all (opndOk N) && (match o.dst with
  | some d => decide (d < N)
  | none => true)

theorem RL.app {ρ : Ip} {xs ys : List AV} {az bs : Array Value} (hx : RL ρ xs az) (hy : RL ρ ys bs) : RL ρ (xs ++ ys) (az ++ bs) := by
  refine ⟨by simp [hx.1, hy.1], fun i hi => ?_⟩
  rw [Array.getD_eq_getD_getElem?]
  by_cases h : i < xs.length
  · rw [List.getElem_append_left h, Array.getElem?_append_left (by rw [← hx.1]; exact h), ← Array.getD_eq_getD_getElem?]
    exact hx.2 i h
  · have h' : i - xs.length < ys.length := by simp at hi; omega
    rw [List.getElem_append_right (by omega), Array.getElem?_append_right (by rw [← hx.1]; omega), ← hx.1, ← Array.getD_eq_getD_getElem?]
    exact hy.2 _ h'

theorem step_sound {P : Program} {bl : Bool} {o : Oper} {N : Nat} {t : Nat → AV} {a : Act} {ρ : Ip} {h : AH} {w : World} {K : AV → AH → Prop} {Q : Exit → Act → World → Prop} {next : Act → World → Prop}
    (hw : stepW P bl o.op (evA t) h K) (hR : RH ρ h w) (hsz : a.tmps.size = N) (hts : ∀ i, i < a.tmps.size → RV ρ (t i) (a.tmps.getD i undef)) (hok : operOk N o = true)
    (hn : ∀ v vc ρ' h' w', ρ.Le ρ' → RH ρ' h' w' → RV ρ' v vc → K v h' → next (a.put o.dst vc) w') : o.wp P a w next Q := by
  have hop : ∀ x ∈ o.op.operands, ∀ i, x = Operand.tmp i → i < N := fun x hx i hi => by
    simp only [operOk, Bool.and_eq_true, List.all_eq_true] at hok
    have := hok.1 x (Array.mem_toList_iff.2 hx)
    subst hi
    simpa [opndOk] using this
  have main : opW P bl o.op (evA t) h K → o.wp P a w next Q := fun hw => by
    obtain ⟨w', vc, ρ', v, h', hr, hle, hR', hv, hK⟩ := op_sound hw hR hts (fun x hx i hi => by rw [hsz]; exact hop x hx i hi)
    rcases hr with hr | ⟨hr, rfl⟩
    · unfold Oper.wp; rw [hr]; exact hn v vc ρ' h' w' hle hR' hv hK
    · unfold Oper.wp; rw [hr]; exact hn v undef ρ' h' w' hle hR' hv hK
  unfold stepW at hw
  split at hw
  · rename_i c hc
    split at hw
    · rename_i x hx
      unfold callW at hw
      split at hw
      · rename_i f fst cap hf
        obtain ⟨hok', hA⟩ := hw
        have hxv : RV ρ (evA t x) (a.eval x) := evA_sound hts (fun i hi => by
          rw [hsz]
          refine hop x ?_ i hi
          rw [hc]
          simp [Op.operands, Call.operands, hx])
        rw [hf] at hxv
        obtain ⟨vf, vb, he, h1, h2, h3, h4⟩ := inv_func hxv
        have hargs : RL ρ (c.args.toList.map (evA t)) (c.args.map a.eval) := ⟨by simp, fun i hi => by
          have hi' : i < c.args.size := by simpa using hi
          rw [List.getElem_map, Array.getD_eq_getD_getElem?, Array.getElem?_map, Array.getElem?_eq_getElem hi']
          simp only [Option.map_some, Option.getD_some, Array.getElem_toList]
          refine evA_sound hts (fun j hj => ?_)
          rw [hsz]
          refine hop c.args[i] ?_ j hj
          rw [hc]
          simp only [Op.operands, Call.operands]
          exact Array.mem_append_right _ (Array.getElem_mem hi')⟩
        have hL := (RL.app (RL.app ⟨h1, h3⟩ hargs) ⟨h2, h4⟩)
        have hc' := hA ρ w _ hR hL
        have hrun : (execOp a.eval o).run P w = .ok (.enter f (vf ++ c.args.map a.eval ++ vb)) w := by
          simp only [execOp, hc, resolve, hx, he, Deferred.ofValue, Sem.run_bind, Sem.run_pure, Result.andThen_ok, invoke, run_callFunc_enter hok']
        unfold Oper.wp
        rw [hrun]
        show Calls P f _ w _
        refine Calls.mono hc' fun en w' hen => ?_
        cases en with
        | returned vc =>
          obtain ⟨ρ', v, h', k1, k2, k3, k4⟩ := hen
          exact hn v vc ρ' h' w' k1 k2 k3 k4
        | panicked c => exact hen.elim
        | outgrown => exact hen.elim
      · exact hw.elim
    · exact main (by rw [hc]; exact hw)
  · exact main hw

/-- The slot on which an operation waits. -/
def dstAt : List Oper → Nat → Option Tmp
  | [], _ => none
  | o :: _, 0 => o.dst
  | _ :: r, n + 1 => dstAt r n
theorem dstAt_eq : ∀ (l : List Oper) (j : Nat), dstAt l j = (l[j]?).bind (·.dst)
  | [], j => rfl
  | o :: _, 0 => rfl
  | _ :: r, n + 1 => by simp only [dstAt, List.getElem?_cons_succ]; exact dstAt_eq r n

def guardW (e : Env) (ops : List Oper) (g : Option (Nat × Bool)) (run skip : Env → Prop) : Prop := match g with
  | none => run e
  | some (j, b) => match dstAt ops j with
    | none => skip e
    | some d => match lk e d with
      | .bool c => gifW c b (run (e.put d (.bool b))) (skip (e.put d (.bool (!b))))
      | .tup [] => skip e
      | _ => False

theorem put_weak {e : Env} {d : Nat} {v : AV} (h : lk e d = v) : Weak (e.put d v) e := fun i => by
  right
  rw [lk_put]
  split
  · rename_i hi; rw [hi, h]
  · rfl

theorem guard_sound {e : Env} {ops : Array Oper} {o : Oper} {run skip : Env → Prop} {ρ : Ip} {N : Nat} {a : Act} (hg : guardW e ops.toList o.guard run skip) (hT : RT ρ N e a) (hok : ∀ o ∈ ops.toList, operOk N o = true) :
    ∃ e', RT ρ N e' a ∧ ((Region.wanted o (yielded ops a.tmps) = true ∧ run e') ∨ (Region.wanted o (yielded ops a.tmps) = false ∧ skip e')) := by
  unfold guardW at hg
  split at hg
  · rename_i hn
    exact ⟨e, hT, .inl ⟨by simp [Region.wanted, hn], hg⟩⟩
  · rename_i j b hn
    have hy : ∀ r, yielded ops a.tmps j = r → Region.wanted o (yielded ops a.tmps) = (r == some b) := fun r hr => by simp [Region.wanted, hn, hr]
    have hd : (ops[j]?).bind (·.dst) = dstAt ops.toList j := by rw [dstAt_eq]; simp
    split at hg
    · rename_i hn'
      refine ⟨e, hT, .inr ⟨?_, hg⟩⟩
      rw [hy none (by simp [yielded, hd, hn'])]; rfl
    · rename_i d hd'
      have hdN : d < N := by
        rw [dstAt_eq] at hd'
        obtain ⟨o', ho', hd''⟩ := Option.bind_eq_some_iff.1 hd'
        have := hok o' (List.mem_of_getElem? ho')
        simp only [operOk, hd'', Bool.and_eq_true, decide_eq_true_eq] at this
        exact this.2
      have hv := hT.get d hdN
      have hget : a.tmps[d]? = some (a.tmps.getD d undef) := by
        have : d < a.tmps.size := by rw [hT.size]; exact hdN
        simp [Array.getD, this]
      have hyd : yielded ops a.tmps j = match a.tmps.getD d undef with | .bool b => some b | _ => none := by
        simp only [yielded, hd, hd', Option.bind_some, hget]
        cases a.tmps.getD d undef <;> rfl
      split at hg
      · rename_i c hc
        rw [hc] at hv
        rw [inv_bool hv] at hyd
        by_cases hcb : c = b
        · refine ⟨_, hT.weak (put_weak (by rw [hc, hcb])), .inl ⟨?_, hg.1 hcb⟩⟩
          rw [hy _ hyd, hcb]; simp
        · refine ⟨_, hT.weak (put_weak (by rw [hc]; congr 1; revert hcb; cases c <;> cases b <;> simp)), .inr ⟨?_, hg.2 (by revert hcb; cases c <;> cases b <;> simp)⟩⟩
          rw [hy _ hyd]; simpa using hcb
      · rename_i hc
        rw [hc] at hv
        obtain ⟨vs, hvs, hl, -⟩ := inv_tup hv
        rw [hvs] at hyd
        refine ⟨e, hT, .inr ⟨?_, hg⟩⟩
        rw [hy none hyd]; rfl
      · exact hg.elim

def runL (P : Program) (bl : Bool) (ops : List Oper) : List Oper → Env → AH → (Env → AH → Prop) → Prop
  | [], e, h, K => K e h
  | o :: r, e, h, K => guardW e ops o.guard (fun e => stepW P bl o.op (evA (lk e)) h fun v h' => runL P bl ops r (putE o.dst v e) h' K) (fun e => runL P bl ops r (putE o.dst (.tup []) e) h K)

theorem runL_sound {P : Program} {bl : Bool} {ops : Array Oper} {N : Nat} {K : Env → AH → Prop} {Q : Exit → Act → World → Prop} (hok : ∀ o ∈ ops.toList, operOk N o = true) :
    ∀ (l : List Oper) (e : Env) (h : AH) (ρ : Ip) (a : Act) (w : World), (∀ o ∈ l, operOk N o = true) → runL P bl ops.toList l e h K → RH ρ h w → RT ρ N e a →
      (∀ ρ' e' h' a' w', ρ.Le ρ' → RH ρ' h' w' → RT ρ' N e' a' → K e' h' → Q .normal a' w') → wpList P ops Q l a w
  | [], e, h, ρ, a, w, hl, hr, hR, hT, hQ => hQ ρ e h a w (.refl _) hR hT hr
  | o :: r, e, h, ρ, a, w, hl, hr, hR, hT, hQ => by
    unfold runL at hr
    obtain ⟨e', hT', hrun | hskip⟩ := guard_sound hr hT hok
    · unfold wpList
      rw [if_pos hrun.1]
      refine .inl (step_sound hrun.2 hR hT'.size (fun i hi => hT'.get i (by rw [← hT'.size]; exact hi)) (hl o (List.mem_cons_self ..)) fun v vc ρ' h' w' hle hR' hv hK => ?_)
      exact runL_sound hok r _ h' ρ' _ w' (fun o ho => hl o (List.mem_cons_of_mem _ ho)) hK hR' ((hT'.mono hle).put o.dst hv) fun ρ'' e'' h'' a' w' hle' => hQ ρ'' e'' h'' a' w' (hle.trans hle')
    · unfold wpList
      rw [if_neg (by rw [hskip.1]; simp)]
      refine runL_sound hok r _ h ρ _ w (fun o ho => hl o (List.mem_cons_of_mem _ ho)) hskip.2 hR (hT'.put o.dst ?_) hQ
      exact .pure _ _ (.tup [] #[] rfl (fun i hi => absurd hi (Nat.not_lt_zero _)))

end Go.Eng
/- An engine, part 8: operations whose order is drawn. Over any program. -/
set_option linter.unusedVariables false
set_option linter.unusedSimpArgs false
namespace Go.Eng
open Go.RowKit (Below)

/-- Operations that leave the abstract memory as it is. -/
def lightB (bl : Bool) (op : Op) : Bool := match op with
  | .move _ | .assign _ | .pick .. | .load .. | .build .. | .nilCheck _ | .binOp .. | .unOp .. | .convert .. | .makeFunc .. | .makeInterface .. | .slice .. | .fieldAddr .. | .field .. | .indexAddr .. | .index .. | .extract .. => true
  | .buildSlice .. => !bl
  | .call c => (match c.callee with
    | .builtin .len => true
    | _ => false)
  | _ => false

/-- What of the memory a light operation's outcome hangs on. -/
def memoOf (op : Op) (e : Operand → AV) (h : AH) : List (Nat × Option (List AV)) := match op with
  | .load _ x => (match e x with
    | .ptr b _ => [(b, h.f b)]
    | _ => [])
  | _ => []
def memoOk : List (Nat × Option (List AV)) → AH → Prop
  | [], _ => True
  | p :: r, h => h.f p.1 = p.2 ∧ memoOk r h
theorem memoOk_iff {h : AH} : ∀ {M : List (Nat × Option (List AV))}, memoOk M h ↔ ∀ p ∈ M, h.f p.1 = p.2
  | [] => by simp [memoOk]
  | p :: r => by simp [memoOk, memoOk_iff (M := r)]

section
variable {P : Program}

/-- One value that a predicate on values holds of stands for all that is needed. -/
def Det (F : (AV → Prop) → Prop) : Prop := ∀ K, F K → ∃ v, K v ∧ F (fun u => u = v)

theorem det_id (v : AV) : Det fun K => K v := fun K h => ⟨v, h, rfl⟩
theorem det_and {p : Prop} {F : (AV → Prop) → Prop} (h : Det F) : Det fun K => p ∧ F K := fun K ⟨h1, h2⟩ => let ⟨v, a, b⟩ := h K h2; ⟨v, a, h1, b⟩
theorem det_ex {α : Type} {F : α → (AV → Prop) → Prop} (h : ∀ x, Det (F x)) : Det fun K => ∃ x, F x K := fun K ⟨x, hx⟩ => let ⟨v, a, b⟩ := h x K hx; ⟨v, a, x, b⟩
theorem det_or {F G : (AV → Prop) → Prop} (h : Det F) (g : Det G) : Det fun K => F K ∨ G K := fun K hk => by
  rcases hk with hk | hk
  · obtain ⟨v, a, b⟩ := h K hk; exact ⟨v, a, .inl b⟩
  · obtain ⟨v, a, b⟩ := g K hk; exact ⟨v, a, .inr b⟩
theorem det_false : Det fun _ => False := fun K h => h.elim
theorem det_map {F : (AV → Prop) → Prop} (h : Det F) (g : AV → AV) (hm : ∀ K K' : AV → Prop, (∀ v, K v → K' v) → F K → F K') : Det fun K => F fun v => K (g v) := fun K hk => by
  obtain ⟨v, a, b⟩ := h _ hk
  exact ⟨g v, a, hm _ _ (fun u hu => by rw [hu]) b⟩

theorem det_ar (op : BinOp) (k : IntKind) (a b : Int) : Det (arW op k a b) := by
  intro K h
  cases op <;> simp only [arW] at h ⊢ <;> first | exact ⟨_, h, rfl⟩ | exact ⟨_, h.2, h.1, rfl⟩
theorem det_st (op : BinOp) (a b : ByteArray) : Det (stW op a b) := by
  intro K h
  cases op <;> simp only [stW] at h ⊢ <;> first | exact h.elim | exact ⟨_, h, rfl⟩ | exact ⟨_, h.2, h.1, rfl⟩
theorem det_bin (op : BinOp) (t : TypeId) (x y : AV) : Det (binW P op t x y) := by
  intro K h
  unfold binW at h ⊢
  split at h
  · obtain ⟨v, a, b⟩ := det_ar _ _ _ _ K h.2; exact ⟨v, a, h.1, b⟩
  · obtain ⟨h0, h⟩ := h
    rcases h with ⟨e, h⟩ | ⟨e, h⟩
    · exact ⟨_, h, h0, .inl ⟨e, rfl⟩⟩
    · exact ⟨_, h, h0, .inr ⟨e, rfl⟩⟩
  · exact det_st _ _ _ K h
  · exact h.elim
theorem det_un (op : UnOp) (x : AV) : Det (unW op x) := by
  intro K h
  unfold unW at h ⊢
  split at h
  · exact ⟨_, h, rfl⟩
  · exact ⟨_, h, rfl⟩
  · exact det_ar _ _ _ _ K h
  · exact h.elim
theorem det_cv (s d : TypeId) (x : AV) : Det (cvW P s d x) := by
  intro K h
  unfold cvW at h ⊢
  split at h
  · obtain ⟨h0, k, h1, h2⟩ := h; exact ⟨_, h2, h0, k, h1, rfl⟩
  · exact h.elim
theorem det_part (off sz : Nat) (ft : TypeId) (cs : List AV) : Det (partW P off sz ft cs) := by
  intro K h
  unfold partW at h ⊢
  rcases h with ⟨h1, h2, h⟩ | ⟨h1, h2, h⟩
  · exact ⟨_, h, .inl ⟨h1, h2, rfl⟩⟩
  · exact ⟨_, h, .inr ⟨h1, h2, rfl⟩⟩
theorem det_len (t : TypeId) (x : AV) : Det (lenW P t x) := by
  intro K h
  unfold lenW at h ⊢
  split at h <;> first | exact ⟨_, h.2, h.1, rfl⟩ | exact h.elim
theorem det_idx (t : TypeId) (x i : AV) : Det (idxAW P t x i) := by
  intro K h
  unfold idxAW at h ⊢
  split at h
  · obtain ⟨e, h1, h2, h3, h4, h5⟩ := h; exact ⟨_, h5, e, h1, h2, h3, h4, rfl⟩
  · obtain ⟨e, s, h1, h2, h3, h4, h5⟩ := h; exact ⟨_, h5, e, s, h1, h2, h3, h4, rfl⟩
  · exact h.elim
theorem det_fld (t : TypeId) (x : AV) (f : Nat) : Det (fldAW P t x f) := by
  intro K h
  unfold fldAW at h ⊢
  obtain ⟨off, sz, ft, h1, h2, h⟩ := h
  split at h
  · exact ⟨_, h, off, sz, ft, h1, h2, rfl⟩
  · obtain ⟨v, a, b⟩ := det_map (det_part (P := P) off sz ft _) AV.eptr (fun K K' hk h => by
      unfold partW at h ⊢
      rcases h with ⟨h1, h2, h⟩ | ⟨h1, h2, h⟩
      · exact .inl ⟨h1, h2, hk _ h⟩
      · exact .inr ⟨h1, h2, hk _ h⟩) K h
    exact ⟨v, a, off, sz, ft, h1, h2, b⟩
  · exact h.elim
theorem det_cut (t : TypeId) (x : AV) (lo hi mx : Option AV) : Det (cutW P t x lo hi mx) := by
  intro K h
  unfold cutW at h ⊢
  split at h
  · obtain ⟨h1, h2, l, r, h3, h4, h5, h6, h7⟩ := h; exact ⟨_, h7, h1, h2, l, r, h3, h4, h5, h6, rfl⟩
  · obtain ⟨e, h1, h2, l, r, h3, h4, h5, h6, h⟩ := h
    rcases h with ⟨h7, h8⟩ | ⟨k, k', h7, h8, h9⟩
    · exact ⟨_, h8, e, h1, h2, l, r, h3, h4, h5, h6, .inl ⟨h7, rfl⟩⟩
    · exact ⟨_, h9, e, h1, h2, l, r, h3, h4, h5, h6, .inr ⟨k, k', h7, h8, rfl⟩⟩
  · obtain ⟨e, s, h1, h2, l, r, h3, h4, h5, h6, h7, h8, h9⟩ := h; exact ⟨_, h9, e, s, h1, h2, l, r, h3, h4, h5, h6, h7, h8, rfl⟩
  · exact h.elim

/-- A light operation's outcome is one value, and it is the same in every memory that agrees on what it looked at. -/
theorem light_out {bl : Bool} {op : Op} {e : Operand → AV} {h : AH} {K : AV → AH → Prop} (hl : lightB bl op = true) (hw : stepW P bl op e h K) :
    ∃ v, K v h ∧ ∀ h', memoOk (memoOf op e h) h' → opW P bl op e h' (fun u h'' => u = v ∧ h'' = h') := by
  have lift : ∀ {F : (AV → Prop) → Prop} (hd : Det F) (hm : ∀ K K' : AV → Prop, (∀ v, K v → K' v) → F K → F K'), F (fun v => K v h) → ∃ v, K v h ∧ ∀ h' : AH, F (fun u => u = v ∧ h' = h') := fun hd hm hF => by
    obtain ⟨v, a, b⟩ := hd _ hF
    exact ⟨v, a, fun h' => hm _ _ (fun u hu => ⟨hu, rfl⟩) b⟩
  cases op <;> simp only [lightB] at hl <;> first | (cases hl; done) | skip
  case move x => exact ⟨_, hw, fun h' _ => ⟨rfl, rfl⟩⟩
  case assign x => exact ⟨_, hw, fun h' _ => ⟨rfl, rfl⟩⟩
  case pick c a b =>
    simp only [stepW, opW] at hw
    simp only [opW]
    unfold condW at hw ⊢
    split at hw
    rotate_left
    · exact hw.elim
    rename_i t h1
    obtain ⟨h2, h3⟩ := hw
    cases t with
    | true => exact ⟨_, h2 rfl, fun h' _ => by simp [gifW, h1]⟩
    | false => exact ⟨_, h3 rfl, fun h' _ => by simp [gifW, h1]⟩
  case load t x =>
    simp only [stepW, opW] at hw
    simp only [memoOf, opW]
    unfold loadW at hw
    split at hw
    · rename_i v hv
      exact ⟨v, hw.2, fun h' _ => by rw [hv]; exact ⟨hw.1, rfl, rfl⟩⟩
    · rename_i b o hv
      obtain ⟨cs, h1, h2⟩ := hw
      rcases h2 with ⟨h2, h3, h4⟩ | ⟨n, h2, h3, h4, h5⟩
      · exact ⟨_, h4, fun h' hM => by
          rw [hv] at hM ⊢
          exact ⟨cs, by rw [← h1]; exact hM.1, .inl ⟨h2, h3, rfl, rfl⟩⟩⟩
      · exact ⟨_, h5, fun h' hM => by
          rw [hv] at hM ⊢
          exact ⟨cs, by rw [← h1]; exact hM.1, .inr ⟨n, h2, h3, h4, rfl, rfl⟩⟩⟩
    · exact hw.elim
  case build t parts =>
    obtain ⟨za, pl, out, h1, h2, h3⟩ := hw
    exact ⟨_, h3, fun h' _ => ⟨za, pl, out, h1, h2, rfl, rfl⟩⟩
  case buildSlice t n parts =>
    obtain ⟨el, sz, h1, h2, h3, h4, h5, h6, h7, h8⟩ := hw
    rcases h8 with ⟨h8, h9, h10⟩ | ⟨h8, -⟩
    · exact ⟨_, h10, fun h' _ => ⟨el, sz, h1, h2, h3, h4, h5, h6, h7, .inl ⟨h8, h9, rfl, rfl⟩⟩⟩
    · rw [h8] at hl; cases hl
  case nilCheck x =>
    simp only [stepW, opW] at hw
    simp only [opW]
    unfold nilW at hw ⊢
    split at hw <;> first | exact hw.elim | skip
    all_goals
      rename_i hv
      exact ⟨_, hw, fun h' _ => by first | exact ⟨rfl, trivial⟩ | (simp [hv])⟩
  case binOp op t x y yt =>
    obtain ⟨v, a, b⟩ := lift (F := binW P op t (e x) (e y)) (det_bin _ _ _ _) (fun K K' hk h => by
      unfold binW at h ⊢
      split at h
      · exact ⟨h.1, arW_mono hk h.2⟩
      · exact ⟨h.1, h.2.imp (fun h => ⟨h.1, hk _ h.2⟩) (fun h => ⟨h.1, hk _ h.2⟩)⟩
      · cases op <;> simp only [stW] at h ⊢ <;> first | exact h.elim | exact hk _ h | exact ⟨h.1, hk _ h.2⟩
      · exact h.elim) hw
    exact ⟨v, a, fun h' _ => b h'⟩
  case unOp op t x =>
    obtain ⟨v, a, b⟩ := lift (F := unW op (e x)) (det_un _ _) (fun K K' hk h => by
      unfold unW at h ⊢
      split at h <;> first | exact h.elim | exact arW_mono hk h | exact hk _ h) hw
    exact ⟨v, a, fun h' _ => b h'⟩
  case convert s d x =>
    obtain ⟨v, a, b⟩ := lift (F := cvW P s d (e x)) (det_cv _ _ _) (fun K K' hk h => by
      unfold cvW at h ⊢
      split at h
      · obtain ⟨h0, k, h1, h2⟩ := h; exact ⟨h0, k, h1, hk _ h2⟩
      · exact h.elim) hw
    exact ⟨v, a, fun h' _ => b h'⟩
  case makeFunc fn fs cs => exact ⟨_, hw, fun h' _ => ⟨rfl, rfl⟩⟩
  case makeInterface t x => exact ⟨_, hw.2, fun h' _ => ⟨hw.1, rfl, rfl⟩⟩
  case slice t x lo hi mx =>
    obtain ⟨v, a, b⟩ := lift (F := cutW P t (e x) (lo.map e) (hi.map e) (mx.map e)) (det_cut _ _ _ _ _) (fun K K' hk h => by
      unfold cutW at h ⊢
      split at h
      · obtain ⟨h1, h2, l, r, h3, h4, h5, h6, h7⟩ := h; exact ⟨h1, h2, l, r, h3, h4, h5, h6, hk _ h7⟩
      · obtain ⟨el, h1, h2, l, r, h3, h4, h5, h6, h⟩ := h
        exact ⟨el, h1, h2, l, r, h3, h4, h5, h6, h.imp (fun h => ⟨h.1, hk _ h.2⟩) (fun ⟨k, k', h7, h8, h9⟩ => ⟨k, k', h7, h8, hk _ h9⟩)⟩
      · obtain ⟨el, s, h1, h2, l, r, h3, h4, h5, h6, h7, h8, h9⟩ := h; exact ⟨el, s, h1, h2, l, r, h3, h4, h5, h6, h7, h8, hk _ h9⟩
      · exact h.elim) hw
    exact ⟨v, a, fun h' _ => b h'⟩
  case fieldAddr t x f =>
    obtain ⟨v, a, b⟩ := lift (F := fldAW P t (e x) f) (det_fld _ _ _) (fun K K' hk h => by
      unfold fldAW at h ⊢
      obtain ⟨off, sz, ft, h1, h2, h⟩ := h
      refine ⟨off, sz, ft, h1, h2, ?_⟩
      split at h
      · exact hk _ h
      · unfold partW at h ⊢
        exact h.imp (fun h => ⟨h.1, h.2.1, hk _ h.2.2⟩) (fun h => ⟨h.1, h.2.1, hk _ h.2.2⟩)
      · exact h.elim) hw
    exact ⟨v, a, fun h' _ => b h'⟩
  case field t x f =>
    obtain ⟨off, sz, ft, cs, h1, h2, h3⟩ := hw
    obtain ⟨v, a, b⟩ := lift (F := partW P off sz ft cs) (det_part _ _ _ _) (fun K K' hk h => by
      unfold partW at h ⊢
      exact h.imp (fun h => ⟨h.1, h.2.1, hk _ h.2.2⟩) (fun h => ⟨h.1, h.2.1, hk _ h.2.2⟩)) h3
    exact ⟨v, a, fun h' _ => ⟨off, sz, ft, cs, h1, h2, b h'⟩⟩
  case indexAddr t x i =>
    obtain ⟨v, a, b⟩ := lift (F := idxAW P t (e x) (e i)) (det_idx _ _ _) (fun K K' hk h => by
      unfold idxAW at h ⊢
      split at h
      · obtain ⟨el, h1, h2, h3, h4, h5⟩ := h; exact ⟨el, h1, h2, h3, h4, hk _ h5⟩
      · obtain ⟨el, s, h1, h2, h3, h4, h5⟩ := h; exact ⟨el, s, h1, h2, h3, h4, hk _ h5⟩
      · exact h.elim) hw
    exact ⟨v, a, fun h' _ => b h'⟩
  case index t x i =>
    obtain ⟨s, k, n, h1, h2, h3, h4, h5, h6⟩ := hw
    exact ⟨_, h6, fun h' _ => ⟨s, k, n, h1, h2, h3, h4, h5, rfl, rfl⟩⟩
  case extract x i =>
    obtain ⟨vs, h1, h2, h3⟩ := hw
    exact ⟨_, h3, fun h' _ => ⟨vs, h1, h2, rfl, rfl⟩⟩
  case call c =>
    obtain ⟨callee, args, argTypes⟩ := c
    cases callee with
    | value x => cases hl
    | invoke r m => cases hl
    | builtin b =>
      cases b <;> simp only at hl <;> first | (cases hl; done) | skip
      simp only [stepW, opW] at hw
      obtain ⟨x, ty, h1, h2, h3⟩ := hw
      obtain ⟨v, a, b⟩ := lift (F := lenW P ty (e x)) (det_len _ _) (fun K K' hk h => by
        unfold lenW at h ⊢
        split at h <;> first | exact h.elim | exact ⟨h.1, hk _ h.2⟩) h3
      exact ⟨v, a, fun h' _ => ⟨x, ty, h1, h2, b h'⟩⟩

theorem map_congr_opt {e e' : Operand → AV} {x : Option Operand} (h : ∀ y, x = some y → e y = e' y) : x.map e = x.map e' := by
  cases x with
  | none => rfl
  | some y => simp [h y rfl]

/-- An operation looks at its operands alone. -/
theorem opW_congr {bl : Bool} {op : Op} {e e' : Operand → AV} {h : AH} {K : AV → AH → Prop} (he : ∀ x ∈ op.operands, e x = e' x) (hw : opW P bl op e h K) : opW P bl op e' h K := by
  cases op <;> simp only [opW] at hw ⊢ <;> first | exact hw.elim | exact hw | skip
  case build t parts =>
    have : (parts.toList.map fun p => (p.1, e p.2)) = parts.toList.map fun p => (p.1, e' p.2) := List.map_congr_left fun p hp => by rw [he p.2 (by simp only [Op.operands]; exact List.mem_toArray.2 (List.mem_map.2 ⟨p, hp, rfl⟩))]
    rw [← this]; exact hw
  case buildSlice t n parts =>
    have h1 : (parts.toList.map fun p => (p.1, e p.2)) = parts.toList.map fun p => (p.1, e' p.2) := List.map_congr_left fun p hp => by rw [he p.2 (by simp only [Op.operands]; exact List.mem_toArray.2 (List.mem_map.2 ⟨p, hp, rfl⟩))]
    have h2 : (parts.toList.map fun p => e p.2) = parts.toList.map fun p => e' p.2 := List.map_congr_left fun p hp => by rw [he p.2 (by simp only [Op.operands]; exact List.mem_toArray.2 (List.mem_map.2 ⟨p, hp, rfl⟩))]
    rw [← h1, ← h2]; exact hw
  case makeFunc fn fs cs =>
    have h1 : fs.toList.map e = fs.toList.map e' := List.map_congr_left fun p hp => he p (by simp only [Op.operands]; exact Array.mem_append_left _ (Array.mem_toList_iff.1 hp))
    have h2 : cs.toList.map e = cs.toList.map e' := List.map_congr_left fun p hp => he p (by simp only [Op.operands]; exact Array.mem_append_right _ (Array.mem_toList_iff.1 hp))
    rw [← h1, ← h2]; exact hw
  case slice t x lo hi mx =>
    have h0 := he x (by simp [Op.operands])
    have h1 : lo.map e = lo.map e' := map_congr_opt fun y hy => he y (by subst hy; simp [Op.operands])
    have h2 : hi.map e = hi.map e' := map_congr_opt fun y hy => he y (by subst hy; simp [Op.operands])
    have h3 : mx.map e = mx.map e' := map_congr_opt fun y hy => he y (by subst hy; simp [Op.operands])
    rw [← h0, ← h1, ← h2, ← h3]; exact hw
  case call c =>
    obtain ⟨callee, args, argTypes⟩ := c
    cases callee with
    | value x => exact hw
    | invoke r m => exact hw
    | builtin b =>
      cases b <;> first | exact hw | skip
      case len =>
        obtain ⟨x, ty, h1, h2, h3⟩ := hw
        simp only at h1
        subst h1
        have := he x (by simp [Op.operands, Call.operands])
        exact ⟨x, ty, rfl, h2, by rw [← this]; exact h3⟩
      case append =>
        obtain ⟨s, x, ty, h1, h2, h3⟩ := hw
        simp only at h1
        subst h1
        have k1 := he s (by simp [Op.operands, Call.operands])
        have k2 := he x (by simp [Op.operands, Call.operands])
        exact ⟨s, x, ty, rfl, h2, by rw [← k1, ← k2]; exact h3⟩
  all_goals
    simp only [Op.operands] at he
    simp [he] at hw ⊢
    simpa [← he] using hw

theorem stepW_congr {bl : Bool} {op : Op} {e e' : Operand → AV} {h : AH} {K : AV → AH → Prop} (he : ∀ x ∈ op.operands, e x = e' x) (hw : stepW P bl op e h K) : stepW P bl op e' h K := by
  cases op
  case call c =>
    obtain ⟨callee, args, argTypes⟩ := c
    cases callee with
    | value x =>
      simp only [stepW] at hw ⊢
      have h0 := he x (by simp [Op.operands, Call.operands])
      have h1 : args.toList.map e = args.toList.map e' := List.map_congr_left fun p hp => he p (by
        simp only [Op.operands, Call.operands]
        exact Array.mem_append_right _ (Array.mem_toList_iff.1 hp))
      rw [← h0, ← h1]; exact hw
    | invoke r m => exact hw.elim
    | builtin b => exact opW_congr (P := P) (bl := bl) (h := h) (K := K) he hw
  all_goals exact opW_congr (P := P) (bl := bl) (h := h) (K := K) he hw
theorem partW_mono {off sz : Nat} {ft : TypeId} {cs : List AV} {K K' : AV → Prop} (hk : ∀ v, K v → K' v) (h : partW P off sz ft cs K) : partW P off sz ft cs K' := by
  unfold partW at h ⊢
  exact h.imp (fun h => ⟨h.1, h.2.1, hk _ h.2.2⟩) (fun h => ⟨h.1, h.2.1, hk _ h.2.2⟩)
theorem binW_mono {op : BinOp} {t : TypeId} {x y : AV} {K K' : AV → Prop} (hk : ∀ v, K v → K' v) (h : binW P op t x y K) : binW P op t x y K' := by
  unfold binW at h ⊢
  split at h
  · exact ⟨h.1, arW_mono hk h.2⟩
  · exact ⟨h.1, h.2.imp (fun h => ⟨h.1, hk _ h.2⟩) (fun h => ⟨h.1, hk _ h.2⟩)⟩
  · cases op <;> simp only [stW] at h ⊢ <;> first | exact h.elim | exact hk _ h | exact ⟨h.1, hk _ h.2⟩
  · exact h.elim
theorem opW_mono {bl : Bool} {op : Op} {e : Operand → AV} {h : AH} {K K' : AV → AH → Prop} (hk : ∀ v h', K v h' → K' v h') (hw : opW P bl op e h K) : opW P bl op e h K' := by
  cases op <;> simp only [opW] at hw ⊢ <;> first | exact hw.elim | exact hk _ _ hw | exact ⟨hw.1, hk _ _ hw.2⟩ | skip
  case pick c a b =>
    unfold condW at hw ⊢
    split at hw
    · obtain ⟨h2, h3⟩ := hw; exact ⟨fun x => hk _ _ (h2 x), fun x => hk _ _ (h3 x)⟩
    · exact hw.elim
  case alloc t => obtain ⟨z, h1, h2, h3⟩ := hw; exact ⟨z, h1, h2, hk _ _ h3⟩
  case load t x =>
    unfold loadW at hw ⊢
    split at hw
    · exact ⟨hw.1, hk _ _ hw.2⟩
    · obtain ⟨cs, h1, h2⟩ := hw
      exact ⟨cs, h1, h2.imp (fun ⟨a, b, c⟩ => ⟨a, b, hk _ _ c⟩) (fun ⟨n, a, b, c, d⟩ => ⟨n, a, b, c, hk _ _ d⟩)⟩
    · exact hw.elim
  case store t a x =>
    unfold storeW at hw ⊢
    split at hw
    · obtain ⟨cs, h1, h2, h3, h4, h5⟩ := hw; exact ⟨cs, h1, h2, h3, h4, hk _ _ h5⟩
    · exact hw.elim
  case build t parts => obtain ⟨za, pl, out, h1, h2, h3⟩ := hw; exact ⟨za, pl, out, h1, h2, hk _ _ h3⟩
  case buildSlice t n parts =>
    obtain ⟨el, sz, h1, h2, h3, h4, h5, h6, h7, h8⟩ := hw
    exact ⟨el, sz, h1, h2, h3, h4, h5, h6, h7, h8.imp (fun ⟨a, b, c⟩ => ⟨a, b, hk _ _ c⟩) (fun ⟨a, b, c⟩ => ⟨a, b, hk _ _ c⟩)⟩
  case nilCheck x =>
    unfold nilW at hw ⊢
    split at hw <;> first | exact hw.elim | exact hk _ _ hw
  case binOp op t x y yt => exact binW_mono (fun v => hk v h) hw
  case unOp op t x =>
    unfold unW at hw ⊢
    split at hw <;> first | exact hw.elim | exact arW_mono (fun v => hk v h) hw | exact hk _ _ hw
  case convert s d x =>
    unfold cvW at hw ⊢
    split at hw
    · obtain ⟨h0, k, h1, h2⟩ := hw; exact ⟨h0, k, h1, hk _ _ h2⟩
    · exact hw.elim
  case makeSlice t a b =>
    obtain ⟨el, sz, by_, z, kl, kc, n, h1, h2, h3, h4, h5, h6, h7, h8, h9, h10, h11, h12, h13⟩ := hw
    exact ⟨el, sz, by_, z, kl, kc, n, h1, h2, h3, h4, h5, h6, h7, h8, h9, h10, h11, h12, hk _ _ h13⟩
  case slice t x lo hi mx =>
    unfold cutW at hw ⊢
    split at hw
    · obtain ⟨h1, h2, l, r, h3, h4, h5, h6, h7⟩ := hw; exact ⟨h1, h2, l, r, h3, h4, h5, h6, hk _ _ h7⟩
    · obtain ⟨el, h1, h2, l, r, h3, h4, h5, h6, h⟩ := hw
      exact ⟨el, h1, h2, l, r, h3, h4, h5, h6, h.imp (fun h => ⟨h.1, hk _ _ h.2⟩) (fun ⟨k, k', h7, h8, h9⟩ => ⟨k, k', h7, h8, hk _ _ h9⟩)⟩
    · obtain ⟨el, s, h1, h2, l, r, h3, h4, h5, h6, h7, h8, h9⟩ := hw; exact ⟨el, s, h1, h2, l, r, h3, h4, h5, h6, h7, h8, hk _ _ h9⟩
    · exact hw.elim
  case fieldAddr t x f =>
    unfold fldAW at hw ⊢
    obtain ⟨off, sz, ft, h1, h2, h'⟩ := hw
    refine ⟨off, sz, ft, h1, h2, ?_⟩
    split at h'
    · exact hk _ _ h'
    · exact partW_mono (fun v => hk _ h) h'
    · exact h'.elim
  case field t x f =>
    obtain ⟨off, sz, ft, cs, h1, h2, h3⟩ := hw
    exact ⟨off, sz, ft, cs, h1, h2, partW_mono (fun v => hk _ h) h3⟩
  case indexAddr t x i =>
    unfold idxAW at hw ⊢
    split at hw
    · obtain ⟨el, h1, h2, h3, h4, h5⟩ := hw; exact ⟨el, h1, h2, h3, h4, hk _ _ h5⟩
    · obtain ⟨el, s, h1, h2, h3, h4, h5⟩ := hw; exact ⟨el, s, h1, h2, h3, h4, hk _ _ h5⟩
    · exact hw.elim
  case index t x i => obtain ⟨s, k, n, h1, h2, h3, h4, h5, h6⟩ := hw; exact ⟨s, k, n, h1, h2, h3, h4, h5, hk _ _ h6⟩
  case extract x i => obtain ⟨vs, h1, h2, h3⟩ := hw; exact ⟨vs, h1, h2, hk _ _ h3⟩
  case call c =>
    split at hw
    · obtain ⟨x, t, h1, h2, h3⟩ := hw
      refine ⟨x, t, h1, h2, ?_⟩
      unfold lenW at h3 ⊢
      split at h3 <;> first | exact h3.elim | exact ⟨h3.1, hk _ _ h3.2⟩
    · obtain ⟨s, x, t, h1, h2, h3⟩ := hw
      refine ⟨s, x, t, h1, h2, ?_⟩
      rcases h3 with ⟨hb, h3⟩ | ⟨hb, h3⟩ | ⟨hb, h3⟩ | h3
      rotate_left
      rotate_left
      · refine .inr (.inr (.inl ⟨hb, ?_⟩))
        unfold appBS at h3 ⊢
        obtain ⟨el, sz, by_, z, k1, k2, k3, k4, k5, k6, k7, k8, h3⟩ := h3
        refine ⟨el, sz, by_, z, k1, k2, k3, k4, k5, k6, k7, k8, ?_⟩
        split at h3
        · obtain ⟨q1, cx, q2, q3, h3⟩ := h3
          refine ⟨q1, cx, q2, q3, ?_⟩
          split at h3
          · exact ⟨h3.1, h3.2.1, hk _ _ h3.2.2⟩
          · obtain ⟨q1, q2, cs, q3, q4, q5, q6, q7⟩ := h3
            exact ⟨q1, q2, cs, q3, q4, q5, q6, hk _ _ q7⟩
          · exact h3.elim
        · exact h3.elim
      · obtain ⟨el, sz, k1, k2, k3, k4, k5⟩ := h3
        exact .inr (.inr (.inr ⟨el, sz, k1, k2, k3, k4, hk _ _ k5⟩))
      rotate_left
      · refine .inr (.inl ⟨hb, ?_⟩)
        unfold appBW at h3 ⊢
        obtain ⟨el, by_, z, ys, k1, k2, k3, k4, k5, k6, k7, k8, h3⟩ := h3
        refine ⟨el, by_, z, ys, k1, k2, k3, k4, k5, k6, k7, k8, ?_⟩
        split at h3
        · exact ⟨h3.1, h3.2.1, hk _ _ h3.2.2⟩
        · obtain ⟨q1, q2, cs, q3, q4, q5, q6, q7⟩ := h3
          exact ⟨q1, q2, cs, q3, q4, q5, q6, hk _ _ q7⟩
        · exact h3.elim
      refine .inl ⟨hb, ?_⟩
      unfold appW at h3 ⊢
      obtain ⟨el, sz, by_, z, k1, k2, k3, k4, k5, k6, k7, h3⟩ := h3
      refine ⟨el, sz, by_, z, k1, k2, k3, k4, k5, k6, k7, ?_⟩
      split at h3
      · obtain ⟨q1, q2, q3⟩ := h3
        refine ⟨q1, q2, ?_⟩
        split at q3
        · exact ⟨q3.1, q3.2.1, hk _ _ q3.2.2⟩
        · exact ⟨q3.1, q3.2.1, q3.2.2.1, hk _ _ q3.2.2.2⟩
        · exact ⟨q3.1, q3.2.1, q3.2.2.1, q3.2.2.2.1, hk _ _ q3.2.2.2.2⟩
        · exact q3.elim
      · exact h3.elim
    · exact hw.elim

/-- A light operation whose outcome is known: more may be said of it. -/
theorem opW_imp {bl : Bool} {op : Op} {e : Operand → AV} {h : AH} {K K' : AV → AH → Prop} (hl : lightB bl op = true) (hw : opW P bl op e h K) (hk : ∀ v h', K v h' → K' v h') : opW P bl op e h K' := opW_mono hk hw

theorem stepW_of_opW {bl : Bool} {op : Op} {e : Operand → AV} {h : AH} {K : AV → AH → Prop} (hw : opW P bl op e h K) : stepW P bl op e h K := by
  cases op
  case call c =>
    obtain ⟨callee, args, argTypes⟩ := c
    cases callee with
    | value x => exact hw.elim
    | invoke r m => exact hw
    | builtin b => exact hw
  all_goals exact hw
end
end Go.Eng
/- An engine, part 9: a row of operations whose order is drawn: one order is walked, and every other order leaves the same. Over any program. -/
set_option linter.unusedVariables false
set_option linter.unusedSimpArgs false
namespace Go.Eng
open Go.RowKit (Below)

def dirs (o : Oper) : List Nat := (o.after.toList.filter fun e => Region.binds .any e).map (·.on)
def opAt : List Oper → Nat → Option Oper
  | [], _ => none
  | o :: _, 0 => some o
  | _ :: r, n + 1 => opAt r n
theorem opAt_eq : ∀ (l : List Oper) (j : Nat), opAt l j = l[j]?
  | [], j => rfl
  | o :: _, 0 => rfl
  | _ :: r, n + 1 => by simp only [opAt, List.getElem?_cons_succ]; exact opAt_eq r n
def befA (bf : List (List Nat)) (i : Nat) : List Nat := bf.getD i []

def logOk (bi : List Nat) : List (Nat × Nat × Option (List AV)) → AH → Prop
  | [], _ => True
  | p :: r, h => (bi.contains p.1 = true ∨ h.f p.2.1 = p.2.2) ∧ logOk bi r h
theorem logOk_iff {bi : List Nat} {h : AH} : ∀ {M : List (Nat × Nat × Option (List AV))}, logOk bi M h ↔ ∀ p ∈ M, bi.contains p.1 = true ∨ h.f p.2.1 = p.2.2
  | [] => by simp [logOk]
  | p :: r => by rw [logOk, logOk_iff (M := r)]; simp only [List.forall_mem_cons]

/-- One order is walked. -/
def regW (P : Program) (bl : Bool) (ops : List Oper) (bf : List (List Nat)) : List Nat → List (Nat × Nat × Option (List AV)) → Env → AH → (Env → AH → Prop) → Prop
  | [], log, e, h, K => K e h
  | i :: r, log, e, h, K => match opAt ops i with
    | none => False
    | some o => bif lightB bl o.op then
        guardW e ops o.guard (fun e => stepW P bl o.op (evA (lk e)) h fun v h' => regW P bl ops bf r (log ++ (memoOf o.op (evA (lk e)) h).map (fun p => (i, p))) (putE o.dst v e) h' K) (fun e => regW P bl ops bf r log (putE o.dst (.tup []) e) h K)
      else stepW P bl o.op (evA (lk e)) h fun v h' => logOk (befA bf i) log h' ∧ regW P bl ops bf r log (putE o.dst v e) h' K

/-- What must hold of the row of operations and of the order that is walked. -/
def planGo (bl : Bool) (ops : List Oper) (bf : List (List Nat)) : List Nat → List Nat → Bool
  | done, [] => true
  | done, i :: r => !done.contains i && (befA bf i).all (fun j => done.contains j) && (match opAt ops i with
    | some o => lightB bl o.op || (o.guard.isNone && r.all fun k => (befA bf k).contains i)
    | none => false) && planGo bl ops bf (i :: done) r
def tmpsOf (o : Oper) : List Nat := o.op.operands.toList.filterMap fun x => match x with
  | .tmp i => some i
  | _ => none
def befOk (ops : List Oper) (bf : List (List Nat)) : Bool := (List.range ops.length).all fun i => match opAt ops i with
  | none => true
  | some o => (dirs o).all (fun j => decide (j < i) && (befA bf i).contains j) && (befA bf i).all (fun j => (dirs o).any fun k => j == k || (befA bf k).contains j) && (match o.guard with
    | none => true
    | some (j, _) => (befA bf i).contains j && (dstAt ops j).isSome)
def slotOk (ops : List Oper) (bf : List (List Nat)) : Bool := (List.range ops.length).all fun j => match dstAt ops j with
  | none => true
  | some d => (List.range ops.length).all fun i => (i == j || !(dstAt ops i == some d)) && (match opAt ops i with
    | none => true
    | some o => !(tmpsOf o).contains d || (befA bf i).contains j || (befA bf j).contains i || i == j)
def planOk (bl : Bool) (ops : List Oper) (bf : List (List Nat)) (plan : List Nat) : Bool := planGo bl ops bf [] plan && befOk ops bf && slotOk ops bf && (List.range ops.length).all fun i => plan.contains i

section
variable {P : Program} {bl : Bool} {ops : Array Oper} {bf : List (List Nat)} {N : Nat}

def getB (l : Array Bool) (i : Nat) : Prop := l.getD i false = true

theorem dstAt_lt {l : List Oper} {j d : Nat} (h : dstAt l j = some d) : j < l.length ∧ ∃ o, opAt l j = some o ∧ o.dst = some d := by
  rw [dstAt_eq] at h
  obtain ⟨o, h1, h2⟩ := Option.bind_eq_some_iff.1 h
  exact ⟨(List.getElem?_eq_some_iff.1 h1).1, o, by rw [opAt_eq]; exact h1, h2⟩

structure Stat (bl : Bool) (ops : List Oper) (bf : List (List Nat)) : Prop where
  dir_lt : ∀ i o j, opAt ops i = some o → j ∈ dirs o → j < i ∧ j ∈ befA bf i
  bef_dir : ∀ i o j, opAt ops i = some o → j ∈ befA bf i → ∃ k ∈ dirs o, j = k ∨ j ∈ befA bf k
  grd : ∀ i o j b, opAt ops i = some o → o.guard = some (j, b) → j ∈ befA bf i ∧ ∃ d, dstAt ops j = some d
  uniq : ∀ i j d, dstAt ops i = some d → dstAt ops j = some d → i = j
  reads : ∀ i o j d, opAt ops i = some o → dstAt ops j = some d → Operand.tmp d ∈ o.op.operands → j ∈ befA bf i ∨ i ∈ befA bf j ∨ i = j

theorem mem_tmpsOf {o : Oper} {d : Nat} (h : Operand.tmp d ∈ o.op.operands) : d ∈ tmpsOf o := List.mem_filterMap.2 ⟨.tmp d, Array.mem_toList_iff.2 h, rfl⟩

theorem stat_of {l : List Oper} {plan : List Nat} (h : planOk bl l bf plan = true) : Stat bl l bf ∧ planGo bl l bf [] plan = true ∧ ∀ i, i < l.length → i ∈ plan := by
  simp only [planOk, Bool.and_eq_true, List.all_eq_true, List.mem_range] at h
  obtain ⟨⟨⟨h1, h2⟩, h3⟩, h4⟩ := h
  have lt_of : ∀ i o, opAt l i = some o → i < l.length := fun i o ho => by
    rw [opAt_eq] at ho; exact (List.getElem?_eq_some_iff.1 ho).1
  have h2' : ∀ i o, opAt l i = some o → ((dirs o).all (fun j => decide (j < i) && (befA bf i).contains j) && (befA bf i).all (fun j => (dirs o).any fun k => j == k || (befA bf k).contains j) && (match o.guard with
    | none => true
    | some (j, _) => (befA bf i).contains j && (dstAt l j).isSome)) = true := fun i o ho => by
    simp only [befOk, List.all_eq_true, List.mem_range] at h2
    have := h2 i (lt_of i o ho)
    rw [ho] at this
    exact this
  refine ⟨⟨fun i o j ho hj => ?_, fun i o j ho hj => ?_, fun i o j b ho hg => ?_, fun i j d hi hj => ?_, fun i o j d ho hd hx => ?_⟩, h1, fun i hi => by simpa using h4 i hi⟩
  · have := h2' i o ho
    simp only [Bool.and_eq_true, List.all_eq_true, decide_eq_true_eq] at this
    have := this.1.1 j hj
    exact ⟨this.1, by simpa using this.2⟩
  · have := h2' i o ho
    simp only [Bool.and_eq_true, List.all_eq_true, List.any_eq_true] at this
    obtain ⟨k, hk, hjk⟩ := this.1.2 j hj
    exact ⟨k, hk, by simpa using hjk⟩
  · have := h2' i o ho
    simp only [Bool.and_eq_true, hg] at this
    exact ⟨by simpa using this.2.1, Option.isSome_iff_exists.1 this.2.2⟩
  · simp only [slotOk, List.all_eq_true, List.mem_range] at h3
    have := h3 j (dstAt_lt hj).1
    rw [hj] at this
    simp only [List.all_eq_true, List.mem_range] at this
    have := this i (dstAt_lt hi).1
    simp only [hi, beq_self_eq_true, Bool.not_true, Bool.or_false, Bool.and_eq_true, beq_iff_eq] at this
    exact this.1
  · simp only [slotOk, List.all_eq_true, List.mem_range] at h3
    have := h3 j (dstAt_lt hd).1
    rw [hd] at this
    simp only [List.all_eq_true, List.mem_range] at this
    have := this i (lt_of i o ho)
    rw [ho] at this
    simp only [Bool.and_eq_true] at this
    have h5 := this.2
    simp only [Bool.or_eq_true, Bool.not_eq_true', beq_iff_eq] at h5
    rcases h5 with ((h5 | h5) | h5) | h5
    · have hm := mem_tmpsOf hx
      have : (tmpsOf o).contains d = true := by simpa using hm
      rw [this] at h5; cases h5
    · exact .inl (by simpa using h5)
    · exact .inr (.inl (by simpa using h5))
    · exact .inr (.inr h5)

/-- What is done holds with each operation all that it waits for. -/
def Closed (l : List Oper) (D : Nat → Prop) : Prop := ∀ i o, D i → opAt l i = some o → ∀ j ∈ dirs o, D j

theorem bef_done {l : List Oper} (hs : Stat bl l bf) {D : Nat → Prop} (hD : Closed l D) (hlt : ∀ i, D i → i < l.length) : ∀ (n i : Nat), i ≤ n → ∀ o, opAt l i = some o → (∀ j ∈ dirs o, D j) → ∀ j ∈ befA bf i, D j := by
  intro n
  induction n with
  | zero =>
    intro i hi o ho hd j hj
    obtain ⟨k, hk, h⟩ := hs.bef_dir i o j ho hj
    have := (hs.dir_lt i o k ho hk).1
    omega
  | succ n ih =>
    intro i hi o ho hd j hj
    obtain ⟨k, hk, h⟩ := hs.bef_dir i o j ho hj
    have hkD := hd k hk
    rcases h with rfl | h
    · exact hkD
    · have hklt := (hs.dir_lt i o k ho hk).1
      have hkl := hlt k hkD
      have hko : opAt l k = some l[k] := by rw [opAt_eq]; exact List.getElem?_eq_getElem hkl
      exact ih k (by omega) _ hko (hD k _ hkD hko) j h

open Classical in
/-- What an operation finds in a slot. -/
noncomputable def seenT (l : List Oper) (bf : List (List Nat)) (t0 : Nat → AV) (e : Env) (i : Nat) (s : Nat) : AV := if ∃ j ∈ befA bf i, dstAt l j = some s then lk e s else t0 s

def gdV (l : List Oper) (t : Nat → AV) (g : Option (Nat × Bool)) : Option Bool := match g with
  | none => some true
  | some (j, b) => match dstAt l j with
    | none => some false
    | some d => match t d with
      | .bool c => some (c == b)
      | .tup [] => some false
      | _ => none

structure Pend (P : Program) (bl : Bool) (l : List Oper) (bf : List (List Nat)) (t0 : Nat → AV) (e : Env) (log : List (Nat × Nat × Option (List AV))) (h : AH) (i : Nat) (o : Oper) (M : List (Nat × Option (List AV))) : Prop where
  run : ∀ h', memoOk M h' → opW P bl o.op (evA (seenT l bf t0 e i)) h' (fun v h'' => (∀ d, o.dst = some d → v = lk e d) ∧ h'' = h')
  memo : memoOk M h
  logged : ∀ p ∈ M, (i, p) ∈ log

structure StD (P : Program) (bl : Bool) (l : List Oper) (bf : List (List Nat)) (N : Nat) (t0 : Nat → AV) (D : Nat → Prop) (pre rest : List Nat) (e : Env) (log : List (Nat × Nat × Option (List AV))) (h : AH) (ρ : Ip) (w : World) (a : Act) : Prop where
  sub : ∀ i, D i → i ∈ pre
  hvy : ∀ i ∈ pre, ∀ o, opAt l i = some o → lightB bl o.op = false → D i
  befIn : ∀ i ∈ pre, ∀ j ∈ befA bf i, j ∈ pre
  rh : RH ρ h w
  size : a.tmps.size = N
  defers : a.defers = []
  done : ∀ s, s < N → ∀ j, dstAt l j = some s → D j → RV ρ (lk e s) (a.tmps.getD s undef)
  old : ∀ s, s < N → (∀ j, dstAt l j = some s → ¬ D j) → RV ρ (t0 s) (a.tmps.getD s undef)
  epre : ∀ s, (∀ j, dstAt l j = some s → j ∉ pre) → lk e s = t0 s
  pend : ∀ i ∈ pre, ¬ D i → ∃ o, opAt l i = some o ∧ lightB bl o.op = true ∧ ((gdV l (lk e) o.guard = some true ∧ ∃ M, Pend P bl l bf t0 e log h i o M) ∨ (gdV l (lk e) o.guard = some false ∧ ∀ d, o.dst = some d → lk e d = .tup []))

theorem dst_of {l : List Oper} {i d : Nat} {o : Oper} (h : opAt l i = some o) (hd : o.dst = some d) : dstAt l i = some d := by
  rw [dstAt_eq]; rw [opAt_eq] at h; rw [h]; exact hd
theorem dst_op {l : List Oper} {i d : Nat} {o : Oper} (h : opAt l i = some o) (hd : dstAt l i = some d) : o.dst = some d := by
  rw [dstAt_eq] at hd; rw [opAt_eq] at h; rw [h] at hd; exact hd

/-- A slot that an operation writes no other writes: what stood in the others stays. -/
theorem lk_other {l : List Oper} {i j s : Nat} {o : Oper} (hs : Stat bl l bf) (ho : opAt l i = some o) (hj : dstAt l j = some s) (hne : j ≠ i) (v : AV) (e : Env) : lk (putE o.dst v e) s = lk e s := by
  cases hd : o.dst with
  | none => rfl
  | some d =>
    simp only [putE, lk_put]
    rw [if_neg]
    intro h
    subst h
    exact hne (hs.uniq j i s hj (dst_of ho hd))

theorem gdV_stable {l : List Oper} {i k : Nat} {o ok : Oper} (hs : Stat bl l bf) (ho : opAt l i = some o) (hok : opAt l k = some ok) (hni : i ∉ befA bf k) (v : AV) (e : Env) : gdV l (lk (putE o.dst v e)) ok.guard = gdV l (lk e) ok.guard := by
  unfold gdV
  split
  · rfl
  · rename_i j b hg
    obtain ⟨hj, d, hd⟩ := hs.grd k ok j b hok hg
    simp only [hd]
    rw [lk_other hs ho hd (fun h => hni (h ▸ hj)) v e]

theorem seen_stable {l : List Oper} {i k : Nat} {o : Oper} (hs : Stat bl l bf) (ho : opAt l i = some o) (hni : i ∉ befA bf k) (t0 : Nat → AV) (v : AV) (e : Env) : seenT l bf t0 (putE o.dst v e) k = seenT l bf t0 e k := by
  funext s
  unfold seenT
  split
  · rename_i h
    obtain ⟨j, hj, hd⟩ := h
    exact lk_other hs ho hd (fun h => hni (h ▸ hj)) v e
  · rfl

variable {t0 : Nat → AV} {D : Nat → Prop} {pre rest : List Nat} {e : Env} {log : List (Nat × Nat × Option (List AV))} {h : AH} {ρ : Ip} {w : World} {a : Act} {l : List Oper}

/-- What stands in an operation's operands at the head of the order that is walked. -/
theorem seen_head (hs : Stat bl l bf) (hS : StD P bl l bf N t0 D pre rest e log h ρ w a) {i : Nat} {o : Oper} (ho : opAt l i = some o) (hi : i ∉ pre) : ∀ x ∈ o.op.operands, evA (lk e) x = evA (seenT l bf t0 e i) x := by
  intro x hx
  cases x with
  | tmp s =>
    simp only [evA]
    unfold seenT
    split
    · rfl
    · rename_i hno
      refine hS.epre s fun j hj hjp => ?_
      rcases hs.reads i o j s ho hj hx with h1 | h1 | h1
      · exact hno ⟨j, h1, hj⟩
      · exact hi (hS.befIn j hjp i h1)
      · exact hi (h1 ▸ hjp)
  | const v => rfl
  | global g => rfl
  | func f => rfl

/-- The walk goes on by one light operation; nothing is done. -/
theorem advance (hs : Stat bl l bf) {i : Nat} {r : List Nat} {K : Env → AH → Prop} (hS : StD P bl l bf N t0 D pre (i :: r) e log h ρ w a) (hi : i ∉ pre) (hbef : ∀ j ∈ befA bf i, j ∈ pre) {o : Oper} (ho : opAt l i = some o) (hl : lightB bl o.op = true)
    (hw : regW P bl l bf (i :: r) log e h K) : ∃ e' log', StD P bl l bf N t0 D (i :: pre) r e' log' h ρ w a ∧ regW P bl l bf r log' e' h K := by
  simp only [regW, ho, hl, cond_true] at hw
  -- the two outcomes
  have goal : ∀ (v : AV) (log' : List (Nat × Nat × Option (List AV))) (e1 : Env), (∀ s, lk e1 s = lk e s) → (∀ p ∈ log, p ∈ log') →
      ((gdV l (lk e) o.guard = some true ∧ ∃ M, (∀ h', memoOk M h' → opW P bl o.op (evA (seenT l bf t0 e i)) h' (fun u h'' => u = v ∧ h'' = h')) ∧ memoOk M h ∧ ∀ p ∈ M, (i, p) ∈ log') ∨ (gdV l (lk e) o.guard = some false ∧ v = .tup [])) →
      StD P bl l bf N t0 D (i :: pre) r (putE o.dst v e1) log' h ρ w a := by
    intro v log' e1 he1 hlog hP
    have lkE : ∀ s, lk (putE o.dst v e1) s = lk (putE o.dst v e) s := fun s => by
      cases hd : o.dst with
      | none => exact he1 s
      | some d => simp only [putE, lk_put, he1]
    have lkF : lk (putE o.dst v e1) = lk (putE o.dst v e) := funext lkE
    have seenE : ∀ k, seenT l bf t0 (putE o.dst v e1) k = seenT l bf t0 (putE o.dst v e) k := fun k => by
      funext s; unfold seenT; rw [lkE]
    have hiD : ¬ D i := fun hd => hi (hS.sub i hd)
    have hself : ∀ d, o.dst = some d → lk (putE o.dst v e1) d = v := fun d hd => by rw [lkE, hd, putE, lk_put, if_pos rfl]
    have nb : ∀ k ∈ i :: pre, i ∉ befA bf k := fun k hk hin => by
      rcases List.mem_cons.1 hk with rfl | hk
      · exact hi (hbef _ hin)
      · exact hi (hS.befIn k hk i hin)
    refine ⟨fun j hj => List.mem_cons_of_mem _ (hS.sub j hj), fun j hj oj hoj hlj => ?_, fun j hj k hk => ?_, hS.rh, hS.size, hS.defers, fun s hs' j hj hD => ?_, hS.old, fun s hs' => ?_, fun k hk hkD => ?_⟩
    · rcases List.mem_cons.1 hj with rfl | hj
      · rw [ho] at hoj; cases hoj; rw [hl] at hlj; cases hlj
      · exact hS.hvy j hj oj hoj hlj
    · rcases List.mem_cons.1 hj with rfl | hj
      · exact List.mem_cons_of_mem _ (hbef k hk)
      · exact List.mem_cons_of_mem _ (hS.befIn j hj k hk)
    · rw [lkE, lk_other hs ho hj (fun h => hiD (h ▸ hD))]
      exact hS.done s hs' j hj hD
    · have : lk (putE o.dst v e1) s = lk e s := by
        rw [lkE]
        cases hd : o.dst with
        | none => rfl
        | some d =>
          simp only [putE, lk_put]
          rw [if_neg]
          intro h
          subst h
          exact hs' i (dst_of ho hd) (List.mem_cons_self ..)
      rw [this]
      exact hS.epre s fun j hj hjp => hs' j hj (List.mem_cons_of_mem _ hjp)
    · rcases List.mem_cons.1 hk with rfl | hkp
      · refine ⟨o, ho, hl, ?_⟩
        have gs : gdV l (lk (putE o.dst v e1)) o.guard = gdV l (lk e) o.guard := by rw [lkF]; exact gdV_stable hs ho ho (nb _ hk) v e
        rcases hP with ⟨hg, M, h1, h2, h3⟩ | ⟨hg, hv⟩
        · refine .inl ⟨by rw [gs]; exact hg, M, fun h' hM => ?_, h2, h3⟩
          rw [seenE, seen_stable hs ho (nb _ hk)]
          exact opW_mono (fun u h'' hu => ⟨fun d hd => by rw [hself d hd]; exact hu.1, hu.2⟩) (h1 h' hM)
        · exact .inr ⟨by rw [gs]; exact hg, fun d hd => by rw [hself d hd, hv]⟩
      · obtain ⟨ok, hok, hlk, hP'⟩ := hS.pend k hkp hkD
        refine ⟨ok, hok, hlk, ?_⟩
        have gs : gdV l (lk (putE o.dst v e1)) ok.guard = gdV l (lk e) ok.guard := by rw [lkF]; exact gdV_stable hs ho hok (nb k hk) v e
        have dk : ∀ d, ok.dst = some d → lk (putE o.dst v e1) d = lk e d := fun d hd => by
          rw [lkE]; exact lk_other hs ho (dst_of hok hd) (fun h => hi (h ▸ hkp)) v e
        rcases hP' with ⟨hg, M, hM⟩ | ⟨hg, hv⟩
        · refine .inl ⟨by rw [gs]; exact hg, M, fun h' hm => ?_, hM.memo, fun p hp => hlog _ (hM.logged p hp)⟩
          rw [seenE, seen_stable hs ho (nb k hk)]
          refine opW_imp hlk (hM.run h' hm) fun u h'' hu => ⟨fun d hd => by rw [dk d hd]; exact hu.1 d hd, hu.2⟩
        · exact .inr ⟨by rw [gs]; exact hg, fun d hd => by rw [dk d hd]; exact hv d hd⟩
  have run1 : ∀ e1 : Env, (∀ s, lk e1 s = lk e s) → gdV l (lk e) o.guard = some true → (stepW P bl o.op (evA (lk e1)) h fun v h' => regW P bl l bf r (log ++ (memoOf o.op (evA (lk e1)) h).map (fun p => (i, p))) (putE o.dst v e1) h' K) →
      ∃ e' log', StD P bl l bf N t0 D (i :: pre) r e' log' h ρ w a ∧ regW P bl l bf r log' e' h K := by
    intro e1 he1 hg hst
    obtain ⟨v, hK, hrun⟩ := light_out hl hst
    refine ⟨_, _, goal v _ e1 he1 (fun p hp => List.mem_append_left _ hp) (.inl ⟨hg, memoOf o.op (evA (lk e1)) h, fun h' hM => ?_, ?_, fun p hp => ?_⟩), hK⟩
    · refine opW_congr (fun x hx => ?_) (hrun h' hM)
      rw [show lk e1 = lk e from funext he1]
      exact seen_head hs hS ho hi x hx
    · rw [memoOk_iff]
      intro p hp
      unfold memoOf at hp
      split at hp
      · split at hp
        · simp at hp; subst hp; rfl
        · cases hp
      · cases hp
    · exact List.mem_append_right _ (List.mem_map.2 ⟨p, hp, rfl⟩)
  unfold guardW at hw
  split at hw
  · rename_i hg
    exact run1 e (fun _ => rfl) (by simp [gdV, hg]) hw
  · rename_i j b hg
    split at hw
    · rename_i hd
      exact ⟨_, _, goal (.tup []) log e (fun _ => rfl) (fun p hp => hp) (.inr ⟨by simp [gdV, hg, hd], rfl⟩), hw⟩
    · rename_i d hd
      split at hw
      · rename_i c hc
        have lkp : ∀ b', c = b' → ∀ s, lk (e.put d (.bool b')) s = lk e s := fun b' hb s => by
          rw [lk_put]
          split
          · rename_i hsd; rw [hsd, hc, hb]
          · rfl
        by_cases hcb : c = b
        · exact run1 _ (lkp b hcb) (by simp [gdV, hg, hd, hc, hcb]) (hw.1 hcb)
        · have hcn : c = !b := by revert hcb; cases c <;> cases b <;> simp
          exact ⟨_, _, goal (.tup []) log _ (lkp _ hcn) (fun p hp => hp) (.inr ⟨by simp [gdV, hg, hd, hc, hcb], rfl⟩), hw.2 hcn⟩
      · rename_i hc
        exact ⟨_, _, goal (.tup []) log e (fun _ => rfl) (fun p hp => hp) (.inr ⟨by simp [gdV, hg, hd, hc], rfl⟩), hw⟩
      · exact hw.elim

/-- What stands in the operands of an operation whose turn it is. -/
theorem seen_now (hs : Stat bl l bf) (hS : StD P bl l bf N t0 D pre rest e log h ρ w a) (hD : Closed l D) (hlt : ∀ i, D i → i < l.length) {i : Nat} {o : Oper} (ho : opAt l i = some o) (hi : ¬ D i) (hdir : ∀ j ∈ dirs o, D j)
    (hok : operOk N o = true) : ∀ x ∈ o.op.operands, RV ρ (evA (seenT l bf t0 e i) x) (a.eval x) := by
  intro x hx
  cases x with
  | tmp s =>
    simp only [evA, Act.eval]
    have hsN : s < N := by
      simp only [operOk, Bool.and_eq_true, List.all_eq_true] at hok
      simpa [opndOk] using hok.1 _ (Array.mem_toList_iff.2 hx)
    have hb := bef_done hs hD hlt i i (Nat.le_refl _) o ho hdir
    unfold seenT
    split
    · rename_i h
      obtain ⟨j, hj, hd⟩ := h
      exact hS.done s hsN j hd (hb j hj)
    · rename_i hno
      refine hS.old s hsN fun j hj hDj => ?_
      rcases hs.reads i o j s ho hj hx with h1 | h1 | h1
      · exact hno ⟨j, h1, hj⟩
      · have hjl := hlt j hDj
        have hjo : opAt l j = some l[j] := by rw [opAt_eq]; exact List.getElem?_eq_getElem hjl
        exact hi (bef_done hs hD hlt j j (Nat.le_refl _) _ hjo (hD j _ hDj hjo) i h1)
      · exact hi (h1 ▸ hDj)
  | const v =>
    simp only [evA, Act.eval]
    cases h : ofV v with
    | none => exact .junk _
    | some b => exact .pure _ _ (ofV_PV h)
  | global g => exact .junk _
  | func f => exact .pure _ _ (.func _ _ _ _ _ rfl rfl (fun i h => absurd h (Nat.not_lt_zero _)) (fun i h => absurd h (Nat.not_lt_zero _)))

open Classical in
/-- The values of an operation's own operands, and nothing else. -/
noncomputable def onlyT (o : Oper) (t : Nat → AV) (s : Nat) : AV := if Operand.tmp s ∈ o.op.operands then t s else .junk
theorem only_eq (o : Oper) (t : Nat → AV) : ∀ x ∈ o.op.operands, evA t x = evA (onlyT o t) x := fun x hx => by
  cases x with
  | tmp s => simp only [evA, onlyT]; rw [if_pos hx]
  | _ => rfl
theorem only_RV {o : Oper} {t : Nat → AV} (h : ∀ x ∈ o.op.operands, RV ρ (evA t x) (a.eval x)) : ∀ i, i < a.tmps.size → RV ρ (onlyT o t i) (a.tmps.getD i undef) := fun i _ => by
  unfold onlyT
  by_cases hi : Operand.tmp i ∈ o.op.operands
  · rw [if_pos hi]; exact h _ hi
  · rw [if_neg hi]; exact .junk _

/-- Is the operation wanted? -/
theorem gd_sound {ops : Array Oper} (hs : Stat bl ops.toList bf) (hS : StD P bl ops.toList bf N t0 D pre rest e log h ρ w a) (hok : ∀ o ∈ ops.toList, operOk N o = true) {i : Nat} {o : Oper} (ho : opAt ops.toList i = some o) (hb : ∀ j ∈ befA bf i, D j) {b : Bool}
    (hg : gdV ops.toList (lk e) o.guard = some b) : Region.wanted o (yielded ops a.tmps) = b := by
  unfold gdV at hg
  split at hg
  · rename_i hn
    cases hg
    simp [Region.wanted, hn]
  · rename_i j b' hn
    obtain ⟨hj, d, hd⟩ := hs.grd i o j b' ho hn
    simp only [hd] at hg
    have hy : ∀ r, yielded ops a.tmps j = r → Region.wanted o (yielded ops a.tmps) = (r == some b') := fun r hr => by simp [Region.wanted, hn, hr]
    have hd2 : (ops[j]?).bind (·.dst) = some d := by rw [dstAt_eq] at hd; simpa using hd
    have hdN : d < N := by
      obtain ⟨-, o', ho', hd''⟩ := dstAt_lt hd
      rw [opAt_eq] at ho'
      have := hok o' (List.mem_of_getElem? ho')
      simp only [operOk, hd'', Bool.and_eq_true, decide_eq_true_eq] at this
      exact this.2
    have hv := hS.done d hdN j hd (hb j hj)
    have hget : a.tmps[d]? = some (a.tmps.getD d undef) := by
      have : d < a.tmps.size := by rw [hS.size]; exact hdN
      simp [Array.getD, this]
    have hyd : yielded ops a.tmps j = match a.tmps.getD d undef with | .bool b => some b | _ => none := by
      simp only [yielded, hd2, Option.bind_some, hget]
      cases a.tmps.getD d undef <;> rfl
    split at hg
    · rename_i c hc
      rw [hc] at hv
      rw [inv_bool hv] at hyd
      rw [hy _ hyd]
      cases hg
      cases c <;> cases b' <;> rfl
    · rename_i hc
      rw [hc] at hv
      obtain ⟨vs, hvs, hl, -⟩ := inv_tup hv
      rw [hvs] at hyd
      rw [hy none hyd]
      cases hg
      rfl
    · cases hg

/-- One more is done: a light one that the walk has passed. -/
theorem do_light (hs : Stat bl l bf) (hS : StD P bl l bf N t0 D pre rest e log h ρ w a) {i : Nat} {o : Oper} (ho : opAt l i = some o) (hi : i ∈ pre) (hiD : ¬ D i) {D' : Nat → Prop} (hD' : ∀ k, D' k ↔ D k ∨ k = i) {ρ' : Ip} {w' : World} (hle : ρ.Le ρ') (hR : RH ρ' h w') {vc : Value}
    (hv : ∀ d, o.dst = some d → RV ρ' (lk e d) vc) : StD P bl l bf N t0 D' pre rest e log h ρ' w' (a.put o.dst vc) := by
  have get : ∀ s, s < N → (a.put o.dst vc).tmps.getD s undef = if o.dst = some s then vc else a.tmps.getD s undef := fun s hs' => by
    have hsz : s < a.tmps.size := by rw [hS.size]; exact hs'
    cases hd : o.dst with
    | none => simp [Act.put]
    | some d =>
      simp only [Act.put]
      by_cases h : s = d
      · subst h
        rw [if_pos rfl, Array.getD_eq_getD_getElem?, Array.getElem?_setIfInBounds_self_of_lt hsz]
        rfl
      · rw [if_neg (fun h' => h (Option.some.inj h').symm), Array.getD_eq_getD_getElem?, Array.getElem?_setIfInBounds_ne (Ne.symm h), ← Array.getD_eq_getD_getElem?]
  refine ⟨fun j hj => ?_, fun j hj oj hoj hlj => (hD' j).2 (.inl (hS.hvy j hj oj hoj hlj)), hS.befIn, hR, ?_, ?_, fun s hsN j hj hDj => ?_, fun s hsN hno => ?_, hS.epre, fun k hk hkD => ?_⟩
  · rcases (hD' j).1 hj with hj | rfl
    · exact hS.sub j hj
    · exact hi
  · cases hd : o.dst <;> simp [Act.put, hS.size]
  · cases hd : o.dst <;> simp [Act.put, hS.defers]
  · rw [get s hsN]
    rcases (hD' j).1 hDj with hDj | rfl
    · split
      · rename_i hd
        have := hs.uniq j i s hj (dst_of ho hd)
        exact absurd (this ▸ hDj) hiD
      · exact (hS.done s hsN j hj hDj).mono hle
    · rw [if_pos (dst_op ho hj)]
      exact hv s (dst_op ho hj)
  · rw [get s hsN]
    split
    · rename_i hd
      exact absurd ((hD' i).2 (.inr rfl)) (hno i (dst_of ho hd))
    · exact (hS.old s hsN fun j hj hDj => hno j hj ((hD' j).2 (.inl hDj))).mono hle
  · exact hS.pend k hk fun hDk => hkD ((hD' k).2 (.inl hDk))

/-- One more is done: the heavy one at the head of the order that is walked. -/
theorem do_heavy (hs : Stat bl l bf) {i : Nat} {r : List Nat} (hS : StD P bl l bf N t0 D pre (i :: r) e log h ρ w a) {o : Oper} (ho : opAt l i = some o) (hi : i ∉ pre) (hbef : ∀ j ∈ befA bf i, j ∈ pre) (hb : ∀ j ∈ befA bf i, D j) {D' : Nat → Prop} (hD' : ∀ k, D' k ↔ D k ∨ k = i)
    {ρ' : Ip} {w' : World} {h' : AH} (hle : ρ.Le ρ') (hR : RH ρ' h' w') {v : AV} {vc : Value} (hv : RV ρ' v vc) (hlog : logOk (befA bf i) log h') : StD P bl l bf N t0 D' (i :: pre) r (putE o.dst v e) log h' ρ' w' (a.put o.dst vc) := by
  have hiD : ¬ D i := fun hd => hi (hS.sub i hd)
  have get : ∀ s, s < N → (a.put o.dst vc).tmps.getD s undef = if o.dst = some s then vc else a.tmps.getD s undef := fun s hs' => by
    have hsz : s < a.tmps.size := by rw [hS.size]; exact hs'
    cases hd : o.dst with
    | none => simp [Act.put]
    | some d =>
      simp only [Act.put]
      by_cases h : s = d
      · subst h
        rw [if_pos rfl, Array.getD_eq_getD_getElem?, Array.getElem?_setIfInBounds_self_of_lt hsz]
        rfl
      · rw [if_neg (fun h' => h (Option.some.inj h').symm), Array.getD_eq_getD_getElem?, Array.getElem?_setIfInBounds_ne (Ne.symm h), ← Array.getD_eq_getD_getElem?]
  have nb : ∀ k ∈ pre, i ∉ befA bf k := fun k hk hin => hi (hS.befIn k hk i hin)
  refine ⟨fun j hj => ?_, fun j hj oj hoj hlj => ?_, fun j hj k hk => ?_, hR, ?_, ?_, fun s hsN j hj hDj => ?_, fun s hsN hno => ?_, fun s hs' => ?_, fun k hk hkD => ?_⟩
  · rcases (hD' j).1 hj with hj | rfl
    · exact List.mem_cons_of_mem _ (hS.sub j hj)
    · exact List.mem_cons_self ..
  · rcases List.mem_cons.1 hj with rfl | hj
    · exact (hD' _).2 (.inr rfl)
    · exact (hD' j).2 (.inl (hS.hvy j hj oj hoj hlj))
  · rcases List.mem_cons.1 hj with rfl | hj
    · exact List.mem_cons_of_mem _ (hbef k hk)
    · exact List.mem_cons_of_mem _ (hS.befIn j hj k hk)
  · cases hd : o.dst <;> simp [Act.put, hS.size]
  · cases hd : o.dst <;> simp [Act.put, hS.defers]
  · rw [get s hsN]
    rcases (hD' j).1 hDj with hDj | rfl
    · have hji : j ≠ i := fun h => hiD (h ▸ hDj)
      rw [if_neg (fun hd => hji (hs.uniq j i s hj (dst_of ho hd))), lk_other hs ho hj hji]
      exact (hS.done s hsN j hj hDj).mono hle
    · rw [if_pos (dst_op ho hj), dst_op ho hj]
      simp only [putE, lk_put, if_pos]
      exact hv
  · rw [get s hsN]
    split
    · rename_i hd
      exact absurd ((hD' i).2 (.inr rfl)) (hno i (dst_of ho hd))
    · exact (hS.old s hsN fun j hj hDj => hno j hj ((hD' j).2 (.inl hDj))).mono hle
  · have : lk (putE o.dst v e) s = lk e s := by
      cases hd : o.dst with
      | none => rfl
      | some d =>
        simp only [putE, lk_put]
        rw [if_neg]
        intro h
        subst h
        exact hs' i (dst_of ho hd) (List.mem_cons_self ..)
    rw [this]
    exact hS.epre s fun j hj hjp => hs' j hj (List.mem_cons_of_mem _ hjp)
  · rcases List.mem_cons.1 hk with rfl | hkp
    · exact absurd ((hD' _).2 (.inr rfl)) hkD
    · have hkD0 : ¬ D k := fun hDk => hkD ((hD' k).2 (.inl hDk))
      obtain ⟨ok, hok, hlk, hP'⟩ := hS.pend k hkp hkD0
      refine ⟨ok, hok, hlk, ?_⟩
      have gs : gdV l (lk (putE o.dst v e)) ok.guard = gdV l (lk e) ok.guard := gdV_stable hs ho hok (nb k hkp) v e
      have dk : ∀ d, ok.dst = some d → lk (putE o.dst v e) d = lk e d := fun d hd => lk_other hs ho (dst_of hok hd) (fun h => hi (h ▸ hkp)) v e
      rcases hP' with ⟨hg, M, hM⟩ | ⟨hg, hv'⟩
      · refine .inl ⟨by rw [gs]; exact hg, M, fun h'' hm => ?_, ?_, hM.logged⟩
        · rw [seen_stable hs ho (nb k hkp)]
          exact opW_mono (fun u h3 hu => ⟨fun d hd => by rw [dk d hd]; exact hu.1 d hd, hu.2⟩) (hM.run h'' hm)
        · rw [memoOk_iff]
          intro p hp
          rcases (logOk_iff.1 hlog) (k, p) (hM.logged p hp) with h1 | h1
          · exact absurd (hb k (by simpa using h1)) hkD0
          · exact h1
      · exact .inr ⟨by rw [gs]; exact hg, fun d hd => by rw [dk d hd]; exact hv' d hd⟩

theorem ready_mem {ops : Array Oper} {listed : Array Bool} {i : Nat} : i ∈ Region.ready .any ops listed ↔ i < ops.size ∧ listed.getD i true = false ∧ ∃ o, ops[i]? = some o ∧ ∀ j ∈ dirs o, listed.getD j false = true := by
  simp only [Region.ready, List.mem_filter, List.mem_range, Bool.and_eq_true, Bool.not_eq_true']
  refine and_congr_right fun hi => and_congr_right fun _ => ?_
  rw [Array.getElem?_eq_getElem hi]
  simp only [Option.map_some, Option.getD_some]
  constructor
  · intro h
    refine ⟨_, rfl, fun j hj => ?_⟩
    simp only [dirs, List.mem_map, List.mem_filter] at hj
    obtain ⟨ed, ⟨h1, h2⟩, rfl⟩ := hj
    rw [Array.all_eq_true'] at h
    have := h ed (Array.mem_toList_iff.1 h1)
    simpa [h2] using this
  · rintro ⟨o, ho, h⟩
    cases ho
    rw [Array.all_eq_true']
    intro ed hed
    by_cases hb : Region.binds .any ed = true
    · have := h ed.on (by simp only [dirs, List.mem_map, List.mem_filter]; exact ⟨ed, ⟨Array.mem_toList_iff.2 hed, hb⟩, rfl⟩)
      simp [this]
    · simp [hb]

theorem ready_nil {ops : Array Oper} {listed : Array Bool} (hs : Stat bl ops.toList bf) (hsz : listed.size = ops.size) (h : Region.ready .any ops listed = []) : ∀ i, i < ops.size → listed.getD i false = true := by
  intro i
  induction i using Nat.strongRecOn with
  | _ i ih =>
    intro hi
    by_cases hl : listed.getD i false = true
    · exact hl
    · exfalso
      have hil : i < listed.size := by omega
      have hm : i ∈ Region.ready .any ops listed := by
        refine ready_mem.2 ⟨hi, ?_, ops[i], Array.getElem?_eq_getElem hi, fun j hj => ?_⟩
        · simp [Array.getD, hil] at hl ⊢; exact hl
        · have := (hs.dir_lt i ops[i] j (by rw [opAt_eq]; simp [hi]) hj).1
          exact ih j this (by omega)
      rw [h] at hm; cases hm

theorem planGo_cons {l : List Oper} {done r : List Nat} {i : Nat} (h : planGo bl l bf done (i :: r) = true) : i ∉ done ∧ (∀ j ∈ befA bf i, j ∈ done) ∧ (∃ o, opAt l i = some o ∧ (lightB bl o.op = true ∨ (o.guard = none ∧ ∀ k ∈ r, i ∈ befA bf k))) ∧ planGo bl l bf (i :: done) r = true := by
  simp only [planGo, Bool.and_eq_true, Bool.not_eq_true', List.all_eq_true] at h
  obtain ⟨⟨⟨h1, h2⟩, h3⟩, h4⟩ := h
  refine ⟨by simpa using h1, fun j hj => by simpa using h2 j hj, ?_, h4⟩
  split at h3
  · rename_i o ho
    refine ⟨o, ho, ?_⟩
    simp only [Bool.or_eq_true, Bool.and_eq_true, List.all_eq_true, Option.isNone_iff_eq_none] at h3
    exact h3.imp id fun h => ⟨h.1, fun k hk => by simpa using h.2 k hk⟩
  · cases h3

theorem to_head (hs : Stat bl l bf) {K : Env → AH → Prop} {i : Nat} (hi : ¬ D i) (hb : ∀ j ∈ befA bf i, D j) : ∀ (rest pre : List Nat) (e : Env) (log : List (Nat × Nat × Option (List AV))), StD P bl l bf N t0 D pre rest e log h ρ w a → planGo bl l bf pre rest = true → (∀ k, k < l.length → k ∈ pre ∨ k ∈ rest) → i ∈ rest → regW P bl l bf rest log e h K →
    ∃ pre' r' e' log', StD P bl l bf N t0 D pre' (i :: r') e' log' h ρ w a ∧ planGo bl l bf pre' (i :: r') = true ∧ (∀ k, k < l.length → k ∈ pre' ∨ k ∈ i :: r') ∧ regW P bl l bf (i :: r') log' e' h K
  | [], pre, e, log, hS, hp, hall, hm, hw => by cases hm
  | k :: r, pre, e, log, hS, hp, hall, hm, hw => by
    by_cases hk : k = i
    · subst hk
      exact ⟨pre, r, e, log, hS, hp, hall, hw⟩
    · have hir : i ∈ r := by
        rcases List.mem_cons.1 hm with h | h
        · exact absurd h.symm hk
        · exact h
      obtain ⟨h1, h2, ⟨o, ho, h3⟩, h4⟩ := planGo_cons hp
      rcases h3 with h3 | ⟨-, h3⟩
      · obtain ⟨e', log', hS', hw'⟩ := advance hs hS h1 h2 ho h3 hw
        exact to_head hs hi hb r (k :: pre) e' log' hS' h4 (fun q hq => by
          rcases hall q hq with h | h
          · exact .inl (List.mem_cons_of_mem _ h)
          · rcases List.mem_cons.1 h with h | h
            · exact .inl (h ▸ List.mem_cons_self ..)
            · exact .inr h) hir hw'
      · exact absurd (hS.sub k (hb k (h3 i hir))) h1

theorem any_sound {ops : Array Oper} (hs : Stat bl ops.toList bf) (hok : ∀ o ∈ ops.toList, operOk N o = true) {K : Env → AH → Prop} {Q : Exit → Act → World → Prop} {ρ0 : Ip}
    (hQ : ∀ ρ' e' h' a' w', ρ0.Le ρ' → RH ρ' h' w' → RT ρ' N e' a' → K e' h' → Q .normal a' w') :
    ∀ (fuel : Nat) (listed : Array Bool) (pre rest : List Nat) (e : Env) (log : List (Nat × Nat × Option (List AV))) (h : AH) (ρ : Ip) (w : World) (a : Act), listed.size = ops.size → listed.toList.count false ≤ fuel → Closed ops.toList (fun i => listed.getD i false = true) →
      StD P bl ops.toList bf N t0 (fun i => listed.getD i false = true) pre rest e log h ρ w a → planGo bl ops.toList bf pre rest = true → (∀ k, k < ops.size → k ∈ pre ∨ k ∈ rest) → regW P bl ops.toList bf rest log e h K → ρ0.Le ρ → wpAny P .any ops Q fuel listed a w := by
  -- when all is done
  have finish : ∀ (listed : Array Bool) (pre rest : List Nat) (e : Env) (log : List (Nat × Nat × Option (List AV))) (h : AH) (ρ : Ip) (w : World) (a : Act), (∀ i, i < ops.size → listed.getD i false = true) →
      StD P bl ops.toList bf N t0 (fun i => listed.getD i false = true) pre rest e log h ρ w a → planGo bl ops.toList bf pre rest = true → regW P bl ops.toList bf rest log e h K → ρ0.Le ρ → Q .normal a w := by
    intro listed pre rest e log h ρ w a hall hS hp hw hle
    cases rest with
    | cons i r =>
      obtain ⟨h1, -, ⟨o, ho, -⟩, -⟩ := planGo_cons hp
      rw [opAt_eq] at ho
      have hi : i < ops.size := by simpa using (List.getElem?_eq_some_iff.1 ho).1
      exact absurd (hS.sub i (hall i hi)) h1
    | nil =>
      refine hQ ρ e h a w hle hS.rh ⟨hS.size, fun s hsN => ?_, hS.defers⟩ hw
      by_cases hex : ∃ j, dstAt ops.toList j = some s
      · obtain ⟨j, hj⟩ := hex
        exact hS.done s hsN j hj (hall j (by simpa using (dstAt_lt hj).1))
      · rw [hS.epre s fun j hj => absurd ⟨j, hj⟩ hex]
        exact hS.old s hsN fun j hj => absurd ⟨j, hj⟩ hex
  intro fuel
  induction fuel with
  | zero =>
    intro listed pre rest e log h ρ w a hsz hcount hD hS hp hall hw hle
    have hno : ∀ i, i < ops.size → listed.getD i false = true := fun i hi => by
      have hil : i < listed.size := by omega
      have h0 : listed.toList.count false = 0 := by omega
      have := List.count_eq_zero.1 h0
      cases hb : listed[i] with
      | true => simp [Array.getD, hil, hb]
      | false => exact absurd (hb ▸ Array.getElem_mem_toList hil) this
    refine ⟨?_, finish listed pre rest e log h ρ w a hno hS hp hw hle⟩
    refine List.eq_nil_iff_forall_not_mem.2 fun i hi => ?_
    obtain ⟨h1, h2, -⟩ := ready_mem.1 hi
    have := hno i h1
    have hil : i < listed.size := by omega
    simp [Array.getD, hil] at h2 this
    rw [h2] at this; cases this
  | succ fuel ih =>
    intro listed pre rest e log h ρ w a hsz hcount hD hS hp hall hw hle
    refine ⟨fun hnil => finish listed pre rest e log h ρ w a (ready_nil hs hsz hnil) hS hp hw hle, fun i hi => ?_⟩
    obtain ⟨hi1, hi2, o, ho, hdir⟩ := ready_mem.1 hi
    have hil : i < listed.size := by omega
    have hif : listed[i] = false := by simpa [Array.getD, hil] using hi2
    have hiD : ¬ (listed.getD i false = true) := by simp [Array.getD, hil, hif]
    have ho' : opAt ops.toList i = some o := by rw [opAt_eq]; simpa using ho
    have hom : o ∈ ops.toList := List.mem_of_getElem? (by rw [← opAt_eq]; exact ho')
    have hoo := hok o hom
    have hlt : ∀ i, listed.getD i false = true → i < ops.toList.length := fun k hk => by
      by_cases hkl : k < listed.size
      · simp; omega
      · simp [Array.getD, hkl] at hk
    have hb := bef_done hs hD hlt i i (Nat.le_refl _) o ho' hdir
    have hD' : ∀ k, (listed.setIfInBounds i true).getD k false = true ↔ listed.getD k false = true ∨ k = i := fun k => by
      rw [Array.getD_eq_getD_getElem?, Array.getElem?_setIfInBounds, Array.getD_eq_getD_getElem?]
      by_cases hk : i = k
      · subst hk; simp [hil]
      · rw [if_neg hk]
        constructor
        · exact .inl
        · rintro (h | h)
          · exact h
          · exact absurd h.symm hk
    have hsz' : (listed.setIfInBounds i true).size = ops.size := by simpa using hsz
    have hcount' : (listed.setIfInBounds i true).toList.count false ≤ fuel := by
      rw [Array.toList_setIfInBounds, List.count_set (by simpa using hil)]
      have e1 : (listed.toList[i]'(by simpa using hil)) = false := by simpa using hif
      simp only [e1, beq_self_eq_true, if_true, show (true == false) = false from rfl, Bool.false_eq_true, if_false]
      omega
    have hclosed' : Closed ops.toList (fun k => (listed.setIfInBounds i true).getD k false = true) := fun k ok hk hok' j hj => by
      rcases (hD' k).1 hk with hk | rfl
      · exact (hD' j).2 (.inl (hD k ok hk hok' j hj))
      · rw [ho'] at hok'; cases hok'
        exact (hD' j).2 (.inl (hdir j hj))
    -- an operation that the walk has passed
    have passed : ∀ (pre rest : List Nat) (e : Env) (log : List (Nat × Nat × Option (List AV))), StD P bl ops.toList bf N t0 (fun i => listed.getD i false = true) pre rest e log h ρ w a → planGo bl ops.toList bf pre rest = true → (∀ k, k < ops.size → k ∈ pre ∨ k ∈ rest) → regW P bl ops.toList bf rest log e h K → i ∈ pre →
        wpOp P ops Q i (wpAny P .any ops Q fuel (listed.setIfInBounds i true)) a w := by
      intro pre rest e log hS hp hall hw hip
      obtain ⟨o2, ho2, hl, hpd⟩ := hS.pend i hip hiD
      rw [ho'] at ho2; cases ho2
      unfold wpOp
      rw [ho]
      simp only
      rcases hpd with ⟨hg, M, hM⟩ | ⟨hg, hv⟩
      · rw [if_pos (gd_sound hs hS hok ho' hb hg)]
        have hrun := hM.run h hM.memo
        have hrv := seen_now hs hS hD hlt ho' hiD hdir hoo
        refine .inl (step_sound (P := P) (bl := bl) (N := N) (t := onlyT o (seenT ops.toList bf t0 e i)) (stepW_of_opW (opW_congr (only_eq o _) hrun)) hS.rh hS.size (only_RV hrv) hoo fun v vc ρ' h' w' hle' hR' hv hK => ?_)
        obtain ⟨hK1, rfl⟩ := hK
        exact ih _ pre rest e log _ ρ' w' _ hsz' hcount' hclosed' (do_light hs hS ho' hip hiD hD' hle' hR' fun d hd => by rw [← hK1 d hd]; exact hv) hp hall hw (hle.trans hle')
      · rw [if_neg (by rw [gd_sound hs hS hok ho' hb hg]; simp)]
        exact ih _ pre rest e log _ ρ w _ hsz' hcount' hclosed' (do_light hs hS ho' hip hiD hD' (.refl _) hS.rh fun d hd => by
          rw [hv d hd]; exact .pure _ _ (.tup [] #[] rfl (fun i hi => absurd hi (Nat.not_lt_zero _)))) hp hall hw hle
    by_cases hip : i ∈ pre
    · exact passed pre rest e log hS hp hall hw hip
    · have hir : i ∈ rest := (hall i hi1).resolve_left hip
      obtain ⟨pre', r', e', log', hS', hp', hall', hw'⟩ := to_head hs hiD hb rest pre e log hS hp (by simpa using hall) hir hw
      obtain ⟨h1, h2, ⟨o2, ho2, h3⟩, h4⟩ := planGo_cons hp'
      rw [ho'] at ho2; cases ho2
      have hall2 : ∀ k, k < ops.size → k ∈ i :: pre' ∨ k ∈ r' := fun q hq => by
        rcases hall' q (by simpa using hq) with h | h
        · exact .inl (List.mem_cons_of_mem _ h)
        · rcases List.mem_cons.1 h with h | h
          · exact .inl (h ▸ List.mem_cons_self ..)
          · exact .inr h
      by_cases hlt' : lightB bl o.op = true
      · obtain ⟨e2, log2, hS2, hw2⟩ := advance hs hS' h1 h2 ho' hlt' hw'
        exact passed (i :: pre') r' e2 log2 hS2 h4 hall2 hw2 (List.mem_cons_self ..)
      · obtain ⟨hg, -⟩ := h3.resolve_left hlt'
        have hlf : lightB bl o.op = false := by simpa using hlt'
        simp only [regW, ho', hlf, cond_false] at hw'
        unfold wpOp
        rw [ho]
        simp only
        rw [if_pos (by simp [Region.wanted, hg])]
        have hrv := seen_now hs hS' hD hlt ho' hiD hdir hoo
        have hcong : ∀ x ∈ o.op.operands, evA (lk e') x = evA (onlyT o (seenT ops.toList bf t0 e' i)) x := fun x hx => by
          rw [seen_head hs hS' ho' h1 x hx]; exact only_eq o _ x hx
        refine .inl (step_sound (P := P) (bl := bl) (N := N) (t := onlyT o (seenT ops.toList bf t0 e' i)) (stepW_congr hcong hw') hS'.rh hS'.size (only_RV hrv) hoo fun v vc ρ' h' w' hle' hR' hv hK => ?_)
        exact ih _ (i :: pre') r' _ log' h' ρ' w' _ hsz' hcount' hclosed' (do_heavy hs hS' ho' h1 h2 hb hD' hle' hR' hv hK.1) h4 hall2 hK.2 (hle.trans hle')

theorem reg_sound {id : Nat} {ops : Array Oper} {plan : List Nat} {e : Env} {K : Env → AH → Prop} {Q : Exit → Act → World → Prop} (hm : P.follows .mixedOrders = true) (hp : planOk bl ops.toList bf plan = true) (hok : ∀ o ∈ ops.toList, operOk N o = true) (hw : regW P bl ops.toList bf plan [] e h K)
    (hR : RH ρ h w) (hT : RT ρ N e a) (hQ : ∀ ρ' e' h' a' w', ρ.Le ρ' → RH ρ' h' w' → RT ρ' N e' a' → K e' h' → Q .normal a' w') : (Code.region id ops true).wp P Q a w := by
  obtain ⟨hs, hgo, hall⟩ := stat_of hp
  have hno : ∀ i, ¬ ((Array.replicate ops.size false).getD i false = true) := fun i hi => by
    rw [Array.getD_eq_getD_getElem?, Array.getElem?_replicate] at hi
    split at hi <;> simp at hi
  refine wp_region_any hm ?_
  refine any_sound (t0 := lk e) hs hok hQ ops.size _ [] plan e [] h ρ _ a (by simp) (by simp) (fun i o hi => absurd hi (hno i)) ⟨fun i hi => absurd hi (hno i), fun i hi => (by cases hi), fun i hi => (by cases hi), hR.drew, hT.size, hT.defers, fun s hs' j hj hD => absurd hD (hno j), fun s hs' _ => hT.get s hs', fun s _ => rfl, fun i hi => (by cases hi)⟩ hgo (fun k hk => .inr (hall k (by simpa using hk))) hw (.refl _)
end
end Go.Eng
/- An engine, part 10: rules for code; functions. Over any program. -/
set_option linter.unusedVariables false
set_option linter.unusedSimpArgs false
namespace Go.Eng
open Go.RowKit (Below)

def codeOk (N : Nat) : Code → Bool
  | .region _ ops _ => ops.toList.all (operOk N)
  | .seq a b => codeOk N a && codeOk N b
  | .cond c a b => opndOk N c && codeOk N a && codeOk N b
  | .block _ a => codeOk N a
  | .loop a => codeOk N a
  | _ => true

abbrev Post := Exit → Env → AH → Prop
def post (N : Nat) (ρ : Ip) (Q : Post) : Exit → Act → World → Prop := fun ex a' w' => ∃ ρ' e' h', ρ.Le ρ' ∧ RH ρ' h' w' ∧ RT ρ' N e' a' ∧ Q ex e' h'

/-- From such a state the code comes to such exits. -/
def Good (P : Program) (N : Nat) (c : Code) (e : Env) (h : AH) (Q : Post) : Prop := codeOk N c = true → ∀ ρ w a, RH ρ h w → RT ρ N e a → c.wp P (post N ρ Q) a w

@[congr] theorem Good.congr_ {P : Program} {N : Nat} {c : Code} {e e' : Env} {h h' : AH} {Q : Post} (h1 : e = e') (h2 : h = h') : Good P N c e h Q = Good P N c e' h' Q := by rw [h1, h2]

def thenQ (next : Env → AH → Prop) (Q : Post) : Post
  | .normal, e, h => next e h
  | ex, e, h => Q ex e h
def blockQ (id : Nat) (Q : Post) : Post
  | .exit id', e, h => (id' = id ∧ Q .normal e h) ∨ (id' ≠ id ∧ Q (.exit id') e h)
  | ex, e, h => Q ex e h

section
variable {P : Program} {N : Nat} {e : Env} {h : AH} {Q : Post}

theorem Good.mono {c : Code} {Q' : Post} (hg : Good P N c e h Q) (hq : ∀ ex e h, Q ex e h → Q' ex e h) : Good P N c e h Q' := fun hok ρ w a hR hT =>
  wp_mono (hg hok ρ w a hR hT) fun ex a' w' ⟨ρ', e', h', h1, h2, h3, h4⟩ => ⟨ρ', e', h', h1, h2, h3, hq _ _ _ h4⟩

theorem Good.weak {c : Code} {e' : Env} (hg : Good P N c e' h Q) (hw : Weak e' e) : Good P N c e h Q := fun hok ρ w a hR hT => hg hok ρ w a hR (hT.weak hw)

theorem good_seq {x y : Code} (hg : Good P N x e h (thenQ (fun e h => Good P N y e h Q) Q)) : Good P N (.seq x y) e h Q := fun hok ρ w a hR hT => by
  simp only [codeOk, Bool.and_eq_true] at hok
  refine wp_seq (wp_mono (hg hok.1 ρ w a hR hT) fun ex a' w' ⟨ρ', e', h', h1, h2, h3, h4⟩ => ?_)
  cases ex with
  | normal => exact wp_mono (h4 hok.2 ρ' w' a' h2 h3) fun ex a'' w'' ⟨ρ'', e'', h'', k1, k2, k3, k4⟩ => ⟨ρ'', e'', h'', h1.trans k1, k2, k3, k4⟩
  | _ => exact ⟨ρ', e', h', h1, h2, h3, h4⟩

theorem good_skip (hq : Q .normal e h) : Good P N .skip e h Q := fun hok ρ w a hR hT => wp_skip ⟨ρ, e, h, .refl _, hR, hT, hq⟩
theorem good_exit {id : Nat} (hq : Q (.exit id) e h) : Good P N (.exit id) e h Q := fun hok ρ w a hR hT => wp_exit ⟨ρ, e, h, .refl _, hR, hT, hq⟩
theorem good_ret (hq : Q .ret e h) : Good P N .ret e h Q := fun hok ρ w a hR hT => wp_ret ⟨ρ, e, h, .refl _, hR, hT, hq⟩

theorem good_block {id : Nat} {c : Code} (hg : Good P N c e h (blockQ id Q)) : Good P N (.block id c) e h Q := fun hok ρ w a hR hT => by
  refine wp_block (wp_mono (hg hok ρ w a hR hT) fun ex a' w' ⟨ρ', e', h', h1, h2, h3, h4⟩ => ?_)
  cases ex with
  | exit id' =>
    simp only [Exit.inBlock]
    rcases h4 with ⟨hi, h4⟩ | ⟨hi, h4⟩
    · rw [if_pos hi]; exact ⟨ρ', e', h', h1, h2, h3, h4⟩
    · rw [if_neg hi]; exact ⟨ρ', e', h', h1, h2, h3, h4⟩
  | _ => exact ⟨ρ', e', h', h1, h2, h3, h4⟩

theorem good_cond {c : Operand} {x y : Code} (hg : condW (evA (lk e) c) (Good P N x e h Q) (Good P N y e h Q)) : Good P N (.cond c x y) e h Q := fun hok ρ w a hR hT => by
  simp only [codeOk, Bool.and_eq_true] at hok
  have hv : RV ρ (evA (lk e) c) (a.eval c) := evA_sound (fun i hi => hT.get i (by rw [← hT.size]; exact hi)) (fun i hi => by
    subst hi; rw [hT.size]; simpa [opndOk] using hok.1.1)
  unfold condW at hg
  split at hg
  · rename_i t ht
    rw [ht] at hv
    exact wp_cond_split (inv_bool hv) (fun h1 => hg.1 h1 hok.1.2 ρ w a hR hT) (fun h1 => hg.2 h1 hok.2 ρ w a hR hT)
  · exact hg.elim

theorem good_region {id : Nat} {ops : Array Oper} (bl : Bool) (hg : runL P bl ops.toList ops.toList e h (fun e h => Q .normal e h)) : Good P N (.region id ops false) e h Q := fun hok ρ w a hR hT => by
  simp only [codeOk, List.all_eq_true] at hok
  exact wp_region_list (runL_sound hok _ e h ρ a w hok hg hR hT fun ρ' e' h' a' w' h1 h2 h3 h4 => ⟨ρ', e', h', h1, h2, h3, h4⟩)

theorem good_draw {id : Nat} {ops : Array Oper} (hm : P.follows .mixedOrders = true) (bl : Bool) (bf : List (List Nat)) (plan : List Nat) (hp : planOk bl ops.toList bf plan = true)
    (hg : regW P bl ops.toList bf plan [] e h (fun e h => Q .normal e h)) : Good P N (.region id ops true) e h Q := fun hok ρ w a hR hT => by
  simp only [codeOk, List.all_eq_true] at hok
  exact reg_sound hm hp hok hg hR hT fun ρ' e' h' a' w' h1 h2 h3 h4 => ⟨ρ', e', h', h1, h2, h3, h4⟩

/-- A loop: what every round starts from, with a number that falls. -/
theorem good_loop {c : Code} (I : Nat → Env → AH → Prop) (n : Nat) (h0 : ∃ e', Weak e' e ∧ I n e' h)
    (round : ∀ n e h, I n e h → Good P N c e h (thenQ (fun e h => ∃ n' e', n' < n ∧ Weak e' e ∧ I n' e' h) Q)) : Good P N (.loop c) e h Q := fun hok ρ w a hR hT => by
  have hok' : codeOk N c = true := hok
  obtain ⟨e0, hw0, hI0⟩ := h0
  refine wp_loop_ghost (fun n a w => ∃ ρ' e h, ρ.Le ρ' ∧ RH ρ' h w ∧ RT ρ' N e a ∧ I n e h) n ⟨ρ, e0, h, .refl _, hR, hT.weak hw0, hI0⟩ fun n a w ⟨ρ', e1, h1, k1, k2, k3, k4⟩ => ?_
  refine wp_mono (round n e1 h1 k4 hok' ρ' w a k2 k3) fun ex a' w' ⟨ρ'', e'', h'', j1, j2, j3, j4⟩ => ?_
  cases ex with
  | normal =>
    obtain ⟨n', e3, hlt, hwk, hI⟩ := j4
    exact ⟨n', hlt, ρ'', e3, h'', k1.trans j1, j2, j3.weak hwk, hI⟩
  | _ => exact ⟨ρ'', e'', h'', k1.trans j1, j2, j3, j4⟩

/-- The same with the states given by a parameter. -/
theorem good_loop_st {σ : Type} {c : Code} (env : σ → Env) (heap : σ → AH) (inv : σ → Prop) (μ : σ → Nat) (s0 : σ) (h1 : Env.holds (env s0) e) (h2 : heap s0 = h) (h3 : inv s0)
    (round : ∀ s, inv s → Good P N c (env s) (heap s) (thenQ (fun e h => ∃ s', inv s' ∧ μ s' < μ s ∧ Env.holds (env s') e ∧ heap s' = h) Q)) : Good P N (.loop c) e h Q := by
  refine good_loop (fun n e h => ∃ s, n = μ s ∧ e = env s ∧ h = heap s ∧ inv s) (μ s0) ⟨env s0, Env.holds_weak h1, s0, rfl, rfl, h2.symm, h3⟩ ?_
  rintro n e h ⟨s, rfl, rfl, rfl, hs⟩
  refine (round s hs).mono fun ex e h hq => ?_
  cases ex with
  | normal =>
    obtain ⟨s', k1, k2, k3, k4⟩ := hq
    exact ⟨μ s', env s', k2, Env.holds_weak k3, s', rfl, rfl, k4.symm, k1⟩
  | _ => exact hq

/-- A stretch of code whose end is said at once. -/
theorem good_mid {c : Code} (R : Post) (hg : Good P N c e h R) (hq : ∀ ex e h, R ex e h → Q ex e h) : Good P N c e h Q := hg.mono hq

/-! ### functions -/
def initE : Nat → List AV → Env
  | _, [] => []
  | i, v :: vs => (i, v) :: initE (i + 1) vs
theorem lk_initE : ∀ (vs : List AV) (k i : Nat), lk (initE k vs) i = if h : k ≤ i ∧ i - k < vs.length then vs[i - k] else .junk
  | [], k, i => by simp [initE, lk]
  | v :: vs, k, i => by
    simp only [initE, lk]
    by_cases hk : k = i
    · subst hk; simp
    · rw [if_neg hk]
      rw [lk_initE vs (k + 1) i]
      by_cases hc : k + 1 ≤ i ∧ i - (k + 1) < vs.length
      · have h2 : k ≤ i ∧ i - k < (v :: vs).length := ⟨by omega, by simp only [List.length_cons]; omega⟩
        rw [dif_pos hc, dif_pos h2]
        have : i - k = (i - (k + 1)) + 1 := by omega
        simp only [this, List.getElem_cons_succ]
      · rw [dif_neg hc, dif_neg]
        simp only [List.length_cons]
        omega

def resV (P : Program) (e : Env) (h : AH) (r : ResultVar) (K : AV → Prop) : Prop := match r with
  | .tmp t => K (lk e t)
  | .cell a t => loadW P t (lk e a) h fun v _ => K v
def resL (P : Program) (e : Env) (h : AH) : List ResultVar → (List AV → Prop) → Prop
  | [], K => K []
  | r :: rs, K => resV P e h r fun v => resL P e h rs fun vs => K (v :: vs)
def resW (P : Program) (rs : List ResultVar) (e : Env) (h : AH) (R : AV → AH → Prop) : Prop := match rs with
  | [r] => resV P e h r fun v => R v h
  | rs => resL P e h rs fun vs => R (.tup vs) h
def resOk (N : Nat) : ResultVar → Bool
  | .tmp t => decide (t < N)
  | .cell a _ => decide (a < N)

variable {ρ : Ip} {w : World} {a : Act}

def resF (tmps : Array Value) : ResultVar → Sem Value
  | .tmp t => pure (tmps.getD t undef)
  | .cell a t => do loadVar t (← asAddr (tmps.getD a undef))

theorem resV_sound {r : ResultVar} {K : AV → Prop} (hw : resV P e h r K) (hR : RH ρ h w) (hT : RT ρ N e a) (hok : resOk N r = true) : ∃ v vc, (resF a.tmps r).run P w = .ok vc w ∧ RV ρ v vc ∧ K v := by
  cases r with
  | tmp t => exact ⟨_, _, rfl, hT.get t (by simpa [resOk] using hok), hw⟩
  | cell a' t =>
    have hv := hT.get a' (by simpa [resOk] using hok)
    obtain ⟨vc, v, hr, hv', hK⟩ := load_sound (P := P) (t := t) (K := fun v _ => K v) hw hR hv
    refine ⟨v, vc, ?_, hv', hK⟩
    have hptr : ∃ ad, a.tmps.getD a' undef = .pointer (some ad) := by
      simp only [resV] at hw
      unfold loadW at hw
      split at hw
      · rename_i u hu
        rw [hu] at hv
        obtain ⟨ad, u', h1, -⟩ := inv_eptr hv
        exact ⟨ad, h1⟩
      · rename_i b o hu
        rw [hu] at hv
        obtain ⟨ad, h1, -⟩ := inv_ptr hv
        exact ⟨ad, h1⟩
      · exact hw.elim
    obtain ⟨ad, had⟩ := hptr
    rw [had] at hr
    simp only [resF, had, asAddr, Sem.run_bind, Sem.run_pure, Result.andThen_ok]
    simpa [Instr.loadAt, Instr.sureAddr] using hr

theorem resL_sound (hR : RH ρ h w) (hT : RT ρ N e a) : ∀ (rs : List ResultVar) (K : List AV → Prop), resL P e h rs K → (∀ r ∈ rs, resOk N r = true) → ∃ vs vcs, (rs.mapM (resF a.tmps)).run P w = .ok vcs w ∧ vcs.length = rs.length ∧ vs.length = vcs.length ∧ (∀ i (hi : i < vs.length), RV ρ vs[i] (vcs.getD i undef)) ∧ K vs
  | [], K, hw, hok => ⟨[], [], by simp, rfl, rfl, fun i hi => absurd hi (Nat.not_lt_zero _), hw⟩
  | r :: rs, K, hw, hok => by
    obtain ⟨v, vc, hr, hv, hK⟩ := resV_sound hw hR hT (hok r (List.mem_cons_self ..))
    obtain ⟨vs, vcs, hrs, hl0, hl, hvs, hK'⟩ := resL_sound hR hT rs _ hK (fun r hr => hok r (List.mem_cons_of_mem _ hr))
    refine ⟨v :: vs, vc :: vcs, ?_, by simp [hl0], by simp [hl], fun i hi => ?_, hK'⟩
    · simp only [List.mapM_cons, Sem.run_bind, hr, Result.andThen_ok, hrs, Sem.run_pure]
    · cases i with
      | zero => simpa using hv
      | succ i => simpa using hvs i (by simpa using hi)

theorem results_eq (fn : Func) (tmps : Array Value) : results fn tmps = (do let vs ← fn.results.toList.mapM (resF tmps); pure (if h : vs.toArray.size = 1 then vs.toArray[0] else .tuple vs.toArray)) := by
  have : fn.results.mapM (resF tmps) = (List.toArray <$> fn.results.toList.mapM (resF tmps)) := by
    rw [← List.mapM_toArray]
  unfold results
  show (do let vs ← fn.results.mapM (resF tmps); _) = _
  rw [this]
  simp only [map_eq_pure_bind, bind_assoc, pure_bind]

theorem res_sound {fn : Func} {R : AV → AH → Prop} (hw : resW P fn.results.toList e h R) (hR : RH ρ h w) (hT : RT ρ N e a) (hok : ∀ r ∈ fn.results.toList, resOk N r = true) : ∃ v vc, (results fn a.tmps).run P w = .ok vc w ∧ RV ρ v vc ∧ R v h := by
  rw [results_eq]
  have many : resL P e h fn.results.toList (fun vs => R (.tup vs) h) → fn.results.toList.length ≠ 1 → ∃ v vc, (do let vs ← fn.results.toList.mapM (resF a.tmps); pure (if h : vs.toArray.size = 1 then vs.toArray[0] else Value.tuple vs.toArray) : Sem Value).run P w = .ok vc w ∧ RV ρ v vc ∧ R v h := fun hw hne => by
    obtain ⟨vs, vcs, hr, hlen, hl, hv, hK⟩ := resL_sound hR hT _ _ hw hok
    refine ⟨.tup vs, .tuple vcs.toArray, ?_, .tup _ _ (by simpa using hl) (fun i hi => by simpa [Array.getD_eq_getD_getElem?, List.getD_eq_getElem?_getD] using hv i hi), hK⟩
    simp only [Sem.run_bind, hr, Result.andThen_ok, Sem.run_pure]
    rw [dif_neg (by simp; omega)]
  unfold resW at hw
  split at hw
  · rename_i r hrs
    obtain ⟨v, vc, hr, hv, hK⟩ := resV_sound hw hR hT (hok r (by rw [hrs]; exact List.mem_cons_self ..))
    refine ⟨v, vc, ?_, hv, hK⟩
    rw [hrs]
    simp [Sem.run_bind, hr]
  · rename_i hne
    exact many hw fun h1 => by
      obtain ⟨r, hr⟩ := List.length_eq_one_iff.1 h1
      exact hne r hr

/-- What is asked of a function's end. -/
def endQ (P : Program) (rs : List ResultVar) (R : AV → AH → Prop) : Post := fun ex e h => match ex with
  | .normal => resW P rs e h R
  | .ret => resW P rs e h R
  | _ => False

def funcOk (fn : Func) (c : Code) : Bool := codeOk fn.ntmps c && fn.results.toList.all (resOk fn.ntmps)

theorem acalls_of_good {f : FuncId} {fn : Func} {c : Code} {args : List AV} {R : AV → AH → Prop} (k n : Nat) (rs : List ResultVar) (hf : P.funcs[f]? = some fn) (hb : fn.body = some c) (hrs : fn.results.toList = rs) (hok : funcOk fn c = true) (hk : args.length = k) (hnt : fn.ntmps = n) (hkn : k ≤ n)
    (hg : Good P n c (initE 0 args) h (endQ P rs R)) : ACalls P f args h R := fun ρ w argc hR hL => by
  have hn : args.length ≤ fn.ntmps := by omega
  subst hnt
  subst hrs
  simp only [funcOk, Bool.and_eq_true, List.all_eq_true] at hok
  refine calls_of_wp hf hb (wp_mono (hg hok.1 ρ w _ hR ⟨?_, fun i hi => ?_, rfl⟩) fun ex a' w' ⟨ρ', e', h', h1, h2, h3, h4⟩ => ?_)
  · have := hL.1
    simp; omega
  · rw [lk_initE]
    have hs := hL.1
    by_cases hc : 0 ≤ i ∧ i - 0 < args.length
    · rw [dif_pos hc, Array.getD_eq_getD_getElem?, Array.getElem?_append_left (by omega), ← Array.getD_eq_getD_getElem?]
      exact hL.2 i (by omega)
    · rw [dif_neg hc]; exact .junk _
  · have fin : resW P fn.results.toList e' h' R → bodyPost P fn (retOf ρ R) .normal a' w' := fun hw => by
      obtain ⟨v, vc, k1, k2, k3⟩ := res_sound hw h2 h3 hok.2
      exact ⟨h3.defers, vc, k1, ρ', v, h', h1, h2, k2, k3⟩
    cases ex with
    | normal => exact fin h4
    | ret => exact fin h4
    | _ => exact h4.elim
end
end Go.Eng
/- An engine, part 11: what a function has made for itself is forgotten; blocks that are never written again. Over any program. -/
set_option linter.unusedVariables false
set_option linter.unusedSimpArgs false
namespace Go.Eng
open Go.RowKit (Below)

/-! ### what lies outside is forgotten -/
mutual
def inB (n k : Nat) : AV → Prop
  | .ptr b _ => b < n
  | .bsl b _ _ _ => b < n
  | .tree _ _ (.own κ) => κ < k
  | .tree _ _ .ro => True
  | .tree _ _ .full => True
  | .iface _ v => inB n k v
  | .func _ a b => inBL n k a ∧ inBL n k b
  | .agg cs => inBL n k cs
  | .tup cs => inBL n k cs
  | .int _ _ => True
  | .bool _ => True
  | .str _ => True
  | .nilp => True
  | .eptr _ => True
  | .nils => True
  | .nilf => True
  | .nili => True
  | .junk => True
def inBL (n k : Nat) : List AV → Prop
  | [] => True
  | v :: vs => inB n k v ∧ inBL n k vs
end
theorem inBL_get {n k : Nat} : ∀ {l : List AV}, inBL n k l → ∀ i (h : i < l.length), inB n k l[i]
  | [], _, i, h => absurd h (Nat.not_lt_zero _)
  | v :: vs, hp, 0, h => by rw [inBL] at hp; exact hp.1
  | v :: vs, hp, i + 1, h => by rw [inBL] at hp; exact inBL_get hp.2 i (by simpa using h)
theorem inBL_of {n k : Nat} : ∀ {l : List AV}, (∀ i (h : i < l.length), inB n k l[i]) → inBL n k l
  | [], _ => by simp only [inBL]
  | v :: vs, hp => by
    rw [inBL]
    exact ⟨hp 0 (by simp), inBL_of fun i hi => hp (i + 1) (by simpa using hi)⟩

theorem PV.inB_ {pr : Addr → Option Value} {v : AV} {vc : Value} {n k : Nat} (h : PV pr v vc) : inB n k v := by
  induction h with
  | none_ sz g hg => rcases hg with rfl | rfl <;> simp only [inB]
  | tree sz xs g ad cap vs hcap hmax hg hv hs hc _ => rcases hg with rfl | ⟨rfl, _⟩ <;> simp only [inB]
  | iface t v vc _ ih => simp only [inB]; exact ih
  | func fn fst cap vf vc hf hc _ _ i1 i2 => simp only [inB]; exact ⟨inBL_of i1, inBL_of i2⟩
  | agg cs vs hl _ h1 ih => simp only [inB]; exact inBL_of ih
  | tup cs vs hl _ ih => simp only [inB]; exact inBL_of ih
  | _ => simp only [inB]

section
variable {P : Program} {ρ : Ip} {h : AH} {w : World}

theorem RV.inB_ (hR : RH ρ h w) {v : AV} {vc : Value} (hv : RV ρ v vc) : inB h.n h.k v := by
  induction hv with
  | pure v vc h => exact h.inB_
  | own sz xs κ ad cap g n c hg hn ht hl => simp only [inB]; exact hR.gnone κ _ hg
  | ptr b o ad hb h => simp only [inB]; rw [← hR.nb]; exact hb
  | bsl b o len c ad cap hb hcap hmax h hc hg => simp only [inB]; rw [← hR.nb]; exact hb
  | iface t v vc _ ih => simp only [inB]; exact ih
  | func fn fst cap vf vc hf hc _ _ i1 i2 => simp only [inB]; exact ⟨inBL_of i1, inBL_of i2⟩
  | agg cs vs hl _ h1 ih => simp only [inB]; exact inBL_of ih
  | tup cs vs hl _ ih => simp only [inB]; exact inBL_of ih
  | junk vc => simp only [inB]

/-- Only the first blocks and rows. -/
def Ip.cut (ρ : Ip) (n k : Nat) : Ip := { ρ with phi := fun b => if b < n then ρ.phi b else none, nb := n, gam := fun κ => if κ < k then ρ.gam κ else none, ng := k }
theorem cut_phi {n k b : Nat} {x : Nat × Nat} (h : (ρ.cut n k).phi b = some x) : b < n ∧ ρ.phi b = some x := by
  have h' : (if b < n then ρ.phi b else none) = some x := h
  split at h'
  · rename_i hb; exact ⟨hb, h'⟩
  · cases h'
theorem cut_gam {n k κ : Nat} {x : Nat × Nat × Nat × Nat} (h : (ρ.cut n k).gam κ = some x) : κ < k ∧ ρ.gam κ = some x := by
  have h' : (if κ < k then ρ.gam κ else none) = some x := h
  split at h'
  · rename_i hb; exact ⟨hb, h'⟩
  · cases h'

theorem RV.cut {n k : Nat} {v : AV} {vc : Value} (hv : RV ρ v vc) : inB n k v → RV (ρ.cut n k) v vc := by
  induction hv with
  | pure v vc h => exact fun _ => .pure _ _ h
  | own sz xs κ ad cap g m c hg hn ht hl =>
    intro hb
    simp only [inB] at hb
    exact .own sz xs κ ad cap g m c (by show (if κ < k then ρ.gam κ else none) = _; rw [if_pos hb]; exact hg) hn ht hl
  | ptr b o ad hb h =>
    intro hb'
    simp only [inB] at hb'
    exact .ptr b o ad hb' fun g m hx => h g m (cut_phi hx).2
  | bsl b o len c ad cap hb hcap hmax h hc hg =>
    intro hb'
    simp only [inB] at hb'
    exact .bsl b o len c ad cap hb' hcap hmax (fun g m hx => h g m (cut_phi hx).2) hc fun sz e => ⟨(hg sz e).1, fun g m hx => (hg sz e).2 g m (cut_phi hx).2⟩
  | iface t v vc _ ih => intro hb; simp only [inB] at hb; exact .iface t v vc (ih hb)
  | func fn fst cap vf vc hf hc _ _ i1 i2 =>
    intro hb
    simp only [inB] at hb
    exact .func fn fst cap vf vc hf hc (fun i hi => i1 i hi (inBL_get hb.1 i hi)) (fun i hi => i2 i hi (inBL_get hb.2 i hi))
  | agg cs vs hl _ h1 ih => intro hb; simp only [inB] at hb; exact .agg cs vs hl (fun i hi => ih i hi (inBL_get hb i hi)) h1
  | tup cs vs hl _ ih => intro hb; simp only [inB] at hb; exact .tup cs vs hl (fun i hi => ih i hi (inBL_get hb i hi))
  | junk vc => intro _; exact .junk vc

/-- The memory holds what it held; it may hold more. -/
structure Ext (h h' : AH) : Prop where
  n : h.n ≤ h'.n
  k : h.k ≤ h'.k
  f : ∀ b, b < h.n → h'.f b = h.f b
  gr : ∀ κ, κ < h.k → h'.gr κ = h.gr κ
theorem Ext.refl (h : AH) : Ext h h := ⟨Nat.le_refl _, Nat.le_refl _, fun _ _ => rfl, fun _ _ => rfl⟩
theorem Ext.trans {a b c : AH} (h : Ext a b) (k : Ext b c) : Ext a c :=
  ⟨Nat.le_trans h.n k.n, Nat.le_trans h.k k.k, fun x hx => (k.f x (Nat.lt_of_lt_of_le hx h.n)).trans (h.f x hx), fun x hx => (k.gr x (Nat.lt_of_lt_of_le hx h.k)).trans (h.gr x hx)⟩

theorem RH.cut {ρ' : Ip} {h' : AH} {w' : World} (hR : RH ρ h w) (hle : ρ.Le ρ') (hR' : RH ρ' h' w') (he : Ext h h') : RH (ρ'.cut h.n h.k) h w' ∧ ρ.Le (ρ'.cut h.n h.k) := by
  refine ⟨⟨⟨hR'.below.os, hR'.below.tape, hR'.below.output, hR'.below.size, hR'.below.block⟩, hR'.prot, rfl, rfl, ?_, ?_, ?_, ?_, ?_, ?_⟩, ?_⟩
  · intro b cs hb
    obtain ⟨h1, g0, arr0, e0, k2, k3, k4, k5⟩ := hR.blk b cs hb
    obtain ⟨-, g, arr, e, q2, q3, q4, q5⟩ := hR'.blk b cs (by rw [he.f b h1]; exact hb)
    refine ⟨h1, g, arr, e, by show (if b < h.n then _ else _) = _; rw [if_pos h1]; exact q2, q3, q4, fun i hi => ⟨(q5 i hi).1.cut ((k5 i hi).1.inB_ hR), (q5 i hi).2⟩⟩
  · intro b x hx
    obtain ⟨h1, h2⟩ := cut_phi hx
    obtain ⟨cs, h3⟩ := hR'.phi b x h2
    exact ⟨cs, by rw [← he.f b h1]; exact h3⟩
  · exact fun b g n hx => hR'.fresh b g n (cut_phi hx).2
  · exact fun b b' g n n' hx hx' => hR'.inj b b' g n n' (cut_phi hx).2 (cut_phi hx').2
  · intro κ hκ
    obtain ⟨g', c, s, arr', e', k1, k2, k3, k4, k5, k6, k7, k8, k9⟩ := hR'.gam κ (Nat.lt_of_lt_of_le hκ he.k)
    have hg := he.gr κ hκ
    rw [hg] at k1 k4 k7
    exact ⟨g', c, s, arr', e', by show (if κ < h.k then _ else _) = _; rw [if_pos hκ]; exact k1, k2, k3, k4, k5, k6, k7, fun b n hx => k8 b n (cut_phi hx).2, fun κ' n c' s' hκ' hx => k9 κ' n c' s' (Nat.lt_of_lt_of_le hκ' he.k) (cut_gam hx).2⟩
  · exact fun κ x hx => (cut_gam hx).1
  · refine ⟨hle.w0, hle.prot, fun κ g n c s hx => ?_, by rw [hR.nb]; exact Nat.le_refl _, fun b x hb hx => hle.phi b x hb (cut_phi hx).2⟩
    obtain ⟨g', n', c', h1, h2⟩ := hle.gam κ g n c s hx
    exact ⟨g', n', c', by show (if κ < h.k then _ else _) = _; rw [if_pos (hR.gnone κ _ hx)]; exact h1, h2⟩

/-- A function whose outcome leads to nothing that is written: the memory stays. -/
theorem ACalls.stays {f : FuncId} {args : List AV} {R : AV → Prop} (hc : ACalls P f args h (fun v h' => R v ∧ pur v = true ∧ Ext h h')) : ACalls P f args h (fun v h' => (∃ u, R u ∧ v = roA u) ∧ h' = h) := fun ρ w argc hR hL =>
  Calls.mono (hc ρ w argc hR hL) fun e w' he => by
    cases e with
    | returned vc =>
      obtain ⟨ρ', v, h', h1, h2, h3, h4, h5, h6⟩ := he
      obtain ⟨k1, k2⟩ := hR.cut h1 h2 h6
      exact ⟨_, roA v, h, k2, k1, .pure _ _ (show PV ρ'.prot _ _ from pure_RV h3 h5), ⟨v, h4, rfl⟩, rfl⟩
    | panicked c => exact he
    | outgrown => exact he

/-! ### blocks that are never written again -/
/-- More is known of what a block holds. -/
theorem RH.up (hR : RH ρ h w) {b : Nat} {cs cs' : List AV} (hb : h.f b = some cs) (hl : cs'.length ≤ cs.length) (hv : ∀ i (hi : i < cs'.length) vc, RV ρ (cs[i]'(by omega)) vc → RV ρ cs'[i] vc) : RH ρ (h.put b cs') w := by
  refine ⟨hR.below, hR.prot, hR.nb, hR.ng, ?_, ?_, hR.fresh, hR.inj, hR.gam, hR.gnone⟩
  · intro b' cs2 hb'
    by_cases hbb : b' = b
    · subst hbb
      have : cs2 = cs' := by
        have : upd h.f b' (some cs') b' = some cs2 := hb'
        rw [upd_same] at this; exact (Option.some.inj this).symm
      subst this
      obtain ⟨h1, g, arr, e, k2, k3, k4, k5⟩ := hR.blk b' cs hb
      exact ⟨h1, g, arr, e, k2, k3, by omega, fun i hi => ⟨hv i hi _ (k5 i (by omega)).1, (k5 i (by omega)).2⟩⟩
    · exact hR.blk b' cs2 ((upd_ne _ _ hbb).symm.trans hb')
  · intro b' x hx
    obtain ⟨cs2, h'⟩ := hR.phi b' x hx
    by_cases hbb : b' = b
    · exact ⟨cs', by rw [hbb]; exact upd_same _ _ _⟩
    · exact ⟨cs2, (upd_ne _ _ hbb).trans h'⟩

/-- A block is never written again: a slice of it is a row that stays. -/
theorem RH.freeze (hR : RH ρ h w) {b : Nat} {cs : List AV} (hb : h.f b = some cs) (hp : allB pur cs = true) (ho : allB oneA cs = true) :
    ∃ ρ', ρ.Le ρ' ∧ RH ρ' (h.rm b) w ∧ ∀ n c vc, n ≤ cs.length → RV ρ (.bsl b 0 n c) vc → PV ρ'.prot (.tree 1 ((roL cs).take n) .ro) vc := by
  obtain ⟨hbn, g, arr, e, hg, hh, hl, hc⟩ := hR.blk b cs hb
  obtain ⟨hw0, hgs, hgp⟩ := hR.fresh b g _ hg
  let ρ' : Ip := { ρ with prot := fun a => if a.block = g then (if a.spot = none ∧ a.off < cs.length then arr[a.off]? else none) else ρ.prot a, phi := upd ρ.phi b none }
  have back : ∀ b' x, ρ'.phi b' = some x → b' ≠ b ∧ ρ.phi b' = some x := fun b' x hx => by
    by_cases hbb : b' = b
    · subst hbb
      have : upd ρ.phi b' none b' = some x := hx
      rw [upd_same] at this; cases this
    · exact ⟨hbb, (upd_ne _ _ hbb).symm.trans hx⟩
  have hpn : ∀ a, a.block ≠ g → ρ'.prot a = ρ.prot a := fun a ha => if_neg ha
  have hle : ρ.Le ρ' := ⟨rfl, fun a u x => (hpn a (fun he => by rw [hgp a he] at x; cases x)).trans x, fun κ g n c s x => ⟨g, n, c, x, Nat.le_refl _, fun _ => ⟨rfl, rfl⟩⟩, Nat.le_refl _, fun b' x _ hx => (back b' x hx).2⟩
  refine ⟨ρ', hle, ⟨hR.below, ?_, hR.nb, hR.ng, ?_, ?_, ?_, ?_, ?_, hR.gnone⟩, ?_⟩
  · intro a u hx
    by_cases ha : a.block = g
    · have hx' : (if a.spot = none ∧ a.off < cs.length then arr[a.off]? else none) = some u := (if_pos ha).symm.trans hx
      split at hx'
      · rename_i hs
        obtain ⟨ab, ao, asp⟩ := a
        obtain ⟨rfl, hlt⟩ := hs
        simp only at ha hlt hx'
        subst ha
        rw [cell_of_row w ab ao arr e (0, 0) hh]
        refine ⟨hx', ?_⟩
        have := (hc ao hlt).2
        rw [Array.getD_eq_getD_getElem?, hx'] at this
        exact this
      · cases hx'
    · exact hR.prot a u ((hpn a ha).symm.trans hx)
  · intro b' cs' hb'
    by_cases hbb : b' = b
    · subst hbb
      have : upd h.f b' none b' = some cs' := hb'
      rw [upd_same] at this; cases this
    · obtain ⟨k1, g', arr', e', k2, k3, k4, k5⟩ := hR.blk b' cs' ((upd_ne _ _ hbb).symm.trans hb')
      exact ⟨k1, g', arr', e', (upd_ne _ _ hbb).trans k2, k3, k4, fun i hi => ⟨(k5 i hi).1.mono hle, (k5 i hi).2⟩⟩
  · intro b' x hx
    obtain ⟨hbb, hx'⟩ := back b' x hx
    obtain ⟨cs', h'⟩ := hR.phi b' x hx'
    exact ⟨cs', (upd_ne _ _ hbb).trans h'⟩
  · intro b' g' n hx
    obtain ⟨hbb, hx'⟩ := back b' _ hx
    obtain ⟨k1, k2, k3⟩ := hR.fresh b' g' n hx'
    have hgg : g' ≠ g := fun he => hbb (hR.inj b' b g' _ _ hx' (by rw [he]; exact hg))
    exact ⟨k1, k2, fun a ha => (hpn a (by omega)).trans (k3 a ha)⟩
  · exact fun b1 b2 g n n' hx hx' => hR.inj b1 b2 g n n' (back b1 _ hx).2 (back b2 _ hx').2
  · intro κ hκ
    obtain ⟨g', c, s, arr', e', k1, k2, k3, k4, k5, k6, k7, k8, k9⟩ := hR.gam κ hκ
    have hgg : g' ≠ g := fun he => k8 b arr.size (by rw [he]; exact hg)
    exact ⟨g', c, s, arr', e', k1, k2, k3, k4, k5, k6, fun a ha hof => (hpn a (by omega)).trans (k7 a ha hof), fun b' n hx => k8 b' n (back b' _ hx).2, k9⟩
  · intro n c vc hn hv
    obtain ⟨ad, cap, rfl, -, hcap, hmax, hphi, -, -⟩ := inv_bsl hv
    have had := hphi g _ hg
    subst had
    have hlen : ((roL cs).take n).length = n := by rw [List.length_take, roL_length]; omega
    have := PV.tree (pr := ρ'.prot) 1 ((roL cs).take n) .ro ⟨g, 0, none⟩ cap (fun i => arr.getD i undef) (by rw [hlen]; exact hcap) hmax (.inl rfl) (fun i hi => by
      rw [hlen] at hi
      rw [List.getElem_take, roL_get]
      have hi' : i < cs.length := by omega
      exact (pure_RV (hc i hi').1 (allB_get hp i hi')).mono hle.prot) (fun i hi => by
      rw [hlen] at hi
      have hi' : i < cs.length := by omega
      rw [((hc i hi').1.one (allB_get ho i hi')).2]; rfl) (fun i j hi hj => by
      rw [hlen] at hi
      have hi' : i < cs.length := by omega
      have j0 : j = 0 := by omega
      subst j0
      rw [show i * 1 + 0 = i from by omega, Addr.add_lit, Nat.zero_add]
      show (if g = g then (if (none : Option Nat) = none ∧ i < cs.length then arr[i]? else none) else _) = _
      rw [if_pos rfl, if_pos ⟨rfl, by omega⟩, ((hc i hi').1.one (allB_get ho i hi')).2]
      have : i < arr.size := by omega
      simp [Array.getD, this])
    rw [hlen] at this
    exact this

/-- More is known of what a block held before. -/
theorem RH.up_old {ρ' : Ip} {h' : AH} (hR : RH ρ h w) (hle : ρ.Le ρ') (hR' : RH ρ' h' w) {b : Nat} {cs cs1 cs' : List AV} (hb : h.f b = some cs) (hb' : h'.f b = some cs1) (hl : cs'.length ≤ cs.length) (hv : ∀ i (hi : i < cs'.length) vc, RV ρ (cs[i]'(by omega)) vc → RV ρ' cs'[i] vc) : RH ρ' (h'.put b cs') w := by
  refine ⟨hR'.below, hR'.prot, hR'.nb, hR'.ng, ?_, ?_, hR'.fresh, hR'.inj, hR'.gam, hR'.gnone⟩
  · intro b' cs2 hb2
    by_cases hbb : b' = b
    · subst hbb
      have : cs2 = cs' := by
        have : upd h'.f b' (some cs') b' = some cs2 := hb2
        rw [upd_same] at this; exact (Option.some.inj this).symm
      subst this
      obtain ⟨h1, g, arr, e, k2, k3, k4, k5⟩ := hR.blk b' cs hb
      obtain ⟨q1, g', arr', e', q2, q3, q4, q5⟩ := hR'.blk b' cs1 hb'
      have hp := hle.phi b' _ (by rw [hR.nb]; exact h1) q2
      rw [k2] at hp
      simp only [Option.some.injEq, Prod.mk.injEq] at hp
      obtain ⟨rfl, -⟩ := hp
      rw [k3] at q3
      injection q3 with q3
      injection q3 with q3a q3b q3c
      subst q3a
      exact ⟨q1, g, arr, e, q2, k3, by omega, fun i hi => ⟨hv i hi _ (k5 i (by omega)).1, (k5 i (by omega)).2⟩⟩
    · exact hR'.blk b' cs2 ((upd_ne _ _ hbb).symm.trans hb2)
  · intro b' x hx
    obtain ⟨cs2, h2⟩ := hR'.phi b' x hx
    by_cases hbb : b' = b
    · exact ⟨cs', by rw [hbb]; exact upd_same _ _ _⟩
    · exact ⟨cs2, (upd_ne _ _ hbb).trans h2⟩
end
end Go.Eng
/- An engine, part 12: rows and matrices of numbers, as values that stay and as blocks. Over any program. -/
set_option linter.unusedVariables false
set_option linter.unusedSimpArgs false
namespace Go.Eng
open Go.RowKit (Below)

/-! ### more or less is known of a value -/
def Up (v v' : AV) : Prop := ∀ ρ vc, RV ρ v vc → RV ρ v' vc
theorem Up.refl (v : AV) : Up v v := fun _ _ h => h
theorem Up.trans {a b c : AV} (h : Up a b) (k : Up b c) : Up a c := fun ρ vc x => k ρ vc (h ρ vc x)
theorem Up.tup {vs vs' : List AV} (hl : vs.length = vs'.length) (h : ∀ i (hi : i < vs.length), Up vs[i] (vs'[i]'(by omega))) : Up (.tup vs) (.tup vs') := fun ρ vc x => by
  obtain ⟨us, rfl, h1, h2⟩ := inv_tup x
  exact .tup _ _ (by omega) fun i hi => h i (by omega) _ _ (h2 i (by omega))
theorem Up.tup1 {a a' : AV} (h : Up a a') : Up (.tup [a]) (.tup [a']) := .tup rfl fun i hi => by
  have : i = 0 := by simpa using hi
  subst this; exact h
theorem Up.tup2 {a b a' b' : AV} (h : Up a a') (k : Up b b') : Up (.tup [a, b]) (.tup [a', b']) := .tup rfl fun i hi => by
  match i with
  | 0 => exact h
  | 1 => exact k
  | n + 2 => exact absurd hi (by simp)
theorem Up.tup3 {a b c a' b' c' : AV} (h : Up a a') (k : Up b b') (l : Up c c') : Up (.tup [a, b, c]) (.tup [a', b', c']) := .tup rfl fun i hi => by
  match i with
  | 0 => exact h
  | 1 => exact k
  | 2 => exact l
  | n + 3 => exact absurd hi (by simp)
theorem Up.nils_ (sz : Nat) : Up .nils (.tree sz [] .ro) := fun ρ vc x => by
  rw [inv_nils x]; exact .pure _ _ (.none_ _ _ (.inl rfl))
theorem Up.ro_ (sz : Nat) (xs : List AV) (g : Gr) : Up (.tree sz xs g) (.tree sz xs .ro) := fun ρ vc x => .pure _ _ x.ro

theorem ACalls.up {P : Program} {f : FuncId} {args : List AV} {h : AH} {R : AV → AH → Prop} (hc : ACalls P f args h (fun v h' => ∃ v', Up v v' ∧ R v' h')) : ACalls P f args h R := fun ρ w argc hR hL =>
  Calls.mono (hc ρ w argc hR hL) fun e w' he => by
    cases e with
    | returned vc =>
      obtain ⟨ρ', v, h', h1, h2, h3, v', h4, h5⟩ := he
      exact ⟨ρ', v', h', h1, h2, h4 _ _ h3, h5⟩
    | panicked c => exact he
    | outgrown => exact he

/-- Arguments of which less needs to be known. -/
theorem ACalls.args {P : Program} {f : FuncId} {args args' : List AV} {h : AH} {R : AV → AH → Prop} (hc : ACalls P f args' h R) (hl : args.length = args'.length) (hu : ∀ i (hi : i < args.length), Up args[i] (args'[i]'(by omega))) : ACalls P f args h R := fun ρ w argc hR hL =>
  hc ρ w argc hR ⟨by rw [← hl]; exact hL.1, fun i hi => hu i (by omega) _ _ (hL.2 i (by omega))⟩

/-! ### rows of numbers -/
def rowV (r : List Int) : AV := .tree 1 (r.map (AV.int .i64)) .ro
def matV (M : List (List Int)) : AV := .tree 1 (M.map rowV) .ro

theorem Up.row (r : List Int) (g : Gr) : Up (.tree 1 (r.map (AV.int .i64)) g) (rowV r) := Up.ro_ _ _ _
theorem Up.mat (M : List (List Int)) (g : Gr) : Up (.tree 1 (M.map rowV) g) (matV M) := Up.ro_ _ _ _
theorem Up.nrow : Up .nils (rowV []) := Up.nils_ 1
theorem Up.nmat : Up .nils (matV []) := Up.nils_ 1

section
variable {P : Program} {t : TypeId} {K : AV → Prop} {k : IntKind} {n : Int}
theorem len_row (r : List Int) : lenW P t (rowV r) K = (knT P t = some 3 ∧ K (.int .i64 (r.length : Int))) := by simp [lenW, rowV]
theorem len_mat (M : List (List Int)) : lenW P t (matV M) K = (knT P t = some 3 ∧ K (.int .i64 (M.length : Int))) := by simp [lenW, matV]
theorem getD_int (r : List Int) (i : Nat) (hi : i < r.length) : (r.map (AV.int .i64)).getD i .junk = .int .i64 (r.getD i 0) := by
  simp [List.getD_eq_getElem?_getD, hi]
theorem getD_row (M : List (List Int)) (i : Nat) (hi : i < M.length) : (M.map rowV).getD i .junk = rowV (M.getD i []) := by
  simp [List.getD_eq_getElem?_getD, hi]
theorem idx_row (r : List Int) : idxAW P t (rowV r) (.int k n) K = ((∃ e, elT P t = some e ∧ szT P e = some 1) ∧ 0 ≤ n ∧ n < (r.length : Int) ∧ K (.eptr (.int .i64 (r.getD n.toNat 0)))) := by
  simp only [idxAW, rowV, List.length_map]
  refine propext ⟨fun ⟨e, h1, h2, h3, h4, h5⟩ => ⟨⟨e, h1, h2⟩, h3, h4, by rwa [getD_int _ _ (by omega)] at h5⟩, fun ⟨⟨e, h1, h2⟩, h3, h4, h5⟩ => ⟨e, h1, h2, h3, h4, by rw [getD_int _ _ (by omega)]; exact h5⟩⟩
theorem idx_mat (M : List (List Int)) : idxAW P t (matV M) (.int k n) K = ((∃ e, elT P t = some e ∧ szT P e = some 1) ∧ 0 ≤ n ∧ n < (M.length : Int) ∧ K (.eptr (rowV (M.getD n.toNat [])))) := by
  simp only [idxAW, matV, List.length_map]
  refine propext ⟨fun ⟨e, h1, h2, h3, h4, h5⟩ => ⟨⟨e, h1, h2⟩, h3, h4, by rwa [getD_row _ _ (by omega)] at h5⟩, fun ⟨⟨e, h1, h2⟩, h3, h4, h5⟩ => ⟨e, h1, h2, h3, h4, by rw [getD_row _ _ (by omega)]; exact h5⟩⟩
theorem fits_row (r : List Int) : fitsB P t (rowV r) = (agT P t == some false) := by simp [fitsB, rowV, oneA]
theorem fits_mat (M : List (List Int)) : fitsB P t (matV M) = (agT P t == some false) := by simp [fitsB, matV, oneA]
theorem memA_row (r : List Int) : memA (rowV r) = true := rfl
theorem memA_mat (M : List (List Int)) : memA (matV M) = true := rfl
theorem oneA_row (r : List Int) : oneA (rowV r) = true := rfl
theorem oneA_mat (M : List (List Int)) : oneA (matV M) = true := rfl
theorem pur_row (r : List Int) : pur (rowV r) = true := by simp [rowV, pur]
theorem pur_mat (M : List (List Int)) : pur (matV M) = true := by simp [matV, pur]
theorem cells_row (r : List Int) : cellsA (rowV r) = [rowV r] := rfl
theorem cells_mat (M : List (List Int)) : cellsA (matV M) = [matV M] := rfl
theorem roA_row (r : List Int) : roA (rowV r) = rowV r := by simp [rowV, roA]
theorem roA_mat (M : List (List Int)) : roA (matV M) = matV M := by simp [matV, roA]

theorem wrap64 (h : -9223372036854775808 ≤ n ∧ n ≤ 9223372036854775807) : IntKind.i64.wrap n = n := by rw [IntKind.wrap_i64]; omega
end

/-! ### heaps -/
theorem AH.ext_ {h h' : AH} (h1 : ∀ b, h.f b = h'.f b) (h2 : h.n = h'.n) (h3 : ∀ κ, h.gr κ = h'.gr κ) (h4 : h.k = h'.k) : h = h' := by
  cases h; cases h'
  simp only [AH.mk.injEq]
  exact ⟨funext h1, h2, funext h3, h4⟩
theorem AH.put_put (h : AH) (b : Nat) (x y : List AV) : (h.put b x).put b y = h.put b y := AH.ext_ (fun c => by simp only [AH.put, upd]; split <;> rfl) rfl (fun _ => rfl) rfl
theorem AH.put_f (h : AH) (b : Nat) (x : List AV) : (h.put b x).f b = some x := upd_same _ _ _
theorem AH.put_ne (h : AH) {b c : Nat} (x : List AV) (hb : c ≠ b) : (h.put b x).f c = h.f c := upd_ne _ _ hb
theorem AH.mk_f (h : AH) (x : List AV) : (h.mk_ x).f h.n = some x := upd_same _ _ _
theorem AH.mk_put (h : AH) (x y : List AV) : (h.mk_ x).put h.n y = h.mk_ y := AH.ext_ (fun c => by simp only [AH.put, AH.mk_, upd]; split <;> rfl) rfl (fun _ => rfl) rfl

theorem Ext.mk_ {h h' : AH} (he : Ext h h') (x : List AV) : Ext h (h'.mk_ x) := ⟨Nat.le_succ_of_le he.n, he.k, fun b hb => (upd_ne _ _ (by have := he.n; omega)).trans (he.f b hb), he.gr⟩
theorem Ext.put {h h' : AH} (he : Ext h h') {b : Nat} (hb : h.n ≤ b) (x : List AV) : Ext h (h'.put b x) := ⟨he.n, he.k, fun c hc => (upd_ne _ _ (by omega)).trans (he.f c hc), he.gr⟩
theorem Ext.rm {h h' : AH} (he : Ext h h') {b : Nat} (hb : h.n ≤ b) : Ext h (h'.rm b) := ⟨he.n, he.k, fun c hc => (upd_ne _ _ (by omega)).trans (he.f c hc), he.gr⟩
theorem Ext.begun {h h' : AH} (he : Ext h h') (m : Nat) : Ext h (h'.begun m) := ⟨he.n, Nat.le_succ_of_le he.k, he.f, fun c hc => (upd_ne _ _ (by have := he.k; omega)).trans (he.gr c hc)⟩
theorem Ext.grown {h h' : AH} (he : Ext h h') {κ : Nat} (hκ : h.k ≤ κ) (m : Nat) : Ext h (h'.grown κ m) := ⟨he.n, he.k, he.f, fun c hc => (upd_ne _ _ (by omega)).trans (he.gr c hc)⟩

/-! ### a row that is appended to (its elements stay) -/
/-- The row κ = h.k, empty (nil) or begun. -/
def accV (κ : Nat) (xs : List AV) : AV := match xs with
  | [] => .nils
  | x :: r => .tree 1 (x :: r) (.own κ)
def accH (h : AH) (xs : List AV) : AH := match xs with
  | [] => h
  | x :: r => h.begun (r.length + 1)
theorem accV_nil (κ : Nat) : accV κ [] = .nils := rfl
theorem accH_nil (h : AH) : accH h [] = h := rfl
theorem acc_app {P : Program} {t : TypeId} {h : AH} {xs ys : List AV} {g : Gr} {K : AV → AH → Prop} (hys : ys ≠ []) {e by_ : Nat} {z : AV} (he : elT P t = some e) (hs : szT P e = some 1) (hb : byT P e = some by_) (hz : zrT P e = some z) (hm : memA z = true) (hzl : (cellsA z).length = 1)
    (h1 : xs.length + ys.length ≤ 1073741824) (h2 : by_ ≤ 64) (hK : K (accV h.k (xs ++ ys)) (accH h (xs ++ ys))) : appW P t (accV h.k xs) (.tree 1 ys g) (accH h xs) K := by
  have hbig : (xs.length + ys.length) * by_ ≤ 140737488355328 := Nat.le_trans (Nat.mul_le_mul h1 h2) (by omega)
  refine ⟨e, 1, by_, z, he, hs, hb, hz, hm, hzl, Nat.one_pos, rfl, hys, ?_⟩
  cases xs with
  | nil =>
    simp only [accV, accH, List.nil_append, List.length_nil, Nat.zero_add] at h1 hbig hK ⊢
    refine ⟨by omega, hbig, ?_⟩
    cases ys with
    | nil => exact absurd rfl hys
    | cons y r => exact hK
  | cons x r =>
    simp only [accV, accH, List.cons_append] at hK ⊢
    refine ⟨trivial, by simp [AH.begun, upd], by omega, hbig, ?_⟩
    have : (h.begun (r.length + 1)).grown h.k ((x :: r).length + ys.length) = h.begun ((r ++ ys).length + 1) := AH.ext_ (fun _ => rfl) rfl (fun κ => by
      simp only [AH.grown, AH.begun, upd]
      split
      · simp only [List.length_cons, List.length_append]; omega
      · rfl) rfl
    rw [this]
    exact hK
theorem Up.acc (κ : Nat) (xs : List AV) : Up (accV κ xs) (.tree 1 xs .ro) := by
  cases xs with
  | nil => exact Up.nils_ 1
  | cons x r => exact Up.ro_ _ _ _
theorem Ext.acc {h h' : AH} (he : Ext h h') (xs : List AV) : Ext h (accH h' xs) := by
  cases xs with
  | nil => exact he
  | cons x r => exact he.begun _
theorem len_acc {P : Program} {t : TypeId} {K : AV → Prop} (κ : Nat) (xs : List AV) : lenW P t (accV κ xs) K = (knT P t = some 3 ∧ K (.int .i64 (xs.length : Int))) := by
  cases xs <;> simp [lenW, accV]
theorem pur_acc (κ : Nat) (xs : List AV) : pur (accV κ xs) = true := by cases xs <;> simp [accV, pur]

/-! ### a matrix in blocks: one of the rows, one for each row -/
/-- Outer block O, row i in block ids[i], all rows m long. -/
def rowsC (ids : List Nat) (m : Nat) : List AV := ids.map fun b => .bsl b 0 m .ro
def matH (h : AH) (O : Nat) (ids : List Nat) (m : Nat) (M : List (List Int)) : AH :=
  { h with f := fun b => if b = O then some (rowsC ids m) else match ids.idxOf? b with
      | some i => some ((M.getD i []).map (AV.int .i64))
      | none => h.f b }
structure MatOk (O : Nat) (ids : List Nat) (m : Nat) (M : List (List Int)) : Prop where
  nodup : ids.Nodup
  out : O ∉ ids
  len : ids.length = M.length
  rows : ∀ r ∈ M, r.length = m

theorem idxOf_get {ids : List Nat} (hn : ids.Nodup) {i : Nat} (hi : i < ids.length) : ids.idxOf? (ids.getD i 0) = some i := by
  have hg : ids.getD i 0 = ids[i] := by simp [List.getD_eq_getElem?_getD, hi]
  rw [hg, List.idxOf?_eq_some_iff]
  refine ⟨hi, rfl, fun j hj h => ?_⟩
  have := (List.getElem_inj (h₀ := by omega) (h₁ := hi) hn).1 h
  omega

section
variable {h : AH} {O : Nat} {ids : List Nat} {m : Nat} {M : List (List Int)}
theorem matH_O : (matH h O ids m M).f O = some (rowsC ids m) := by simp [matH]
theorem matH_row (ho : MatOk O ids m M) {i : Nat} (hi : i < M.length) : (matH h O ids m M).f (ids.getD i 0) = some ((M.getD i []).map (AV.int .i64)) := by
  have hi' : i < ids.length := by rw [ho.len]; exact hi
  have hne : ids.getD i 0 ≠ O := fun e => ho.out (by rw [← e]; simp [List.getD_eq_getElem?_getD, hi'])
  simp only [matH, if_neg hne, idxOf_get ho.nodup hi']
theorem rowsC_get {i : Nat} (hi : i < ids.length) : (rowsC ids m).getD i .junk = .bsl (ids.getD i 0) 0 m .ro := by
  simp [rowsC, List.getD_eq_getElem?_getD, hi]
theorem rowsC_length : (rowsC ids m).length = ids.length := by simp [rowsC]
theorem matH_put (ho : MatOk O ids m M) {i : Nat} (hi : i < M.length) (r : List Int) : (matH h O ids m M).put (ids.getD i 0) (r.map (AV.int .i64)) = matH h O ids m (M.set i r) := by
  have hi' : i < ids.length := by rw [ho.len]; exact hi
  have hne : ids.getD i 0 ≠ O := fun e => ho.out (by rw [← e]; simp [List.getD_eq_getElem?_getD, hi'])
  refine AH.ext_ (fun b => ?_) rfl (fun _ => rfl) rfl
  simp only [AH.put, matH]
  by_cases hb : b = ids.getD i 0
  · rw [hb, upd_same, if_neg hne, idxOf_get ho.nodup hi']
    simp [List.getD_eq_getElem?_getD, hi]
  · rw [upd_ne _ _ hb]
    by_cases hO : b = O
    · rw [if_pos hO, if_pos hO]
    · rw [if_neg hO, if_neg hO]
      split
      · rename_i j hj
        obtain ⟨h1, h2, -⟩ := List.idxOf?_eq_some_iff.1 hj
        have hji : j ≠ i := fun e => hb (by rw [← e, ← h2]; simp [List.getD_eq_getElem?_getD, h1])
        simp [List.getD_eq_getElem?_getD, List.getElem?_set_ne (Ne.symm hji)]
      · rfl
theorem MatOk.set (ho : MatOk O ids m M) (i : Nat) {r : List Int} (hr : r.length = m) : MatOk O ids m (M.set i r) :=
  ⟨ho.nodup, ho.out, by rw [List.length_set]; exact ho.len, fun q hq => by
    rcases List.mem_or_eq_of_mem_set hq with hq | rfl
    · exact ho.rows q hq
    · exact hr⟩
theorem MatOk.row (ho : MatOk O ids m M) {i : Nat} (hi : i < M.length) : (M.getD i []).length = m := ho.rows _ (by rw [List.getD_eq_getElem?_getD, List.getElem?_eq_getElem hi]; exact List.getElem_mem hi)
end

theorem splice_one (cs : List AV) (o : Nat) (v : AV) : splice cs o [v] = cs.set o v := rfl
theorem set_int (r : List Int) (j : Nat) (v : Int) : (r.map (AV.int .i64)).set j (.int .i64 v) = (r.set j v).map (AV.int .i64) := by rw [List.map_set]

/-! ### a matrix that is never written again -/
theorem Up.bsl (b o n : Nat) (c : Cp) : Up (.bsl b o n c) (.bsl b o n .ro) := fun ρ vc x => by
  obtain ⟨ad, cap, rfl, hb, hcap, hmax, hphi, -, -⟩ := inv_bsl x
  exact .bsl _ _ _ _ _ _ hb hcap hmax hphi (fun h => by cases h) (fun _ h => by cases h)

theorem allB_of {p : AV → Bool} : ∀ {l : List AV}, (∀ v ∈ l, p v = true) → allB p l = true
  | [], _ => rfl
  | v :: r, h => by simp only [allB, Bool.and_eq_true]; exact ⟨h v (List.mem_cons_self ..), allB_of fun u hu => h u (List.mem_cons_of_mem _ hu)⟩
theorem pur_ints (r : List Int) : allB pur (r.map (AV.int .i64)) = true := allB_of fun v hv => by obtain ⟨n, -, rfl⟩ := List.mem_map.1 hv; simp only [pur]
theorem one_ints (r : List Int) : allB oneA (r.map (AV.int .i64)) = true := allB_of fun v hv => by obtain ⟨n, -, rfl⟩ := List.mem_map.1 hv; rfl
theorem roL_map {α : Type} (f : α → AV) (h : ∀ x, roA (f x) = f x) : ∀ l : List α, roL (l.map f) = l.map f
  | [] => rfl
  | x :: r => by simp only [List.map_cons, roL, h, roL_map f h r]
theorem roL_ints (r : List Int) : roL (r.map (AV.int .i64)) = r.map (AV.int .i64) := roL_map _ (fun n => by simp only [roA]) r

section
variable {ρ : Ip} {h : AH} {w : World} {O : Nat} {ids : List Nat} {m : Nat} {M : List (List Int)}
/-- The first k rows are rows that stay. -/
def halfH (h : AH) (O : Nat) (ids : List Nat) (m : Nat) (M : List (List Int)) (k : Nat) : AH :=
  { h with f := fun b => if b = O then some ((M.take k).map rowV ++ (rowsC ids m).drop k) else match ids.idxOf? b with
      | some i => if i < k then none else some ((M.getD i []).map (AV.int .i64))
      | none => h.f b }

theorem halfH_zero : halfH h O ids m M 0 = matH h O ids m M := AH.ext_ (fun b => by simp [halfH, matH]) rfl (fun _ => rfl) rfl

theorem half_step (ho : MatOk O ids m M) {k : Nat} (hk : k < M.length) (hR : RH ρ (halfH h O ids m M k) w) : ∃ ρ', ρ.Le ρ' ∧ RH ρ' (halfH h O ids m M (k + 1)) w := by
  have hk' : k < ids.length := by rw [ho.len]; exact hk
  have hne : ids.getD k 0 ≠ O := fun e => ho.out (by rw [← e]; simp [List.getD_eq_getElem?_getD, hk'])
  have hrow : (halfH h O ids m M k).f (ids.getD k 0) = some ((M.getD k []).map (AV.int .i64)) := by
    simp only [halfH, if_neg hne, idxOf_get ho.nodup hk', Nat.lt_irrefl, if_false]
  have hm : (M.getD k []).length = m := ho.row hk
  obtain ⟨ρ', hle, hR', hv⟩ := hR.freeze hrow (pur_ints _) (one_ints _)
  have hO0 : (halfH h O ids m M k).f O = some ((M.take k).map rowV ++ (rowsC ids m).drop k) := by simp only [halfH, if_pos]
  have hO : ((halfH h O ids m M k).rm (ids.getD k 0)).f O = some ((M.take k).map rowV ++ (rowsC ids m).drop k) := by
    simp only [AH.rm, upd_ne _ _ (Ne.symm hne), hO0]
  have hlen1 : ((M.take k).map rowV).length = k := by rw [List.length_map, List.length_take]; omega
  have hlen2 : ((M.take (k + 1)).map rowV).length = k + 1 := by rw [List.length_map, List.length_take]; omega
  have hR2 := hR.up_old hle hR' (cs' := (M.take (k + 1)).map rowV ++ (rowsC ids m).drop (k + 1)) hO0 hO (by simp only [List.length_append, hlen1, hlen2, List.length_drop, rowsC_length]; omega) (fun i hi vc hx => by
    rcases Nat.lt_trichotomy i k with hik | hik | hik
    · rw [List.getElem_append_left (by omega)]
      rw [List.getElem_append_left (by omega)] at hx
      have hx' := hx.mono hle
      simpa [List.getElem_map, List.getElem_take] using hx'
    · subst hik
      rw [List.getElem_append_left (by omega), List.getElem_map, List.getElem_take]
      rw [List.getElem_append_right (by omega)] at hx
      have e1 : ((rowsC ids m).drop i)[i - ((M.take i).map rowV).length]'(by simp only [List.length_drop, rowsC_length, hlen1]; omega) = .bsl (ids.getD i 0) 0 m .ro := by
        have : i - ((M.take i).map rowV).length = 0 := by omega
        simp only [this, List.getElem_drop, Nat.add_zero, rowsC, List.getElem_map]
        simp [List.getD_eq_getElem?_getD, hk']
      rw [e1] at hx
      have := hv m .ro _ (by rw [List.length_map]; omega) hx
      rw [roL_ints] at this
      have e2 : M[i] = M.getD i [] := by simp [List.getD_eq_getElem?_getD, hk]
      rw [e2, rowV]
      rw [List.take_of_length_le (by rw [List.length_map]; omega)] at this
      exact .pure _ _ this
    · rw [List.getElem_append_right (by omega)]
      rw [List.getElem_append_right (by omega)] at hx
      simp only [hlen1, hlen2, List.getElem_drop] at hx ⊢
      have hx' := hx.mono hle
      simpa only [show k + 1 + (i - (k + 1)) = k + (i - k) from by omega] using hx')
  refine ⟨ρ', hle, ?_⟩
  have : ((halfH h O ids m M k).rm (ids.getD k 0)).put O ((M.take (k + 1)).map rowV ++ (rowsC ids m).drop (k + 1)) = halfH h O ids m M (k + 1) := by
    refine AH.ext_ (fun b => ?_) rfl (fun _ => rfl) rfl
    by_cases hb : b = O
    · subst hb
      rw [AH.put_f]
      simp only [halfH, if_pos]
    · rw [AH.put_ne _ _ hb]
      simp only [AH.rm, halfH, if_neg hb]
      by_cases hbk : b = ids.getD k 0
      · rw [hbk, upd_same, idxOf_get ho.nodup hk']
        simp
      · rw [upd_ne _ _ hbk, if_neg hb]
        split
        · rename_i i hi
          obtain ⟨h1, h2, -⟩ := List.idxOf?_eq_some_iff.1 hi
          have hik : i ≠ k := fun e => hbk (by rw [← e, ← h2]; simp [List.getD_eq_getElem?_getD, h1])
          by_cases hlt : i < k
          · rw [if_pos hlt, if_pos (by omega)]
          · rw [if_neg hlt, if_neg (by omega)]
        · rfl
  rw [← this]
  exact hR2

theorem half_all (ho : MatOk O ids m M) (hR : RH ρ (matH h O ids m M) w) : ∀ k, k ≤ M.length → ∃ ρ', ρ.Le ρ' ∧ RH ρ' (halfH h O ids m M k) w
  | 0, _ => ⟨ρ, .refl _, by rw [halfH_zero]; exact hR⟩
  | k + 1, hk => by
    obtain ⟨ρ1, h1, h2⟩ := half_all ho hR k (by omega)
    obtain ⟨ρ2, h3, h4⟩ := half_step ho (by omega) h2
    exact ⟨ρ2, h1.trans h3, h4⟩

/-- The memory without the matrix. -/
def offH (h : AH) (O : Nat) (ids : List Nat) : AH := { h with f := fun b => if b = O then none else if b ∈ ids then none else h.f b }

theorem allB_rows (M : List (List Int)) : allB pur (M.map rowV) = true ∧ allB oneA (M.map rowV) = true :=
  ⟨allB_of fun v hv => by obtain ⟨n, -, rfl⟩ := List.mem_map.1 hv; exact pur_row n, allB_of fun v hv => by obtain ⟨n, -, rfl⟩ := List.mem_map.1 hv; rfl⟩

theorem freeze_mat (ho : MatOk O ids m M) (hR : RH ρ (matH h O ids m M) w) : ∃ ρ', ρ.Le ρ' ∧ RH ρ' (offH h O ids) w ∧ ∀ n c vc, n ≤ M.length → RV ρ (.bsl O 0 n c) vc → PV ρ'.prot (matV (M.take n)) vc := by
  obtain ⟨ρ1, h1, h2⟩ := half_all ho hR M.length (Nat.le_refl _)
  have hO : (halfH h O ids m M M.length).f O = some (M.map rowV) := by
    simp only [halfH, if_pos, List.take_length]
    rw [List.drop_of_length_le (by rw [rowsC_length, ho.len]; exact Nat.le_refl _), List.append_nil]
  obtain ⟨ρ2, h3, h4, h5⟩ := h2.freeze hO (allB_rows M).1 (allB_rows M).2
  refine ⟨ρ2, h1.trans h3, ?_, fun n c vc hn hv => ?_⟩
  · have : (halfH h O ids m M M.length).rm O = offH h O ids := by
      refine AH.ext_ (fun b => ?_) rfl (fun _ => rfl) rfl
      simp only [AH.rm, halfH, offH, upd]
      by_cases hb : b = O
      · rw [if_pos hb, if_pos hb]
      · rw [if_neg hb, if_neg hb, if_neg hb]
        split
        · rename_i i hi
          obtain ⟨q1, q2, -⟩ := List.idxOf?_eq_some_iff.1 hi
          rw [if_pos (by rw [← ho.len]; exact q1), if_pos (by rw [← q2]; exact List.getElem_mem q1)]
        · rename_i hi
          rw [if_neg (List.idxOf?_eq_none_iff.1 hi)]
    rw [← this]; exact h4
  · have := h5 n c vc (by rw [List.length_map]; exact hn) (hv.mono h1)
    rw [roL_map _ roA_row] at this
    rw [matV, List.map_take]
    exact this
end

/-! ### what follows is looked at only when its turn comes -/
section
variable {P : Program} {bl : Bool} {bf : List (List Nat)} {t s d : TypeId} {op : Op} {bop : BinOp} {uop : UnOp} {k k' : IntKind} {x x' y y' : AV} {a a' b b' : Int} {E E' : Operand → AV} {e e' : Env} {h h' : AH} {K : AV → Prop} {K2 : AV → AH → Prop} {K3 : Env → AH → Prop}
  {ops r r' : List Oper} {pl : List Nat} {log log' : List (Nat × Nat × Option (List AV))} {g : Option (Nat × Bool)} {run skip : Env → Prop} {args args' : List AV} {lo hi mx lo' hi' mx' : Option AV} {n m : Nat} {cs cs' : List AV} {rs : List ResultVar} {rv : ResultVar} {p q : Prop} {KL : List AV → Prop}
@[congr] theorem gifW_c {c c' : Bool} {b : Bool} (h1 : c = c') : gifW c b p q = gifW c' b p q := by rw [h1]
@[congr] theorem condW_c (h1 : x = x') : condW x p q = condW x' p q := by rw [h1]
theorem gif_tt : gifW true true p q = p := by simp [gifW]
theorem gif_tf : gifW true false p q = q := by simp [gifW]
theorem gif_ft : gifW false true p q = q := by simp [gifW]
theorem gif_ff : gifW false false p q = p := by simp [gifW]
theorem gif_dt {c : Prop} [Decidable c] : gifW (decide c) true p q = ((c → p) ∧ (¬ c → q)) := by simp [gifW]
theorem gif_df {c : Prop} [Decidable c] : gifW (decide c) false p q = ((¬ c → p) ∧ (c → q)) := by simp [gifW]
theorem gif_et : gifW (a == b) true p q = ((a = b → p) ∧ (¬ a = b → q)) := by simp [gifW]
theorem gif_ef : gifW (a == b) false p q = ((¬ a = b → p) ∧ (a = b → q)) := by simp [gifW]
theorem gif_nt : gifW (a != b) true p q = ((¬ a = b → p) ∧ (a = b → q)) := by simp [gifW]
theorem gif_nf : gifW (a != b) false p q = ((a = b → p) ∧ (¬ a = b → q)) := by simp [gifW]
theorem gif_not {c d : Bool} : gifW (!c) d p q = gifW c (!d) p q := by cases c <;> cases d <;> simp [gifW]
@[congr] theorem guardW_c (h1 : e = e') : guardW e ops g run skip = guardW e' ops g run skip := by rw [h1]
@[congr] theorem stepW_c (h1 : h = h') : stepW P bl op E h K2 = stepW P bl op E h' K2 := by rw [h1]
@[congr] theorem opW_c (h1 : h = h') : opW P bl op E h K2 = opW P bl op E h' K2 := by rw [h1]
@[congr] theorem binW_c (h1 : x = x') (h2 : y = y') : binW P bop t x y K = binW P bop t x' y' K := by rw [h1, h2]
@[congr] theorem arW_c (h1 : a = a') (h2 : b = b') : arW bop k a b K = arW bop k a' b' K := by rw [h1, h2]
@[congr] theorem unW_c (h1 : x = x') : unW uop x K = unW uop x' K := by rw [h1]
@[congr] theorem cvW_c (h1 : x = x') : cvW P s d x K = cvW P s d x' K := by rw [h1]
@[congr] theorem loadW_c (h1 : x = x') (h2 : h = h') : loadW P t x h K2 = loadW P t x' h' K2 := by rw [h1, h2]
@[congr] theorem storeW_c (h1 : x = x') (h2 : h = h') (h3 : y = y') : storeW P t x y h K2 = storeW P t x' y' h' K2 := by rw [h1, h2, h3]
@[congr] theorem cutW_c (h1 : x = x') (h2 : lo = lo') (h3 : hi = hi') (h4 : mx = mx') : cutW P t x lo hi mx K = cutW P t x' lo' hi' mx' K := by rw [h1, h2, h3, h4]
@[congr] theorem appW_c (h1 : x = x') (h2 : h = h') (h3 : y = y') : appW P t x y h K2 = appW P t x' y' h' K2 := by rw [h1, h2, h3]
@[congr] theorem appBW_c (h1 : x = x') (h2 : h = h') (h3 : y = y') : appBW P t x y h K2 = appBW P t x' y' h' K2 := by rw [h1, h2, h3]
@[congr] theorem lenW_c (h1 : x = x') : lenW P t x K = lenW P t x' K := by rw [h1]
@[congr] theorem idxAW_c (h1 : x = x') (h2 : y = y') : idxAW P t x y K = idxAW P t x' y' K := by rw [h1, h2]
@[congr] theorem fldAW_c (h1 : x = x') : fldAW P t x n K = fldAW P t x' n K := by rw [h1]
@[congr] theorem partW_c (h1 : cs = cs') : partW P n m t cs K = partW P n m t cs' K := by rw [h1]
@[congr] theorem callW_c (h1 : x = x') (h2 : h = h') (h3 : args = args') : callW P x args h K2 = callW P x' args' h' K2 := by rw [h1, h2, h3]
@[congr] theorem runL_c (h1 : e = e') (h2 : h = h') : runL P bl ops r e h K3 = runL P bl ops r e' h' K3 := by rw [h1, h2]
@[congr] theorem regW_c (h1 : e = e') (h2 : h = h') (h3 : log = log') : regW P bl ops bf pl log e h K3 = regW P bl ops bf pl log' e' h' K3 := by rw [h1, h2, h3]
@[congr] theorem resV_c (h1 : e = e') (h2 : h = h') : resV P e h rv K = resV P e' h' rv K := by rw [h1, h2]
@[congr] theorem resL_c (h1 : e = e') (h2 : h = h') : resL P e h rs KL = resL P e' h' rs KL := by rw [h1, h2]
@[congr] theorem resW_c (h1 : e = e') (h2 : h = h') : resW P rs e h K2 = resW P rs e' h' K2 := by rw [h1, h2]
end
end Go.Eng
/- An engine, part 13: each operation as a rule for simp, which never looks at what follows before its turn. Over any program. -/
set_option linter.unusedVariables false
set_option linter.unusedSimpArgs false
namespace Go.Eng
open Go.RowKit (Below)

/-- What is there is handed on. -/
def onSome {α : Type} (o : Option α) (F : α → Prop) : Prop := ∃ x, o = some x ∧ F x
@[congr] theorem onSome_c {α : Type} {o o' : Option α} {F : α → Prop} (h : o = o') : onSome o F = onSome o' F := by rw [h]
theorem onSome_some {α : Type} (x : α) (F : α → Prop) : onSome (some x) F = F x := propext ⟨fun ⟨y, h, k⟩ => by cases h; exact k, fun k => ⟨x, rfl, k⟩⟩
def onBnd (d : Nat) (o : Option AV) (F : Nat → Prop) : Prop := ∃ l, bndA d o l ∧ F l
@[congr] theorem onBnd_c {d d' : Nat} {o o' : Option AV} {F : Nat → Prop} (h : d = d') (h2 : o = o') : onBnd d o F = onBnd d' o' F := by rw [h, h2]
theorem onBnd_none (d : Nat) (F : Nat → Prop) : onBnd d none F = F d := propext ⟨fun ⟨l, h, k⟩ => by simp only [bndA] at h; subst h; exact k, fun k => ⟨d, rfl, k⟩⟩
theorem onBnd_int (d : Nat) (k : IntKind) (n : Int) (F : Nat → Prop) : onBnd d (some (.int k n)) F = (0 ≤ n ∧ F n.toNat) := propext ⟨fun ⟨l, ⟨k', h⟩, kk⟩ => by
    simp only [AV.int.injEq] at h
    obtain ⟨rfl, rfl⟩ := h
    exact ⟨by omega, by simpa using kk⟩, fun ⟨h, kk⟩ => ⟨n.toNat, ⟨k, by simp only [AV.int.injEq, true_and]; omega⟩, kk⟩⟩
def aggW (x : AV) (F : List AV → Prop) : Prop := match x with
  | .agg cs => F cs
  | _ => False
@[congr] theorem aggW_c {x x' : AV} {F : List AV → Prop} (h : x = x') : aggW x F = aggW x' F := by rw [h]
theorem aggW_agg (cs : List AV) (F : List AV → Prop) : aggW (.agg cs) F = F cs := rfl
def tupW (x : AV) (F : List AV → Prop) : Prop := match x with
  | .tup cs => F cs
  | _ => False
@[congr] theorem tupW_c {x x' : AV} {F : List AV → Prop} (h : x = x') : tupW x F = tupW x' F := by rw [h]
theorem tupW_tup (cs : List AV) (F : List AV → Prop) : tupW (.tup cs) F = F cs := rfl
def gdV' (x : AV) (d : Nat) (e : Env) (b : Bool) (run skip : Env → Prop) : Prop := match x with
  | .bool c => gifW c b (run (e.put d (.bool b))) (skip (e.put d (.bool (!b))))
  | .tup [] => skip e
  | _ => False
def gdD (o : Option Tmp) (e : Env) (b : Bool) (run skip : Env → Prop) : Prop := match o with
  | none => skip e
  | some d => gdV' (lk e d) d e b run skip
@[congr] theorem gdV'_c {x x' : AV} {d : Nat} {e e' : Env} {b : Bool} {run skip : Env → Prop} (h : x = x') (h2 : e = e') : gdV' x d e b run skip = gdV' x' d e' b run skip := by rw [h, h2]
@[congr] theorem gdD_c {o o' : Option Tmp} {e e' : Env} {b : Bool} {run skip : Env → Prop} (h : o = o') (h2 : e = e') : gdD o e b run skip = gdD o' e' b run skip := by rw [h, h2]

section
variable {P : Program} {bl : Bool} {t s d : TypeId} {op : BinOp} {k k' : IntKind} {a b : Int} {E : Operand → AV} {e : Env} {h : AH} {K : AV → Prop} {K2 : AV → AH → Prop} {run skip : Env → Prop} {v : AV} {sz o n i : Nat} {xs cs : List AV} {g : Gr} {c : Cp} {x y : Operand}

theorem g_none {ops : List Oper} : guardW e ops none run skip = run e := rfl
theorem g_some {ops : List Oper} (j : Nat) (w : Bool) : guardW e ops (some (j, w)) run skip = gdD (dstAt ops j) e w run skip := rfl
theorem g_dnone (w : Bool) : gdD none e w run skip = skip e := rfl
theorem g_dsome (w : Bool) (j : Nat) : gdD (some j) e w run skip = gdV' (lk e j) j e w run skip := rfl
theorem g_bool (w z : Bool) (j : Nat) : gdV' (.bool z) j e w run skip = gifW z w (run (e.put j (.bool w))) (skip (e.put j (.bool (!w)))) := rfl
theorem g_undef (w : Bool) (j : Nat) : gdV' (.tup []) j e w run skip = skip e := rfl
theorem c_bool (z : Bool) (p q : Prop) : condW (.bool z) p q = gifW z true p q := rfl
theorem n_ptr (q : Nat) : nilW (.ptr q o) K = K (.ptr q o) := rfl
theorem n_eptr : nilW (.eptr v) K = K (.eptr v) := rfl
theorem n_func (f : FuncId) (p q : List AV) : nilW (.func (.func f) p q) K = K (.func (.func f) p q) := rfl
theorem b_int : binW P op t (.int k a) (.int k' b) K = ((freeK op = true ∨ k = k') ∧ arW op k a b K) := rfl
theorem b_booleq (p q : Bool) : binW P .eql t (.bool p) (.bool q) K = (knT P t = some 0 ∧ K (.bool (p == q))) := by simp [binW]
theorem b_boolne (p q : Bool) : binW P .neq t (.bool p) (.bool q) K = (knT P t = some 0 ∧ K (.bool (!(p == q)))) := by simp [binW]
theorem u_neg : unW .neg (.int k a) K = K (.int k (k.wrap (0 - a))) := rfl
theorem u_not (p : Bool) : unW .not (.bool p) K = K (.bool (!p)) := rfl
theorem u_xor : unW .xor (.int k a) K = arW .xor k (if k.signed then -1 else k.max) a K := rfl
theorem cv_int : cvW P s d (.int k a) K = ((P.underlying s).isSome = true ∧ onSome (kdT P d) fun k => K (.int k (k.wrap a))) := rfl
theorem l_eptr : loadW P t (.eptr v) h K2 = (fitsB P t v = true ∧ K2 v h) := rfl
theorem l_ptr (q : Nat) : loadW P t (.ptr q o) h K2 = onSome (h.f q) fun cs => onSome (agT P t) fun ag => gifW ag false (o < cs.length ∧ K2 (cs.getD o .junk) h) (onSome (szT P t) fun n => o + n ≤ cs.length ∧ K2 (.agg ((cs.drop o).take n)) h) := by
  refine propext ⟨fun ⟨cs, h1, h2⟩ => ⟨cs, h1, ?_⟩, fun ⟨cs, h1, ag, h2, h3⟩ => ⟨cs, h1, ?_⟩⟩
  · rcases h2 with ⟨h2, h3⟩ | ⟨n, h2, h3, h4⟩
    · exact ⟨false, h2, ⟨fun _ => h3, fun h => by cases h⟩⟩
    · exact ⟨true, h2, ⟨fun h => (by cases h), fun _ => ⟨n, h3, h4⟩⟩⟩
  · cases ag with
    | false => exact .inl ⟨h2, h3.1 rfl⟩
    | true => obtain ⟨n, h4, h5⟩ := h3.2 rfl; exact .inr ⟨n, h2, h4, h5⟩
theorem s_ptr (q : Nat) : storeW P t (.ptr q o) v h K2 = onSome (h.f q) fun cs => memA v = true ∧ szT P t = some (cellsA v).length ∧ o + (cellsA v).length ≤ cs.length ∧ K2 .junk (h.put q (splice cs o (cellsA v))) := rfl
theorem len_nils : lenW P t .nils K = (knT P t = some 3 ∧ K (.int .i64 0)) := rfl
theorem len_tree : lenW P t (.tree sz xs g) K = (knT P t = some 3 ∧ K (.int .i64 (xs.length : Int))) := rfl
theorem len_bsl (q : Nat) : lenW P t (.bsl q o n c) K = (knT P t = some 3 ∧ K (.int .i64 (n : Int))) := rfl
theorem ix_tree : idxAW P t (.tree sz xs g) (.int k a) K = onSome (elT P t) fun e => szT P e = some sz ∧ 0 ≤ a ∧ a < (xs.length : Int) ∧ K (.eptr (xs.getD a.toNat .junk)) := rfl
theorem ix_bsl (q : Nat) : idxAW P t (.bsl q o n c) (.int k a) K = onSome (elT P t) fun e => onSome (szT P e) fun s => 0 ≤ a ∧ a < (n : Int) ∧ K (.ptr q (o + a.toNat * s)) := by
  refine propext ⟨fun ⟨e, s, h1, h2, h3⟩ => ⟨e, h1, s, h2, h3⟩, fun ⟨e, h1, s, h2, h3⟩ => ⟨e, s, h1, h2, h3⟩⟩
theorem ix_row (r : List Int) : idxAW P t (rowV r) (.int k a) K = ((onSome (elT P t) fun e => szT P e = some 1) ∧ 0 ≤ a ∧ a < (r.length : Int) ∧ K (.eptr (.int .i64 (r.getD a.toNat 0)))) := by
  rw [idx_row]; rfl
theorem ix_mat (M : List (List Int)) : idxAW P t (matV M) (.int k a) K = ((onSome (elT P t) fun e => szT P e = some 1) ∧ 0 ≤ a ∧ a < (M.length : Int) ∧ K (.eptr (rowV (M.getD a.toNat [])))) := by
  rw [idx_mat]; rfl
theorem p_part (off : Nat) (ft : TypeId) : partW P off sz ft cs K = onSome (agT P ft) fun ag => gifW ag false (off < cs.length ∧ K (cs.getD off .junk)) (off + sz ≤ cs.length ∧ K (.agg ((cs.drop off).take sz))) := by
  refine propext ⟨fun h => ?_, fun ⟨ag, h2, h3⟩ => ?_⟩
  · rcases h with ⟨h2, h3⟩ | ⟨h2, h3⟩
    · exact ⟨false, h2, ⟨fun _ => h3, fun h => by cases h⟩⟩
    · exact ⟨true, h2, ⟨fun h => (by cases h), fun _ => h3⟩⟩
  · cases ag with
    | false => exact .inl ⟨h2, h3.1 rfl⟩
    | true => exact .inr ⟨h2, h3.2 rfl⟩
theorem f_ptr (q f : Nat) : fldAW P t (.ptr q o) f K = onSome (fldT P t f) fun p => p.2.1 ≠ 0 ∧ K (.ptr q (o + p.1)) := by
  refine propext ⟨fun ⟨off, sz, ft, h1, h2, h3⟩ => ⟨_, h1, h2, h3⟩, fun ⟨⟨off, sz, ft⟩, h1, h2, h3⟩ => ⟨off, sz, ft, h1, h2, h3⟩⟩
theorem f_eptr (f : Nat) : fldAW P t (.eptr (.agg cs)) f K = onSome (fldT P t f) fun p => p.2.1 ≠ 0 ∧ partW P p.1 p.2.1 p.2.2 cs fun v => K (.eptr v) := by
  refine propext ⟨fun ⟨off, sz, ft, h1, h2, h3⟩ => ⟨_, h1, h2, h3⟩, fun ⟨⟨off, sz, ft⟩, h1, h2, h3⟩ => ⟨off, sz, ft, h1, h2, h3⟩⟩
theorem call_func (f : FuncId) (p q args : List AV) : callW P (.func (.func f) p q) args h K2 = (okF P f = true ∧ ACalls P f (p ++ args ++ q) h K2) := rfl

/-! whole operations -/
theorem o_move : opW P bl (.move x) E h K2 = K2 (E x) h := rfl
theorem o_assign : opW P bl (.assign x) E h K2 = K2 (E x) h := rfl
theorem o_pick (z : Operand) : opW P bl (.pick z x y) E h K2 = condW (E z) (K2 (E x) h) (K2 (E y) h) := rfl
theorem o_load : opW P bl (.load t x) E h K2 = loadW P t (E x) h K2 := rfl
theorem o_store : opW P bl (.store t x y) E h K2 = storeW P t (E x) (E y) h K2 := rfl
theorem o_box : opW P bl (.box t x) E h K2 = (memA (E x) = true ∧ K2 (.ptr h.n 0) (h.mk_ (cellsA (E x)))) := rfl
theorem o_alloc : opW P bl (.alloc t) E h K2 = onSome (zrT P t) fun z => memA z = true ∧ K2 (.ptr h.n 0) (h.mk_ (cellsA z)) := rfl
theorem o_build (ps : Array (Nat × Operand)) : opW P bl (.build t ps) E h K2 = onSome (bdT P t) fun p => onSome (fillA p.2 p.1 (ps.toList.map fun q => (q.1, E q.2))) fun out => K2 (.agg out) h := by
  refine propext ⟨fun ⟨za, pl, out, h1, h2, h3⟩ => ⟨_, h1, out, h2, h3⟩, fun ⟨⟨za, pl⟩, h1, out, h2, h3⟩ => ⟨za, pl, out, h1, h2, h3⟩⟩
theorem o_lit (m : Nat) (ps : Array (Nat × Operand)) : opW P false (.buildSlice t m ps) E h K2 = onSome (elT P t) fun el => onSome (szT P el) fun sz => (zrT P el).isSome = true ∧ 0 < sz ∧ ps.toList.length = m ∧ inOrder 0 (ps.toList.map fun p => (p.1, E p.2)) = true ∧ m * sz ≤ 16777216 ∧
    allB (elemB sz) (ps.toList.map fun p => E p.2) = true ∧ K2 (.tree sz (roL (ps.toList.map fun p => E p.2)) .full) h := by
  refine propext ⟨fun ⟨el, sz, h1, h2, h3, h4, h5, h6, h7, h8⟩ => ?_, fun ⟨el, h1, sz, h2, h3, h4, h5, h6, h7, h8, h9⟩ => ⟨el, sz, h1, h2, h3, h4, h5, h6, h7, .inl ⟨rfl, h8, h9⟩⟩⟩
  rcases h8 with ⟨-, h8, h9⟩ | ⟨h8, -⟩
  · exact ⟨el, h1, sz, h2, h3, h4, h5, h6, h7, h8, h9⟩
  · cases h8
theorem o_litM (m : Nat) (ps : Array (Nat × Operand)) (hm : m ≠ 0) : opW P true (.buildSlice t m ps) E h K2 = onSome (elT P t) fun el => onSome (szT P el) fun sz => (zrT P el).isSome = true ∧ 0 < sz ∧ ps.toList.length = m ∧ inOrder 0 (ps.toList.map fun p => (p.1, E p.2)) = true ∧ m * sz ≤ 16777216 ∧
    allB (elemM sz) (ps.toList.map fun p => E p.2) = true ∧ K2 (.bsl h.n 0 m .full) (h.mk_ (catA (ps.toList.map fun p => E p.2))) := by
  refine propext ⟨fun ⟨el, sz, h1, h2, h3, h4, h5, h6, h7, h8⟩ => ?_, fun ⟨el, h1, sz, h2, h3, h4, h5, h6, h7, h8, h9⟩ => ⟨el, sz, h1, h2, h3, h4, h5, h6, h7, .inr ⟨rfl, h8, by rw [if_neg hm]; exact h9⟩⟩⟩
  rcases h8 with ⟨h8, -⟩ | ⟨-, h8, h9⟩
  · cases h8
  · exact ⟨el, h1, sz, h2, h3, h4, h5, h6, h7, h8, by rw [if_neg hm] at h9; exact h9⟩
theorem o_litM0 (ps : Array (Nat × Operand)) : opW P true (.buildSlice t 0 ps) E h K2 = onSome (elT P t) fun el => onSome (szT P el) fun sz => (zrT P el).isSome = true ∧ 0 < sz ∧ ps.toList.length = 0 ∧ inOrder 0 (ps.toList.map fun p => (p.1, E p.2)) = true ∧
    allB (elemM sz) (ps.toList.map fun p => E p.2) = true ∧ K2 (.bsl h.n 0 0 (.grow sz)) (h.mk_ (catA (ps.toList.map fun p => E p.2))) := by
  refine propext ⟨fun ⟨el, sz, h1, h2, h3, h4, h5, h6, h7, h8⟩ => ?_, fun ⟨el, h1, sz, h2, h3, h4, h5, h6, h8, h9⟩ => ⟨el, sz, h1, h2, h3, h4, h5, h6, by omega, .inr ⟨rfl, h8, h9⟩⟩⟩
  rcases h8 with ⟨h8, -⟩ | ⟨-, h8, h9⟩
  · cases h8
  · exact ⟨el, h1, sz, h2, h3, h4, h5, h6, h8, h9⟩
theorem o_nil : opW P bl (.nilCheck x) E h K2 = nilW (E x) fun v => K2 v h := rfl
theorem o_bin (yt : TypeId) : opW P bl (.binOp op t x y yt) E h K2 = binW P op t (E x) (E y) fun v => K2 v h := rfl
theorem o_un (u : UnOp) : opW P bl (.unOp u t x) E h K2 = unW u (E x) fun v => K2 v h := rfl
theorem o_cv : opW P bl (.convert s d x) E h K2 = cvW P s d (E x) fun v => K2 v h := rfl
theorem o_func (fn : Fn) (p q : Array Operand) : opW P bl (.makeFunc fn p q) E h K2 = K2 (.func fn (p.toList.map E) (q.toList.map E)) h := rfl
def mkW (P : Program) (t : TypeId) (x y : AV) (h : AH) (K : AV → AH → Prop) : Prop := match x, y with
  | .int _ n, .int _ m => n = m ∧ 0 ≤ n ∧ n ≤ 4294967296 ∧ onSome (elT P t) fun el => onSome (szT P el) fun sz => onSome (byT P el) fun by_ => onSome (zrT P el) fun z => memA z = true ∧ (cellsA z).length = sz ∧ 0 < sz ∧ n.toNat * by_ ≤ 140737488355328 ∧ K (.bsl h.n 0 n.toNat .full) (h.mk_ (copies (cellsA z) n.toNat))
  | _, _ => False
@[congr] theorem mkW_c {p p' q q' : AV} {h h' : AH} (h1 : p = p') (h2 : q = q') (h3 : h = h') : mkW P t p q h K2 = mkW P t p' q' h' K2 := by rw [h1, h2, h3]
theorem m_int : mkW P t (.int k a) (.int k' b) h K2 = (a = b ∧ 0 ≤ a ∧ a ≤ 4294967296 ∧ onSome (elT P t) fun el => onSome (szT P el) fun sz => onSome (byT P el) fun by_ => onSome (zrT P el) fun z => memA z = true ∧ (cellsA z).length = sz ∧ 0 < sz ∧ a.toNat * by_ ≤ 140737488355328 ∧ K2 (.bsl h.n 0 a.toNat .full) (h.mk_ (copies (cellsA z) a.toNat))) := rfl
theorem o_make : opW P bl (.makeSlice t x y) E h K2 = mkW P t (E x) (E y) h K2 := by
  refine propext ⟨fun ⟨el, sz, by_, z, kl, kc, n, h1, h2, h3, h4, h5, h6, h7, h8, h9, h10, h11, h12, h13⟩ => ?_, fun hm => ?_⟩
  · rw [h8, h9]
    exact ⟨rfl, h10, h11, el, h1, sz, h2, by_, h3, z, h4, h5, h6, h7, h12, h13⟩
  · unfold mkW at hm
    split at hm
    · rename_i kl n kc m hx hy
      obtain ⟨rfl, h10, h11, el, h1, sz, h2, by_, h3, z, h4, h5, h6, h7, h12, h13⟩ := hm
      exact ⟨el, sz, by_, z, kl, kc, n, h1, h2, h3, h4, h5, h6, h7, hx, hy, h10, h11, h12, h13⟩
    · exact hm.elim
theorem o_slice (lo hi mx : Option Operand) : opW P bl (.slice t x lo hi mx) E h K2 = cutW P t (E x) (lo.map E) (hi.map E) (mx.map E) fun v => K2 v h := rfl
theorem o_fldA (f : Nat) : opW P bl (.fieldAddr t x f) E h K2 = fldAW P t (E x) f fun v => K2 v h := rfl
theorem o_fld (f : Nat) : opW P bl (.field t x f) E h K2 = onSome (fldT P t f) fun p => aggW (E x) fun cs => partW P p.1 p.2.1 p.2.2 cs fun v => K2 v h := by
  refine propext ⟨fun ⟨off, sz, ft, cs, h1, h2, h3⟩ => ⟨_, h1, by rw [h2]; exact h3⟩, fun ⟨⟨off, sz, ft⟩, h1, h2⟩ => ?_⟩
  unfold aggW at h2
  split at h2
  · rename_i cs hc; exact ⟨off, sz, ft, cs, h1, hc, h2⟩
  · exact h2.elim
theorem o_ixA : opW P bl (.indexAddr t x y) E h K2 = idxAW P t (E x) (E y) fun v => K2 v h := rfl
theorem o_ext (j : Nat) : opW P bl (.extract x j) E h K2 = tupW (E x) fun vs => j < vs.length ∧ K2 (vs.getD j .junk) h := by
  refine propext ⟨fun ⟨vs, h1, h2, h3⟩ => by rw [h1]; exact ⟨h2, h3⟩, fun h2 => ?_⟩
  unfold tupW at h2
  split at h2
  · rename_i vs hc; exact ⟨vs, hc, h2.1, h2.2⟩
  · exact h2.elim
theorem o_len : opW P bl (.call ⟨.builtin .len, #[x], #[t]⟩) E h K2 = lenW P t (E x) fun v => K2 v h := by
  refine propext ⟨fun ⟨x', t', h1, h2, h3⟩ => ?_, fun h3 => ⟨x, t, rfl, rfl, h3⟩⟩
  simp only [Array.mk.injEq, List.cons.injEq, and_true] at h1 h2
  rw [h1, h2]; exact h3
/-- append, elements that stay; or nothing is appended. -/
def appC (P : Program) (t : TypeId) (s x : AV) (h : AH) (K : AV → AH → Prop) : Prop := appW P t s x h K ∨ appE P t s x h K
/-- append, elements that may be written. -/
def appD (P : Program) (t : TypeId) (sz : Nat) (s x : AV) (h : AH) (K : AV → AH → Prop) : Prop := (sz = 1 ∧ appBW P t s x h K) ∨ (sz ≠ 1 ∧ appBS P t s x h K) ∨ (empB x = true ∧ slB s = true ∧ K s h)
@[congr] theorem appC_c {p p' q q' : AV} {h h' : AH} (h1 : p = p') (h2 : h = h') (h3 : q = q') : appC P t p q h K2 = appC P t p' q' h' K2 := by rw [h1, h2, h3]
@[congr] theorem appD_c {n : Nat} {p p' q q' : AV} {h h' : AH} (h1 : p = p') (h2 : h = h') (h3 : q = q') : appD P t n p q h K2 = appD P t n p' q' h' K2 := by rw [h1, h2, h3]
theorem o_app : opW P false (.call ⟨.builtin .append, #[x, y], #[t, t]⟩) E h K2 = appC P t (E x) (E y) h K2 := by
  refine propext ⟨fun ⟨x', y', t', h1, h2, h3⟩ => ?_, fun h3 => ⟨x, y, t, rfl, rfl, h3.elim (fun h3 => .inl ⟨rfl, h3⟩) (fun h3 => .inr (.inr (.inr h3)))⟩⟩
  simp only [Array.mk.injEq, List.cons.injEq, and_true] at h1 h2
  obtain ⟨rfl, rfl⟩ := h1
  obtain ⟨rfl, -⟩ := h2
  rcases h3 with h3 | h3 | h3 | h3
  · exact .inl h3.2
  · cases h3.1
  · cases h3.1
  · exact .inr h3
theorem o_appB : opW P true (.call ⟨.builtin .append, #[x, y], #[t, t]⟩) E h K2 = onSome (elT P t) fun e => onSome (szT P e) fun n => appD P t n (E x) (E y) h K2 := by
  refine propext ⟨fun ⟨x', y', t', h1, h2, h3⟩ => ?_, fun ⟨e, he, n, hn, h3⟩ => ⟨x, y, t, rfl, rfl, ?_⟩⟩
  · simp only [Array.mk.injEq, List.cons.injEq, and_true] at h1 h2
    obtain ⟨rfl, rfl⟩ := h1
    obtain ⟨rfl, -⟩ := h2
    rcases h3 with h3 | h3 | h3 | h3
    · cases h3.1
    · obtain ⟨-, h3⟩ := h3
      have h4 := h3
      obtain ⟨e, _, _, _, h1, h2, _⟩ := h4
      exact ⟨e, h1, 1, h2, .inl ⟨rfl, h3⟩⟩
    · obtain ⟨-, h3⟩ := h3
      have h4 := h3
      obtain ⟨e, sz, _, _, h1, h2, h5, _⟩ := h4
      exact ⟨e, h1, sz, h2, .inr (.inl ⟨h5, h3⟩)⟩
    · obtain ⟨e, sz, h1, h2, h5⟩ := h3
      exact ⟨e, h1, sz, h2, .inr (.inr h5)⟩
  · rcases h3 with h3 | h3 | h3
    · exact .inr (.inl ⟨rfl, h3.2⟩)
    · exact .inr (.inr (.inl ⟨rfl, h3.2⟩))
    · exact .inr (.inr (.inr ⟨e, n, he, hn, h3⟩))
theorem or3_1 {p q : Prop} (h : ¬ q) : (p ∨ q) = p := propext ⟨fun h2 => h2.elim id (fun h2 => absurd h2 h), .inl⟩
theorem ac_tree {y : List AV} {p : AV} {g : Gr} {sz : Nat} (hy : y ≠ []) : appC P t p (.tree sz y g) h K2 = appW P t p (.tree sz y g) h K2 := or3_1 fun ⟨_, _, _, _, h1, _⟩ => by
  have : y = [] := by simpa [empB] using h1
  exact hy this
theorem ac_cons {y : AV} {ys : List AV} {p : AV} {g : Gr} {sz : Nat} : appC P t p (.tree sz (y :: ys) g) h K2 = appW P t p (.tree sz (y :: ys) g) h K2 := ac_tree (by simp)
theorem ac_row {r : List Int} {p : AV} (hr : r ≠ []) : appC P t p (rowV r) h K2 = appW P t p (rowV r) h K2 := ac_tree (by simpa using hr)
theorem ac_none {p q : AV} (hq : ∀ P t h K, ¬ appW P t p q h K) (he : empB q = true) : appC P t p q h K2 = onSome (elT P t) fun e => onSome (szT P e) fun _ => slB p = true ∧ K2 p h :=
  propext ⟨fun h3 => h3.elim (fun h3 => absurd h3 (hq _ _ _ _)) (fun ⟨e, sz, h1, h2, h3, h4, h5⟩ => ⟨e, h1, sz, h2, h4, h5⟩), fun ⟨e, h1, sz, h2, h4, h5⟩ => .inr ⟨e, sz, h1, h2, he, h4, h5⟩⟩
theorem ac_tree0 {p : AV} {g : Gr} {sz : Nat} : appC P t p (.tree sz [] g) h K2 = onSome (elT P t) fun e => onSome (szT P e) fun _ => slB p = true ∧ K2 p h :=
  ac_none (fun P t h K ⟨_, _, _, _, _, _, _, _, _, _, _, hx⟩ => hx.2.1 rfl) rfl
theorem ac_row0 {p : AV} : appC P t p (rowV []) h K2 = onSome (elT P t) fun e => onSome (szT P e) fun _ => slB p = true ∧ K2 p h := ac_tree0
theorem ac_nils {p : AV} : appC P t p .nils h K2 = onSome (elT P t) fun e => onSome (szT P e) fun _ => slB p = true ∧ K2 p h :=
  ac_none (fun P t h K ⟨_, _, _, _, _, _, _, _, _, _, _, hx⟩ => hx) rfl
theorem ad_ne {m : Nat} {p : AV} (q : Nat) {o : Nat} {c : Cp} (hm : m ≠ 0) : appD P t 1 p (.bsl q o m c) h K2 = appBW P t p (.bsl q o m c) h K2 :=
  propext ⟨fun h3 => by
    rcases h3 with h3 | h3 | h3
    · exact h3.2
    · exact absurd rfl h3.1
    · have : m = 0 := by simpa [empB] using h3.1
      exact absurd this hm, fun h3 => .inl ⟨rfl, h3⟩⟩
theorem ad_neS {m : Nat} {n : Nat} {p : AV} (q : Nat) {o : Nat} {c : Cp} (hn : n ≠ 1) (hm : m ≠ 0) : appD P t n p (.bsl q o m c) h K2 = appBS P t p (.bsl q o m c) h K2 :=
  propext ⟨fun h3 => by
    rcases h3 with h3 | h3 | h3
    · exact absurd h3.1 hn
    · exact h3.2
    · have : m = 0 := by simpa [empB] using h3.1
      exact absurd this hm, fun h3 => .inr (.inl ⟨hn, h3⟩)⟩
theorem ad_tree {y : List AV} {p : AV} {g : Gr} {sz : Nat} (hy : y ≠ []) : appD P t 1 p (.tree sz y g) h K2 = appBW P t p (.tree sz y g) h K2 :=
  propext ⟨fun h3 => by
    rcases h3 with h3 | h3 | h3
    · exact h3.2
    · exact absurd rfl h3.1
    · have : y = [] := by simpa [empB] using h3.1
      exact absurd this hy, fun h3 => .inl ⟨rfl, h3⟩⟩
theorem ad_row {r : List Int} {p : AV} (hr : r ≠ []) : appD P t 1 p (rowV r) h K2 = appBW P t p (rowV r) h K2 := ad_tree (by simpa using hr)
theorem ad_none {n : Nat} {p q : AV} (he : empB q = true) (h1 : ∀ P t h K, ¬ appBW P t p q h K) (h2 : ∀ P t h K, ¬ appBS P t p q h K) : appD P t n p q h K2 = (slB p = true ∧ K2 p h) :=
  propext ⟨fun h3 => by
    rcases h3 with h3 | h3 | h3
    · exact absurd h3.2 (h1 _ _ _ _)
    · exact absurd h3.2 (h2 _ _ _ _)
    · exact h3.2, fun h3 => .inr (.inr ⟨he, h3⟩)⟩
theorem ad_tree0 {n : Nat} {p : AV} {g : Gr} {sz : Nat} : appD P t n p (.tree sz [] g) h K2 = (slB p = true ∧ K2 p h) :=
  ad_none rfl (fun P t h K ⟨_, _, _, _, _, _, _, _, _, _, h1, h2, _⟩ => h2 h1.2.2) (fun P t h K ⟨_, _, _, _, _, _, _, _, _, _, _, _, hx⟩ => hx)
theorem ad_row0 {n : Nat} {p : AV} : appD P t n p (rowV []) h K2 = (slB p = true ∧ K2 p h) := ad_tree0
theorem ad_bsl0 {n : Nat} {p : AV} (q : Nat) {o : Nat} {c : Cp} : appD P t n p (.bsl q o 0 c) h K2 = (slB p = true ∧ K2 p h) :=
  ad_none rfl (fun P t h K ⟨_, _, _, _, _, _, _, _, _, _, ⟨_, _, _, h1⟩, h2, _⟩ => h2 (by rw [h1]; simp)) (fun P t h K ⟨_, _, _, _, _, _, _, _, _, _, _, _, hx⟩ => Nat.lt_irrefl 0 hx.1)
theorem ad_nils {n : Nat} {p : AV} : appD P t n p .nils h K2 = (slB p = true ∧ K2 p h) :=
  ad_none rfl (fun P t h K ⟨_, _, _, _, _, _, _, _, _, _, h1, _⟩ => h1) (fun P t h K ⟨_, _, _, _, _, _, _, _, _, _, _, _, hx⟩ => hx)
theorem sl_nils : slB .nils = true := rfl
theorem sl_tree {sz : Nat} {y : List AV} {g : Gr} : slB (.tree sz y g) = true := rfl
theorem sl_bsl (q : Nat) {o m : Nat} {c : Cp} : slB (.bsl q o m c) = true := rfl
theorem sl_row {r : List Int} : slB (rowV r) = true := rfl
theorem st_call (args : Array Operand) (ts : Array TypeId) : stepW P bl (.call ⟨.value x, args, ts⟩) E h K2 = callW P (E x) (args.toList.map E) h K2 := rfl
theorem st_built (f : Builtin) (args : Array Operand) (ts : Array TypeId) : stepW P bl (.call ⟨.builtin f, args, ts⟩) E h K2 = opW P bl (.call ⟨.builtin f, args, ts⟩) E h K2 := rfl

theorem cut_tree {lo hi : Option AV} : cutW P t (.tree sz xs g) lo hi none K = onSome (elT P t) fun e => szT P e = some sz ∧ onBnd 0 lo fun l => onBnd xs.length hi fun r => l ≤ r ∧ r ≤ xs.length ∧ K (.tree sz ((xs.take r).drop l) .ro) := by
  refine propext ⟨fun ⟨e, h1, h2, l, r, h3, h4, h5, h6, h7⟩ => ?_, fun ⟨e, h1, h2, l, h3, r, h4, h5, h6, h7⟩ => ⟨e, h1, h2, l, r, h3, h4, h5, h6, .inl ⟨rfl, h7⟩⟩⟩
  rcases h7 with ⟨-, h7⟩ | ⟨_, _, _, h, -⟩
  · exact ⟨e, h1, h2, l, h3, r, h4, h5, h6, h7⟩
  · cases h
theorem cut_row {lo hi : Option AV} (r : List Int) : cutW P t (rowV r) lo hi none K = onSome (elT P t) fun e => szT P e = some 1 ∧ onBnd 0 lo fun l => onBnd r.length hi fun q => l ≤ q ∧ q ≤ r.length ∧ K (rowV ((r.take q).drop l)) := by
  rw [rowV, cut_tree]
  simp only [rowV, List.length_map, List.map_drop, List.map_take]
theorem cut_mat {lo hi : Option AV} (M : List (List Int)) : cutW P t (matV M) lo hi none K = onSome (elT P t) fun e => szT P e = some 1 ∧ onBnd 0 lo fun l => onBnd M.length hi fun q => l ≤ q ∧ q ≤ M.length ∧ K (matV ((M.take q).drop l)) := by
  rw [matV, cut_tree]
  simp only [matV, List.length_map, List.map_drop, List.map_take]
theorem cut_bsl {lo hi : Option AV} (q : Nat) : cutW P t (.bsl q o n c) lo hi none K = onSome (elT P t) fun e => onSome (szT P e) fun s => onBnd 0 lo fun l => onBnd n hi fun r => l ≤ r ∧ r ≤ n ∧ (l < r ∨ l = 0) ∧ K (.bsl q (o + l * s) (r - l) .ro) := by
  refine propext ⟨fun ⟨e, s, h1, h2, l, r, h3, h4, h5, h6, h7, h8, h9⟩ => ⟨e, h1, s, h2, l, h3, r, h4, h5, h6, h8, h9⟩, fun ⟨e, h1, s, h2, l, h3, r, h4, h5, h6, h8, h9⟩ => ⟨e, s, h1, h2, l, r, h3, h4, h5, h6, rfl, h8, h9⟩⟩

/-- append, elements that may be written. -/
def srcB (h : AH) (x : AV) (F : List AV → Prop) : Prop := match x with
  | .tree sz zs _ => sz = 1 ∧ allB oneA zs = true ∧ F zs
  | .bsl b o n _ => onSome (h.f b) fun cs => o + n ≤ cs.length ∧ F ((cs.drop o).take n)
  | _ => False
@[congr] theorem srcB_c {p p' : AV} {h h' : AH} {F : List AV → Prop} (h1 : p = p') (h2 : h = h') : srcB h p F = srcB h' p' F := by rw [h1, h2]
theorem sb_tree {F : List AV → Prop} : srcB h (.tree sz xs g) F = (sz = 1 ∧ allB oneA xs = true ∧ F xs) := rfl
theorem sb_bsl (q : Nat) {F : List AV → Prop} : srcB h (.bsl q o n c) F = onSome (h.f q) fun cs => o + n ≤ cs.length ∧ F ((cs.drop o).take n) := rfl
theorem srcW_eq (p : AV) (F : List AV → Prop) : (∃ ys, srcW h p ys ∧ F ys) = srcB h p F := by
  unfold srcW srcB
  split
  · exact propext ⟨fun ⟨ys, ⟨h1, h2, h3⟩, h4⟩ => ⟨h1, h2, h3 ▸ h4⟩, fun ⟨h1, h2, h3⟩ => ⟨_, ⟨h1, h2, rfl⟩, h3⟩⟩
  · exact propext ⟨fun ⟨ys, ⟨cs, h1, h2, h3⟩, h4⟩ => ⟨cs, h1, h2, h3 ▸ h4⟩, fun ⟨cs, h1, h2, h3⟩ => ⟨_, ⟨cs, h1, h2, rfl⟩, h3⟩⟩
  · rename_i h1 h2
    exact propext ⟨fun ⟨ys, h, _⟩ => (by cases p <;> first | exact h.elim | exact (h1 _ _ _ rfl).elim | exact (h2 _ _ _ _ rfl).elim), fun h => (by cases p <;> first | exact h.elim | exact (h1 _ _ _ rfl).elim | exact (h2 _ _ _ _ rfl).elim)⟩
theorem ab_nils {p : AV} : appBW P t .nils p h K2 = onSome (elT P t) fun e => szT P e = some 1 ∧ onSome (byT P e) fun by_ => onSome (zrT P e) fun z => memA z = true ∧ (cellsA z).length = 1 ∧ srcB h p fun ys => ys ≠ [] ∧ ys.length ≤ 4294967296 ∧ ys.length * by_ ≤ 140737488355328 ∧ K2 (.bsl h.n 0 ys.length (.grow 1)) (h.mk_ ys) := by
  simp only [← srcW_eq]
  exact propext ⟨fun ⟨e, by_, z, ys, h1, h2, h3, h4, h5, h6, h7, h8, h9⟩ => ⟨e, h1, h2, by_, h3, z, h4, h5, h6, ys, h7, h8, h9⟩, fun ⟨e, h1, h2, by_, h3, z, h4, h5, h6, ys, h7, h8, h9⟩ => ⟨e, by_, z, ys, h1, h2, h3, h4, h5, h6, h7, h8, h9⟩⟩
theorem ab_bsl {p : AV} (q : Nat) : appBW P t (.bsl q 0 n (.grow 1)) p h K2 = onSome (elT P t) fun e => szT P e = some 1 ∧ onSome (byT P e) fun by_ => onSome (zrT P e) fun z => memA z = true ∧ (cellsA z).length = 1 ∧ srcB h p fun ys => ys ≠ [] ∧ onSome (h.f q) fun cs => cs.length = n ∧ n + ys.length ≤ 4294967296 ∧ (n + ys.length) * by_ ≤ 140737488355328 ∧ K2 (.bsl h.n 0 (n + ys.length) (.grow 1)) ((h.rm q).mk_ (cs ++ ys)) := by
  simp only [← srcW_eq]
  exact propext ⟨fun ⟨e, by_, z, ys, h1, h2, h3, h4, h5, h6, h7, h8, _, _, cs, h9⟩ => ⟨e, h1, h2, by_, h3, z, h4, h5, h6, ys, h7, h8, cs, h9⟩, fun ⟨e, h1, h2, by_, h3, z, h4, h5, h6, ys, h7, h8, cs, h9⟩ => ⟨e, by_, z, ys, h1, h2, h3, h4, h5, h6, h7, h8, rfl, rfl, cs, h9⟩⟩

theorem as_nils (q : Nat) {o m : Nat} {c : Cp} : appBS P t .nils (.bsl q o m c) h K2 = onSome (elT P t) fun e => onSome (szT P e) fun sz => sz ≠ 1 ∧ 0 < sz ∧ onSome (byT P e) fun by_ => onSome (zrT P e) fun z => memA z = true ∧ (cellsA z).length = sz ∧ 0 < m ∧ onSome (h.f q) fun cx => o + m * sz ≤ cx.length ∧ m ≤ 4294967296 ∧ m * by_ ≤ 140737488355328 ∧ K2 (.bsl h.n 0 m (.grow sz)) (h.mk_ ((cx.drop o).take (m * sz))) :=
  propext ⟨fun ⟨e, sz, by_, z, h1, h2, h3, h4, h5, h6, h7, h8, h9, cx, h10, h11, h12⟩ => ⟨e, h1, sz, h2, h3, h4, by_, h5, z, h6, h7, h8, h9, cx, h10, h11, h12⟩, fun ⟨e, h1, sz, h2, h3, h4, by_, h5, z, h6, h7, h8, h9, cx, h10, h11, h12⟩ => ⟨e, sz, by_, z, h1, h2, h3, h4, h5, h6, h7, h8, h9, cx, h10, h11, h12⟩⟩
theorem as_bsl (q q2 : Nat) {o m : Nat} {n2 : Nat} {c : Cp} {sz2 : Nat} : appBS P t (.bsl q2 0 n2 (.grow sz2)) (.bsl q o m c) h K2 = onSome (elT P t) fun e => onSome (szT P e) fun sz => sz ≠ 1 ∧ 0 < sz ∧ onSome (byT P e) fun by_ => onSome (zrT P e) fun z => memA z = true ∧ (cellsA z).length = sz ∧ 0 < m ∧ onSome (h.f q) fun cx => o + m * sz ≤ cx.length ∧ sz2 = sz ∧ onSome (h.f q2) fun cs => cs.length = n2 * sz ∧ n2 + m ≤ 4294967296 ∧ (n2 + m) * by_ ≤ 140737488355328 ∧ K2 (.bsl h.n 0 (n2 + m) (.grow sz)) ((h.rm q2).mk_ (cs ++ (cx.drop o).take (m * sz))) :=
  propext ⟨fun ⟨e, sz, by_, z, h1, h2, h3, h4, h5, h6, h7, h8, h9, cx, h10, h11, _, h12, cs, h13, h14⟩ => ⟨e, h1, sz, h2, h3, h4, by_, h5, z, h6, h7, h8, h9, cx, h10, h11, by injection h12, cs, h13, h14⟩, fun ⟨e, h1, sz, h2, h3, h4, by_, h5, z, h6, h7, h8, h9, cx, h10, h11, h12, cs, h13, h14⟩ => ⟨e, sz, by_, z, h1, h2, h3, h4, h5, h6, h7, h8, h9, cx, h10, h11, rfl, by rw [h12], cs, h13, h14⟩⟩
theorem fit_int : fitsB P t (.int k a) = (agT P t == some false) := by simp [fitsB, oneA]
theorem fit_bool (p : Bool) : fitsB P t (.bool p) = (agT P t == some false) := by simp [fitsB, oneA]
theorem fit_tree : fitsB P t (.tree sz xs g) = (agT P t == some false) := by simp [fitsB, oneA]
theorem fit_agg : fitsB P t (.agg cs) = (agT P t == some true && szT P t == some cs.length) := rfl
theorem fit_nils : fitsB P t .nils = (agT P t == some false) := by simp [fitsB, oneA]
end
end Go.Eng
/- An engine, part 14: code operation by operation, what follows behind a name. Over any program. -/
set_option linter.unusedVariables false
set_option linter.unusedSimpArgs false
namespace Go.Eng

section
variable {P : Program} {N : Nat} {bl : Bool} {ops r : List Oper} {o : Oper} {e : Env} {h : AH} {K : Env → AH → Prop} {Q : Post}

theorem good_reg {id : Nat} {a : Array Oper} (bl : Bool) (hg : ∀ K : Env → AH → Prop, (∀ e h, Q .normal e h → K e h) → runL P bl a.toList a.toList e h K) : Good P N (.region id a false) e h Q := good_region bl (hg _ fun _ _ h => h)
theorem good_drw {id : Nat} {a : Array Oper} (hm : P.follows .mixedOrders = true) (bl : Bool) (bf : List (List Nat)) (plan : List Nat) (hp : planOk bl a.toList bf plan = true)
    (hg : ∀ K : Env → AH → Prop, (∀ e h, Q .normal e h → K e h) → regW P bl a.toList bf plan [] e h K) : Good P N (.region id a true) e h Q := good_draw hm bl bf plan hp (hg _ fun _ _ h => h)

theorem runL_nil (hk : K e h) : runL P bl ops [] e h K := hk
theorem runL_none (hg : o.guard = none) (h1 : ∀ K2 : AV → AH → Prop, (∀ v h', runL P bl ops r (putE o.dst v e) h' K → K2 v h') → stepW P bl o.op (evA (lk e)) h K2) : runL P bl ops (o :: r) e h K := by
  unfold runL
  rw [hg]
  exact h1 _ fun _ _ h => h
theorem runL_some {j d : Nat} {b : Bool} (hg : o.guard = some (j, b)) (hd : dstAt ops j = some d)
    (h1 : ∀ R S : Env → Prop, (∀ e, (∀ K2 : AV → AH → Prop, (∀ v h', runL P bl ops r (putE o.dst v e) h' K → K2 v h') → stepW P bl o.op (evA (lk e)) h K2) → R e) → (∀ e, runL P bl ops r (putE o.dst (.tup []) e) h K → S e) → gdV' (lk e d) d e b R S) : runL P bl ops (o :: r) e h K := by
  unfold runL
  rw [hg, g_some, hd, g_dsome]
  exact h1 _ _ (fun e hk => hk _ fun _ _ h => h) (fun _ h => h)

variable {bf : List (List Nat)} {i : Nat} {pl : List Nat} {log : List (Nat × Nat × Option (List AV))}
theorem regW_nil (hk : K e h) : regW P bl ops bf [] log e h K := hk
/-- A light operation that looks at no block. -/
theorem regW_light (ho : opAt ops i = some o) (hl : lightB bl o.op = true) (hg : o.guard = none) (hm : ∀ E h, memoOf o.op E h = []) (h1 : ∀ K2 : AV → AH → Prop, (∀ v h', regW P bl ops bf pl log (putE o.dst v e) h' K → K2 v h') → stepW P bl o.op (evA (lk e)) h K2) : regW P bl ops bf (i :: pl) log e h K := by
  simp only [regW, ho, hl, cond_true, hg, g_none, hm, List.map_nil, List.append_nil]
  exact h1 _ fun _ _ h => h
theorem regW_lguard {j d : Nat} {b : Bool} (ho : opAt ops i = some o) (hl : lightB bl o.op = true) (hg : o.guard = some (j, b)) (hd : dstAt ops j = some d) (hm : ∀ E h, memoOf o.op E h = [])
    (h1 : ∀ R S : Env → Prop, (∀ e, (∀ K2 : AV → AH → Prop, (∀ v h', regW P bl ops bf pl log (putE o.dst v e) h' K → K2 v h') → stepW P bl o.op (evA (lk e)) h K2) → R e) → (∀ e, regW P bl ops bf pl log (putE o.dst (.tup []) e) h K → S e) → gdV' (lk e d) d e b R S) : regW P bl ops bf (i :: pl) log e h K := by
  simp only [regW, ho, hl, cond_true, hg, g_some, hd, g_dsome, hm, List.map_nil, List.append_nil]
  exact h1 _ _ (fun e hk => hk _ fun _ _ h => h) (fun _ h => h)
/-- A load: from a value that stays, or from a block. -/
theorem regW_loadV {t : TypeId} {x : Operand} {v : AV} (ho : opAt ops i = some o) (hop : o.op = .load t x) (hg : o.guard = none) (hx : evA (lk e) x = .eptr v) (hf : fitsB P t v = true) (h1 : regW P bl ops bf pl log (putE o.dst v e) h K) : regW P bl ops bf (i :: pl) log e h K := by
  simp only [regW, ho, hop, lightB, cond_true, hg, g_none, memoOf, hx, List.map_nil, List.append_nil, stepW, o_load, l_eptr]
  exact ⟨hf, h1⟩
theorem regW_loadB {t : TypeId} {x : Operand} {b q : Nat} (ho : opAt ops i = some o) (hop : o.op = .load t x) (hg : o.guard = none) (hx : evA (lk e) x = .ptr b q)
    (h1 : ∀ K2 : AV → AH → Prop, (∀ v h', regW P bl ops bf pl (log ++ [(i, b, h.f b)]) (putE o.dst v e) h' K → K2 v h') → loadW P t (.ptr b q) h K2) : regW P bl ops bf (i :: pl) log e h K := by
  simp only [regW, ho, hop, lightB, cond_true, hg, g_none, memoOf, hx, List.map_cons, List.map_nil, stepW, o_load]
  exact h1 _ fun _ _ h => h
theorem regW_heavy (ho : opAt ops i = some o) (hl : lightB bl o.op = false) (h1 : ∀ K2 : AV → AH → Prop, (∀ v h', logOk (befA bf i) log h' → regW P bl ops bf pl log (putE o.dst v e) h' K → K2 v h') → stepW P bl o.op (evA (lk e)) h K2) : regW P bl ops bf (i :: pl) log e h K := by
  simp only [regW, ho, hl, cond_false]
  exact h1 _ fun _ _ h k => ⟨h, k⟩
end

def loadR (x : AV) (F1 : AV → Prop) (F2 : Nat → Nat → Prop) : Prop := match x with
  | .eptr u => F1 u
  | .ptr b q => F2 b q
  | _ => False
@[congr] theorem loadR_c {x x' : AV} {F1 : AV → Prop} {F2 : Nat → Nat → Prop} (h : x = x') : loadR x F1 F2 = loadR x' F1 F2 := by rw [h]
theorem ld_eptr {u : AV} {F1 : AV → Prop} {F2 : Nat → Nat → Prop} : loadR (.eptr u) F1 F2 = F1 u := rfl
theorem ld_ptr {b q : Nat} {F1 : AV → Prop} {F2 : Nat → Nat → Prop} : loadR (.ptr b q) F1 F2 = F2 b q := rfl
section
variable {P : Program} {N : Nat} {bl : Bool} {ops r : List Oper} {o : Oper} {e : Env} {h : AH} {K : Env → AH → Prop} {bf : List (List Nat)} {i : Nat} {pl : List Nat} {log : List (Nat × Nat × Option (List AV))}
theorem regW_load {t : TypeId} {x : Operand} (ho : opAt ops i = some o) (hop : o.op = .load t x) (hg : o.guard = none)
    (h1 : ∀ (F1 : AV → Prop) (F2 : Nat → Nat → Prop), (∀ u, fitsB P t u = true → regW P bl ops bf pl log (putE o.dst u e) h K → F1 u) →
      (∀ b q, (∀ K2 : AV → AH → Prop, (∀ v h', regW P bl ops bf pl (log ++ [(i, b, h.f b)]) (putE o.dst v e) h' K → K2 v h') → loadW P t (.ptr b q) h K2) → F2 b q) → loadR (evA (lk e) x) F1 F2) : regW P bl ops bf (i :: pl) log e h K := by
  have := h1 _ _ (fun u hf hr => (⟨hf, hr⟩ : fitsB P t u = true ∧ regW P bl ops bf pl log (putE o.dst u e) h K)) (fun b q hk => hk)
  unfold loadR at this
  split at this
  · rename_i u hu; exact regW_loadV ho hop hg hu this.1 this.2
  · rename_i b q hu; exact regW_loadB ho hop hg hu this
  · exact this.elim
theorem regW_lload {t : TypeId} {x : Operand} {j d : Nat} {b : Bool} (ho : opAt ops i = some o) (hop : o.op = .load t x) (hg : o.guard = some (j, b)) (hd : dstAt ops j = some d)
    (h1 : ∀ R S : Env → Prop, (∀ e, (∀ F1 : AV → Prop, (∀ u, fitsB P t u = true → regW P bl ops bf pl log (putE o.dst u e) h K → F1 u) → loadR (evA (lk e) x) F1 (fun _ _ => False)) → R e) → (∀ e, regW P bl ops bf pl log (putE o.dst (.tup []) e) h K → S e) → gdV' (lk e d) d e b R S) : regW P bl ops bf (i :: pl) log e h K := by
  simp only [regW, ho, hop, lightB, cond_true, hg, g_some, hd, g_dsome]
  refine h1 _ _ (fun e hk => ?_) (fun _ h => h)
  have := hk _ (fun u hf hr => (⟨hf, hr⟩ : fitsB P t u = true ∧ regW P bl ops bf pl log (putE o.dst u e) h K))
  unfold loadR at this
  split at this
  · rename_i u hu
    simp only [stepW, o_load, memoOf, hu, l_eptr, List.map_nil, List.append_nil]
    exact this
  · exact this.elim
  · exact this.elim
end
/-- A loop's next round. -/
def Again {σ : Type} (env : σ → Env) (heap : σ → AH) (inv : σ → Prop) (μ : σ → Nat) (n : Nat) (e : Env) (h : AH) : Prop := ∃ s, inv s ∧ μ s < n ∧ Env.holds (env s) e ∧ heap s = h
@[congr] theorem Again_c {σ : Type} {env : σ → Env} {heap : σ → AH} {inv : σ → Prop} {μ : σ → Nat} {n : Nat} {e e' : Env} {h h' : AH} (h1 : e = e') (h2 : h = h') : Again env heap inv μ n e h = Again env heap inv μ n e' h' := by rw [h1, h2]
theorem Again.to {σ : Type} {env : σ → Env} {heap : σ → AH} {inv : σ → Prop} {μ : σ → Nat} {n : Nat} {e : Env} {h : AH} (s : σ) (h1 : inv s) (h2 : μ s < n) (h3 : Env.holds (env s) e) (h4 : heap s = h) : Again env heap inv μ n e h := ⟨s, h1, h2, h3, h4⟩
theorem good_loop_s {P : Program} {N : Nat} {e : Env} {h : AH} {Q : Post} {σ : Type} {c : Code} (env : σ → Env) (heap : σ → AH) (inv : σ → Prop) (μ : σ → Nat) (s0 : σ) (h1 : Env.holds (env s0) e) (h2 : heap s0 = h) (h3 : inv s0)
    (round : ∀ s, inv s → ∀ n, n = μ s → Good P N c (env s) (heap s) (thenQ (fun e h => Again env heap inv μ n e h) Q)) : Good P N (.loop c) e h Q :=
  good_loop_st env heap inv μ s0 h1 h2 h3 fun s hs => round s hs _ rfl

/-! looking up -/
theorem castS (n : Nat) : (n : Int) + 1 = ((n + 1 : Nat) : Int) := rfl
theorem holds_nil (e : Env) : Env.holds [] e = True := rfl
theorem holds_cons (i : Nat) (v : AV) (r e : Env) : Env.holds ((i, v) :: r) e = (lk e i = v ∧ Env.holds r e) := rfl
theorem ev_tmp (e : Env) (i : Nat) : evA (lk e) (.tmp i) = lk e i := rfl
theorem ev_const (e : Env) (v : Value) : evA (lk e) (.const v) = (ofV v).getD .junk := rfl
theorem ev_func (e : Env) (f : FuncId) : evA (lk e) (.func f) = .func (.func f) [] [] := rfl
theorem lk_cons (j i : Nat) (v : AV) (r : Env) : lk ((j, v) :: r) i = if j = i then v else lk r i := rfl
theorem lk_nil (i : Nat) : lk [] i = .junk := rfl
theorem put_cons (j i : Nat) (u v : AV) (r : Env) : Env.put ((j, u) :: r) i v = if j = i then (i, v) :: r else (j, u) :: Env.put r i v := rfl
theorem put_nil (i : Nat) (v : AV) : Env.put [] i v = [(i, v)] := rfl
theorem putE_some (d : Nat) (v : AV) (e : Env) : putE (some d) v e = e.put d v := rfl
theorem putE_none (v : AV) (e : Env) : putE none v e = e := rfl
theorem init_cons (i : Nat) (v : AV) (vs : List AV) : initE i (v :: vs) = (i, v) :: initE (i + 1) vs := rfl
theorem init_nil (i : Nat) : initE i [] = [] := rfl

section
variable {P : Program} {bl : Bool} {E : Operand → AV} {h : AH} {K2 : AV → AH → Prop} {x y z : Operand} {t s d : TypeId} {ps : Array (Nat × Operand)} {n : Nat} {op : BinOp} {u : UnOp} {fn : Fn} {p q : Array Operand} {lo hi mx : Option Operand}
theorem st_move : stepW P bl (.move x) E h K2 = opW P bl (.move x) E h K2 := rfl
theorem st_assign : stepW P bl (.assign x) E h K2 = opW P bl (.assign x) E h K2 := rfl
theorem st_pick : stepW P bl (.pick x y z) E h K2 = opW P bl (.pick x y z) E h K2 := rfl
theorem st_load : stepW P bl (.load t x) E h K2 = opW P bl (.load t x) E h K2 := rfl
theorem st_store : stepW P bl (.store t x y) E h K2 = opW P bl (.store t x y) E h K2 := rfl
theorem st_box : stepW P bl (.box t x) E h K2 = opW P bl (.box t x) E h K2 := rfl
theorem st_alloc : stepW P bl (.alloc t) E h K2 = opW P bl (.alloc t) E h K2 := rfl
theorem st_build : stepW P bl (.build t ps) E h K2 = opW P bl (.build t ps) E h K2 := rfl
theorem st_buildSlice : stepW P bl (.buildSlice t n ps) E h K2 = opW P bl (.buildSlice t n ps) E h K2 := rfl
theorem st_nilCheck : stepW P bl (.nilCheck x) E h K2 = opW P bl (.nilCheck x) E h K2 := rfl
theorem st_binOp : stepW P bl (.binOp op t x y d) E h K2 = opW P bl (.binOp op t x y d) E h K2 := rfl
theorem st_unOp : stepW P bl (.unOp u t x) E h K2 = opW P bl (.unOp u t x) E h K2 := rfl
theorem st_convert : stepW P bl (.convert s d x) E h K2 = opW P bl (.convert s d x) E h K2 := rfl
theorem st_makeInterface : stepW P bl (.makeInterface t x) E h K2 = opW P bl (.makeInterface t x) E h K2 := rfl
theorem st_makeFunc : stepW P bl (.makeFunc fn p q) E h K2 = opW P bl (.makeFunc fn p q) E h K2 := rfl
theorem st_makeSlice : stepW P bl (.makeSlice t x y) E h K2 = opW P bl (.makeSlice t x y) E h K2 := rfl
theorem st_slice : stepW P bl (.slice t x lo hi mx) E h K2 = opW P bl (.slice t x lo hi mx) E h K2 := rfl
theorem st_fieldAddr : stepW P bl (.fieldAddr t x n) E h K2 = opW P bl (.fieldAddr t x n) E h K2 := rfl
theorem st_field : stepW P bl (.field t x n) E h K2 = opW P bl (.field t x n) E h K2 := rfl
theorem st_indexAddr : stepW P bl (.indexAddr t x y) E h K2 = opW P bl (.indexAddr t x y) E h K2 := rfl
theorem st_index : stepW P bl (.index t x y) E h K2 = opW P bl (.index t x y) E h K2 := rfl
theorem st_extract : stepW P bl (.extract x n) E h K2 = opW P bl (.extract x n) E h K2 := rfl
end
section
variable {k : IntKind} {a b : Int} {K : AV → Prop}
theorem ar_add : arW .add k a b K = K (.int k (k.wrap (a + b))) := rfl
theorem ar_sub : arW .sub k a b K = K (.int k (k.wrap (a - b))) := rfl
theorem ar_mul : arW .mul k a b K = K (.int k (k.wrap (a * b))) := rfl
theorem ar_quo : arW .quo k a b K = (b ≠ 0 ∧ K (.int k (k.wrap (a.tdiv b)))) := rfl
theorem ar_rem : arW .rem k a b K = (b ≠ 0 ∧ K (.int k (a.tmod b))) := rfl
theorem ar_and : arW .and k a b K = K (.int k (k.wrap (BitVec.ofInt k.bits a &&& BitVec.ofInt k.bits b).toNat)) := rfl
theorem ar_or : arW .or k a b K = K (.int k (k.wrap (BitVec.ofInt k.bits a ||| BitVec.ofInt k.bits b).toNat)) := rfl
theorem ar_xor : arW .xor k a b K = K (.int k (k.wrap (BitVec.ofInt k.bits a ^^^ BitVec.ofInt k.bits b).toNat)) := rfl
theorem ar_andNot : arW .andNot k a b K = K (.int k (k.wrap (BitVec.ofInt k.bits a &&& ~~~BitVec.ofInt k.bits b).toNat)) := rfl
theorem ar_eql : arW .eql k a b K = K (.bool (a == b)) := rfl
theorem ar_neq : arW .neq k a b K = K (.bool (a != b)) := rfl
theorem ar_lss : arW .lss k a b K = K (.bool (decide (a < b))) := rfl
theorem ar_leq : arW .leq k a b K = K (.bool (decide (a ≤ b))) := rfl
theorem ar_gtr : arW .gtr k a b K = K (.bool (decide (a > b))) := rfl
theorem ar_geq : arW .geq k a b K = K (.bool (decide (a ≥ b))) := rfl
theorem ar_shl : arW .shl k a b K = (0 ≤ b ∧ K (.int k (k.wrap (a * 2 ^ min b.toNat k.bits)))) := rfl
theorem ar_shr : arW .shr k a b K = (0 ≤ b ∧ K (.int k (a.fdiv (2 ^ min b.toNat k.bits)))) := rfl
end
section
variable {next : Env → AH → Prop} {Q : Post} {e : Env} {h : AH} {i j : Nat} {P : Program} {rs : List ResultVar} {R : AV → AH → Prop}
theorem t_normal : thenQ next Q .normal e h = next e h := rfl
theorem t_exit : thenQ next Q (.exit i) e h = Q (.exit i) e h := rfl
theorem t_ret : thenQ next Q .ret e h = Q .ret e h := rfl
theorem bk_normal : blockQ i Q .normal e h = Q .normal e h := rfl
theorem bk_ret : blockQ i Q .ret e h = Q .ret e h := rfl
theorem bk_here : blockQ i Q (.exit i) e h = Q .normal e h := by simp [blockQ]
theorem bk_exit : blockQ i Q (.exit j) e h = ((j = i ∧ Q .normal e h) ∨ (j ≠ i ∧ Q (.exit j) e h)) := rfl
theorem e_normal : endQ P rs R .normal e h = resW P rs e h R := rfl
theorem e_ret : endQ P rs R .ret e h = resW P rs e h R := rfl
theorem r_one (t : Tmp) : resW P [.tmp t] e h R = R (lk e t) h := rfl
theorem r_cell (a : Tmp) (t : TypeId) : resW P [.cell a t] e h R = loadW P t (lk e a) h fun v _ => R v h := rfl
theorem r_nil : resW P [] e h R = R (.tup []) h := rfl
theorem r_two (x y : ResultVar) : resW P [x, y] e h R = resV P e h x fun v => resV P e h y fun u => R (.tup [v, u]) h := rfl
theorem r_three (x y z : ResultVar) : resW P [x, y, z] e h R = resV P e h x fun v => resV P e h y fun u => resV P e h z fun q => R (.tup [v, u, q]) h := rfl
theorem rv_tmp (t : Tmp) (K : AV → Prop) : resV P e h (.tmp t) K = K (lk e t) := rfl
theorem rv_cell (a : Tmp) (t : TypeId) (K : AV → Prop) : resV P e h (.cell a t) K = loadW P t (lk e a) h fun v _ => K v := rfl
end

section
variable {k : IntKind} {n : Int} {b : Bool} {s : ByteArray} {p q r : Nat} {v : AV} {xs ys : List AV} {g : Gr} {c : Cp} {fn : Fn} {t : TypeId}
theorem mm_int : memA (.int k n) = true := rfl
theorem oo_int : oneA (.int k n) = true := rfl
theorem cc_int : cellsA (.int k n) = [(.int k n)] := rfl
theorem pp_int : pur (.int k n) = true := by simp only [pur]
theorem mm_bool : memA (.bool b) = true := rfl
theorem oo_bool : oneA (.bool b) = true := rfl
theorem cc_bool : cellsA (.bool b) = [(.bool b)] := rfl
theorem pp_bool : pur (.bool b) = true := by simp only [pur]
theorem mm_str : memA (.str s) = true := rfl
theorem oo_str : oneA (.str s) = true := rfl
theorem cc_str : cellsA (.str s) = [(.str s)] := rfl
theorem pp_str : pur (.str s) = true := by simp only [pur]
theorem mm_nilp : memA .nilp = true := rfl
theorem oo_nilp : oneA .nilp = true := rfl
theorem cc_nilp : cellsA .nilp = [.nilp] := rfl
theorem pp_nilp : pur .nilp = true := by simp only [pur]
theorem mm_ptr : memA (.ptr p q) = true := rfl
theorem oo_ptr : oneA (.ptr p q) = true := rfl
theorem cc_ptr : cellsA (.ptr p q) = [(.ptr p q)] := rfl
theorem mm_eptr : memA (.eptr v) = true := rfl
theorem oo_eptr : oneA (.eptr v) = true := rfl
theorem cc_eptr : cellsA (.eptr v) = [(.eptr v)] := rfl
theorem pp_eptr : pur (.eptr v) = true := by simp only [pur]
theorem mm_nils : memA .nils = true := rfl
theorem oo_nils : oneA .nils = true := rfl
theorem cc_nils : cellsA .nils = [.nils] := rfl
theorem pp_nils : pur .nils = true := by simp only [pur]
theorem mm_tree : memA (.tree p xs g) = true := rfl
theorem oo_tree : oneA (.tree p xs g) = true := rfl
theorem cc_tree : cellsA (.tree p xs g) = [(.tree p xs g)] := rfl
theorem pp_tree : pur (.tree p xs g) = true := by simp only [pur]
theorem mm_bsl : memA (.bsl p q r c) = true := rfl
theorem oo_bsl : oneA (.bsl p q r c) = true := rfl
theorem cc_bsl : cellsA (.bsl p q r c) = [(.bsl p q r c)] := rfl
theorem mm_func : memA (.func fn xs ys) = true := rfl
theorem oo_func : oneA (.func fn xs ys) = true := rfl
theorem cc_func : cellsA (.func fn xs ys) = [(.func fn xs ys)] := rfl
theorem mm_nilf : memA .nilf = true := rfl
theorem oo_nilf : oneA .nilf = true := rfl
theorem cc_nilf : cellsA .nilf = [.nilf] := rfl
theorem pp_nilf : pur .nilf = true := by simp only [pur]
theorem mm_iface : memA (.iface t v) = true := rfl
theorem oo_iface : oneA (.iface t v) = true := rfl
theorem cc_iface : cellsA (.iface t v) = [(.iface t v)] := rfl
theorem mm_nili : memA .nili = true := rfl
theorem oo_nili : oneA .nili = true := rfl
theorem cc_nili : cellsA .nili = [.nili] := rfl
theorem pp_nili : pur .nili = true := by simp only [pur]
theorem mm_agg : memA (.agg xs) = true := rfl
theorem oo_agg : oneA (.agg xs) = false := rfl
theorem cc_agg : cellsA (.agg xs) = xs := rfl
theorem pp_agg : pur (.agg xs) = purL xs := by simp only [pur]
theorem pl_nil : purL [] = true := by simp only [purL]
theorem pl_cons : purL (v :: xs) = (pur v && purL xs) := by simp only [purL]
theorem ra_int : roA (.int k n) = .int k n := by simp only [roA]
theorem ra_bool : roA (.bool b) = .bool b := by simp only [roA]
theorem ra_nils : roA .nils = .nils := by simp only [roA]
theorem ra_agg : roA (.agg xs) = .agg (roL xs) := by simp only [roA]
theorem ra_own {κ : Nat} : roA (.tree p xs (.own κ)) = .tree p xs .ro := by simp only [roA]
theorem ra_ro : roA (.tree p xs .ro) = .tree p xs .ro := by simp only [roA]
theorem ra_full : roA (.tree p xs .full) = .tree p xs .full := by simp only [roA]
theorem ra_bsl : roA (.bsl p q r c) = .bsl p q r c := by simp only [roA]
theorem rl_nil : roL [] = [] := by simp only [roL]
theorem rl_cons : roL (v :: xs) = roA v :: roL xs := by simp only [roL]
end
theorem log_goal {bi : List Nat} {log : List (Nat × Nat × Option (List AV))} {h : AH} (hp : logOk bi log h = True) : logOk bi log h := of_eq_true hp
end Go.Eng
/- An engine, part 15: a matrix that is made and filled row by row. Over any program. -/
set_option linter.unusedVariables false
set_option linter.unusedSimpArgs false
namespace Go.Eng
open Go.RowKit (Below)

theorem copies_nils (n : Nat) : copies [AV.nils] n = List.replicate n .nils := copies_one _ n
theorem copies_zero (n : Nat) : copies [AV.int .i64 0] n = (List.replicate n (0 : Int)).map (AV.int .i64) := by rw [copies_one, List.map_replicate]
theorem mk_ne (h : AH) (x : List AV) {b : Nat} (hb : b ≠ h.n) : (h.mk_ x).f b = h.f b := upd_ne _ _ hb
theorem mk_n (h : AH) (x : List AV) : (h.mk_ x).n = h.n + 1 := rfl
theorem put_n (h : AH) (b : Nat) (x : List AV) : (h.put b x).n = h.n := rfl

/-- The rows' block O: the first i rows are there. -/
def pmC (O m i n : Nat) : List AV := (List.range n).map fun j => if j < i then .bsl (O + 1 + j) 0 m .full else .nils
/-- n rows of m numbers each, those of R are there: the block of the rows is h.n, the row j lies in h.n + 1 + j. -/
def pmH (h : AH) (n m : Nat) (R : List (List Int)) : AH :=
  { h with f := fun b => if b = h.n then some (pmC h.n m R.length n) else if h.n < b ∧ b < h.n + 1 + R.length then some ((R.getD (b - h.n - 1) []).map (AV.int .i64)) else h.f b, n := h.n + 1 + R.length }

section
variable {h : AH} {n m : Nat} {R : List (List Int)}
theorem pmC_length (O i : Nat) : (pmC O m i n).length = n := by simp [pmC]
theorem pmC_get {O i k : Nat} (h1 : i < k) (h2 : i < n) : (pmC O m k n).getD i .junk = .bsl (O + 1 + i) 0 m .full := by
  simp [pmC, List.getD_eq_getElem?_getD, h1, h2]
theorem pmC_set {O i : Nat} (h2 : i < n) : (pmC O m i n).set i (.bsl (O + 1 + i) 0 m .full) = pmC O m (i + 1) n := by
  refine List.ext_getElem? fun j => ?_
  by_cases hj : j < n
  · by_cases hij : i = j
    · subst hij
      rw [List.getElem?_set_self (by rw [pmC_length]; exact h2)]
      simp [pmC, h2]
    · rw [List.getElem?_set_ne hij]
      simp only [pmC, List.getElem?_map, List.getElem?_range hj, Option.map_some]
      by_cases h3 : j < i
      · rw [if_pos h3, if_pos (by omega)]
      · rw [if_neg h3, if_neg (by omega)]
  · rw [List.getElem?_eq_none (by rw [List.length_set, pmC_length]; omega), List.getElem?_eq_none (by rw [pmC_length]; omega)]
theorem pm_n : (pmH h n m R).n = h.n + 1 + R.length := rfl
theorem pm_O : (pmH h n m R).f h.n = some (pmC h.n m R.length n) := by simp [pmH]
theorem pm_zero : h.mk_ (List.replicate n .nils) = pmH h n m [] := by
  refine AH.ext_ (fun b => ?_) rfl (fun _ => rfl) rfl
  simp only [AH.mk_, pmH, upd, List.length_nil, Nat.add_zero]
  by_cases hb : b = h.n
  · rw [if_pos hb, if_pos hb]
    congr 1
    refine List.ext_getElem? fun j => ?_
    by_cases hj : j < n
    · simp [pmC, hj]
    · rw [List.getElem?_eq_none (by simp; omega), List.getElem?_eq_none (by rw [pmC_length]; omega)]
  · rw [if_neg hb, if_neg hb, if_neg (by omega)]
theorem pm_row {i : Nat} (hi : i < R.length) : (pmH h n m R).f (h.n + 1 + i) = some ((R.getD i []).map (AV.int .i64)) := by
  simp only [pmH]
  rw [if_neg (by omega), if_pos (by omega)]
  congr 3
  omega
theorem pm_put {i : Nat} (hi : i < R.length) (r : List Int) : (pmH h n m R).put (h.n + 1 + i) (r.map (AV.int .i64)) = pmH h n m (R.set i r) := by
  refine AH.ext_ (fun b => ?_) (by simp [AH.put, pmH]) (fun _ => rfl) rfl
  simp only [AH.put, pmH, List.length_set, upd]
  by_cases hb : b = h.n + 1 + i
  · subst hb
    rw [if_pos rfl, if_neg (by omega), if_pos (by omega)]
    have : h.n + 1 + i - h.n - 1 = i := by omega
    rw [this]
    simp [List.getD_eq_getElem?_getD, hi]
  · rw [if_neg hb]
    by_cases hO : b = h.n
    · rw [if_pos hO, if_pos hO]
    · rw [if_neg hO, if_neg hO]
      by_cases h3 : h.n < b ∧ b < h.n + 1 + R.length
      · rw [if_pos h3, if_pos h3]
        have : b - h.n - 1 ≠ i := by omega
        simp [List.getD_eq_getElem?_getD, List.getElem?_set_ne (Ne.symm this)]
      · rw [if_neg h3, if_neg h3]
/-- One row more. -/
theorem pm_add (hn : R.length < n) (r : List Int) : ((pmH h n m R).mk_ (r.map (AV.int .i64))).put h.n (pmC h.n m (R.length + 1) n) = pmH h n m (R ++ [r]) := by
  refine AH.ext_ (fun b => ?_) (by simp [AH.put, AH.mk_, pmH]; omega) (fun _ => rfl) rfl
  simp only [AH.put, AH.mk_, pmH, upd, List.length_append, List.length_cons, List.length_nil, Nat.zero_add]
  by_cases hO : b = h.n
  · rw [if_pos hO, if_pos hO]
  · rw [if_neg hO, if_neg hO]
    by_cases hb : b = h.n + 1 + R.length
    · rw [if_pos hb, if_neg hO, if_pos (by omega)]
      have : b - h.n - 1 = R.length := by omega
      rw [this]
      simp [List.getD_eq_getElem?_getD]
    · rw [if_neg hb, if_neg hO]
      by_cases h3 : h.n < b ∧ b < h.n + 1 + R.length
      · rw [if_pos h3, if_pos (by omega)]
        have : b - h.n - 1 < R.length := by omega
        simp [List.getD_eq_getElem?_getD, List.getElem?_append_left this]
      · rw [if_neg h3, if_neg (by omega)]

theorem pm_mk_O (x : List AV) : ((pmH h n m R).mk_ x).f h.n = some (pmC h.n m R.length n) := by
  rw [mk_ne _ _ (by rw [pm_n]; omega), pm_O]
theorem pm_more (hn : R.length < n) (r : List Int) : ((pmH h n m R).mk_ (r.map (AV.int .i64))).put h.n ((pmC h.n m R.length n).set R.length (.bsl (h.n + 1 + R.length) 0 m .full)) = pmH h n m (R ++ [r]) := by
  rw [pmC_set hn, pm_add hn]
theorem pm_last (r : List Int) : (pmH h n m (R ++ [r])).f (h.n + 1 + R.length) = some (r.map (AV.int .i64)) := by
  rw [pm_row (by simp)]
  simp [List.getD_eq_getElem?_getD]
theorem pm_lput (r r' : List Int) : (pmH h n m (R ++ [r])).put (h.n + 1 + R.length) (r'.map (AV.int .i64)) = pmH h n m (R ++ [r']) := by
  rw [pm_put (by simp)]
  simp

/-- A row that is filled from the left. -/
def fill (f : Int → Int) (row : List Int) (j : Nat) : List Int := (row.take j).map f ++ List.replicate (row.length - j) 0
theorem fill_length {f : Int → Int} {row : List Int} {j : Nat} (hj : j ≤ row.length) : (fill f row j).length = row.length := by
  simp [fill]; omega
theorem fill_zero (f : Int → Int) (row : List Int) : fill f row 0 = List.replicate row.length 0 := by simp [fill]
theorem fill_full (f : Int → Int) (row : List Int) : fill f row row.length = row.map f := by simp [fill]
theorem fill_set {f : Int → Int} {row : List Int} {j : Nat} (hj : j < row.length) : (fill f row j).set j (f (row.getD j 0)) = fill f row (j + 1) := by
  refine List.ext_getElem? fun k => ?_
  have h1 : ((row.take j).map f).length = j := by simp; omega
  by_cases hk : k < row.length
  · by_cases hkj : k = j
    · subst hkj
      rw [List.getElem?_set_self (by rw [fill_length (by omega)]; exact hk)]
      rw [fill, List.getElem?_append_left (by simp; omega)]
      simp [List.getD_eq_getElem?_getD, hk]
    · rw [List.getElem?_set_ne (Ne.symm hkj)]
      by_cases hlt : k < j
      · rw [fill, fill, List.getElem?_append_left (by simp; omega), List.getElem?_append_left (by simp; omega)]
        simp [List.getElem?_take, hlt, show k < j + 1 from by omega]
      · rw [fill, fill, List.getElem?_append_right (by simp; omega), List.getElem?_append_right (by simp; omega)]
        rw [List.getElem?_replicate, List.getElem?_replicate, if_pos (by simp; omega), if_pos (by simp; omega)]
  · rw [List.getElem?_eq_none (by rw [List.length_set, fill_length (by omega)]; omega), List.getElem?_eq_none (by rw [fill_length (by omega)]; omega)]

/-- The rows' names. -/
def idsOf (O n : Nat) : List Nat := (List.range n).map fun j => O + 1 + j
theorem idsOf_length (O n : Nat) : (idsOf O n).length = n := by simp [idsOf]
theorem idsOf_get {O n i : Nat} (hi : i < n) : (idsOf O n).getD i 0 = O + 1 + i := by simp [idsOf, List.getD_eq_getElem?_getD, hi]
theorem mem_idsOf {O n b : Nat} : b ∈ idsOf O n ↔ O < b ∧ b < O + 1 + n := by
  simp only [idsOf, List.mem_map, List.mem_range]
  constructor
  · rintro ⟨j, hj, rfl⟩; omega
  · intro hb; exact ⟨b - O - 1, by omega, by omega⟩
theorem idsOf_nodup (O n : Nat) : (idsOf O n).Nodup := by
  rw [List.nodup_iff_pairwise_ne, idsOf, List.pairwise_map]
  exact List.Pairwise.imp (fun hab h => by omega) List.pairwise_lt_range
theorem pm_ok (hr : ∀ r ∈ R, r.length = m) : MatOk h.n (idsOf h.n R.length) m R :=
  ⟨idsOf_nodup _ _, fun hm => by have := mem_idsOf.1 hm; omega, idsOf_length _ _, hr⟩

variable {ρ : Ip} {w : World}
theorem pm_mat (hr : ∀ r ∈ R, r.length = m) (hR : RH ρ (pmH h R.length m R) w) : RH ρ (matH { h with n := h.n + 1 + R.length } h.n (idsOf h.n R.length) m R) w := by
  have := hR.up (cs' := rowsC (idsOf h.n R.length) m) pm_O (by rw [rowsC_length, idsOf_length, pmC_length]; exact Nat.le_refl _) (fun i hi vc hx => by
    rw [rowsC_length, idsOf_length] at hi
    have e1 : (pmC h.n m R.length R.length)[i]'(by rw [pmC_length]; exact hi) = .bsl (h.n + 1 + i) 0 m .full := by simp [pmC, hi]
    have e2 : (rowsC (idsOf h.n R.length) m)[i]'(by rw [rowsC_length, idsOf_length]; exact hi) = .bsl (h.n + 1 + i) 0 m .ro := by simp [rowsC, idsOf]
    rw [e1] at hx
    rw [e2]
    exact Up.bsl _ _ _ _ _ _ hx)
  have heq : (pmH h R.length m R).put h.n (rowsC (idsOf h.n R.length) m) = matH { h with n := h.n + 1 + R.length } h.n (idsOf h.n R.length) m R := by
    refine AH.ext_ (fun b => ?_) rfl (fun _ => rfl) rfl
    simp only [AH.put, pmH, matH, upd]
    by_cases hO : b = h.n
    · rw [if_pos hO, if_pos hO]
    · rw [if_neg hO, if_neg hO, if_neg hO]
      by_cases h3 : h.n < b ∧ b < h.n + 1 + R.length
      · rw [if_pos h3]
        have hi : b - h.n - 1 < R.length := by omega
        have hb : b = (idsOf h.n R.length).getD (b - h.n - 1) 0 := by rw [idsOf_get hi]; omega
        have := idxOf_get (idsOf_nodup h.n R.length) (i := b - h.n - 1) (by rw [idsOf_length]; exact hi)
        rw [← hb] at this
        rw [this]
      · rw [if_neg h3]
        have : (idsOf h.n R.length).idxOf? b = none := List.idxOf?_eq_none_iff.2 fun hm => h3 (mem_idsOf.1 hm)
        rw [this]
  rw [← heq]; exact this

theorem off_ext {O : Nat} {ids : List Nat} {h' : AH} (he : Ext h h') (hO : h.n ≤ O) (hi : ∀ b ∈ ids, h.n ≤ b) : Ext h (offH h' O ids) :=
  ⟨he.n, he.k, fun b hb => by
    show (if b = O then none else if b ∈ ids then none else h'.f b) = h.f b
    rw [if_neg (by omega), if_neg (fun hm => by have := hi b hm; omega)]
    exact he.f b hb, he.gr⟩

/-- Such a matrix, handed out and never written again. -/
theorem ACalls.frozen {P : Program} {f : FuncId} {args : List AV} (hr : ∀ r ∈ R, r.length = m) (hc : ACalls P f args h (fun v h' => v = .bsl h.n 0 R.length .full ∧ h' = pmH h R.length m R)) : ACalls P f args h (fun v h' => v = matV R ∧ h' = h) := fun ρ w argc hR hL =>
  Calls.mono (hc ρ w argc hR hL) fun e w' he => by
    cases e with
    | returned vc =>
      obtain ⟨ρ', v, h', h1, h2, h3, rfl, rfl⟩ := he
      obtain ⟨ρ2, k1, k2, k3⟩ := freeze_mat (pm_ok hr) (pm_mat hr h2)
      obtain ⟨q1, q2⟩ := hR.cut (h1.trans k1) k2 (off_ext (h' := { h with n := h.n + 1 + R.length }) ⟨by show h.n ≤ h.n + 1 + R.length; omega, Nat.le_refl _, fun _ _ => rfl, fun _ _ => rfl⟩ (Nat.le_refl _) (fun b hb => by have := mem_idsOf.1 hb; omega))
      have := k3 R.length .full vc (Nat.le_refl _) h3
      rw [List.take_length] at this
      exact ⟨_, matV R, h, q2, q1, .pure _ _ this, rfl, rfl⟩
    | panicked c => exact he
    | outgrown => exact he
end

theorem tmod_emod (a m : Int) (hm : 0 < m) : (a % m = if a.tmod m < 0 then a.tmod m + m else a.tmod m) ∧ -m < a.tmod m ∧ a.tmod m < m := by
  have h1 := Int.emod_nonneg a (show m ≠ 0 by omega)
  have h2 := Int.emod_lt_of_pos a hm
  rcases Int.lt_or_le a 0 with ha | ha
  · have h3 : a.tmod m = -((-a) % m) := by rw [← Int.tmod_eq_emod_of_nonneg (by omega : 0 ≤ -a), Int.neg_tmod, Int.neg_neg]
    have h4 := Int.emod_nonneg (-a) (show m ≠ 0 by omega)
    have h5 := Int.emod_lt_of_pos (-a) hm
    have h6 : a % m = if (-a) % m = 0 then 0 else m - (-a) % m := by
      have : a = -(-a) := by omega
      rw [this, Int.neg_emod]
      split
      · rename_i hd
        rw [if_pos (Int.emod_eq_zero_of_dvd (by simpa using hd))]
      · rename_i hd
        rw [if_neg (fun h => hd (by simpa using Int.dvd_of_emod_eq_zero h))]
        simp
        omega
    rw [h3, h6]
    refine ⟨?_, by omega, by omega⟩
    split <;> split <;> omega
  · have h3 : a.tmod m = a % m := Int.tmod_eq_emod_of_nonneg ha
    rw [h3]
    exact ⟨by rw [if_neg (by omega)], by omega, h2⟩
end Go.Eng
/- An engine, part 16: rows that grow by append. Over any program. -/
set_option linter.unusedVariables false
set_option linter.unusedSimpArgs false
namespace Go.Eng
open Go.RowKit (Below)

/-- A row that is appended to: nil, or begun under the number κ. -/
def accO (κ : Nat) (xs : List AV) : AV := match xs with
  | [] => .nils
  | x :: r => .tree 1 (x :: r) (.own κ)
def AccOk (κ : Nat) (xs : List AV) (H : AH) : Prop := xs = [] ∨ (κ < H.k ∧ H.gr κ = xs.length)
/-- Only the row κ has grown. -/
structure Grew (κ : Nat) (H H' : AH) : Prop where
  n : H'.n = H.n
  f : H'.f = H.f
  k : H.k ≤ H'.k
  gr : ∀ q, q < H.k → q ≠ κ → H'.gr q = H.gr q
theorem accO_nil (κ : Nat) : accO κ [] = .nils := rfl
theorem accO_cons {κ : Nat} {xs : List AV} (h : xs ≠ []) : accO κ xs = .tree 1 xs (.own κ) := by
  cases xs with
  | nil => exact absurd rfl h
  | cons x r => rfl
theorem accOk_nil (κ : Nat) (H : AH) : AccOk κ [] H := .inl rfl
theorem AccOk.keep {κ q : Nat} {xs : List AV} {H H' : AH} (h : AccOk κ xs H) (g : Grew q H H') (hq : κ ≠ q) : AccOk κ xs H' := by
  rcases h with h | ⟨h1, h2⟩
  · exact .inl h
  · exact .inr ⟨Nat.lt_of_lt_of_le h1 g.k, by rw [g.gr κ h1 hq]; exact h2⟩
theorem AccOk.ext {κ : Nat} {xs : List AV} {H H' : AH} (h : AccOk κ xs H) (e : Ext H H') : AccOk κ xs H' := by
  rcases h with h | ⟨h1, h2⟩
  · exact .inl h
  · exact .inr ⟨Nat.lt_of_lt_of_le h1 e.k, by rw [e.gr κ h1]; exact h2⟩
theorem Grew.ext {κ : Nat} {h H H' : AH} (he : Ext h H) (g : Grew κ H H') (hk : h.k ≤ κ) : Ext h H' :=
  ⟨by rw [g.n]; exact he.n, Nat.le_trans he.k g.k, fun b hb => by rw [g.f]; exact he.f b hb, fun q hq => by rw [g.gr q (Nat.lt_of_lt_of_le hq he.k) (by omega)]; exact he.gr q hq⟩

theorem app_acc {P : Program} {t : TypeId} {H : AH} {κ : Nat} {xs ys : List AV} {g : Gr} {K : AV → AH → Prop} {e by_ : Nat} {z : AV} (hok : AccOk κ xs H) (hys : ys ≠ []) (he : elT P t = some e) (hs : szT P e = some 1) (hb : byT P e = some by_) (hz : zrT P e = some z) (hm : memA z = true) (hzl : (cellsA z).length = 1)
    (h1 : xs.length + ys.length ≤ 1073741824) (h2 : by_ ≤ 64) (hK : ∀ κ' H', AccOk κ' (xs ++ ys) H' → (xs ≠ [] → κ' = κ) → (xs = [] → κ' = H.k) → Grew κ' H H' → K (accO κ' (xs ++ ys)) H') : appW P t (accO κ xs) (.tree 1 ys g) H K := by
  have hbig : (xs.length + ys.length) * by_ ≤ 140737488355328 := Nat.le_trans (Nat.mul_le_mul h1 h2) (by omega)
  refine ⟨e, 1, by_, z, he, hs, hb, hz, hm, hzl, Nat.one_pos, rfl, hys, ?_⟩
  cases xs with
  | nil =>
    simp only [accO, List.nil_append, List.length_nil, Nat.zero_add] at h1 hbig hK ⊢
    refine ⟨by omega, hbig, ?_⟩
    have := hK H.k (H.begun ys.length) (.inr ⟨by show H.k < H.k + 1; omega, by simp [AH.begun, upd]⟩) (fun h => absurd rfl h) (fun _ => rfl) ⟨rfl, rfl, by show H.k ≤ H.k + 1; omega, fun q hq hne => by simp [AH.begun, upd, hne]⟩
    rw [← accO_cons hys]
    exact this
  | cons x r =>
    rcases hok with hok | ⟨hok1, hok2⟩
    · cases hok
    · simp only [accO]
      refine ⟨trivial, hok2, by simp only [List.length_cons] at h1 ⊢; omega, hbig, ?_⟩
      exact hK κ (H.grown κ ((x :: r).length + ys.length)) (.inr ⟨hok1, by simp [AH.grown, upd]; omega⟩) (fun _ => rfl) (fun h => by cases h) ⟨rfl, rfl, Nat.le_refl _, fun q hq hne => by simp [AH.grown, upd, hne]⟩

theorem roA_acc (κ : Nat) (r : List Int) (hr : r ≠ []) : roA (accO κ (r.map (AV.int .i64))) = rowV r := by
  rw [accO_cons (by simpa using hr)]; simp only [roA, rowV]
theorem pur_accO (κ : Nat) (xs : List AV) : pur (accO κ xs) = true := by cases xs <;> simp [accO, pur]
theorem memA_accO (κ : Nat) (xs : List AV) : memA (accO κ xs) = true := by cases xs <;> rfl
theorem cells_accO (κ : Nat) (xs : List AV) : cellsA (accO κ xs) = [accO κ xs] := by cases xs <;> rfl
theorem oneA_accO (κ : Nat) (xs : List AV) : oneA (accO κ xs) = true := by cases xs <;> rfl
theorem len_accO {P : Program} {t : TypeId} {K : AV → Prop} (κ : Nat) (xs : List AV) : lenW P t (accO κ xs) K = (knT P t = some 3 ∧ K (.int .i64 (xs.length : Int))) := by
  cases xs <;> simp [lenW, accO]
theorem up_accO (κ : Nat) (xs : List AV) : Up (accO κ xs) (.tree 1 xs .ro) := by
  cases xs with
  | nil => exact Up.nils_ 1
  | cons x r => exact Up.ro_ _ _ _
theorem map_snoc {α β : Type} (f : α → β) (l : List α) (x : α) : l.map f ++ [f x] = (l ++ [x]).map f := by simp

/-- The memory stays: what a function handed out leads to nothing that is written. -/
theorem ACalls.still {P : Program} {f : FuncId} {args : List AV} {h : AH} {u : AV} (hc : ACalls P f args h (fun v h' => Up (roA v) u ∧ pur v = true ∧ Ext h h')) : ACalls P f args h (fun v h' => v = u ∧ h' = h) := fun ρ w argc hR hL =>
  Calls.mono (hc ρ w argc hR hL) fun e w' he => by
    cases e with
    | returned vc =>
      obtain ⟨ρ', v, h', h1, h2, h3, hup, h5, h6⟩ := he
      obtain ⟨k1, k2⟩ := hR.cut h1 h2 h6
      exact ⟨_, u, h, k2, k1, hup _ _ (.pure _ _ (show PV ρ'.prot _ _ from pure_RV h3 h5)), rfl, rfl⟩
    | panicked c => exact he
    | outgrown => exact he
theorem int_snoc (r : List Int) (x : Int) : r.map (AV.int .i64) ++ [AV.int .i64 x] = (r ++ [x]).map (AV.int .i64) := by simp
theorem row_snoc (R : List (List Int)) (r : List Int) : R.map rowV ++ [rowV r] = (R ++ [r]).map rowV := by simp
theorem roA_acc' (κ : Nat) (r : List Int) (hr : 0 < r.length) : roA (accO κ (r.map (AV.int .i64))) = rowV r := roA_acc κ r (by intro h; subst h; simp at hr)
theorem Up.accM (κ : Nat) (R : List (List Int)) : Up (roA (accO κ (R.map rowV))) (matV R) := by
  cases R with
  | nil => exact Up.nils_ 1
  | cons x r => simp only [List.map_cons, accO, roA]; exact Up.refl _
theorem Up.accI (κ : Nat) (R : List Int) : Up (roA (accO κ (R.map (AV.int .i64)))) (rowV R) := by
  cases R with
  | nil => exact Up.nils_ 1
  | cons x r => simp only [List.map_cons, accO, roA]; exact Up.refl _
theorem take_snoc {α β : Type} (f : α → β) (l : List α) (d : α) {R : List β} (hl : R.length < l.length) (hR : R = (l.take R.length).map f) : R ++ [f (l.getD R.length d)] = (l.take (R.length + 1)).map f := by
  have e : l.getD R.length d = l[R.length] := by simp [List.getD_eq_getElem?_getD, hl]
  rw [e, List.take_add_one, List.getElem?_eq_getElem hl, Option.toList_some, List.map_append, ← hR, List.map_singleton]
end Go.Eng
/- An engine, part 17: on the way, a block is said never to be written again. Over any program. -/
set_option linter.unusedVariables false
set_option linter.unusedSimpArgs false
namespace Go.Eng
open Go.RowKit (Below)

theorem good_freeze {P : Program} {N : Nat} {code : Code} {e : Env} {h : AH} {Q : Post} {b : Nat} {cs : List AV} (i n : Nat) (c : Cp) (hb : h.f b = some cs) (hp : allB pur cs = true) (ho : allB oneA cs = true) (hi : lk e i = .bsl b 0 n c) (hn : n ≤ cs.length)
    (hg : Good P N code (e.put i (.tree 1 ((roL cs).take n) .ro)) (h.rm b) Q) : Good P N code e h Q := fun hok ρ w a hR hT => by
  obtain ⟨ρ', hle, hR', hv⟩ := hR.freeze hb hp ho
  refine wp_mono (hg hok ρ' w a hR' ⟨hT.size, fun j hj => ?_, hT.defers⟩) fun ex a' w' ⟨ρ2, e2, h2, k1, k2, k3, k4⟩ => ⟨ρ2, e2, h2, hle.trans k1, k2, k3, k4⟩
  rw [lk_put]
  by_cases hji : j = i
  · subst hji
    rw [if_pos rfl]
    have := hT.get j hj
    rw [hi] at this
    exact .pure _ _ (hv n c _ hn this)
  · rw [if_neg hji]
    exact (hT.get j hj).mono hle

theorem freeze_row {P : Program} {N : Nat} {code : Code} {e : Env} {h : AH} {Q : Post} {b : Nat} {r : List Int} (i n : Nat) (c : Cp) (hb : h.f b = some (r.map (AV.int .i64))) (hi : lk e i = .bsl b 0 n c) (hn : n = r.length)
    (hg : Good P N code (e.put i (rowV r)) (h.rm b) Q) : Good P N code e h Q := by
  refine good_freeze i n c hb (pur_ints r) (one_ints r) hi (by simp [hn]) ?_
  rw [roL_ints, hn, List.take_of_length_le (by simp)]
  exact hg
theorem mk_rm (h : AH) (x : List AV) : (h.mk_ x).rm h.n = { h with f := upd h.f h.n none, n := h.n + 1 } := AH.ext_ (fun b => by simp only [AH.rm, AH.mk_, upd]; split <;> rfl) rfl (fun _ => rfl) rfl
theorem Ext.rm_new {h H : AH} (he : Ext h H) (x : List AV) : Ext h ((H.mk_ x).rm H.n) := (he.mk_ x).rm he.n
theorem freeze_reg {P : Program} {N : Nat} {id : Nat} {ops : Array Oper} {d : Bool} {e : Env} {h : AH} {Q : Post} {b : Nat} {r : List Int} (i n : Nat) (c : Cp) (hb : h.f b = some (r.map (AV.int .i64))) (hi : lk e i = .bsl b 0 n c) (hn : n = r.length)
    (hg : Good P N (.region id ops d) (e.put i (rowV r)) (h.rm b) Q) : Good P N (.region id ops d) e h Q := freeze_row i n c hb hi hn hg
theorem getD_set (l : List Int) (j : Nat) (v : Int) (hj : j < l.length) : (l.set j v).getD j 0 = v := by simp [List.getD_eq_getElem?_getD, hj]
end Go.Eng
/- Facts on types of the seat Ytgfhddockofdnaa. -/
set_option linter.unusedVariables false
set_option linter.unusedSimpArgs false
namespace Go.Eng
open Go.Proofs
theorem szT_0 : szT Go.Proofs.Try.prog 0 = some 1 := by kernel_rfl
theorem byT_0 : byT Go.Proofs.Try.prog 0 = some 0 := by kernel_rfl
theorem agT_0 : agT Go.Proofs.Try.prog 0 = some false := by kernel_rfl
theorem knT_0 : knT Go.Proofs.Try.prog 0 = some 4 := by kernel_rfl
theorem szT_2 : szT Go.Proofs.Try.prog 2 = some 1 := by kernel_rfl
theorem byT_2 : byT Go.Proofs.Try.prog 2 = some 8 := by kernel_rfl
theorem agT_2 : agT Go.Proofs.Try.prog 2 = some false := by kernel_rfl
theorem knT_2 : knT Go.Proofs.Try.prog 2 = some 1 := by kernel_rfl
theorem kdT_2 : kdT Go.Proofs.Try.prog 2 = some IntKind.i64 := by kernel_rfl
theorem zrT_2 : zrT Go.Proofs.Try.prog 2 = some (AV.int IntKind.i64 0) := by kernel_rfl
theorem szT_3 : szT Go.Proofs.Try.prog 3 = some 1 := by kernel_rfl
theorem byT_3 : byT Go.Proofs.Try.prog 3 = some 8 := by kernel_rfl
theorem agT_3 : agT Go.Proofs.Try.prog 3 = some false := by kernel_rfl
theorem knT_3 : knT Go.Proofs.Try.prog 3 = some 1 := by kernel_rfl
theorem kdT_3 : kdT Go.Proofs.Try.prog 3 = some IntKind.i64 := by kernel_rfl
theorem zrT_3 : zrT Go.Proofs.Try.prog 3 = some (AV.int IntKind.i64 0) := by kernel_rfl
theorem szT_4 : szT Go.Proofs.Try.prog 4 = some 1 := by kernel_rfl
theorem byT_4 : byT Go.Proofs.Try.prog 4 = some 1 := by kernel_rfl
theorem agT_4 : agT Go.Proofs.Try.prog 4 = some false := by kernel_rfl
theorem knT_4 : knT Go.Proofs.Try.prog 4 = some 0 := by kernel_rfl
theorem zrT_4 : zrT Go.Proofs.Try.prog 4 = some (AV.bool false) := by kernel_rfl
theorem szT_5 : szT Go.Proofs.Try.prog 5 = some 1 := by kernel_rfl
theorem byT_5 : byT Go.Proofs.Try.prog 5 = some 1 := by kernel_rfl
theorem agT_5 : agT Go.Proofs.Try.prog 5 = some false := by kernel_rfl
theorem knT_5 : knT Go.Proofs.Try.prog 5 = some 1 := by kernel_rfl
theorem kdT_5 : kdT Go.Proofs.Try.prog 5 = some IntKind.u8 := by kernel_rfl
theorem zrT_5 : zrT Go.Proofs.Try.prog 5 = some (AV.int IntKind.u8 0) := by kernel_rfl
theorem szT_22 : szT Go.Proofs.Try.prog 22 = some 1 := by kernel_rfl
theorem byT_22 : byT Go.Proofs.Try.prog 22 = some 24 := by kernel_rfl
theorem agT_22 : agT Go.Proofs.Try.prog 22 = some false := by kernel_rfl
theorem elT_22 : elT Go.Proofs.Try.prog 22 = some 46 := by kernel_rfl
theorem knT_22 : knT Go.Proofs.Try.prog 22 = some 3 := by kernel_rfl
theorem zrT_22 : zrT Go.Proofs.Try.prog 22 = some AV.nils := by kernel_rfl
theorem szT_23 : szT Go.Proofs.Try.prog 23 = some 1 := by kernel_rfl
theorem byT_23 : byT Go.Proofs.Try.prog 23 = some 24 := by kernel_rfl
theorem agT_23 : agT Go.Proofs.Try.prog 23 = some false := by kernel_rfl
theorem elT_23 : elT Go.Proofs.Try.prog 23 = some 84 := by kernel_rfl
theorem knT_23 : knT Go.Proofs.Try.prog 23 = some 3 := by kernel_rfl
theorem zrT_23 : zrT Go.Proofs.Try.prog 23 = some AV.nils := by kernel_rfl
theorem szT_24 : szT Go.Proofs.Try.prog 24 = some 3 := by kernel_rfl
theorem byT_24 : byT Go.Proofs.Try.prog 24 = some 32 := by kernel_rfl
theorem agT_24 : agT Go.Proofs.Try.prog 24 = some true := by kernel_rfl
theorem knT_24 : knT Go.Proofs.Try.prog 24 = some 4 := by kernel_rfl
theorem zrT_24 : zrT Go.Proofs.Try.prog 24 = some (AV.agg [AV.int IntKind.u8 0, AV.int IntKind.u8 0, AV.nils]) := by kernel_rfl
theorem szT_25 : szT Go.Proofs.Try.prog 25 = some 3 := by kernel_rfl
theorem byT_25 : byT Go.Proofs.Try.prog 25 = some 32 := by kernel_rfl
theorem agT_25 : agT Go.Proofs.Try.prog 25 = some true := by kernel_rfl
theorem knT_25 : knT Go.Proofs.Try.prog 25 = some 4 := by kernel_rfl
theorem zrT_25 : zrT Go.Proofs.Try.prog 25 = some (AV.agg [AV.int IntKind.u8 0, AV.int IntKind.u8 0, AV.nils]) := by kernel_rfl
theorem szT_30 : szT Go.Proofs.Try.prog 30 = some 1 := by kernel_rfl
theorem byT_30 : byT Go.Proofs.Try.prog 30 = some 8 := by kernel_rfl
theorem agT_30 : agT Go.Proofs.Try.prog 30 = some false := by kernel_rfl
theorem knT_30 : knT Go.Proofs.Try.prog 30 = some 1 := by kernel_rfl
theorem kdT_30 : kdT Go.Proofs.Try.prog 30 = some IntKind.i64 := by kernel_rfl
theorem zrT_30 : zrT Go.Proofs.Try.prog 30 = some (AV.int IntKind.i64 0) := by kernel_rfl
theorem szT_35 : szT Go.Proofs.Try.prog 35 = some 1 := by kernel_rfl
theorem byT_35 : byT Go.Proofs.Try.prog 35 = some 2 := by kernel_rfl
theorem agT_35 : agT Go.Proofs.Try.prog 35 = some false := by kernel_rfl
theorem knT_35 : knT Go.Proofs.Try.prog 35 = some 1 := by kernel_rfl
theorem kdT_35 : kdT Go.Proofs.Try.prog 35 = some IntKind.u16 := by kernel_rfl
theorem zrT_35 : zrT Go.Proofs.Try.prog 35 = some (AV.int IntKind.u16 0) := by kernel_rfl
theorem szT_38 : szT Go.Proofs.Try.prog 38 = some 1 := by kernel_rfl
theorem byT_38 : byT Go.Proofs.Try.prog 38 = some 24 := by kernel_rfl
theorem agT_38 : agT Go.Proofs.Try.prog 38 = some false := by kernel_rfl
theorem elT_38 : elT Go.Proofs.Try.prog 38 = some 3 := by kernel_rfl
theorem knT_38 : knT Go.Proofs.Try.prog 38 = some 3 := by kernel_rfl
theorem zrT_38 : zrT Go.Proofs.Try.prog 38 = some AV.nils := by kernel_rfl
theorem szT_46 : szT Go.Proofs.Try.prog 46 = some 1 := by kernel_rfl
theorem byT_46 : byT Go.Proofs.Try.prog 46 = some 24 := by kernel_rfl
theorem agT_46 : agT Go.Proofs.Try.prog 46 = some false := by kernel_rfl
theorem elT_46 : elT Go.Proofs.Try.prog 46 = some 2 := by kernel_rfl
theorem knT_46 : knT Go.Proofs.Try.prog 46 = some 3 := by kernel_rfl
theorem zrT_46 : zrT Go.Proofs.Try.prog 46 = some AV.nils := by kernel_rfl
theorem szT_57 : szT Go.Proofs.Try.prog 57 = some 1 := by kernel_rfl
theorem byT_57 : byT Go.Proofs.Try.prog 57 = some 8 := by kernel_rfl
theorem agT_57 : agT Go.Proofs.Try.prog 57 = some false := by kernel_rfl
theorem knT_57 : knT Go.Proofs.Try.prog 57 = some 4 := by kernel_rfl
theorem zrT_57 : zrT Go.Proofs.Try.prog 57 = some AV.nilp := by kernel_rfl
theorem szT_58 : szT Go.Proofs.Try.prog 58 = some 2 := by kernel_rfl
theorem byT_58 : byT Go.Proofs.Try.prog 58 = some 32 := by kernel_rfl
theorem agT_58 : agT Go.Proofs.Try.prog 58 = some true := by kernel_rfl
theorem knT_58 : knT Go.Proofs.Try.prog 58 = some 4 := by kernel_rfl
theorem zrT_58 : zrT Go.Proofs.Try.prog 58 = some (AV.agg [AV.nils, AV.int IntKind.i64 0]) := by kernel_rfl
theorem szT_59 : szT Go.Proofs.Try.prog 59 = some 2 := by kernel_rfl
theorem byT_59 : byT Go.Proofs.Try.prog 59 = some 32 := by kernel_rfl
theorem agT_59 : agT Go.Proofs.Try.prog 59 = some true := by kernel_rfl
theorem knT_59 : knT Go.Proofs.Try.prog 59 = some 4 := by kernel_rfl
theorem zrT_59 : zrT Go.Proofs.Try.prog 59 = some (AV.agg [AV.nils, AV.int IntKind.i64 0]) := by kernel_rfl
theorem szT_61 : szT Go.Proofs.Try.prog 61 = some 1 := by kernel_rfl
theorem byT_61 : byT Go.Proofs.Try.prog 61 = some 24 := by kernel_rfl
theorem agT_61 : agT Go.Proofs.Try.prog 61 = some false := by kernel_rfl
theorem elT_61 : elT Go.Proofs.Try.prog 61 = some 4 := by kernel_rfl
theorem knT_61 : knT Go.Proofs.Try.prog 61 = some 3 := by kernel_rfl
theorem zrT_61 : zrT Go.Proofs.Try.prog 61 = some AV.nils := by kernel_rfl
theorem szT_70 : szT Go.Proofs.Try.prog 70 = some 1 := by kernel_rfl
theorem byT_70 : byT Go.Proofs.Try.prog 70 = some 24 := by kernel_rfl
theorem agT_70 : agT Go.Proofs.Try.prog 70 = some false := by kernel_rfl
theorem elT_70 : elT Go.Proofs.Try.prog 70 = some 74 := by kernel_rfl
theorem knT_70 : knT Go.Proofs.Try.prog 70 = some 3 := by kernel_rfl
theorem zrT_70 : zrT Go.Proofs.Try.prog 70 = some AV.nils := by kernel_rfl
theorem szT_74 : szT Go.Proofs.Try.prog 74 = some 1 := by kernel_rfl
theorem byT_74 : byT Go.Proofs.Try.prog 74 = some 24 := by kernel_rfl
theorem agT_74 : agT Go.Proofs.Try.prog 74 = some false := by kernel_rfl
theorem elT_74 : elT Go.Proofs.Try.prog 74 = some 77 := by kernel_rfl
theorem knT_74 : knT Go.Proofs.Try.prog 74 = some 3 := by kernel_rfl
theorem zrT_74 : zrT Go.Proofs.Try.prog 74 = some AV.nils := by kernel_rfl
theorem szT_75 : szT Go.Proofs.Try.prog 75 = some 1 := by kernel_rfl
theorem byT_75 : byT Go.Proofs.Try.prog 75 = some 24 := by kernel_rfl
theorem agT_75 : agT Go.Proofs.Try.prog 75 = some false := by kernel_rfl
theorem elT_75 : elT Go.Proofs.Try.prog 75 = some 95 := by kernel_rfl
theorem knT_75 : knT Go.Proofs.Try.prog 75 = some 3 := by kernel_rfl
theorem zrT_75 : zrT Go.Proofs.Try.prog 75 = some AV.nils := by kernel_rfl
theorem szT_76 : szT Go.Proofs.Try.prog 76 = some 2 := by kernel_rfl
theorem byT_76 : byT Go.Proofs.Try.prog 76 = some 32 := by kernel_rfl
theorem agT_76 : agT Go.Proofs.Try.prog 76 = some true := by kernel_rfl
theorem knT_76 : knT Go.Proofs.Try.prog 76 = some 4 := by kernel_rfl
theorem zrT_76 : zrT Go.Proofs.Try.prog 76 = some (AV.agg [AV.bool false, AV.nils]) := by kernel_rfl
theorem szT_77 : szT Go.Proofs.Try.prog 77 = some 2 := by kernel_rfl
theorem byT_77 : byT Go.Proofs.Try.prog 77 = some 32 := by kernel_rfl
theorem agT_77 : agT Go.Proofs.Try.prog 77 = some true := by kernel_rfl
theorem knT_77 : knT Go.Proofs.Try.prog 77 = some 4 := by kernel_rfl
theorem zrT_77 : zrT Go.Proofs.Try.prog 77 = some (AV.agg [AV.bool false, AV.nils]) := by kernel_rfl
theorem szT_84 : szT Go.Proofs.Try.prog 84 = some 1 := by kernel_rfl
theorem byT_84 : byT Go.Proofs.Try.prog 84 = some 1 := by kernel_rfl
theorem agT_84 : agT Go.Proofs.Try.prog 84 = some false := by kernel_rfl
theorem knT_84 : knT Go.Proofs.Try.prog 84 = some 1 := by kernel_rfl
theorem kdT_84 : kdT Go.Proofs.Try.prog 84 = some IntKind.i8 := by kernel_rfl
theorem zrT_84 : zrT Go.Proofs.Try.prog 84 = some (AV.int IntKind.i8 0) := by kernel_rfl
theorem szT_95 : szT Go.Proofs.Try.prog 95 = some 1 := by kernel_rfl
theorem byT_95 : byT Go.Proofs.Try.prog 95 = some 4 := by kernel_rfl
theorem agT_95 : agT Go.Proofs.Try.prog 95 = some false := by kernel_rfl
theorem knT_95 : knT Go.Proofs.Try.prog 95 = some 1 := by kernel_rfl
theorem kdT_95 : kdT Go.Proofs.Try.prog 95 = some IntKind.u32 := by kernel_rfl
theorem zrT_95 : zrT Go.Proofs.Try.prog 95 = some (AV.int IntKind.u32 0) := by kernel_rfl
theorem szT_96 : szT Go.Proofs.Try.prog 96 = some 1 := by kernel_rfl
theorem byT_96 : byT Go.Proofs.Try.prog 96 = some 8 := by kernel_rfl
theorem agT_96 : agT Go.Proofs.Try.prog 96 = some false := by kernel_rfl
theorem knT_96 : knT Go.Proofs.Try.prog 96 = some 1 := by kernel_rfl
theorem kdT_96 : kdT Go.Proofs.Try.prog 96 = some IntKind.u64 := by kernel_rfl
theorem zrT_96 : zrT Go.Proofs.Try.prog 96 = some (AV.int IntKind.u64 0) := by kernel_rfl
theorem szT_97 : szT Go.Proofs.Try.prog 97 = some 1 := by kernel_rfl
theorem byT_97 : byT Go.Proofs.Try.prog 97 = some 8 := by kernel_rfl
theorem agT_97 : agT Go.Proofs.Try.prog 97 = some false := by kernel_rfl
theorem knT_97 : knT Go.Proofs.Try.prog 97 = some 1 := by kernel_rfl
theorem kdT_97 : kdT Go.Proofs.Try.prog 97 = some IntKind.u64 := by kernel_rfl
theorem zrT_97 : zrT Go.Proofs.Try.prog 97 = some (AV.int IntKind.u64 0) := by kernel_rfl
theorem und_0 : (Go.Proofs.Try.prog.underlying 0).isSome = true := by kernel_rfl
theorem und_2 : (Go.Proofs.Try.prog.underlying 2).isSome = true := by kernel_rfl
theorem und_3 : (Go.Proofs.Try.prog.underlying 3).isSome = true := by kernel_rfl
theorem und_4 : (Go.Proofs.Try.prog.underlying 4).isSome = true := by kernel_rfl
theorem und_5 : (Go.Proofs.Try.prog.underlying 5).isSome = true := by kernel_rfl
theorem und_22 : (Go.Proofs.Try.prog.underlying 22).isSome = true := by kernel_rfl
theorem und_23 : (Go.Proofs.Try.prog.underlying 23).isSome = true := by kernel_rfl
theorem und_24 : (Go.Proofs.Try.prog.underlying 24).isSome = true := by kernel_rfl
theorem und_25 : (Go.Proofs.Try.prog.underlying 25).isSome = true := by kernel_rfl
theorem und_30 : (Go.Proofs.Try.prog.underlying 30).isSome = true := by kernel_rfl
theorem und_35 : (Go.Proofs.Try.prog.underlying 35).isSome = true := by kernel_rfl
theorem und_38 : (Go.Proofs.Try.prog.underlying 38).isSome = true := by kernel_rfl
theorem und_46 : (Go.Proofs.Try.prog.underlying 46).isSome = true := by kernel_rfl
theorem und_57 : (Go.Proofs.Try.prog.underlying 57).isSome = true := by kernel_rfl
theorem und_58 : (Go.Proofs.Try.prog.underlying 58).isSome = true := by kernel_rfl
theorem und_59 : (Go.Proofs.Try.prog.underlying 59).isSome = true := by kernel_rfl
theorem und_61 : (Go.Proofs.Try.prog.underlying 61).isSome = true := by kernel_rfl
theorem und_70 : (Go.Proofs.Try.prog.underlying 70).isSome = true := by kernel_rfl
theorem und_74 : (Go.Proofs.Try.prog.underlying 74).isSome = true := by kernel_rfl
theorem und_75 : (Go.Proofs.Try.prog.underlying 75).isSome = true := by kernel_rfl
theorem und_76 : (Go.Proofs.Try.prog.underlying 76).isSome = true := by kernel_rfl
theorem und_77 : (Go.Proofs.Try.prog.underlying 77).isSome = true := by kernel_rfl
theorem und_84 : (Go.Proofs.Try.prog.underlying 84).isSome = true := by kernel_rfl
theorem und_95 : (Go.Proofs.Try.prog.underlying 95).isSome = true := by kernel_rfl
theorem und_96 : (Go.Proofs.Try.prog.underlying 96).isSome = true := by kernel_rfl
theorem und_97 : (Go.Proofs.Try.prog.underlying 97).isSome = true := by kernel_rfl
theorem mixed : Go.Proofs.Try.prog.follows .mixedOrders = true := by kernel_rfl
theorem okF_15 : okF Go.Proofs.Try.prog 15 = true := by kernel_rfl
theorem okF_42 : okF Go.Proofs.Try.prog 42 = true := by kernel_rfl
theorem okF_48 : okF Go.Proofs.Try.prog 48 = true := by kernel_rfl
theorem okF_43 : okF Go.Proofs.Try.prog 43 = true := by kernel_rfl
theorem okF_47 : okF Go.Proofs.Try.prog 47 = true := by kernel_rfl
theorem okF_58 : okF Go.Proofs.Try.prog 58 = true := by kernel_rfl
theorem okF_59 : okF Go.Proofs.Try.prog 59 = true := by kernel_rfl
theorem okF_25 : okF Go.Proofs.Try.prog 25 = true := by kernel_rfl
theorem okF_19 : okF Go.Proofs.Try.prog 19 = true := by kernel_rfl
theorem okF_21 : okF Go.Proofs.Try.prog 21 = true := by kernel_rfl
theorem okF_45 : okF Go.Proofs.Try.prog 45 = true := by kernel_rfl
theorem okF_46 : okF Go.Proofs.Try.prog 46 = true := by kernel_rfl
theorem okF_49 : okF Go.Proofs.Try.prog 49 = true := by kernel_rfl
theorem okF_50 : okF Go.Proofs.Try.prog 50 = true := by kernel_rfl
theorem okF_23 : okF Go.Proofs.Try.prog 23 = true := by kernel_rfl
theorem okF_16 : okF Go.Proofs.Try.prog 16 = true := by kernel_rfl
theorem okF_40 : okF Go.Proofs.Try.prog 40 = true := by kernel_rfl
theorem okF_17 : okF Go.Proofs.Try.prog 17 = true := by kernel_rfl
theorem okF_41 : okF Go.Proofs.Try.prog 41 = true := by kernel_rfl
theorem okF_18 : okF Go.Proofs.Try.prog 18 = true := by kernel_rfl
theorem okF_36 : okF Go.Proofs.Try.prog 36 = true := by kernel_rfl
theorem okF_54 : okF Go.Proofs.Try.prog 54 = true := by kernel_rfl
theorem okF_83 : okF Go.Proofs.Try.prog 83 = true := by kernel_rfl
theorem okF_70 : okF Go.Proofs.Try.prog 70 = true := by kernel_rfl
theorem okF_44 : okF Go.Proofs.Try.prog 44 = true := by kernel_rfl
theorem okF_60 : okF Go.Proofs.Try.prog 60 = true := by kernel_rfl
theorem okF_61 : okF Go.Proofs.Try.prog 61 = true := by kernel_rfl
theorem okF_26 : okF Go.Proofs.Try.prog 26 = true := by kernel_rfl
theorem okF_20 : okF Go.Proofs.Try.prog 20 = true := by kernel_rfl
theorem okF_3 : okF Go.Proofs.Try.prog 3 = true := by kernel_rfl
theorem okF_22 : okF Go.Proofs.Try.prog 22 = true := by kernel_rfl
theorem okF_89 : okF Go.Proofs.Try.prog 89 = true := by kernel_rfl
theorem okF_81 : okF Go.Proofs.Try.prog 81 = true := by kernel_rfl
theorem okF_82 : okF Go.Proofs.Try.prog 82 = true := by kernel_rfl
theorem okF_57 : okF Go.Proofs.Try.prog 57 = true := by kernel_rfl
theorem okF_90 : okF Go.Proofs.Try.prog 90 = true := by kernel_rfl
theorem okF_79 : okF Go.Proofs.Try.prog 79 = true := by kernel_rfl
theorem okF_86 : okF Go.Proofs.Try.prog 86 = true := by kernel_rfl
theorem okF_77 : okF Go.Proofs.Try.prog 77 = true := by kernel_rfl
theorem okF_95 : okF Go.Proofs.Try.prog 95 = true := by kernel_rfl
theorem okF_96 : okF Go.Proofs.Try.prog 96 = true := by kernel_rfl
theorem okF_97 : okF Go.Proofs.Try.prog 97 = true := by kernel_rfl
theorem okF_93 : okF Go.Proofs.Try.prog 93 = true := by kernel_rfl
theorem okF_88 : okF Go.Proofs.Try.prog 88 = true := by kernel_rfl
theorem okF_98 : okF Go.Proofs.Try.prog 98 = true := by kernel_rfl
theorem okF_94 : okF Go.Proofs.Try.prog 94 = true := by kernel_rfl
theorem okF_91 : okF Go.Proofs.Try.prog 91 = true := by kernel_rfl
theorem okF_80 : okF Go.Proofs.Try.prog 80 = true := by kernel_rfl
theorem okF_55 : okF Go.Proofs.Try.prog 55 = true := by kernel_rfl
theorem okF_62 : okF Go.Proofs.Try.prog 62 = true := by kernel_rfl
theorem okF_63 : okF Go.Proofs.Try.prog 63 = true := by kernel_rfl
theorem okF_73 : okF Go.Proofs.Try.prog 73 = true := by kernel_rfl
theorem okF_78 : okF Go.Proofs.Try.prog 78 = true := by kernel_rfl
theorem okF_53 : okF Go.Proofs.Try.prog 53 = true := by kernel_rfl
theorem okF_56 : okF Go.Proofs.Try.prog 56 = true := by kernel_rfl
theorem okF_92 : okF Go.Proofs.Try.prog 92 = true := by kernel_rfl
theorem okF_85 : okF Go.Proofs.Try.prog 85 = true := by kernel_rfl
theorem okF_87 : okF Go.Proofs.Try.prog 87 = true := by kernel_rfl
theorem okF_74 : okF Go.Proofs.Try.prog 74 = true := by kernel_rfl
theorem okF_64 : okF Go.Proofs.Try.prog 64 = true := by kernel_rfl
theorem okF_31 : okF Go.Proofs.Try.prog 31 = true := by kernel_rfl
theorem okF_71 : okF Go.Proofs.Try.prog 71 = true := by kernel_rfl
theorem okF_51 : okF Go.Proofs.Try.prog 51 = true := by kernel_rfl
theorem okF_84 : okF Go.Proofs.Try.prog 84 = true := by kernel_rfl
theorem okF_72 : okF Go.Proofs.Try.prog 72 = true := by kernel_rfl
theorem okF_75 : okF Go.Proofs.Try.prog 75 = true := by kernel_rfl
theorem okF_76 : okF Go.Proofs.Try.prog 76 = true := by kernel_rfl
theorem okF_52 : okF Go.Proofs.Try.prog 52 = true := by kernel_rfl
theorem okF_24 : okF Go.Proofs.Try.prog 24 = true := by kernel_rfl
theorem okF_4 : okF Go.Proofs.Try.prog 4 = true := by kernel_rfl
theorem okF_27 : okF Go.Proofs.Try.prog 27 = true := by kernel_rfl
theorem okF_5 : okF Go.Proofs.Try.prog 5 = true := by kernel_rfl
theorem okF_28 : okF Go.Proofs.Try.prog 28 = true := by kernel_rfl
theorem okF_29 : okF Go.Proofs.Try.prog 29 = true := by kernel_rfl
theorem okF_6 : okF Go.Proofs.Try.prog 6 = true := by kernel_rfl
theorem okF_30 : okF Go.Proofs.Try.prog 30 = true := by kernel_rfl
theorem okF_7 : okF Go.Proofs.Try.prog 7 = true := by kernel_rfl
theorem okF_65 : okF Go.Proofs.Try.prog 65 = true := by kernel_rfl
theorem okF_32 : okF Go.Proofs.Try.prog 32 = true := by kernel_rfl
theorem okF_66 : okF Go.Proofs.Try.prog 66 = true := by kernel_rfl
theorem okF_33 : okF Go.Proofs.Try.prog 33 = true := by kernel_rfl
theorem okF_8 : okF Go.Proofs.Try.prog 8 = true := by kernel_rfl
theorem okF_34 : okF Go.Proofs.Try.prog 34 = true := by kernel_rfl
theorem okF_67 : okF Go.Proofs.Try.prog 67 = true := by kernel_rfl
theorem okF_35 : okF Go.Proofs.Try.prog 35 = true := by kernel_rfl
theorem okF_9 : okF Go.Proofs.Try.prog 9 = true := by kernel_rfl
theorem okF_10 : okF Go.Proofs.Try.prog 10 = true := by kernel_rfl
theorem okF_37 : okF Go.Proofs.Try.prog 37 = true := by kernel_rfl
theorem okF_11 : okF Go.Proofs.Try.prog 11 = true := by kernel_rfl
theorem okF_68 : okF Go.Proofs.Try.prog 68 = true := by kernel_rfl
theorem okF_38 : okF Go.Proofs.Try.prog 38 = true := by kernel_rfl
theorem okF_39 : okF Go.Proofs.Try.prog 39 = true := by kernel_rfl
theorem okF_12 : okF Go.Proofs.Try.prog 12 = true := by kernel_rfl
theorem okF_13 : okF Go.Proofs.Try.prog 13 = true := by kernel_rfl
theorem okF_14 : okF Go.Proofs.Try.prog 14 = true := by kernel_rfl
end Go.Eng
