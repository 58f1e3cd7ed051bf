/- An engine, part 7: what a frame's slots hold; contracts of functions; rows of operations. Over any program. -/
import Derived.Test.YtgfhddockofdnaaE6
set_option linter.unusedVariables false
set_option linter.unusedSimpArgs false
namespace Go.Eng
open Go.RowKit (Below)

/-- What is known of a frame's slots. -/
abbrev Env := List (Nat × AV)
def lk : Env → Nat → AV
  | [], _ => .junk
  | (j, v) :: r, i => if j = i then v else lk r i
def Env.put : Env → Nat → AV → Env
  | [], i, v => [(i, v)]
  | (j, u) :: r, i, v => if j = i then (i, v) :: r else (j, u) :: Env.put r i v
def putE (d : Option Tmp) (v : AV) (e : Env) : Env := match d with
  | some d => e.put d v
  | none => e

theorem lk_put (v : AV) : ∀ (e : Env) (i j : Nat), lk (e.put i v) j = if j = i then v else lk e j
  | [], i, j => by
    simp only [Env.put, lk]
    by_cases h : j = i
    · subst h; simp
    · rw [if_neg (Ne.symm h), if_neg h]
  | (k, u) :: r, i, j => by
    simp only [Env.put]
    by_cases hk : k = i
    · subst hk
      rw [if_pos rfl]
      simp only [lk]
      by_cases h : j = k
      · subst h; simp
      · rw [if_neg (Ne.symm h), if_neg h, if_neg (Ne.symm h)]
    · rw [if_neg hk]
      simp only [lk]
      by_cases h : k = j
      · subst h
        rw [if_pos rfl, if_neg hk, if_pos rfl]
      · rw [if_neg h, if_neg h]
        exact lk_put v r i j

/-- A frame's slots. -/
structure RT (ρ : Ip) (N : Nat) (e : Env) (a : Act) : Prop where
  size : a.tmps.size = N
  get : ∀ i, i < N → RV ρ (lk e i) (a.tmps.getD i undef)
  defers : a.defers = []

theorem RT.mono {ρ ρ' : Ip} (hp : ρ.Le ρ') {N : Nat} {e : Env} {a : Act} (h : RT ρ N e a) : RT ρ' N e a := ⟨h.size, fun i hi => (h.get i hi).mono hp, h.defers⟩

theorem RT.put {ρ : Ip} {N : Nat} {e : Env} {a : Act} (h : RT ρ N e a) (d : Option Tmp) {v : AV} {vc : Value} (hv : RV ρ v vc) : RT ρ N (putE d v e) (a.put d vc) := by
  cases d with
  | none => exact h
  | some d =>
    refine ⟨by simp [Act.put, h.size], fun i hi => ?_, h.defers⟩
    simp only [putE, lk_put, Act.put]
    have hs : i < a.tmps.size := by rw [h.size]; exact hi
    by_cases hid : i = d
    · subst hid
      rw [if_pos rfl, Array.getD_eq_getD_getElem?, Array.getElem?_setIfInBounds_self_of_lt hs]
      exact hv
    · rw [if_neg hid, Array.getD_eq_getD_getElem?, Array.getElem?_setIfInBounds_ne (Ne.symm hid), ← Array.getD_eq_getD_getElem?]
      exact h.get i hi

/-- Less is known. -/
def Weak (e' e : Env) : Prop := ∀ i, lk e' i = .junk ∨ lk e' i = lk e i
def Env.holds : Env → Env → Prop
  | [], _ => True
  | (i, v) :: r, e => lk e i = v ∧ Env.holds r e
theorem Env.holds_weak : ∀ {e' e : Env}, Env.holds e' e → Weak e' e
  | [], e, _ => fun i => .inl rfl
  | (j, v) :: r, e, h => fun i => by
    simp only [lk]
    by_cases hj : j = i
    · subst hj
      right
      simp [h.1]
    · rw [if_neg hj]
      exact Env.holds_weak h.2 i
theorem RT.weak {ρ : Ip} {N : Nat} {e e' : Env} {a : Act} (h : RT ρ N e a) (hw : Weak e' e) : RT ρ N e' a :=
  ⟨h.size, fun i hi => by
    rcases hw i with h1 | h1
    · rw [h1]; exact .junk _
    · rw [h1]; exact h.get i hi, h.defers⟩

/-- Lists of values. -/
def RL (ρ : Ip) (vs : List AV) (cs : Array Value) : Prop := vs.length = cs.size ∧ ∀ i (h : i < vs.length), RV ρ vs[i] (cs.getD i undef)

def retOf (ρ : Ip) (R : AV → AH → Prop) : Ending → World → Prop
  | .returned vc, w' => ∃ ρ' v h', ρ.Le ρ' ∧ RH ρ' h' w' ∧ RV ρ' v vc ∧ R v h'
  | _, _ => False

/-- What a function does to abstract values. -/
def ACalls (P : Program) (f : FuncId) (args : List AV) (h : AH) (R : AV → AH → Prop) : Prop :=
  ∀ (ρ : Ip) (w : World) (argc : Array Value), RH ρ h w → RL ρ args argc → Calls P f argc w (retOf ρ R)

theorem ACalls.mono {P : Program} {f : FuncId} {args : List AV} {h : AH} {R R' : AV → AH → Prop} (hc : ACalls P f args h R) (hr : ∀ v h', R v h' → R' v h') : ACalls P f args h R' :=
  fun ρ w argc hR hL => Calls.mono (hc ρ w argc hR hL) fun e w' he => by
    cases e with
    | returned vc =>
      obtain ⟨ρ', v, h', h1, h2, h3, h4⟩ := he
      exact ⟨ρ', v, h', h1, h2, h3, hr v h' h4⟩
    | panicked c => exact he
    | outgrown => exact he

@[congr] theorem ACalls.congr_ {P : Program} {f : FuncId} {args args' : List AV} {h h' : AH} {R : AV → AH → Prop} (h1 : args = args') (h2 : h = h') : ACalls P f args h R = ACalls P f args' h' R := by rw [h1, h2]

def okF (P : Program) (f : FuncId) : Bool := match P.funcs[f]? with
  | some fn => !(fn.name == "runtime.NumGoroutine") && fn.body.isSome
  | none => false

theorem run_callFunc_enter {P : Program} {f : FuncId} (h : okF P f = true) (args : Array Value) (w : World) : (callFunc f args).run P w = .ok (.enter f args) w := by
  unfold okF at h
  split at h
  · rename_i fn hf
    simp only [Bool.and_eq_true, Bool.not_eq_true'] at h
    have hb : fn.body.isNone = false := by
      cases hq : fn.body with
      | none => rw [hq] at h; simp at h
      | some _ => rfl
    simp only [callFunc, program, Sem.run_bind, Sem.run, Result.andThen_ok, hf, h.1, hb]
    rfl
  · cases h

/-- A call of a value that is a function. -/
def callW (P : Program) (x : AV) (args : List AV) (h : AH) (K : AV → AH → Prop) : Prop := match x with
  | .func (.func f) fst cap => okF P f = true ∧ ACalls P f (fst ++ args ++ cap) h K
  | _ => False

def stepW (P : Program) (bl : Bool) (op : Op) (e : Operand → AV) (h : AH) (K : AV → AH → Prop) : Prop := match op with
  | .call c => (match c.callee with
    | .value x => callW P (e x) (c.args.toList.map e) h K
    | _ => opW P bl (.call c) e h K)
  | op => opW P bl op e h K

/-- Are the slots there? -/
def opndOk (N : Nat) : Operand → Bool
  | .tmp i => decide (i < N)
  | _ => true
def operOk (N : Nat) (o : Oper) : Bool := o.op.operands.toList.all (opndOk N) && (match o.dst with
  | some d => decide (d < N)
  | none => true)

theorem RL.app {ρ : Ip} {xs ys : List AV} {as bs : Array Value} (hx : RL ρ xs as) (hy : RL ρ ys bs) : RL ρ (xs ++ ys) (as ++ bs) := by
  refine ⟨by simp [hx.1, hy.1], fun i hi => ?_⟩
  rw [Array.getD_eq_getD_getElem?]
  by_cases h : i < xs.length
  · rw [List.getElem_append_left h, Array.getElem?_append_left (by rw [← hx.1]; exact h), ← Array.getD_eq_getD_getElem?]
    exact hx.2 i h
  · have h' : i - xs.length < ys.length := by simp at hi; omega
    rw [List.getElem_append_right (by omega), Array.getElem?_append_right (by rw [← hx.1]; omega), ← hx.1, ← Array.getD_eq_getD_getElem?]
    exact hy.2 _ h'

theorem step_sound {P : Program} {bl : Bool} {o : Oper} {N : Nat} {t : Nat → AV} {a : Act} {ρ : Ip} {h : AH} {w : World} {K : AV → AH → Prop} {Q : Exit → Act → World → Prop} {next : Act → World → Prop}
    (hw : stepW P bl o.op (evA t) h K) (hR : RH ρ h w) (hsz : a.tmps.size = N) (hts : ∀ i, i < a.tmps.size → RV ρ (t i) (a.tmps.getD i undef)) (hok : operOk N o = true)
    (hn : ∀ v vc ρ' h' w', ρ.Le ρ' → RH ρ' h' w' → RV ρ' v vc → K v h' → next (a.put o.dst vc) w') : o.wp P a w next Q := by
  have hop : ∀ x ∈ o.op.operands, ∀ i, x = Operand.tmp i → i < N := fun x hx i hi => by
    simp only [operOk, Bool.and_eq_true, List.all_eq_true] at hok
    have := hok.1 x (Array.mem_toList_iff.2 hx)
    subst hi
    simpa [opndOk] using this
  have main : opW P bl o.op (evA t) h K → o.wp P a w next Q := fun hw => by
    obtain ⟨w', vc, ρ', v, h', hr, hle, hR', hv, hK⟩ := op_sound hw hR hts (fun x hx i hi => by rw [hsz]; exact hop x hx i hi)
    rcases hr with hr | ⟨hr, rfl⟩
    · unfold Oper.wp; rw [hr]; exact hn v vc ρ' h' w' hle hR' hv hK
    · unfold Oper.wp; rw [hr]; exact hn v undef ρ' h' w' hle hR' hv hK
  unfold stepW at hw
  split at hw
  · rename_i c hc
    split at hw
    · rename_i x hx
      unfold callW at hw
      split at hw
      · rename_i f fst cap hf
        obtain ⟨hok', hA⟩ := hw
        have hxv : RV ρ (evA t x) (a.eval x) := evA_sound hts (fun i hi => by
          rw [hsz]
          refine hop x ?_ i hi
          rw [hc]
          simp [Op.operands, Call.operands, hx])
        rw [hf] at hxv
        obtain ⟨vf, vb, he, h1, h2, h3, h4⟩ := inv_func hxv
        have hargs : RL ρ (c.args.toList.map (evA t)) (c.args.map a.eval) := ⟨by simp, fun i hi => by
          have hi' : i < c.args.size := by simpa using hi
          rw [List.getElem_map, Array.getD_eq_getD_getElem?, Array.getElem?_map, Array.getElem?_eq_getElem hi']
          simp only [Option.map_some, Option.getD_some, Array.getElem_toList]
          refine evA_sound hts (fun j hj => ?_)
          rw [hsz]
          refine hop c.args[i] ?_ j hj
          rw [hc]
          simp only [Op.operands, Call.operands]
          exact Array.mem_append_right _ (Array.getElem_mem hi')⟩
        have hL := (RL.app (RL.app ⟨h1, h3⟩ hargs) ⟨h2, h4⟩)
        have hc' := hA ρ w _ hR hL
        have hrun : (execOp a.eval o).run P w = .ok (.enter f (vf ++ c.args.map a.eval ++ vb)) w := by
          simp only [execOp, hc, resolve, hx, he, Deferred.ofValue, Sem.run_bind, Sem.run_pure, Result.andThen_ok, invoke, run_callFunc_enter hok']
        unfold Oper.wp
        rw [hrun]
        show Calls P f _ w _
        refine Calls.mono hc' fun en w' hen => ?_
        cases en with
        | returned vc =>
          obtain ⟨ρ', v, h', k1, k2, k3, k4⟩ := hen
          exact hn v vc ρ' h' w' k1 k2 k3 k4
        | panicked c => exact hen.elim
        | outgrown => exact hen.elim
      · exact hw.elim
    · exact main (by rw [hc]; exact hw)
  · exact main hw

/-- The slot on which an operation waits. -/
def dstAt : List Oper → Nat → Option Tmp
  | [], _ => none
  | o :: _, 0 => o.dst
  | _ :: r, n + 1 => dstAt r n
theorem dstAt_eq : ∀ (l : List Oper) (j : Nat), dstAt l j = (l[j]?).bind (·.dst)
  | [], j => rfl
  | o :: _, 0 => rfl
  | _ :: r, n + 1 => by simp only [dstAt, List.getElem?_cons_succ]; exact dstAt_eq r n

def guardW (e : Env) (ops : List Oper) (g : Option (Nat × Bool)) (run skip : Env → Prop) : Prop := match g with
  | none => run e
  | some (j, b) => match dstAt ops j with
    | none => skip e
    | some d => match lk e d with
      | .bool c => gifW c b (run (e.put d (.bool b))) (skip (e.put d (.bool (!b))))
      | .tup [] => skip e
      | _ => False

theorem put_weak {e : Env} {d : Nat} {v : AV} (h : lk e d = v) : Weak (e.put d v) e := fun i => by
  right
  rw [lk_put]
  split
  · rename_i hi; rw [hi, h]
  · rfl

theorem guard_sound {e : Env} {ops : Array Oper} {o : Oper} {run skip : Env → Prop} {ρ : Ip} {N : Nat} {a : Act} (hg : guardW e ops.toList o.guard run skip) (hT : RT ρ N e a) (hok : ∀ o ∈ ops.toList, operOk N o = true) :
    ∃ e', RT ρ N e' a ∧ ((Region.wanted o (yielded ops a.tmps) = true ∧ run e') ∨ (Region.wanted o (yielded ops a.tmps) = false ∧ skip e')) := by
  unfold guardW at hg
  split at hg
  · rename_i hn
    exact ⟨e, hT, .inl ⟨by simp [Region.wanted, hn], hg⟩⟩
  · rename_i j b hn
    have hy : ∀ r, yielded ops a.tmps j = r → Region.wanted o (yielded ops a.tmps) = (r == some b) := fun r hr => by simp [Region.wanted, hn, hr]
    have hd : (ops[j]?).bind (·.dst) = dstAt ops.toList j := by rw [dstAt_eq]; simp
    split at hg
    · rename_i hn'
      refine ⟨e, hT, .inr ⟨?_, hg⟩⟩
      rw [hy none (by simp [yielded, hd, hn'])]; rfl
    · rename_i d hd'
      have hdN : d < N := by
        rw [dstAt_eq] at hd'
        obtain ⟨o', ho', hd''⟩ := Option.bind_eq_some_iff.1 hd'
        have := hok o' (List.mem_of_getElem? ho')
        simp only [operOk, hd'', Bool.and_eq_true, decide_eq_true_eq] at this
        exact this.2
      have hv := hT.get d hdN
      have hget : a.tmps[d]? = some (a.tmps.getD d undef) := by
        have : d < a.tmps.size := by rw [hT.size]; exact hdN
        simp [Array.getD, this]
      have hyd : yielded ops a.tmps j = match a.tmps.getD d undef with | .bool b => some b | _ => none := by
        simp only [yielded, hd, hd', Option.bind_some, hget]
        cases a.tmps.getD d undef <;> rfl
      split at hg
      · rename_i c hc
        rw [hc] at hv
        rw [inv_bool hv] at hyd
        by_cases hcb : c = b
        · refine ⟨_, hT.weak (put_weak (by rw [hc, hcb])), .inl ⟨?_, hg.1 hcb⟩⟩
          rw [hy _ hyd, hcb]; simp
        · refine ⟨_, hT.weak (put_weak (by rw [hc]; congr 1; revert hcb; cases c <;> cases b <;> simp)), .inr ⟨?_, hg.2 (by revert hcb; cases c <;> cases b <;> simp)⟩⟩
          rw [hy _ hyd]; simpa using hcb
      · rename_i hc
        rw [hc] at hv
        obtain ⟨vs, hvs, hl, -⟩ := inv_tup hv
        rw [hvs] at hyd
        refine ⟨e, hT, .inr ⟨?_, hg⟩⟩
        rw [hy none hyd]; rfl
      · exact hg.elim

def runL (P : Program) (bl : Bool) (ops : List Oper) : List Oper → Env → AH → (Env → AH → Prop) → Prop
  | [], e, h, K => K e h
  | o :: r, e, h, K => guardW e ops o.guard (fun e => stepW P bl o.op (evA (lk e)) h fun v h' => runL P bl ops r (putE o.dst v e) h' K) (fun e => runL P bl ops r (putE o.dst (.tup []) e) h K)

theorem runL_sound {P : Program} {bl : Bool} {ops : Array Oper} {N : Nat} {K : Env → AH → Prop} {Q : Exit → Act → World → Prop} (hok : ∀ o ∈ ops.toList, operOk N o = true) :
    ∀ (l : List Oper) (e : Env) (h : AH) (ρ : Ip) (a : Act) (w : World), (∀ o ∈ l, operOk N o = true) → runL P bl ops.toList l e h K → RH ρ h w → RT ρ N e a →
      (∀ ρ' e' h' a' w', ρ.Le ρ' → RH ρ' h' w' → RT ρ' N e' a' → K e' h' → Q .normal a' w') → wpList P ops Q l a w
  | [], e, h, ρ, a, w, hl, hr, hR, hT, hQ => hQ ρ e h a w (.refl _) hR hT hr
  | o :: r, e, h, ρ, a, w, hl, hr, hR, hT, hQ => by
    unfold runL at hr
    obtain ⟨e', hT', hrun | hskip⟩ := guard_sound hr hT hok
    · unfold wpList
      rw [if_pos hrun.1]
      refine .inl (step_sound hrun.2 hR hT'.size (fun i hi => hT'.get i (by rw [← hT'.size]; exact hi)) (hl o (List.mem_cons_self ..)) fun v vc ρ' h' w' hle hR' hv hK => ?_)
      exact runL_sound hok r _ h' ρ' _ w' (fun o ho => hl o (List.mem_cons_of_mem _ ho)) hK hR' ((hT'.mono hle).put o.dst hv) fun ρ'' e'' h'' a' w' hle' => hQ ρ'' e'' h'' a' w' (hle.trans hle')
    · unfold wpList
      rw [if_neg (by rw [hskip.1]; simp)]
      refine runL_sound hok r _ h ρ _ w (fun o ho => hl o (List.mem_cons_of_mem _ ho)) hskip.2 hR (hT'.put o.dst ?_) hQ
      exact .pure _ _ (.tup [] #[] rfl (fun i hi => absurd hi (Nat.not_lt_zero _)))

end Go.Eng
