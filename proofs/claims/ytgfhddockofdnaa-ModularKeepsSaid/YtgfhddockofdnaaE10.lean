/- An engine, part 10: rules for code; functions. Over any program. -/
import Derived.Test.YtgfhddockofdnaaE9
import Derived.Deep.LoopGhost
set_option linter.unusedVariables false
set_option linter.unusedSimpArgs false
namespace Go.Eng
open Go.RowKit (Below)

def codeOk (N : Nat) : Code → Bool
  | .region _ ops _ => ops.toList.all (operOk N)
  | .seq a b => codeOk N a && codeOk N b
  | .cond c a b => opndOk N c && codeOk N a && codeOk N b
  | .block _ a => codeOk N a
  | .loop a => codeOk N a
  | _ => true

abbrev Post := Exit → Env → AH → Prop
def post (N : Nat) (ρ : Ip) (Q : Post) : Exit → Act → World → Prop := fun ex a' w' => ∃ ρ' e' h', ρ.Le ρ' ∧ RH ρ' h' w' ∧ RT ρ' N e' a' ∧ Q ex e' h'

/-- From such a state the code comes to such exits. -/
def Good (P : Program) (N : Nat) (c : Code) (e : Env) (h : AH) (Q : Post) : Prop := codeOk N c = true → ∀ ρ w a, RH ρ h w → RT ρ N e a → c.wp P (post N ρ Q) a w

@[congr] theorem Good.congr_ {P : Program} {N : Nat} {c : Code} {e e' : Env} {h h' : AH} {Q : Post} (h1 : e = e') (h2 : h = h') : Good P N c e h Q = Good P N c e' h' Q := by rw [h1, h2]

def thenQ (next : Env → AH → Prop) (Q : Post) : Post
  | .normal, e, h => next e h
  | ex, e, h => Q ex e h
def blockQ (id : Nat) (Q : Post) : Post
  | .exit id', e, h => (id' = id ∧ Q .normal e h) ∨ (id' ≠ id ∧ Q (.exit id') e h)
  | ex, e, h => Q ex e h

section
variable {P : Program} {N : Nat} {e : Env} {h : AH} {Q : Post}

theorem Good.mono {c : Code} {Q' : Post} (hg : Good P N c e h Q) (hq : ∀ ex e h, Q ex e h → Q' ex e h) : Good P N c e h Q' := fun hok ρ w a hR hT =>
  wp_mono (hg hok ρ w a hR hT) fun ex a' w' ⟨ρ', e', h', h1, h2, h3, h4⟩ => ⟨ρ', e', h', h1, h2, h3, hq _ _ _ h4⟩

theorem Good.weak {c : Code} {e' : Env} (hg : Good P N c e' h Q) (hw : Weak e' e) : Good P N c e h Q := fun hok ρ w a hR hT => hg hok ρ w a hR (hT.weak hw)

theorem good_seq {x y : Code} (hg : Good P N x e h (thenQ (fun e h => Good P N y e h Q) Q)) : Good P N (.seq x y) e h Q := fun hok ρ w a hR hT => by
  simp only [codeOk, Bool.and_eq_true] at hok
  refine wp_seq (wp_mono (hg hok.1 ρ w a hR hT) fun ex a' w' ⟨ρ', e', h', h1, h2, h3, h4⟩ => ?_)
  cases ex with
  | normal => exact wp_mono (h4 hok.2 ρ' w' a' h2 h3) fun ex a'' w'' ⟨ρ'', e'', h'', k1, k2, k3, k4⟩ => ⟨ρ'', e'', h'', h1.trans k1, k2, k3, k4⟩
  | _ => exact ⟨ρ', e', h', h1, h2, h3, h4⟩

theorem good_skip (hq : Q .normal e h) : Good P N .skip e h Q := fun hok ρ w a hR hT => wp_skip ⟨ρ, e, h, .refl _, hR, hT, hq⟩
theorem good_exit {id : Nat} (hq : Q (.exit id) e h) : Good P N (.exit id) e h Q := fun hok ρ w a hR hT => wp_exit ⟨ρ, e, h, .refl _, hR, hT, hq⟩
theorem good_ret (hq : Q .ret e h) : Good P N .ret e h Q := fun hok ρ w a hR hT => wp_ret ⟨ρ, e, h, .refl _, hR, hT, hq⟩

theorem good_block {id : Nat} {c : Code} (hg : Good P N c e h (blockQ id Q)) : Good P N (.block id c) e h Q := fun hok ρ w a hR hT => by
  refine wp_block (wp_mono (hg hok ρ w a hR hT) fun ex a' w' ⟨ρ', e', h', h1, h2, h3, h4⟩ => ?_)
  cases ex with
  | exit id' =>
    simp only [Exit.inBlock]
    rcases h4 with ⟨hi, h4⟩ | ⟨hi, h4⟩
    · rw [if_pos hi]; exact ⟨ρ', e', h', h1, h2, h3, h4⟩
    · rw [if_neg hi]; exact ⟨ρ', e', h', h1, h2, h3, h4⟩
  | _ => exact ⟨ρ', e', h', h1, h2, h3, h4⟩

theorem good_cond {c : Operand} {x y : Code} (hg : condW (evA (lk e) c) (Good P N x e h Q) (Good P N y e h Q)) : Good P N (.cond c x y) e h Q := fun hok ρ w a hR hT => by
  simp only [codeOk, Bool.and_eq_true] at hok
  have hv : RV ρ (evA (lk e) c) (a.eval c) := evA_sound (fun i hi => hT.get i (by rw [← hT.size]; exact hi)) (fun i hi => by
    subst hi; rw [hT.size]; simpa [opndOk] using hok.1.1)
  unfold condW at hg
  split at hg
  · rename_i t ht
    rw [ht] at hv
    exact wp_cond_split (inv_bool hv) (fun h1 => hg.1 h1 hok.1.2 ρ w a hR hT) (fun h1 => hg.2 h1 hok.2 ρ w a hR hT)
  · exact hg.elim

theorem good_region {id : Nat} {ops : Array Oper} (bl : Bool) (hg : runL P bl ops.toList ops.toList e h (fun e h => Q .normal e h)) : Good P N (.region id ops false) e h Q := fun hok ρ w a hR hT => by
  simp only [codeOk, List.all_eq_true] at hok
  exact wp_region_list (runL_sound hok _ e h ρ a w hok hg hR hT fun ρ' e' h' a' w' h1 h2 h3 h4 => ⟨ρ', e', h', h1, h2, h3, h4⟩)

theorem good_draw {id : Nat} {ops : Array Oper} (hm : P.follows .mixedOrders = true) (bl : Bool) (bf : List (List Nat)) (plan : List Nat) (hp : planOk bl ops.toList bf plan = true)
    (hg : regW P bl ops.toList bf plan [] e h (fun e h => Q .normal e h)) : Good P N (.region id ops true) e h Q := fun hok ρ w a hR hT => by
  simp only [codeOk, List.all_eq_true] at hok
  exact reg_sound hm hp hok hg hR hT fun ρ' e' h' a' w' h1 h2 h3 h4 => ⟨ρ', e', h', h1, h2, h3, h4⟩

/-- A loop: what every round starts from, with a number that falls. -/
theorem good_loop {c : Code} (I : Nat → Env → AH → Prop) (n : Nat) (h0 : ∃ e', Weak e' e ∧ I n e' h)
    (round : ∀ n e h, I n e h → Good P N c e h (thenQ (fun e h => ∃ n' e', n' < n ∧ Weak e' e ∧ I n' e' h) Q)) : Good P N (.loop c) e h Q := fun hok ρ w a hR hT => by
  have hok' : codeOk N c = true := hok
  obtain ⟨e0, hw0, hI0⟩ := h0
  refine wp_loop_ghost (fun n a w => ∃ ρ' e h, ρ.Le ρ' ∧ RH ρ' h w ∧ RT ρ' N e a ∧ I n e h) n ⟨ρ, e0, h, .refl _, hR, hT.weak hw0, hI0⟩ fun n a w ⟨ρ', e1, h1, k1, k2, k3, k4⟩ => ?_
  refine wp_mono (round n e1 h1 k4 hok' ρ' w a k2 k3) fun ex a' w' ⟨ρ'', e'', h'', j1, j2, j3, j4⟩ => ?_
  cases ex with
  | normal =>
    obtain ⟨n', e3, hlt, hwk, hI⟩ := j4
    exact ⟨n', hlt, ρ'', e3, h'', k1.trans j1, j2, j3.weak hwk, hI⟩
  | _ => exact ⟨ρ'', e'', h'', k1.trans j1, j2, j3, j4⟩

/-- The same with the states given by a parameter. -/
theorem good_loop_st {σ : Type} {c : Code} (env : σ → Env) (heap : σ → AH) (inv : σ → Prop) (μ : σ → Nat) (s0 : σ) (h1 : Env.holds (env s0) e) (h2 : heap s0 = h) (h3 : inv s0)
    (round : ∀ s, inv s → Good P N c (env s) (heap s) (thenQ (fun e h => ∃ s', inv s' ∧ μ s' < μ s ∧ Env.holds (env s') e ∧ heap s' = h) Q)) : Good P N (.loop c) e h Q := by
  refine good_loop (fun n e h => ∃ s, n = μ s ∧ e = env s ∧ h = heap s ∧ inv s) (μ s0) ⟨env s0, Env.holds_weak h1, s0, rfl, rfl, h2.symm, h3⟩ ?_
  rintro n e h ⟨s, rfl, rfl, rfl, hs⟩
  refine (round s hs).mono fun ex e h hq => ?_
  cases ex with
  | normal =>
    obtain ⟨s', k1, k2, k3, k4⟩ := hq
    exact ⟨μ s', env s', k2, Env.holds_weak k3, s', rfl, rfl, k4.symm, k1⟩
  | _ => exact hq

/-- A stretch of code whose end is said at once. -/
theorem good_mid {c : Code} (R : Post) (hg : Good P N c e h R) (hq : ∀ ex e h, R ex e h → Q ex e h) : Good P N c e h Q := hg.mono hq

/-! ### functions -/
def initE : Nat → List AV → Env
  | _, [] => []
  | i, v :: vs => (i, v) :: initE (i + 1) vs
theorem lk_initE : ∀ (vs : List AV) (k i : Nat), lk (initE k vs) i = if h : k ≤ i ∧ i - k < vs.length then vs[i - k] else .junk
  | [], k, i => by simp [initE, lk]
  | v :: vs, k, i => by
    simp only [initE, lk]
    by_cases hk : k = i
    · subst hk; simp
    · rw [if_neg hk]
      rw [lk_initE vs (k + 1) i]
      by_cases hc : k + 1 ≤ i ∧ i - (k + 1) < vs.length
      · have h2 : k ≤ i ∧ i - k < (v :: vs).length := ⟨by omega, by simp only [List.length_cons]; omega⟩
        rw [dif_pos hc, dif_pos h2]
        have : i - k = (i - (k + 1)) + 1 := by omega
        simp only [this, List.getElem_cons_succ]
      · rw [dif_neg hc, dif_neg]
        simp only [List.length_cons]
        omega

def resV (P : Program) (e : Env) (h : AH) (r : ResultVar) (K : AV → Prop) : Prop := match r with
  | .tmp t => K (lk e t)
  | .cell a t => loadW P t (lk e a) h fun v _ => K v
def resL (P : Program) (e : Env) (h : AH) : List ResultVar → (List AV → Prop) → Prop
  | [], K => K []
  | r :: rs, K => resV P e h r fun v => resL P e h rs fun vs => K (v :: vs)
def resW (P : Program) (rs : List ResultVar) (e : Env) (h : AH) (R : AV → AH → Prop) : Prop := match rs with
  | [r] => resV P e h r fun v => R v h
  | rs => resL P e h rs fun vs => R (.tup vs) h
def resOk (N : Nat) : ResultVar → Bool
  | .tmp t => decide (t < N)
  | .cell a _ => decide (a < N)

variable {ρ : Ip} {w : World} {a : Act}

def resF (tmps : Array Value) : ResultVar → Sem Value
  | .tmp t => pure (tmps.getD t undef)
  | .cell a t => do loadVar t (← asAddr (tmps.getD a undef))

theorem resV_sound {r : ResultVar} {K : AV → Prop} (hw : resV P e h r K) (hR : RH ρ h w) (hT : RT ρ N e a) (hok : resOk N r = true) : ∃ v vc, (resF a.tmps r).run P w = .ok vc w ∧ RV ρ v vc ∧ K v := by
  cases r with
  | tmp t => exact ⟨_, _, rfl, hT.get t (by simpa [resOk] using hok), hw⟩
  | cell a' t =>
    have hv := hT.get a' (by simpa [resOk] using hok)
    obtain ⟨vc, v, hr, hv', hK⟩ := load_sound (P := P) (t := t) (K := fun v _ => K v) hw hR hv
    refine ⟨v, vc, ?_, hv', hK⟩
    have hptr : ∃ ad, a.tmps.getD a' undef = .pointer (some ad) := by
      simp only [resV] at hw
      unfold loadW at hw
      split at hw
      · rename_i u hu
        rw [hu] at hv
        obtain ⟨ad, u', h1, -⟩ := inv_eptr hv
        exact ⟨ad, h1⟩
      · rename_i b o hu
        rw [hu] at hv
        obtain ⟨ad, h1, -⟩ := inv_ptr hv
        exact ⟨ad, h1⟩
      · exact hw.elim
    obtain ⟨ad, had⟩ := hptr
    rw [had] at hr
    simp only [resF, had, asAddr, Sem.run_bind, Sem.run_pure, Result.andThen_ok]
    simpa [Instr.loadAt, Instr.sureAddr] using hr

theorem resL_sound (hR : RH ρ h w) (hT : RT ρ N e a) : ∀ (rs : List ResultVar) (K : List AV → Prop), resL P e h rs K → (∀ r ∈ rs, resOk N r = true) → ∃ vs vcs, (rs.mapM (resF a.tmps)).run P w = .ok vcs w ∧ vcs.length = rs.length ∧ vs.length = vcs.length ∧ (∀ i (hi : i < vs.length), RV ρ vs[i] (vcs.getD i undef)) ∧ K vs
  | [], K, hw, hok => ⟨[], [], by simp, rfl, rfl, fun i hi => absurd hi (Nat.not_lt_zero _), hw⟩
  | r :: rs, K, hw, hok => by
    obtain ⟨v, vc, hr, hv, hK⟩ := resV_sound hw hR hT (hok r (List.mem_cons_self ..))
    obtain ⟨vs, vcs, hrs, hl0, hl, hvs, hK'⟩ := resL_sound hR hT rs _ hK (fun r hr => hok r (List.mem_cons_of_mem _ hr))
    refine ⟨v :: vs, vc :: vcs, ?_, by simp [hl0], by simp [hl], fun i hi => ?_, hK'⟩
    · simp only [List.mapM_cons, Sem.run_bind, hr, Result.andThen_ok, hrs, Sem.run_pure]
    · cases i with
      | zero => simpa using hv
      | succ i => simpa using hvs i (by simpa using hi)

theorem results_eq (fn : Func) (tmps : Array Value) : results fn tmps = (do let vs ← fn.results.toList.mapM (resF tmps); pure (if h : vs.toArray.size = 1 then vs.toArray[0] else .tuple vs.toArray)) := by
  have : fn.results.mapM (resF tmps) = (List.toArray <$> fn.results.toList.mapM (resF tmps)) := by
    rw [← List.mapM_toArray]
  unfold results
  show (do let vs ← fn.results.mapM (resF tmps); _) = _
  rw [this]
  simp only [map_eq_pure_bind, bind_assoc, pure_bind]

theorem res_sound {fn : Func} {R : AV → AH → Prop} (hw : resW P fn.results.toList e h R) (hR : RH ρ h w) (hT : RT ρ N e a) (hok : ∀ r ∈ fn.results.toList, resOk N r = true) : ∃ v vc, (results fn a.tmps).run P w = .ok vc w ∧ RV ρ v vc ∧ R v h := by
  rw [results_eq]
  have many : resL P e h fn.results.toList (fun vs => R (.tup vs) h) → fn.results.toList.length ≠ 1 → ∃ v vc, (do let vs ← fn.results.toList.mapM (resF a.tmps); pure (if h : vs.toArray.size = 1 then vs.toArray[0] else Value.tuple vs.toArray) : Sem Value).run P w = .ok vc w ∧ RV ρ v vc ∧ R v h := fun hw hne => by
    obtain ⟨vs, vcs, hr, hlen, hl, hv, hK⟩ := resL_sound hR hT _ _ hw hok
    refine ⟨.tup vs, .tuple vcs.toArray, ?_, .tup _ _ (by simpa using hl) (fun i hi => by simpa [Array.getD_eq_getD_getElem?, List.getD_eq_getElem?_getD] using hv i hi), hK⟩
    simp only [Sem.run_bind, hr, Result.andThen_ok, Sem.run_pure]
    rw [dif_neg (by simp; omega)]
  unfold resW at hw
  split at hw
  · rename_i r hrs
    obtain ⟨v, vc, hr, hv, hK⟩ := resV_sound hw hR hT (hok r (by rw [hrs]; exact List.mem_cons_self ..))
    refine ⟨v, vc, ?_, hv, hK⟩
    rw [hrs]
    simp [Sem.run_bind, hr]
  · rename_i hne
    exact many hw fun h1 => by
      obtain ⟨r, hr⟩ := List.length_eq_one_iff.1 h1
      exact hne r hr

/-- What is asked of a function's end. -/
def endQ (P : Program) (rs : List ResultVar) (R : AV → AH → Prop) : Post := fun ex e h => match ex with
  | .normal => resW P rs e h R
  | .ret => resW P rs e h R
  | _ => False

def funcOk (fn : Func) (c : Code) : Bool := codeOk fn.ntmps c && fn.results.toList.all (resOk fn.ntmps)

theorem acalls_of_good {f : FuncId} {fn : Func} {c : Code} {args : List AV} {R : AV → AH → Prop} (k n : Nat) (rs : List ResultVar) (hf : P.funcs[f]? = some fn) (hb : fn.body = some c) (hrs : fn.results.toList = rs) (hok : funcOk fn c = true) (hk : args.length = k) (hnt : fn.ntmps = n) (hkn : k ≤ n)
    (hg : Good P n c (initE 0 args) h (endQ P rs R)) : ACalls P f args h R := fun ρ w argc hR hL => by
  have hn : args.length ≤ fn.ntmps := by omega
  subst hnt
  subst hrs
  simp only [funcOk, Bool.and_eq_true, List.all_eq_true] at hok
  refine calls_of_wp hf hb (wp_mono (hg hok.1 ρ w _ hR ⟨?_, fun i hi => ?_, rfl⟩) fun ex a' w' ⟨ρ', e', h', h1, h2, h3, h4⟩ => ?_)
  · have := hL.1
    simp; omega
  · rw [lk_initE]
    have hs := hL.1
    by_cases hc : 0 ≤ i ∧ i - 0 < args.length
    · rw [dif_pos hc, Array.getD_eq_getD_getElem?, Array.getElem?_append_left (by omega), ← Array.getD_eq_getD_getElem?]
      exact hL.2 i (by omega)
    · rw [dif_neg hc]; exact .junk _
  · have fin : resW P fn.results.toList e' h' R → bodyPost P fn (retOf ρ R) .normal a' w' := fun hw => by
      obtain ⟨v, vc, k1, k2, k3⟩ := res_sound hw h2 h3 hok.2
      exact ⟨h3.defers, vc, k1, ρ', v, h', h1, h2, k2, k3⟩
    cases ex with
    | normal => exact fin h4
    | ret => exact fin h4
    | _ => exact h4.elim
end
end Go.Eng
