/- An engine, part 9: a row of operations whose order is drawn: one order is walked, and every other order leaves the same. Over any program. -/
import Derived.Test.YtgfhddockofdnaaE8
set_option linter.unusedVariables false
set_option linter.unusedSimpArgs false
namespace Go.Eng
open Go.RowKit (Below)

def dirs (o : Oper) : List Nat := (o.after.toList.filter fun e => Region.binds .any e).map (·.on)
def opAt : List Oper → Nat → Option Oper
  | [], _ => none
  | o :: _, 0 => some o
  | _ :: r, n + 1 => opAt r n
theorem opAt_eq : ∀ (l : List Oper) (j : Nat), opAt l j = l[j]?
  | [], j => rfl
  | o :: _, 0 => rfl
  | _ :: r, n + 1 => by simp only [opAt, List.getElem?_cons_succ]; exact opAt_eq r n
def befA (bf : List (List Nat)) (i : Nat) : List Nat := bf.getD i []

def logOk (bi : List Nat) : List (Nat × Nat × Option (List AV)) → AH → Prop
  | [], _ => True
  | p :: r, h => (bi.contains p.1 = true ∨ h.f p.2.1 = p.2.2) ∧ logOk bi r h
theorem logOk_iff {bi : List Nat} {h : AH} : ∀ {M : List (Nat × Nat × Option (List AV))}, logOk bi M h ↔ ∀ p ∈ M, bi.contains p.1 = true ∨ h.f p.2.1 = p.2.2
  | [] => by simp [logOk]
  | p :: r => by rw [logOk, logOk_iff (M := r)]; simp only [List.forall_mem_cons]

/-- One order is walked. -/
def regW (P : Program) (bl : Bool) (ops : List Oper) (bf : List (List Nat)) : List Nat → List (Nat × Nat × Option (List AV)) → Env → AH → (Env → AH → Prop) → Prop
  | [], log, e, h, K => K e h
  | i :: r, log, e, h, K => match opAt ops i with
    | none => False
    | some o => bif lightB bl o.op then
        guardW e ops o.guard (fun e => stepW P bl o.op (evA (lk e)) h fun v h' => regW P bl ops bf r (log ++ (memoOf o.op (evA (lk e)) h).map (fun p => (i, p))) (putE o.dst v e) h' K) (fun e => regW P bl ops bf r log (putE o.dst (.tup []) e) h K)
      else stepW P bl o.op (evA (lk e)) h fun v h' => logOk (befA bf i) log h' ∧ regW P bl ops bf r log (putE o.dst v e) h' K

/-- What must hold of the row of operations and of the order that is walked. -/
def planGo (bl : Bool) (ops : List Oper) (bf : List (List Nat)) : List Nat → List Nat → Bool
  | done, [] => true
  | done, i :: r => !done.contains i && (befA bf i).all (fun j => done.contains j) && (match opAt ops i with
    | some o => lightB bl o.op || (o.guard.isNone && r.all fun k => (befA bf k).contains i)
    | none => false) && planGo bl ops bf (i :: done) r
def tmpsOf (o : Oper) : List Nat := o.op.operands.toList.filterMap fun x => match x with
  | .tmp i => some i
  | _ => none
def befOk (ops : List Oper) (bf : List (List Nat)) : Bool := (List.range ops.length).all fun i => match opAt ops i with
  | none => true
  | some o => (dirs o).all (fun j => decide (j < i) && (befA bf i).contains j) && (befA bf i).all (fun j => (dirs o).any fun k => j == k || (befA bf k).contains j) && (match o.guard with
    | none => true
    | some (j, _) => (befA bf i).contains j && (dstAt ops j).isSome)
def slotOk (ops : List Oper) (bf : List (List Nat)) : Bool := (List.range ops.length).all fun j => match dstAt ops j with
  | none => true
  | some d => (List.range ops.length).all fun i => (i == j || !(dstAt ops i == some d)) && (match opAt ops i with
    | none => true
    | some o => !(tmpsOf o).contains d || (befA bf i).contains j || (befA bf j).contains i || i == j)
def planOk (bl : Bool) (ops : List Oper) (bf : List (List Nat)) (plan : List Nat) : Bool := planGo bl ops bf [] plan && befOk ops bf && slotOk ops bf && (List.range ops.length).all fun i => plan.contains i

section
variable {P : Program} {bl : Bool} {ops : Array Oper} {bf : List (List Nat)} {N : Nat}

def getB (l : Array Bool) (i : Nat) : Prop := l.getD i false = true

theorem dstAt_lt {l : List Oper} {j d : Nat} (h : dstAt l j = some d) : j < l.length ∧ ∃ o, opAt l j = some o ∧ o.dst = some d := by
  rw [dstAt_eq] at h
  obtain ⟨o, h1, h2⟩ := Option.bind_eq_some_iff.1 h
  exact ⟨(List.getElem?_eq_some_iff.1 h1).1, o, by rw [opAt_eq]; exact h1, h2⟩

structure Stat (bl : Bool) (ops : List Oper) (bf : List (List Nat)) : Prop where
  dir_lt : ∀ i o j, opAt ops i = some o → j ∈ dirs o → j < i ∧ j ∈ befA bf i
  bef_dir : ∀ i o j, opAt ops i = some o → j ∈ befA bf i → ∃ k ∈ dirs o, j = k ∨ j ∈ befA bf k
  grd : ∀ i o j b, opAt ops i = some o → o.guard = some (j, b) → j ∈ befA bf i ∧ ∃ d, dstAt ops j = some d
  uniq : ∀ i j d, dstAt ops i = some d → dstAt ops j = some d → i = j
  reads : ∀ i o j d, opAt ops i = some o → dstAt ops j = some d → Operand.tmp d ∈ o.op.operands → j ∈ befA bf i ∨ i ∈ befA bf j ∨ i = j

theorem mem_tmpsOf {o : Oper} {d : Nat} (h : Operand.tmp d ∈ o.op.operands) : d ∈ tmpsOf o := List.mem_filterMap.2 ⟨.tmp d, Array.mem_toList_iff.2 h, rfl⟩

theorem stat_of {l : List Oper} {plan : List Nat} (h : planOk bl l bf plan = true) : Stat bl l bf ∧ planGo bl l bf [] plan = true ∧ ∀ i, i < l.length → i ∈ plan := by
  simp only [planOk, Bool.and_eq_true, List.all_eq_true, List.mem_range] at h
  obtain ⟨⟨⟨h1, h2⟩, h3⟩, h4⟩ := h
  have lt_of : ∀ i o, opAt l i = some o → i < l.length := fun i o ho => by
    rw [opAt_eq] at ho; exact (List.getElem?_eq_some_iff.1 ho).1
  have h2' : ∀ i o, opAt l i = some o → ((dirs o).all (fun j => decide (j < i) && (befA bf i).contains j) && (befA bf i).all (fun j => (dirs o).any fun k => j == k || (befA bf k).contains j) && (match o.guard with
    | none => true
    | some (j, _) => (befA bf i).contains j && (dstAt l j).isSome)) = true := fun i o ho => by
    simp only [befOk, List.all_eq_true, List.mem_range] at h2
    have := h2 i (lt_of i o ho)
    rw [ho] at this
    exact this
  refine ⟨⟨fun i o j ho hj => ?_, fun i o j ho hj => ?_, fun i o j b ho hg => ?_, fun i j d hi hj => ?_, fun i o j d ho hd hx => ?_⟩, h1, fun i hi => by simpa using h4 i hi⟩
  · have := h2' i o ho
    simp only [Bool.and_eq_true, List.all_eq_true, decide_eq_true_eq] at this
    have := this.1.1 j hj
    exact ⟨this.1, by simpa using this.2⟩
  · have := h2' i o ho
    simp only [Bool.and_eq_true, List.all_eq_true, List.any_eq_true] at this
    obtain ⟨k, hk, hjk⟩ := this.1.2 j hj
    exact ⟨k, hk, by simpa using hjk⟩
  · have := h2' i o ho
    simp only [Bool.and_eq_true, hg] at this
    exact ⟨by simpa using this.2.1, Option.isSome_iff_exists.1 this.2.2⟩
  · simp only [slotOk, List.all_eq_true, List.mem_range] at h3
    have := h3 j (dstAt_lt hj).1
    rw [hj] at this
    simp only [List.all_eq_true, List.mem_range] at this
    have := this i (dstAt_lt hi).1
    simp only [hi, beq_self_eq_true, Bool.not_true, Bool.or_false, Bool.and_eq_true, beq_iff_eq] at this
    exact this.1
  · simp only [slotOk, List.all_eq_true, List.mem_range] at h3
    have := h3 j (dstAt_lt hd).1
    rw [hd] at this
    simp only [List.all_eq_true, List.mem_range] at this
    have := this i (lt_of i o ho)
    rw [ho] at this
    simp only [Bool.and_eq_true] at this
    have h5 := this.2
    simp only [Bool.or_eq_true, Bool.not_eq_true', beq_iff_eq] at h5
    rcases h5 with ((h5 | h5) | h5) | h5
    · have hm := mem_tmpsOf hx
      have : (tmpsOf o).contains d = true := by simpa using hm
      rw [this] at h5; cases h5
    · exact .inl (by simpa using h5)
    · exact .inr (.inl (by simpa using h5))
    · exact .inr (.inr h5)

/-- What is done holds with each operation all that it waits for. -/
def Closed (l : List Oper) (D : Nat → Prop) : Prop := ∀ i o, D i → opAt l i = some o → ∀ j ∈ dirs o, D j

theorem bef_done {l : List Oper} (hs : Stat bl l bf) {D : Nat → Prop} (hD : Closed l D) (hlt : ∀ i, D i → i < l.length) : ∀ (n i : Nat), i ≤ n → ∀ o, opAt l i = some o → (∀ j ∈ dirs o, D j) → ∀ j ∈ befA bf i, D j := by
  intro n
  induction n with
  | zero =>
    intro i hi o ho hd j hj
    obtain ⟨k, hk, h⟩ := hs.bef_dir i o j ho hj
    have := (hs.dir_lt i o k ho hk).1
    omega
  | succ n ih =>
    intro i hi o ho hd j hj
    obtain ⟨k, hk, h⟩ := hs.bef_dir i o j ho hj
    have hkD := hd k hk
    rcases h with rfl | h
    · exact hkD
    · have hklt := (hs.dir_lt i o k ho hk).1
      have hkl := hlt k hkD
      have hko : opAt l k = some l[k] := by rw [opAt_eq]; exact List.getElem?_eq_getElem hkl
      exact ih k (by omega) _ hko (hD k _ hkD hko) j h

open Classical in
/-- What an operation finds in a slot. -/
noncomputable def seenT (l : List Oper) (bf : List (List Nat)) (t0 : Nat → AV) (e : Env) (i : Nat) (s : Nat) : AV := if ∃ j ∈ befA bf i, dstAt l j = some s then lk e s else t0 s

def gdV (l : List Oper) (t : Nat → AV) (g : Option (Nat × Bool)) : Option Bool := match g with
  | none => some true
  | some (j, b) => match dstAt l j with
    | none => some false
    | some d => match t d with
      | .bool c => some (c == b)
      | .tup [] => some false
      | _ => none

structure Pend (P : Program) (bl : Bool) (l : List Oper) (bf : List (List Nat)) (t0 : Nat → AV) (e : Env) (log : List (Nat × Nat × Option (List AV))) (h : AH) (i : Nat) (o : Oper) (M : List (Nat × Option (List AV))) : Prop where
  run : ∀ h', memoOk M h' → opW P bl o.op (evA (seenT l bf t0 e i)) h' (fun v h'' => (∀ d, o.dst = some d → v = lk e d) ∧ h'' = h')
  memo : memoOk M h
  logged : ∀ p ∈ M, (i, p) ∈ log

structure StD (P : Program) (bl : Bool) (l : List Oper) (bf : List (List Nat)) (N : Nat) (t0 : Nat → AV) (D : Nat → Prop) (pre rest : List Nat) (e : Env) (log : List (Nat × Nat × Option (List AV))) (h : AH) (ρ : Ip) (w : World) (a : Act) : Prop where
  sub : ∀ i, D i → i ∈ pre
  hvy : ∀ i ∈ pre, ∀ o, opAt l i = some o → lightB bl o.op = false → D i
  befIn : ∀ i ∈ pre, ∀ j ∈ befA bf i, j ∈ pre
  rh : RH ρ h w
  size : a.tmps.size = N
  defers : a.defers = []
  done : ∀ s, s < N → ∀ j, dstAt l j = some s → D j → RV ρ (lk e s) (a.tmps.getD s undef)
  old : ∀ s, s < N → (∀ j, dstAt l j = some s → ¬ D j) → RV ρ (t0 s) (a.tmps.getD s undef)
  epre : ∀ s, (∀ j, dstAt l j = some s → j ∉ pre) → lk e s = t0 s
  pend : ∀ i ∈ pre, ¬ D i → ∃ o, opAt l i = some o ∧ lightB bl o.op = true ∧ ((gdV l (lk e) o.guard = some true ∧ ∃ M, Pend P bl l bf t0 e log h i o M) ∨ (gdV l (lk e) o.guard = some false ∧ ∀ d, o.dst = some d → lk e d = .tup []))

theorem dst_of {l : List Oper} {i d : Nat} {o : Oper} (h : opAt l i = some o) (hd : o.dst = some d) : dstAt l i = some d := by
  rw [dstAt_eq]; rw [opAt_eq] at h; rw [h]; exact hd
theorem dst_op {l : List Oper} {i d : Nat} {o : Oper} (h : opAt l i = some o) (hd : dstAt l i = some d) : o.dst = some d := by
  rw [dstAt_eq] at hd; rw [opAt_eq] at h; rw [h] at hd; exact hd

/-- A slot that an operation writes no other writes: what stood in the others stays. -/
theorem lk_other {l : List Oper} {i j s : Nat} {o : Oper} (hs : Stat bl l bf) (ho : opAt l i = some o) (hj : dstAt l j = some s) (hne : j ≠ i) (v : AV) (e : Env) : lk (putE o.dst v e) s = lk e s := by
  cases hd : o.dst with
  | none => rfl
  | some d =>
    simp only [putE, lk_put]
    rw [if_neg]
    intro h
    subst h
    exact hne (hs.uniq j i s hj (dst_of ho hd))

theorem gdV_stable {l : List Oper} {i k : Nat} {o ok : Oper} (hs : Stat bl l bf) (ho : opAt l i = some o) (hok : opAt l k = some ok) (hni : i ∉ befA bf k) (v : AV) (e : Env) : gdV l (lk (putE o.dst v e)) ok.guard = gdV l (lk e) ok.guard := by
  unfold gdV
  split
  · rfl
  · rename_i j b hg
    obtain ⟨hj, d, hd⟩ := hs.grd k ok j b hok hg
    simp only [hd]
    rw [lk_other hs ho hd (fun h => hni (h ▸ hj)) v e]

theorem seen_stable {l : List Oper} {i k : Nat} {o : Oper} (hs : Stat bl l bf) (ho : opAt l i = some o) (hni : i ∉ befA bf k) (t0 : Nat → AV) (v : AV) (e : Env) : seenT l bf t0 (putE o.dst v e) k = seenT l bf t0 e k := by
  funext s
  unfold seenT
  split
  · rename_i h
    obtain ⟨j, hj, hd⟩ := h
    exact lk_other hs ho hd (fun h => hni (h ▸ hj)) v e
  · rfl

variable {t0 : Nat → AV} {D : Nat → Prop} {pre rest : List Nat} {e : Env} {log : List (Nat × Nat × Option (List AV))} {h : AH} {ρ : Ip} {w : World} {a : Act} {l : List Oper}

/-- What stands in an operation's operands at the head of the order that is walked. -/
theorem seen_head (hs : Stat bl l bf) (hS : StD P bl l bf N t0 D pre rest e log h ρ w a) {i : Nat} {o : Oper} (ho : opAt l i = some o) (hi : i ∉ pre) : ∀ x ∈ o.op.operands, evA (lk e) x = evA (seenT l bf t0 e i) x := by
  intro x hx
  cases x with
  | tmp s =>
    simp only [evA]
    unfold seenT
    split
    · rfl
    · rename_i hno
      refine hS.epre s fun j hj hjp => ?_
      rcases hs.reads i o j s ho hj hx with h1 | h1 | h1
      · exact hno ⟨j, h1, hj⟩
      · exact hi (hS.befIn j hjp i h1)
      · exact hi (h1 ▸ hjp)
  | const v => rfl
  | global g => rfl
  | func f => rfl

/-- The walk goes on by one light operation; nothing is done. -/
theorem advance (hs : Stat bl l bf) {i : Nat} {r : List Nat} {K : Env → AH → Prop} (hS : StD P bl l bf N t0 D pre (i :: r) e log h ρ w a) (hi : i ∉ pre) (hbef : ∀ j ∈ befA bf i, j ∈ pre) {o : Oper} (ho : opAt l i = some o) (hl : lightB bl o.op = true)
    (hw : regW P bl l bf (i :: r) log e h K) : ∃ e' log', StD P bl l bf N t0 D (i :: pre) r e' log' h ρ w a ∧ regW P bl l bf r log' e' h K := by
  simp only [regW, ho, hl, cond_true] at hw
  -- the two outcomes
  have goal : ∀ (v : AV) (log' : List (Nat × Nat × Option (List AV))) (e1 : Env), (∀ s, lk e1 s = lk e s) → (∀ p ∈ log, p ∈ log') →
      ((gdV l (lk e) o.guard = some true ∧ ∃ M, (∀ h', memoOk M h' → opW P bl o.op (evA (seenT l bf t0 e i)) h' (fun u h'' => u = v ∧ h'' = h')) ∧ memoOk M h ∧ ∀ p ∈ M, (i, p) ∈ log') ∨ (gdV l (lk e) o.guard = some false ∧ v = .tup [])) →
      StD P bl l bf N t0 D (i :: pre) r (putE o.dst v e1) log' h ρ w a := by
    intro v log' e1 he1 hlog hP
    have lkE : ∀ s, lk (putE o.dst v e1) s = lk (putE o.dst v e) s := fun s => by
      cases hd : o.dst with
      | none => exact he1 s
      | some d => simp only [putE, lk_put, he1]
    have lkF : lk (putE o.dst v e1) = lk (putE o.dst v e) := funext lkE
    have seenE : ∀ k, seenT l bf t0 (putE o.dst v e1) k = seenT l bf t0 (putE o.dst v e) k := fun k => by
      funext s; unfold seenT; rw [lkE]
    have hiD : ¬ D i := fun hd => hi (hS.sub i hd)
    have hself : ∀ d, o.dst = some d → lk (putE o.dst v e1) d = v := fun d hd => by rw [lkE, hd, putE, lk_put, if_pos rfl]
    have nb : ∀ k ∈ i :: pre, i ∉ befA bf k := fun k hk hin => by
      rcases List.mem_cons.1 hk with rfl | hk
      · exact hi (hbef _ hin)
      · exact hi (hS.befIn k hk i hin)
    refine ⟨fun j hj => List.mem_cons_of_mem _ (hS.sub j hj), fun j hj oj hoj hlj => ?_, fun j hj k hk => ?_, hS.rh, hS.size, hS.defers, fun s hs' j hj hD => ?_, hS.old, fun s hs' => ?_, fun k hk hkD => ?_⟩
    · rcases List.mem_cons.1 hj with rfl | hj
      · rw [ho] at hoj; cases hoj; rw [hl] at hlj; cases hlj
      · exact hS.hvy j hj oj hoj hlj
    · rcases List.mem_cons.1 hj with rfl | hj
      · exact List.mem_cons_of_mem _ (hbef k hk)
      · exact List.mem_cons_of_mem _ (hS.befIn j hj k hk)
    · rw [lkE, lk_other hs ho hj (fun h => hiD (h ▸ hD))]
      exact hS.done s hs' j hj hD
    · have : lk (putE o.dst v e1) s = lk e s := by
        rw [lkE]
        cases hd : o.dst with
        | none => rfl
        | some d =>
          simp only [putE, lk_put]
          rw [if_neg]
          intro h
          subst h
          exact hs' i (dst_of ho hd) (List.mem_cons_self ..)
      rw [this]
      exact hS.epre s fun j hj hjp => hs' j hj (List.mem_cons_of_mem _ hjp)
    · rcases List.mem_cons.1 hk with rfl | hkp
      · refine ⟨o, ho, hl, ?_⟩
        have gs : gdV l (lk (putE o.dst v e1)) o.guard = gdV l (lk e) o.guard := by rw [lkF]; exact gdV_stable hs ho ho (nb _ hk) v e
        rcases hP with ⟨hg, M, h1, h2, h3⟩ | ⟨hg, hv⟩
        · refine .inl ⟨by rw [gs]; exact hg, M, fun h' hM => ?_, h2, h3⟩
          rw [seenE, seen_stable hs ho (nb _ hk)]
          exact opW_mono (fun u h'' hu => ⟨fun d hd => by rw [hself d hd]; exact hu.1, hu.2⟩) (h1 h' hM)
        · exact .inr ⟨by rw [gs]; exact hg, fun d hd => by rw [hself d hd, hv]⟩
      · obtain ⟨ok, hok, hlk, hP'⟩ := hS.pend k hkp hkD
        refine ⟨ok, hok, hlk, ?_⟩
        have gs : gdV l (lk (putE o.dst v e1)) ok.guard = gdV l (lk e) ok.guard := by rw [lkF]; exact gdV_stable hs ho hok (nb k hk) v e
        have dk : ∀ d, ok.dst = some d → lk (putE o.dst v e1) d = lk e d := fun d hd => by
          rw [lkE]; exact lk_other hs ho (dst_of hok hd) (fun h => hi (h ▸ hkp)) v e
        rcases hP' with ⟨hg, M, hM⟩ | ⟨hg, hv⟩
        · refine .inl ⟨by rw [gs]; exact hg, M, fun h' hm => ?_, hM.memo, fun p hp => hlog _ (hM.logged p hp)⟩
          rw [seenE, seen_stable hs ho (nb k hk)]
          refine opW_imp hlk (hM.run h' hm) fun u h'' hu => ⟨fun d hd => by rw [dk d hd]; exact hu.1 d hd, hu.2⟩
        · exact .inr ⟨by rw [gs]; exact hg, fun d hd => by rw [dk d hd]; exact hv d hd⟩
  have run1 : ∀ e1 : Env, (∀ s, lk e1 s = lk e s) → gdV l (lk e) o.guard = some true → (stepW P bl o.op (evA (lk e1)) h fun v h' => regW P bl l bf r (log ++ (memoOf o.op (evA (lk e1)) h).map (fun p => (i, p))) (putE o.dst v e1) h' K) →
      ∃ e' log', StD P bl l bf N t0 D (i :: pre) r e' log' h ρ w a ∧ regW P bl l bf r log' e' h K := by
    intro e1 he1 hg hst
    obtain ⟨v, hK, hrun⟩ := light_out hl hst
    refine ⟨_, _, goal v _ e1 he1 (fun p hp => List.mem_append_left _ hp) (.inl ⟨hg, memoOf o.op (evA (lk e1)) h, fun h' hM => ?_, ?_, fun p hp => ?_⟩), hK⟩
    · refine opW_congr (fun x hx => ?_) (hrun h' hM)
      rw [show lk e1 = lk e from funext he1]
      exact seen_head hs hS ho hi x hx
    · rw [memoOk_iff]
      intro p hp
      unfold memoOf at hp
      split at hp
      · split at hp
        · simp at hp; subst hp; rfl
        · cases hp
      · cases hp
    · exact List.mem_append_right _ (List.mem_map.2 ⟨p, hp, rfl⟩)
  unfold guardW at hw
  split at hw
  · rename_i hg
    exact run1 e (fun _ => rfl) (by simp [gdV, hg]) hw
  · rename_i j b hg
    split at hw
    · rename_i hd
      exact ⟨_, _, goal (.tup []) log e (fun _ => rfl) (fun p hp => hp) (.inr ⟨by simp [gdV, hg, hd], rfl⟩), hw⟩
    · rename_i d hd
      split at hw
      · rename_i c hc
        have lkp : ∀ b', c = b' → ∀ s, lk (e.put d (.bool b')) s = lk e s := fun b' hb s => by
          rw [lk_put]
          split
          · rename_i hsd; rw [hsd, hc, hb]
          · rfl
        by_cases hcb : c = b
        · exact run1 _ (lkp b hcb) (by simp [gdV, hg, hd, hc, hcb]) (hw.1 hcb)
        · have hcn : c = !b := by revert hcb; cases c <;> cases b <;> simp
          exact ⟨_, _, goal (.tup []) log _ (lkp _ hcn) (fun p hp => hp) (.inr ⟨by simp [gdV, hg, hd, hc, hcb], rfl⟩), hw.2 hcn⟩
      · rename_i hc
        exact ⟨_, _, goal (.tup []) log e (fun _ => rfl) (fun p hp => hp) (.inr ⟨by simp [gdV, hg, hd, hc], rfl⟩), hw⟩
      · exact hw.elim

/-- What stands in the operands of an operation whose turn it is. -/
theorem seen_now (hs : Stat bl l bf) (hS : StD P bl l bf N t0 D pre rest e log h ρ w a) (hD : Closed l D) (hlt : ∀ i, D i → i < l.length) {i : Nat} {o : Oper} (ho : opAt l i = some o) (hi : ¬ D i) (hdir : ∀ j ∈ dirs o, D j)
    (hok : operOk N o = true) : ∀ x ∈ o.op.operands, RV ρ (evA (seenT l bf t0 e i) x) (a.eval x) := by
  intro x hx
  cases x with
  | tmp s =>
    simp only [evA, Act.eval]
    have hsN : s < N := by
      simp only [operOk, Bool.and_eq_true, List.all_eq_true] at hok
      simpa [opndOk] using hok.1 _ (Array.mem_toList_iff.2 hx)
    have hb := bef_done hs hD hlt i i (Nat.le_refl _) o ho hdir
    unfold seenT
    split
    · rename_i h
      obtain ⟨j, hj, hd⟩ := h
      exact hS.done s hsN j hd (hb j hj)
    · rename_i hno
      refine hS.old s hsN fun j hj hDj => ?_
      rcases hs.reads i o j s ho hj hx with h1 | h1 | h1
      · exact hno ⟨j, h1, hj⟩
      · have hjl := hlt j hDj
        have hjo : opAt l j = some l[j] := by rw [opAt_eq]; exact List.getElem?_eq_getElem hjl
        exact hi (bef_done hs hD hlt j j (Nat.le_refl _) _ hjo (hD j _ hDj hjo) i h1)
      · exact hi (h1 ▸ hDj)
  | const v =>
    simp only [evA, Act.eval]
    cases h : ofV v with
    | none => exact .junk _
    | some b => exact .pure _ _ (ofV_PV h)
  | global g => exact .junk _
  | func f => exact .pure _ _ (.func _ _ _ _ _ rfl rfl (fun i h => absurd h (Nat.not_lt_zero _)) (fun i h => absurd h (Nat.not_lt_zero _)))

open Classical in
/-- The values of an operation's own operands, and nothing else. -/
noncomputable def onlyT (o : Oper) (t : Nat → AV) (s : Nat) : AV := if Operand.tmp s ∈ o.op.operands then t s else .junk
theorem only_eq (o : Oper) (t : Nat → AV) : ∀ x ∈ o.op.operands, evA t x = evA (onlyT o t) x := fun x hx => by
  cases x with
  | tmp s => simp only [evA, onlyT]; rw [if_pos hx]
  | _ => rfl
theorem only_RV {o : Oper} {t : Nat → AV} (h : ∀ x ∈ o.op.operands, RV ρ (evA t x) (a.eval x)) : ∀ i, i < a.tmps.size → RV ρ (onlyT o t i) (a.tmps.getD i undef) := fun i _ => by
  unfold onlyT
  by_cases hi : Operand.tmp i ∈ o.op.operands
  · rw [if_pos hi]; exact h _ hi
  · rw [if_neg hi]; exact .junk _

/-- Is the operation wanted? -/
theorem gd_sound {ops : Array Oper} (hs : Stat bl ops.toList bf) (hS : StD P bl ops.toList bf N t0 D pre rest e log h ρ w a) (hok : ∀ o ∈ ops.toList, operOk N o = true) {i : Nat} {o : Oper} (ho : opAt ops.toList i = some o) (hb : ∀ j ∈ befA bf i, D j) {b : Bool}
    (hg : gdV ops.toList (lk e) o.guard = some b) : Region.wanted o (yielded ops a.tmps) = b := by
  unfold gdV at hg
  split at hg
  · rename_i hn
    cases hg
    simp [Region.wanted, hn]
  · rename_i j b' hn
    obtain ⟨hj, d, hd⟩ := hs.grd i o j b' ho hn
    simp only [hd] at hg
    have hy : ∀ r, yielded ops a.tmps j = r → Region.wanted o (yielded ops a.tmps) = (r == some b') := fun r hr => by simp [Region.wanted, hn, hr]
    have hd2 : (ops[j]?).bind (·.dst) = some d := by rw [dstAt_eq] at hd; simpa using hd
    have hdN : d < N := by
      obtain ⟨-, o', ho', hd''⟩ := dstAt_lt hd
      rw [opAt_eq] at ho'
      have := hok o' (List.mem_of_getElem? ho')
      simp only [operOk, hd'', Bool.and_eq_true, decide_eq_true_eq] at this
      exact this.2
    have hv := hS.done d hdN j hd (hb j hj)
    have hget : a.tmps[d]? = some (a.tmps.getD d undef) := by
      have : d < a.tmps.size := by rw [hS.size]; exact hdN
      simp [Array.getD, this]
    have hyd : yielded ops a.tmps j = match a.tmps.getD d undef with | .bool b => some b | _ => none := by
      simp only [yielded, hd2, Option.bind_some, hget]
      cases a.tmps.getD d undef <;> rfl
    split at hg
    · rename_i c hc
      rw [hc] at hv
      rw [inv_bool hv] at hyd
      rw [hy _ hyd]
      cases hg
      cases c <;> cases b' <;> rfl
    · rename_i hc
      rw [hc] at hv
      obtain ⟨vs, hvs, hl, -⟩ := inv_tup hv
      rw [hvs] at hyd
      rw [hy none hyd]
      cases hg
      rfl
    · cases hg

/-- One more is done: a light one that the walk has passed. -/
theorem do_light (hs : Stat bl l bf) (hS : StD P bl l bf N t0 D pre rest e log h ρ w a) {i : Nat} {o : Oper} (ho : opAt l i = some o) (hi : i ∈ pre) (hiD : ¬ D i) {D' : Nat → Prop} (hD' : ∀ k, D' k ↔ D k ∨ k = i) {ρ' : Ip} {w' : World} (hle : ρ.Le ρ') (hR : RH ρ' h w') {vc : Value}
    (hv : ∀ d, o.dst = some d → RV ρ' (lk e d) vc) : StD P bl l bf N t0 D' pre rest e log h ρ' w' (a.put o.dst vc) := by
  have get : ∀ s, s < N → (a.put o.dst vc).tmps.getD s undef = if o.dst = some s then vc else a.tmps.getD s undef := fun s hs' => by
    have hsz : s < a.tmps.size := by rw [hS.size]; exact hs'
    cases hd : o.dst with
    | none => simp [Act.put]
    | some d =>
      simp only [Act.put]
      by_cases h : s = d
      · subst h
        rw [if_pos rfl, Array.getD_eq_getD_getElem?, Array.getElem?_setIfInBounds_self_of_lt hsz]
        rfl
      · rw [if_neg (fun h' => h (Option.some.inj h').symm), Array.getD_eq_getD_getElem?, Array.getElem?_setIfInBounds_ne (Ne.symm h), ← Array.getD_eq_getD_getElem?]
  refine ⟨fun j hj => ?_, fun j hj oj hoj hlj => (hD' j).2 (.inl (hS.hvy j hj oj hoj hlj)), hS.befIn, hR, ?_, ?_, fun s hsN j hj hDj => ?_, fun s hsN hno => ?_, hS.epre, fun k hk hkD => ?_⟩
  · rcases (hD' j).1 hj with hj | rfl
    · exact hS.sub j hj
    · exact hi
  · cases hd : o.dst <;> simp [Act.put, hS.size]
  · cases hd : o.dst <;> simp [Act.put, hS.defers]
  · rw [get s hsN]
    rcases (hD' j).1 hDj with hDj | rfl
    · split
      · rename_i hd
        have := hs.uniq j i s hj (dst_of ho hd)
        exact absurd (this ▸ hDj) hiD
      · exact (hS.done s hsN j hj hDj).mono hle
    · rw [if_pos (dst_op ho hj)]
      exact hv s (dst_op ho hj)
  · rw [get s hsN]
    split
    · rename_i hd
      exact absurd ((hD' i).2 (.inr rfl)) (hno i (dst_of ho hd))
    · exact (hS.old s hsN fun j hj hDj => hno j hj ((hD' j).2 (.inl hDj))).mono hle
  · exact hS.pend k hk fun hDk => hkD ((hD' k).2 (.inl hDk))

/-- One more is done: the heavy one at the head of the order that is walked. -/
theorem do_heavy (hs : Stat bl l bf) {i : Nat} {r : List Nat} (hS : StD P bl l bf N t0 D pre (i :: r) e log h ρ w a) {o : Oper} (ho : opAt l i = some o) (hi : i ∉ pre) (hbef : ∀ j ∈ befA bf i, j ∈ pre) (hb : ∀ j ∈ befA bf i, D j) {D' : Nat → Prop} (hD' : ∀ k, D' k ↔ D k ∨ k = i)
    {ρ' : Ip} {w' : World} {h' : AH} (hle : ρ.Le ρ') (hR : RH ρ' h' w') {v : AV} {vc : Value} (hv : RV ρ' v vc) (hlog : logOk (befA bf i) log h') : StD P bl l bf N t0 D' (i :: pre) r (putE o.dst v e) log h' ρ' w' (a.put o.dst vc) := by
  have hiD : ¬ D i := fun hd => hi (hS.sub i hd)
  have get : ∀ s, s < N → (a.put o.dst vc).tmps.getD s undef = if o.dst = some s then vc else a.tmps.getD s undef := fun s hs' => by
    have hsz : s < a.tmps.size := by rw [hS.size]; exact hs'
    cases hd : o.dst with
    | none => simp [Act.put]
    | some d =>
      simp only [Act.put]
      by_cases h : s = d
      · subst h
        rw [if_pos rfl, Array.getD_eq_getD_getElem?, Array.getElem?_setIfInBounds_self_of_lt hsz]
        rfl
      · rw [if_neg (fun h' => h (Option.some.inj h').symm), Array.getD_eq_getD_getElem?, Array.getElem?_setIfInBounds_ne (Ne.symm h), ← Array.getD_eq_getD_getElem?]
  have nb : ∀ k ∈ pre, i ∉ befA bf k := fun k hk hin => hi (hS.befIn k hk i hin)
  refine ⟨fun j hj => ?_, fun j hj oj hoj hlj => ?_, fun j hj k hk => ?_, hR, ?_, ?_, fun s hsN j hj hDj => ?_, fun s hsN hno => ?_, fun s hs' => ?_, fun k hk hkD => ?_⟩
  · rcases (hD' j).1 hj with hj | rfl
    · exact List.mem_cons_of_mem _ (hS.sub j hj)
    · exact List.mem_cons_self ..
  · rcases List.mem_cons.1 hj with rfl | hj
    · exact (hD' _).2 (.inr rfl)
    · exact (hD' j).2 (.inl (hS.hvy j hj oj hoj hlj))
  · rcases List.mem_cons.1 hj with rfl | hj
    · exact List.mem_cons_of_mem _ (hbef k hk)
    · exact List.mem_cons_of_mem _ (hS.befIn j hj k hk)
  · cases hd : o.dst <;> simp [Act.put, hS.size]
  · cases hd : o.dst <;> simp [Act.put, hS.defers]
  · rw [get s hsN]
    rcases (hD' j).1 hDj with hDj | rfl
    · have hji : j ≠ i := fun h => hiD (h ▸ hDj)
      rw [if_neg (fun hd => hji (hs.uniq j i s hj (dst_of ho hd))), lk_other hs ho hj hji]
      exact (hS.done s hsN j hj hDj).mono hle
    · rw [if_pos (dst_op ho hj), dst_op ho hj]
      simp only [putE, lk_put, if_pos]
      exact hv
  · rw [get s hsN]
    split
    · rename_i hd
      exact absurd ((hD' i).2 (.inr rfl)) (hno i (dst_of ho hd))
    · exact (hS.old s hsN fun j hj hDj => hno j hj ((hD' j).2 (.inl hDj))).mono hle
  · have : lk (putE o.dst v e) s = lk e s := by
      cases hd : o.dst with
      | none => rfl
      | some d =>
        simp only [putE, lk_put]
        rw [if_neg]
        intro h
        subst h
        exact hs' i (dst_of ho hd) (List.mem_cons_self ..)
    rw [this]
    exact hS.epre s fun j hj hjp => hs' j hj (List.mem_cons_of_mem _ hjp)
  · rcases List.mem_cons.1 hk with rfl | hkp
    · exact absurd ((hD' _).2 (.inr rfl)) hkD
    · have hkD0 : ¬ D k := fun hDk => hkD ((hD' k).2 (.inl hDk))
      obtain ⟨ok, hok, hlk, hP'⟩ := hS.pend k hkp hkD0
      refine ⟨ok, hok, hlk, ?_⟩
      have gs : gdV l (lk (putE o.dst v e)) ok.guard = gdV l (lk e) ok.guard := gdV_stable hs ho hok (nb k hkp) v e
      have dk : ∀ d, ok.dst = some d → lk (putE o.dst v e) d = lk e d := fun d hd => lk_other hs ho (dst_of hok hd) (fun h => hi (h ▸ hkp)) v e
      rcases hP' with ⟨hg, M, hM⟩ | ⟨hg, hv'⟩
      · refine .inl ⟨by rw [gs]; exact hg, M, fun h'' hm => ?_, ?_, hM.logged⟩
        · rw [seen_stable hs ho (nb k hkp)]
          exact opW_mono (fun u h3 hu => ⟨fun d hd => by rw [dk d hd]; exact hu.1 d hd, hu.2⟩) (hM.run h'' hm)
        · rw [memoOk_iff]
          intro p hp
          rcases (logOk_iff.1 hlog) (k, p) (hM.logged p hp) with h1 | h1
          · exact absurd (hb k (by simpa using h1)) hkD0
          · exact h1
      · exact .inr ⟨by rw [gs]; exact hg, fun d hd => by rw [dk d hd]; exact hv' d hd⟩

theorem ready_mem {ops : Array Oper} {listed : Array Bool} {i : Nat} : i ∈ Region.ready .any ops listed ↔ i < ops.size ∧ listed.getD i true = false ∧ ∃ o, ops[i]? = some o ∧ ∀ j ∈ dirs o, listed.getD j false = true := by
  simp only [Region.ready, List.mem_filter, List.mem_range, Bool.and_eq_true, Bool.not_eq_true']
  refine and_congr_right fun hi => and_congr_right fun _ => ?_
  rw [Array.getElem?_eq_getElem hi]
  simp only [Option.map_some, Option.getD_some]
  constructor
  · intro h
    refine ⟨_, rfl, fun j hj => ?_⟩
    simp only [dirs, List.mem_map, List.mem_filter] at hj
    obtain ⟨ed, ⟨h1, h2⟩, rfl⟩ := hj
    rw [Array.all_eq_true'] at h
    have := h ed (Array.mem_toList_iff.1 h1)
    simpa [h2] using this
  · rintro ⟨o, ho, h⟩
    cases ho
    rw [Array.all_eq_true']
    intro ed hed
    by_cases hb : Region.binds .any ed = true
    · have := h ed.on (by simp only [dirs, List.mem_map, List.mem_filter]; exact ⟨ed, ⟨Array.mem_toList_iff.2 hed, hb⟩, rfl⟩)
      simp [this]
    · simp [hb]

theorem ready_nil {ops : Array Oper} {listed : Array Bool} (hs : Stat bl ops.toList bf) (hsz : listed.size = ops.size) (h : Region.ready .any ops listed = []) : ∀ i, i < ops.size → listed.getD i false = true := by
  intro i
  induction i using Nat.strongRecOn with
  | _ i ih =>
    intro hi
    by_cases hl : listed.getD i false = true
    · exact hl
    · exfalso
      have hil : i < listed.size := by omega
      have hm : i ∈ Region.ready .any ops listed := by
        refine ready_mem.2 ⟨hi, ?_, ops[i], Array.getElem?_eq_getElem hi, fun j hj => ?_⟩
        · simp [Array.getD, hil] at hl ⊢; exact hl
        · have := (hs.dir_lt i ops[i] j (by rw [opAt_eq]; simp [hi]) hj).1
          exact ih j this (by omega)
      rw [h] at hm; cases hm

theorem planGo_cons {l : List Oper} {done r : List Nat} {i : Nat} (h : planGo bl l bf done (i :: r) = true) : i ∉ done ∧ (∀ j ∈ befA bf i, j ∈ done) ∧ (∃ o, opAt l i = some o ∧ (lightB bl o.op = true ∨ (o.guard = none ∧ ∀ k ∈ r, i ∈ befA bf k))) ∧ planGo bl l bf (i :: done) r = true := by
  simp only [planGo, Bool.and_eq_true, Bool.not_eq_true', List.all_eq_true] at h
  obtain ⟨⟨⟨h1, h2⟩, h3⟩, h4⟩ := h
  refine ⟨by simpa using h1, fun j hj => by simpa using h2 j hj, ?_, h4⟩
  split at h3
  · rename_i o ho
    refine ⟨o, ho, ?_⟩
    simp only [Bool.or_eq_true, Bool.and_eq_true, List.all_eq_true, Option.isNone_iff_eq_none] at h3
    exact h3.imp id fun h => ⟨h.1, fun k hk => by simpa using h.2 k hk⟩
  · cases h3

theorem to_head (hs : Stat bl l bf) {K : Env → AH → Prop} {i : Nat} (hi : ¬ D i) (hb : ∀ j ∈ befA bf i, D j) : ∀ (rest pre : List Nat) (e : Env) (log : List (Nat × Nat × Option (List AV))), StD P bl l bf N t0 D pre rest e log h ρ w a → planGo bl l bf pre rest = true → (∀ k, k < l.length → k ∈ pre ∨ k ∈ rest) → i ∈ rest → regW P bl l bf rest log e h K →
    ∃ pre' r' e' log', StD P bl l bf N t0 D pre' (i :: r') e' log' h ρ w a ∧ planGo bl l bf pre' (i :: r') = true ∧ (∀ k, k < l.length → k ∈ pre' ∨ k ∈ i :: r') ∧ regW P bl l bf (i :: r') log' e' h K
  | [], pre, e, log, hS, hp, hall, hm, hw => by cases hm
  | k :: r, pre, e, log, hS, hp, hall, hm, hw => by
    by_cases hk : k = i
    · subst hk
      exact ⟨pre, r, e, log, hS, hp, hall, hw⟩
    · have hir : i ∈ r := by
        rcases List.mem_cons.1 hm with h | h
        · exact absurd h.symm hk
        · exact h
      obtain ⟨h1, h2, ⟨o, ho, h3⟩, h4⟩ := planGo_cons hp
      rcases h3 with h3 | ⟨-, h3⟩
      · obtain ⟨e', log', hS', hw'⟩ := advance hs hS h1 h2 ho h3 hw
        exact to_head hs hi hb r (k :: pre) e' log' hS' h4 (fun q hq => by
          rcases hall q hq with h | h
          · exact .inl (List.mem_cons_of_mem _ h)
          · rcases List.mem_cons.1 h with h | h
            · exact .inl (h ▸ List.mem_cons_self ..)
            · exact .inr h) hir hw'
      · exact absurd (hS.sub k (hb k (h3 i hir))) h1

theorem any_sound {ops : Array Oper} (hs : Stat bl ops.toList bf) (hok : ∀ o ∈ ops.toList, operOk N o = true) {K : Env → AH → Prop} {Q : Exit → Act → World → Prop} {ρ0 : Ip}
    (hQ : ∀ ρ' e' h' a' w', ρ0.Le ρ' → RH ρ' h' w' → RT ρ' N e' a' → K e' h' → Q .normal a' w') :
    ∀ (fuel : Nat) (listed : Array Bool) (pre rest : List Nat) (e : Env) (log : List (Nat × Nat × Option (List AV))) (h : AH) (ρ : Ip) (w : World) (a : Act), listed.size = ops.size → listed.toList.count false ≤ fuel → Closed ops.toList (fun i => listed.getD i false = true) →
      StD P bl ops.toList bf N t0 (fun i => listed.getD i false = true) pre rest e log h ρ w a → planGo bl ops.toList bf pre rest = true → (∀ k, k < ops.size → k ∈ pre ∨ k ∈ rest) → regW P bl ops.toList bf rest log e h K → ρ0.Le ρ → wpAny P .any ops Q fuel listed a w := by
  -- when all is done
  have finish : ∀ (listed : Array Bool) (pre rest : List Nat) (e : Env) (log : List (Nat × Nat × Option (List AV))) (h : AH) (ρ : Ip) (w : World) (a : Act), (∀ i, i < ops.size → listed.getD i false = true) →
      StD P bl ops.toList bf N t0 (fun i => listed.getD i false = true) pre rest e log h ρ w a → planGo bl ops.toList bf pre rest = true → regW P bl ops.toList bf rest log e h K → ρ0.Le ρ → Q .normal a w := by
    intro listed pre rest e log h ρ w a hall hS hp hw hle
    cases rest with
    | cons i r =>
      obtain ⟨h1, -, ⟨o, ho, -⟩, -⟩ := planGo_cons hp
      rw [opAt_eq] at ho
      have hi : i < ops.size := by simpa using (List.getElem?_eq_some_iff.1 ho).1
      exact absurd (hS.sub i (hall i hi)) h1
    | nil =>
      refine hQ ρ e h a w hle hS.rh ⟨hS.size, fun s hsN => ?_, hS.defers⟩ hw
      by_cases hex : ∃ j, dstAt ops.toList j = some s
      · obtain ⟨j, hj⟩ := hex
        exact hS.done s hsN j hj (hall j (by simpa using (dstAt_lt hj).1))
      · rw [hS.epre s fun j hj => absurd ⟨j, hj⟩ hex]
        exact hS.old s hsN fun j hj => absurd ⟨j, hj⟩ hex
  intro fuel
  induction fuel with
  | zero =>
    intro listed pre rest e log h ρ w a hsz hcount hD hS hp hall hw hle
    have hno : ∀ i, i < ops.size → listed.getD i false = true := fun i hi => by
      have hil : i < listed.size := by omega
      have h0 : listed.toList.count false = 0 := by omega
      have := List.count_eq_zero.1 h0
      cases hb : listed[i] with
      | true => simp [Array.getD, hil, hb]
      | false => exact absurd (hb ▸ Array.getElem_mem_toList hil) this
    refine ⟨?_, finish listed pre rest e log h ρ w a hno hS hp hw hle⟩
    refine List.eq_nil_iff_forall_not_mem.2 fun i hi => ?_
    obtain ⟨h1, h2, -⟩ := ready_mem.1 hi
    have := hno i h1
    have hil : i < listed.size := by omega
    simp [Array.getD, hil] at h2 this
    rw [h2] at this; cases this
  | succ fuel ih =>
    intro listed pre rest e log h ρ w a hsz hcount hD hS hp hall hw hle
    refine ⟨fun hnil => finish listed pre rest e log h ρ w a (ready_nil hs hsz hnil) hS hp hw hle, fun i hi => ?_⟩
    obtain ⟨hi1, hi2, o, ho, hdir⟩ := ready_mem.1 hi
    have hil : i < listed.size := by omega
    have hif : listed[i] = false := by simpa [Array.getD, hil] using hi2
    have hiD : ¬ (listed.getD i false = true) := by simp [Array.getD, hil, hif]
    have ho' : opAt ops.toList i = some o := by rw [opAt_eq]; simpa using ho
    have hom : o ∈ ops.toList := List.mem_of_getElem? (by rw [← opAt_eq]; exact ho')
    have hoo := hok o hom
    have hlt : ∀ i, listed.getD i false = true → i < ops.toList.length := fun k hk => by
      by_cases hkl : k < listed.size
      · simp; omega
      · simp [Array.getD, hkl] at hk
    have hb := bef_done hs hD hlt i i (Nat.le_refl _) o ho' hdir
    have hD' : ∀ k, (listed.setIfInBounds i true).getD k false = true ↔ listed.getD k false = true ∨ k = i := fun k => by
      rw [Array.getD_eq_getD_getElem?, Array.getElem?_setIfInBounds, Array.getD_eq_getD_getElem?]
      by_cases hk : i = k
      · subst hk; simp [hil]
      · rw [if_neg hk]
        constructor
        · exact .inl
        · rintro (h | h)
          · exact h
          · exact absurd h.symm hk
    have hsz' : (listed.setIfInBounds i true).size = ops.size := by simpa using hsz
    have hcount' : (listed.setIfInBounds i true).toList.count false ≤ fuel := by
      rw [Array.toList_setIfInBounds, List.count_set (by simpa using hil)]
      have e1 : (listed.toList[i]'(by simpa using hil)) = false := by simpa using hif
      simp only [e1, beq_self_eq_true, if_true, show (true == false) = false from rfl, Bool.false_eq_true, if_false]
      omega
    have hclosed' : Closed ops.toList (fun k => (listed.setIfInBounds i true).getD k false = true) := fun k ok hk hok' j hj => by
      rcases (hD' k).1 hk with hk | rfl
      · exact (hD' j).2 (.inl (hD k ok hk hok' j hj))
      · rw [ho'] at hok'; cases hok'
        exact (hD' j).2 (.inl (hdir j hj))
    -- an operation that the walk has passed
    have passed : ∀ (pre rest : List Nat) (e : Env) (log : List (Nat × Nat × Option (List AV))), StD P bl ops.toList bf N t0 (fun i => listed.getD i false = true) pre rest e log h ρ w a → planGo bl ops.toList bf pre rest = true → (∀ k, k < ops.size → k ∈ pre ∨ k ∈ rest) → regW P bl ops.toList bf rest log e h K → i ∈ pre →
        wpOp P ops Q i (wpAny P .any ops Q fuel (listed.setIfInBounds i true)) a w := by
      intro pre rest e log hS hp hall hw hip
      obtain ⟨o2, ho2, hl, hpd⟩ := hS.pend i hip hiD
      rw [ho'] at ho2; cases ho2
      unfold wpOp
      rw [ho]
      simp only
      rcases hpd with ⟨hg, M, hM⟩ | ⟨hg, hv⟩
      · rw [if_pos (gd_sound hs hS hok ho' hb hg)]
        have hrun := hM.run h hM.memo
        have hrv := seen_now hs hS hD hlt ho' hiD hdir hoo
        refine .inl (step_sound (P := P) (bl := bl) (N := N) (t := onlyT o (seenT ops.toList bf t0 e i)) (stepW_of_opW (opW_congr (only_eq o _) hrun)) hS.rh hS.size (only_RV hrv) hoo fun v vc ρ' h' w' hle' hR' hv hK => ?_)
        obtain ⟨hK1, rfl⟩ := hK
        exact ih _ pre rest e log _ ρ' w' _ hsz' hcount' hclosed' (do_light hs hS ho' hip hiD hD' hle' hR' fun d hd => by rw [← hK1 d hd]; exact hv) hp hall hw (hle.trans hle')
      · rw [if_neg (by rw [gd_sound hs hS hok ho' hb hg]; simp)]
        exact ih _ pre rest e log _ ρ w _ hsz' hcount' hclosed' (do_light hs hS ho' hip hiD hD' (.refl _) hS.rh fun d hd => by
          rw [hv d hd]; exact .pure _ _ (.tup [] #[] rfl (fun i hi => absurd hi (Nat.not_lt_zero _)))) hp hall hw hle
    by_cases hip : i ∈ pre
    · exact passed pre rest e log hS hp hall hw hip
    · have hir : i ∈ rest := (hall i hi1).resolve_left hip
      obtain ⟨pre', r', e', log', hS', hp', hall', hw'⟩ := to_head hs hiD hb rest pre e log hS hp (by simpa using hall) hir hw
      obtain ⟨h1, h2, ⟨o2, ho2, h3⟩, h4⟩ := planGo_cons hp'
      rw [ho'] at ho2; cases ho2
      have hall2 : ∀ k, k < ops.size → k ∈ i :: pre' ∨ k ∈ r' := fun q hq => by
        rcases hall' q (by simpa using hq) with h | h
        · exact .inl (List.mem_cons_of_mem _ h)
        · rcases List.mem_cons.1 h with h | h
          · exact .inl (h ▸ List.mem_cons_self ..)
          · exact .inr h
      by_cases hlt' : lightB bl o.op = true
      · obtain ⟨e2, log2, hS2, hw2⟩ := advance hs hS' h1 h2 ho' hlt' hw'
        exact passed (i :: pre') r' e2 log2 hS2 h4 hall2 hw2 (List.mem_cons_self ..)
      · obtain ⟨hg, -⟩ := h3.resolve_left hlt'
        have hlf : lightB bl o.op = false := by simpa using hlt'
        simp only [regW, ho', hlf, cond_false] at hw'
        unfold wpOp
        rw [ho]
        simp only
        rw [if_pos (by simp [Region.wanted, hg])]
        have hrv := seen_now hs hS' hD hlt ho' hiD hdir hoo
        have hcong : ∀ x ∈ o.op.operands, evA (lk e') x = evA (onlyT o (seenT ops.toList bf t0 e' i)) x := fun x hx => by
          rw [seen_head hs hS' ho' h1 x hx]; exact only_eq o _ x hx
        refine .inl (step_sound (P := P) (bl := bl) (N := N) (t := onlyT o (seenT ops.toList bf t0 e' i)) (stepW_congr hcong hw') hS'.rh hS'.size (only_RV hrv) hoo fun v vc ρ' h' w' hle' hR' hv hK => ?_)
        exact ih _ (i :: pre') r' _ log' h' ρ' w' _ hsz' hcount' hclosed' (do_heavy hs hS' ho' h1 h2 hb hD' hle' hR' hv hK.1) h4 hall2 hK.2 (hle.trans hle')

theorem reg_sound {id : Nat} {ops : Array Oper} {plan : List Nat} {e : Env} {K : Env → AH → Prop} {Q : Exit → Act → World → Prop} (hm : P.follows .mixedOrders = true) (hp : planOk bl ops.toList bf plan = true) (hok : ∀ o ∈ ops.toList, operOk N o = true) (hw : regW P bl ops.toList bf plan [] e h K)
    (hR : RH ρ h w) (hT : RT ρ N e a) (hQ : ∀ ρ' e' h' a' w', ρ.Le ρ' → RH ρ' h' w' → RT ρ' N e' a' → K e' h' → Q .normal a' w') : (Code.region id ops true).wp P Q a w := by
  obtain ⟨hs, hgo, hall⟩ := stat_of hp
  have hno : ∀ i, ¬ ((Array.replicate ops.size false).getD i false = true) := fun i hi => by
    rw [Array.getD_eq_getD_getElem?, Array.getElem?_replicate] at hi
    split at hi <;> simp at hi
  refine wp_region_any hm ?_
  refine any_sound (t0 := lk e) hs hok hQ ops.size _ [] plan e [] h ρ _ a (by simp) (by simp) (fun i o hi => absurd hi (hno i)) ⟨fun i hi => absurd hi (hno i), fun i hi => (by cases hi), fun i hi => (by cases hi), hR.drew, hT.size, hT.defers, fun s hs' j hj hD => absurd hD (hno j), fun s hs' _ => hT.get s hs', fun s _ => rfl, fun i hi => (by cases hi)⟩ hgo (fun k hk => .inr (hall k (by simpa using hk))) hw (.refl _)
end
end Go.Eng
