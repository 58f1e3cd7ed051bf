/- An engine, part 8: operations whose order is drawn. Over any program. -/
import Derived.Test.YtgfhddockofdnaaE7
set_option linter.unusedVariables false
set_option linter.unusedSimpArgs false
namespace Go.Eng
open Go.RowKit (Below)

/-- Operations that leave the abstract memory as it is. -/
def lightB (bl : Bool) (op : Op) : Bool := match op with
  | .move _ | .assign _ | .pick .. | .load .. | .build .. | .nilCheck _ | .binOp .. | .unOp .. | .convert .. | .makeFunc .. | .makeInterface .. | .slice .. | .fieldAddr .. | .field .. | .indexAddr .. | .index .. | .extract .. => true
  | .buildSlice .. => !bl
  | .call c => (match c.callee with
    | .builtin .len => true
    | _ => false)
  | _ => false

/-- What of the memory a light operation's outcome hangs on. -/
def memoOf (op : Op) (e : Operand → AV) (h : AH) : List (Nat × Option (List AV)) := match op with
  | .load _ x => (match e x with
    | .ptr b _ => [(b, h.f b)]
    | _ => [])
  | _ => []
def memoOk : List (Nat × Option (List AV)) → AH → Prop
  | [], _ => True
  | p :: r, h => h.f p.1 = p.2 ∧ memoOk r h
theorem memoOk_iff {h : AH} : ∀ {M : List (Nat × Option (List AV))}, memoOk M h ↔ ∀ p ∈ M, h.f p.1 = p.2
  | [] => by simp [memoOk]
  | p :: r => by simp [memoOk, memoOk_iff (M := r)]

section
variable {P : Program}

/-- One value that a predicate on values holds of stands for all that is needed. -/
def Det (F : (AV → Prop) → Prop) : Prop := ∀ K, F K → ∃ v, K v ∧ F (fun u => u = v)

theorem det_id (v : AV) : Det fun K => K v := fun K h => ⟨v, h, rfl⟩
theorem det_and {p : Prop} {F : (AV → Prop) → Prop} (h : Det F) : Det fun K => p ∧ F K := fun K ⟨h1, h2⟩ => let ⟨v, a, b⟩ := h K h2; ⟨v, a, h1, b⟩
theorem det_ex {α : Type} {F : α → (AV → Prop) → Prop} (h : ∀ x, Det (F x)) : Det fun K => ∃ x, F x K := fun K ⟨x, hx⟩ => let ⟨v, a, b⟩ := h x K hx; ⟨v, a, x, b⟩
theorem det_or {F G : (AV → Prop) → Prop} (h : Det F) (g : Det G) : Det fun K => F K ∨ G K := fun K hk => by
  rcases hk with hk | hk
  · obtain ⟨v, a, b⟩ := h K hk; exact ⟨v, a, .inl b⟩
  · obtain ⟨v, a, b⟩ := g K hk; exact ⟨v, a, .inr b⟩
theorem det_false : Det fun _ => False := fun K h => h.elim
theorem det_map {F : (AV → Prop) → Prop} (h : Det F) (g : AV → AV) (hm : ∀ K K' : AV → Prop, (∀ v, K v → K' v) → F K → F K') : Det fun K => F fun v => K (g v) := fun K hk => by
  obtain ⟨v, a, b⟩ := h _ hk
  exact ⟨g v, a, hm _ _ (fun u hu => by rw [hu]) b⟩

theorem det_ar (op : BinOp) (k : IntKind) (a b : Int) : Det (arW op k a b) := by
  intro K h
  cases op <;> simp only [arW] at h ⊢ <;> first | exact ⟨_, h, rfl⟩ | exact ⟨_, h.2, h.1, rfl⟩
theorem det_st (op : BinOp) (a b : ByteArray) : Det (stW op a b) := by
  intro K h
  cases op <;> simp only [stW] at h ⊢ <;> first | exact h.elim | exact ⟨_, h, rfl⟩ | exact ⟨_, h.2, h.1, rfl⟩
theorem det_bin (op : BinOp) (t : TypeId) (x y : AV) : Det (binW P op t x y) := by
  intro K h
  unfold binW at h ⊢
  split at h
  · obtain ⟨v, a, b⟩ := det_ar _ _ _ _ K h.2; exact ⟨v, a, h.1, b⟩
  · obtain ⟨h0, h⟩ := h
    rcases h with ⟨e, h⟩ | ⟨e, h⟩
    · exact ⟨_, h, h0, .inl ⟨e, rfl⟩⟩
    · exact ⟨_, h, h0, .inr ⟨e, rfl⟩⟩
  · exact det_st _ _ _ K h
  · exact h.elim
theorem det_un (op : UnOp) (x : AV) : Det (unW op x) := by
  intro K h
  unfold unW at h ⊢
  split at h
  · exact ⟨_, h, rfl⟩
  · exact ⟨_, h, rfl⟩
  · exact det_ar _ _ _ _ K h
  · exact h.elim
theorem det_cv (s d : TypeId) (x : AV) : Det (cvW P s d x) := by
  intro K h
  unfold cvW at h ⊢
  split at h
  · obtain ⟨h0, k, h1, h2⟩ := h; exact ⟨_, h2, h0, k, h1, rfl⟩
  · exact h.elim
theorem det_part (off sz : Nat) (ft : TypeId) (cs : List AV) : Det (partW P off sz ft cs) := by
  intro K h
  unfold partW at h ⊢
  rcases h with ⟨h1, h2, h⟩ | ⟨h1, h2, h⟩
  · exact ⟨_, h, .inl ⟨h1, h2, rfl⟩⟩
  · exact ⟨_, h, .inr ⟨h1, h2, rfl⟩⟩
theorem det_len (t : TypeId) (x : AV) : Det (lenW P t x) := by
  intro K h
  unfold lenW at h ⊢
  split at h <;> first | exact ⟨_, h.2, h.1, rfl⟩ | exact h.elim
theorem det_idx (t : TypeId) (x i : AV) : Det (idxAW P t x i) := by
  intro K h
  unfold idxAW at h ⊢
  split at h
  · obtain ⟨e, h1, h2, h3, h4, h5⟩ := h; exact ⟨_, h5, e, h1, h2, h3, h4, rfl⟩
  · obtain ⟨e, s, h1, h2, h3, h4, h5⟩ := h; exact ⟨_, h5, e, s, h1, h2, h3, h4, rfl⟩
  · exact h.elim
theorem det_fld (t : TypeId) (x : AV) (f : Nat) : Det (fldAW P t x f) := by
  intro K h
  unfold fldAW at h ⊢
  obtain ⟨off, sz, ft, h1, h2, h⟩ := h
  split at h
  · exact ⟨_, h, off, sz, ft, h1, h2, rfl⟩
  · obtain ⟨v, a, b⟩ := det_map (det_part (P := P) off sz ft _) AV.eptr (fun K K' hk h => by
      unfold partW at h ⊢
      rcases h with ⟨h1, h2, h⟩ | ⟨h1, h2, h⟩
      · exact .inl ⟨h1, h2, hk _ h⟩
      · exact .inr ⟨h1, h2, hk _ h⟩) K h
    exact ⟨v, a, off, sz, ft, h1, h2, b⟩
  · exact h.elim
theorem det_cut (t : TypeId) (x : AV) (lo hi mx : Option AV) : Det (cutW P t x lo hi mx) := by
  intro K h
  unfold cutW at h ⊢
  split at h
  · obtain ⟨h1, h2, l, r, h3, h4, h5, h6, h7⟩ := h; exact ⟨_, h7, h1, h2, l, r, h3, h4, h5, h6, rfl⟩
  · obtain ⟨e, h1, h2, l, r, h3, h4, h5, h6, h⟩ := h
    rcases h with ⟨h7, h8⟩ | ⟨k, k', h7, h8, h9⟩
    · exact ⟨_, h8, e, h1, h2, l, r, h3, h4, h5, h6, .inl ⟨h7, rfl⟩⟩
    · exact ⟨_, h9, e, h1, h2, l, r, h3, h4, h5, h6, .inr ⟨k, k', h7, h8, rfl⟩⟩
  · obtain ⟨e, s, h1, h2, l, r, h3, h4, h5, h6, h7, h8, h9⟩ := h; exact ⟨_, h9, e, s, h1, h2, l, r, h3, h4, h5, h6, h7, h8, rfl⟩
  · exact h.elim

/-- A light operation's outcome is one value, and it is the same in every memory that agrees on what it looked at. -/
theorem light_out {bl : Bool} {op : Op} {e : Operand → AV} {h : AH} {K : AV → AH → Prop} (hl : lightB bl op = true) (hw : stepW P bl op e h K) :
    ∃ v, K v h ∧ ∀ h', memoOk (memoOf op e h) h' → opW P bl op e h' (fun u h'' => u = v ∧ h'' = h') := by
  have lift : ∀ {F : (AV → Prop) → Prop} (hd : Det F) (hm : ∀ K K' : AV → Prop, (∀ v, K v → K' v) → F K → F K'), F (fun v => K v h) → ∃ v, K v h ∧ ∀ h' : AH, F (fun u => u = v ∧ h' = h') := fun hd hm hF => by
    obtain ⟨v, a, b⟩ := hd _ hF
    exact ⟨v, a, fun h' => hm _ _ (fun u hu => ⟨hu, rfl⟩) b⟩
  cases op <;> simp only [lightB] at hl <;> first | (cases hl; done) | skip
  case move x => exact ⟨_, hw, fun h' _ => ⟨rfl, rfl⟩⟩
  case assign x => exact ⟨_, hw, fun h' _ => ⟨rfl, rfl⟩⟩
  case pick c a b =>
    simp only [stepW, opW] at hw
    simp only [opW]
    unfold condW at hw ⊢
    split at hw
    rotate_left
    · exact hw.elim
    rename_i t h1
    obtain ⟨h2, h3⟩ := hw
    cases t with
    | true => exact ⟨_, h2 rfl, fun h' _ => by simp [gifW, h1]⟩
    | false => exact ⟨_, h3 rfl, fun h' _ => by simp [gifW, h1]⟩
  case load t x =>
    simp only [stepW, opW] at hw
    simp only [memoOf, opW]
    unfold loadW at hw
    split at hw
    · rename_i v hv
      exact ⟨v, hw.2, fun h' _ => by rw [hv]; exact ⟨hw.1, rfl, rfl⟩⟩
    · rename_i b o hv
      obtain ⟨cs, h1, h2⟩ := hw
      rcases h2 with ⟨h2, h3, h4⟩ | ⟨n, h2, h3, h4, h5⟩
      · exact ⟨_, h4, fun h' hM => by
          rw [hv] at hM ⊢
          exact ⟨cs, by rw [← h1]; exact hM.1, .inl ⟨h2, h3, rfl, rfl⟩⟩⟩
      · exact ⟨_, h5, fun h' hM => by
          rw [hv] at hM ⊢
          exact ⟨cs, by rw [← h1]; exact hM.1, .inr ⟨n, h2, h3, h4, rfl, rfl⟩⟩⟩
    · exact hw.elim
  case build t parts =>
    obtain ⟨za, pl, out, h1, h2, h3⟩ := hw
    exact ⟨_, h3, fun h' _ => ⟨za, pl, out, h1, h2, rfl, rfl⟩⟩
  case buildSlice t n parts =>
    obtain ⟨el, sz, h1, h2, h3, h4, h5, h6, h7, h8⟩ := hw
    rcases h8 with ⟨h8, h9, h10⟩ | ⟨h8, -⟩
    · exact ⟨_, h10, fun h' _ => ⟨el, sz, h1, h2, h3, h4, h5, h6, h7, .inl ⟨h8, h9, rfl, rfl⟩⟩⟩
    · rw [h8] at hl; cases hl
  case nilCheck x =>
    simp only [stepW, opW] at hw
    simp only [opW]
    unfold nilW at hw ⊢
    split at hw <;> first | exact hw.elim | skip
    all_goals
      rename_i hv
      exact ⟨_, hw, fun h' _ => by first | exact ⟨rfl, trivial⟩ | (simp [hv])⟩
  case binOp op t x y yt =>
    obtain ⟨v, a, b⟩ := lift (F := binW P op t (e x) (e y)) (det_bin _ _ _ _) (fun K K' hk h => by
      unfold binW at h ⊢
      split at h
      · exact ⟨h.1, arW_mono hk h.2⟩
      · exact ⟨h.1, h.2.imp (fun h => ⟨h.1, hk _ h.2⟩) (fun h => ⟨h.1, hk _ h.2⟩)⟩
      · cases op <;> simp only [stW] at h ⊢ <;> first | exact h.elim | exact hk _ h | exact ⟨h.1, hk _ h.2⟩
      · exact h.elim) hw
    exact ⟨v, a, fun h' _ => b h'⟩
  case unOp op t x =>
    obtain ⟨v, a, b⟩ := lift (F := unW op (e x)) (det_un _ _) (fun K K' hk h => by
      unfold unW at h ⊢
      split at h <;> first | exact h.elim | exact arW_mono hk h | exact hk _ h) hw
    exact ⟨v, a, fun h' _ => b h'⟩
  case convert s d x =>
    obtain ⟨v, a, b⟩ := lift (F := cvW P s d (e x)) (det_cv _ _ _) (fun K K' hk h => by
      unfold cvW at h ⊢
      split at h
      · obtain ⟨h0, k, h1, h2⟩ := h; exact ⟨h0, k, h1, hk _ h2⟩
      · exact h.elim) hw
    exact ⟨v, a, fun h' _ => b h'⟩
  case makeFunc fn fs cs => exact ⟨_, hw, fun h' _ => ⟨rfl, rfl⟩⟩
  case makeInterface t x => exact ⟨_, hw.2, fun h' _ => ⟨hw.1, rfl, rfl⟩⟩
  case slice t x lo hi mx =>
    obtain ⟨v, a, b⟩ := lift (F := cutW P t (e x) (lo.map e) (hi.map e) (mx.map e)) (det_cut _ _ _ _ _) (fun K K' hk h => by
      unfold cutW at h ⊢
      split at h
      · obtain ⟨h1, h2, l, r, h3, h4, h5, h6, h7⟩ := h; exact ⟨h1, h2, l, r, h3, h4, h5, h6, hk _ h7⟩
      · obtain ⟨el, h1, h2, l, r, h3, h4, h5, h6, h⟩ := h
        exact ⟨el, h1, h2, l, r, h3, h4, h5, h6, h.imp (fun h => ⟨h.1, hk _ h.2⟩) (fun ⟨k, k', h7, h8, h9⟩ => ⟨k, k', h7, h8, hk _ h9⟩)⟩
      · obtain ⟨el, s, h1, h2, l, r, h3, h4, h5, h6, h7, h8, h9⟩ := h; exact ⟨el, s, h1, h2, l, r, h3, h4, h5, h6, h7, h8, hk _ h9⟩
      · exact h.elim) hw
    exact ⟨v, a, fun h' _ => b h'⟩
  case fieldAddr t x f =>
    obtain ⟨v, a, b⟩ := lift (F := fldAW P t (e x) f) (det_fld _ _ _) (fun K K' hk h => by
      unfold fldAW at h ⊢
      obtain ⟨off, sz, ft, h1, h2, h⟩ := h
      refine ⟨off, sz, ft, h1, h2, ?_⟩
      split at h
      · exact hk _ h
      · unfold partW at h ⊢
        exact h.imp (fun h => ⟨h.1, h.2.1, hk _ h.2.2⟩) (fun h => ⟨h.1, h.2.1, hk _ h.2.2⟩)
      · exact h.elim) hw
    exact ⟨v, a, fun h' _ => b h'⟩
  case field t x f =>
    obtain ⟨off, sz, ft, cs, h1, h2, h3⟩ := hw
    obtain ⟨v, a, b⟩ := lift (F := partW P off sz ft cs) (det_part _ _ _ _) (fun K K' hk h => by
      unfold partW at h ⊢
      exact h.imp (fun h => ⟨h.1, h.2.1, hk _ h.2.2⟩) (fun h => ⟨h.1, h.2.1, hk _ h.2.2⟩)) h3
    exact ⟨v, a, fun h' _ => ⟨off, sz, ft, cs, h1, h2, b h'⟩⟩
  case indexAddr t x i =>
    obtain ⟨v, a, b⟩ := lift (F := idxAW P t (e x) (e i)) (det_idx _ _ _) (fun K K' hk h => by
      unfold idxAW at h ⊢
      split at h
      · obtain ⟨el, h1, h2, h3, h4, h5⟩ := h; exact ⟨el, h1, h2, h3, h4, hk _ h5⟩
      · obtain ⟨el, s, h1, h2, h3, h4, h5⟩ := h; exact ⟨el, s, h1, h2, h3, h4, hk _ h5⟩
      · exact h.elim) hw
    exact ⟨v, a, fun h' _ => b h'⟩
  case index t x i =>
    obtain ⟨s, k, n, h1, h2, h3, h4, h5, h6⟩ := hw
    exact ⟨_, h6, fun h' _ => ⟨s, k, n, h1, h2, h3, h4, h5, rfl, rfl⟩⟩
  case extract x i =>
    obtain ⟨vs, h1, h2, h3⟩ := hw
    exact ⟨_, h3, fun h' _ => ⟨vs, h1, h2, rfl, rfl⟩⟩
  case call c =>
    obtain ⟨callee, args, argTypes⟩ := c
    cases callee with
    | value x => cases hl
    | invoke r m => cases hl
    | builtin b =>
      cases b <;> simp only at hl <;> first | (cases hl; done) | skip
      simp only [stepW, opW] at hw
      obtain ⟨x, ty, h1, h2, h3⟩ := hw
      obtain ⟨v, a, b⟩ := lift (F := lenW P ty (e x)) (det_len _ _) (fun K K' hk h => by
        unfold lenW at h ⊢
        split at h <;> first | exact h.elim | exact ⟨h.1, hk _ h.2⟩) h3
      exact ⟨v, a, fun h' _ => ⟨x, ty, h1, h2, b h'⟩⟩

theorem map_congr_opt {e e' : Operand → AV} {x : Option Operand} (h : ∀ y, x = some y → e y = e' y) : x.map e = x.map e' := by
  cases x with
  | none => rfl
  | some y => simp [h y rfl]

/-- An operation looks at its operands alone. -/
theorem opW_congr {bl : Bool} {op : Op} {e e' : Operand → AV} {h : AH} {K : AV → AH → Prop} (he : ∀ x ∈ op.operands, e x = e' x) (hw : opW P bl op e h K) : opW P bl op e' h K := by
  cases op <;> simp only [opW] at hw ⊢ <;> first | exact hw.elim | exact hw | skip
  case build t parts =>
    have : (parts.toList.map fun p => (p.1, e p.2)) = parts.toList.map fun p => (p.1, e' p.2) := List.map_congr_left fun p hp => by rw [he p.2 (by simp only [Op.operands]; exact List.mem_toArray.2 (List.mem_map.2 ⟨p, hp, rfl⟩))]
    rw [← this]; exact hw
  case buildSlice t n parts =>
    have h1 : (parts.toList.map fun p => (p.1, e p.2)) = parts.toList.map fun p => (p.1, e' p.2) := List.map_congr_left fun p hp => by rw [he p.2 (by simp only [Op.operands]; exact List.mem_toArray.2 (List.mem_map.2 ⟨p, hp, rfl⟩))]
    have h2 : (parts.toList.map fun p => e p.2) = parts.toList.map fun p => e' p.2 := List.map_congr_left fun p hp => by rw [he p.2 (by simp only [Op.operands]; exact List.mem_toArray.2 (List.mem_map.2 ⟨p, hp, rfl⟩))]
    rw [← h1, ← h2]; exact hw
  case makeFunc fn fs cs =>
    have h1 : fs.toList.map e = fs.toList.map e' := List.map_congr_left fun p hp => he p (by simp only [Op.operands]; exact Array.mem_append_left _ (Array.mem_toList_iff.1 hp))
    have h2 : cs.toList.map e = cs.toList.map e' := List.map_congr_left fun p hp => he p (by simp only [Op.operands]; exact Array.mem_append_right _ (Array.mem_toList_iff.1 hp))
    rw [← h1, ← h2]; exact hw
  case slice t x lo hi mx =>
    have h0 := he x (by simp [Op.operands])
    have h1 : lo.map e = lo.map e' := map_congr_opt fun y hy => he y (by subst hy; simp [Op.operands])
    have h2 : hi.map e = hi.map e' := map_congr_opt fun y hy => he y (by subst hy; simp [Op.operands])
    have h3 : mx.map e = mx.map e' := map_congr_opt fun y hy => he y (by subst hy; simp [Op.operands])
    rw [← h0, ← h1, ← h2, ← h3]; exact hw
  case call c =>
    obtain ⟨callee, args, argTypes⟩ := c
    cases callee with
    | value x => exact hw
    | invoke r m => exact hw
    | builtin b =>
      cases b <;> first | exact hw | skip
      case len =>
        obtain ⟨x, ty, h1, h2, h3⟩ := hw
        simp only at h1
        subst h1
        have := he x (by simp [Op.operands, Call.operands])
        exact ⟨x, ty, rfl, h2, by rw [← this]; exact h3⟩
      case append =>
        obtain ⟨s, x, ty, h1, h2, h3⟩ := hw
        simp only at h1
        subst h1
        have k1 := he s (by simp [Op.operands, Call.operands])
        have k2 := he x (by simp [Op.operands, Call.operands])
        exact ⟨s, x, ty, rfl, h2, by rw [← k1, ← k2]; exact h3⟩
  all_goals
    simp only [Op.operands] at he
    simp [he] at hw ⊢
    simpa [← he] using hw

theorem stepW_congr {bl : Bool} {op : Op} {e e' : Operand → AV} {h : AH} {K : AV → AH → Prop} (he : ∀ x ∈ op.operands, e x = e' x) (hw : stepW P bl op e h K) : stepW P bl op e' h K := by
  cases op
  case call c =>
    obtain ⟨callee, args, argTypes⟩ := c
    cases callee with
    | value x =>
      simp only [stepW] at hw ⊢
      have h0 := he x (by simp [Op.operands, Call.operands])
      have h1 : args.toList.map e = args.toList.map e' := List.map_congr_left fun p hp => he p (by
        simp only [Op.operands, Call.operands]
        exact Array.mem_append_right _ (Array.mem_toList_iff.1 hp))
      rw [← h0, ← h1]; exact hw
    | invoke r m => exact hw.elim
    | builtin b => exact opW_congr (P := P) (bl := bl) (h := h) (K := K) he hw
  all_goals exact opW_congr (P := P) (bl := bl) (h := h) (K := K) he hw
theorem partW_mono {off sz : Nat} {ft : TypeId} {cs : List AV} {K K' : AV → Prop} (hk : ∀ v, K v → K' v) (h : partW P off sz ft cs K) : partW P off sz ft cs K' := by
  unfold partW at h ⊢
  exact h.imp (fun h => ⟨h.1, h.2.1, hk _ h.2.2⟩) (fun h => ⟨h.1, h.2.1, hk _ h.2.2⟩)
theorem binW_mono {op : BinOp} {t : TypeId} {x y : AV} {K K' : AV → Prop} (hk : ∀ v, K v → K' v) (h : binW P op t x y K) : binW P op t x y K' := by
  unfold binW at h ⊢
  split at h
  · exact ⟨h.1, arW_mono hk h.2⟩
  · exact ⟨h.1, h.2.imp (fun h => ⟨h.1, hk _ h.2⟩) (fun h => ⟨h.1, hk _ h.2⟩)⟩
  · cases op <;> simp only [stW] at h ⊢ <;> first | exact h.elim | exact hk _ h | exact ⟨h.1, hk _ h.2⟩
  · exact h.elim
theorem opW_mono {bl : Bool} {op : Op} {e : Operand → AV} {h : AH} {K K' : AV → AH → Prop} (hk : ∀ v h', K v h' → K' v h') (hw : opW P bl op e h K) : opW P bl op e h K' := by
  cases op <;> simp only [opW] at hw ⊢ <;> first | exact hw.elim | exact hk _ _ hw | exact ⟨hw.1, hk _ _ hw.2⟩ | skip
  case pick c a b =>
    unfold condW at hw ⊢
    split at hw
    · obtain ⟨h2, h3⟩ := hw; exact ⟨fun x => hk _ _ (h2 x), fun x => hk _ _ (h3 x)⟩
    · exact hw.elim
  case alloc t => obtain ⟨z, h1, h2, h3⟩ := hw; exact ⟨z, h1, h2, hk _ _ h3⟩
  case load t x =>
    unfold loadW at hw ⊢
    split at hw
    · exact ⟨hw.1, hk _ _ hw.2⟩
    · obtain ⟨cs, h1, h2⟩ := hw
      exact ⟨cs, h1, h2.imp (fun ⟨a, b, c⟩ => ⟨a, b, hk _ _ c⟩) (fun ⟨n, a, b, c, d⟩ => ⟨n, a, b, c, hk _ _ d⟩)⟩
    · exact hw.elim
  case store t a x =>
    unfold storeW at hw ⊢
    split at hw
    · obtain ⟨cs, h1, h2, h3, h4, h5⟩ := hw; exact ⟨cs, h1, h2, h3, h4, hk _ _ h5⟩
    · exact hw.elim
  case build t parts => obtain ⟨za, pl, out, h1, h2, h3⟩ := hw; exact ⟨za, pl, out, h1, h2, hk _ _ h3⟩
  case buildSlice t n parts =>
    obtain ⟨el, sz, h1, h2, h3, h4, h5, h6, h7, h8⟩ := hw
    exact ⟨el, sz, h1, h2, h3, h4, h5, h6, h7, h8.imp (fun ⟨a, b, c⟩ => ⟨a, b, hk _ _ c⟩) (fun ⟨a, b, c⟩ => ⟨a, b, hk _ _ c⟩)⟩
  case nilCheck x =>
    unfold nilW at hw ⊢
    split at hw <;> first | exact hw.elim | exact hk _ _ hw
  case binOp op t x y yt => exact binW_mono (fun v => hk v h) hw
  case unOp op t x =>
    unfold unW at hw ⊢
    split at hw <;> first | exact hw.elim | exact arW_mono (fun v => hk v h) hw | exact hk _ _ hw
  case convert s d x =>
    unfold cvW at hw ⊢
    split at hw
    · obtain ⟨h0, k, h1, h2⟩ := hw; exact ⟨h0, k, h1, hk _ _ h2⟩
    · exact hw.elim
  case makeSlice t a b =>
    obtain ⟨el, sz, by_, z, kl, kc, n, h1, h2, h3, h4, h5, h6, h7, h8, h9, h10, h11, h12, h13⟩ := hw
    exact ⟨el, sz, by_, z, kl, kc, n, h1, h2, h3, h4, h5, h6, h7, h8, h9, h10, h11, h12, hk _ _ h13⟩
  case slice t x lo hi mx =>
    unfold cutW at hw ⊢
    split at hw
    · obtain ⟨h1, h2, l, r, h3, h4, h5, h6, h7⟩ := hw; exact ⟨h1, h2, l, r, h3, h4, h5, h6, hk _ _ h7⟩
    · obtain ⟨el, h1, h2, l, r, h3, h4, h5, h6, h⟩ := hw
      exact ⟨el, h1, h2, l, r, h3, h4, h5, h6, h.imp (fun h => ⟨h.1, hk _ _ h.2⟩) (fun ⟨k, k', h7, h8, h9⟩ => ⟨k, k', h7, h8, hk _ _ h9⟩)⟩
    · obtain ⟨el, s, h1, h2, l, r, h3, h4, h5, h6, h7, h8, h9⟩ := hw; exact ⟨el, s, h1, h2, l, r, h3, h4, h5, h6, h7, h8, hk _ _ h9⟩
    · exact hw.elim
  case fieldAddr t x f =>
    unfold fldAW at hw ⊢
    obtain ⟨off, sz, ft, h1, h2, h'⟩ := hw
    refine ⟨off, sz, ft, h1, h2, ?_⟩
    split at h'
    · exact hk _ _ h'
    · exact partW_mono (fun v => hk _ h) h'
    · exact h'.elim
  case field t x f =>
    obtain ⟨off, sz, ft, cs, h1, h2, h3⟩ := hw
    exact ⟨off, sz, ft, cs, h1, h2, partW_mono (fun v => hk _ h) h3⟩
  case indexAddr t x i =>
    unfold idxAW at hw ⊢
    split at hw
    · obtain ⟨el, h1, h2, h3, h4, h5⟩ := hw; exact ⟨el, h1, h2, h3, h4, hk _ _ h5⟩
    · obtain ⟨el, s, h1, h2, h3, h4, h5⟩ := hw; exact ⟨el, s, h1, h2, h3, h4, hk _ _ h5⟩
    · exact hw.elim
  case index t x i => obtain ⟨s, k, n, h1, h2, h3, h4, h5, h6⟩ := hw; exact ⟨s, k, n, h1, h2, h3, h4, h5, hk _ _ h6⟩
  case extract x i => obtain ⟨vs, h1, h2, h3⟩ := hw; exact ⟨vs, h1, h2, hk _ _ h3⟩
  case call c =>
    split at hw
    · obtain ⟨x, t, h1, h2, h3⟩ := hw
      refine ⟨x, t, h1, h2, ?_⟩
      unfold lenW at h3 ⊢
      split at h3 <;> first | exact h3.elim | exact ⟨h3.1, hk _ _ h3.2⟩
    · obtain ⟨s, x, t, h1, h2, h3⟩ := hw
      refine ⟨s, x, t, h1, h2, ?_⟩
      rcases h3 with ⟨hb, h3⟩ | ⟨hb, h3⟩
      rotate_left
      · refine .inr ⟨hb, ?_⟩
        unfold appBW at h3 ⊢
        obtain ⟨el, by_, z, ys, k1, k2, k3, k4, k5, k6, k7, k8, h3⟩ := h3
        refine ⟨el, by_, z, ys, k1, k2, k3, k4, k5, k6, k7, k8, ?_⟩
        split at h3
        · exact ⟨h3.1, h3.2.1, hk _ _ h3.2.2⟩
        · obtain ⟨q1, q2, cs, q3, q4, q5, q6, q7⟩ := h3
          exact ⟨q1, q2, cs, q3, q4, q5, q6, hk _ _ q7⟩
        · exact h3.elim
      refine .inl ⟨hb, ?_⟩
      unfold appW at h3 ⊢
      obtain ⟨el, sz, by_, z, k1, k2, k3, k4, k5, k6, k7, h3⟩ := h3
      refine ⟨el, sz, by_, z, k1, k2, k3, k4, k5, k6, k7, ?_⟩
      split at h3
      · obtain ⟨q1, q2, q3⟩ := h3
        refine ⟨q1, q2, ?_⟩
        split at q3
        · exact ⟨q3.1, q3.2.1, hk _ _ q3.2.2⟩
        · exact ⟨q3.1, q3.2.1, q3.2.2.1, hk _ _ q3.2.2.2⟩
        · exact ⟨q3.1, q3.2.1, q3.2.2.1, q3.2.2.2.1, hk _ _ q3.2.2.2.2⟩
        · exact q3.elim
      · exact h3.elim
    · exact hw.elim

/-- A light operation whose outcome is known: more may be said of it. -/
theorem opW_imp {bl : Bool} {op : Op} {e : Operand → AV} {h : AH} {K K' : AV → AH → Prop} (hl : lightB bl op = true) (hw : opW P bl op e h K) (hk : ∀ v h', K v h' → K' v h') : opW P bl op e h K' := opW_mono hk hw

theorem stepW_of_opW {bl : Bool} {op : Op} {e : Operand → AV} {h : AH} {K : AV → AH → Prop} (hw : opW P bl op e h K) : stepW P bl op e h K := by
  cases op
  case call c =>
    obtain ⟨callee, args, argTypes⟩ := c
    cases callee with
    | value x => exact hw.elim
    | invoke r m => exact hw
    | builtin b => exact hw
  all_goals exact hw
end
end Go.Eng
