/- An engine, part 17: on the way, a block is said never to be written again. Over any program. -/
import Derived.Test.YtgfhddockofdnaaE16
set_option linter.unusedVariables false
set_option linter.unusedSimpArgs false
namespace Go.Eng
open Go.RowKit (Below)

theorem good_freeze {P : Program} {N : Nat} {code : Code} {e : Env} {h : AH} {Q : Post} {b : Nat} {cs : List AV} (i n : Nat) (c : Cp) (hb : h.f b = some cs) (hp : allB pur cs = true) (ho : allB oneA cs = true) (hi : lk e i = .bsl b 0 n c) (hn : n ≤ cs.length)
    (hg : Good P N code (e.put i (.tree 1 ((roL cs).take n) .ro)) (h.rm b) Q) : Good P N code e h Q := fun hok ρ w a hR hT => by
  obtain ⟨ρ', hle, hR', hv⟩ := hR.freeze hb hp ho
  refine wp_mono (hg hok ρ' w a hR' ⟨hT.size, fun j hj => ?_, hT.defers⟩) fun ex a' w' ⟨ρ2, e2, h2, k1, k2, k3, k4⟩ => ⟨ρ2, e2, h2, hle.trans k1, k2, k3, k4⟩
  rw [lk_put]
  by_cases hji : j = i
  · subst hji
    rw [if_pos rfl]
    have := hT.get j hj
    rw [hi] at this
    exact .pure _ _ (hv n c _ hn this)
  · rw [if_neg hji]
    exact (hT.get j hj).mono hle

theorem freeze_row {P : Program} {N : Nat} {code : Code} {e : Env} {h : AH} {Q : Post} {b : Nat} {r : List Int} (i n : Nat) (c : Cp) (hb : h.f b = some (r.map (AV.int .i64))) (hi : lk e i = .bsl b 0 n c) (hn : n = r.length)
    (hg : Good P N code (e.put i (rowV r)) (h.rm b) Q) : Good P N code e h Q := by
  refine good_freeze i n c hb (pur_ints r) (one_ints r) hi (by simp [hn]) ?_
  rw [roL_ints, hn, List.take_of_length_le (by simp)]
  exact hg
theorem mk_rm (h : AH) (x : List AV) : (h.mk_ x).rm h.n = { h with f := upd h.f h.n none, n := h.n + 1 } := AH.ext_ (fun b => by simp only [AH.rm, AH.mk_, upd]; split <;> rfl) rfl (fun _ => rfl) rfl
theorem Ext.rm_new {h H : AH} (he : Ext h H) (x : List AV) : Ext h ((H.mk_ x).rm H.n) := (he.mk_ x).rm he.n
theorem freeze_reg {P : Program} {N : Nat} {id : Nat} {ops : Array Oper} {d : Bool} {e : Env} {h : AH} {Q : Post} {b : Nat} {r : List Int} (i n : Nat) (c : Cp) (hb : h.f b = some (r.map (AV.int .i64))) (hi : lk e i = .bsl b 0 n c) (hn : n = r.length)
    (hg : Good P N (.region id ops d) (e.put i (rowV r)) (h.rm b) Q) : Good P N (.region id ops d) e h Q := freeze_row i n c hb hi hn hg
theorem getD_set (l : List Int) (j : Nat) (v : Int) (hj : j < l.length) : (l.set j v).getD j 0 = v := by simp [List.getD_eq_getElem?_getD, hj]
end Go.Eng
