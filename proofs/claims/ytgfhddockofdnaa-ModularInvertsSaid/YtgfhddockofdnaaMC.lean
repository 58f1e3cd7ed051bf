/- Texts E18 E19 E20 F1 E21 E22 E23 E24 E25 E26 F2 E27 E28 E29 E30 E31 E32 of an engine over abstract values and of the walks of this program, one after the other. -/
import Derived.Test.YtgfhddockofdnaaMB
import Derived.WalkKit
import Derived.ProofKit
import Derived.OpenShut
import Derived.ShutString
import Derived.ChangeOld
import Derived.Below
import Derived.SizedLaws
import Derived.Deep.Strs
/- An engine, part 18: the rules, gathered. -/
set_option linter.unusedVariables false
set_option linter.unusedSimpArgs false
namespace Go.Eng
open Go Go.Proofs
attribute [go_sem ↓] ev_tmp ev_const ev_func lk_cons lk_nil putE_some putE_none put_cons put_nil
attribute [go_sem] st_move st_assign st_pick st_load st_store st_box st_alloc st_build st_buildSlice st_nilCheck st_binOp st_unOp st_convert st_makeInterface st_makeFunc st_makeSlice st_slice st_fieldAddr st_field st_indexAddr st_index st_extract pm_n pm_O pm_mk_O pm_last pm_lput pmC_get pmC_length mk_n put_n AH.mk_f AH.put_f AH.put_put AH.mk_put copies_nils copies_zero set_int getD_int List.length_append List.length_map List.length_replicate List.length_take pur_accO memA_accO cells_accO oneA_accO len_accO accO_nil int_snoc row_snoc roA_acc' ld_eptr ld_ptr getD_set List.set_set List.length_set init_cons init_nil holds_cons holds_nil castS wrap64 t_normal t_exit t_ret bk_normal bk_ret bk_here bk_exit e_normal e_ret r_one r_cell r_nil r_two r_three rv_tmp rv_cell ofV ofV1 ofVs Option.getD_some dstAt opAt lightB befA memoOf logOk ar_add ar_sub ar_mul ar_quo ar_rem ar_and ar_or ar_xor ar_andNot ar_eql ar_neq ar_lss ar_leq ar_gtr ar_geq ar_shl ar_shr freeK onSome_some onBnd_none onBnd_int aggW_agg tupW_tup g_none g_some g_dnone g_dsome g_bool g_undef c_bool n_ptr n_eptr n_func b_int b_booleq b_boolne u_neg u_not u_xor cv_int l_eptr l_ptr s_ptr len_nils len_tree len_bsl len_row len_mat len_acc ix_tree ix_bsl ix_row ix_mat p_part f_ptr f_eptr call_func o_move o_assign o_pick o_load o_store o_box o_alloc o_build o_lit o_litM o_nil o_bin o_un o_cv o_func m_int o_make o_slice o_fldA o_fld o_ixA o_ext o_len o_litM0 o_app o_appB ac_cons ac_tree ac_row ac_tree0 ac_row0 ac_nils ad_ne ad_neS ad_tree ad_row ad_tree0 ad_row0 ad_bsl0 ad_nils sl_nils sl_tree sl_bsl sl_row as_nils as_bsl st_call st_built cut_tree cut_row cut_mat cut_bsl sb_tree sb_bsl ab_nils ab_bsl fit_int fit_bool fit_tree fit_agg fit_nils fits_row fits_mat memA_row memA_mat cells_row cells_mat oneA_row oneA_mat pur_row pur_mat roA_row roA_mat mm_int oo_int cc_int pp_int mm_bool oo_bool cc_bool pp_bool mm_str oo_str cc_str pp_str mm_nilp oo_nilp cc_nilp pp_nilp mm_ptr oo_ptr cc_ptr mm_eptr oo_eptr cc_eptr pp_eptr mm_nils oo_nils cc_nils pp_nils mm_tree oo_tree cc_tree pp_tree mm_bsl oo_bsl cc_bsl mm_func oo_func cc_func mm_nilf oo_nilf cc_nilf pp_nilf mm_iface oo_iface cc_iface mm_nili oo_nili cc_nili pp_nili mm_agg oo_agg cc_agg pp_agg pl_nil pl_cons ra_int ra_bool ra_nils ra_agg ra_own ra_ro ra_full ra_bsl rl_nil rl_cons elemB elemM allB catA inOrder gif_tt gif_tf gif_ft gif_ff gif_dt gif_df gif_et gif_ef gif_nt gif_nf gif_not splice_one List.map_cons List.map_nil List.length_cons List.length_nil List.append_nil List.nil_append List.cons_append List.append_assoc List.getD_cons_zero List.getD_cons_succ List.contains_cons List.contains_nil Bool.or_false Bool.false_or Bool.or_true Bool.true_or Bool.or_self cond_true cond_false Option.some.injEq AV.int.injEq AV.bool.injEq AV.func.injEq AV.tup.injEq AV.agg.injEq Prod.mk.injEq and_true true_and and_false false_and or_true true_or or_false false_or and_self not_true_eq_false not_false_eq_true forall_const true_implies false_implies implies_true decide_eq_true_eq decide_eq_false_iff_not decide_true decide_false Bool.not_true Bool.not_false beq_self_eq_true Bool.and_true Bool.true_and Bool.and_self Bool.false_eq_true Bool.true_eq_false bne_iff_ne ne_eq beq_iff_eq Bool.and_eq_true Int.toNat_natCast Nat.zero_add Nat.add_zero Nat.mul_one Nat.one_mul Option.isSome_some eq_self
attribute [go_sem] szT_0 byT_0 agT_0 knT_0 szT_2 byT_2 agT_2 knT_2 kdT_2 zrT_2 szT_3 byT_3 agT_3 knT_3 kdT_3 zrT_3 szT_4 byT_4 agT_4 knT_4 zrT_4 szT_5 byT_5 agT_5 knT_5 kdT_5 zrT_5 szT_22 byT_22 agT_22 elT_22 knT_22 zrT_22 szT_23 byT_23 agT_23 elT_23 knT_23 zrT_23 szT_24 byT_24 agT_24 knT_24 zrT_24 szT_25 byT_25 agT_25 knT_25 zrT_25 szT_30 byT_30 agT_30 knT_30 kdT_30 zrT_30 szT_35 byT_35 agT_35 knT_35 kdT_35 zrT_35 szT_38 byT_38 agT_38 elT_38 knT_38 zrT_38 szT_46 byT_46 agT_46 elT_46 knT_46 zrT_46 szT_57 byT_57 agT_57 knT_57 zrT_57 szT_58 byT_58 agT_58 knT_58 zrT_58 szT_59 byT_59 agT_59 knT_59 zrT_59 szT_61 byT_61 agT_61 elT_61 knT_61 zrT_61 szT_70 byT_70 agT_70 elT_70 knT_70 zrT_70 szT_74 byT_74 agT_74 elT_74 knT_74 zrT_74 szT_75 byT_75 agT_75 elT_75 knT_75 zrT_75 szT_76 byT_76 agT_76 knT_76 zrT_76 szT_77 byT_77 agT_77 knT_77 zrT_77 szT_84 byT_84 agT_84 knT_84 kdT_84 zrT_84 szT_95 byT_95 agT_95 knT_95 kdT_95 zrT_95 szT_96 byT_96 agT_96 knT_96 kdT_96 zrT_96 szT_97 byT_97 agT_97 knT_97 kdT_97 zrT_97 und_0 und_2 und_3 und_4 und_5 und_22 und_23 und_24 und_25 und_30 und_35 und_38 und_46 und_57 und_58 und_59 und_61 und_70 und_74 und_75 und_76 und_77 und_84 und_95 und_96 und_97 okF_15 okF_42 okF_48 okF_43 okF_47 okF_58 okF_59 okF_25 okF_19 okF_21 okF_45 okF_46 okF_49 okF_50 okF_23 okF_16 okF_40 okF_17 okF_41 okF_18 okF_36 okF_54 okF_83 okF_70 okF_44 okF_60 okF_61 okF_26 okF_20 okF_3 okF_22 okF_89 okF_81 okF_82 okF_57 okF_90 okF_79 okF_86 okF_77 okF_95 okF_96 okF_97 okF_93 okF_88 okF_98 okF_94 okF_91 okF_80 okF_55 okF_62 okF_63 okF_73 okF_78 okF_53 okF_56 okF_92 okF_85 okF_87 okF_74 okF_64 okF_31 okF_71 okF_51 okF_84 okF_72 okF_75 okF_76 okF_52 okF_24 okF_4 okF_27 okF_5 okF_28 okF_29 okF_6 okF_30 okF_7 okF_65 okF_32 okF_66 okF_33 okF_8 okF_34 okF_67 okF_35 okF_9 okF_10 okF_37 okF_11 okF_68 okF_38 okF_39 okF_12 okF_13 okF_14
end Go.Eng
/- An engine, part 19: matrices whose rows change places. Over any program. -/
set_option linter.unusedVariables false
set_option linter.unusedSimpArgs false
namespace Go.Eng
open Go.RowKit (Below)

/-- Less needs to be known of the memory. -/
def HUp (h h' : AH) : Prop := ∀ ρ w, RH ρ h w → RH ρ h' w
theorem HUp.refl (h : AH) : HUp h h := fun _ _ x => x
theorem ACalls.heap {P : Program} {f : FuncId} {args : List AV} {h h' : AH} {R : AV → AH → Prop} (hu : HUp h h') (hc : ACalls P f args h' R) : ACalls P f args h R := fun ρ w argc hR hL => hc ρ w argc (hu ρ w hR) hL
theorem HUp.pm {h : AH} {m : Nat} {R : List (List Int)} (hr : ∀ r ∈ R, r.length = m) : HUp (pmH h R.length m R) (matH { h with n := h.n + 1 + R.length } h.n (idsOf h.n R.length) m R) := fun _ _ x => pm_mat hr x

/-- Two elements change places. -/
def swp {α : Type} (d : α) (l : List α) (i j : Nat) : List α := (l.set i (l.getD j d)).set j (l.getD i d)
def sw (i j k : Nat) : Nat := if k = j then i else if k = i then j else k
theorem swp_length {α : Type} (d : α) (l : List α) (i j : Nat) : (swp d l i j).length = l.length := by simp [swp]
theorem swp_get {α : Type} (d : α) (l : List α) {i j k : Nat} (hi : i < l.length) (hj : j < l.length) : (swp d l i j).getD k d = l.getD (sw i j k) d := by
  simp only [swp, sw, List.getD_eq_getElem?_getD]
  by_cases h1 : k = j
  · subst h1
    rw [if_pos rfl, List.getElem?_set_self (by simpa using hj)]
    rfl
  · rw [if_neg h1, List.getElem?_set_ne (Ne.symm h1)]
    by_cases h2 : k = i
    · subst h2
      rw [if_pos rfl, List.getElem?_set_self hi]
      rfl
    · rw [if_neg h2, List.getElem?_set_ne (Ne.symm h2)]
theorem sw_lt {i j k n : Nat} (hi : i < n) (hj : j < n) (hk : k < n) : sw i j k < n := by unfold sw; split <;> (try split) <;> omega
theorem sw_sw (i j k : Nat) : sw i j (sw i j k) = k := by unfold sw; repeat' split <;> try omega
theorem swp_mem {α : Type} (d : α) (l : List α) {i j : Nat} (hi : i < l.length) (hj : j < l.length) {x : α} (h : x ∈ swp d l i j) : x ∈ l := by
  obtain ⟨k, hk, rfl⟩ := List.mem_iff_getElem.1 h
  rw [swp_length] at hk
  have e : (swp d l i j)[k]'(by rw [swp_length]; exact hk) = (swp d l i j).getD k d := by simp [List.getD_eq_getElem?_getD, swp_length, hk]
  have hs := sw_lt hi hj hk
  rw [e, swp_get d l hi hj, List.getD_eq_getElem?_getD, List.getElem?_eq_getElem hs]
  exact List.getElem_mem hs
theorem swp_nodup {l : List Nat} {i j : Nat} (hn : l.Nodup) (hi : i < l.length) (hj : j < l.length) : (swp 0 l i j).Nodup := by
  rw [List.nodup_iff_pairwise_ne, List.pairwise_iff_getElem]
  intro a b ha hb hab he
  rw [swp_length] at ha hb
  have e : ∀ k (hk : k < l.length), (swp 0 l i j)[k]'(by rw [swp_length]; exact hk) = l[sw i j k]'(sw_lt hi hj hk) := fun k hk => by
    have e1 : (swp 0 l i j)[k]'(by rw [swp_length]; exact hk) = (swp 0 l i j).getD k 0 := by simp [List.getD_eq_getElem?_getD, swp_length, hk]
    rw [e1, swp_get 0 l hi hj]
    simp [List.getD_eq_getElem?_getD, sw_lt hi hj hk]
  rw [e a ha, e b hb] at he
  have h1 := (List.getElem_inj (h₀ := sw_lt hi hj ha) (h₁ := sw_lt hi hj hb) hn).1 he
  have h2 : sw i j (sw i j a) = sw i j (sw i j b) := by rw [h1]
  rw [sw_sw, sw_sw] at h2
  omega

section
variable {h : AH} {O : Nat} {ids : List Nat} {m : Nat} {M : List (List Int)}
theorem MatOk.swp (ho : MatOk O ids m M) {i j : Nat} (hi : i < ids.length) (hj : j < ids.length) : MatOk O (swp 0 ids i j) m (swp [] M i j) :=
  ⟨swp_nodup ho.nodup hi hj, fun h => ho.out (swp_mem 0 ids hi hj h), by rw [swp_length, swp_length, ho.len], fun r hr => ho.rows r (swp_mem [] M (by rw [← ho.len]; exact hi) (by rw [← ho.len]; exact hj) hr)⟩
theorem rowsC_swp (i j : Nat) : ((rowsC ids m).set i (.bsl (ids.getD j 0) 0 m .ro)).set j (.bsl (ids.getD i 0) 0 m .ro) = rowsC (swp 0 ids i j) m := by
  simp [rowsC, Go.Eng.swp, List.map_set]
theorem matH_swp (ho : MatOk O ids m M) {i j : Nat} (hi : i < ids.length) (hj : j < ids.length) : (matH h O ids m M).put O (((rowsC ids m).set i (.bsl (ids.getD j 0) 0 m .ro)).set j (.bsl (ids.getD i 0) 0 m .ro)) = matH h O (swp 0 ids i j) m (swp [] M i j) := by
  rw [rowsC_swp]
  refine AH.ext_ (fun b => ?_) rfl (fun _ => rfl) rfl
  simp only [AH.put, upd, matH]
  by_cases hO : b = O
  · rw [if_pos hO, if_pos hO]
  · rw [if_neg hO, if_neg hO, if_neg hO]
    have hiM : i < M.length := by rw [← ho.len]; exact hi
    have hjM : j < M.length := by rw [← ho.len]; exact hj
    cases hx : ids.idxOf? b with
    | none =>
      have hnot : b ∉ ids := List.idxOf?_eq_none_iff.1 hx
      have : (swp 0 ids i j).idxOf? b = none := List.idxOf?_eq_none_iff.2 fun hm => hnot (swp_mem 0 ids hi hj hm)
      rw [this]
    | some k =>
      obtain ⟨k1, k2, -⟩ := List.idxOf?_eq_some_iff.1 hx
      have hb : b = (swp 0 ids i j).getD (sw i j k) 0 := by
        rw [swp_get 0 ids hi hj, sw_sw, List.getD_eq_getElem?_getD, List.getElem?_eq_getElem k1]
        exact k2.symm
      have h3 : (swp 0 ids i j).idxOf? b = some (sw i j k) := by
        have := idxOf_get (swp_nodup ho.nodup hi hj) (i := sw i j k) (by rw [swp_length]; exact sw_lt hi hj k1)
        rw [← hb] at this
        exact this
      rw [h3]
      simp only
      rw [swp_get [] M hiM hjM, sw_sw]
theorem mh_row (ho : MatOk O ids m M) {i : Nat} (hi : i < ids.length) : (matH h O ids m M).f (ids.getD i 0) = some ((M.getD i []).map (AV.int .i64)) := matH_row ho (by rw [← ho.len]; exact hi)
theorem mh_put (ho : MatOk O ids m M) {i : Nat} (hi : i < ids.length) (r : List Int) : (matH h O ids m M).put (ids.getD i 0) (r.map (AV.int .i64)) = matH h O ids m (M.set i r) := matH_put ho (by rw [← ho.len]; exact hi) r
theorem mh_n : (matH h O ids m M).n = h.n := rfl
theorem mh_k : (matH h O ids m M).k = h.k := rfl
theorem mh_other {b : Nat} (h1 : b ≠ O) (h2 : b ∉ ids) : (matH h O ids m M).f b = h.f b := by
  simp only [matH, if_neg h1, List.idxOf?_eq_none_iff.2 h2]
theorem mh_mk (x : List AV) (h1 : O < h.n) (h2 : ∀ b ∈ ids, b < h.n) : (matH h O ids m M).mk_ x = matH (h.mk_ x) O ids m M := by
  refine AH.ext_ (fun b => ?_) rfl (fun _ => rfl) rfl
  simp only [AH.mk_, upd, matH]
  by_cases hb : b = h.n
  · subst hb
    have : h.n ∉ ids := fun hm => by have := h2 _ hm; omega
    rw [if_pos rfl, if_neg (by omega), List.idxOf?_eq_none_iff.2 this]
    simp
  · rw [if_neg hb]
    by_cases hO : b = O
    · rw [if_pos hO, if_pos hO]
    · rw [if_neg hO, if_neg hO, if_neg hb]
/-- Where a row has grown. -/
theorem mh_grew {κ : Nat} {H' : AH} (g : Grew κ (matH h O ids m M) H') : H' = matH { H' with f := h.f } O ids m M := by
  refine AH.ext_ (fun b => ?_) rfl (fun _ => rfl) rfl
  rw [g.f]
  simp only [matH]
theorem getD_setM (l : List (List Int)) (j : Nat) (v : List Int) (hj : j < l.length) : (l.set j v).getD j [] = v := by simp [List.getD_eq_getElem?_getD, hj]
theorem getD_setNe {α : Type} (d : α) (l : List α) {j k : Nat} (v : α) (hj : k ≠ j) : (l.set j v).getD k d = l.getD k d := by simp [List.getD_eq_getElem?_getD, List.getElem?_set_ne (Ne.symm hj)]
theorem ids_ne (ho : MatOk O ids m M) {i : Nat} (hi : i < ids.length) : ids.getD i 0 ≠ O := fun e => ho.out (by rw [← e]; simp [List.getD_eq_getElem?_getD, hi])
theorem ids_inj (ho : MatOk O ids m M) {i j : Nat} (hi : i < ids.length) (hj : j < ids.length) (hij : i ≠ j) : ids.getD i 0 ≠ ids.getD j 0 := fun e => hij (by
  have e1 : ids.getD i 0 = ids[i] := by simp [List.getD_eq_getElem?_getD, hi]
  have e2 : ids.getD j 0 = ids[j] := by simp [List.getD_eq_getElem?_getD, hj]
  rw [e1, e2] at e
  exact (List.getElem_inj ho.nodup).1 e)
theorem ids_mem {i : Nat} (hi : i < ids.length) : ids.getD i 0 ∈ ids := by simp [List.getD_eq_getElem?_getD, hi]

/-- A row that is changed from the left. -/
def upto (f : Nat → Int) (r : List Int) (k : Nat) : List Int := (List.range k).map f ++ r.drop k
theorem upto_zero (f : Nat → Int) (r : List Int) : upto f r 0 = r := by simp [upto]
theorem upto_length (f : Nat → Int) (r : List Int) {k : Nat} (hk : k ≤ r.length) : (upto f r k).length = r.length := by simp [upto]; omega
theorem upto_full (f : Nat → Int) (r : List Int) {n : Nat} (hn : r.length = n) : upto f r n = (List.range n).map f := by simp [upto, List.drop_of_length_le (Nat.le_of_eq hn)]
theorem upto_set (f : Nat → Int) (r : List Int) {k : Nat} (hk : k < r.length) : (upto f r k).set k (f k) = upto f r (k + 1) := by
  have h1 : ((List.range k).map f).length = k := by simp
  have h2 : r.drop k = r[k] :: r.drop (k + 1) := List.drop_eq_getElem_cons hk
  have h3 : (List.range (k + 1)).map f = (List.range k).map f ++ [f k] := by simp [List.range_succ]
  unfold upto
  rw [List.set_append_right _ _ (by simp), h1, Nat.sub_self, h2, h3, List.append_assoc]
  rfl
theorem upto_ge (f : Nat → Int) (r : List Int) {k j : Nat} (hk : k ≤ j) : (upto f r k).getD j 0 = r.getD j 0 := by
  have h1 : ((List.range k).map f).length = k := by simp
  simp only [upto, List.getD_eq_getElem?_getD]
  rw [List.getElem?_append_right (by simp; omega), h1, List.getElem?_drop]
  congr 2
  omega
theorem upto_lt (f : Nat → Int) (r : List Int) {k j : Nat} (hk : j < k) : (upto f r k).getD j 0 = f j := by
  simp only [upto, List.getD_eq_getElem?_getD]
  rw [List.getElem?_append_left (by simp; omega)]
  simp [hk]
end
attribute [go_sem] matH_O rowsC_length rowsC_get mh_row mh_put mh_n mh_k
end Go.Eng
/- What echelon computes. No program in sight. -/
set_option linter.unusedVariables false
set_option linter.unusedSimpArgs false
namespace Go.Eng

/-- Entries are remainders. -/
def InR (p : Int) (m : Nat) (A : List (List Int)) : Prop := ∀ i j, i < A.length → j < m → 0 ≤ (A.getD i []).getD j 0 ∧ (A.getD i []).getD j 0 < p
/-- All rows are m long. -/
def Wid (m : Nat) (A : List (List Int)) : Prop := ∀ i, i < A.length → (A.getD i []).length = m

theorem map_range_get (f : Nat → Int) {m j : Nat} (hj : j < m) : ((List.range m).map f).getD j 0 = f j := by simp [List.getD_eq_getElem?_getD, hj]
theorem map_range_getL (f : Nat → List Int) {m j : Nat} (hj : j < m) : ((List.range m).map f).getD j [] = f j := by simp [List.getD_eq_getElem?_getD, hj]

theorem InR.swp {p : Int} {m : Nat} {A : List (List Int)} (h : InR p m A) {i j : Nat} (hi : i < A.length) (hj : j < A.length) : InR p m (swp [] A i j) := fun a b ha hb => by
  rw [swp_length] at ha
  rw [swp_get [] A hi hj]
  exact h _ b (sw_lt hi hj ha) hb
theorem Wid.swp {m : Nat} {A : List (List Int)} (h : Wid m A) {i j : Nat} (hi : i < A.length) (hj : j < A.length) : Wid m (swp [] A i j) := fun a ha => by
  rw [swp_length] at ha
  rw [swp_get [] A hi hj]
  exact h _ (sw_lt hi hj ha)
theorem InR.set {p : Int} {m : Nat} {A : List (List Int)} (h : InR p m A) (i : Nat) {r : List Int} (hr : ∀ j, j < m → 0 ≤ r.getD j 0 ∧ r.getD j 0 < p) : InR p m (A.set i r) := fun a b ha hb => by
  rw [List.length_set] at ha
  by_cases hai : a = i
  · subst hai; rw [getD_setM _ _ _ ha]; exact hr b hb
  · rw [getD_setNe [] A r hai]; exact h a b ha hb
theorem Wid.set {m : Nat} {A : List (List Int)} (h : Wid m A) (i : Nat) {r : List Int} (hr : r.length = m) : Wid m (A.set i r) := fun a ha => by
  rw [List.length_set] at ha
  by_cases hai : a = i
  · subst hai; rw [getD_setM _ _ _ ha]; exact hr
  · rw [getD_setNe [] A r hai]; exact h a ha

/-- The inverse of a number, 0 if there is none. -/
def invL (a m : Int) : Option Nat := (List.range m.toNat).find? fun x => a * (x : Int) % m == 1
def invF (a m : Int) : Int := ((invL a m).getD 0 : Nat)
def invB (a m : Int) : Bool := (invL a m).isSome

/-- The first row from i on that is not 0 in the column c. -/
def fnzG (A : List (List Int)) (c : Nat) : Nat → Nat → Nat
  | 0, i => i
  | n + 1, i => if (A.getD i []).getD c 0 = 0 then fnzG A c n (i + 1) else i
def fnz (A : List (List Int)) (c top : Nat) : Nat := fnzG A c (A.length - top) top
theorem fnzG_zero {A : List (List Int)} {c i : Nat} (hi : i < A.length) (h : (A.getD i []).getD c 0 = 0) : fnzG A c (A.length - i) i = fnzG A c (A.length - (i + 1)) (i + 1) := by
  have e : A.length - i = (A.length - (i + 1)) + 1 := by omega
  rw [e]; simp only [fnzG, if_pos h]
theorem fnzG_here {A : List (List Int)} {c i : Nat} (hi : i < A.length) (h : (A.getD i []).getD c 0 ≠ 0) : fnzG A c (A.length - i) i = i := by
  have e : A.length - i = (A.length - (i + 1)) + 1 := by omega
  rw [e]; simp only [fnzG, if_neg h]
theorem fnzG_end {A : List (List Int)} {c i : Nat} (hi : i = A.length) : fnzG A c (A.length - i) i = i := by
  have e : A.length - i = 0 := by omega
  rw [e]; rfl

def scaleF (r : List Int) (f p : Int) (k : Nat) : Int := r.getD k 0 * f % p
def scaleR (r : List Int) (m : Nat) (f p : Int) : List Int := (List.range m).map (scaleF r f p)
def subG (Y X : List Int) (f p : Int) (k : Nat) : Int := (Y.getD k 0 - f * X.getD k 0 % p) % p
def elimRow (A : List (List Int)) (top c m : Nat) (p : Int) (i : Nat) : List Int :=
  if i = top then A.getD i [] else if (A.getD i []).getD c 0 = 0 then A.getD i [] else (List.range m).map (subG (A.getD i []) (A.getD top []) ((A.getD i []).getD c 0) p)
/-- The first n rows are done. -/
def elimM (A : List (List Int)) (top c m : Nat) (p : Int) (n : Nat) : List (List Int) := (List.range n).map (elimRow A top c m p) ++ A.drop n

section
variable {A : List (List Int)} {top c m : Nat} {p : Int}
theorem elim_zero : elimM A top c m p 0 = A := by simp [elimM]
theorem elim_length {n : Nat} (hn : n ≤ A.length) : (elimM A top c m p n).length = A.length := by simp [elimM]; omega
theorem elim_lt {n i : Nat} (hi : i < n) : (elimM A top c m p n).getD i [] = elimRow A top c m p i := by
  simp only [elimM, List.getD_eq_getElem?_getD]
  rw [List.getElem?_append_left (by simp; omega)]
  simp [hi]
theorem elim_ge {n i : Nat} (hi : n ≤ i) : (elimM A top c m p n).getD i [] = A.getD i [] := by
  have h1 : ((List.range n).map (elimRow A top c m p)).length = n := by simp
  simp only [elimM, List.getD_eq_getElem?_getD]
  rw [List.getElem?_append_right (by simp; omega), h1, List.getElem?_drop]
  congr 2
  omega
theorem elim_top {n : Nat} : (elimM A top c m p n).getD top [] = A.getD top [] := by
  by_cases h : top < n
  · rw [elim_lt h]; simp [elimRow]
  · exact elim_ge (by omega)
theorem elim_set {n : Nat} (hn : n < A.length) : (elimM A top c m p n).set n (elimRow A top c m p n) = elimM A top c m p (n + 1) := by
  have h1 : ((List.range n).map (elimRow A top c m p)).length = n := by simp
  have h2 : A.drop n = A[n] :: A.drop (n + 1) := List.drop_eq_getElem_cons hn
  have h3 : (List.range (n + 1)).map (elimRow A top c m p) = (List.range n).map (elimRow A top c m p) ++ [elimRow A top c m p n] := by simp [List.range_succ]
  unfold elimM
  rw [List.set_append_right _ _ (by simp), h1, Nat.sub_self, h2, h3, List.append_assoc]
  rfl
theorem elim_same {n : Nat} (hn : n < A.length) (h : elimRow A top c m p n = A.getD n []) : elimM A top c m p (n + 1) = elimM A top c m p n := by
  rw [← elim_set hn, h]
  have h1 : ((List.range n).map (elimRow A top c m p)).length = n := by simp
  have h2 : A.drop n = A[n] :: A.drop (n + 1) := List.drop_eq_getElem_cons hn
  have h4 : A.getD n [] = A[n] := by simp [List.getD_eq_getElem?_getD, hn]
  unfold elimM
  rw [List.set_append_right _ _ (by simp), h1, Nat.sub_self, h2, h4]
  rfl
theorem elimRow_length (hw : Wid m A) {i : Nat} (hi : i < A.length) : (elimRow A top c m p i).length = m := by
  unfold elimRow
  split
  · exact hw i hi
  · split
    · exact hw i hi
    · simp
theorem elimRow_in (hp : 0 < p) (hb : InR p m A) {i j : Nat} (hi : i < A.length) (hj : j < m) : 0 ≤ (elimRow A top c m p i).getD j 0 ∧ (elimRow A top c m p i).getD j 0 < p := by
  unfold elimRow
  split
  · exact hb i j hi hj
  · split
    · exact hb i j hi hj
    · rw [map_range_get _ hj]
      exact ⟨Int.emod_nonneg _ (by omega), Int.emod_lt_of_pos _ hp⟩
theorem elim_wid (hw : Wid m A) {n : Nat} (hn : n ≤ A.length) : Wid m (elimM A top c m p n) := fun i hi => by
  rw [elim_length hn] at hi
  by_cases h : i < n
  · rw [elim_lt h]; exact elimRow_length hw hi
  · rw [elim_ge (by omega)]; exact hw i hi
theorem elim_in (hp : 0 < p) (hb : InR p m A) {n : Nat} (hn : n ≤ A.length) : InR p m (elimM A top c m p n) := fun i j hi hj => by
  rw [elim_length hn] at hi
  by_cases h : i < n
  · rw [elim_lt h]; exact elimRow_in hp hb hi hj
  · rw [elim_ge (by omega)]; exact hb i j hi hj
end

def scaled (A1 : List (List Int)) (top c m : Nat) (p : Int) : List (List Int) := A1.set top (scaleR (A1.getD top []) m (invF ((A1.getD top []).getD c 0) p) p)
def echStep (p : Int) (m : Nat) (A : List (List Int)) (top c i : Nat) : List (List Int) := elimM (scaled (swp [] A top i) top c m p) top c m p A.length
def echL (p : Int) (m : Nat) : Nat → List (List Int) → Nat → Nat → List Int → List (List Int) × Nat × List Int
  | 0, A, top, _, piv => (A, top, piv)
  | n + 1, A, top, c, piv => if top < A.length then
      (if fnz A c top = A.length then echL p m n A top (c + 1) piv else echL p m n (echStep p m A top c (fnz A c top)) (top + 1) (c + 1) (piv ++ [(c : Int)]))
    else (A, top, piv)
/-- The rows, the number of those that are not 0, and the pivots. -/
def echA (p : Int) (A : List (List Int)) : List (List Int) × Nat × List Int := echL p (A.getD 0 []).length (A.getD 0 []).length A 0 0 []
theorem ech_stop {p : Int} {m : Nat} {A : List (List Int)} {top c : Nat} {piv : List Int} (h : c = m ∨ ¬ top < A.length) : echL p m (m - c) A top c piv = (A, top, piv) := by
  cases hx : m - c with
  | zero => rfl
  | succ n =>
    have h2 : ¬ top < A.length := by omega
    simp only [echL, if_neg h2]
theorem ech_skip {p : Int} {m : Nat} {A : List (List Int)} {top c : Nat} {piv : List Int} (hc : c < m) (ht : top < A.length) (h : fnz A c top = A.length) : echL p m (m - c) A top c piv = echL p m (m - (c + 1)) A top (c + 1) piv := by
  have e : m - c = (m - (c + 1)) + 1 := by omega
  rw [e]; simp only [echL, if_pos ht, if_pos h]
theorem ech_go {p : Int} {m : Nat} {A : List (List Int)} {top c i : Nat} {piv : List Int} (hc : c < m) (ht : top < A.length) (h : fnz A c top = i) (hi : i < A.length) : echL p m (m - c) A top c piv = echL p m (m - (c + 1)) (echStep p m A top c i) (top + 1) (c + 1) (piv ++ [(c : Int)]) := by
  have e : m - c = (m - (c + 1)) + 1 := by omega
  subst h
  rw [e]; simp only [echL, if_pos ht, if_neg (show ¬ fnz A c top = A.length by omega)]
theorem set_same {A : List (List Int)} {i : Nat} (hi : i < A.length) : A.set i (A.getD i []) = A := by
  have : A.getD i [] = A[i] := by simp [List.getD_eq_getElem?_getD, hi]
  rw [this, List.set_getElem_self]
end Go.Eng
/- More facts on types and functions of the seat Ytgfhddockofdnaa, gathered. -/
set_option linter.unusedVariables false
set_option linter.unusedSimpArgs false
namespace Go.Eng
open Go.Proofs
theorem okF_69 : okF Go.Proofs.Try.prog 69 = true := by kernel_rfl
attribute [go_sem] okF_69
end Go.Eng
/- An engine, part 21: matrices handed out and never written again. Over any program. -/
set_option linter.unusedVariables false
set_option linter.unusedSimpArgs false
namespace Go.Eng
open Go.RowKit (Below)

theorem Up.tree {sz : Nat} {xs ys : List AV} {g : Gr} (hl : xs.length = ys.length) (hu : ∀ (pr : Addr → Option Value) i (hi : i < xs.length) vc, PV pr xs[i] vc → PV pr (ys[i]'(by omega)) vc) : Up (.tree sz xs g) (.tree sz ys .ro) := fun ρ vc x => by
  have h := x.ro
  rcases pinv_tree h with ⟨rfl, rfl, -⟩ | ⟨ad, cap, vs, rfl, h2, h3, h4, h5, h6, h7⟩
  · have : ys = [] := List.eq_nil_of_length_eq_zero hl.symm
    subst this
    exact .pure _ _ (.none_ _ _ (.inl rfl))
  · rw [hl]
    exact .pure _ _ (.tree sz ys .ro ad cap vs (by omega) h3 (.inl rfl) (fun i hi => hu _ i (by omega) _ (h5 i (by omega))) (fun i hi => h6 i (by omega)) (fun i j hi hj => h7 i j (by omega) hj))
/-- A matrix written out. -/
theorem Up.lit (M : List (List Int)) (g g' : Gr) : Up (.tree 1 (M.map fun r => .tree 1 (r.map (AV.int .i64)) g) g') (matV M) := by
  refine Up.tree (by simp) fun pr i hi vc hx => ?_
  simp only [List.length_map] at hi
  simp only [List.getElem_map] at hx ⊢
  exact hx.ro

section
variable {P : Program} {f : FuncId} {args : List AV} {h : AH}
theorem ACalls.sealed {u : AV} {R : Prop} {V : AV} (hc : ACalls P f args h (fun v h' => ∃ H O ids m A, h' = matH H O ids m A ∧ MatOk O ids m A ∧ h.n ≤ O ∧ (∀ b ∈ ids, h.n ≤ b) ∧ Ext h H ∧
    ∀ ρ ρ2 vc, Ip.Le ρ ρ2 → RV ρ v vc → (∀ n c vc', n ≤ A.length → RV ρ (.bsl O 0 n c) vc' → PV ρ2.prot (matV (A.take n)) vc') → PV ρ2.prot u vc)) : ACalls P f args h (fun v h' => v = u ∧ h' = h) := fun ρ w argc hR hL =>
  Calls.mono (hc ρ w argc hR hL) fun e w' he => by
    cases e with
    | returned vc =>
      obtain ⟨ρ', v, h', h1, h2, h3, H, O, ids, m, A, rfl, h4, h5, h6, h7, h8⟩ := he
      obtain ⟨ρ2, k1, k2, k3⟩ := freeze_mat h4 h2
      obtain ⟨q1, q2⟩ := hR.cut (h1.trans k1) k2 (off_ext h7 h5 h6)
      exact ⟨_, u, h, q2, q1, .pure _ _ (show PV ρ2.prot _ _ from h8 ρ' ρ2 vc k1 h3 k3), rfl, rfl⟩
    | panicked c => exact he
    | outgrown => exact he
theorem ptup {pr : Addr → Option Value} {us : List AV} {vs : Array Value} (hl : us.length = vs.size) (h : ∀ i (hi : i < us.length), PV pr us[i] (vs.getD i undef)) : PV pr (.tup us) (.tuple vs) := .tup _ _ hl h
/-- Rows, a list of numbers, a number. -/
theorem ACalls.frozenE {M : List (List Int)} {L : List Int} {k : IntKind} {e : Int} (hc : ACalls P f args h (fun v h' => ∃ H O κ ids m A top, v = .tup [.bsl O 0 top .ro, accO κ (L.map (AV.int .i64)), .int k e] ∧ h' = matH H O ids m A ∧ MatOk O ids m A ∧ h.n ≤ O ∧ (∀ b ∈ ids, h.n ≤ b) ∧ Ext h H ∧ top ≤ A.length ∧ A.take top = M)) :
    ACalls P f args h (fun v h' => v = .tup [matV M, rowV L, .int k e] ∧ h' = h) := by
  refine ACalls.sealed (R := True) (V := .nils) (ACalls.mono hc fun v h' ⟨H, O, κ, ids, m, A, top, h1, h2, h3, h4, h5, h6, h7, h8⟩ => ⟨H, O, ids, m, A, h2, h3, h4, h5, h6, fun ρ ρ2 vc hle hv hk => ?_⟩)
  subst h1
  obtain ⟨vs, rfl, hl, hx⟩ := inv_tup hv
  refine ptup (by simpa using hl) fun i hi => ?_
  match i with
  | 0 => rw [← h8]; exact hk top .ro _ h7 (hx 0 (by simp))
  | 1 =>
    have := (hx 1 (by simp)).mono hle
    have h9 := pure_RV (Up.accI κ L _ _ (.pure _ _ (pure_RV this (pur_accO _ _)))) (pur_row L)
    rw [roA_row] at h9
    exact h9
  | 2 =>
    have := pure_RV (v := .int k e) ((hx 2 (by simp)).mono hle) (by simp [pur])
    rw [ra_int] at this
    exact this
  | n + 3 => exact absurd hi (by simp)
/-- Rows, a number. -/
theorem ACalls.frozenK {M : List (List Int)} {k : IntKind} {e : Int} (hc : ACalls P f args h (fun v h' => ∃ H O ids m A top, v = .tup [.bsl O 0 top .ro, .int k e] ∧ h' = matH H O ids m A ∧ MatOk O ids m A ∧ h.n ≤ O ∧ (∀ b ∈ ids, h.n ≤ b) ∧ Ext h H ∧ top ≤ A.length ∧ A.take top = M)) :
    ACalls P f args h (fun v h' => v = .tup [matV M, .int k e] ∧ h' = h) := by
  refine ACalls.sealed (R := True) (V := .nils) (ACalls.mono hc fun v h' ⟨H, O, ids, m, A, top, h1, h2, h3, h4, h5, h6, h7, h8⟩ => ⟨H, O, ids, m, A, h2, h3, h4, h5, h6, fun ρ ρ2 vc hle hv hk => ?_⟩)
  subst h1
  obtain ⟨vs, rfl, hl, hx⟩ := inv_tup hv
  refine ptup (by simpa using hl) fun i hi => ?_
  match i with
  | 0 => rw [← h8]; exact hk top .ro _ h7 (hx 0 (by simp))
  | 1 =>
    have := pure_RV (v := .int k e) ((hx 1 (by simp)).mono hle) (by simp [pur])
    rw [ra_int] at this
    exact this
  | n + 2 => exact absurd hi (by simp)
theorem pmH_ext {H : AH} {n m : Nat} {R : List (List Int)} : Ext H { H with n := H.n + 1 + R.length } := ⟨by show H.n ≤ H.n + 1 + R.length; omega, Nat.le_refl _, fun _ _ => rfl, fun _ _ => rfl⟩
theorem ACalls.upH {R : AV → AH → Prop} (hc : ACalls P f args h (fun v h' => ∃ v' h'', Up v v' ∧ HUp h' h'' ∧ R v' h'')) : ACalls P f args h R := fun ρ w argc hR hL =>
  Calls.mono (hc ρ w argc hR hL) fun e w' he => by
    cases e with
    | returned vc =>
      obtain ⟨ρ', v, h', h1, h2, h3, v', h'', h4, h5, h6⟩ := he
      exact ⟨ρ', v', h'', h1, h5 _ _ h2, h4 _ _ h3, h6⟩
    | panicked c => exact he
    | outgrown => exact he
theorem pmH_ids {H : AH} {M : List (List Int)} {b : Nat} (hb : b ∈ idsOf H.n M.length) : H.n ≤ b := by have := mem_idsOf.1 hb; omega
/-- A matrix made in a memory that has grown, a number. -/
theorem ACalls.frozenP {M : List (List Int)} {k : IntKind} {e : Int} (hc : ACalls P f args h (fun v h' => ∃ H m, v = .tup [.bsl H.n 0 M.length .full, .int k e] ∧ h' = pmH H M.length m M ∧ (∀ r ∈ M, r.length = m) ∧ Ext h H)) :
    ACalls P f args h (fun v h' => v = .tup [matV M, .int k e] ∧ h' = h) := by
  refine ACalls.frozenK (ACalls.upH (ACalls.mono hc fun v h' ⟨H, m, h1, h2, h3, h4⟩ => ?_))
  subst h1; subst h2
  exact ⟨_, _, Up.tup2 (Up.bsl _ _ _ _) (Up.refl _), HUp.pm h3, _, H.n, idsOf H.n M.length, m, M, M.length, rfl, rfl, pm_ok h3, h4.n, fun b hb => Nat.le_trans h4.n (pmH_ids hb), h4.trans (pmH_ext (n := 0) (m := 0)), Nat.le_refl _, List.take_length⟩
/-- The same without the number. -/
theorem ACalls.sealed1 {M : List (List Int)} (hc : ACalls P f args h (fun v h' => ∃ H m, v = .bsl H.n 0 M.length .full ∧ h' = pmH H M.length m M ∧ (∀ r ∈ M, r.length = m) ∧ Ext h H)) :
    ACalls P f args h (fun v h' => v = matV M ∧ h' = h) := by
  refine ACalls.sealed (R := True) (V := .nils) (ACalls.upH (ACalls.mono hc fun v h' ⟨H, m, h1, h2, h3, h4⟩ => ?_))
  subst h1; subst h2
  refine ⟨_, _, Up.bsl _ _ _ _, HUp.pm h3, _, H.n, idsOf H.n M.length, m, M, rfl, pm_ok h3, h4.n, fun b hb => Nat.le_trans h4.n (pmH_ids hb), h4.trans (pmH_ext (n := 0) (m := 0)), fun ρ ρ2 vc hle hv hk => ?_⟩
  have := hk M.length .ro vc (Nat.le_refl _) hv
  rw [List.take_length] at this
  exact this
end
end Go.Eng
/- What echelon's result is like; what Kernel computes. No program in sight. -/
set_option linter.unusedVariables false
set_option linter.unusedSimpArgs false
namespace Go.Eng

theorem fnzG_le (A : List (List Int)) (c : Nat) : ∀ n i, fnzG A c n i ≤ i + n ∧ i ≤ fnzG A c n i
  | 0, i => ⟨Nat.le_refl _, Nat.le_refl _⟩
  | n + 1, i => by
    simp only [fnzG]
    split
    · have := fnzG_le A c n (i + 1); omega
    · omega
theorem fnz_le (A : List (List Int)) {c top : Nat} (h : top ≤ A.length) : fnz A c top ≤ A.length ∧ top ≤ fnz A c top := by
  have := fnzG_le A c (A.length - top) top
  unfold fnz; omega
theorem fnzG_spec (A : List (List Int)) (c : Nat) : ∀ n i, (∀ j, i ≤ j → j < fnzG A c n i → (A.getD j []).getD c 0 = 0) ∧ (fnzG A c n i < i + n → (A.getD (fnzG A c n i) []).getD c 0 ≠ 0)
  | 0, i => ⟨fun j h1 h2 => by simp only [fnzG] at h2; omega, fun h => by simp only [fnzG] at h; omega⟩
  | n + 1, i => by
    simp only [fnzG]
    split
    · rename_i hz
      have := fnzG_spec A c n (i + 1)
      refine ⟨fun j h1 h2 => ?_, fun h => this.2 (by omega)⟩
      by_cases hj : j = i
      · rw [hj]; exact hz
      · exact this.1 j (by omega) h2
    · rename_i hz
      exact ⟨fun j h1 h2 => by omega, fun _ => hz⟩
theorem fnz_spec (A : List (List Int)) {c top : Nat} (h : top ≤ A.length) : (∀ j, top ≤ j → j < fnz A c top → (A.getD j []).getD c 0 = 0) ∧ (fnz A c top < A.length → (A.getD (fnz A c top) []).getD c 0 ≠ 0) := by
  have := fnzG_spec A c (A.length - top) top
  unfold fnz
  exact ⟨this.1, fun hlt => this.2 (by omega)⟩

/-- What holds at the start and is kept by each column holds at the end. -/
theorem echL_ind {p : Int} {m : Nat} (I : List (List Int) → Nat → Nat → List Int → Prop)
    (skip : ∀ A top c piv, I A top c piv → c < m → top < A.length → fnz A c top = A.length → I A top (c + 1) piv)
    (go : ∀ A top c piv, I A top c piv → c < m → top < A.length → fnz A c top < A.length → I (echStep p m A top c (fnz A c top)) (top + 1) (c + 1) (piv ++ [(c : Int)])) :
    ∀ n A top c piv, n + c = m → top ≤ A.length → I A top c piv → ∃ c', c ≤ c' ∧ c' ≤ m ∧ I (echL p m n A top c piv).1 (echL p m n A top c piv).2.1 c' (echL p m n A top c piv).2.2 ∧ (c' = m ∨ ¬ (echL p m n A top c piv).2.1 < (echL p m n A top c piv).1.length)
  | 0, A, top, c, piv, hn, ht, h => ⟨c, Nat.le_refl _, by omega, h, .inl (by omega)⟩
  | n + 1, A, top, c, piv, hn, ht, h => by
    simp only [echL]
    by_cases htl : top < A.length
    · rw [if_pos htl]
      by_cases hf : fnz A c top = A.length
      · rw [if_pos hf]
        obtain ⟨c', h1, h2, h3⟩ := echL_ind I skip go n A top (c + 1) piv (by omega) ht (skip A top c piv h (by omega) htl hf)
        exact ⟨c', by omega, h2, h3⟩
      · rw [if_neg hf]
        have hl := (fnz_le A (c := c) ht).1
        have hlen : (echStep p m A top c (fnz A c top)).length = A.length := by
          unfold echStep; rw [elim_length (by rw [scaled, List.length_set, swp_length]; exact Nat.le_refl _), scaled, List.length_set, swp_length]
        obtain ⟨c', h1, h2, h3⟩ := echL_ind I skip go n _ (top + 1) (c + 1) (piv ++ [(c : Int)]) (by omega) (by rw [hlen]; omega) (go A top c piv h (by omega) htl (by omega))
        exact ⟨c', by omega, h2, h3⟩
    · rw [if_neg htl]
      exact ⟨c, Nat.le_refl _, by omega, h, .inr htl⟩

theorem invF_rng (a : Int) {m : Int} (hm : 2 ≤ m) : 0 ≤ invF a m ∧ invF a m < m := by
  unfold invF
  cases hL : invL a m with
  | none => simp only [Option.getD_none]; omega
  | some y =>
    have h6 := List.mem_range.1 (List.mem_of_find?_eq_some hL)
    simp only [Option.getD_some]; omega
theorem echStep_length (p : Int) (m : Nat) (A : List (List Int)) (top c i : Nat) : (echStep p m A top c i).length = A.length := by
  unfold echStep; rw [elim_length (by rw [scaled, List.length_set, swp_length]; exact Nat.le_refl _), scaled, List.length_set, swp_length]
theorem scaled_wid {p : Int} {m : Nat} {A : List (List Int)} {top c : Nat} (hw : Wid m A) : Wid m (scaled A top c m p) := hw.set _ (by simp [scaleR])
theorem scaled_in {p : Int} (hp : 0 < p) {m : Nat} {A : List (List Int)} {top c : Nat} (hw : InR p m A) : InR p m (scaled A top c m p) := hw.set _ fun j hj => by
  rw [scaleR, map_range_get _ hj]; exact ⟨Int.emod_nonneg _ (by omega), Int.emod_lt_of_pos _ hp⟩
theorem scaled_length {p : Int} {m : Nat} {A : List (List Int)} {top c : Nat} : (scaled A top c m p).length = A.length := by rw [scaled, List.length_set]
theorem echStep_wid {p : Int} {m : Nat} {A : List (List Int)} {top c i : Nat} (hw : Wid m A) (ht : top < A.length) (hi : i < A.length) : Wid m (echStep p m A top c i) :=
  elim_wid (scaled_wid (hw.swp ht hi)) (by rw [scaled_length, swp_length]; exact Nat.le_refl _)
theorem echStep_in {p : Int} (hp : 0 < p) {m : Nat} {A : List (List Int)} {top c i : Nat} (hw : InR p m A) (ht : top < A.length) (hi : i < A.length) : InR p m (echStep p m A top c i) :=
  elim_in hp (scaled_in hp (hw.swp ht hi)) (by rw [scaled_length, swp_length]; exact Nat.le_refl _)

/-- The plain facts on the result. -/
structure EchOk (p : Int) (m n : Nat) (A : List (List Int)) (top : Nat) (piv : List Int) : Prop where
  len : A.length = n
  tn : top ≤ n
  pl : piv.length = top
  wid : Wid m A
  rng : InR p m A
  pb : ∀ i, i < piv.length → 0 ≤ piv.getD i 0 ∧ piv.getD i 0 < m
theorem echA_ok {p : Int} (hp : 0 < p) {m : Nat} {A : List (List Int)} (hw : Wid m A) (hr : InR p m A) (h1 : 1 ≤ A.length) : EchOk p m A.length (echA p A).1 (echA p A).2.1 (echA p A).2.2 := by
  have hm : (A.getD 0 []).length = m := hw 0 (by omega)
  unfold echA
  rw [hm]
  obtain ⟨c', -, h2, h3, -⟩ := echL_ind (p := p) (m := m) (fun B top c piv => B.length = A.length ∧ top ≤ A.length ∧ piv.length = top ∧ Wid m B ∧ InR p m B ∧ ∀ i, i < piv.length → 0 ≤ piv.getD i 0 ∧ piv.getD i 0 < c)
    (fun B top c piv h hc ht hf => ⟨h.1, h.2.1, h.2.2.1, h.2.2.2.1, h.2.2.2.2.1, fun i hi => by have := h.2.2.2.2.2 i hi; omega⟩)
    (fun B top c piv h hc ht hf => ⟨by rw [echStep_length]; exact h.1, by omega, by rw [List.length_append, h.2.2.1]; rfl, echStep_wid h.2.2.2.1 ht hf, echStep_in hp h.2.2.2.2.1 ht hf, fun i hi => by
      rw [List.length_append, List.length_singleton] at hi
      by_cases hi2 : i < piv.length
      · have := h.2.2.2.2.2 i hi2
        rw [List.getD_eq_getElem?_getD, List.getElem?_append_left hi2, ← List.getD_eq_getElem?_getD]
        omega
      · have hie : i = piv.length := by omega
        subst hie
        simp [List.getD_eq_getElem?_getD]
        omega⟩)
    m A 0 0 [] (by omega) (Nat.zero_le _) ⟨rfl, Nat.zero_le _, rfl, hw, hr, fun i hi => absurd hi (Nat.not_lt_zero _)⟩
  exact ⟨h3.1, h3.2.1, h3.2.2.1, h3.2.2.2.1, h3.2.2.2.2.1, fun i hi => by have := h3.2.2.2.2.2 i hi; omega⟩

/-! ### rows of bits -/
theorem getD_bool (r : List Bool) (i : Nat) (hi : i < r.length) : (r.map AV.bool).getD i .junk = .bool (r.getD i false) := by
  simp [List.getD_eq_getElem?_getD, hi]
theorem set_bool (r : List Bool) (j : Nat) (v : Bool) : (r.map AV.bool).set j (.bool v) = (r.set j v).map AV.bool := by rw [List.map_set]
theorem copies_false (n : Nat) : copies [AV.bool false] n = (List.replicate n false).map AV.bool := by rw [copies_one, List.map_replicate]
attribute [go_sem] getD_bool set_bool copies_false

/-! ### the kernel -/
/-- Which columns are among the first k pivots. -/
def pvB (piv : List Int) (n : Nat) : Nat → List Bool
  | 0 => List.replicate n false
  | k + 1 => (pvB piv n k).set (piv.getD k 0).toNat true
theorem pvB_length (piv : List Int) (n : Nat) : ∀ k, (pvB piv n k).length = n
  | 0 => by simp [pvB]
  | k + 1 => by simp [pvB, pvB_length piv n k]
/-- The row for the column c, after i pivots. -/
def kerR (rows : List (List Int)) (piv : List Int) (n : Nat) (p : Int) (c : Nat) : Nat → List Int
  | 0 => (List.replicate n 0).set c 1
  | i + 1 => (kerR rows piv n p c i).set (piv.getD i 0).toNat ((-(rows.getD i []).getD c 0) % p)
theorem kerR_length (rows : List (List Int)) (piv : List Int) (n : Nat) (p : Int) (c : Nat) : ∀ i, (kerR rows piv n p c i).length = n
  | 0 => by simp [kerR]
  | i + 1 => by simp [kerR, kerR_length rows piv n p c i]
/-- The rows for the first c columns. -/
def kerB (rows : List (List Int)) (piv : List Int) (n : Nat) (p : Int) : Nat → List (List Int)
  | 0 => []
  | c + 1 => if (pvB piv n piv.length).getD c false = true then kerB rows piv n p c else kerB rows piv n p c ++ [kerR rows piv n p c piv.length]
theorem kerR_in {rows : List (List Int)} {piv : List Int} {n : Nat} {p : Int} (hp : 2 ≤ p) (c : Nat) : ∀ i j, 0 ≤ (kerR rows piv n p c i).getD j 0 ∧ (kerR rows piv n p c i).getD j 0 < p
  | 0, j => by
    simp only [kerR, List.getD_eq_getElem?_getD, List.getElem?_set]
    split
    · split
      · simp; omega
      · simp; omega
    · rw [List.getElem?_replicate]
      split <;> simp <;> omega
  | i + 1, j => by
    simp only [kerR, List.getD_eq_getElem?_getD, List.getElem?_set]
    split
    · split
      · exact ⟨Int.emod_nonneg _ (by omega), Int.emod_lt_of_pos _ (by omega)⟩
      · simp; omega
    · rw [← List.getD_eq_getElem?_getD]; exact kerR_in hp c i j
theorem kerB_row {rows : List (List Int)} {piv : List Int} {n : Nat} {p : Int} : ∀ c r, r ∈ kerB rows piv n p c → ∃ b, r = kerR rows piv n p b piv.length
  | 0, r, h => by simp [kerB] at h
  | c + 1, r, h => by
    simp only [kerB] at h
    split at h
    · exact kerB_row c r h
    · rcases List.mem_append.1 h with h | h
      · exact kerB_row c r h
      · exact ⟨c, by simpa using h⟩
theorem mem_getD {A : List (List Int)} {i : Nat} (hi : i < A.length) : A.getD i [] ∈ A := by
  rw [List.getD_eq_getElem?_getD, List.getElem?_eq_getElem hi]; exact List.getElem_mem hi
theorem kerB_wid {rows : List (List Int)} {piv : List Int} {n : Nat} {p : Int} (c : Nat) : Wid n (kerB rows piv n p c) := fun i hi => by
  obtain ⟨b, hb⟩ := kerB_row c _ (mem_getD hi)
  rw [hb, kerR_length]
theorem kerB_in {rows : List (List Int)} {piv : List Int} {n : Nat} {p : Int} (hp : 2 ≤ p) (c : Nat) : InR p n (kerB rows piv n p c) := fun i j hi hj => by
  obtain ⟨b, hb⟩ := kerB_row c _ (mem_getD hi)
  rw [hb]; exact kerR_in hp _ _ _
theorem kerB_length {rows : List (List Int)} {piv : List Int} {n : Nat} {p : Int} : ∀ c, (kerB rows piv n p c).length ≤ c
  | 0 => by simp [kerB]
  | c + 1 => by
    have := kerB_length (rows := rows) (piv := piv) (n := n) (p := p) c
    simp only [kerB]
    split
    · omega
    · simp; omega
end Go.Eng
/- An engine, part 23: a list of rows that may be written, appended to. Over any program. -/
set_option linter.unusedVariables false
set_option linter.unusedSimpArgs false
namespace Go.Eng
open Go.RowKit (Below)
/-! ### a list of rows that may be written -/
def basV (M : List (List Int)) (O : Nat) : AV := match M with
  | [] => .nils
  | x :: r => .bsl O 0 (r.length + 1) (.grow 1)
theorem basV_nil (O : Nat) : basV [] O = .nils := rfl
theorem basV_ne {M : List (List Int)} (O : Nat) (h : M ≠ []) : basV M O = .bsl O 0 M.length (.grow 1) := by
  cases M with
  | nil => exact absurd rfl h
  | cons x r => rfl
theorem len_bas {P : Program} {t : TypeId} {K : AV → Prop} (M : List (List Int)) (O : Nat) : lenW P t (basV M O) K = (knT P t = some 3 ∧ K (.int .i64 (M.length : Int))) := by
  cases M <;> simp [lenW, basV]
structure KB (n : Nat) (h1 H : AH) (O : Nat) (ids : List Nat) (M : List (List Int)) : Prop where
  ext : Ext h1 H
  il : ids.length = M.length
  nd : ids.Nodup
  idr : ∀ b ∈ ids, h1.n ≤ b ∧ b < H.n
  rows : ∀ i, i < M.length → H.f (ids.getD i 0) = some ((M.getD i []).map (AV.int .i64))
  fO : M ≠ [] → H.f O = some (ids.map fun b => .bsl b 0 n .full) ∧ h1.n ≤ O ∧ O < H.n ∧ O ∉ ids
theorem KB.add {n : Nat} {h1 H H' : AH} {O : Nat} {ids : List Nat} {M : List (List Int)} {x : List Int} (hk : KB n h1 H O ids M) (e1 : H'.n = H.n + 3) (e2 : H'.f (H.n + 2) = some ((if M = [] then [] else ids.map fun b => AV.bsl b 0 n .full) ++ [.bsl H.n 0 n .full]))
    (e3 : ∀ b, b ≠ H.n + 2 → (M ≠ [] → b ≠ O) → H'.f b = ((H.mk_ (x.map (AV.int .i64))).mk_ [.bsl H.n 0 n .full]).f b) (e4 : H'.k = H.k) (e5 : H'.gr = H.gr) : KB n h1 H' (H.n + 2) (ids ++ [H.n]) (M ++ [x]) := by
  have hold : ∀ b, b < H.n → ((H.mk_ (x.map (AV.int .i64))).mk_ [.bsl H.n 0 n .full]).f b = H.f b := fun b hb => by
    rw [mk_ne _ _ (by rw [mk_n]; omega), mk_ne _ _ (by omega)]
  have hn := hk.ext.n
  refine ⟨⟨by omega, by rw [e4]; exact hk.ext.k, fun b hb => ?_, fun κ hκ => by rw [e5]; exact hk.ext.gr κ hκ⟩, by simp [hk.il], ?_, fun b hb => ?_, fun i hi => ?_, fun _ => ⟨?_, by omega, by omega, ?_⟩⟩
  · rw [e3 b (by omega) (fun hM => by have := (hk.fO hM).2.1; omega), hold b (by omega)]
    exact hk.ext.f b hb
  · rw [List.nodup_append]
    refine ⟨hk.nd, by simp, fun a ha b hb => ?_⟩
    have := (hk.idr a ha).2
    have : b = H.n := by simpa using hb
    omega
  · rcases List.mem_append.1 hb with hb | hb
    · have := hk.idr b hb; omega
    · have : b = H.n := by simpa using hb
      omega
  · rw [List.length_append, List.length_singleton] at hi
    by_cases hlt : i < M.length
    · have e6 : (ids ++ [H.n]).getD i 0 = ids.getD i 0 := by simp only [List.getD_eq_getElem?_getD]; rw [List.getElem?_append_left (by rw [hk.il]; exact hlt)]
      have e7 : (M ++ [x]).getD i [] = M.getD i [] := by simp only [List.getD_eq_getElem?_getD]; rw [List.getElem?_append_left hlt]
      have hmem : ids.getD i 0 ∈ ids := ids_mem (by rw [hk.il]; exact hlt)
      have hb := hk.idr _ hmem
      rw [e6, e7, e3 _ (by omega) (fun hM he => (hk.fO hM).2.2.2 (by rw [← he]; exact hmem)), hold _ hb.2]
      exact hk.rows i hlt
    · have hie : i = M.length := by omega
      subst hie
      have e6 : (ids ++ [H.n]).getD M.length 0 = H.n := by rw [← hk.il]; simp [List.getD_eq_getElem?_getD]
      have e7 : (M ++ [x]).getD M.length [] = x := by simp [List.getD_eq_getElem?_getD]
      rw [e6, e7, e3 _ (by omega) (fun hM => by have := (hk.fO hM).2.2.1; omega), mk_ne _ _ (by rw [mk_n]; omega), AH.mk_f]
  · rw [e2]
    by_cases hM : M = []
    · have : ids = [] := List.eq_nil_of_length_eq_zero (by rw [hk.il, hM]; rfl)
      rw [if_pos hM, this]; rfl
    · rw [if_neg hM]; simp
  · intro hm
    rcases List.mem_append.1 hm with hm | hm
    · have := (hk.idr _ hm).2; omega
    · simp at hm
theorem KB.mat {n : Nat} {h1 H : AH} {O : Nat} {ids : List Nat} {M : List (List Int)} (hk : KB n h1 H O ids M) (hM : M ≠ []) (hw : Wid n M) : MatOk O ids n M ∧ HUp H (matH H O ids n M) := by
  obtain ⟨f1, f2, f3, f4⟩ := hk.fO hM
  refine ⟨⟨hk.nd, f4, hk.il, (fun r hr => by obtain ⟨j, hj, rfl⟩ := List.mem_iff_getElem.1 hr; have := hw j hj; simpa [List.getD_eq_getElem?_getD, hj] using this)⟩, fun ρ w hR => ?_⟩
  have h2 := hR.up (cs' := rowsC ids n) f1 (by rw [rowsC_length, List.length_map]; exact Nat.le_refl _) (fun i hi vc hx => by
    rw [rowsC_length] at hi
    have e1 : (ids.map fun b => AV.bsl b 0 n .full)[i]'(by rw [List.length_map]; exact hi) = .bsl ids[i] 0 n .full := by simp
    have e2 : (rowsC ids n)[i]'(by rw [rowsC_length]; exact hi) = .bsl ids[i] 0 n .ro := by simp [rowsC]
    rw [e1] at hx
    rw [e2]
    exact Up.bsl _ _ _ _ _ _ hx)
  have : H.put O (rowsC ids n) = matH H O ids n M := by
    refine AH.ext_ (fun b => ?_) rfl (fun _ => rfl) rfl
    simp only [AH.put, matH, upd]
    by_cases hO : b = O
    · rw [if_pos hO, if_pos hO]
    · rw [if_neg hO, if_neg hO]
      cases hx : ids.idxOf? b with
      | none => rfl
      | some i =>
        obtain ⟨k1, k2, -⟩ := List.idxOf?_eq_some_iff.1 hx
        have := hk.rows i (by rw [← hk.il]; exact k1)
        have e : ids.getD i 0 = b := by rw [List.getD_eq_getElem?_getD, List.getElem?_eq_getElem k1]; exact k2
        rw [e] at this
        exact this
  rw [← this]; exact h2
theorem app_bas {P : Program} {t : TypeId} {H : AH} {M : List (List Int)} {O q e by_ : Nat} {z y : AV} {cs : List AV} {c' : Cp} {K : AV → AH → Prop} (hok : M ≠ [] → H.f O = some cs ∧ cs.length = M.length) (hq : H.f q = some [y]) (he : elT P t = some e) (hs : szT P e = some 1) (hb : byT P e = some by_) (hz : zrT P e = some z) (hm : memA z = true) (hzl : (cellsA z).length = 1)
    (h1 : M.length + 1 ≤ 1000000) (h2 : by_ ≤ 64) (hK : ∀ H', H'.n = H.n + 1 → H'.f H.n = some ((if M = [] then [] else cs) ++ [y]) → (∀ b, b ≠ H.n → (M ≠ [] → b ≠ O) → H'.f b = H.f b) → H'.k = H.k → H'.gr = H.gr → K (.bsl H.n 0 (M.length + 1) (.grow 1)) H') : appBW P t (basV M O) (.bsl q 0 1 c') H K := by
  have hbig : (M.length + 1) * by_ ≤ 140737488355328 := Nat.le_trans (Nat.mul_le_mul h1 h2) (by omega)
  refine ⟨e, by_, z, [y], he, hs, hb, hz, hm, hzl, ⟨[y], hq, by simp, by simp⟩, by simp, ?_⟩
  cases M with
  | nil =>
    simp only [basV, List.length_singleton]
    refine ⟨by omega, by simpa using hbig, ?_⟩
    refine hK (H.mk_ [y]) rfl (by rw [AH.mk_f]; simp) (fun b hb _ => mk_ne _ _ hb) rfl rfl
  | cons x r =>
    obtain ⟨g1, g2⟩ := hok (by simp)
    simp only [basV, List.length_singleton]
    simp only [List.length_cons] at g2 hbig h1
    refine ⟨trivial, trivial, cs, g1, g2, by omega, by simpa using hbig, ?_⟩
    refine hK ((H.rm O).mk_ (cs ++ [y])) rfl (by show ((H.rm O).mk_ (cs ++ [y])).f (H.rm O).n = _; rw [AH.mk_f]; simp) (fun b hb hbO => ?_) rfl rfl
    rw [mk_ne (H.rm O) _ hb]
    exact upd_ne _ _ (hbO (by simp))
attribute [go_sem] len_bas
end Go.Eng
/- An engine, part 24: from what came in to abstract values; a row out of what a law computes. Over any program. -/
set_option linter.unusedVariables false
set_option linter.unusedSimpArgs false
namespace Go.Eng
open Go.RowKit (Below)
open Go.ChangeShapes Go.WideShapes

def protW (W : World) (a : Addr) : Option Value := (W.cell? a).bind fun u => if u.oneCell' = true then some u else none
theorem protW_of {W : World} {a : Addr} {u : Value} (h : W.cell? a = some u) (h1 : u.oneCell' = true) : protW W a = some u := by simp [protW, h, h1]
def ip0 (W : World) : Ip := ⟨W, protW W, fun _ => none, 0, fun _ => none, 0⟩
def ah0 : AH := ⟨fun _ => none, 0, fun _ => 0, 0⟩
theorem rh0 (W : World) : RH (ip0 W) ah0 W := by
  refine ⟨.refl _ _, fun a u h => ?_, rfl, rfl, fun b cs h => ?_, fun b x h => ?_, fun b g n h => ?_, fun b b' g n n' h => ?_, fun κ h => ?_, fun κ x h => ?_⟩
  · have h' : protW W a = some u := h
    unfold protW at h'
    cases hc : W.cell? a with
    | none => rw [hc] at h'; cases h'
    | some v =>
      rw [hc] at h'
      simp only [Option.bind_some] at h'
      split at h'
      · rename_i h1; cases h'; exact ⟨rfl, h1⟩
      · cases h'
  · cases h
  · cases h
  · cases h
  · cases h
  · exact absurd h (Nat.not_lt_zero _)
  · cases h

section
variable {P : Program} {W : World} {H : Type} {enc : TypeId × Value → H} {held : Bool} {sp : Nat → Bool} {fuel : Nat} {t e : TypeId} {x : DataW H × List MemPlace}
theorem pv_ints {k : IntKind} {v : Value} (ht : P.underlying t = some (.slice e)) (he : P.underlying e = some (.int k)) (hc : P.cellsOf e = 1)
    (h : DataW.trod enc P W 0 sp held fuel t [v] = some x) : ∃ zs : List Int, PV (protW W) (.tree 1 (zs.map (AV.int k)) .ro) v ∧ ∀ n ∈ zs, (Lit.int k n).wf = true := by
  rcases open_ints ht he hc h with ⟨hcs, -⟩ | ⟨a, len, cap, zs, hcs, -, hl, hm, hz, -, hcell, hwf⟩
  · cases hcs
    exact ⟨[], .none_ _ _ (.inl rfl), fun n hn => by simp at hn⟩
  · cases hcs
    have hlz : len ≤ zs.length := by rw [hz]; split <;> omega
    refine ⟨zs.take len, ?_, fun n hn => hwf n (List.mem_of_mem_take hn)⟩
    have hlen : ((zs.take len).map (AV.int k)).length = len := by simp; omega
    have := PV.tree (pr := protW W) 1 ((zs.take len).map (AV.int k)) .ro a cap (fun i => .int k (zs.getD i 0)) (by rw [hlen]; exact hl) hm (.inl rfl) (fun i hi => by
      rw [hlen] at hi
      have e1 : ((zs.take len).map (AV.int k))[i]'(by rw [hlen]; exact hi) = .int k (zs.getD i 0) := by
        simp [List.getD_eq_getElem?_getD, show i < zs.length from by omega]
      rw [e1]; exact .int _ _) (fun i hi => rfl) (fun i j hi hj => by
      rw [hlen] at hi
      have hj0 : j = 0 := by omega
      subst hj0
      have := hcell i (by omega)
      simp only [Nat.mul_one, Nat.add_zero]
      exact protW_of this rfl)
    rw [hlen] at this
    exact this
theorem pv_mat {e2 : TypeId} {v : Value} (ht : P.underlying t = some (.slice e)) (he : P.underlying e = some (.slice e2)) (he2 : P.underlying e2 = some (.int .i64)) (hc : P.cellsOf e = 1) (hc2 : P.cellsOf e2 = 1)
    (h : DataW.trod enc P W 0 sp held fuel t [v] = some x) : ∃ a : List (List Int), PV (protW W) (matV a) v := by
  rcases DataW.trod_slice ht h with ⟨hcs, -⟩ | ⟨ad, len, cap, elems, rest, n, -, hcs, -, hb, hl, hm, hlen, hel, -, -⟩
  · cases hcs
    exact ⟨[], .none_ _ _ (.inl rfl)⟩
  · cases hcs
    have each : ∀ i, i < len → ∃ (u : Value) (r : List Int), W.cell? (ad.add i) = some u ∧ u.oneCell' = true ∧ PV (protW W) (rowV r) u ∧ u.cells.size = 1 ∧ u.cells.getD 0 undef = u := fun i hi => by
      have h1 := hel i hi
      rw [hc, Nat.mul_one, List.getElem?_eq_getElem (by omega)] at h1
      obtain ⟨cs', hcs', hy⟩ := Option.bind_eq_some_iff.1 h1
      have hone : ∃ u, cs' = [u] := by
        rcases open_ints he he2 hc2 hy with ⟨h2, -⟩ | ⟨a2, l2, c2, z2, h2, -⟩
        · exact ⟨_, h2⟩
        · exact ⟨_, h2⟩
      obtain ⟨u, rfl⟩ := hone
      obtain ⟨zs, hz, -⟩ := pv_ints he he2 hc2 hy
      have hcell := cell_of_cells?_one hcs'
      have hsl : u.oneCell' = true ∧ u.cells.size = 1 ∧ u.cells.getD 0 undef = u := by
        rcases open_ints he he2 hc2 hy with ⟨h2, -⟩ | ⟨a2, l2, c2, z2, h2, -⟩ <;> (cases h2; exact ⟨rfl, rfl, rfl⟩)
      exact ⟨u, zs, hcell, hsl.1, hz, hsl.2.1, hsl.2.2⟩
    have each' : ∀ i, ∃ p : Value × List Int, i < len → W.cell? (ad.add i) = some p.1 ∧ p.1.oneCell' = true ∧ PV (protW W) (rowV p.2) p.1 ∧ p.1.cells.size = 1 ∧ p.1.cells.getD 0 undef = p.1 := fun i => by
      by_cases hi : i < len
      · obtain ⟨u, r, h⟩ := each i hi
        exact ⟨(u, r), fun _ => h⟩
      · exact ⟨(undef, []), fun h => absurd h hi⟩
    obtain ⟨F, hF⟩ := Classical.axiomOfChoice each'
    refine ⟨(List.range len).map fun i => (F i).2, ?_⟩
    have hlen2 : (((List.range len).map fun i => (F i).2).map rowV).length = len := by simp
    have := PV.tree (pr := protW W) 1 (((List.range len).map fun i => (F i).2).map rowV) .ro ad cap (fun i => (F i).1) (by rw [hlen2]; exact hl) hm (.inl rfl) (fun i hi => by
      rw [hlen2] at hi
      have e1 : (((List.range len).map fun i => (F i).2).map rowV)[i]'(by rw [hlen2]; exact hi) = rowV (F i).2 := by simp
      rw [e1]; exact (hF i hi).2.2.1) (fun i hi => by rw [hlen2] at hi; exact (hF i hi).2.2.2.1) (fun i j hi hj => by
      rw [hlen2] at hi
      have hj0 : j = 0 := by omega
      subst hj0
      obtain ⟨h1, h2, -, -, h5⟩ := hF i hi
      simp only [Nat.mul_one, Nat.add_zero, h5]
      exact protW_of h1 h2)
    rw [hlen2] at this
    exact this
/-- All arguments read as before. -/
theorem trodAll_stays (hl : laidOutB P = true) {W' : World} (hb : Below W.heap.size W W') : ∀ (ts : List TypeId) (vs : List Value) (ds : List (DataW H)) (ps : List MemPlace), (ts.all fun t => P.readableRec t && decide (t < P.types.size)) = true →
    DataW.TrodAll enc P W 0 (fun _ => true) true ts vs ds ps → DataW.TrodAll enc P W' 0 (fun b => decide (b < W.heap.size)) true ts vs ds ps
  | [], vs, ds, ps, _, h => by obtain ⟨rfl, rfl, rfl⟩ := trodAll_nil h; exact trodAll_mk0
  | t :: ts, vs, ds, ps, ht, h => by
    obtain ⟨v, vs', d, ds', p, q, rfl, rfl, rfl, h1, h2⟩ := trodAll_cons h
    simp only [List.all_cons, Bool.and_eq_true, decide_eq_true_eq] at ht
    have hlt : ∀ x ∈ p, x.block < W.heap.size := by obtain ⟨m, hm⟩ := h1; exact DataW.trod_lt m _ _ _ hm
    exact trodAll_cons_mk (Below.trod hl ht.1.1 ht.1.2 h1 hb hlt) (trodAll_stays hl hb ts vs' ds' q (by simpa using ht.2) h2)
end
/-- What a law computes, said of the model. -/
theorem row_of {P : Program} {f : FuncId} {args : List AV} {R : AV → AH → Prop} (hc : ACalls P f args ah0 (fun v h' => v = .bool true ∧ R v h')) (W : World) (argc : Array Value) (hl : args.length = argc.size) (hv : ∀ i (hi : i < args.length), PV (protW W) args[i] (argc.getD i undef)) :
    Calls P f argc W fun e W' => e = .returned (.bool true) ∧ Below W.heap.size W W' :=
  Calls.mono (hc (ip0 W) W argc (rh0 W) ⟨hl, fun i hi => .pure _ _ (hv i hi)⟩) fun e w' he => by
    cases e with
    | returned vc =>
      obtain ⟨ρ', v, h', h1, h2, h3, rfl, -⟩ := he
      refine ⟨by rw [inv_bool h3], ?_⟩
      have hb := h2.below
      rw [h1.w0] at hb
      exact hb
    | panicked c => exact he.elim
    | outgrown => exact he.elim
end Go.Eng
/- An engine, part 25: a block of rows that stay, handed out. Over any program. -/
set_option linter.unusedVariables false
set_option linter.unusedSimpArgs false
namespace Go.Eng
open Go.RowKit (Below)
theorem ACalls.sealB {P : Program} {f : FuncId} {args : List AV} {h : AH} {u : AV} (hc : ACalls P f args h (fun v h' => ∃ b cs n c, v = .bsl b 0 n c ∧ h'.f b = some cs ∧ allB pur cs = true ∧ allB oneA cs = true ∧ n ≤ cs.length ∧ h.n ≤ b ∧ Ext h h' ∧ Up (.tree 1 ((roL cs).take n) .ro) u)) : ACalls P f args h (fun v h' => v = u ∧ h' = h) := fun ρ w argc hR hL =>
  Calls.mono (hc ρ w argc hR hL) fun e w' he => by
    cases e with
    | returned vc =>
      obtain ⟨ρ', v, h', h1, h2, h3, b, cs, n, c, rfl, g1, g2, g3, g4, g5, g6, g7⟩ := he
      obtain ⟨ρ2, k1, k2, k3⟩ := h2.freeze g1 g2 g3
      obtain ⟨q1, q2⟩ := hR.cut (h1.trans k1) k2 (g6.rm g5)
      exact ⟨_, u, h, q2, q1, g7 _ _ (.pure _ _ (show PV ρ2.prot _ _ from k3 n c vc g4 h3)), rfl, rfl⟩
    | panicked c => exact he
    | outgrown => exact he
theorem app_get (D : List AV) (v : AV) (r : List AV) : (D ++ v :: r).getD D.length .junk = v := by simp [List.getD_eq_getElem?_getD]
theorem app_set (D : List AV) (v w : AV) (r : List AV) : (D ++ v :: r).set D.length w = D ++ w :: r := by
  rw [List.set_append_right _ _ (Nat.le_refl _), Nat.sub_self]; rfl
theorem roL_append : ∀ (a b : List AV), roL (a ++ b) = roL a ++ roL b
  | [], b => by simp only [roL, List.nil_append]
  | x :: a, b => by simp only [List.cons_append, roL, roL_append a b]
theorem allB_append {p : AV → Bool} : ∀ {a b : List AV}, allB p a = true → allB p b = true → allB p (a ++ b) = true
  | [], b, _, h => h
  | x :: a, b, h1, h2 => by
    simp only [allB, Bool.and_eq_true] at h1
    simp only [List.cons_append, allB, Bool.and_eq_true]
    exact ⟨h1.1, allB_append h1.2 h2⟩
end Go.Eng
/- An engine, part 26: rows and lists of rows that are appended to and may be written. Over any program. -/
set_option linter.unusedVariables false
set_option linter.unusedSimpArgs false
namespace Go.Eng
open Go.RowKit (Below)

def basL (n O : Nat) : AV := match n with
  | 0 => .nils
  | k + 1 => .bsl O 0 (k + 1) (.grow 1)
theorem basL_zero (O : Nat) : basL 0 O = .nils := rfl
theorem basL_pos {n : Nat} (O : Nat) (h : 0 < n) : basL n O = .bsl O 0 n (.grow 1) := by
  cases n with
  | zero => omega
  | succ k => rfl
theorem len_basL {P : Program} {t : TypeId} {K : AV → Prop} (n O : Nat) : lenW P t (basL n O) K = (knT P t = some 3 ∧ K (.int .i64 (n : Int))) := by
  cases n <;> simp [lenW, basL]
theorem app_basL {P : Program} {t : TypeId} {H : AH} {n O q e by_ : Nat} {z y : AV} {cs : List AV} {c' : Cp} {K : AV → AH → Prop} (hok : 0 < n → H.f O = some cs ∧ cs.length = n) (hq : H.f q = some [y]) (he : elT P t = some e) (hs : szT P e = some 1) (hb : byT P e = some by_) (hz : zrT P e = some z) (hm : memA z = true) (hzl : (cellsA z).length = 1)
    (h1 : n + 1 ≤ 1000001) (h2 : by_ ≤ 64) (hK : ∀ H', H'.n = H.n + 1 → H'.f H.n = some ((if n = 0 then [] else cs) ++ [y]) → (∀ b, b ≠ H.n → (0 < n → b ≠ O) → H'.f b = H.f b) → H'.k = H.k → H'.gr = H.gr → K (.bsl H.n 0 (n + 1) (.grow 1)) H') : appBW P t (basL n O) (.bsl q 0 1 c') H K := by
  have hbig : (n + 1) * by_ ≤ 140737488355328 := Nat.le_trans (Nat.mul_le_mul h1 h2) (by omega)
  refine ⟨e, by_, z, [y], he, hs, hb, hz, hm, hzl, ⟨[y], hq, by simp, by simp⟩, by simp, ?_⟩
  cases n with
  | zero =>
    simp only [basL, List.length_singleton]
    refine ⟨by omega, by simpa using hbig, ?_⟩
    refine hK (H.mk_ [y]) rfl (by rw [AH.mk_f]; simp) (fun b hb _ => mk_ne _ _ hb) rfl rfl
  | succ r =>
    obtain ⟨g1, g2⟩ := hok (by omega)
    simp only [basL, List.length_singleton]
    refine ⟨trivial, trivial, cs, g1, g2, by omega, by simpa using hbig, ?_⟩
    refine hK ((H.rm O).mk_ (cs ++ [y])) rfl (by show ((H.rm O).mk_ (cs ++ [y])).f (H.rm O).n = _; rw [AH.mk_f]; simp) (fun b hb hbO => ?_) rfl rfl
    rw [mk_ne (H.rm O) _ hb]
    exact upd_ne _ _ (hbO (by omega))
/-- Rows, each in a block of its own, and the block of the rows. -/
structure KC (cp : Cp) (n : Nat) (h1 H : AH) (O : Nat) (ids : List Nat) (M : List (List Int)) : Prop where
  ext : Ext h1 H
  il : ids.length = M.length
  nd : ids.Nodup
  idr : ∀ b ∈ ids, h1.n ≤ b ∧ b < H.n
  rows : ∀ i, i < M.length → H.f (ids.getD i 0) = some ((M.getD i []).map (AV.int .i64))
  fO : 0 < M.length → H.f O = some (ids.map fun b => .bsl b 0 n cp) ∧ h1.n ≤ O ∧ O < H.n ∧ O ∉ ids
theorem KC.start (cp : Cp) (n : Nat) (h : AH) : KC cp n h h 0 [] [] := ⟨.refl _, rfl, by simp, fun b hb => by simp at hb, fun i hi => absurd hi (Nat.not_lt_zero _), fun hM => absurd hM (Nat.lt_irrefl _)⟩
/-- A row more: it lies in the block q, the rows now in O'. -/
theorem KC.add {cp : Cp} {n : Nat} {h1 H Hi H' : AH} {O q : Nat} {ids : List Nat} {M : List (List Int)} {x : List Int} (hk : KC cp n h1 H O ids M) (hi : Ext H Hi) (hq : H.n ≤ q ∧ q < Hi.n) (hx : Hi.f q = some (x.map (AV.int .i64)))
    (e1 : H'.n = Hi.n + 2) (e2 : H'.f (Hi.n + 1) = some ((if M.length = 0 then [] else ids.map fun b => AV.bsl b 0 n cp) ++ [.bsl q 0 n cp])) (e3 : ∀ b, b ≠ Hi.n + 1 → (0 < M.length → b ≠ O) → H'.f b = (Hi.mk_ [.bsl q 0 n cp]).f b) (e4 : H'.k = Hi.k) (e5 : H'.gr = Hi.gr) :
    KC cp n h1 H' (Hi.n + 1) (ids ++ [q]) (M ++ [x]) := by
  have hnn := hi.n
  have hold : ∀ b, b < H.n → (Hi.mk_ [.bsl q 0 n cp]).f b = H.f b := fun b hb => by
    rw [mk_ne _ _ (by omega)]; exact hi.f b hb
  have hn := hk.ext.n
  refine ⟨⟨by omega, by rw [e4]; exact Nat.le_trans hk.ext.k hi.k, fun b hb => ?_, fun κ hκ => by rw [e5, hi.gr κ (Nat.lt_of_lt_of_le hκ hk.ext.k)]; exact hk.ext.gr κ hκ⟩, by simp [hk.il], ?_, fun b hb => ?_, fun i hi2 => ?_, fun _ => ⟨?_, by omega, by omega, ?_⟩⟩
  · rw [e3 b (by omega) (fun hM => by have := (hk.fO hM).2.1; omega), hold b (by omega)]
    exact hk.ext.f b hb
  · rw [List.nodup_append]
    refine ⟨hk.nd, by simp, fun a ha b hb => ?_⟩
    have := (hk.idr a ha).2
    have : b = q := by simpa using hb
    omega
  · rcases List.mem_append.1 hb with hb | hb
    · have := hk.idr b hb; omega
    · have : b = q := by simpa using hb
      omega
  · rw [List.length_append, List.length_singleton] at hi2
    by_cases hlt : i < M.length
    · have e6 : (ids ++ [q]).getD i 0 = ids.getD i 0 := by simp only [List.getD_eq_getElem?_getD]; rw [List.getElem?_append_left (by rw [hk.il]; exact hlt)]
      have e7 : (M ++ [x]).getD i [] = M.getD i [] := by simp only [List.getD_eq_getElem?_getD]; rw [List.getElem?_append_left hlt]
      have hmem : ids.getD i 0 ∈ ids := ids_mem (by rw [hk.il]; exact hlt)
      have hb := hk.idr _ hmem
      rw [e6, e7, e3 _ (by omega) (fun hM he => (hk.fO hM).2.2.2 (by rw [← he]; exact hmem)), hold _ hb.2]
      exact hk.rows i hlt
    · have hie : i = M.length := by omega
      subst hie
      have e6 : (ids ++ [q]).getD M.length 0 = q := by rw [← hk.il]; simp [List.getD_eq_getElem?_getD]
      have e7 : (M ++ [x]).getD M.length [] = x := by simp [List.getD_eq_getElem?_getD]
      rw [e6, e7, e3 _ (by omega) (fun hM => by have := (hk.fO hM).2.2.1; omega), mk_ne _ _ (by omega)]
      exact hx
  · rw [e2]
    by_cases hM : M.length = 0
    · have : ids = [] := List.eq_nil_of_length_eq_zero (by rw [hk.il, hM])
      rw [if_pos hM, this]; rfl
    · rw [if_neg hM]; simp
  · intro hm
    rcases List.mem_append.1 hm with hm | hm
    · have := (hk.idr _ hm).2; omega
    · simp at hm; omega
theorem KC.mat {cp : Cp} {n : Nat} {h1 H : AH} {O : Nat} {ids : List Nat} {M : List (List Int)} (hk : KC cp n h1 H O ids M) (hM : 0 < M.length) (hw : Wid n M) : MatOk O ids n M ∧ HUp H (matH H O ids n M) := by
  obtain ⟨f1, f2, f3, f4⟩ := hk.fO hM
  refine ⟨⟨hk.nd, f4, hk.il, (fun r hr => by obtain ⟨j, hj, rfl⟩ := List.mem_iff_getElem.1 hr; have := hw j hj; simpa [List.getD_eq_getElem?_getD, hj] using this)⟩, fun ρ w hR => ?_⟩
  have h2 := hR.up (cs' := rowsC ids n) f1 (by rw [rowsC_length, List.length_map]; exact Nat.le_refl _) (fun i hi vc hx => by
    rw [rowsC_length] at hi
    have e1 : (ids.map fun b => AV.bsl b 0 n cp)[i]'(by rw [List.length_map]; exact hi) = .bsl ids[i] 0 n cp := by simp
    have e2 : (rowsC ids n)[i]'(by rw [rowsC_length]; exact hi) = .bsl ids[i] 0 n .ro := by simp [rowsC]
    rw [e1] at hx
    rw [e2]
    exact Up.bsl _ _ _ _ _ _ hx)
  have : H.put O (rowsC ids n) = matH H O ids n M := by
    refine AH.ext_ (fun b => ?_) rfl (fun _ => rfl) rfl
    simp only [AH.put, matH, upd]
    by_cases hO : b = O
    · rw [if_pos hO, if_pos hO]
    · rw [if_neg hO, if_neg hO]
      cases hx : ids.idxOf? b with
      | none => rfl
      | some i =>
        obtain ⟨k1, k2, -⟩ := List.idxOf?_eq_some_iff.1 hx
        have := hk.rows i (by rw [← hk.il]; exact k1)
        have e : ids.getD i 0 = b := by rw [List.getD_eq_getElem?_getD, List.getElem?_eq_getElem k1]; exact k2
        rw [e] at this
        exact this
  rw [← this]; exact h2
/-- Of the memory less needs to be known, on the way. -/
theorem good_up {P : Program} {N : Nat} {c : Code} {e : Env} {h h' : AH} {Q : Post} (hu : HUp h h') (hg : Good P N c e h' Q) : Good P N c e h Q := fun hok ρ w a hR hT => hg hok ρ w a (hu ρ w hR) hT
attribute [go_sem] len_basL
end Go.Eng
/- Facts on the fields of the seat Ytgfhddockofdnaa, gathered. -/
set_option linter.unusedVariables false
set_option linter.unusedSimpArgs false
namespace Go.Eng
open Go.Proofs
theorem fldT_59_0 : fldT Try.prog 59 0 = some (0, 1, 23) := by kernel_rfl
theorem fldT_59_1 : fldT Try.prog 59 1 = some (1, 1, 3) := by kernel_rfl
theorem fldT_25_0 : fldT Try.prog 25 0 = some (0, 1, 5) := by kernel_rfl
theorem fldT_25_1 : fldT Try.prog 25 1 = some (1, 1, 5) := by kernel_rfl
theorem fldT_25_2 : fldT Try.prog 25 2 = some (2, 1, 23) := by kernel_rfl
theorem bdT_59 : bdT Try.prog 59 = some ([AV.nils, AV.int IntKind.i64 0], [(0, 1), (1, 1)]) := by kernel_rfl
attribute [go_sem] bdT_59 fldT_59_0 fldT_59_1 fldT_25_0 fldT_25_1 fldT_25_2
end Go.Eng
/- Fermat's little theorem, plain. -/
set_option linter.unusedVariables false
set_option linter.unusedSimpArgs false
namespace Go.Eng

def pr (l : List Nat) : Nat := l.foldr (· * ·) 1
theorem pr_nil : pr [] = 1 := rfl
theorem pr_cons (x : Nat) (l : List Nat) : pr (x :: l) = x * pr l := rfl
theorem pr_perm {l l' : List Nat} (h : l.Perm l') : pr l = pr l' := by
  induction h with
  | nil => rfl
  | cons x _ ih => rw [pr_cons, pr_cons, ih]
  | swap x y l => rw [pr_cons, pr_cons, pr_cons, pr_cons, Nat.mul_left_comm]
  | trans _ _ h1 h2 => exact h1.trans h2
theorem perm_of_sub : ∀ (l l' : List Nat), l.Nodup → (∀ x ∈ l, x ∈ l') → l'.length ≤ l.length → l.Perm l'
  | [], l', _, _, hl => by
    have : l' = [] := List.eq_nil_of_length_eq_zero (by simpa using hl)
    rw [this]
  | x :: t, l', hn, hs, hl => by
    have hx := hs x (List.mem_cons_self ..)
    have hp := List.perm_cons_erase hx
    rw [List.nodup_cons] at hn
    have hlen := List.length_erase_of_mem hx
    refine (List.Perm.cons x (perm_of_sub t (l'.erase x) hn.2 (fun y hy => ?_) ?_)).trans hp.symm
    · have hne : y ≠ x := fun e => hn.1 (by rw [← e]; exact hy)
      exact (List.mem_erase_of_ne hne).2 (hs y (List.mem_cons_of_mem _ hy))
    · rw [hlen]; simp only [List.length_cons] at hl; omega
theorem pr_map (a P : Nat) : ∀ l : List Nat, pr (l.map fun x => a * x % P) % P = a ^ l.length * pr l % P
  | [] => by simp [pr]
  | x :: l => by
    rw [List.map_cons, pr_cons, pr_cons, List.length_cons, Nat.pow_succ, Nat.mul_mod, pr_map a P l, Nat.mod_mod, ← Nat.mul_mod]
    congr 1
    rw [Nat.mul_assoc, Nat.mul_assoc, Nat.mul_left_comm (a ^ l.length) a, Nat.mul_left_comm x]
structure PrimeN (P : Nat) : Prop where
  two : 2 ≤ P
  irr : ∀ d, 2 ≤ d → d < P → ¬ d ∣ P
theorem PrimeN.cop {P : Nat} (h : PrimeN P) {a : Nat} (h1 : 0 < a) (h2 : a < P) : Nat.Coprime a P := by
  have hg1 := Nat.gcd_dvd_left a P
  have hg2 := Nat.gcd_dvd_right a P
  have hle := Nat.le_of_dvd h1 hg1
  have hpos := Nat.gcd_pos_of_pos_left P h1
  unfold Nat.Coprime
  rcases Nat.lt_or_ge (Nat.gcd a P) 2 with h3 | h3
  · omega
  · exact absurd hg2 (h.irr _ h3 (by omega))
theorem pr_cop {P : Nat} : ∀ l : List Nat, (∀ x ∈ l, Nat.Coprime x P) → Nat.Coprime (pr l) P
  | [], _ => by rw [pr_nil]; exact Nat.coprime_one_left P
  | x :: l, h => by
    rw [pr_cons]
    exact Nat.Coprime.mul_left (h x (List.mem_cons_self ..)) (pr_cop l fun y hy => h y (List.mem_cons_of_mem _ hy))
theorem fermat {P : Nat} (h : PrimeN P) {a : Nat} (h1 : 0 < a) (h2 : a < P) : a ^ (P - 1) % P = 1 := by
  have hc := h.cop h1 h2
  have hP := h.two
  let l := (List.range (P - 1)).map (· + 1)
  have hl : l.length = P - 1 := by simp [l]
  have hmem : ∀ x, x ∈ l ↔ 0 < x ∧ x < P := fun x => by
    simp only [l, List.mem_map, List.mem_range]
    constructor
    · rintro ⟨y, hy, rfl⟩; omega
    · intro hx; exact ⟨x - 1, by omega, by omega⟩
  have hinj : ∀ x y, x ∈ l → y ∈ l → x ≤ y → a * x % P = a * y % P → x = y := fun x y hx hy hxy he => by
    have hd : P ∣ a * y - a * x := Nat.dvd_of_mod_eq_zero (Nat.sub_mod_eq_zero_of_mod_eq he.symm)
    rw [← Nat.mul_sub] at hd
    have hd2 := Nat.Coprime.dvd_of_dvd_mul_left (Nat.Coprime.symm hc) hd
    have h3 := (hmem y).1 hy
    rcases Nat.eq_zero_or_pos (y - x) with h4 | h4
    · omega
    · have := Nat.le_of_dvd h4 hd2; omega
  have hnd : (l.map fun x => a * x % P).Nodup := by
    have hln : l.Nodup := by
      simp only [l]
      rw [List.nodup_iff_pairwise_ne, List.pairwise_map]
      exact List.Pairwise.imp (fun hab he => by omega) List.pairwise_lt_range
    rw [List.nodup_iff_pairwise_ne, List.pairwise_map]
    rw [List.nodup_iff_pairwise_ne] at hln
    refine List.Pairwise.imp_of_mem (fun {x y} hx hy hne he => hne ?_) hln
    rcases Nat.le_total x y with hxy | hxy
    · exact hinj x y hx hy hxy he
    · exact (hinj y x hy hx hxy he.symm).symm
  have hsub : ∀ x ∈ l.map fun x => a * x % P, x ∈ l := fun x hx => by
    obtain ⟨y, hy, rfl⟩ := List.mem_map.1 hx
    have h3 := (hmem y).1 hy
    rw [hmem]
    refine ⟨?_, Nat.mod_lt _ (by omega)⟩
    rcases Nat.eq_zero_or_pos (a * y % P) with h4 | h4
    · have := Nat.Coprime.dvd_of_dvd_mul_left (Nat.Coprime.symm hc) (Nat.dvd_of_mod_eq_zero h4)
      have := Nat.le_of_dvd h3.1 this
      omega
    · exact h4
  have hperm := perm_of_sub _ l hnd hsub (Nat.le_of_eq (List.length_map _).symm)
  have hpr := pr_map a P l
  rw [pr_perm hperm, hl] at hpr
  have hcp := pr_cop l fun x hx => h.cop ((hmem x).1 hx).1 ((hmem x).1 hx).2
  have hpos : 0 < a ^ (P - 1) := Nat.pow_pos h1
  have hd : P ∣ a ^ (P - 1) * pr l - 1 * pr l := by
    rw [Nat.one_mul]; exact Nat.dvd_of_mod_eq_zero (Nat.sub_mod_eq_zero_of_mod_eq hpr.symm)
  rw [← Nat.sub_mul] at hd
  have hd2 := Nat.Coprime.dvd_of_dvd_mul_right (Nat.Coprime.symm hcp) hd
  obtain ⟨q, hq⟩ := hd2
  have : a ^ (P - 1) = 1 + P * q := by omega
  rw [this, Nat.add_mul_mod_self_left]
  exact Nat.mod_eq_of_lt (by omega)
end Go.Eng
/- Sums and divisibility; what row operations keep. Plain. -/
set_option linter.unusedVariables false
set_option linter.unusedSimpArgs false
namespace Go.Eng

def sm : Nat → (Nat → Int) → Int
  | 0, _ => 0
  | n + 1, f => sm n f + f n
theorem sm_congr {f g : Nat → Int} : ∀ n, (∀ k, k < n → f k = g k) → sm n f = sm n g
  | 0, _ => rfl
  | n + 1, h => by
    simp only [sm]
    rw [sm_congr n fun k hk => h k (by omega), h n (by omega)]
theorem sm_add (f g : Nat → Int) : ∀ n, sm n (fun k => f k + g k) = sm n f + sm n g
  | 0 => rfl
  | n + 1 => by simp only [sm]; rw [sm_add f g n]; omega
theorem sm_sub (f g : Nat → Int) : ∀ n, sm n (fun k => f k - g k) = sm n f - sm n g
  | 0 => rfl
  | n + 1 => by simp only [sm]; rw [sm_sub f g n]; omega
theorem sm_mul (a : Int) (f : Nat → Int) : ∀ n, sm n (fun k => a * f k) = a * sm n f
  | 0 => by simp [sm]
  | n + 1 => by simp only [sm]; rw [sm_mul a f n, Int.mul_add]
theorem sm_zero {f : Nat → Int} : ∀ n, (∀ k, k < n → f k = 0) → sm n f = 0
  | 0, _ => rfl
  | n + 1, h => by simp only [sm]; rw [sm_zero n fun k hk => h k (by omega), h n (by omega)]; rfl
theorem sm_single {f : Nat → Int} {j : Nat} : ∀ n, j < n → (∀ k, k < n → k ≠ j → f k = 0) → sm n f = f j
  | 0, hj, _ => absurd hj (Nat.not_lt_zero _)
  | n + 1, hj, h => by
    simp only [sm]
    by_cases hjn : j = n
    · subst hjn
      rw [sm_zero j fun k hk => h k (by omega) (by omega)]; omega
    · rw [sm_single n (by omega) fun k hk hkj => h k (by omega) hkj, h n (by omega) (fun e => hjn e.symm)]; omega
theorem sm_dvd {p : Int} {f g : Nat → Int} : ∀ n, (∀ k, k < n → p ∣ f k - g k) → p ∣ sm n f - sm n g
  | 0, _ => by simp [sm]
  | n + 1, h => by
    simp only [sm]
    have h1 := sm_dvd n fun k hk => h k (by omega)
    have h2 := h n (by omega)
    have : sm n f + f n - (sm n g + g n) = (sm n f - sm n g) + (f n - g n) := by omega
    rw [this]; exact Int.dvd_add h1 h2
theorem sm_dvd0 {p : Int} {f : Nat → Int} (n : Nat) (h : ∀ k, k < n → p ∣ f k) : p ∣ sm n f := by
  have := sm_dvd (p := p) (f := f) (g := fun _ => 0) n fun k hk => by simpa using h k hk
  rwa [sm_zero n (f := fun _ => (0 : Int)) fun _ _ => rfl, Int.sub_zero] at this
theorem sm_swap (f : Nat → Nat → Int) (m : Nat) : ∀ n, sm n (fun i => sm m (fun j => f i j)) = sm m (fun j => sm n (fun i => f i j))
  | 0 => by simp only [sm]; exact (sm_zero m fun _ _ => rfl).symm
  | n + 1 => by simp only [sm]; rw [sm_swap f m n, ← sm_add]
def ls (l : List Int) : Int := l.foldr (· + ·) 0
theorem ls_perm {l l' : List Int} (h : l.Perm l') : ls l = ls l' := by
  induction h with
  | nil => rfl
  | cons x _ ih => show x + ls _ = x + ls _; rw [ih]
  | swap x y l => show y + (x + ls l) = x + (y + ls l); omega
  | trans _ _ h1 h2 => exact h1.trans h2
theorem ls_append (a b : List Int) : ls (a ++ b) = ls a + ls b := by
  induction a with
  | nil => simp [ls]
  | cons x a ih => show x + ls (a ++ b) = x + ls a + ls b; rw [ih]; omega
theorem sm_ls (f : Nat → Int) : ∀ n, sm n f = ls ((List.range n).map f)
  | 0 => rfl
  | n + 1 => by
    simp only [sm]
    rw [sm_ls f n, List.range_succ, List.map_append, ls_append]
    simp [ls]
theorem sm_sw (f : Nat → Int) {n i j : Nat} (hi : i < n) (hj : j < n) : sm n (fun k => f (sw i j k)) = sm n f := by
  rw [sm_ls, sm_ls]
  have : (List.range n).map (fun k => f (sw i j k)) = ((List.range n).map (sw i j)).map f := by rw [List.map_map]; rfl
  rw [this]
  refine ls_perm (List.Perm.map f (perm_of_sub _ _ ?_ (fun x hx => ?_) (by simp)))
  · rw [List.nodup_iff_pairwise_ne, List.pairwise_map]
    refine List.Pairwise.imp (fun {a b} hab he => ?_) List.pairwise_lt_range
    have : sw i j (sw i j a) = sw i j (sw i j b) := by rw [he]
    rw [sw_sw, sw_sw] at this
    omega
  · obtain ⟨k, hk, rfl⟩ := List.mem_map.1 hx
    rw [List.mem_range] at hk ⊢
    exact sw_lt hi hj hk

/-! ### entries, solutions, independence -/
def ent (A : List (List Int)) (i k : Nat) : Int := (A.getD i []).getD k 0
def Sol (p : Int) (m : Nat) (A : List (List Int)) (x : Nat → Int) : Prop := ∀ i, i < A.length → p ∣ sm m (fun k => ent A i k * x k)
def LI (p : Int) (m : Nat) (A : List (List Int)) : Prop := ∀ y : Nat → Int, (∀ k, k < m → p ∣ sm A.length (fun i => y i * ent A i k)) → ∀ i, i < A.length → p ∣ y i
theorem ent_swp {A : List (List Int)} {i j : Nat} (hi : i < A.length) (hj : j < A.length) (r k : Nat) : ent (swp [] A i j) r k = ent A (sw i j r) k := by
  unfold ent; rw [swp_get [] A hi hj]
theorem ent_scaled {A : List (List Int)} {top c m : Nat} {p : Int} (ht : top < A.length) (r k : Nat) (hk : k < m) : ent (scaled A top c m p) r k = if r = top then ent A top k * invF (ent A top c) p % p else ent A r k := by
  unfold ent scaled
  by_cases hr : r = top
  · subst hr
    rw [if_pos rfl, getD_setM _ _ _ ht, scaleR, map_range_get _ hk]; rfl
  · rw [if_neg hr, getD_setNe [] A _ hr]
theorem emod_dvd (x p : Int) : p ∣ x % p - x := by
  have := Int.emod_add_mul_ediv x p
  exact ⟨-(x / p), by rw [Int.mul_neg]; omega⟩
/-- A step's elimination, up to multiples of p. -/
theorem ent_elim {A : List (List Int)} {top c m : Nat} {p : Int} {r k : Nat} (hr : r < A.length) (hk : k < m) : p ∣ ent (elimM A top c m p A.length) r k - (ent A r k - (if r = top then 0 else ent A r c) * ent A top k) := by
  unfold ent
  rw [elim_lt hr]
  unfold elimRow
  by_cases hrt : r = top
  · rw [if_pos hrt, if_pos hrt]
    have : (A.getD r []).getD k 0 - ((A.getD r []).getD k 0 - 0 * (A.getD top []).getD k 0) = 0 := by rw [Int.zero_mul]; omega
    rw [this]; exact Int.dvd_zero p
  · rw [if_neg hrt, if_neg hrt]
    by_cases hz : (A.getD r []).getD c 0 = 0
    · rw [if_pos hz, hz]
      have : (A.getD r []).getD k 0 - ((A.getD r []).getD k 0 - 0 * (A.getD top []).getD k 0) = 0 := by rw [Int.zero_mul]; omega
      rw [this]; exact Int.dvd_zero p
    · rw [if_neg hz, map_range_get _ hk, subG]
      generalize (A.getD r []).getD k 0 = u
      generalize (A.getD r []).getD c 0 * (A.getD top []).getD k 0 = v
      have h1 := emod_dvd (u - v % p) p
      have h2 := emod_dvd v p
      have : (u - v % p) % p - (u - v) = ((u - v % p) % p - (u - v % p)) - (v % p - v) := by omega
      rw [this]; exact Int.dvd_sub h1 h2
end Go.Eng
/- What a column's step keeps: solutions, independence of rows; the form at the end. Plain. -/
set_option linter.unusedVariables false
set_option linter.unusedSimpArgs false
namespace Go.Eng

theorem dvd_of_sub {p a b : Int} (h : p ∣ a - b) : p ∣ a ↔ p ∣ b := by
  constructor
  · intro ha
    have : b = a - (a - b) := by omega
    rw [this]; exact Int.dvd_sub ha h
  · intro hb
    have : a = (a - b) + b := by omega
    rw [this]; exact Int.dvd_add h hb
/-- A row's value at x. -/
def lin (m : Nat) (A : List (List Int)) (i : Nat) (x : Nat → Int) : Int := sm m (fun k => ent A i k * x k)
theorem lin_comb {p : Int} {m : Nat} {A B : List (List Int)} {i r t : Nat} {g : Int} {x : Nat → Int} (h : ∀ k, k < m → p ∣ ent A i k - (ent B r k - g * ent B t k)) : p ∣ lin m A i x - (lin m B r x - g * lin m B t x) := by
  unfold lin
  rw [← sm_mul, ← sm_sub]
  refine sm_dvd m fun k hk => ?_
  have e : ent A i k * x k - (ent B r k * x k - g * (ent B t k * x k)) = (ent A i k - (ent B r k - g * ent B t k)) * x k := by
    rw [Int.sub_mul, Int.sub_mul, Int.mul_assoc]
  rw [e]; exact Int.dvd_mul_of_dvd_left (h k hk)
theorem lin_scale {p : Int} {m : Nat} {A B : List (List Int)} {i t : Nat} {f : Int} {x : Nat → Int} (h : ∀ k, k < m → p ∣ ent A i k - f * ent B t k) : p ∣ lin m A i x - f * lin m B t x := by
  unfold lin
  rw [← sm_mul]
  refine sm_dvd m fun k hk => ?_
  have e : ent A i k * x k - f * (ent B t k * x k) = (ent A i k - f * ent B t k) * x k := by rw [Int.sub_mul, Int.mul_assoc]
  rw [e]; exact Int.dvd_mul_of_dvd_left (h k hk)
/-- How the rows after a step come from the rows before. -/
structure Stp (p : Int) (m : Nat) (A A' : List (List Int)) (top c i : Nat) : Prop where
  len : A'.length = A.length
  ti : top < A.length ∧ i < A.length
  piv : p ∣ ent A i c * invF (ent A i c) p - 1
  row : ∀ r, r < A.length → r ≠ top → ∀ k, k < m → p ∣ ent A' r k - (ent A (sw top i r) k - (ent A (sw top i r) c * invF (ent A i c) p) * ent A i k)
  tp : ∀ k, k < m → p ∣ ent A' top k - invF (ent A i c) p * ent A i k
theorem sw_left (i j : Nat) : sw i j i = j := by unfold sw; split <;> simp_all
theorem stp_of {p : Int} {m : Nat} {A : List (List Int)} {top c i : Nat} (ht : top < A.length) (hi : i < A.length) (hc : c < m) (hp : p ∣ ent A i c * invF (ent A i c) p - 1) : Stp p m A (echStep p m A top c i) top c i := by
  have hsl : (swp [] A top i).length = A.length := swp_length _ _ _ _
  have hsc : (scaled (swp [] A top i) top c m p).length = A.length := by rw [scaled_length, hsl]
  have e0 : ∀ k, ent (swp [] A top i) top k = ent A i k := fun k => by rw [ent_swp ht hi, sw_left]
  have e1 : ∀ k, k < m → ent (scaled (swp [] A top i) top c m p) top k = ent A i k * invF (ent A i c) p % p := fun k hk => by
    rw [ent_scaled (by omega) _ _ hk, if_pos rfl, e0, e0]
  have e2 : ∀ r k, r ≠ top → k < m → ent (scaled (swp [] A top i) top c m p) r k = ent A (sw top i r) k := fun r k hr hk => by
    rw [ent_scaled (by omega) _ _ hk, if_neg hr, ent_swp ht hi]
  have hel : ∀ r k, r < A.length → k < m → p ∣ ent (echStep p m A top c i) r k - (ent (scaled (swp [] A top i) top c m p) r k - (if r = top then 0 else ent (scaled (swp [] A top i) top c m p) r c) * ent (scaled (swp [] A top i) top c m p) top k) := fun r k hr hk => by
    have := ent_elim (A := scaled (swp [] A top i) top c m p) (top := top) (c := c) (m := m) (p := p) (r := r) (k := k) (by omega) hk
    rw [hsc] at this
    exact this
  refine ⟨echStep_length p m A top c i, ⟨ht, hi⟩, hp, fun r hr hrt k hk => ?_, fun k hk => ?_⟩
  · have h1 := hel r k hr hk
    rw [if_neg hrt, e2 r k hrt hk, e2 r c hrt hc, e1 k hk] at h1
    have h2 := emod_dvd (ent A i k * invF (ent A i c) p) p
    generalize ent (echStep p m A top c i) r k = u at h1 ⊢
    generalize ent A (sw top i r) k = v at h1 ⊢
    generalize ent A (sw top i r) c = w at h1 ⊢
    generalize ent A i k = z at h1 h2 ⊢
    generalize invF (ent A i c) p = f at h1 h2 ⊢
    have : u - (v - w * f * z) = (u - (v - w * (z * f % p))) - w * (z * f % p - z * f) := by
      rw [Int.mul_sub, Int.mul_comm z f, ← Int.mul_assoc w f z]; omega
    rw [this]
    exact Int.dvd_sub h1 (Int.dvd_mul_of_dvd_right h2)
  · have h1 := hel top k ht hk
    rw [if_pos rfl, e1 k hk, Int.zero_mul, Int.sub_zero] at h1
    have h2 := emod_dvd (ent A i k * invF (ent A i c) p) p
    have : ent (echStep p m A top c i) top k - invF (ent A i c) p * ent A i k = (ent (echStep p m A top c i) top k - ent A i k * invF (ent A i c) p % p) + (ent A i k * invF (ent A i c) p % p - ent A i k * invF (ent A i c) p) := by
      rw [Int.mul_comm (invF _ _)]; omega
    rw [this]; exact Int.dvd_add h1 h2
theorem Stp.sol {p : Int} {m : Nat} {A A' : List (List Int)} {top c i : Nat} (h : Stp p m A A' top c i) (x : Nat → Int) : Sol p m A' x ↔ Sol p m A x := by
  have hr : ∀ r, r < A.length → r ≠ top → p ∣ lin m A' r x - (lin m A (sw top i r) x - (ent A (sw top i r) c * invF (ent A i c) p) * lin m A i x) := fun r hr hrt => lin_comb (h.row r hr hrt)
  have htp : p ∣ lin m A' top x - invF (ent A i c) p * lin m A i x := lin_scale h.tp
  have hinv : p ∣ lin m A i x ↔ p ∣ lin m A' top x := by
    rw [dvd_of_sub htp]
    constructor
    · intro h1; exact Int.dvd_mul_of_dvd_right h1
    · intro h1
      have h2 : p ∣ ent A i c * (invF (ent A i c) p * lin m A i x) := Int.dvd_mul_of_dvd_right h1
      rw [← Int.mul_assoc] at h2
      have h3 : p ∣ (ent A i c * invF (ent A i c) p - 1) * lin m A i x := Int.dvd_mul_of_dvd_left h.piv
      have : lin m A i x = ent A i c * invF (ent A i c) p * lin m A i x - (ent A i c * invF (ent A i c) p - 1) * lin m A i x := by rw [Int.sub_mul]; omega
      rw [this]; exact Int.dvd_sub h2 h3
  constructor
  · intro hs
    have hi0 : p ∣ lin m A i x := hinv.2 (hs top (by rw [h.len]; exact h.ti.1))
    intro q hq
    show p ∣ lin m A q x
    by_cases hqi : sw top i q = top
    · have : q = i := by have := sw_sw top i q; rw [hqi, sw_left] at this; exact this.symm
      rw [this]; exact hi0
    · have hlt := sw_lt h.ti.1 h.ti.2 hq
      have h1 := hr (sw top i q) hlt hqi
      rw [sw_sw] at h1
      have h2 : p ∣ lin m A' (sw top i q) x := hs _ (by rw [h.len]; exact hlt)
      have h3 := (dvd_of_sub h1).1 h2
      have h4 : p ∣ ent A q c * invF (ent A i c) p * lin m A i x := Int.dvd_mul_of_dvd_right hi0
      have : lin m A q x = (lin m A q x - ent A q c * invF (ent A i c) p * lin m A i x) + ent A q c * invF (ent A i c) p * lin m A i x := by omega
      rw [this]; exact Int.dvd_add h3 h4
  · intro hs q hq
    show p ∣ lin m A' q x
    rw [h.len] at hq
    have hi0 : p ∣ lin m A i x := hs i h.ti.2
    by_cases hqt : q = top
    · rw [hqt]; exact hinv.1 hi0
    · rw [dvd_of_sub (hr q hq hqt)]
      exact Int.dvd_sub (hs _ (sw_lt h.ti.1 h.ti.2 hq)) (Int.dvd_mul_of_dvd_right hi0)
end Go.Eng
/- Independence of rows is kept; the form at the end. Plain. -/
set_option linter.unusedVariables false
set_option linter.unusedSimpArgs false
namespace Go.Eng

theorem unit_dvd {p a f y : Int} (h : p ∣ a * f - 1) (hy : p ∣ y * f) : p ∣ y := by
  have h1 : p ∣ a * (y * f) := Int.dvd_mul_of_dvd_right hy
  have h2 : p ∣ (a * f - 1) * y := Int.dvd_mul_of_dvd_left h
  have : y = a * (y * f) - (a * f - 1) * y := by
    have e : a * (y * f) = a * f * y := by rw [Int.mul_comm y f, Int.mul_assoc]
    rw [e, Int.sub_mul]; omega
  rw [this]; exact Int.dvd_sub h1 h2
theorem Stp.li {p : Int} {m : Nat} {A A' : List (List Int)} {top c i : Nat} (h : Stp p m A A' top c i) (hl : LI p m A) : LI p m A' := by
  intro y hy
  rw [h.len] at hy ⊢
  obtain ⟨n, hn⟩ : ∃ n, n = A.length := ⟨_, rfl⟩
  obtain ⟨f, hf⟩ : ∃ f, f = invF (ent A i c) p := ⟨_, rfl⟩
  obtain ⟨S, hS⟩ : ∃ S, S = sm n (fun s => if s = top then 0 else y s * (ent A (sw top i s) c * f)) := ⟨_, rfl⟩
  rw [← hn] at hy ⊢
  have hti := h.ti
  rw [← hn] at hti
  have key : ∀ k, k < m → p ∣ sm n (fun r => (if r = top then y top * f - S else y r) * ent A (sw top i r) k) := fun k hk => by
    have h1 : p ∣ sm n (fun r => y r * ent A' r k) - sm n (fun r => (if r = top then y top * f * ent A i k else y r * ent A (sw top i r) k) - (if r = top then 0 else y r * (ent A (sw top i r) c * f)) * ent A i k) := by
      refine sm_dvd n fun r hr => ?_
      by_cases hrt : r = top
      · rw [if_pos hrt, if_pos hrt, hrt, Int.zero_mul, Int.sub_zero]
        have := h.tp k hk
        rw [← hf] at this
        have e : y top * ent A' top k - y top * f * ent A i k = y top * (ent A' top k - f * ent A i k) := by rw [Int.mul_sub, Int.mul_assoc]
        rw [e]; exact Int.dvd_mul_of_dvd_right this
      · rw [if_neg hrt, if_neg hrt]
        have := h.row r (by omega) hrt k hk
        rw [← hf] at this
        have e : y r * ent A' r k - (y r * ent A (sw top i r) k - y r * (ent A (sw top i r) c * f) * ent A i k) = y r * (ent A' r k - (ent A (sw top i r) k - ent A (sw top i r) c * f * ent A i k)) := by
          rw [Int.mul_sub, Int.mul_sub, Int.mul_assoc (y r) (ent A (sw top i r) c * f)]
        rw [e]; exact Int.dvd_mul_of_dvd_right this
    have h2 := (dvd_of_sub h1).1 (hy k hk)
    have e1 : sm n (fun r => (if r = top then y top * f * ent A i k else y r * ent A (sw top i r) k) - (if r = top then 0 else y r * (ent A (sw top i r) c * f)) * ent A i k) = sm n (fun r => if r = top then y top * f * ent A i k else y r * ent A (sw top i r) k) - ent A i k * S := by
      rw [sm_sub, hS, ← sm_mul]
      congr 1
      exact sm_congr n fun r _ => Int.mul_comm _ _
    have e2 : sm n (fun r => (if r = top then y top * f - S else y r) * ent A (sw top i r) k) = sm n (fun r => if r = top then y top * f * ent A i k else y r * ent A (sw top i r) k) + -(ent A i k * S) := by
      have e3 : sm n (fun r => if r = top then -(ent A i k * S) else 0) = -(ent A i k * S) := by
        rw [sm_single n hti.1 fun r _ hr => if_neg hr, if_pos rfl]
      rw [← e3, ← sm_add]
      refine sm_congr n fun r hr => ?_
      by_cases hrt : r = top
      · rw [if_pos hrt, if_pos hrt, if_pos hrt, hrt, sw_left, Int.sub_mul, Int.mul_comm S]; omega
      · rw [if_neg hrt, if_neg hrt, if_neg hrt]; omega
    rw [e2]
    rw [e1] at h2
    exact h2
  have hz := hl (fun q => if sw top i q = top then y top * f - S else y (sw top i q)) fun k hk => by
    rw [← hn]
    have h1 := key k hk
    rw [← sm_sw (fun r => (if r = top then y top * f - S else y r) * ent A (sw top i r) k) hti.1 hti.2] at h1
    have e : sm n (fun q => (if sw top i q = top then y top * f - S else y (sw top i q)) * ent A (sw top i (sw top i q)) k) = sm n (fun q => (if sw top i q = top then y top * f - S else y (sw top i q)) * ent A q k) := sm_congr n fun q _ => by rw [sw_sw]
    rw [e] at h1
    exact h1
  rw [← hn] at hz
  have hne : ∀ r, r < n → r ≠ top → p ∣ y r := fun r hr hrt => by
    have := hz (sw top i r) (sw_lt hti.1 hti.2 hr)
    simp only [sw_sw, if_neg hrt] at this
    exact this
  intro r hr
  by_cases hrt : r = top
  · have h1 := hz (sw top i top) (sw_lt hti.1 hti.2 hti.1)
    simp only [sw_sw, if_true] at h1
    have h2 : p ∣ S := by
      rw [hS]
      refine sm_dvd0 n fun s hs => ?_
      by_cases hst : s = top
      · rw [if_pos hst]; exact Int.dvd_zero p
      · rw [if_neg hst]; exact Int.dvd_mul_of_dvd_left (hne s hs hst)
    have h3 : p ∣ y top * f := by
      have : y top * f = (y top * f - S) + S := by omega
      rw [this]; exact Int.dvd_add h1 h2
    rw [hrt]
    exact unit_dvd (by rw [hf]; exact h.piv) h3
  · exact hne r hr hrt

theorem eq_of_dvd {p a b : Int} (ha : 0 ≤ a ∧ a < p) (hb : 0 ≤ b ∧ b < p) (h : p ∣ a - b) : a = b := by
  obtain ⟨q, hq⟩ := h
  rcases Int.lt_trichotomy q 0 with h1 | h1 | h1
  · have : p * q ≤ p * (-1) := Int.mul_le_mul_of_nonneg_left (by omega) (by omega)
    omega
  · rw [h1] at hq; omega
  · have : p * 1 ≤ p * q := Int.mul_le_mul_of_nonneg_left (by omega) (by omega)
    omega
/-- The form while columns are done. -/
structure Fin (p : Int) (m n : Nat) (A : List (List Int)) (top c : Nat) (piv : List Int) : Prop where
  len : A.length = n
  tn : top ≤ n
  pl : piv.length = top
  pb : ∀ j, j < top → 0 ≤ piv.getD j 0 ∧ piv.getD j 0 < c
  inc : ∀ j j', j < j' → j' < top → piv.getD j 0 < piv.getD j' 0
  one : ∀ j, j < top → ent A j (piv.getD j 0).toNat = 1
  zro : ∀ r j, r < n → j < top → r ≠ j → ent A r (piv.getD j 0).toNat = 0
  low : ∀ r, top ≤ r → r < n → ∀ k, k < c → ent A r k = 0
  lft : ∀ j, j < top → ∀ k, k < (piv.getD j 0).toNat → ent A j k = 0
  rng : InR p m A
  wid : Wid m A
theorem snoc_lt (piv : List Int) (c : Int) {j : Nat} (h : j < piv.length) : (piv ++ [c]).getD j 0 = piv.getD j 0 := by
  simp only [List.getD_eq_getElem?_getD]; rw [List.getElem?_append_left h]
theorem snoc_at (piv : List Int) (c : Int) : (piv ++ [c]).getD piv.length 0 = c := by simp [List.getD_eq_getElem?_getD]
theorem invF_piv {p a : Int} (hp : PrimeN p.toNat) (hp2 : 2 ≤ p) (ha : 0 < a ∧ a < p) : p ∣ a * invF a p - 1 := by
  have hf := fermat hp (a := a.toNat) (by omega) (by omega)
  have hpow : a ^ (p.toNat - 1) % p = 1 := by
    have e : a = (a.toNat : Int) := by omega
    have e2 : p = (p.toNat : Int) := by omega
    rw [e, ← Int.natCast_pow]
    have h3 : ((a.toNat ^ (p.toNat - 1) % p.toNat : Nat) : Int) = 1 := by rw [hf]; rfl
    rw [Int.natCast_emod] at h3
    rw [← e2] at h3
    simpa using h3
  have hx : a * (a ^ (p.toNat - 2) % p) % p = 1 := by
    rw [Int.mul_emod, Int.emod_emod_of_dvd _ (Int.dvd_refl p), ← Int.mul_emod, Int.mul_comm, ← Int.pow_succ]
    have : (p.toNat - 2).succ = p.toNat - 1 := by omega
    rw [this]; exact hpow
  have hx0 := Int.emod_nonneg (a ^ (p.toNat - 2)) (show p ≠ 0 by omega)
  have hx1 := Int.emod_lt_of_pos (a ^ (p.toNat - 2)) (show 0 < p by omega)
  cases hL : invL a p with
  | none =>
    have := List.find?_eq_none.1 hL (a ^ (p.toNat - 2) % p).toNat (List.mem_range.2 (by omega))
    have e : (((a ^ (p.toNat - 2) % p).toNat : Nat) : Int) = a ^ (p.toNat - 2) % p := by omega
    rw [e, hx] at this
    simp at this
  | some y =>
    have h5 := List.find?_some hL
    simp only [beq_iff_eq] at h5
    unfold invF
    rw [hL]
    simp only [Option.getD_some]
    have := emod_dvd (a * (y : Int)) p
    rw [h5] at this
    have e : a * (y : Int) - 1 = -(1 - a * (y : Int)) := by omega
    rw [e]; exact Int.dvd_neg.2 this
theorem Fin.skip {p : Int} {m n : Nat} {A : List (List Int)} {top c : Nat} {piv : List Int} (h : Fin p m n A top c piv) (ht : top < A.length) (hf : fnz A c top = A.length) : Fin p m n A top (c + 1) piv := by
  have hz := (fnz_spec A (c := c) (Nat.le_of_lt ht)).1
  rw [hf] at hz
  exact ⟨h.len, h.tn, h.pl, fun j hj => by have := h.pb j hj; omega, h.inc, h.one, h.zro, fun r hr hrn k hk => by
    by_cases hkc : k = c
    · subst hkc; exact hz r hr (by rw [h.len]; exact hrn)
    · exact h.low r hr hrn k (by omega), h.lft, h.rng, h.wid⟩
theorem Fin.go {p : Int} {m n : Nat} {A : List (List Int)} {top c : Nat} {piv : List Int} (hP : PrimeN p.toNat) (hp : 2 ≤ p) (h : Fin p m n A top c piv) (hc : c < m) (ht : top < A.length) (hf : fnz A c top < A.length) :
    Fin p m n (echStep p m A top c (fnz A c top)) (top + 1) (c + 1) (piv ++ [(c : Int)]) ∧ Stp p m A (echStep p m A top c (fnz A c top)) top c (fnz A c top) := by
  obtain ⟨hz1, hz2⟩ := fnz_spec A (c := c) (Nat.le_of_lt ht)
  have hle := (fnz_le A (c := c) (Nat.le_of_lt ht)).2
  generalize fnz A c top = i at *
  have hnz := hz2 hf
  have hlen := h.len
  have hin := h.rng i c hf hc
  have hpiv : p ∣ ent A i c * invF (ent A i c) p - 1 := invF_piv hP hp ⟨by have : (A.getD i []).getD c 0 ≠ 0 := hnz; show 0 < (A.getD i []).getD c 0; omega, hin.2⟩
  have hs := stp_of (p := p) (m := m) ht hf hc hpiv
  obtain ⟨A', hA'⟩ : ∃ A', A' = echStep p m A top c i := ⟨_, rfl⟩
  have hr' : InR p m A' := by rw [hA']; exact echStep_in (by omega) h.rng ht hf
  have hw' : Wid m A' := by rw [hA']; exact echStep_wid h.wid ht hf
  rw [← hA'] at hs ⊢
  have hl' : A'.length = n := by rw [hs.len, hlen]
  have hiL : ∀ k, k < c → ent A i k = 0 := fun k hk => h.low i hle (by omega) k hk
  have hsm : ∀ r, r < top → sw top i r = r := fun r hr => by unfold sw; rw [if_neg (by omega), if_neg (by omega)]
  have hsg : ∀ r, top < r → r < n → top ≤ sw top i r ∧ sw top i r < n := fun r h1 h2 => by
    unfold sw
    split
    · omega
    · rw [if_neg (by omega)]; omega
  -- entries left of c
  have eT : ∀ k, k < c → ent A' top k = 0 := fun k hk => by
    have h1 := hs.tp k (by omega)
    rw [hiL k hk, Int.mul_zero] at h1
    exact eq_of_dvd (hr' top k (by omega) (by omega)) ⟨by omega, by omega⟩ h1
  have eR : ∀ r k, r < n → r ≠ top → k < c → ent A' r k = ent A (sw top i r) k := fun r k hr hrt hk => by
    have h1 := hs.row r (by omega) hrt k (by omega)
    rw [hiL k hk, Int.mul_zero, Int.sub_zero] at h1
    exact eq_of_dvd (hr' r k (by omega) (by omega)) (h.rng _ k (sw_lt ht hf (by omega)) (by omega)) h1
  have eTc : ent A' top c = 1 := by
    have h1 := hs.tp c hc
    have h2 : p ∣ ent A' top c - 1 := by
      have : ent A' top c - 1 = (ent A' top c - invF (ent A i c) p * ent A i c) + (ent A i c * invF (ent A i c) p - 1) := by rw [Int.mul_comm (invF _ _)]; omega
      rw [this]; exact Int.dvd_add h1 hpiv
    exact eq_of_dvd (hr' top c (by omega) hc) ⟨by omega, by omega⟩ h2
  have eRc : ∀ r, r < n → r ≠ top → ent A' r c = 0 := fun r hr hrt => by
    have h1 := hs.row r (by omega) hrt c hc
    have h2 : p ∣ ent A' r c - 0 := by
      have : ent A' r c - 0 = (ent A' r c - (ent A (sw top i r) c - ent A (sw top i r) c * invF (ent A i c) p * ent A i c)) - ent A (sw top i r) c * (ent A i c * invF (ent A i c) p - 1) := by
        have e : ent A (sw top i r) c * invF (ent A i c) p * ent A i c = ent A (sw top i r) c * (ent A i c * invF (ent A i c) p) := by rw [Int.mul_assoc, Int.mul_comm (invF _ _)]
        rw [e, Int.mul_sub]; omega
      rw [this]; exact Int.dvd_sub h1 (Int.dvd_mul_of_dvd_right hpiv)
    exact eq_of_dvd (hr' r c (by omega) hc) ⟨by omega, by omega⟩ h2
  have hpl := h.pl
  have hP1 : ∀ j, j < top → (piv ++ [(c : Int)]).getD j 0 = piv.getD j 0 := fun j hj => snoc_lt piv _ (by omega)
  have hP2 : (piv ++ [(c : Int)]).getD top 0 = c := by rw [← hpl]; exact snoc_at piv _
  refine ⟨⟨hl', by omega, by rw [List.length_append, hpl]; rfl, fun j hj => ?_, fun j j' hj hj' => ?_, fun j hj => ?_, fun r j hr hj hrj => ?_, fun r hr hrn k hk => ?_, fun j hj k hk => ?_, hr', hw'⟩, hs⟩
  · by_cases hjt : j = top
    · rw [hjt, hP2]; omega
    · rw [hP1 j (by omega)]; have := h.pb j (by omega); omega
  · by_cases hjt : j' = top
    · rw [hjt, hP2, hP1 j (by omega)]; have := h.pb j (by omega); omega
    · rw [hP1 j (by omega), hP1 j' (by omega)]; exact h.inc j j' hj (by omega)
  · by_cases hjt : j = top
    · rw [hjt, hP2, Int.toNat_natCast]; exact eTc
    · have hb := h.pb j (by omega)
      rw [hP1 j (by omega), eR j _ (by omega) hjt (by omega), hsm j (by omega)]
      exact h.one j (by omega)
  · by_cases hjt : j = top
    · rw [hjt, hP2, Int.toNat_natCast]; exact eRc r hr (by omega)
    · have hb := h.pb j (by omega)
      rw [hP1 j (by omega)]
      by_cases hrt : r = top
      · rw [hrt]; exact eT _ (by omega)
      · rw [eR r _ hr hrt (by omega)]
        rcases Nat.lt_or_ge r top with h1 | h1
        · rw [hsm r h1]; exact h.zro r j hr (by omega) hrj
        · have := hsg r (by omega) hr
          exact h.low _ this.1 this.2 _ (by omega)
  · by_cases hkc : k = c
    · rw [hkc]; exact eRc r hrn (by omega)
    · rw [eR r k hrn (by omega) (by omega)]
      have := hsg r (by omega) hrn
      exact h.low _ this.1 this.2 k (by omega)
  · by_cases hjt : j = top
    · rw [hjt, hP2, Int.toNat_natCast] at hk
      rw [hjt]; exact eT k hk
    · have hb := h.pb j (by omega)
      rw [hP1 j (by omega)] at hk
      rw [eR j k (by omega) hjt (by omega), hsm j (by omega)]
      exact h.lft j (by omega) k hk
end Go.Eng
/- Echelon's result: its form, its solutions, its rank; it is the only one. Plain. -/
set_option linter.unusedVariables false
set_option linter.unusedSimpArgs false
namespace Go.Eng

/-- Each row of A solves B. -/
def RS (p : Int) (m : Nat) (B A : List (List Int)) : Prop := ∀ i, i < A.length → Sol p m B (ent A i)
theorem sol_lin {p : Int} {m : Nat} {B : List (List Int)} {x y z : Nat → Int} {g : Int} (hx : ∀ k, k < m → p ∣ x k - (y k - g * z k)) (hy : Sol p m B y) (hz : Sol p m B z) : Sol p m B x := fun q hq => by
  have h1 : p ∣ sm m (fun k => ent B q k * x k) - (sm m (fun k => ent B q k * y k) - g * sm m (fun k => ent B q k * z k)) := by
    rw [← sm_mul, ← sm_sub]
    refine sm_dvd m fun k hk => ?_
    have e : ent B q k * x k - (ent B q k * y k - g * (ent B q k * z k)) = ent B q k * (x k - (y k - g * z k)) := by
      rw [Int.mul_sub, Int.mul_sub, Int.mul_left_comm]
    rw [e]; exact Int.dvd_mul_of_dvd_right (hx k hk)
  rw [dvd_of_sub h1]
  exact Int.dvd_sub (hy q hq) (Int.dvd_mul_of_dvd_right (hz q hq))
theorem Stp.rs {p : Int} {m : Nat} {A A' B : List (List Int)} {top c i : Nat} (h : Stp p m A A' top c i) (hr : RS p m B A) : RS p m B A' := fun r hlt => by
  rw [h.len] at hlt
  by_cases hrt : r = top
  · subst hrt
    refine sol_lin (g := -(invF (ent A i c) p)) (y := fun _ => 0) (z := ent A i) (fun k hk => ?_) (fun q hq => ?_) (hr i h.ti.2)
    · have := h.tp k hk
      have e : ent A' r k - (0 - -(invF (ent A i c) p) * ent A i k) = ent A' r k - invF (ent A i c) p * ent A i k := by rw [Int.neg_mul]; omega
      rw [e]; exact this
    · rw [sm_zero m fun k hk => Int.mul_zero _]; exact Int.dvd_zero p
  · exact sol_lin (fun k hk => h.row r hlt hrt k hk) (hr _ (sw_lt h.ti.1 h.ti.2 hlt)) (hr i h.ti.2)
structure EchF (p : Int) (m : Nat) (A R : List (List Int)) (top : Nat) (piv : List Int) : Prop where
  fin : Fin p m A.length R top m piv
  sol : ∀ x, Sol p m R x ↔ Sol p m A x
  li : LI p m A → LI p m R
  rs : ∀ B, RS p m B A → RS p m B R
theorem echA_form {p : Int} (hP : PrimeN p.toNat) (hp : 2 ≤ p) {m : Nat} {A : List (List Int)} (hw : Wid m A) (hr : InR p m A) (h1 : 1 ≤ A.length) : EchF p m A (echA p A).1 (echA p A).2.1 (echA p A).2.2 := by
  have hm : (A.getD 0 []).length = m := hw 0 (by omega)
  unfold echA
  rw [hm]
  obtain ⟨c', -, h2, ⟨h3, h4, h5, h6⟩, h7⟩ := echL_ind (p := p) (m := m) (fun B top c piv => Fin p m A.length B top c piv ∧ (∀ x, Sol p m B x ↔ Sol p m A x) ∧ (LI p m A → LI p m B) ∧ (∀ C, RS p m C A → RS p m C B))
    (fun B top c piv h hc ht hf => ⟨h.1.skip ht hf, h.2⟩)
    (fun B top c piv h hc ht hf => by
      obtain ⟨g1, g2⟩ := h.1.go hP hp hc ht hf
      exact ⟨g1, fun x => (g2.sol x).trans (h.2.1 x), fun hl => g2.li (h.2.2.1 hl), fun C hC => g2.rs (h.2.2.2 C hC)⟩)
    m A 0 0 [] (by omega) (Nat.zero_le _) ⟨⟨rfl, Nat.zero_le _, rfl, fun j hj => absurd hj (Nat.not_lt_zero _), fun j j' h1 h2 => absurd h2 (Nat.not_lt_zero _), fun j hj => absurd hj (Nat.not_lt_zero _), fun r j _ hj => absurd hj (Nat.not_lt_zero _), fun r _ _ k hk => absurd hk (Nat.not_lt_zero _), fun j hj => absurd hj (Nat.not_lt_zero _), hr, hw⟩, fun _ => Iff.rfl, id, fun _ h => h⟩
  refine ⟨⟨h3.len, h3.tn, h3.pl, fun j hj => by have := h3.pb j hj; omega, h3.inc, h3.one, h3.zro, fun r hr1 hr2 k hk => ?_, h3.lft, h3.rng, h3.wid⟩, h4, h5, h6⟩
  rcases h7 with h7 | h7
  · exact h3.low r hr1 hr2 k (by omega)
  · rw [h3.len] at h7; omega
/-- Independent rows: the rank is their number. -/
theorem EchF.rank {p : Int} {m : Nat} {A R : List (List Int)} {top : Nat} {piv : List Int} (hp : 2 ≤ p) (h : EchF p m A R top piv) (hl : LI p m A) : top = A.length := by
  rcases Nat.lt_or_ge top A.length with h1 | h1
  · have hli := h.li hl (fun i => if i = top then 1 else 0) (fun k hk => by
      rw [h.fin.len, sm_single A.length h1 fun i _ hi => by rw [if_neg hi, Int.zero_mul], if_pos rfl, h.fin.low top (Nat.le_refl _) h1 k hk]
      exact Int.dvd_zero p) top (by rw [h.fin.len]; exact h1)
    simp only [if_true] at hli
    have := Int.le_of_dvd (by omega) hli
    omega
  · have := h.fin.tn; omega
/-- The solution that belongs to the column c. -/
def xv (A : List (List Int)) (top : Nat) (piv : List Int) (c k : Nat) : Int := (if k = c then 1 else 0) - sm top (fun j => if (piv.getD j 0).toNat = k then ent A j c else 0)
theorem xv_row {A : List (List Int)} {top : Nat} {piv : List Int} {c m : Nat} (B : List (List Int)) (r : Nat) (hc : c < m) (hb : ∀ j, j < top → (piv.getD j 0).toNat < m) : sm m (fun k => ent B r k * xv A top piv c k) = ent B r c - sm top (fun j => ent A j c * ent B r (piv.getD j 0).toNat) := by
  have e1 : sm m (fun k => ent B r k * xv A top piv c k) = sm m (fun k => if k = c then ent B r c else 0) - sm m (fun k => sm top (fun j => if (piv.getD j 0).toNat = k then ent A j c * ent B r k else 0)) := by
    rw [← sm_sub]
    refine sm_congr m fun k hk => ?_
    unfold xv
    rw [Int.mul_sub, ← sm_mul]
    congr 1
    · by_cases h : k = c
      · rw [if_pos h, if_pos h, h, Int.mul_one]
      · rw [if_neg h, if_neg h, Int.mul_zero]
    · refine sm_congr top fun j hj => ?_
      by_cases h : (piv.getD j 0).toNat = k
      · rw [if_pos h, if_pos h, Int.mul_comm]
      · rw [if_neg h, if_neg h, Int.mul_zero]
  rw [e1, sm_single m hc fun k _ hk => if_neg hk, if_pos rfl, sm_swap]
  congr 1
  refine sm_congr top fun j hj => ?_
  rw [sm_single m (hb j hj) fun k _ hk => if_neg (fun h => hk h.symm), if_pos rfl]
theorem Fin.xsol {p : Int} {m n : Nat} {A : List (List Int)} {top : Nat} {piv : List Int} (h : Fin p m n A top m piv) {c : Nat} (hc : c < m) : Sol p m A (xv A top piv c) := fun r hr => by
  rw [h.len] at hr
  rw [xv_row A r hc fun j hj => by have := h.pb j hj; omega]
  have : sm top (fun j => ent A j c * ent A r (piv.getD j 0).toNat) = ent A r c := by
    rcases Nat.lt_or_ge r top with h1 | h1
    · rw [sm_single top h1 fun j hj hjr => by rw [h.zro r j hr hj (fun e => hjr e.symm), Int.mul_zero], h.one r h1, Int.mul_one]
    · rw [h.low r h1 hr c hc]
      exact sm_zero top fun j hj => by rw [h.zro r j hr hj (by omega), Int.mul_zero]
  rw [this, Int.sub_self]
  exact Int.dvd_zero p
theorem Fin.free {p : Int} (hp : 2 ≤ p) {m n n' : Nat} {A A' : List (List Int)} {top top' : Nat} {piv piv' : List Int} (h : Fin p m n A top m piv) (h' : Fin p m n' A' top' m piv') (hs : ∀ x, Sol p m A x → Sol p m A' x) {c i : Nat} (hi : i < top') (hci : (piv'.getD i 0).toNat = c) : ∃ j, j < top ∧ (piv.getD j 0).toNat = c := by
  refine Classical.byContradiction fun hno => ?_
  have hno' : ∀ j, j < top → (piv.getD j 0).toNat ≠ c := fun j hj e => hno ⟨j, hj, e⟩
  have hb := h'.pb i hi
  have hcm : c < m := by omega
  have hin : i < n' := by have := h'.tn; omega
  have hx := hs _ (h.xsol hcm) i (by rw [h'.len]; exact hin)
  rw [xv_row A' i hcm fun j hj => by have := h.pb j hj; omega] at hx
  have h0 : sm top (fun j => ent A j c * ent A' i (piv.getD j 0).toNat) = 0 := sm_zero top fun j hj => by
    rcases Nat.lt_trichotomy (piv.getD j 0).toNat c with h1 | h1 | h1
    · rw [h'.lft i hi _ (by rw [hci]; exact h1), Int.mul_zero]
    · exact absurd h1 (hno' j hj)
    · rw [h.lft j hj c h1, Int.zero_mul]
  rw [h0, ← hci, h'.one i hi] at hx
  have := Int.le_of_dvd (by omega) hx
  omega
theorem inc_eq {f g : Nat → Int} {a b : Nat} (hf : ∀ i j, i < j → j < a → f i < f j) (hg : ∀ i j, i < j → j < b → g i < g j) (hfg : ∀ i, i < a → ∃ j, j < b ∧ g j = f i) (hgf : ∀ i, i < b → ∃ j, j < a ∧ f j = g i) : a = b ∧ ∀ j, j < a → f j = g j := by
  have key : ∀ j, (∀ i, i < j → i < a → i < b → f i = g i) → j < a → j < b ∧ f j = g j := fun j ih hj => by
    have low : ∀ i, i < j → i < b := fun i hi => by
      refine Classical.byContradiction fun hb => ?_
      -- the least such i: g has only b values
      have hbj : b < j + 1 := by omega
      obtain ⟨q, hq, hqe⟩ := hfg j hj
      rcases Nat.lt_or_ge q j with h1 | h1
      · have := ih q h1 (by omega) hq
        have := hf q j h1 hj
        omega
      · omega
    obtain ⟨q, hq, hqe⟩ := hfg j hj
    have hqj : j ≤ q := by
      rcases Nat.lt_or_ge q j with h1 | h1
      · have e1 := ih q h1 (by omega) hq
        have e2 := hf q j h1 hj
        omega
      · exact h1
    have hjb : j < b := by omega
    refine ⟨hjb, ?_⟩
    obtain ⟨r, hr, hre⟩ := hgf j hjb
    have hrj : j ≤ r := by
      rcases Nat.lt_or_ge r j with h1 | h1
      · have e1 := ih r h1 hr (by omega)
        have e2 := hg r j h1 hjb
        omega
      · exact h1
    have e1 : g j ≤ g q := by
      rcases Nat.lt_or_ge j q with h1 | h1
      · have := hg j q h1 hq; omega
      · have : j = q := by omega
        rw [this]; exact Int.le_refl _
    have e2 : f j ≤ f r := by
      rcases Nat.lt_or_ge j r with h1 | h1
      · have := hf j r h1 hr; omega
      · have : j = r := by omega
        rw [this]; exact Int.le_refl _
    omega
  have all : ∀ n j, j < n → j < a → j < b ∧ f j = g j := fun n => by
    induction n with
    | zero => intro j h; exact absurd h (Nat.not_lt_zero _)
    | succ n ih =>
      intro j hj hja
      exact key j (fun i hi hia hib => (ih i (by omega) hia).2) hja
  refine ⟨?_, fun j hj => (all (j + 1) j (by omega) hj).2⟩
  rcases Nat.lt_trichotomy a b with h1 | h1 | h1
  · obtain ⟨j, hj, he⟩ := hgf a h1
    have e1 := (all (j + 1) j (by omega) hj).2
    have e2 := hg j a hj h1
    omega
  · exact h1
  · exact absurd (all (b + 1) b (by omega) h1).1 (Nat.lt_irrefl _)
/-- The reduced form is determined by the solutions. -/
theorem Fin.unique {p : Int} (hp : 2 ≤ p) {m n n' : Nat} {A A' : List (List Int)} {top top' : Nat} {piv piv' : List Int} (h : Fin p m n A top m piv) (h' : Fin p m n' A' top' m piv') (hs : ∀ x, Sol p m A x ↔ Sol p m A' x) : A.take top = A'.take top' := by
  have hpb := h.pb
  have hpb' := h'.pb
  obtain ⟨htt, hpp⟩ := inc_eq (f := fun j => piv.getD j 0) (g := fun j => piv'.getD j 0) h.inc h'.inc
    (fun i hi => by
      obtain ⟨j, hj, he⟩ := h'.free hp h (fun x => (hs x).2) hi rfl
      have h1 := hpb' j hj; have h2 := hpb i hi
      exact ⟨j, hj, by show piv'.getD j 0 = piv.getD i 0; omega⟩)
    (fun i hi => by
      obtain ⟨j, hj, he⟩ := h.free hp h' (fun x => (hs x).1) hi rfl
      have h1 := hpb j hj; have h2 := hpb' i hi
      exact ⟨j, hj, by show piv.getD j 0 = piv'.getD i 0; omega⟩)
  subst htt
  have hpp' : ∀ j, j < top → piv.getD j 0 = piv'.getD j 0 := hpp
  have hn := h.tn
  have hn' := h'.tn
  have hl := h.len
  have hl' := h'.len
  refine List.ext_getElem (by rw [List.length_take, List.length_take]; omega) fun i h1 h2 => ?_
  rw [List.length_take] at h1
  have e1 : (A.take top)[i]'(by rw [List.length_take]; exact h1) = A.getD i [] := by
    simp [List.getElem_take, List.getD_eq_getElem?_getD, show i < A.length from by omega]
  have e2 : (A'.take top)[i]'h2 = A'.getD i [] := by
    simp [List.getElem_take, List.getD_eq_getElem?_getD, show i < A'.length from by omega]
  rw [e1, e2]
  have w1 := h.wid i (by omega)
  have w2 := h'.wid i (by omega)
  refine List.ext_getElem (by omega) fun k k1 k2 => ?_
  have g1 : (A.getD i [])[k] = ent A i k := by unfold ent; rw [List.getD_eq_getElem?_getD (l := A.getD i []), List.getElem?_eq_getElem k1]; rfl
  have g2 : (A'.getD i [])[k] = ent A' i k := by unfold ent; rw [List.getD_eq_getElem?_getD (l := A'.getD i []), List.getElem?_eq_getElem k2]; rfl
  rw [g1, g2]
  have hx := (hs _).1 (h.xsol (c := k) (by omega)) i (by omega)
  rw [xv_row A' i (by omega) fun j hj => by have := hpb j hj; omega] at hx
  have : sm top (fun j => ent A j k * ent A' i (piv.getD j 0).toNat) = ent A i k := by
    rw [sm_single (j := i) top (by omega) fun j hj hji => by rw [hpp' j hj, h'.zro i j (by omega) hj (fun e => hji e.symm), Int.mul_zero], hpp' i (by omega), h'.one i (by omega), Int.mul_one]
  rw [this] at hx
  exact (eq_of_dvd (h'.rng i k (by omega) (by omega)) (h.rng i k (by omega) (by omega)) hx).symm
end Go.Eng
/- The kernel: its rows are solutions, independent, and their number. Plain. -/
set_option linter.unusedVariables false
set_option linter.unusedSimpArgs false
namespace Go.Eng

theorem len_of_sub : ∀ (l l' : List Nat), l.Nodup → (∀ x ∈ l, x ∈ l') → l.length ≤ l'.length
  | [], l', _, _ => Nat.zero_le _
  | x :: t, l', hn, hs => by
    have hx := hs x (List.mem_cons_self ..)
    rw [List.nodup_cons] at hn
    have hlen := List.length_erase_of_mem hx
    have hpos : 0 < l'.length := List.length_pos_of_mem hx
    have := len_of_sub t (l'.erase x) hn.2 fun y hy => by
      have hne : y ≠ x := fun e => hn.1 (by rw [← e]; exact hy)
      exact (List.mem_erase_of_ne hne).2 (hs y (List.mem_cons_of_mem _ hy))
    simp only [List.length_cons]
    omega
theorem getD_setB (l : List Bool) (j c : Nat) (hj : j < l.length) (v : Bool) : (l.set j v).getD c false = if j = c then v else l.getD c false := by
  by_cases h : j = c
  · subst h; rw [if_pos rfl]; simp [List.getD_eq_getElem?_getD, hj]
  · rw [if_neg h]; simp [List.getD_eq_getElem?_getD, List.getElem?_set_ne h]
theorem getD_setI (l : List Int) (j c : Nat) (hj : j < l.length) (v : Int) : (l.set j v).getD c 0 = if j = c then v else l.getD c 0 := by
  by_cases h : j = c
  · subst h; rw [if_pos rfl]; simp [List.getD_eq_getElem?_getD, hj]
  · rw [if_neg h]; simp [List.getD_eq_getElem?_getD, List.getElem?_set_ne h]
theorem pvB_iff {piv : List Int} {n : Nat} (hb : ∀ i, i < piv.length → 0 ≤ piv.getD i 0 ∧ piv.getD i 0 < n) {c : Nat} (hc : c < n) : ∀ k, k ≤ piv.length → ((pvB piv n k).getD c false = true ↔ ∃ j, j < k ∧ (piv.getD j 0).toNat = c)
  | 0, _ => by
    constructor
    · intro h; simp [pvB, List.getD_eq_getElem?_getD, hc] at h
    · rintro ⟨j, hj, -⟩; exact absurd hj (Nat.not_lt_zero _)
  | k + 1, hk => by
    have hk2 := hb k (by omega)
    simp only [pvB]
    rw [getD_setB _ _ _ (by rw [pvB_length]; omega)]
    by_cases h : (piv.getD k 0).toNat = c
    · rw [if_pos h]
      exact ⟨fun _ => ⟨k, by omega, h⟩, fun _ => rfl⟩
    · rw [if_neg h, pvB_iff hb hc k (by omega)]
      constructor
      · rintro ⟨j, hj, he⟩; exact ⟨j, by omega, he⟩
      · rintro ⟨j, hj, he⟩
        refine ⟨j, ?_, he⟩
        rcases Nat.lt_or_ge j k with h1 | h1
        · exact h1
        · have : j = k := by omega
          subst this; exact absurd he h
/-- The columns that are no pivots. -/
def freeL (piv : List Int) (n c : Nat) : List Nat := (List.range c).filter fun b => !(pvB piv n piv.length).getD b false
theorem kerB_free (rows : List (List Int)) (piv : List Int) (n : Nat) (p : Int) : ∀ c, kerB rows piv n p c = (freeL piv n c).map fun b => kerR rows piv n p b piv.length
  | 0 => rfl
  | c + 1 => by
    simp only [kerB, freeL, List.range_succ, List.filter_append, List.map_append]
    rw [kerB_free rows piv n p c]
    by_cases h : (pvB piv n piv.length).getD c false = true
    · have e : List.filter (fun b => !(pvB piv n piv.length).getD b false) [c] = [] := by rw [List.filter_cons, h]; rfl
      rw [if_pos h, e, List.map_nil, List.append_nil, freeL]
    · have h' : (pvB piv n piv.length).getD c false = false := by
        cases hx : (pvB piv n piv.length).getD c false with
        | false => rfl
        | true => exact absurd hx h
      have e : List.filter (fun b => !(pvB piv n piv.length).getD b false) [c] = [c] := by rw [List.filter_cons, h']; rfl
      rw [if_neg h, e, List.map_singleton, freeL]
theorem mem_free {piv : List Int} {n : Nat} (hb : ∀ i, i < piv.length → 0 ≤ piv.getD i 0 ∧ piv.getD i 0 < n) {b : Nat} : b ∈ freeL piv n n ↔ b < n ∧ ∀ j, j < piv.length → (piv.getD j 0).toNat ≠ b := by
  unfold freeL
  rw [List.mem_filter, List.mem_range]
  constructor
  · rintro ⟨h1, h2⟩
    refine ⟨h1, fun j hj he => ?_⟩
    have := (pvB_iff hb h1 piv.length (Nat.le_refl _)).2 ⟨j, hj, he⟩
    rw [this] at h2; cases h2
  · rintro ⟨h1, h2⟩
    refine ⟨h1, ?_⟩
    cases hx : (pvB piv n piv.length).getD b false with
    | false => rfl
    | true =>
      obtain ⟨j, hj, he⟩ := (pvB_iff hb h1 piv.length (Nat.le_refl _)).1 hx
      exact absurd he (h2 j hj)
theorem free_nodup (piv : List Int) (n c : Nat) : (freeL piv n c).Nodup := by
  unfold freeL
  exact List.Nodup.sublist List.filter_sublist (by
    rw [List.nodup_iff_pairwise_ne]
    exact List.Pairwise.imp (fun h => Nat.ne_of_lt h) List.pairwise_lt_range)
theorem free_count {piv : List Int} {n : Nat} (hb : ∀ i, i < piv.length → 0 ≤ piv.getD i 0 ∧ piv.getD i 0 < n) (hinc : ∀ j j', j < j' → j' < piv.length → piv.getD j 0 < piv.getD j' 0) : (freeL piv n n).length + piv.length = n := by
  have hpn : ((List.range piv.length).map fun j => (piv.getD j 0).toNat).Nodup := by
    rw [List.nodup_iff_pairwise_ne, List.pairwise_map]
    refine List.Pairwise.imp_of_mem (fun {a b} ha hb2 hab he => ?_) List.pairwise_lt_range
    rw [List.mem_range] at ha hb2
    have h1 := hinc a b hab hb2
    have h2 := hb a ha
    have h3 := hb b hb2
    omega
  have hd : (freeL piv n n ++ (List.range piv.length).map fun j => (piv.getD j 0).toNat).Nodup := by
    rw [List.nodup_append]
    refine ⟨free_nodup _ _ _, hpn, fun a ha b hb2 he => ?_⟩
    obtain ⟨j, hj, rfl⟩ := List.mem_map.1 hb2
    rw [List.mem_range] at hj
    exact (mem_free hb).1 ha |>.2 j hj he.symm
  have h1 := len_of_sub _ (List.range n) hd fun x hx => by
    rcases List.mem_append.1 hx with hx | hx
    · rw [List.mem_range]; exact ((mem_free hb).1 hx).1
    · obtain ⟨j, hj, rfl⟩ := List.mem_map.1 hx
      rw [List.mem_range] at hj ⊢
      have := hb j hj; omega
  have h2 := len_of_sub (List.range n) (freeL piv n n ++ (List.range piv.length).map fun j => (piv.getD j 0).toNat) (by
    rw [List.nodup_iff_pairwise_ne]
    exact List.Pairwise.imp (fun h => Nat.ne_of_lt h) List.pairwise_lt_range) fun x hx => by
    rw [List.mem_range] at hx
    rw [List.mem_append]
    by_cases h : x ∈ freeL piv n n
    · exact .inl h
    · refine .inr ?_
      rw [mem_free hb] at h
      have : ∃ j, j < piv.length ∧ (piv.getD j 0).toNat = x := Classical.byContradiction fun hno => h ⟨hx, fun j hj he => hno ⟨j, hj, he⟩⟩
      obtain ⟨j, hj, he⟩ := this
      exact List.mem_map.2 ⟨j, List.mem_range.2 hj, he⟩
  simp only [List.length_append, List.length_map, List.length_range] at h1 h2
  omega
/-- A row of the kernel is, up to multiples of p, the solution of its column. -/
theorem kerR_xv {R : List (List Int)} {piv : List Int} {n c : Nat} {p : Int} (hb : ∀ i, i < piv.length → 0 ≤ piv.getD i 0 ∧ piv.getD i 0 < n) (hinc : ∀ j j', j < j' → j' < piv.length → piv.getD j 0 < piv.getD j' 0) (hc : c < n) (hf : ∀ j, j < piv.length → (piv.getD j 0).toNat ≠ c) {k : Nat} (hk : k < n) :
    ∀ i, i ≤ piv.length → p ∣ (kerR R piv n p c i).getD k 0 - xv R i piv c k
  | 0, _ => by
    have : (kerR R piv n p c 0).getD k 0 = xv R 0 piv c k := by
      unfold xv
      simp only [kerR, sm, Int.sub_zero]
      rw [getD_setI _ _ _ (by simpa using hc)]
      by_cases h : c = k
      · rw [if_pos h, if_pos h.symm]
      · rw [if_neg h, if_neg (fun e => h e.symm)]; simp [List.getD_eq_getElem?_getD, hk]
    rw [this, Int.sub_self]; exact Int.dvd_zero p
  | i + 1, hi => by
    have hbi := hb i (by omega)
    have ih := kerR_xv (R := R) (p := p) hb hinc hc hf hk i (by omega)
    simp only [kerR]
    rw [getD_setI _ _ _ (by rw [kerR_length]; omega)]
    have hx : xv R (i + 1) piv c k = xv R i piv c k - (if (piv.getD i 0).toNat = k then ent R i c else 0) := by
      unfold xv; simp only [sm]; omega
    by_cases h : (piv.getD i 0).toNat = k
    · rw [if_pos h, hx, if_pos h]
      have h0 : xv R i piv c k = 0 := by
        unfold xv
        rw [if_neg (fun e => hf i (by omega) (by rw [h, e])), sm_zero i fun j hj => if_neg (fun e => by
          have h1 := hinc j i hj (by omega)
          have h2 := hb j (by omega)
          omega)]
        rfl
      rw [h0]
      have := emod_dvd (-(R.getD i []).getD c 0) p
      have e : (-(R.getD i []).getD c 0) % p - (0 - ent R i c) = (-(R.getD i []).getD c 0) % p - -(R.getD i []).getD c 0 := by unfold ent; omega
      rw [e]; exact this
    · rw [if_neg h, hx, if_neg h, Int.sub_zero]; exact ih
theorem kerR_take (R : List (List Int)) (top : Nat) (piv : List Int) (n : Nat) (p : Int) (c : Nat) : ∀ i, i ≤ top → kerR (R.take top) piv n p c i = kerR R piv n p c i
  | 0, _ => rfl
  | i + 1, hi => by
    simp only [kerR]
    rw [kerR_take R top piv n p c i (by omega)]
    have : (R.take top).getD i [] = R.getD i [] := by
      simp only [List.getD_eq_getElem?_getD, List.getElem?_take]
      rw [if_pos (by omega)]
    rw [this]
structure KerF (p : Int) (n : Nat) (A K : List (List Int)) (r : Nat) : Prop where
  cnt : K.length + r = n
  li : LI p n K
  rs : RS p n A K
theorem kerB_form {p : Int} (hp : 2 ≤ p) {n : Nat} {A R : List (List Int)} {top : Nat} {piv : List Int} (h : EchF p n A R top piv) : KerF p n A (kerB (R.take top) piv n p n) piv.length := by
  have hF := h.fin
  have hpl := hF.pl
  have hb : ∀ i, i < piv.length → 0 ≤ piv.getD i 0 ∧ piv.getD i 0 < n := fun i hi => hF.pb i (by omega)
  have hinc : ∀ j j', j < j' → j' < piv.length → piv.getD j 0 < piv.getD j' 0 := fun j j' h1 h2 => hF.inc j j' h1 (by omega)
  have hK := kerB_free (R.take top) piv n p n
  have hcnt := free_count hb hinc
  have hKl : (kerB (R.take top) piv n p n).length = (freeL piv n n).length := by rw [hK, List.length_map]
  have hrow : ∀ i, i < (freeL piv n n).length → ∀ k, k < n → p ∣ ent (kerB (R.take top) piv n p n) i k - xv R top piv ((freeL piv n n).getD i 0) k := fun i hi k hk => by
    have hm : (freeL piv n n).getD i 0 ∈ freeL piv n n := by rw [List.getD_eq_getElem?_getD, List.getElem?_eq_getElem hi]; exact List.getElem_mem hi
    obtain ⟨h1, h2⟩ := (mem_free hb).1 hm
    have e : (kerB (R.take top) piv n p n).getD i [] = kerR R piv n p ((freeL piv n n).getD i 0) piv.length := by
      rw [hK, ← kerR_take R top piv n p _ piv.length (by omega)]
      simp [List.getD_eq_getElem?_getD, hi]
    unfold ent
    rw [e, ← hpl]
    exact kerR_xv hb hinc h1 h2 hk piv.length (Nat.le_refl _)
  refine ⟨by omega, fun y hy i hi => ?_, fun i hi => ?_⟩
  · rw [hKl] at hi hy
    have hm : (freeL piv n n).getD i 0 ∈ freeL piv n n := by rw [List.getD_eq_getElem?_getD, List.getElem?_eq_getElem hi]; exact List.getElem_mem hi
    obtain ⟨h1, h2⟩ := (mem_free hb).1 hm
    have h3 := hy _ h1
    have h4 : p ∣ sm (freeL piv n n).length (fun q => y q * ent (kerB (R.take top) piv n p n) q ((freeL piv n n).getD i 0)) - sm (freeL piv n n).length (fun q => if q = i then y i else 0) := by
      refine sm_dvd _ fun q hq => ?_
      have h5 := hrow q hq _ h1
      have hxq : xv R top piv ((freeL piv n n).getD q 0) ((freeL piv n n).getD i 0) = if q = i then 1 else 0 := by
        unfold xv
        rw [sm_zero top fun j hj => if_neg (h2 j (by omega)), Int.sub_zero]
        by_cases hqi : q = i
        · rw [if_pos hqi, if_pos (by rw [hqi])]
        · rw [if_neg hqi, if_neg]
          intro he
          apply hqi
          have e1 : (freeL piv n n).getD q 0 = (freeL piv n n)[q] := by simp [List.getD_eq_getElem?_getD, hq]
          have e2 : (freeL piv n n).getD i 0 = (freeL piv n n)[i] := by simp [List.getD_eq_getElem?_getD, hi]
          rw [e1, e2] at he
          exact ((List.getElem_inj (free_nodup piv n n)).1 he).symm
      rw [hxq] at h5
      by_cases hqi : q = i
      · rw [if_pos hqi] at h5 ⊢
        subst hqi
        have e : y q * ent (kerB (R.take top) piv n p n) q ((freeL piv n n).getD q 0) - y q = y q * (ent (kerB (R.take top) piv n p n) q ((freeL piv n n).getD q 0) - 1) := by rw [Int.mul_sub, Int.mul_one]
        rw [e]; exact Int.dvd_mul_of_dvd_right h5
      · rw [if_neg hqi] at h5 ⊢
        rw [Int.sub_zero] at h5 ⊢
        exact Int.dvd_mul_of_dvd_right h5
    have h5 := (dvd_of_sub h4).1 h3
    rw [sm_single (j := i) _ hi fun q _ hq => if_neg hq, if_pos rfl] at h5
    exact h5
  · rw [hKl] at hi
    have hm : (freeL piv n n).getD i 0 ∈ freeL piv n n := by rw [List.getD_eq_getElem?_getD, List.getElem?_eq_getElem hi]; exact List.getElem_mem hi
    obtain ⟨h1, h2⟩ := (mem_free hb).1 hm
    refine (h.sol _).1 ?_
    refine sol_lin (g := 0) (y := xv R top piv ((freeL piv n n).getD i 0)) (z := fun _ => 0) (fun k hk => ?_) (hF.xsol h1) (fun q hq => ?_)
    · rw [Int.zero_mul, Int.sub_zero]; exact hrow i hi k hk
    · rw [sm_zero n fun k hk => Int.mul_zero _]; exact Int.dvd_zero p
end Go.Eng
