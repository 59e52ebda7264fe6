import Derived.Test.YtopdjdkkhpkmiaaPairs
set_option linter.unusedVariables false
set_option linter.unusedSimpArgs false
set_option maxRecDepth 8000
namespace Go.Proofs.Ytopdjdkkhpkmiaa.Y
open Go Go.Sx

theorem flat_take (l : List (Int × Int)) (m i : Nat) (u : Value) (h : ((l.take m).flatMap pcells)[i]? = some u) : (l.flatMap pcells)[i]? = some u := by
  have : l.flatMap pcells = (l.take m).flatMap pcells ++ (l.drop m).flatMap pcells := by rw [← List.flatMap_append, List.take_append_drop]
  rw [this, List.getElem?_append_left (List.getElem?_eq_some_iff.1 h).1]
  exact h
theorem flat_drop (l : List (Int × Int)) (m i : Nat) (u : Value) (hm : m ≤ l.length) (h : ((l.drop m).flatMap pcells)[i]? = some u) : (l.flatMap pcells)[m * 2 + i]? = some u := by
  have : l.flatMap pcells = (l.take m).flatMap pcells ++ (l.drop m).flatMap pcells := by rw [← List.flatMap_append, List.take_append_drop]
  have hl : ((l.take m).flatMap pcells).length = m * 2 := by rw [flatMap_len pcells_len, List.length_take]; congr 1; omega
  rw [this, List.getElem?_append_right (by omega), hl, show m * 2 + i - m * 2 = i by omega]
  exact h
theorem slP_take {w : World} {A : Option Addr} {n c : Nat} {l : List (Int × Int)} (h : SlG pcells w (.slice A n c) l) {m : Nat} (hm : m ≤ l.length) : SlG pcells w (.slice A m c) (l.take m) := by
  obtain ⟨A', c', he, hr, hc, hl⟩ := h
  injection he with e1 e2 e3
  subst e1 e3
  refine ⟨A, c, by rw [List.length_take]; congr 1; omega, ?_, by rw [List.length_take]; omega, by rw [List.length_take]; omega⟩
  rcases hr with hr | ⟨b, o, rfl, hr⟩
  · left
    have := flatMap_len pcells_len l
    rw [hr] at this
    have h0 : l = [] := List.eq_nil_of_length_eq_zero (by simp only [List.length_nil] at this; omega)
    rw [h0]; simp
  · exact .inr ⟨b, o, rfl, fun i v hi => hr i v (flat_take l m i v hi)⟩
theorem slP_drop {w : World} {A : Option Addr} {n c : Nat} {l : List (Int × Int)} (h : SlG pcells w (.slice A n c) l) {m : Nat} (hm : m ≤ l.length) : SlG pcells w (.slice (sub A c m 2) (n - m) (c - m)) (l.drop m) := by
  obtain ⟨A', c', he, hr, hc, hl⟩ := h
  injection he with e1 e2 e3
  subst e1 e2 e3
  exact ⟨_, _, by rw [List.length_drop], Rd_sub hr (by rw [flatMap_len pcells_len]; omega) _ (fun i u hu => flat_drop l m i u hm hu), by rw [List.length_drop]; omega, by rw [List.length_drop]; omega⟩

theorem pairs_Sort : ∀ (n : Nat) {w : World} {v : Value} {l : List (Int × Int)} (h : SlG pcells w v l) (hn : l.length ≤ n) (hl : l.length ≤ 2 ^ 39), RET Try.prog 59 [v] w fun v' w' => ∃ r, SlG pcells w' v' r ∧ Rising r ∧ (∀ p, p ∈ r ↔ p ∈ l) ∧ r.length ≤ l.length ∧ (∀ k, v'.ownBlock = some k → w.heap.size ≤ k ∧ k < w'.heap.size) ∧ Ext w w' := by
  intro n
  induction n with
  | zero =>
    intro w v l h hn hl
    obtain ⟨A, c, rfl⟩ := h.shape
    refine RET_by fun R k => ?_
    apply by_pairs_Sort
    unfold sh_pairs_Sort
    have h2 : ((l.length : Nat) : Int) < 2 := by omega
    simp (disch := omega) only [EQ_27s, EQ_27n, LN_24, LN_42, IX_24, CV_5_3, LN_49, BD_52_, EQ_52, LN_22, IX_22, BD_69_0_1, BD_52_0_1, IX_42, FA_33_1, FA_33_0, IX_31, FA_74_2, IX_72, FA_74_0, LN_9, SShi_9, BD_87_0_2, BD_91_0_1, FA_91_0, IX_88, FA_87_2, EQ_45s, EQ_45n, LN_88, BD_93_, FA_74_3, CV_3_5, FA_74_1, LN_72, EQ_47s, EQ_47n, FA_93_0, IX_49, FA_69_0, FA_69_1, BD_108_0_1_2, FA_108_1, FA_104_2, FA_108_2, NE_69, FA_108_0, BD_111_0_1, FA_111_2, BD_113_0_1_2, EQ_61s, EQ_61n, FA_111_1, FA_111_0, BD_122_0_1, BD_127_0_1_2, FA_127_3, IX_77, BD_77_, SL_72, SSlo_9, FA_87_0, FA_87_3, BD_136_0_1, FA_91_1, FA_87_1, BD_87_0_1_2_3, BD_139_0_1, BD_145_0_1, EQ_94s, EQ_94n, FA_139_1, EQ_96s, EQ_96n, FA_145_0, FA_52_1, FA_145_1, BD_142_0_1, FA_139_0, FA_52_0, FA_127_2, FA_127_1, SL_hi_49, SL_lo_49, EQ_56s, EQ_56n, EQ_42s, EQ_42n, BD_104_, EQ_104, FA_104_1, FA_104_0, LN_109, IX_109, FA_113_0, FA_113_1, FA_113_2, FA_156_1, FA_156_2, FA_156_0, BD_160_0, FA_160_1, BD_161_0_1, IX_158, IX_161, EQ_65s, EQ_65n, FA_122_0, CV_3_165, CV_165_3, SL_lo_72, SL_hi_72, FA_127_0, EQ_70s, EQ_70n, SX_9, EQ_72s, EQ_72n, FA_142_1, FA_142_0, NE_70s, NE_70n, EQ_49s, EQ_49n, BD_104_0_1, SL_151, EQ_117s, EQ_117n, FA_160_0, SL_lo_42, FA_122_1, CV_165_173, CV_173_165, FA_180_0, NE_117s, NE_117n, BD_161_, CV_173_75, CV_75_173, BD_180_0, EQ_119s, EQ_119n, LN_158, PURE_nils, PURE_nilsf, PURE_nilsi, PURE_pick1, PURE_pick0, PURE_not, PURE_neg, PURE_add, PURE_sub, PURE_mul, PURE_lss, PURE_leq, PURE_gtr, PURE_geq, PURE_eql, PURE_neq, PURE_quo, PURE_rem, PURE_min, PURE_max, PURE_makeFunc, PURE_ext20, PURE_ext21, PURE_ext30, PURE_ext31, PURE_ext32, COND_true, COND_false, Nat.reduceAdd, Nat.zero_add, Int.toNat_natCast, IntWalk.wrap64_in, decide_true, decide_false, Bool.not_true, Bool.not_false, Bool.true_and, Bool.false_and, Bool.and_true, Bool.and_false, h2]
    refine CALL_of (slices_CloneP h (by omega)) ?_
    rintro v' w' ⟨hv, e, hf⟩
    have : l = [] := List.eq_nil_of_length_eq_zero (by omega)
    subst this
    exact k _ _ ⟨[], hv, List.Pairwise.nil, fun _ => Iff.rfl, Nat.le_refl _, hf, e⟩
  | succ n ih =>
    intro w v l h hn hl
    obtain ⟨A, c, rfl⟩ := h.shape
    refine RET_by fun R k => ?_
    apply by_pairs_Sort
    unfold sh_pairs_Sort
    by_cases h2 : l.length < 2
    · have h2' : ((l.length : Nat) : Int) < 2 := by omega
      simp (disch := omega) only [EQ_27s, EQ_27n, LN_24, LN_42, IX_24, CV_5_3, LN_49, BD_52_, EQ_52, LN_22, IX_22, BD_69_0_1, BD_52_0_1, IX_42, FA_33_1, FA_33_0, IX_31, FA_74_2, IX_72, FA_74_0, LN_9, SShi_9, BD_87_0_2, BD_91_0_1, FA_91_0, IX_88, FA_87_2, EQ_45s, EQ_45n, LN_88, BD_93_, FA_74_3, CV_3_5, FA_74_1, LN_72, EQ_47s, EQ_47n, FA_93_0, IX_49, FA_69_0, FA_69_1, BD_108_0_1_2, FA_108_1, FA_104_2, FA_108_2, NE_69, FA_108_0, BD_111_0_1, FA_111_2, BD_113_0_1_2, EQ_61s, EQ_61n, FA_111_1, FA_111_0, BD_122_0_1, BD_127_0_1_2, FA_127_3, IX_77, BD_77_, SL_72, SSlo_9, FA_87_0, FA_87_3, BD_136_0_1, FA_91_1, FA_87_1, BD_87_0_1_2_3, BD_139_0_1, BD_145_0_1, EQ_94s, EQ_94n, FA_139_1, EQ_96s, EQ_96n, FA_145_0, FA_52_1, FA_145_1, BD_142_0_1, FA_139_0, FA_52_0, FA_127_2, FA_127_1, SL_hi_49, SL_lo_49, EQ_56s, EQ_56n, EQ_42s, EQ_42n, BD_104_, EQ_104, FA_104_1, FA_104_0, LN_109, IX_109, FA_113_0, FA_113_1, FA_113_2, FA_156_1, FA_156_2, FA_156_0, BD_160_0, FA_160_1, BD_161_0_1, IX_158, IX_161, EQ_65s, EQ_65n, FA_122_0, CV_3_165, CV_165_3, SL_lo_72, SL_hi_72, FA_127_0, EQ_70s, EQ_70n, SX_9, EQ_72s, EQ_72n, FA_142_1, FA_142_0, NE_70s, NE_70n, EQ_49s, EQ_49n, BD_104_0_1, SL_151, EQ_117s, EQ_117n, FA_160_0, SL_lo_42, FA_122_1, CV_165_173, CV_173_165, FA_180_0, NE_117s, NE_117n, BD_161_, CV_173_75, CV_75_173, BD_180_0, EQ_119s, EQ_119n, LN_158, PURE_nils, PURE_nilsf, PURE_nilsi, PURE_pick1, PURE_pick0, PURE_not, PURE_neg, PURE_add, PURE_sub, PURE_mul, PURE_lss, PURE_leq, PURE_gtr, PURE_geq, PURE_eql, PURE_neq, PURE_quo, PURE_rem, PURE_min, PURE_max, PURE_makeFunc, PURE_ext20, PURE_ext21, PURE_ext30, PURE_ext31, PURE_ext32, COND_true, COND_false, Nat.reduceAdd, Nat.zero_add, Int.toNat_natCast, IntWalk.wrap64_in, decide_true, decide_false, Bool.not_true, Bool.not_false, Bool.true_and, Bool.false_and, Bool.and_true, Bool.and_false, h2']
      refine CALL_of (slices_CloneP h (by omega)) ?_
      rintro v' w' ⟨hv, e, hf⟩
      refine k _ _ ⟨l, hv, ?_, fun _ => Iff.rfl, Nat.le_refl _, hf, e⟩
      match l, h2 with
      | [], _ => exact List.Pairwise.nil
      | [x], _ => exact List.pairwise_singleton _ _
    · have h2' : ¬ ((l.length : Nat) : Int) < 2 := by omega
      have hq : IntKind.i64.wrap (((l.length : Nat) : Int).tdiv 2) = ((l.length / 2 : Nat) : Int) := by
        rw [Int.tdiv_eq_ediv_of_nonneg (by omega)]
        simp [IntKind.wrap, IntKind.bits, IntKind.signed]; omega
      have hcl : l.length ≤ c := by obtain ⟨_, _, he, _, hc, _⟩ := id h; injection he with _ _ e3; omega
      simp (disch := omega) only [DRAWQ, EQ_27s, EQ_27n, LN_24, LN_42, IX_24, CV_5_3, LN_49, BD_52_, EQ_52, LN_22, IX_22, BD_69_0_1, BD_52_0_1, IX_42, FA_33_1, FA_33_0, IX_31, FA_74_2, IX_72, FA_74_0, LN_9, SShi_9, BD_87_0_2, BD_91_0_1, FA_91_0, IX_88, FA_87_2, EQ_45s, EQ_45n, LN_88, BD_93_, FA_74_3, CV_3_5, FA_74_1, LN_72, EQ_47s, EQ_47n, FA_93_0, IX_49, FA_69_0, FA_69_1, BD_108_0_1_2, FA_108_1, FA_104_2, FA_108_2, NE_69, FA_108_0, BD_111_0_1, FA_111_2, BD_113_0_1_2, EQ_61s, EQ_61n, FA_111_1, FA_111_0, BD_122_0_1, BD_127_0_1_2, FA_127_3, IX_77, BD_77_, SL_72, SSlo_9, FA_87_0, FA_87_3, BD_136_0_1, FA_91_1, FA_87_1, BD_87_0_1_2_3, BD_139_0_1, BD_145_0_1, EQ_94s, EQ_94n, FA_139_1, EQ_96s, EQ_96n, FA_145_0, FA_52_1, FA_145_1, BD_142_0_1, FA_139_0, FA_52_0, FA_127_2, FA_127_1, SL_hi_49, SL_lo_49, EQ_56s, EQ_56n, EQ_42s, EQ_42n, BD_104_, EQ_104, FA_104_1, FA_104_0, LN_109, IX_109, FA_113_0, FA_113_1, FA_113_2, FA_156_1, FA_156_2, FA_156_0, BD_160_0, FA_160_1, BD_161_0_1, IX_158, IX_161, EQ_65s, EQ_65n, FA_122_0, CV_3_165, CV_165_3, SL_lo_72, SL_hi_72, FA_127_0, EQ_70s, EQ_70n, SX_9, EQ_72s, EQ_72n, FA_142_1, FA_142_0, NE_70s, NE_70n, EQ_49s, EQ_49n, BD_104_0_1, SL_151, EQ_117s, EQ_117n, FA_160_0, SL_lo_42, FA_122_1, CV_165_173, CV_173_165, FA_180_0, NE_117s, NE_117n, BD_161_, CV_173_75, CV_75_173, BD_180_0, EQ_119s, EQ_119n, LN_158, PURE_nils, PURE_nilsf, PURE_nilsi, PURE_pick1, PURE_pick0, PURE_not, PURE_neg, PURE_add, PURE_sub, PURE_mul, PURE_lss, PURE_leq, PURE_gtr, PURE_geq, PURE_eql, PURE_neq, PURE_quo, PURE_rem, PURE_min, PURE_max, PURE_makeFunc, PURE_ext20, PURE_ext21, PURE_ext30, PURE_ext31, PURE_ext32, COND_true, COND_false, Nat.reduceAdd, Nat.zero_add, Int.toNat_natCast, IntWalk.wrap64_in, decide_true, decide_false, Bool.not_true, Bool.not_false, Bool.true_and, Bool.false_and, Bool.and_true, Bool.and_false, h2', hq]
      have hd := h.ext (Ext.drew w)
      refine CALL_of (ih (slP_take hd (m := l.length / 2) (by omega)) (by rw [List.length_take]; omega) (by rw [List.length_take]; omega)) ?_
      rintro v1 w1 ⟨r1, s1, g1, m1, l1, f1, e1⟩
      refine CALL_of (ih ((slP_drop hd (m := l.length / 2) (by omega)).ext e1) (by rw [List.length_drop]; omega) (by rw [List.length_drop]; omega)) ?_
      rintro v2 w2 ⟨r2, s2, g2, m2, l2, f2, e2⟩
      rw [List.length_take] at l1
      rw [List.length_drop] at l2
      refine CALL_of (pairs_joined (s1.ext e2) s2 g1 g2 (by omega)) ?_
      rintro v3 w3 ⟨r, hr, gr, mr, lr, e3⟩
      have z1 : w.heap.size ≤ w1.heap.size := e1.size
      have z2 := e2.size
      refine k _ _ ⟨r, (SlG.of_row pcells_len (by omega) hr (by omega)).1, gr, fun p => ?_, by omega, fun k hk => by have := hr.lt k hk; omega, (Ext.drew w).trans (e1.trans (e2.trans e3))⟩
      rw [mr, m1, m2, ← List.mem_append, List.take_append_drop]
end Go.Proofs.Ytopdjdkkhpkmiaa.Y
