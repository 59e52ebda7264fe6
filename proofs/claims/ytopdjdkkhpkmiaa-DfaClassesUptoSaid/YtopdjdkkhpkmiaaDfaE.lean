import Derived.Test.YtopdjdkkhpkmiaaDfaD
set_option linter.unusedVariables false
set_option linter.unusedSimpArgs false
set_option maxRecDepth 8000
namespace Go.Proofs.Ytopdjdkkhpkmiaa.Y
open Go Go.Sx

/-- A finished table. -/
def IsDfa (w : World) (lo hi b : Nat) (ls : List (List UInt8)) : Prop := ∃ N, DfaAt w lo hi b ls N ∧ ∀ s, s < (trieM ls).length → rowOK ls N s

theorem IsDfa.chg {S : Nat → Prop} {w w' : World} {lo hi b : Nat} {ls : List (List UInt8)} (h : IsDfa w lo hi b ls) (hc : Chg S w w') (hs : ∀ i, S i → i < lo ∨ hi ≤ i) : IsDfa w' lo hi b ls := by
  obtain ⟨N, h, hr⟩ := h
  exact ⟨N, h.chg hc hs, hr⟩
theorem IsDfa.ext {w w' : World} {lo hi b : Nat} {ls : List (List UInt8)} (h : IsDfa w lo hi b ls) (hc : Ext w w') : IsDfa w' lo hi b ls := h.chg hc fun _ x => x.elim

theorem dfa_New {w : World} {l : Value} {ls : List (List UInt8)} (h : SlT w l ls) (hs : sumL ls + 1 ≤ 2 ^ 31) : RET Try.prog 11 [l] w fun v w' => Ext w w' ∧ ((160 < (trieM ls).length ∧ v = .tuple #[.pointer none, .int .i64 14]) ∨ ((trieM ls).length ≤ 160 ∧ ∃ b, v = .tuple #[.pointer (some ⟨b, 0, none⟩), .int .i64 0] ∧ IsDfa w' w.heap.size w'.heap.size b ls)) := by
  have hT := trie_for ls
  refine RET_by fun R k => ?_
  apply by_dfa_New
  unfold sh_dfa_New
  refine CALL_of (trie_Build h (by omega)) ?_
  rintro v w1 ⟨tb, rfl, ht, e1⟩
  refine CALL_of (trie_Nodes ht) ?_
  rintro v w2 ⟨rfl, rfl⟩
  by_cases hb : 160 < (trieM ls).length
  · have hb' : (160 : Int) < ((trieM ls).length : Int) := by omega
    simp (disch := omega) only [EQ_27s, EQ_27n, LN_24, LN_42, IX_24, CV_5_3, LN_49, BD_52_, EQ_52, LN_22, IX_22, BD_69_0_1, BD_52_0_1, IX_42, FA_33_1, FA_33_0, IX_31, FA_74_2, IX_72, FA_74_0, LN_9, SShi_9, BD_87_0_2, BD_91_0_1, FA_91_0, IX_88, FA_87_2, EQ_45s, EQ_45n, LN_88, BD_93_, FA_74_3, CV_3_5, FA_74_1, LN_72, EQ_47s, EQ_47n, FA_93_0, IX_49, FA_69_0, FA_69_1, BD_108_0_1_2, FA_108_1, FA_104_2, FA_108_2, NE_69, FA_108_0, BD_111_0_1, FA_111_2, BD_113_0_1_2, EQ_61s, EQ_61n, FA_111_1, FA_111_0, BD_122_0_1, BD_127_0_1_2, FA_127_3, IX_77, BD_77_, SL_72, SSlo_9, FA_87_0, FA_87_3, BD_136_0_1, FA_91_1, FA_87_1, BD_87_0_1_2_3, BD_139_0_1, BD_145_0_1, EQ_94s, EQ_94n, FA_139_1, EQ_96s, EQ_96n, FA_145_0, FA_52_1, FA_145_1, BD_142_0_1, FA_139_0, FA_52_0, FA_127_2, FA_127_1, SL_hi_49, SL_lo_49, EQ_56s, EQ_56n, EQ_42s, EQ_42n, BD_104_, EQ_104, FA_104_1, FA_104_0, LN_109, IX_109, FA_113_0, FA_113_1, FA_113_2, FA_156_1, FA_156_2, FA_156_0, BD_160_0, FA_160_1, BD_161_0_1, IX_158, IX_161, EQ_65s, EQ_65n, FA_122_0, CV_3_165, CV_165_3, SL_lo_72, SL_hi_72, FA_127_0, EQ_70s, EQ_70n, SX_9, EQ_72s, EQ_72n, FA_142_1, FA_142_0, NE_70s, NE_70n, EQ_49s, EQ_49n, BD_104_0_1, SL_151, EQ_117s, EQ_117n, FA_160_0, SL_lo_42, FA_122_1, CV_165_173, CV_173_165, FA_180_0, NE_117s, NE_117n, BD_161_, CV_173_75, CV_75_173, BD_180_0, EQ_119s, EQ_119n, LN_158, PURE_nils, PURE_nilsf, PURE_nilsi, PURE_pick1, PURE_pick0, PURE_not, PURE_neg, PURE_add, PURE_sub, PURE_mul, PURE_lss, PURE_leq, PURE_gtr, PURE_geq, PURE_eql, PURE_neq, PURE_quo, PURE_rem, PURE_min, PURE_max, PURE_makeFunc, PURE_ext20, PURE_ext21, PURE_ext30, PURE_ext31, PURE_ext32, COND_true, COND_false, Nat.reduceAdd, Nat.zero_add, Int.toNat_natCast, IntWalk.wrap64_in, decide_true, decide_false, Bool.not_true, Bool.not_false, Bool.true_and, Bool.false_and, Bool.and_true, Bool.and_false, hb']
    exact k _ _ ⟨e1, .inl ⟨hb, rfl⟩⟩
  · have hb' : ¬ (160 : Int) < ((trieM ls).length : Int) := by omega
    simp (disch := omega) only [EQ_27s, EQ_27n, LN_24, LN_42, IX_24, CV_5_3, LN_49, BD_52_, EQ_52, LN_22, IX_22, BD_69_0_1, BD_52_0_1, IX_42, FA_33_1, FA_33_0, IX_31, FA_74_2, IX_72, FA_74_0, LN_9, SShi_9, BD_87_0_2, BD_91_0_1, FA_91_0, IX_88, FA_87_2, EQ_45s, EQ_45n, LN_88, BD_93_, FA_74_3, CV_3_5, FA_74_1, LN_72, EQ_47s, EQ_47n, FA_93_0, IX_49, FA_69_0, FA_69_1, BD_108_0_1_2, FA_108_1, FA_104_2, FA_108_2, NE_69, FA_108_0, BD_111_0_1, FA_111_2, BD_113_0_1_2, EQ_61s, EQ_61n, FA_111_1, FA_111_0, BD_122_0_1, BD_127_0_1_2, FA_127_3, IX_77, BD_77_, SL_72, SSlo_9, FA_87_0, FA_87_3, BD_136_0_1, FA_91_1, FA_87_1, BD_87_0_1_2_3, BD_139_0_1, BD_145_0_1, EQ_94s, EQ_94n, FA_139_1, EQ_96s, EQ_96n, FA_145_0, FA_52_1, FA_145_1, BD_142_0_1, FA_139_0, FA_52_0, FA_127_2, FA_127_1, SL_hi_49, SL_lo_49, EQ_56s, EQ_56n, EQ_42s, EQ_42n, BD_104_, EQ_104, FA_104_1, FA_104_0, LN_109, IX_109, FA_113_0, FA_113_1, FA_113_2, FA_156_1, FA_156_2, FA_156_0, BD_160_0, FA_160_1, BD_161_0_1, IX_158, IX_161, EQ_65s, EQ_65n, FA_122_0, CV_3_165, CV_165_3, SL_lo_72, SL_hi_72, FA_127_0, EQ_70s, EQ_70n, SX_9, EQ_72s, EQ_72n, FA_142_1, FA_142_0, NE_70s, NE_70n, EQ_49s, EQ_49n, BD_104_0_1, SL_151, EQ_117s, EQ_117n, FA_160_0, SL_lo_42, FA_122_1, CV_165_173, CV_173_165, FA_180_0, NE_117s, NE_117n, BD_161_, CV_173_75, CV_75_173, BD_180_0, EQ_119s, EQ_119n, LN_158, PURE_nils, PURE_nilsf, PURE_nilsi, PURE_pick1, PURE_pick0, PURE_not, PURE_neg, PURE_add, PURE_sub, PURE_mul, PURE_lss, PURE_leq, PURE_gtr, PURE_geq, PURE_eql, PURE_neq, PURE_quo, PURE_rem, PURE_min, PURE_max, PURE_makeFunc, PURE_ext20, PURE_ext21, PURE_ext30, PURE_ext31, PURE_ext32, COND_true, COND_false, Nat.reduceAdd, Nat.zero_add, Int.toNat_natCast, IntWalk.wrap64_in, decide_true, decide_false, Bool.not_true, Bool.not_false, Bool.true_and, Bool.false_and, Bool.and_true, Bool.and_false, hb']
    refine CALL_of (links_Build ht hT.ok (Nat.le_refl _) (by omega)) ?_
    rintro v w3 ⟨lb, Q, rfl, hl, hq, e3⟩
    refine CALL_of (classes_Of (h.ext (e1.trans e3))) ?_
    rintro v w4 ⟨rfl, e4⟩
    have hc := cls_len (inT ls)
    unfold clsV
    rw [BD_dfa hc]
    refine BOXA fun w5 o5 e5 z5 => ?_
    have s3 := e3.size
    have s4 := e4.size
    have s1 := e1.size
    have e45 := e4.trans e5
    refine CALL_of (dfa_fill o5 (ht.ext (e3.trans e45)) (hl.ext e45) hq (by omega) (by omega)) ?_
    rintro v w6 ⟨c6, N, hN, hr⟩
    refine k _ _ ⟨(e1.trans (e3.trans e45)).ext_of c6 (fun i hi => by omega), .inr ⟨by omega, _, rfl, N, hN, hr⟩⟩
end Go.Proofs.Ytopdjdkkhpkmiaa.Y
