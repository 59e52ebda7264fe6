import Derived.Test.YtgjfhmahiiokeaaGreatRefsP
set_option linter.unusedVariables false
set_option linter.unusedSimpArgs false
set_option linter.unusedVariables false
set_option linter.unusedSimpArgs false
set_option maxRecDepth 8000
namespace Go.Proofs.YtgjfhmahiiokeaaGreat.Y
open Go Go.Sx

section
variable {w : World}

theorem slS_row {w : World} {base n : Nat} {v : Value} {l : List (List UInt8)} (h : w.ownsRow base 9 1 v n (l.map strV)) (hl : l.length ≤ 140737488355328) : SlG sCells w v l ∧ n = l.length :=
  SlG.of_row sCells_len (by omega) (by rw [sCells_map]; exact h) hl

theorem ref06_Paths {v : Value} {ls : List (List UInt8)} (h : SlG sCells w v ls) (hs : sumL ls ≤ 2 ^ 39) : RET Tryz.prog 37 [v] w fun r w' => w'.ownsRow w.heap.size 9 1 r (trieM ls).length ((pathsL (trieM ls)).map strV) ∧ Ext w w' := by
  have hl := h.len
  obtain ⟨A, c, rfl⟩ := h.shape
  refine RET_by fun R k => ?_
  apply by_seineref06_Paths
  unfold sh_seineref06_Paths
  refine BS_25_1 fun w1 o1 e1 z1 => ?_
  refine ⟨fun out iv w2 => ∃ i : Nat, iv = .int .i64 i ∧ i ≤ ls.length ∧ w2.ownsRow w.heap.size 9 1 out (trieM (ls.take i)).length ((pathsL (trieM (ls.take i))).map strV) ∧ Ext w w2, fun _ iv _ => ls.length - vnat iv,
    ⟨0, rfl, Nat.zero_le _, ?_, e1⟩, ?_⟩
  · have := row_own o1 (n := 1) (size := 1) rfl (by unfold maxLen; omega) w.heap.size (Nat.le_refl _)
    simpa [trieM, buildM, pathsL, pathM, up, nodeM, strV] using this
  rintro out iv w2 ⟨i, rfl, hi, hr, e2⟩
  by_cases hlt : i < ls.length
  · have hlt' : (i : Int) < ((ls.length : Nat) : Int) := by omega
    simp (disch := omega) only [SX, Nat.reduceAdd, hlt']
    have htk : ls.take (i + 1) = ls.take i ++ [ls[i]] := List.take_succ_eq_append_getElem hlt
    have hT := trie_for (ls.take i)
    generalize hTe : trieM (ls.take i) = T at *
    have hTl : T.length ≤ sumL (ls.take i) + 1 := by rw [← hTe]; exact trie_len _
    have hsum : sumL (ls.take i) + ls[i].length ≤ sumL ls := by
      have : ls = ls.take (i + 1) ++ ls.drop (i + 1) := (List.take_append_drop _ _).symm
      have h2 := congrArg sumL this
      rw [sumL_app, htk, sumL_app] at h2
      simp only [sumL] at h2
      omega
    refine ⟨fun out nv w3 => ∃ n : Nat, nv = .int .i64 ((n + 1 : Nat) : Int) ∧ n ≤ ls[i].length ∧ w3.ownsRow w.heap.size 9 1 out (insM T 0 (ls[i].take n)).2.length ((pathsL (insM T 0 (ls[i].take n)).2).map strV) ∧ Ext w w3, fun _ nv _ => ls[i].length + 1 - vnat nv,
      ⟨0, rfl, Nat.zero_le _, by simpa [insM] using hr, e2⟩, ?_⟩
    rintro out nv w3 ⟨n, rfl, hn, hr3, e3⟩
    obtain ⟨b, o, c', hv, hc⟩ := slS_at (h.ext e3) hlt
    injection hv with hA _ hcc
    subst hA hcc
    simp (disch := omega) only [SX, Nat.reduceAdd, LD_9 hc, STR_len]
    have hok := ins_ok (ls[i].take n) hT.ok (n := 0) ⟨Int.le_refl _, by have := hT.ok.pos; omega⟩
    have hpath : pathM (insM T 0 (ls[i].take n)).2 (insM T 0 (ls[i].take n)).1 = ls[i].take n := by rw [hok.2.2.1, path_root hT.ok, List.nil_append]
    have hil := ins_len (ls[i].take n) T 0 hT.ok.pos
    have htl : (ls[i].take n).length ≤ n := by rw [List.length_take]; omega
    by_cases hlt2 : n < ls[i].length
    · have hlt2' : ((n + 1 : Nat) : Int) ≤ ((ls[i].length : Nat) : Int) := by omega
      have htn : ls[i].take (n + 1) = ls[i].take n ++ [ls[i][n]] := List.take_succ_eq_append_getElem hlt2
      simp (disch := omega) only [SX, Nat.reduceAdd, hlt2', LD_9 hc, STR_hi]
      obtain ⟨hsl, hnl⟩ := slS_row hr3 (by rw [paths_len]; omega)
      refine CALL_of (ref06_Place hsl _) ?_
      rintro v w4 ⟨rfl, rfl⟩
      rw [paths_place hok.1]
      have hg := paths_grow hok.1 ls[i][n] hok.2.1
      rw [hpath, ← htn] at hg
      have hstep : (insM T 0 (ls[i].take (n + 1))).2 = (growM (insM T 0 (ls[i].take n)).2 (insM T 0 (ls[i].take n)).1 ls[i][n]).2 := by rw [htn, ins_snoc]
      rw [← hstep] at hg
      have hgl := congrArg List.length hg
      rw [paths_len] at hgl
      by_cases hf : 0 ≤ findM (insM T 0 (ls[i].take n)).2 (ls[i].take (n + 1))
      · have hf' : ¬ findM (insM T 0 (ls[i].take n)).2 (ls[i].take (n + 1)) < 0 := by omega
        rw [if_pos hf] at hg hgl
        rw [paths_len] at hgl
        simp (disch := omega) only [SX, Nat.reduceAdd, hf']
        refine ⟨⟨n + 1, by simp, by omega, ?_, e3⟩, by simp only [vnat_int]; omega⟩
        rw [hgl, hg]
        exact hr3
      · have hf' : findM (insM T 0 (ls[i].take n)).2 (ls[i].take (n + 1)) < 0 := by omega
        rw [if_neg hf] at hg hgl
        rw [List.length_append, paths_len] at hgl
        simp (disch := omega) only [SX, Nat.reduceAdd, hf', LD_9 hc, STR_hi]
        refine BS_25_1 fun w5 o5 e5 z5 => ?_
        have hr5 := row_ext hr3 e5
        refine PUSH1 (by kernel_rfl) IN_9 rfl hr5 o5 rfl (by unfold maxLen; omega) (by omega) (by have := e3.size; have := e5.size; omega) fun v' w6 o6 c6 g6 => ?_
        try simp (disch := omega) only [SX, Nat.reduceAdd]
        refine ⟨⟨n + 1, by simp, by omega, ?_, (e3.trans e5).ext_of c6 fun q hq => row_base hr5 q hq⟩, by simp only [vnat_int]; omega⟩
        rw [hgl, hg, List.map_append]
        exact o6
    · have hlt2' : ¬ ((n + 1 : Nat) : Int) ≤ ((ls[i].length : Nat) : Int) := by omega
      simp (disch := omega) only [SX, Nat.reduceAdd, hlt2']
      obtain rfl : n = ls[i].length := by omega
      rw [List.take_length] at hr3 hok
      refine ⟨⟨i + 1, by simp, by omega, ?_, e3⟩, by simp only [vnat_int]; omega⟩
      rw [htk, trie_snoc, hTe, paths_mark hok.1, (mark_same _ _ _).1]
      exact hr3
  · have hlt' : ¬ (i : Int) < ((ls.length : Nat) : Int) := by omega
    simp (disch := omega) only [SX, Nat.reduceAdd, hlt']
    rw [List.take_of_length_le (by omega)] at hr
    exact k _ _ ⟨hr, e2⟩
end
end Go.Proofs.YtgjfhmahiiokeaaGreat.Y
