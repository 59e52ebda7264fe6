import Derived.Test.YtopdjdkkhpkmiaaRefsC
import Derived.Test.YtopdjdkkhpkmiaaDfaB
set_option linter.unusedVariables false
set_option linter.unusedSimpArgs false
set_option linter.unusedVariables false
set_option linter.unusedSimpArgs false
set_option maxRecDepth 8000
namespace Go.Proofs.Ytopdjdkkhpkmiaa.Y
open Go Go.Sx

/-! ### Trees, text by text -/
theorem build_snoc (b : List UInt8) : ∀ (l : List (List UInt8)) (i : Nat) (T : List TN), buildM i T (l ++ [b]) = markM (insM (buildM i T l) 0 b).2 (insM (buildM i T l) 0 b).1 (i + l.length)
  | [], i, T => rfl
  | t :: r, i, T => by
    simp only [List.cons_append, buildM, List.length_cons]
    rw [build_snoc b r]
    congr 1
    omega
theorem trie_snoc (l : List (List UInt8)) (b : List UInt8) : trieM (l ++ [b]) = markM (insM (trieM l) 0 b).2 (insM (trieM l) 0 b).1 l.length := by
  have := build_snoc b l 0 [⟨-1, 0, -1, 0⟩]
  rw [Nat.zero_add] at this
  exact this
theorem ins_len : ∀ (b : List UInt8) (T : List TN) (n : Int), 0 < T.length → T.length ≤ (insM T n b).2.length ∧ (insM T n b).2.length ≤ T.length + b.length
  | [], T, n, hp => by simp [insM]
  | c :: r, T, n, hp => by
    have h1 := growM_in (n := n) (c := c) hp
    have h2 := ins_len r (growM T n c).2 (growM T n c).1 (by omega)
    simp only [insM, List.length_cons]
    omega
theorem trie_len (ls : List (List UInt8)) : (trieM ls).length ≤ sumL ls + 1 := by
  have key : ∀ (l : List (List UInt8)) (i : Nat) (T : List TN), 0 < T.length → (buildM i T l).length ≤ T.length + sumL l := by
    intro l
    induction l with
    | nil => intro i T hp; simp [buildM, sumL]
    | cons b r ih =>
      intro i T hp
      have h1 := ins_len b T 0 hp
      have h2 := (mark_same (insM T 0 b).2 (insM T 0 b).1 i).1
      have := ih (i + 1) (markM (insM T 0 b).2 (insM T 0 b).1 i) (by omega)
      simp only [buildM, sumL]
      omega
  have := key ls 0 [⟨-1, 0, -1, 0⟩] (by simp)
  simp only [List.length_cons, List.length_nil] at this
  show (buildM 0 _ ls).length ≤ _
  omega
theorem paths_len (T : List TN) : (pathsL T).length = T.length := by simp [pathsL]
theorem paths_get {T : List TN} {i : Nat} (h : i < (pathsL T).length) : (pathsL T)[i] = pathM T (i : Int) := by simp [pathsL]
theorem sumL_mem {t : List UInt8} : ∀ {ls : List (List UInt8)}, t ∈ ls → t.length ≤ sumL ls
  | b :: r, h => by
    rcases List.mem_cons.1 h with rfl | h
    · simp [sumL]
    · have := sumL_mem h; simp only [sumL]; omega

section
variable {w : World}

theorem slS_row {w : World} {base n : Nat} {v : Value} {l : List (List UInt8)} (h : w.ownsRow base 9 1 v n (l.map strV)) (hl : l.length ≤ 140737488355328) : SlG sCells w v l ∧ n = l.length :=
  SlG.of_row sCells_len (by omega) (by rw [sCells_map]; exact h) hl

theorem ref06_Paths {v : Value} {ls : List (List UInt8)} (h : SlG sCells w v ls) (hs : sumL ls ≤ 2 ^ 39) : RET Try.prog 18 [v] w fun r w' => w'.ownsRow w.heap.size 9 1 r (trieM ls).length ((pathsL (trieM ls)).map strV) ∧ Ext w w' := by
  have hl := h.len
  obtain ⟨A, c, rfl⟩ := h.shape
  refine RET_by fun R k => ?_
  apply by_seineref06_Paths
  unfold sh_seineref06_Paths
  refine BS_24_1 fun w1 o1 e1 z1 => ?_
  refine ⟨fun out iv w2 => ∃ i : Nat, iv = .int .i64 i ∧ i ≤ ls.length ∧ w2.ownsRow w.heap.size 9 1 out (trieM (ls.take i)).length ((pathsL (trieM (ls.take i))).map strV) ∧ Ext w w2, fun _ iv _ => ls.length - vnat iv,
    ⟨0, rfl, Nat.zero_le _, ?_, e1⟩, ?_⟩
  · have := row_own o1 (n := 1) (size := 1) rfl (by unfold maxLen; omega) w.heap.size (Nat.le_refl _)
    simpa [trieM, buildM, pathsL, pathM, up, nodeM, strV] using this
  rintro out iv w2 ⟨i, rfl, hi, hr, e2⟩
  by_cases hlt : i < ls.length
  · have hlt' : (i : Int) < ((ls.length : Nat) : Int) := by omega
    simp (disch := omega) only [SX, Nat.reduceAdd, hlt']
    have htk : ls.take (i + 1) = ls.take i ++ [ls[i]] := List.take_succ_eq_append_getElem hlt
    have hT := trie_for (ls.take i)
    generalize hTe : trieM (ls.take i) = T at *
    have hTl : T.length ≤ sumL (ls.take i) + 1 := by rw [← hTe]; exact trie_len _
    have hsum : sumL (ls.take i) + ls[i].length ≤ sumL ls := by
      have : ls = ls.take (i + 1) ++ ls.drop (i + 1) := (List.take_append_drop _ _).symm
      have h2 := congrArg sumL this
      rw [sumL_app, htk, sumL_app] at h2
      simp only [sumL] at h2
      omega
    refine ⟨fun out nv w3 => ∃ n : Nat, nv = .int .i64 ((n + 1 : Nat) : Int) ∧ n ≤ ls[i].length ∧ w3.ownsRow w.heap.size 9 1 out (insM T 0 (ls[i].take n)).2.length ((pathsL (insM T 0 (ls[i].take n)).2).map strV) ∧ Ext w w3, fun _ nv _ => ls[i].length + 1 - vnat nv,
      ⟨0, rfl, Nat.zero_le _, by simpa [insM] using hr, e2⟩, ?_⟩
    rintro out nv w3 ⟨n, rfl, hn, hr3, e3⟩
    obtain ⟨b, o, c', hv, hc⟩ := slS_at (h.ext e3) hlt
    injection hv with hA _ hcc
    subst hA hcc
    simp (disch := omega) only [SX, Nat.reduceAdd, LD_9 hc, STR_len]
    have hok := ins_ok (ls[i].take n) hT.ok (n := 0) ⟨Int.le_refl _, by have := hT.ok.pos; omega⟩
    have hpath : pathM (insM T 0 (ls[i].take n)).2 (insM T 0 (ls[i].take n)).1 = ls[i].take n := by rw [hok.2.2.1, path_root hT.ok, List.nil_append]
    have hil := ins_len (ls[i].take n) T 0 hT.ok.pos
    have htl : (ls[i].take n).length ≤ n := by rw [List.length_take]; omega
    by_cases hlt2 : n < ls[i].length
    · have hlt2' : ((n + 1 : Nat) : Int) ≤ ((ls[i].length : Nat) : Int) := by omega
      have htn : ls[i].take (n + 1) = ls[i].take n ++ [ls[i][n]] := List.take_succ_eq_append_getElem hlt2
      simp (disch := omega) only [SX, Nat.reduceAdd, hlt2', LD_9 hc, STR_hi]
      obtain ⟨hsl, hnl⟩ := slS_row hr3 (by rw [paths_len]; omega)
      refine CALL_of (ref06_Place hsl _) ?_
      rintro v w4 ⟨rfl, rfl⟩
      rw [paths_place hok.1]
      have hg := paths_grow hok.1 ls[i][n] hok.2.1
      rw [hpath, ← htn] at hg
      have hstep : (insM T 0 (ls[i].take (n + 1))).2 = (growM (insM T 0 (ls[i].take n)).2 (insM T 0 (ls[i].take n)).1 ls[i][n]).2 := by rw [htn, ins_snoc]
      rw [← hstep] at hg
      have hgl := congrArg List.length hg
      rw [paths_len] at hgl
      by_cases hf : 0 ≤ findM (insM T 0 (ls[i].take n)).2 (ls[i].take (n + 1))
      · have hf' : ¬ findM (insM T 0 (ls[i].take n)).2 (ls[i].take (n + 1)) < 0 := by omega
        rw [if_pos hf] at hg hgl
        rw [paths_len] at hgl
        simp (disch := omega) only [SX, Nat.reduceAdd, hf']
        refine ⟨⟨n + 1, by simp, by omega, ?_, e3⟩, by simp only [vnat_int]; omega⟩
        rw [hgl, hg]
        exact hr3
      · have hf' : findM (insM T 0 (ls[i].take n)).2 (ls[i].take (n + 1)) < 0 := by omega
        rw [if_neg hf] at hg hgl
        rw [List.length_append, paths_len] at hgl
        simp (disch := omega) only [SX, Nat.reduceAdd, hf', LD_9 hc, STR_hi]
        refine BS_24_1 fun w5 o5 e5 z5 => ?_
        have hr5 := row_ext hr3 e5
        refine PUSH1 (by kernel_rfl) IN_9 rfl hr5 o5 rfl (by unfold maxLen; omega) (by omega) (by have := e3.size; have := e5.size; omega) fun v' w6 o6 c6 g6 => ?_
        try simp (disch := omega) only [SX, Nat.reduceAdd]
        refine ⟨⟨n + 1, by simp, by omega, ?_, (e3.trans e5).ext_of c6 fun q hq => row_base hr5 q hq⟩, by simp only [vnat_int]; omega⟩
        rw [hgl, hg, List.map_append]
        exact o6
    · have hlt2' : ¬ ((n + 1 : Nat) : Int) ≤ ((ls[i].length : Nat) : Int) := by omega
      simp (disch := omega) only [SX, Nat.reduceAdd, hlt2']
      obtain rfl : n = ls[i].length := by omega
      rw [List.take_length] at hr3 hok
      refine ⟨⟨i + 1, by simp, by omega, ?_, e3⟩, by simp only [vnat_int]; omega⟩
      rw [htk, trie_snoc, hTe, paths_mark hok.1, (mark_same _ _ _).1]
      exact hr3
  · have hlt' : ¬ (i : Int) < ((ls.length : Nat) : Int) := by omega
    simp (disch := omega) only [SX, Nat.reduceAdd, hlt']
    rw [List.take_of_length_le (by omega)] at hr
    exact k _ _ ⟨hr, e2⟩

theorem ref08_Longest {v : Value} {T : List TN} (hT : TreeOK T) (h : SlG sCells w v (pathsL T)) (t : List UInt8) (ht : t.length ≤ 2 ^ 40) : RET Try.prog 49 [v, strV t] w fun r w' => r = strV (pathM T (lsn T t)) ∧ w' = w := by
  refine RET_by fun R k => ?_
  apply by_seineref08_Longest
  unfold sh_seineref08_Longest
  refine ⟨fun iv w1 => ∃ i : Nat, iv = .int .i64 i ∧ w1 = w ∧ i ≤ t.length ∧ lsn T (t.drop i) = lsn T t, fun iv _ => t.length - vnat iv, ⟨0, rfl, rfl, Nat.zero_le _, by simp⟩, ?_⟩
  rintro iv w ⟨i, rfl, rfl, hi, hn⟩
  by_cases hlt : i < t.length
  · have hlt' : (i : Int) < ((t.length : Nat) : Int) := by omega
    simp (disch := omega) only [SX, Nat.reduceAdd, STR_len, hlt', STR_lo]
    refine CALL_of (ref06_Place h _) ?_
    rintro v w1 ⟨rfl, rfl⟩
    rw [paths_place hT]
    have hd : t.drop i = t[i] :: t.drop (i + 1) := List.drop_eq_getElem_cons hlt
    by_cases hf : 0 ≤ findM T (t.drop i)
    · simp (disch := omega) only [SX, Nat.reduceAdd, hf, STR_lo]
      refine k _ _ ⟨?_, rfl⟩
      rw [← hn]
      have : lsn T (t.drop i) = findM T (t.drop i) := by
        rw [hd] at hf ⊢
        simp only [lsn, if_pos hf]
      rw [this, path_find hT _ hf]
    · simp (disch := omega) only [SX, Nat.reduceAdd, hf]
      refine ⟨⟨i + 1, by simp, by trivial, by omega, ?_⟩, by simp only [vnat_int]; omega⟩
      rw [← hn, hd]
      rw [hd] at hf
      simp only [lsn, if_neg hf]
  · have hlt' : ¬ (i : Int) < ((t.length : Nat) : Int) := by omega
    simp (disch := omega) only [SX, Nat.reduceAdd, STR_len, hlt']
    refine k _ _ ⟨?_, rfl⟩
    rw [List.drop_of_length_le (by omega)] at hn
    rw [← hn]
    simp only [lsn, path_root hT]
    rfl

theorem ref10_Next {v : Value} {T : List TN} (hT : TreeOK T) (hb : T.length ≤ 2 ^ 39) (h : SlG sCells w v (pathsL T)) (hd : ∀ x, depM T x ≤ 2 ^ 39) (s : Int) (c : UInt8) : RET Try.prog 20 [v, .int .i64 s, .int .u8 c.toNat] w fun r w' => r = .int .i64 (if 0 ≤ s ∧ s < T.length then deltaM T s c else -1) ∧ Ext w w' := by
  have hp := paths_len T
  have hlen := h.len
  obtain ⟨A, cc, rfl⟩ := h.shape
  refine RET_by fun R k => ?_
  apply by_seineref10_Next
  unfold sh_seineref10_Next
  by_cases hin : 0 ≤ s ∧ s < T.length
  · have hin' := hin
    refine ⟨fun w1 => w1 = w, ?_, ?_⟩
    · simp (disch := omega) only [SX, Nat.reduceAdd, show ¬ s < 0 by omega, show ¬ (((pathsL T).length : Nat) : Int) ≤ s by omega]
    rintro _ rfl
    rename_i w
    obtain ⟨b, o, c', hv, hc⟩ := slS_at h (i := s.toNat) (by omega)
    injection hv with hA _ hcc
    subst hA hcc
    have hblk : b < w.heap.size := World.block_lt_of_cell? w _ hc
    refine ⟨KP (fun _ => False) w, KP.refl _ _, ?_⟩
    simp (disch := omega) only [SX, Nat.reduceAdd, RK_9 (X := fun _ => False) hc (fun x => x) (KP.refl _ _)]
    refine BS_42_1 fun w3 o3 e3 z3 => ?_
    have e3 : Ext w w3 := (Ext.drew _).trans e3
    refine KEEPK e3 ?_
    refine (STRK Try.underlying42 Try.underlying5 Try.underlying9 (slB_one o3) (KP.self _ _)).mpr ?_
    have hget : (pathsL T)[s.toNat]'(by omega) = pathM T s := by
      rw [paths_get]
      congr 1
      omega
    rw [hget]
    have hdl : (pathM T s).length ≤ 2 ^ 39 := hd s
    refine (STR_add (b := [c]) (by simp only [List.length_cons, List.length_nil]; omega)).mpr ?_
    refine CALL_of (ref08_Longest hT (h.ext e3) (pathM T s ++ [c]) (by simp only [List.length_append, List.length_cons, List.length_nil]; omega)) ?_
    rintro v w4 ⟨rfl, rfl⟩
    refine CALL_of (ref06_Place (h.ext e3) _) ?_
    rintro v w4 ⟨rfl, rfl⟩
    refine k _ _ ⟨?_, e3⟩
    have hin := lsn_in hT.pos (pathM T s ++ [c])
    rw [if_pos hin', paths_place hT, find_of hT hin.1 hin.2]
    rfl
  · have hneg : s < 0 ∨ 0 ≤ s ∧ (((pathsL T).length : Nat) : Int) ≤ s := by omega
    refine ⟨fun w1 => False, ?_, fun _ h => h.elim⟩
    rcases hneg with h0 | ⟨h0, h1⟩
    · simp (disch := omega) only [SX, Nat.reduceAdd, h0]
      exact k _ _ ⟨by rw [if_neg hin], Ext.refl w⟩
    · simp (disch := omega) only [SX, Nat.reduceAdd, show ¬ s < 0 by omega, h1]
      exact k _ _ ⟨by rw [if_neg hin], Ext.refl w⟩
end
end Go.Proofs.Ytopdjdkkhpkmiaa.Y
