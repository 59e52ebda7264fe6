import Derived.Test.YtgjfhmahiiokeaaGreatTrieB
set_option linter.unusedVariables false
set_option linter.unusedSimpArgs false
set_option linter.unusedVariables false
set_option linter.unusedSimpArgs false
namespace Go.Proofs.YtgjfhmahiiokeaaGreat.Y
open Go Go.Sx

/-! ### The tree of texts -/
theorem lookE_ents {l : List TN} : ∀ {k : Nat} {n c x : Int}, lookE (ents k l) n c = some x → (k : Int) ≤ x ∧ x < k + l.length := by
  induction l with
  | nil => intro k n c x h; cases h
  | cons y l ih =>
    intro k n c x h
    simp only [ents, lookE] at h
    simp only [List.length_cons]
    split at h
    · injection h with h; omega
    · have := ih h; omega

theorem growM_in {T : List TN} {n : Int} {c : UInt8} (hp : 0 < T.length) : 0 ≤ (growM T n c).1 ∧ (growM T n c).1 < (growM T n c).2.length ∧ T.length ≤ (growM T n c).2.length ∧ (growM T n c).2.length ≤ T.length + 1 := by
  unfold growM
  split
  · rename_i x hx
    have := lookE_ents hx
    rw [List.length_tail] at this
    simp only
    omega
  · simp only [List.length_append, List.length_cons, List.length_nil]
    omega

def insM (T : List TN) (n : Int) : List UInt8 → Int × List TN
  | [] => (n, T)
  | c :: r => insM (growM T n c).2 (growM T n c).1 r
def markM (T : List TN) (n : Int) (i : Nat) : List TN := match T[n.toNat]? with
  | some x => if x.word < 0 then T.set n.toNat { x with word := i } else T
  | none => T
def buildM : Nat → List TN → List (List UInt8) → List TN
  | _, T, [] => T
  | i, T, b :: r => buildM (i + 1) (markM (insM T 0 b).2 (insM T 0 b).1 i) r
def trieM (ls : List (List UInt8)) : List TN := buildM 0 [⟨-1, 0, -1, 0⟩] ls

theorem flat_set {T : List TN} {i : Nat} {x : TN} (h : T[i]? = some x) (k : Int) : (T.flatMap TN.cells).set (i * 4 + 2) (.int .i64 k) = (T.set i { x with word := k }).flatMap TN.cells := by
  induction T generalizing i with
  | nil => simp at h
  | cons y T ih =>
    cases i with
    | zero => simp at h; subst h; simp [TN.cells]
    | succ i =>
      simp only [List.getElem?_cons_succ] at h
      simp only [List.flatMap_cons, List.set_cons_succ]
      rw [List.set_append_right _ _ (by simp [TN.cells]; omega)]
      have : (i + 1) * 4 + 2 - y.cells.length = i * 4 + 2 := by simp [TN.cells]; omega
      rw [this, ih h]

theorem ents_congr {l l' : List TN} (h : l.map (fun x => (x.par, x.c)) = l'.map (fun x => (x.par, x.c))) : ∀ k, ents k l = ents k l' := by
  induction l generalizing l' with
  | nil => intro k; cases l' <;> first | rfl | simp at h
  | cons x l ih =>
    intro k
    cases l' with
    | nil => simp at h
    | cons y l' =>
      simp only [List.map_cons, List.cons.injEq, Prod.mk.injEq] at h
      simp only [ents, h.1.1, h.1.2, ih h.2]

theorem set_word {T : List TN} {i : Nat} {x : TN} (h : T[i]? = some x) (k : Int) : (T.set i { x with word := k }).map (fun x => (x.par, x.c)) = T.map (fun x => (x.par, x.c)) := by
  apply List.ext_getElem?
  intro j
  rw [List.getElem?_map, List.getElem?_map, List.getElem?_set]
  split
  · rename_i e; subst e
    rw [h]
    split <;> simp
    rename_i hh; have := (List.getElem?_eq_some_iff.1 h).1; omega
  · rfl

theorem IsTrie.mark {w : World} {lo hi b : Nat} {T : List TN} (h : IsTrie w lo hi b T) {i : Nat} (hi' : i < T.length) (k : Int) : ∃ nb cap, w.cell? ⟨b, 0, none⟩ = some (.slice (some ⟨nb, 0, none⟩) T.length cap) ∧ w.cell? ⟨nb, i * 4 + 2, none⟩ = some (.int .i64 T[i].word) ∧
    lo ≤ nb ∧ nb < hi ∧ w.ownsRow lo 129 4 (.slice (some ⟨nb, 0, none⟩) T.length cap) T.length (T.flatMap TN.cells) ∧ ∀ w', w'.ownsRow lo 129 4 (.slice (some ⟨nb, 0, none⟩) T.length cap) T.length ((T.flatMap TN.cells).set (i * 4 + 2) (.int .i64 k)) → Chg (fun j => j = nb) w w' → IsTrie w' lo hi b (T.set i { T[i] with word := k }) := by
  obtain ⟨nb, cap, mb, h0, h1, hm, hnn⟩ := id h.reads
  obtain ⟨⟨nb', cap', mb', g1, g2, g3, g4, g4', g5, g5', g6⟩, hpos, hsm, hde, hwf⟩ := h
  obtain ⟨rfl, rfl⟩ : nb = nb' ∧ cap = cap' := by have := h0.symm.trans (g1.cell rfl); simpa using this
  obtain rfl : mb = mb' := by have := h1.symm.trans (g1.cell rfl); simpa using this
  have hnb : lo ≤ nb := row_base g2 nb rfl
  have nbmb : mb ≠ nb := by
    rintro rfl
    rcases g2.2 with ⟨k, _⟩ | ⟨g, _, _, k, _, k2, _⟩
    · cases k
    · injection k with k; injection k with k; injection k with k; subst k
      obtain ⟨_, _, k3, _⟩ := g3
      rw [k2] at k3; cases k3
  have nbb : b ≠ nb := by
    rintro rfl
    rcases g2.2 with ⟨k, _⟩ | ⟨g, _, _, k, _, k2, _⟩
    · cases k
    · injection k with k; injection k with k; injection k with k; subst k
      have k3 : w.heap[b]? = _ := g1
      rw [k2] at k3
      injection k3 with k3
      injection k3 with _ k3
      revert k3
      decide
  refine ⟨nb, cap, h0, (hnn i hi').2.2.1, hnb, g6, g2, fun w' q1 q2 => ?_⟩
  have hx : T[i]? = some T[i] := List.getElem?_eq_getElem hi'
  refine ⟨⟨nb, cap, mb, ?_, ?_, ?_, g4, g4', g5, g5', g6⟩, by simpa using hpos, by simpa using hsm, ?_, ?_⟩
  · rw [List.length_set]; exact g1.chg q2 nbb
  · rw [List.length_set, ← flat_set hx]; exact q1
  · have : ents 1 (T.set i { T[i] with word := k }).tail = ents 1 T.tail := by
      refine ents_congr ?_ 1
      have := congrArg List.tail (set_word hx k)
      simpa [List.map_tail] using this
    rw [this]
    exact g3.chg q2 nbmb
  · intro x hx'
    rw [List.length_set]
    rcases List.mem_or_eq_of_mem_set hx' with hh | rfl
    · exact hde x hh
    · exact hde T[i] (List.getElem_mem hi')
  · intro j hj
    rw [List.length_set] at hj
    rw [List.getElem_set]
    split
    · rename_i e; subst e; exact hwf i hj
    · exact hwf j hj

/-- How many bytes there are in all. -/
def sumL : List (List UInt8) → Nat
  | [] => 0
  | b :: r => b.length + sumL r

set_option maxRecDepth 4000 in
theorem trie_Build {w : World} {l : Value} {ls : List (List UInt8)} (h : SlT w l ls) (hs : sumL ls + 1 ≤ 2 ^ 40) : RET Tryz.prog 41 [l] w fun v w' => ∃ b, v = .pointer (some ⟨b, 0, none⟩) ∧ IsTrie w' w.heap.size w'.heap.size b (trieM ls) ∧ Ext w w' := by
  apply by_trie_Build
  unfold sh_trie_Build
  simp (disch := omega) only [SX, Nat.reduceAdd]
  refine BS_130_1 fun w1 o1 e1 z1 => ?_
  refine MAKEMAP fun w2 m2 e2 z2 => ?_
  simp (disch := omega) only [SX, Nat.reduceAdd]
  refine BOXA fun w3 o3 e3 z3 => ?_
  have e13 := e1.trans (e2.trans e3)
  have T3 : IsTrie w3 w.heap.size w3.heap.size w2.heap.size [⟨-1, 0, -1, 0⟩] := by
    refine ⟨⟨w.heap.size, 1, w1.heap.size, o3, ?_, ?_, by omega, by omega, by omega, by omega, by omega⟩, by simp, by simp, by simp, ?_⟩
    · exact row_ext (row_own o1 rfl (by unfold maxLen; decide) _ (Nat.le_refl _)) (e2.trans e3)
    · exact ⟨#[], 0, (e3.block _ (by omega) (fun x => x)).trans m2, rfl⟩
    · intro i hi; simp at hi; subst hi; simp
  generalize hb : w2.heap.size = b at *
  have hls := h.len
  obtain ⟨A, cc, rfl⟩ := h.shape
  simp (disch := omega) only [SX, Nat.reduceAdd]
  refine ⟨fun v w4 => ∃ (i : Nat) (T : List TN), v = .int .i64 i ∧ i ≤ ls.length ∧ IsTrie w4 w.heap.size w4.heap.size b T ∧ Ext w w4 ∧ buildM i T (ls.drop i) = trieM ls ∧ T.length + sumL (ls.drop i) ≤ 2 ^ 40,
    fun v _ => ls.length - vnat v, ⟨0, _, rfl, Nat.zero_le _, T3, e13, rfl, by simp; omega⟩, ?_⟩
  rintro v w4 ⟨i, T, rfl, hi, hT, he, hbm, hsum⟩
  by_cases hlt : i < ls.length
  · have hlt' : (i : Int) < (ls.length : Int) := by omega
    obtain ⟨bb, o, c, u, hv, hcell, hu⟩ := h.at hlt
    injection hv with hA _ hc
    subst hA hc
    obtain ⟨A', c', rfl⟩ := hu.shape
    have hdrop : ls.drop i = ls[i] :: ls.drop (i + 1) := List.drop_eq_getElem_cons hlt
    rw [hdrop] at hbm hsum
    simp only [sumL] at hsum
    simp only [buildM] at hbm
    simp (disch := omega) only [SX, Nat.reduceAdd, hlt', LD_23 (he.cell hcell)]
    refine ⟨fun at' v14 w5 => ∃ (n : Int) (j : Nat) (T' : List TN), at' = .int .i64 n ∧ v14 = .int .i64 j ∧ j ≤ ls[i].length ∧ 0 ≤ n ∧ n < T'.length ∧ IsTrie w5 w.heap.size w5.heap.size b T' ∧ Ext w w5 ∧ insM T' n (ls[i].drop j) = insM T 0 ls[i] ∧ T'.length + (ls[i].length - j) + sumL (ls.drop (i + 1)) ≤ 2 ^ 40,
      fun _ v14 _ => ls[i].length - vnat v14, ⟨0, 0, T, rfl, rfl, Nat.zero_le _, by omega, by have := hT.pos; omega, hT, he, rfl, by omega⟩, ?_⟩
    rintro at' v14 w5 ⟨n, j, T', rfl, rfl, hj, hn0, hn1, hT', he5, hins, hsum5⟩
    by_cases hjl : j < ls[i].length
    · have hjl' : (j : Int) < (ls[i].length : Int) := by omega
      obtain ⟨bb', o', c'', hv', hcell'⟩ := (hu.ext he5).at hjl
      injection hv' with hA _ hc
      subst hA hc
      simp (disch := omega) only [SX, Nat.reduceAdd, hjl', LD_5 hcell']
      refine CALL_of (trie_grow hT' n _ ⟨hn0, hn1⟩ (by omega) (Nat.le_refl _)) ?_
      rintro v w6 ⟨rfl, hT6, hc6⟩
      have g := growM_in (T := T') (n := n) (c := ls[i][j]) (by omega)
      try simp (disch := omega) only [SX, Nat.reduceAdd]
      refine ⟨⟨_, j + 1, _, rfl, by simp, by omega, g.1, g.2.1, hT6, he5.ext_of hc6 fun i hi => hi.1, ?_, by omega⟩, by simp only [vnat_int]; omega⟩
      rw [← hins, List.drop_eq_getElem_cons hjl]
      rfl
    · have hjl' : ¬ (j : Int) < (ls[i].length : Int) := by omega
      obtain rfl : j = ls[i].length := by omega
      rw [List.drop_length] at hins
      simp only [insM] at hins
      rw [← hins] at hbm
      obtain ⟨nb, cap, h0, hword, hnb, hnb', hrow, hmark⟩ := hT'.mark (i := n.toNat) (by omega) i
      have hget : T'[n.toNat]? = some (T'[n.toNat]'(by omega)) := List.getElem?_eq_getElem (by omega)
      by_cases hw : (T'[n.toNat]'(by omega)).word < 0
      · simp (disch := omega) only [SX, Nat.reduceAdd, hjl', LD_130 h0, LD_3 hword, hw]
        refine STOREROW SZ_3 hrow (by omega) rfl rfl fun w6 o6 c6 z6 => ?_
        try simp (disch := omega) only [SX, Nat.reduceAdd]
        have hT6 := hmark w6 o6 c6
        refine ⟨⟨i + 1, _, by simp, by omega, hT6.mono (Nat.le_refl _) (Nat.le_of_eq z6.symm), he5.ext_of c6 fun i hi => by omega, ?_, by rw [List.length_set]; omega⟩, by simp only [vnat_int]; omega⟩
        rw [← hbm]
        simp only [markM, hget, if_pos hw]
      · simp (disch := omega) only [SX, Nat.reduceAdd, hjl', LD_130 h0, LD_3 hword, hw]
        refine ⟨⟨i + 1, T', by simp, by omega, hT', he5, ?_, by omega⟩, by simp only [vnat_int]; omega⟩
        rw [← hbm]
        simp only [markM, hget, if_neg hw]
  · have hlt' : ¬ (i : Int) < (ls.length : Int) := by omega
    simp (disch := omega) only [SX, Nat.reduceAdd, hlt']
    obtain rfl : i = ls.length := by omega
    rw [List.drop_length] at hbm
    simp only [buildM] at hbm
    subst hbm
    exact ⟨b, rfl, hT, he⟩
end Go.Proofs.YtgjfhmahiiokeaaGreat.Y
