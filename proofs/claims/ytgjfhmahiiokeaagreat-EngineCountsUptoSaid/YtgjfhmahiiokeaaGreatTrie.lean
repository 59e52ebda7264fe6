import Derived.Test.YtgjfhmahiiokeaaGreatTab
import Derived.Test.YtgjfhmahiiokeaaGreatSh
import Derived.Test.YtgjfhmahiiokeaaGreatLib
set_option linter.unusedVariables false
set_option linter.unusedSimpArgs false
set_option linter.unusedVariables false
set_option linter.unusedSimpArgs false
namespace Go.Proofs.YtgjfhmahiiokeaaGreat.Y
open Go Go.Sx

/-! ### The tree -/
structure TN where
  par : Int
  dep : Nat
  word : Int
  c : UInt8
deriving DecidableEq

def TN.cells (x : TN) : List Value := [.int .i64 x.par, .int .i64 x.dep, .int .i64 x.word, .int .u8 x.c.toNat]
def ents (i : Nat) : List TN → List KV
  | [] => []
  | x :: r => ((x.par, (x.c.toNat : Int)), (i : Int)) :: ents (i + 1) r

/-- A tree in memory, in blocks from 'lo' on and ahead of 'hi': T are its nodes. -/
structure IsTrie (w : World) (lo hi b : Nat) (T : List TN) : Prop where
  ex : ∃ nb cap mb, Own w b [.slice (some ⟨nb, 0, none⟩) T.length cap, .map (some mb)] 133 ∧ w.ownsRow lo 129 4 (.slice (some ⟨nb, 0, none⟩) T.length cap) T.length (T.flatMap TN.cells) ∧ MapE w mb (ents 1 T.tail) ∧ lo ≤ b ∧ b < hi ∧ lo ≤ mb ∧ mb < hi ∧ nb < hi
  pos : 0 < T.length
  small : T.length ≤ 2 ^ 40
  deps : ∀ x ∈ T, x.dep ≤ T.length
  wf : ∀ i (hi : i < T.length), -1 ≤ T[i].par ∧ T[i].par < i

theorem IsTrie.lt {w : World} {lo hi b : Nat} {T : List TN} (h : IsTrie w lo hi b T) : b < w.heap.size := by
  obtain ⟨nb, cap, mb, h, _⟩ := h.ex
  exact h.lt
theorem IsTrie.chg {S : Nat → Prop} {w w' : World} {lo hi b : Nat} {T : List TN} (h : IsTrie w lo hi b T) (hc : Chg S w w') (hs : ∀ i, S i → i < lo ∨ hi ≤ i) : IsTrie w' lo hi b T := by
  obtain ⟨⟨nb, cap, mb, h1, h2, h3, h4, h4', h5, h5', h6⟩, hp, hs', hd, hw⟩ := h
  have hnb : lo ≤ nb := row_base h2 nb rfl
  have nS : ∀ i, lo ≤ i → i < hi → ¬ S i := fun i h1 h2 hS => by have := hs i hS; omega
  exact ⟨⟨nb, cap, mb, h1.chg hc (nS _ h4 h4'), row_chg h2 hc (fun k hk => by simp [Value.ownBlock] at hk; subst hk; exact nS _ hnb h6), h3.chg hc (nS _ h5 h5'), h4, h4', h5, h5', h6⟩, hp, hs', hd, hw⟩
theorem IsTrie.ext {w w' : World} {lo hi b : Nat} {T : List TN} (h : IsTrie w lo hi b T) (hc : Ext w w') : IsTrie w' lo hi b T := h.chg hc fun _ x => x.elim
theorem IsTrie.mono {w : World} {lo hi lo' hi' b : Nat} {T : List TN} (h : IsTrie w lo hi b T) (h1 : lo' ≤ lo) (h2 : hi ≤ hi') : IsTrie w lo' hi' b T := by
  obtain ⟨⟨nb, cap, mb, a1, a2, a3, h4, h4', h5, h5', h6⟩, hp, hs', hd, hw⟩ := h
  exact ⟨⟨nb, cap, mb, a1, row_mono a2 h1, a3, by omega, by omega, by omega, by omega, by omega⟩, hp, hs', hd, hw⟩

theorem flat_len (T : List TN) : (T.flatMap TN.cells).length = T.length * 4 := by
  induction T with
  | nil => rfl
  | cons x T ih => simp only [List.flatMap_cons, List.length_append, ih, List.length_cons, TN.cells, List.length_nil]; omega

theorem flat_get {T : List TN} {i : Nat} (hi : i < T.length) {j : Nat} (hj : j < 4) : (T.flatMap TN.cells)[i * 4 + j]? = (T[i].cells)[j]? := by
  induction T generalizing i with
  | nil => simp at hi
  | cons x T ih =>
    simp only [List.flatMap_cons]
    cases i with
    | zero =>
      rw [List.getElem?_append_left (by simp [TN.cells]; omega)]
      simp
    | succ i =>
      simp only [List.length_cons] at hi
      rw [List.getElem?_append_right (by simp [TN.cells]; omega)]
      have : (i + 1) * 4 + j - x.cells.length = i * 4 + j := by simp [TN.cells]; omega
      rw [this, ih (by omega)]
      simp

/-- What a reader of a tree may lean on. -/
theorem IsTrie.reads {w : World} {lo hi b : Nat} {T : List TN} (h : IsTrie w lo hi b T) : ∃ nb cap mb, w.cell? ⟨b, 0, none⟩ = some (.slice (some ⟨nb, 0, none⟩) T.length cap) ∧ w.cell? ⟨b, 1, none⟩ = some (.map (some mb)) ∧
    MapE w mb (ents 1 T.tail) ∧ (∀ i (hi : i < T.length), w.cell? ⟨nb, i * 4, none⟩ = some (.int .i64 T[i].par) ∧ w.cell? ⟨nb, i * 4 + 1, none⟩ = some (.int .i64 T[i].dep) ∧ w.cell? ⟨nb, i * 4 + 2, none⟩ = some (.int .i64 T[i].word) ∧ w.cell? ⟨nb, i * 4 + 3, none⟩ = some (.int .u8 T[i].c.toNat)) := by
  obtain ⟨⟨nb, cap, mb, h1, h2, h3, h4, h5⟩, hp, hs, hd, hw⟩ := h
  have key : ∀ i (hi : i < T.length) j (hj : j < 4), w.cell? ⟨nb, i * 4 + j, none⟩ = (T[i].cells)[j]? := by
    intro i hi j hj
    rw [h2.cellAt (i * 4 + j) (by omega)]
    exact flat_get hi hj
  exact ⟨nb, cap, mb, h1.cell rfl, h1.cell rfl, h3, fun i hi => ⟨by simpa [TN.cells] using key i hi 0 (by omega), by simpa [TN.cells] using key i hi 1 (by omega), by simpa [TN.cells] using key i hi 2 (by omega), by simpa [TN.cells] using key i hi 3 (by omega)⟩⟩

section
variable {w : World} {lo hi b : Nat} {T : List TN}

theorem trie_Nodes (h : IsTrie w lo hi b T) : RET Tryz.prog 43 [.pointer (some ⟨b, 0, none⟩)] w fun v w' => v = .int .i64 T.length ∧ w' = w := by
  obtain ⟨nb, cap, mb, h0, h1, hm, hn⟩ := h.reads
  apply by_trie_Trie_Nodes
  unfold sh_trie_Trie_Nodes
  simp (disch := omega) only [SX, Nat.reduceAdd, LD_130 h0]
  exact ⟨trivial, trivial⟩

theorem trie_is (h : IsTrie w lo hi b T) (i : Int) : RET Tryz.prog 66 [.pointer (some ⟨b, 0, none⟩), .int .i64 i] w fun v w' => v = .bool (decide (0 ≤ i ∧ i < T.length)) ∧ w' = w := by
  apply by_trie_Trie_is
  unfold sh_trie_Trie_is
  by_cases hi : 0 ≤ i
  · simp (disch := omega) only [SX, Nat.reduceAdd, hi]
    refine CALL_of (trie_Nodes h) ?_
    rintro v w' ⟨rfl, rfl⟩
    simp (disch := omega) only [SX, Nat.reduceAdd, true_and]
  · simp (disch := omega) only [SX, Nat.reduceAdd, hi, false_and]
    exact ⟨trivial, trivial⟩

/-- Where a byte leads. -/
def stepM (T : List TN) (n : Int) (c : UInt8) : Int := if 0 ≤ n ∧ n < T.length then (lookE (ents 1 T.tail) n c.toNat).getD (-1) else -1

theorem trie_Step (h : IsTrie w lo hi b T) (n : Int) (c : UInt8) : RET Tryz.prog 64 [.pointer (some ⟨b, 0, none⟩), .int .i64 n, .int .u8 c.toNat] w fun v w' => v = .int .i64 (stepM T n c) ∧ w' = w := by
  obtain ⟨nb, cap, mb, h0, h1, hm, hn⟩ := h.reads
  apply by_trie_Trie_Step
  unfold sh_trie_Trie_Step
  refine CALL_of (trie_is h n) ?_
  rintro v w' ⟨rfl, rfl⟩
  by_cases hi : 0 ≤ n ∧ n < T.length
  · simp (disch := omega) only [SX, Nat.reduceAdd, hi, and_self, LD_131 h1, LK_131 hm]
    cases hl : lookE (ents 1 T.tail) n c.toNat with
    | none =>
      simp only [Option.isSome_none, COND_false]
      exact ⟨by simp [stepM, hi, hl], trivial⟩
    | some x =>
      simp only [Option.isSome_some, COND_true]
      exact ⟨by simp [stepM, hi, hl], trivial⟩
  · simp only [hi, decide_false, COND_false]
    exact ⟨by simp [stepM, hi], trivial⟩

def nodeM (T : List TN) (n : Int) : Option TN := if 0 ≤ n ∧ n < T.length then T[n.toNat]? else none
theorem nodeM_in {T : List TN} {n : Int} (h : 0 ≤ n ∧ n < T.length) : nodeM T n = some (T[n.toNat]'(by omega)) := by
  unfold nodeM
  rw [if_pos h, List.getElem?_eq_getElem]

def depthM (T : List TN) (n : Int) : Int := ((nodeM T n).map (fun x => (x.dep : Int))).getD 0
def parentM (T : List TN) (n : Int) : Int := ((nodeM T n).map TN.par).getD (-1)
def wordM (T : List TN) (n : Int) : Int := ((nodeM T n).map TN.word).getD (-1)

theorem trie_Depth (h : IsTrie w lo hi b T) (n : Int) : RET Tryz.prog 97 [.pointer (some ⟨b, 0, none⟩), .int .i64 n] w fun v w' => v = .int .i64 (depthM T n) ∧ w' = w := by
  obtain ⟨nb, cap, mb, h0, h1, hm, hn⟩ := h.reads
  apply by_trie_Trie_Depth
  unfold sh_trie_Trie_Depth
  refine CALL_of (trie_is h n) ?_
  rintro v w' ⟨rfl, rfl⟩
  by_cases hi : 0 ≤ n ∧ n < T.length
  · have hr := (hn n.toNat (by omega)).2.1
    simp (disch := omega) only [SX, Nat.reduceAdd, hi, and_self, LD_130 h0, LD_3 hr]
    exact ⟨by simp [depthM, nodeM_in hi], trivial⟩
  · simp only [SX, Nat.reduceAdd, hi]
    exact ⟨by simp [depthM, nodeM, hi], trivial⟩

theorem trie_Parent (h : IsTrie w lo hi b T) (n : Int) : RET Tryz.prog 45 [.pointer (some ⟨b, 0, none⟩), .int .i64 n] w fun v w' => v = .int .i64 (parentM T n) ∧ w' = w := by
  obtain ⟨nb, cap, mb, h0, h1, hm, hn⟩ := h.reads
  apply by_trie_Trie_Parent
  unfold sh_trie_Trie_Parent
  refine CALL_of (trie_is h n) ?_
  rintro v w' ⟨rfl, rfl⟩
  by_cases hi : 0 ≤ n ∧ n < T.length
  · have hr := (hn n.toNat (by omega)).1
    simp (disch := omega) only [SX, Nat.reduceAdd, hi, and_self, LD_130 h0, LD_3 hr]
    exact ⟨by simp [parentM, nodeM_in hi], trivial⟩
  · simp only [SX, Nat.reduceAdd, hi]
    exact ⟨by simp [parentM, nodeM, hi], trivial⟩

theorem trie_Word (h : IsTrie w lo hi b T) (n : Int) : RET Tryz.prog 88 [.pointer (some ⟨b, 0, none⟩), .int .i64 n] w fun v w' => v = .int .i64 (wordM T n) ∧ w' = w := by
  obtain ⟨nb, cap, mb, h0, h1, hm, hn⟩ := h.reads
  apply by_trie_Trie_Word
  unfold sh_trie_Trie_Word
  refine CALL_of (trie_is h n) ?_
  rintro v w' ⟨rfl, rfl⟩
  by_cases hi : 0 ≤ n ∧ n < T.length
  · have hr := (hn n.toNat (by omega)).2.2.1
    simp (disch := omega) only [SX, Nat.reduceAdd, hi, and_self, LD_130 h0, LD_3 hr]
    exact ⟨by simp [wordM, nodeM_in hi], trivial⟩
  · simp only [SX, Nat.reduceAdd, hi]
    exact ⟨by simp [wordM, nodeM, hi], trivial⟩

/-- The bytes that lead from a node, of those from k on. -/
def kidsM (T : List TN) (n : Int) : List UInt8 := ((List.range 256).map UInt8.ofNat).filter fun c => decide (0 ≤ stepM T n c)

set_option maxRecDepth 4000 in
theorem trie_Kids (h : IsTrie w lo hi b T) (n : Int) : RET Tryz.prog 63 [.pointer (some ⟨b, 0, none⟩), .int .i64 n] w fun v w' => w'.ownsRow w.heap.size 5 1 v (kidsM T n).length ((kidsM T n).map vB) ∧ Ext w w' := by
  apply by_trie_Trie_Kids
  unfold sh_trie_Trie_Kids
  refine ⟨fun out i w1 => ∃ k m : Nat, i = .int .i64 k ∧ k ≤ 256 ∧ Ext w w1 ∧ w1.ownsRow w.heap.size 5 1 out m ((((List.range k).map UInt8.ofNat).filter fun c => decide (0 ≤ stepM T n c)).map vB) ∧ m ≤ k,
    fun _ i _ => 256 - vnat i, ⟨0, 0, rfl, by omega, Ext.refl w, World.ownsRow_nil _ _ _ _, by omega⟩, ?_⟩
  rintro out i w1 ⟨k, m, rfl, hk, he, ho, hm⟩
  by_cases hlt : k < 256
  · have hlt' : (k : Int) < 256 := by omega
    have h1 := h.ext he
    have hc : ((UInt8.ofNat k).toNat : Int) = k := by simp [UInt8.toNat_ofNat]; omega
    have hw : IntKind.u8.wrap (k : Int) = ((UInt8.ofNat k).toNat : Int) := by rw [hc]; simp [IntKind.wrap, IntKind.bits, IntKind.signed]; omega
    simp (disch := omega) only [SX, Nat.reduceAdd, hlt', hw]
    refine CALL_of (trie_Step h1 n (UInt8.ofNat k)) ?_
    rintro v w2 ⟨rfl, rfl⟩
    by_cases hs : 0 ≤ stepM T n (UInt8.ofNat k)
    · simp (disch := omega) only [SX, Nat.reduceAdd, hs, hw]
      refine BS_23_1 fun w3 hb he3 hz3 => ?_
      have ho3 := row_ext ho he3
      refine PUSH1 (by kernel_rfl) IN_5 rfl ho3 hb rfl (by unfold maxLen; omega) (by omega) (by have := he.size; omega) fun v' w4 ho4 hc4 hg4 => ?_
      refine ⟨⟨k + 1, m + 1, by simp, by omega, ?_, ?_, by omega⟩, by simp only [vnat_int]; omega⟩
      · exact (he.trans he3).ext_of hc4 fun i hi => row_base ho3 i hi
      · have : (((List.range (k + 1)).map UInt8.ofNat).filter fun c => decide (0 ≤ stepM T n c)) = (((List.range k).map UInt8.ofNat).filter fun c => decide (0 ≤ stepM T n c)) ++ [UInt8.ofNat k] := by
          rw [List.range_succ, List.map_append, List.filter_append]
          simp [hs]
        rw [this, List.map_append]
        exact ho4
    · simp (disch := omega) only [SX, Nat.reduceAdd, hs]
      refine ⟨⟨k + 1, m, by simp, by omega, he, ?_, by omega⟩, by simp only [vnat_int]; omega⟩
      have : (((List.range (k + 1)).map UInt8.ofNat).filter fun c => decide (0 ≤ stepM T n c)) = (((List.range k).map UInt8.ofNat).filter fun c => decide (0 ≤ stepM T n c)) := by
        rw [List.range_succ, List.map_append, List.filter_append]
        simp [hs]
      rw [this]
      exact ho
  · have hlt' : ¬ (k : Int) < 256 := by omega
    simp (disch := omega) only [SX, Nat.reduceAdd, hlt']
    obtain rfl : k = 256 := by omega
    have hlen : (kidsM T n).length ≤ 256 := by
      unfold kidsM
      refine Nat.le_trans (List.length_filter_le _ _) (by simp)
    have ho' : w1.ownsRow w.heap.size 5 1 out m ((kidsM T n).map vB) := ho
    obtain rfl : m = (kidsM T n).length := (SlB.of_row ho' (by omega)).2
    exact ⟨ho', he⟩

end
end Go.Proofs.YtgjfhmahiiokeaaGreat.Y
