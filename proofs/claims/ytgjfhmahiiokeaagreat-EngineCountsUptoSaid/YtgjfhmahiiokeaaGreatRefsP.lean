import Derived.Test.YtgjfhmahiiokeaaGreatRefsB
set_option linter.unusedVariables false
set_option linter.unusedSimpArgs false
set_option linter.unusedVariables false
set_option linter.unusedSimpArgs false
set_option maxRecDepth 8000
namespace Go.Proofs.YtgjfhmahiiokeaaGreat.Y
open Go Go.Sx

theorem sumL_app (l m : List (List UInt8)) : sumL (l ++ m) = sumL l + sumL m := by
  induction l with
  | nil => simp [sumL]
  | cons t l ih => simp [sumL, ih]; omega

/-! ### Trees, text by text -/
theorem build_snoc (b : List UInt8) : ∀ (l : List (List UInt8)) (i : Nat) (T : List TN), buildM i T (l ++ [b]) = markM (insM (buildM i T l) 0 b).2 (insM (buildM i T l) 0 b).1 (i + l.length)
  | [], i, T => rfl
  | t :: r, i, T => by
    simp only [List.cons_append, buildM, List.length_cons]
    rw [build_snoc b r]
    congr 1
    omega
theorem trie_snoc (l : List (List UInt8)) (b : List UInt8) : trieM (l ++ [b]) = markM (insM (trieM l) 0 b).2 (insM (trieM l) 0 b).1 l.length := by
  have := build_snoc b l 0 [⟨-1, 0, -1, 0⟩]
  rw [Nat.zero_add] at this
  exact this
theorem ins_len : ∀ (b : List UInt8) (T : List TN) (n : Int), 0 < T.length → T.length ≤ (insM T n b).2.length ∧ (insM T n b).2.length ≤ T.length + b.length
  | [], T, n, hp => by simp [insM]
  | c :: r, T, n, hp => by
    have h1 := growM_in (n := n) (c := c) hp
    have h2 := ins_len r (growM T n c).2 (growM T n c).1 (by omega)
    simp only [insM, List.length_cons]
    omega
theorem trie_len (ls : List (List UInt8)) : (trieM ls).length ≤ sumL ls + 1 := by
  have key : ∀ (l : List (List UInt8)) (i : Nat) (T : List TN), 0 < T.length → (buildM i T l).length ≤ T.length + sumL l := by
    intro l
    induction l with
    | nil => intro i T hp; simp [buildM, sumL]
    | cons b r ih =>
      intro i T hp
      have h1 := ins_len b T 0 hp
      have h2 := (mark_same (insM T 0 b).2 (insM T 0 b).1 i).1
      have := ih (i + 1) (markM (insM T 0 b).2 (insM T 0 b).1 i) (by omega)
      simp only [buildM, sumL]
      omega
  have := key ls 0 [⟨-1, 0, -1, 0⟩] (by simp)
  simp only [List.length_cons, List.length_nil] at this
  show (buildM 0 _ ls).length ≤ _
  omega
theorem paths_len (T : List TN) : (pathsL T).length = T.length := by simp [pathsL]
theorem paths_get {T : List TN} {i : Nat} (h : i < (pathsL T).length) : (pathsL T)[i] = pathM T (i : Int) := by simp [pathsL]
theorem sumL_mem {t : List UInt8} : ∀ {ls : List (List UInt8)}, t ∈ ls → t.length ≤ sumL ls
  | b :: r, h => by
    rcases List.mem_cons.1 h with rfl | h
    · simp [sumL]
    · have := sumL_mem h; simp only [sumL]; omega

end Go.Proofs.YtgjfhmahiiokeaaGreat.Y
