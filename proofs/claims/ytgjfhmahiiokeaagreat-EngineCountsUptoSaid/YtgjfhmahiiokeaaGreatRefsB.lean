import Derived.Test.YtgjfhmahiiokeaaGreatRefs
import Derived.Test.YtgjfhmahiiokeaaGreatAcB
set_option linter.unusedVariables false
set_option linter.unusedSimpArgs false
set_option linter.unusedVariables false
set_option linter.unusedSimpArgs false
set_option maxRecDepth 8000
namespace Go.Proofs.YtgjfhmahiiokeaaGreat.Y
open Go Go.Sx

/-- The paths of a tree's nodes, in order. -/
def pathsL (T : List TN) : List (List UInt8) := (List.range T.length).map fun i : Nat => pathM T i

theorem ins_snoc (p : List UInt8) (c : UInt8) : ∀ (T : List TN) (n : Int), insM T n (p ++ [c]) = growM (insM T n p).2 (insM T n p).1 c := by
  induction p with
  | nil => intro T n; rfl
  | cons a p ih => intro T n; simp only [List.cons_append, insM]; exact ih _ _
theorem paths_mem {T : List TN} (h : TreeOK T) (s : List UInt8) : s ∈ pathsL T ↔ 0 ≤ findM T s := by
  unfold pathsL
  rw [List.mem_map]
  constructor
  · rintro ⟨i, hi, rfl⟩
    rw [List.mem_range] at hi
    rw [find_of h (by omega) (by omega)]
    omega
  · intro hf
    have hlt := (findM_lo h.pos s).2
    refine ⟨(findM T s).toNat, by rw [List.mem_range]; omega, ?_⟩
    rw [show (((findM T s).toNat : Nat) : Int) = findM T s by omega]
    exact path_find h _ hf
theorem paths_idx {T : List TN} (h : TreeOK T) {s : List UInt8} (hf : 0 ≤ findM T s) : placeM (pathsL T) s = findM T s := by
  have hm := (paths_mem h s).2 hf
  have hlt := (findM_lo h.pos s).2
  unfold placeM
  rw [if_pos hm]
  have hi := List.idxOf_lt_length_iff.2 hm
  have hg := List.getElem_idxOf hi
  have hlen : (pathsL T).length = T.length := by simp [pathsL]
  have hp : pathM T (((pathsL T).idxOf s : Nat) : Int) = s := by
    have gen : ∀ (j : Nat) (hj : j < (pathsL T).length), (pathsL T)[j] = pathM T (j : Int) := fun j hj => by
      simp [pathsL]
    have this := gen _ hi
    rw [← this]
    exact hg
  have := find_of h (x := (((pathsL T).idxOf s : Nat) : Int)) (by omega) (by omega)
  rw [hp] at this
  exact this.symm
theorem paths_place {T : List TN} (h : TreeOK T) (s : List UInt8) : placeM (pathsL T) s = findM T s := by
  by_cases hf : 0 ≤ findM T s
  · exact paths_idx h hf
  · have := (findM_lo h.pos s).1
    unfold placeM
    rw [if_neg (fun hm => hf ((paths_mem h s).1 hm))]
    omega
theorem paths_grow {T : List TN} (h : TreeOK T) {n : Int} (c : UInt8) (hn : 0 ≤ n ∧ n < T.length) : pathsL (growM T n c).2 = if 0 ≤ findM T (pathM T n ++ [c]) then pathsL T else pathsL T ++ [pathM T n ++ [c]] := by
  obtain ⟨k1, k2, k3, k4, k5, k6⟩ := grow_ok h c hn
  obtain ⟨f1, f2, f3⟩ := grow_find h c hn
  have hfs : findM T (pathM T n ++ [c]) = stepM T n c := by rw [findM_snoc, find_of h hn.1 hn.2]
  cases hl : lookE (ents 1 T.tail) n c.toNat with
  | some x =>
    have hg : (growM T n c).2 = T := by simp [growM, hl]
    have hs : stepM T n c = x := by unfold stepM; rw [if_pos hn, hl]; rfl
    have := lookE_ents hl
    rw [hg, hfs, hs, if_pos (by omega)]
  | none =>
    have hlen : (growM T n c).2.length = T.length + 1 := by simp [growM, hl]
    have h1 : (growM T n c).1 = T.length := by simp [growM, hl]
    have hs : stepM T n c = -1 := by unfold stepM; rw [if_pos hn, hl]; rfl
    rw [hfs, hs, if_neg (by omega)]
    unfold pathsL
    rw [hlen, List.range_succ, List.map_append]
    congr 1
    · apply List.map_congr_left
      intro i hi
      rw [List.mem_range] at hi
      exact f3 i (by omega) (by omega)
    · simp only [List.map_cons, List.map_nil]
      rw [← h1, ← k2, path_step k1 (by rw [k2, h1]; omega), f3 n hn.1 hn.2]
theorem paths_mark {T : List TN} (h : TreeOK T) (n : Int) (i : Nat) : pathsL (markM T n i) = pathsL T := by
  obtain ⟨m1, m2, _⟩ := mark_same T n i
  unfold pathsL
  rw [m1]
  apply List.map_congr_left
  intro j hj
  rw [List.mem_range] at hj
  exact path_same h (mark_ok h n i) m1 m2 (by omega) (by omega)
end Go.Proofs.YtgjfhmahiiokeaaGreat.Y
