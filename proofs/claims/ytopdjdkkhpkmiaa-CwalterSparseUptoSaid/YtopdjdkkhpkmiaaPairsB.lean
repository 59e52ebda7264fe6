import Derived.Test.YtopdjdkkhpkmiaaPairs
set_option linter.unusedVariables false
set_option linter.unusedSimpArgs false
set_option linter.unusedVariables false
set_option linter.unusedSimpArgs false
set_option maxRecDepth 8000
namespace Go.Proofs.Ytopdjdkkhpkmiaa.Y
open Go Go.Sx

theorem flat_take (l : List (Int × Int)) (m i : Nat) (u : Value) (h : ((l.take m).flatMap pcells)[i]? = some u) : (l.flatMap pcells)[i]? = some u := by
  have : l.flatMap pcells = (l.take m).flatMap pcells ++ (l.drop m).flatMap pcells := by rw [← List.flatMap_append, List.take_append_drop]
  rw [this, List.getElem?_append_left (List.getElem?_eq_some_iff.1 h).1]
  exact h
theorem flat_drop (l : List (Int × Int)) (m i : Nat) (u : Value) (hm : m ≤ l.length) (h : ((l.drop m).flatMap pcells)[i]? = some u) : (l.flatMap pcells)[m * 2 + i]? = some u := by
  have : l.flatMap pcells = (l.take m).flatMap pcells ++ (l.drop m).flatMap pcells := by rw [← List.flatMap_append, List.take_append_drop]
  have hl : ((l.take m).flatMap pcells).length = m * 2 := by rw [flatMap_len pcells_len, List.length_take]; congr 1; omega
  rw [this, List.getElem?_append_right (by omega), hl, show m * 2 + i - m * 2 = i by omega]
  exact h
theorem slP_take {w : World} {A : Option Addr} {n c : Nat} {l : List (Int × Int)} (h : SlG pcells w (.slice A n c) l) {m : Nat} (hm : m ≤ l.length) : SlG pcells w (.slice A m c) (l.take m) := by
  obtain ⟨A', c', he, hr, hc, hl⟩ := h
  injection he with e1 e2 e3
  subst e1 e3
  refine ⟨A, c, by rw [List.length_take]; congr 1; omega, ?_, by rw [List.length_take]; omega, by rw [List.length_take]; omega⟩
  rcases hr with hr | ⟨b, o, rfl, hr⟩
  · left
    have := flatMap_len pcells_len l
    rw [hr] at this
    have h0 : l = [] := List.eq_nil_of_length_eq_zero (by simp only [List.length_nil] at this; omega)
    rw [h0]; simp
  · exact .inr ⟨b, o, rfl, fun i v hi => hr i v (flat_take l m i v hi)⟩
theorem slP_drop {w : World} {A : Option Addr} {n c : Nat} {l : List (Int × Int)} (h : SlG pcells w (.slice A n c) l) {m : Nat} (hm : m ≤ l.length) : SlG pcells w (.slice (sub A c m 2) (n - m) (c - m)) (l.drop m) := by
  obtain ⟨A', c', he, hr, hc, hl⟩ := h
  injection he with e1 e2 e3
  subst e1 e2 e3
  exact ⟨_, _, by rw [List.length_drop], Rd_sub hr (by rw [flatMap_len pcells_len]; omega) _ (fun i u hu => flat_drop l m i u hm hu), by rw [List.length_drop]; omega, by rw [List.length_drop]; omega⟩

theorem pairs_Sort : ∀ (n : Nat) {w : World} {v : Value} {l : List (Int × Int)} (h : SlG pcells w v l) (hn : l.length ≤ n) (hl : l.length ≤ 2 ^ 39), RET Try.prog 59 [v] w fun v' w' => ∃ r, SlG pcells w' v' r ∧ Rising r ∧ (∀ p, p ∈ r ↔ p ∈ l) ∧ r.length ≤ l.length ∧ (∀ k, v'.ownBlock = some k → w.heap.size ≤ k ∧ k < w'.heap.size) ∧ Ext w w' := by
  intro n
  induction n with
  | zero =>
    intro w v l h hn hl
    obtain ⟨A, c, rfl⟩ := h.shape
    refine RET_by fun R k => ?_
    apply by_pairs_Sort
    unfold sh_pairs_Sort
    have h2 : ((l.length : Nat) : Int) < 2 := by omega
    simp (disch := omega) only [SX, Nat.reduceAdd, h2]
    refine CALL_of (slices_CloneP h (by omega)) ?_
    rintro v' w' ⟨hv, e, hf⟩
    have : l = [] := List.eq_nil_of_length_eq_zero (by omega)
    subst this
    exact k _ _ ⟨[], hv, List.Pairwise.nil, fun _ => Iff.rfl, Nat.le_refl _, hf, e⟩
  | succ n ih =>
    intro w v l h hn hl
    obtain ⟨A, c, rfl⟩ := h.shape
    refine RET_by fun R k => ?_
    apply by_pairs_Sort
    unfold sh_pairs_Sort
    by_cases h2 : l.length < 2
    · have h2' : ((l.length : Nat) : Int) < 2 := by omega
      simp (disch := omega) only [SX, Nat.reduceAdd, h2']
      refine CALL_of (slices_CloneP h (by omega)) ?_
      rintro v' w' ⟨hv, e, hf⟩
      refine k _ _ ⟨l, hv, ?_, fun _ => Iff.rfl, Nat.le_refl _, hf, e⟩
      match l, h2 with
      | [], _ => exact List.Pairwise.nil
      | [x], _ => exact List.pairwise_singleton _ _
    · have h2' : ¬ ((l.length : Nat) : Int) < 2 := by omega
      have hq : IntKind.i64.wrap (((l.length : Nat) : Int).tdiv 2) = ((l.length / 2 : Nat) : Int) := by
        rw [Int.tdiv_eq_ediv_of_nonneg (by omega)]
        simp [IntKind.wrap, IntKind.bits, IntKind.signed]; omega
      have hcl : l.length ≤ c := by obtain ⟨_, _, he, _, hc, _⟩ := id h; injection he with _ _ e3; omega
      simp (disch := omega) only [DRAWQ, SX, Nat.reduceAdd, h2', hq]
      have hd := h.ext (Ext.drew w)
      refine CALL_of (ih (slP_take hd (m := l.length / 2) (by omega)) (by rw [List.length_take]; omega) (by rw [List.length_take]; omega)) ?_
      rintro v1 w1 ⟨r1, s1, g1, m1, l1, f1, e1⟩
      refine CALL_of (ih ((slP_drop hd (m := l.length / 2) (by omega)).ext e1) (by rw [List.length_drop]; omega) (by rw [List.length_drop]; omega)) ?_
      rintro v2 w2 ⟨r2, s2, g2, m2, l2, f2, e2⟩
      rw [List.length_take] at l1
      rw [List.length_drop] at l2
      refine CALL_of (pairs_joined (s1.ext e2) s2 g1 g2 (by omega)) ?_
      rintro v3 w3 ⟨r, hr, gr, mr, lr, e3⟩
      have z1 : w.heap.size ≤ w1.heap.size := e1.size
      have z2 := e2.size
      refine k _ _ ⟨r, (SlG.of_row pcells_len (by omega) hr (by omega)).1, gr, fun p => ?_, by omega, fun k hk => by have := hr.lt k hk; omega, (Ext.drew w).trans (e1.trans (e2.trans e3))⟩
      rw [mr, m1, m2, ← List.mem_append, List.take_append_drop]
end Go.Proofs.Ytopdjdkkhpkmiaa.Y
