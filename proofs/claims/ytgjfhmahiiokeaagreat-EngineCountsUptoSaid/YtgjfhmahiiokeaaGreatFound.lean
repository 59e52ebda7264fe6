import Derived.Test.YtgjfhmahiiokeaaGreatDfaF
set_option linter.unusedVariables false
set_option linter.unusedSimpArgs false
set_option linter.unusedVariables false
set_option linter.unusedSimpArgs false
set_option maxRecDepth 8000
namespace Go.Proofs.YtgjfhmahiiokeaaGreat.Y
open Go Go.Sx

/-! ### What is found, by the texts alone -/
/-- The pieces of a line that are one of some texts that aren't empty. -/
def IsOcc (ls : List (List UInt8)) (line : List UInt8) (p : Int × Int) : Prop := ∃ t ∈ ls, t ≠ [] ∧ ∃ a : Nat, t <+: line.drop a ∧ p = ((a : Int), ((a + t.length : Nat) : Int))

theorem find_ge {T : List TN} (h : TreeOK T) {q : List UInt8} (hq : 0 ≤ findM T q) : findM T q < T.length := (findM_lo h.pos q).2
theorem own_iff {T : List TN} {ls : List (List UInt8)} (h : TrieFor T ls) {q : List UInt8} (hq : q ≠ []) : (0 < ownM T (findM T q) ↔ q ∈ ls) ∧ (0 < ownM T (findM T q) → ownM T (findM T q) = (q.length : Int)) := by
  by_cases hf : 0 ≤ findM T q
  · have hp := path_find h.ok q hf
    have hlt := find_ge h.ok hf
    have hne : findM T q ≠ 0 := by
      intro h0
      rw [h0, path_root h.ok] at hp
      exact hq hp.symm
    have hw := h.word (findM T q) hf hlt
    rw [hp] at hw
    have hd : depM T (findM T q) = q.length := by unfold depM; rw [hp]
    unfold ownM
    have hl : 0 < q.length := List.length_pos_iff.2 hq
    constructor
    · rw [← hw]
      split
      · rename_i hh; rw [hd]; exact ⟨fun _ => hh.2, fun _ => by omega⟩
      · rename_i hh; exact ⟨fun hx => by omega, fun hx => (hh ⟨by omega, hx⟩).elim⟩
    · split
      · intro _; rw [hd]
      · intro hx; omega
  · have h0 : ownM T (findM T q) = 0 := ownM_neg (by omega)
    rw [h0]
    refine ⟨⟨fun hx => by omega, fun hx => (hf (h.text q hx)).elim⟩, fun hx => by omega⟩
theorem ends_iff {T : List TN} {ls : List (List UInt8)} (h : TrieFor T ls) : ∀ (q : List UInt8) (x : Int), x ∈ endsL T q ↔ ∃ s, s <:+ q ∧ s ≠ [] ∧ s ∈ ls ∧ x = (s.length : Int)
  | [], x => by
    simp only [endsL, List.not_mem_nil, false_iff]
    rintro ⟨s, h1, h2, _⟩
    exact h2 (List.suffix_nil.1 h1)
  | c :: r, x => by
    obtain ⟨h1, h2⟩ := own_iff h (q := c :: r) (by simp)
    have ih := ends_iff h r x
    simp only [endsL]
    constructor
    · intro hx
      split at hx
      · rename_i h0
        rcases List.mem_cons.1 hx with rfl | hx
        · exact ⟨c :: r, List.suffix_refl _, by simp, h1.1 h0, h2 h0⟩
        · obtain ⟨s, k1, k2⟩ := ih.1 hx
          exact ⟨s, k1.trans (List.suffix_cons c r), k2⟩
      · obtain ⟨s, k1, k2⟩ := ih.1 hx
        exact ⟨s, k1.trans (List.suffix_cons c r), k2⟩
    · rintro ⟨s, k1, k2, k3, rfl⟩
      rcases List.suffix_cons_iff.1 k1 with rfl | k1
      · have := h1.2 k3
        rw [if_pos this, h2 this]
        exact List.mem_cons_self
      · have := ih.2 ⟨s, k1, k2, k3, rfl⟩
        split
        · exact List.mem_cons_of_mem _ this
        · exact this
theorem suffix_take {s line : List UInt8} {e : Nat} (he : e ≤ line.length) : s <:+ line.take e ↔ s.length ≤ e ∧ s <+: line.drop (e - s.length) := by
  constructor
  · rintro ⟨p, hp⟩
    have hl := congrArg List.length hp
    rw [List.length_append, List.length_take] at hl
    have hpe : p.length = e - s.length := by omega
    refine ⟨by omega, line.drop e, ?_⟩
    have : line = p ++ (s ++ line.drop e) := by rw [← List.append_assoc, hp, List.take_append_drop]
    rw [← hpe]
    conv => rhs; rw [this]
    simp
  · rintro ⟨h1, q, hq⟩
    refine ⟨line.take (e - s.length), ?_⟩
    have h2 : line = line.take (e - s.length) ++ (s ++ q) := by rw [hq, List.take_append_drop]
    have h3 : (line.take (e - s.length) ++ s).length = e := by rw [List.length_append, List.length_take]; omega
    have h4 : line.take e = (line.take (e - s.length) ++ s ++ q).take e := by rw [List.append_assoc, ← h2]
    rw [h4, List.take_left' h3]
theorem found_iff {ls : List (List UInt8)} (line : List UInt8) (p : Int × Int) : p ∈ foundM (trieM ls) line line.length ↔ IsOcc ls line p := by
  have hT := trie_for ls
  unfold foundM hitsM IsOcc
  simp only [List.mem_flatMap, List.mem_range, List.mem_map]
  constructor
  · rintro ⟨i, hi, x, hx, rfl⟩
    obtain ⟨s, k1, k2, k3, rfl⟩ := (ends_iff hT _ _).1 hx
    obtain ⟨h1, h2⟩ := (suffix_take (by omega)).1 k1
    refine ⟨s, k3, k2, i + 1 - s.length, h2, ?_⟩
    rw [Prod.mk.injEq]
    omega
  · rintro ⟨t, h1, h2, a, h3, rfl⟩
    have hl := h3.length_le
    rw [List.length_drop] at hl
    have h0 : 0 < t.length := List.length_pos_iff.2 h2
    refine ⟨a + t.length - 1, by omega, t.length, (ends_iff hT _ _).2 ⟨t, ?_, h2, h1, rfl⟩, ?_⟩
    · refine (suffix_take (by omega)).2 ⟨by omega, ?_⟩
      rw [show a + t.length - 1 + 1 - t.length = a by omega]
      exact h3
    · rw [Prod.mk.injEq]
      omega
theorem occ_congr {ls ms : List (List UInt8)} (h : ∀ t, t ≠ [] → (t ∈ ls ↔ t ∈ ms)) (line : List UInt8) (p : Int × Int) : IsOcc ls line p ↔ IsOcc ms line p := by
  unfold IsOcc
  constructor
  · rintro ⟨t, h1, h2, h3⟩; exact ⟨t, (h t h2).1 h1, h2, h3⟩
  · rintro ⟨t, h1, h2, h3⟩; exact ⟨t, (h t h2).2 h1, h2, h3⟩
end Go.Proofs.YtgjfhmahiiokeaaGreat.Y
