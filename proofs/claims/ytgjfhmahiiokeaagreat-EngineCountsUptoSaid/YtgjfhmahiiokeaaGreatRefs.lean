import Derived.Test.YtgjfhmahiiokeaaGreatStrs
import Derived.Test.YtgjfhmahiiokeaaGreatFold
set_option linter.unusedVariables false
set_option linter.unusedSimpArgs false
set_option linter.unusedVariables false
set_option linter.unusedSimpArgs false
set_option maxRecDepth 8000
namespace Go.Proofs.YtgjfhmahiiokeaaGreat.Y
open Go Go.Sx

/-! ### The reference's functions -/
def sCells (l : List UInt8) : List Value := [strV l]
theorem sCells_len (l : List UInt8) : (sCells l).length = 1 := rfl
theorem sCells_map (ls : List (List UInt8)) : ls.flatMap sCells = ls.map strV := by
  induction ls with
  | nil => rfl
  | cons x r ih => simp only [List.flatMap_cons, List.map_cons, ih, sCells, List.cons_append, List.nil_append]
theorem slS_at {w : World} {v : Value} {ls : List (List UInt8)} (h : SlG sCells w v ls) {i : Nat} (hi : i < ls.length) : ∃ b o c, v = .slice (some ⟨b, o, none⟩) ls.length c ∧ w.cell? ⟨b, o + i, none⟩ = some (strV ls[i]) := by
  obtain ⟨b, o, c, hv, hc⟩ := h.at sCells_len (by omega) hi
  exact ⟨b, o, c, hv, by have := hc 0 (by omega) _ rfl; simpa using this⟩

/-- Where a text stands in a list; -1: nowhere. -/
def placeM (l : List (List UInt8)) (s : List UInt8) : Int := if s ∈ l then (l.idxOf s : Nat) else -1

section
variable {w : World}

theorem ref06_Place {v : Value} {ls : List (List UInt8)} (h : SlG sCells w v ls) (s : List UInt8) : RET Tryz.prog 58 [v, strV s] w fun r w' => r = .int .i64 (placeM ls s) ∧ w' = w := by
  have hl := h.len
  obtain ⟨A, c, rfl⟩ := h.shape
  refine RET_by fun R k => ?_
  apply by_seineref06_Place
  unfold sh_seineref06_Place
  refine ⟨fun iv w1 => ∃ i : Nat, iv = .int .i64 i ∧ w1 = w ∧ i ≤ ls.length ∧ s ∉ ls.take i, fun iv _ => ls.length - vnat iv, ⟨0, rfl, rfl, Nat.zero_le _, by simp⟩, ?_⟩
  rintro iv w ⟨i, rfl, rfl, hi, hn⟩
  by_cases hlt : i < ls.length
  · have hlt' : (i : Int) < ((ls.length : Nat) : Int) := by omega
    obtain ⟨b, o, c', hv, hc⟩ := slS_at h hlt
    injection hv with hA _ hcc
    subst hA hcc
    simp (disch := omega) only [SX, Nat.reduceAdd, hlt', LD_9 hc]
    rw [STR_eq]
    by_cases he : ls[i] = s
    · simp (disch := omega) only [SX, Nat.reduceAdd, he]
      refine k _ _ ⟨?_, rfl⟩
      have hm : s ∈ ls := by rw [← he]; exact List.getElem_mem hlt
      unfold placeM
      rw [if_pos hm]
      congr 2
      have hd : ls = ls.take i ++ ls[i] :: ls.drop (i + 1) := by rw [← List.drop_eq_getElem_cons hlt, List.take_append_drop]
      have : (ls.take i ++ ls[i] :: ls.drop (i + 1)).idxOf s = i := by
        rw [List.idxOf_append, if_neg hn, he, List.idxOf_cons_self, List.length_take]
        omega
      rw [← hd] at this
      exact this.symm
    · simp (disch := omega) only [SX, Nat.reduceAdd, he]
      refine ⟨⟨i + 1, by simp, by trivial, by omega, ?_⟩, by simp only [vnat_int]; omega⟩
      rw [List.take_succ_eq_append_getElem hlt]
      intro hm
      rcases List.mem_append.1 hm with hm | hm
      · exact hn hm
      · simp only [List.mem_singleton] at hm
        exact he hm.symm
  · have hlt' : ¬ (i : Int) < ((ls.length : Nat) : Int) := by omega
    simp (disch := omega) only [SX, Nat.reduceAdd, hlt']
    refine k _ _ ⟨?_, rfl⟩
    rw [List.take_of_length_le (by omega)] at hn
    unfold placeM
    rw [if_neg hn]
end
end Go.Proofs.YtgjfhmahiiokeaaGreat.Y
