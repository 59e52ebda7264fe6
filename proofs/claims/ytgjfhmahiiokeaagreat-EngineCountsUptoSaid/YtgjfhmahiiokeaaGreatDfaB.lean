import Derived.Test.YtgjfhmahiiokeaaGreatDfa
import Derived.Test.YtgjfhmahiiokeaaGreatLib
set_option linter.unusedVariables false
set_option linter.unusedSimpArgs false
set_option linter.unusedVariables false
set_option linter.unusedSimpArgs false
set_option maxRecDepth 8000
namespace Go.Proofs.YtgjfhmahiiokeaaGreat.Y
open Go Go.Sx

/-- Where a state goes by a byte. -/
def deltaM (T : List TN) (s : Int) (c : UInt8) : Int := lsn T (pathM T s ++ [c])

theorem delta_step {T : List TN} (h : TreeOK T) {s : Int} (h0 : 0 ≤ s) (h1 : s < T.length) (c : UInt8) : deltaM T s c = if 0 ≤ stepM T s c then stepM T s c else if s = 0 then 0 else deltaM T (failM T s) c := by
  unfold deltaM
  have := lsn_snoc h (pathM T s) c
  rw [lsn_node h h0 h1] at this
  rw [this]
  split
  · rfl
  · split
    · rfl
    · rename_i hs
      unfold failM
      rw [if_neg hs, lsn_path h]

def wideN (S : Nat → Bool) : Nat := (setL S).length + 1

/-- A table in memory, made or being made; N are its rows. -/
structure DfaAt (w : World) (lo hi b : Nat) (ls : List (List UInt8)) (N : List Int) : Prop where
  ex : ∃ tb lb nb m1 m2 Q, Own w b (.pointer (some ⟨tb, 0, none⟩) :: .pointer (some ⟨lb, 0, none⟩) :: (clsCells (inT ls) ++ [.slice (some ⟨nb, 0, none⟩) N.length N.length])) 107 ∧ IsTrie w lo m1 tb (trieM ls) ∧ IsLinks w m1 m2 lb (failL (trieM ls)) (outL (trieM ls)) (ownL (trieM ls)) Q ∧ Queue (trieM ls) Q Q.length ∧ Own w nb (N.map vI) 3 ∧
    (lo ≤ m1 ∧ m1 ≤ m2 ∧ m2 ≤ b ∧ b < hi ∧ m2 ≤ nb ∧ nb < hi)
  len : N.length = (trieM ls).length * wideN (inT ls)
  few : (trieM ls).length ≤ 160

def rowOK (ls : List (List UInt8)) (N : List Int) (s : Nat) : Prop := ∀ c : UInt8, N[s * wideN (inT ls) + clsN (inT ls) c.toNat]? = some (deltaM (trieM ls) s c)

theorem DfaAt.chg {S : Nat → Prop} {w w' : World} {lo hi b : Nat} {ls : List (List UInt8)} {N : List Int} (h : DfaAt w lo hi b ls N) (hc : Chg S w w') (hs : ∀ i, S i → i < lo ∨ hi ≤ i) : DfaAt w' lo hi b ls N := by
  obtain ⟨⟨tb, lb, nb, m1, m2, Q, h1, h2, h3, h4, h5, a1, a2, a3, a4, a5, a6⟩, p1, p2⟩ := h
  have nS : ∀ i, lo ≤ i → i < hi → ¬ S i := fun i h1 h2 hS => by have := hs i hS; omega
  exact ⟨⟨tb, lb, nb, m1, m2, Q, h1.chg hc (nS _ (by omega) a4), h2.chg hc (fun i hi => by have := hs i hi; omega), h3.chg hc (fun i hi => by have := hs i hi; omega), h4, h5.chg hc (nS _ (by omega) a6), a1, a2, a3, a4, a5, a6⟩, p1, p2⟩
theorem DfaAt.ext {w w' : World} {lo hi b : Nat} {ls : List (List UInt8)} {N : List Int} (h : DfaAt w lo hi b ls N) (hc : Ext w w') : DfaAt w' lo hi b ls N := h.chg hc fun _ x => x.elim

theorem wide_le (S : Nat → Bool) : 1 ≤ wideN S ∧ wideN S ≤ 257 := by
  have := setL_len S
  unfold wideN
  omega
theorem cls_lt (S : Nat → Bool) (c : UInt8) : clsN S c.toNat < wideN S := by
  have := clsN_le (S := S) (a := c.toNat) c.toNat_lt
  unfold wideN
  omega
theorem row_in {n W s k : Nat} (hs : s < n) (hk : k < W) : s * W + k < n * W := by
  have : (s + 1) * W ≤ n * W := Nat.mul_le_mul_right _ hs
  rw [Nat.add_mul] at this
  omega

section
variable {w : World} {lo hi b : Nat} {ls : List (List UInt8)} {N : List Int}

theorem DfaAt.cells (h : DfaAt w lo hi b ls N) : ∃ tb lb nb m1 m2 Q, w.cell? ⟨b, 0, none⟩ = some (.pointer (some ⟨tb, 0, none⟩)) ∧ w.cell? ⟨b, 1, none⟩ = some (.pointer (some ⟨lb, 0, none⟩)) ∧ cellsAt w b 2 257 = some (clsCells (inT ls)) ∧ w.cell? ⟨b, 259, none⟩ = some (.slice (some ⟨nb, 0, none⟩) N.length N.length) ∧
    IsTrie w lo m1 tb (trieM ls) ∧ IsLinks w m1 m2 lb (failL (trieM ls)) (outL (trieM ls)) (ownL (trieM ls)) Q ∧ Queue (trieM ls) Q Q.length ∧ Own w nb (N.map vI) 3 ∧ b < w.heap.size ∧ nb < hi ∧ lo ≤ nb ∧ m2 ≤ nb ∧ m1 ≤ m2 := by
  obtain ⟨⟨tb, lb, nb, m1, m2, Q, h1, h2, h3, h4, h5, a1, a2, a3, a4, a5, a6⟩, p1, p2⟩ := h
  have hl := cls_len (inT ls)
  refine ⟨tb, lb, nb, m1, m2, Q, h1.cell rfl, h1.cell rfl, ?_, h1.cell ?_, h2, h3, h4, h5, h1.lt, a6, by omega, a5, a2⟩
  · rw [cellsAt_own h1 257 2 (by simp [hl])]
    simp only [List.drop_succ_cons, List.drop_zero]
    rw [List.take_append_of_le_length (by omega), List.take_of_length_le (by omega)]
  · rw [show (259 : Nat) = (257 + 1) + 1 from rfl, List.getElem?_cons_succ, List.getElem?_cons_succ, List.getElem?_append_right (by omega), hl]
    rfl

theorem dfa_row (h : DfaAt w lo hi b ls N) (s : Int) (hs : 0 ≤ s ∧ s < (trieM ls).length) : RET Tryz.prog 73 [.pointer (some ⟨b, 0, none⟩), .int .i64 s] w fun v w' => Ext w w' ∧ ∃ nb c, w.cell? ⟨b, 259, none⟩ = some (.slice (some ⟨nb, 0, none⟩) N.length N.length) ∧ v = .slice (some ⟨nb, s.toNat * wideN (inT ls), none⟩) (wideN (inT ls)) c := by
  obtain ⟨tb, lb, nb, m1, m2, Q, c0, c1, c2, c3, ht, _⟩ := h.cells
  have hl := h.len
  have hf := h.few
  have hw := wide_le (inT ls)
  refine RET_by fun R k => ?_
  apply by_dfa_DFA_row
  unfold sh_dfa_DFA_row
  simp (disch := omega) only [SX, Nat.reduceAdd, LA_103 c2]
  refine CALL_of (classes_Len (inT ls)) ?_
  rintro v w' ⟨rfl, e⟩
  have hcell := e.cell c3
  have hin : s.toNat * wideN (inT ls) + wideN (inT ls) ≤ N.length := by
    rw [hl]
    have : (s.toNat + 1) * wideN (inT ls) ≤ (trieM ls).length * wideN (inT ls) := Nat.mul_le_mul_right _ (by omega)
    rw [Nat.add_mul] at this
    omega
  have hbig : N.length ≤ 160 * 257 := by rw [hl]; exact Nat.mul_le_mul hf hw.2
  have e1 : s * ((wideN (inT ls) : Nat) : Int) = ((s.toNat * wideN (inT ls) : Nat) : Int) := by
    rw [Int.natCast_mul]
    congr 1
    omega
  have hsub : sub (some ⟨nb, 0, none⟩) N.length (s.toNat * wideN (inT ls)) 1 = some ⟨nb, s.toNat * wideN (inT ls), none⟩ := by
    unfold sub
    rw [if_neg (by omega)]
    simp [addr_add]
  rw [show ((setL (inT ls)).length + 1) = wideN (inT ls) from rfl]
  generalize hm : s.toNat * wideN (inT ls) = m at *
  simp (disch := omega) only [SX, Nat.reduceAdd, LD_105 hcell, e1, hsub]
  refine k _ _ ⟨e, nb, N.length - m, c3, ?_⟩
  rw [show (((m : Nat) : Int) + ((wideN (inT ls) : Nat) : Int)).toNat - m = wideN (inT ls) by omega]

end
end Go.Proofs.YtgjfhmahiiokeaaGreat.Y
