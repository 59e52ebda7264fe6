import Derived.Test.YtgjfhmahiiokeaaGreatDfaD
set_option linter.unusedVariables false
set_option linter.unusedSimpArgs false
set_option linter.unusedVariables false
set_option linter.unusedSimpArgs false
set_option maxRecDepth 8000
namespace Go.Proofs.YtgjfhmahiiokeaaGreat.Y
open Go Go.Sx

/-- A finished table. -/
def IsDfa (w : World) (lo hi b : Nat) (ls : List (List UInt8)) : Prop := ∃ N, DfaAt w lo hi b ls N ∧ ∀ s, s < (trieM ls).length → rowOK ls N s

theorem IsDfa.chg {S : Nat → Prop} {w w' : World} {lo hi b : Nat} {ls : List (List UInt8)} (h : IsDfa w lo hi b ls) (hc : Chg S w w') (hs : ∀ i, S i → i < lo ∨ hi ≤ i) : IsDfa w' lo hi b ls := by
  obtain ⟨N, h, hr⟩ := h
  exact ⟨N, h.chg hc hs, hr⟩
theorem IsDfa.ext {w w' : World} {lo hi b : Nat} {ls : List (List UInt8)} (h : IsDfa w lo hi b ls) (hc : Ext w w') : IsDfa w' lo hi b ls := h.chg hc fun _ x => x.elim

theorem dfa_New {w : World} {l : Value} {ls : List (List UInt8)} (h : SlT w l ls) (hs : sumL ls + 1 ≤ 2 ^ 31) : RET Tryz.prog 28 [l] w fun v w' => Ext w w' ∧ ((160 < (trieM ls).length ∧ v = .tuple #[.pointer none, .int .i64 14]) ∨ ((trieM ls).length ≤ 160 ∧ ∃ b, v = .tuple #[.pointer (some ⟨b, 0, none⟩), .int .i64 0] ∧ IsDfa w' w.heap.size w'.heap.size b ls)) := by
  have hT := trie_for ls
  refine RET_by fun R k => ?_
  apply by_dfa_New
  unfold sh_dfa_New
  refine CALL_of (trie_Build h (by omega)) ?_
  rintro v w1 ⟨tb, rfl, ht, e1⟩
  refine CALL_of (trie_Nodes ht) ?_
  rintro v w2 ⟨rfl, rfl⟩
  by_cases hb : 160 < (trieM ls).length
  · have hb' : (160 : Int) < ((trieM ls).length : Int) := by omega
    simp (disch := omega) only [SX, Nat.reduceAdd, hb']
    exact k _ _ ⟨e1, .inl ⟨hb, rfl⟩⟩
  · have hb' : ¬ (160 : Int) < ((trieM ls).length : Int) := by omega
    simp (disch := omega) only [SX, Nat.reduceAdd, hb']
    refine CALL_of (links_Build ht hT.ok (Nat.le_refl _) (by omega)) ?_
    rintro v w3 ⟨lb, Q, rfl, hl, hq, e3⟩
    refine CALL_of (classes_Of (h.ext (e1.trans e3))) ?_
    rintro v w4 ⟨rfl, e4⟩
    have hc := cls_len (inT ls)
    unfold clsV
    rw [BD_dfa hc]
    refine BOXA fun w5 o5 e5 z5 => ?_
    have s3 := e3.size
    have s4 := e4.size
    have s1 := e1.size
    have e45 := e4.trans e5
    refine CALL_of (dfa_fill o5 (ht.ext (e3.trans e45)) (hl.ext e45) hq (by omega) (by omega)) ?_
    rintro v w6 ⟨c6, N, hN, hr⟩
    refine k _ _ ⟨(e1.trans (e3.trans e45)).ext_of c6 (fun i hi => by omega), .inr ⟨by omega, _, rfl, N, hN, hr⟩⟩
end Go.Proofs.YtgjfhmahiiokeaaGreat.Y
