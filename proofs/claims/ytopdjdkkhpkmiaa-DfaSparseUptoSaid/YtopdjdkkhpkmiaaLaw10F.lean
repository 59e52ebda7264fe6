import Derived.Test.YtopdjdkkhpkmiaaLaw10C
import Derived.Test.YtopdjdkkhpkmiaaSparseB
set_option linter.unusedVariables false
set_option linter.unusedSimpArgs false
set_option maxRecDepth 8000
namespace Go.Proofs.Ytopdjdkkhpkmiaa.Y
open Go Go.Sx

section
variable {w : World}

theorem law10_DfaSparse {l lv : Value} {ls : List (List UInt8)} {line : List UInt8} (h : SlT w l ls) (hlim : ls.length ≤ 1048576) (hlv : SlB w lv line) (s : Int) (c : UInt8) : RET Try.prog 7 [l, lv, .int .i64 s, .int .u8 c.toNat] w fun v w' => v = .bool true ∧ Ext w w' := by
  have hll := hlv.len
  obtain ⟨Al, cl, rfl⟩ := hlv.shape
  refine RET_by fun R k => ?_
  apply by_seinelaw10_DfaSparse
  unfold sh_seinelaw10_DfaSparse
  refine CALL_of law10_awake ?_
  rintro v w1 ⟨rfl, e1⟩
  simp (disch := omega) only [SX, Nat.reduceAdd]
  refine CALL_of (law10_texts (h.ext e1) (by omega)) ?_
  rintro v w2 ⟨e2, hv⟩
  have e02 := e1.trans e2
  rcases hv with ⟨_, rfl⟩ | ⟨h40, out, n, rfl, hrow⟩
  · simp (disch := omega) only [SX, Nat.reduceAdd]
    refine ⟨fun _ => False, ?_, fun _ h => h.elim⟩
    try simp (disch := omega) only [SX, Nat.reduceAdd]
    exact k _ _ ⟨rfl, e02⟩
  have hsum := sumL_le ls 40 h40
  have hTl := trie_len ls
  simp (disch := omega) only [SX, Nat.reduceAdd]
  by_cases h12 : ls.length ≤ 12
  · by_cases h4 : 400 < line.length
    · refine ⟨fun _ => False, ?_, fun _ h => h.elim⟩
      simp (disch := omega) only [SX, Nat.reduceAdd, h12, show (400 : Int) < (line.length : Int) by omega]
      exact k _ _ ⟨rfl, e02⟩
    refine ⟨fun w' => w' = w2, ?_, ?_⟩
    · simp (disch := omega) only [SX, Nat.reduceAdd, h12, show ¬ (400 : Int) < (line.length : Int) by omega]
    rintro _ rfl
    rename_i w2
    refine CALL_of (dfa_New (h.ext e02) (by omega)) ?_
    rintro v w3 ⟨e3, hv⟩
    have e03 := e02.trans e3
    rcases hv with ⟨hfew, rfl⟩ | ⟨hfew, db, rfl, hd⟩
    · simp (disch := omega) only [SX, Nat.reduceAdd]
      refine CALL_of (sparse_New (h.ext e03) (by omega)) ?_
      rintro v w4 ⟨e4, sb, rfl, hs4⟩
      simp (disch := omega) only [SX, Nat.reduceAdd, show ¬ ((14 : Int) = 0) by decide]
      refine CALL_of (sparse_States hs4) ?_
      rintro v w5 ⟨rfl, rfl⟩
      simp (disch := omega) only [SX, Nat.reduceAdd, show (160 : Int) < ((trieM ls).length : Int) by omega]
      exact k _ _ ⟨rfl, e03.trans e4⟩
    · simp (disch := omega) only [SX, Nat.reduceAdd]
      refine CALL_of (sparse_New (h.ext e03) (by omega)) ?_
      rintro v w4 ⟨e4, sb, rfl, hs4⟩
      have e04 := e03.trans e4
      have z3 := e3.size
      have z4 := e4.size
      try simp (disch := omega) only [SX, Nat.reduceAdd]
      refine CALL_of (dfa_Scan (o := none) (hu := 0) (mo := 0) (s := 0) (l := 0) (hd.ext e4) (hlv.ext e04) (MeterAt.none _ _ _) (by omega) (by omega) (fun k hk => by cases hk) (by omega) (by omega)) ?_
      rintro xv w5 ⟨⟨r, hr, hrr, hmem, _⟩, _, _, c5⟩
      have e5 : Ext w4 w5 := c5.weaken fun i _ hi => by cases hi
      have e05 := e04.trans e5
      refine CALL_of (sparse_Scan (o := none) (hu := 0) (mo := 0) (s := 0) (l := 0) (hs4.ext e5) (hlv.ext e05) (MeterAt.none _ _ _) (by omega) (by omega) (fun k hk => by cases hk) (fun k hk => by cases hk) (by omega) (by omega)) ?_
      rintro yv w6 ⟨⟨r', hr', hrr', hmem', _⟩, _, _, c6⟩
      have e6 : Ext w5 w6 := c6.weaken fun i _ hi => by cases hi
      have hrr2 : r = r' := rising_ext hrr hrr' fun p => by rw [hmem, hmem']
      subst hrr2
      refine CALL_of (ref03_Same (hr.ext e6) hr') ?_
      rintro v w7 ⟨rfl, e7⟩
      have e47 := e5.trans (e6.trans e7)
      simp (disch := omega) only [SX, Nat.reduceAdd]
      refine CALL_of (dfa_Next' (hd.ext (e4.trans e47)) s c) ?_
      rintro v w8 ⟨rfl, e8⟩
      refine CALL_of (sparse_Step ((hs4.ext e47).ext e8) (by omega) s c) ?_
      rintro v w9 ⟨rfl, e9⟩
      have e49 := e47.trans (e8.trans e9)
      simp (disch := omega) only [SX, Nat.reduceAdd]
      refine CALL_of (dfa_States' (hd.ext (e4.trans e49))) ?_
      rintro v w10 ⟨rfl, rfl⟩
      refine CALL_of (sparse_States (hs4.ext e49)) ?_
      rintro v w10 ⟨rfl, rfl⟩
      simp (disch := omega) only [SX, Nat.reduceAdd]
      exact k _ _ ⟨rfl, e04.trans e49⟩
  · refine ⟨fun _ => False, ?_, fun _ h => h.elim⟩
    simp (disch := omega) only [SX, Nat.reduceAdd, h12]
    exact k _ _ ⟨rfl, e02⟩
end
end Go.Proofs.Ytopdjdkkhpkmiaa.Y
