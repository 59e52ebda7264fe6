import Derived.Test.YtopdjdkkhpkmiaaTwoC
import Derived.Test.YtopdjdkkhpkmiaaSparseB
import Derived.Test.YtopdjdkkhpkmiaaLaw10
set_option linter.unusedVariables false
set_option linter.unusedSimpArgs false
set_option maxRecDepth 8000
namespace Go.Proofs.Ytopdjdkkhpkmiaa.Y
open Go Go.Sx

section
variable {w : World}

theorem law13_awake : RET Try.prog 27 [] w fun v w' => v = .bool true ∧ Ext w w' := by
  refine RET_by fun R k => ?_
  apply by_seinelaw13_awake
  unfold sh_seinelaw13_awake
  refine LIT (n := 2) (e := 5) [97, 97] (by kernel_rfl) Try.underlying42 Try.underlying5 rfl (by decide) fun w1 s1 e1 z1 => ?_
  refine CALL_of (twoway_New s1 (by decide) (by decide)) ?_
  rintro v w2 ⟨⟨b, cut, per, sm, rfl, ht⟩, e2⟩
  simp (disch := omega) only [SX, Nat.reduceAdd]
  refine CALL_of (twoway_New_nil (w := w2) (bv := .slice none 0 0) ⟨none, 0, rfl, .inl rfl, Nat.le_refl _, by simp⟩) ?_
  rintro v w3 ⟨rfl, e3⟩
  simp (disch := omega) only [SX, Nat.reduceAdd]
  refine LIT (n := 3) (e := 5) [97, 97, 97] (by kernel_rfl) Try.underlying42 Try.underlying5 rfl (by decide) fun w4 s4 e4 z4 => ?_
  have ht4 := ht.ext (e3.trans e4)
  refine CALL_of (twoway_Scan ht4 s4 (by decide)) ?_
  rintro xv w5 ⟨hx, _, e5⟩
  have hoc : occs [97, 97] [97, 97, 97] (([97, 97, 97] : List UInt8).length + 1) = [(0, 2), (1, 3)] := by kernel_rfl
  rw [hoc] at hx
  obtain ⟨bx, ox, cx, hv, hcell⟩ := hx.at pcells_len (by omega) (i := 1) (by decide)
  have c0 := hcell 0 (by omega) _ rfl
  have c1 := hcell 1 (by omega) _ rfl
  rw [hv]
  have h1 : (1 : Int).toNat = 1 := rfl
  have hl2 : ((([(0, 2), (1, 3)] : List (Int × Int)).length : Nat) : Int) = 2 := rfl
  have g0 : (([(0, 2), (1, 3)] : List (Int × Int))[1].1) = 1 := rfl
  have g1 : (([(0, 2), (1, 3)] : List (Int × Int))[1].2) = 3 := rfl
  simp (disch := omega) only [SX, Nat.reduceAdd, hl2, h1, LD_3 c0, LD_3 c1, g0, g1]
  refine LIT (n := 3) (e := 5) [97, 97, 97] (by kernel_rfl) Try.underlying42 Try.underlying5 rfl (by decide) fun w6 s6 e6 z6 => ?_
  have ht6 := ht4.ext (e5.trans e6)
  have hocc : occF [97, 97] [97, 97, 97] 1 := occB_iff.1 (by kernel_rfl)
  refine CALL_of (twoway_Next ht6 s6 (by decide) 1) ?_
  rintro v w7 ⟨hv7, e7⟩
  have hv7 : v = .int .i64 1 := by
    rcases hv7 with ⟨a, rfl, h1, h2, h3⟩ | ⟨rfl, h3⟩
    · by_cases ha : a = 1
      · subst ha; rfl
      · exact (h3 1 (by omega) (by omega) hocc).elim
    · exact (h3 1 (by omega) hocc).elim
  subst hv7
  simp (disch := omega) only [SX, Nat.reduceAdd]
  refine LIT (n := 3) (e := 5) [97, 97, 97] (by kernel_rfl) Try.underlying42 Try.underlying5 rfl (by decide) fun w8 s8 e8 z8 => ?_
  refine CALL_of (twoway_Next (ht6.ext (e7.trans e8)) s8 (by decide) 2) ?_
  rintro v w9 ⟨hv9, e9⟩
  have hv9 : v = .int .i64 (-1) := by
    rcases hv9 with ⟨a, rfl, h1, h2, h3⟩ | ⟨rfl, h3⟩
    · have := h2.1
      simp only [List.length_cons, List.length_nil] at this
      omega
    · rfl
  subst hv9
  simp (disch := omega) only [SX, Nat.reduceAdd]
  exact k _ _ ⟨rfl, e1.trans (e2.trans (e3.trans (e4.trans (e5.trans (e6.trans (e7.trans (e8.trans e9)))))))⟩

theorem law13_few {bv lv : Value} {b line : List UInt8} (hb : SlB w bv b) (hl : SlB w lv line) : RET Try.prog 28 [bv, lv] w fun v w' => v = .bool (decide (b.length ≤ 100 ∧ line.length ≤ 300)) ∧ w' = w := by
  obtain ⟨A, c, rfl⟩ := hb.shape
  obtain ⟨A', c', rfl⟩ := hl.shape
  refine RET_by fun R k => ?_
  apply by_seinelaw13_few
  unfold sh_seinelaw13_few
  by_cases h1 : b.length ≤ 100
  · simp (disch := omega) only [SX, Nat.reduceAdd, show (b.length : Int) ≤ 100 by omega]
    refine k _ _ ⟨?_, rfl⟩
    congr 1
    rw [decide_eq_decide]
    omega
  · simp (disch := omega) only [SX, Nat.reduceAdd, show ¬ (b.length : Int) ≤ 100 by omega]
    refine k _ _ ⟨?_, rfl⟩
    simp [h1]

theorem slT_one {g : Nat} {v1 : Value} {l1 : List UInt8} (ho : Own w g [v1] 42) (h1 : SlB w v1 l1) : SlT w (.slice (some ⟨g, 0, none⟩) 1 1) [l1] := by
  refine ⟨_, 1, [v1], rfl, Rd.own ho 0 (fun i v hv => by simpa using hv), rfl, by simp, by simp, fun i h h' => ?_⟩
  match i, h with
  | 0, _ => exact h1

theorem law13_TwowaySparse {bv lv : Value} {b line : List UInt8} (hb : SlB w bv b) (hl : SlB w lv line) : RET Try.prog 6 [bv, lv] w fun v w' => v = .bool true ∧ Ext w w' := by
  have hb' := hb
  obtain ⟨A, c, rfl⟩ := hb.shape
  refine RET_by fun R k => ?_
  apply by_seinelaw13_TwowaySparse
  unfold sh_seinelaw13_TwowaySparse
  refine CALL_of law13_awake ?_
  rintro v w1 ⟨rfl, e1⟩
  simp (disch := omega) only [SX, Nat.reduceAdd]
  refine CALL_of (law13_few (hb'.ext e1) (hl.ext e1)) ?_
  rintro v w2 ⟨rfl, rfl⟩
  by_cases hs : b.length ≤ 100 ∧ line.length ≤ 300
  · by_cases h0 : b = []
    · refine ⟨fun _ => False, ?_, fun _ h => h.elim⟩
      have : ((b.length : Nat) : Int) = 0 := by rw [h0]; rfl
      simp (disch := omega) only [SX, Nat.reduceAdd, hs, and_self, this]
      exact k _ _ ⟨rfl, e1⟩
    have hpos : 0 < b.length := List.length_pos_iff.2 h0
    refine ⟨fun w' => w' = w2, ?_, ?_⟩
    · simp (disch := omega) only [SX, Nat.reduceAdd, hs, and_self, show ¬ ((b.length : Nat) : Int) = 0 by omega]
    rintro _ rfl
    rename_i w2
    refine CALL_of (twoway_New (hb'.ext e1) h0 (by omega)) ?_
    rintro v w3 ⟨⟨tb, cut, per, sm, rfl, ht⟩, e3⟩
    simp (disch := omega) only [SX, Nat.reduceAdd]
    have e03 := e1.trans e3
    refine CALL_of (twoway_Scan ht (hl.ext e03) (by omega)) ?_
    rintro xv w4 ⟨hx, _, e4⟩
    refine BS_22_1 fun w5 o5 e5 z5 => ?_
    have e05 := e03.trans (e4.trans e5)
    refine CALL_of (sparse_New (slT_one o5 (hb'.ext e05)) (by simp only [sumL]; omega)) ?_
    rintro v w6 ⟨e6, sb, rfl, hs6⟩
    have z5 := e05.size
    have hTl := trie_len [b]
    simp only [sumL] at hTl
    refine CALL_of (sparse_Scan (o := none) (hu := 0) (mo := 0) (s := 0) (l := 0) hs6 (hl.ext (e05.trans e6)) (MeterAt.none _ _ _) (by omega) (by omega) (fun k hk => by cases hk) (fun k hk => by cases hk) (by omega) (by omega)) ?_
    rintro yv w7 ⟨⟨r, hr, hrr, hmem, _⟩, _, _, c7⟩
    have e7 : Ext w6 w7 := c7.weaken fun i _ hi => by cases hi
    have hrr2 : occs b line (line.length + 1) = r := rising_ext (occs_rising _ _) hrr fun p => by rw [hmem, found_iff, occs_mem h0]
    subst hrr2
    refine CALL_of (ref03_Same (hx.ext (e5.trans (e6.trans e7))) hr) ?_
    rintro v w8 ⟨rfl, e8⟩
    exact k _ _ ⟨by simp, e05.trans (e6.trans (e7.trans e8))⟩
  · refine ⟨fun _ => False, ?_, fun _ h => h.elim⟩
    simp (disch := omega) only [SX, Nat.reduceAdd, hs]
    exact k _ _ ⟨rfl, e1⟩
end
end Go.Proofs.Ytopdjdkkhpkmiaa.Y
