import Derived.Test.YtopdjdkkhpkmiaaLaw10
set_option linter.unusedVariables false
set_option linter.unusedSimpArgs false
set_option maxRecDepth 8000
namespace Go.Proofs.Ytopdjdkkhpkmiaa.Y
open Go Go.Sx

def exLs : List (List UInt8) := [[104, 101], [115, 104, 101]]
theorem ex_len : (trieM exLs).length = 6 := by decide
theorem ex_wide : wideN (inT exLs) = 4 := by kernel_rfl
theorem ex_found : foundM (trieM exLs) [117, 115, 104, 101] 4 = [(1, 4), (2, 4)] := by kernel_rfl
theorem ex_next0 : deltaM (trieM exLs) 0 115 = 3 := by kernel_rfl
theorem ex_next5 : deltaM (trieM exLs) 5 120 = 0 := by kernel_rfl
theorem ex_sum : sumL exLs + 1 ≤ 2 ^ 31 := by decide

section
variable {w : World}

theorem dfa_Next' {lo hi b : Nat} {ls : List (List UInt8)} (h : IsDfa w lo hi b ls) (s : Int) (c : UInt8) : RET Try.prog 13 [.pointer (some ⟨b, 0, none⟩), .int .i64 s, .int .u8 c.toNat] w fun v w' => v = .int .i64 (if 0 ≤ s ∧ s < (trieM ls).length then deltaM (trieM ls) s c else -1) ∧ Ext w w' := by
  obtain ⟨N, h, hr⟩ := h
  exact dfa_Next h hr s c
theorem dfa_States' {lo hi b : Nat} {ls : List (List UInt8)} (h : IsDfa w lo hi b ls) : RET Try.prog 14 [.pointer (some ⟨b, 0, none⟩)] w fun v w' => v = .int .i64 (trieM ls).length ∧ w' = w := by
  obtain ⟨N, h, hr⟩ := h
  exact dfa_States h
theorem dfa_Width' {lo hi b : Nat} {ls : List (List UInt8)} (h : IsDfa w lo hi b ls) : RET Try.prog 16 [.pointer (some ⟨b, 0, none⟩)] w fun v w' => v = .int .i64 (wideN (inT ls)) ∧ Ext w w' := by
  obtain ⟨N, h, hr⟩ := h
  exact dfa_Width h

/-- Two texts in a slice. -/
theorem slT_two {w : World} {g : Nat} {v1 v2 : Value} {l1 l2 : List UInt8} (ho : Own w g [v1, v2] 42) (h1 : SlB w v1 l1) (h2 : SlB w v2 l2) : SlT w (.slice (some ⟨g, 0, none⟩) 2 2) [l1, l2] := by
  refine ⟨_, 2, [v1, v2], rfl, Rd.own ho 0 (fun i v hv => by simpa using hv), rfl, by simp, by simp, fun i h h' => ?_⟩
  match i, h with
  | 0, _ => exact h1
  | 1, _ => exact h2

theorem law10_awake : RET Try.prog 9 [] w fun v w' => v = .bool true ∧ Ext w w' := by
  refine RET_by fun R k => ?_
  apply by_seinelaw10_awake
  unfold sh_seinelaw10_awake
  refine LIT (n := 2) (e := 5) [104, 101] (by kernel_rfl) Try.underlying42 Try.underlying5 rfl (by decide) fun w1 s1 e1 z1 => ?_
  refine LIT (n := 3) (e := 5) [115, 104, 101] (by kernel_rfl) Try.underlying42 Try.underlying5 rfl (by decide) fun w2 s2 e2 z2 => ?_
  refine BS_22_2 fun w3 o3 e3 z3 => ?_
  have hls : SlT w3 (.slice (some ⟨w2.heap.size, 0, none⟩) 2 2) exLs := slT_two o3 (s1.ext (e2.trans e3)) (s2.ext e3)
  have e03 := e1.trans (e2.trans e3)
  refine CALL_of (dfa_New hls ex_sum) ?_
  rintro v w4 ⟨e4, hv | hv⟩
  · rw [ex_len] at hv; omega
  obtain ⟨_, b, rfl, hd⟩ := hv
  simp (disch := omega) only [SX, Nat.reduceAdd]
  refine CALL_of meter_New ?_
  rintro v w5 ⟨rfl, hm5, e5⟩
  have hd5 := hd.ext e5
  refine LIT (n := 4) (e := 5) [117, 115, 104, 101] (by kernel_rfl) Try.underlying42 Try.underlying5 rfl (by decide) fun w6 s6 e6 z6 => ?_
  have z5 := e5.size
  refine CALL_of (dfa_Scan (hd5.ext e6) s6 (hm5.ext e6) (by omega) (by omega) (fun k hk => by injection hk with hk; omega) (by omega) (by decide)) ?_
  rintro xv w7 ⟨⟨r, hr, hrr, hmem, _⟩, hfr, hm7, c7⟩
  have hre : r = [(1, 4), (2, 4)] := by
    refine rising_ext hrr (by unfold Rising; simp [ltP]) fun p => ?_
    rw [hmem p]
    rw [show ([117, 115, 104, 101] : List UInt8).length = 4 from rfl, ex_found]
  subst hre
  have e07 : Ext w w7 := (e03.trans (e4.trans (e5.trans e6))).ext_of c7 fun i hi => by injection hi with hi; have := e03.size; have := e4.size; omega
  have hd7 : IsDfa w7 w3.heap.size w4.heap.size b exLs := (hd5.ext e6).chg c7 fun i hi => by injection hi with hi; omega
  try simp (disch := omega) only [SX, Nat.reduceAdd]
  refine CALL_of (dfa_States' hd7) ?_
  rintro v w8 ⟨rfl, rfl⟩
  rw [ex_len]
  simp (disch := omega) only [SX, Nat.reduceAdd, show (((6 : Nat) : Int) = 6) = True from eq_true rfl]
  refine CALL_of (dfa_Width' hd7) ?_
  rintro v w9 ⟨rfl, e9⟩
  rw [ex_wide]
  simp (disch := omega) only [SX, Nat.reduceAdd, show (((4 : Nat) : Int) = 4) = True from eq_true rfl]
  refine BS_49_2 fun w10 o10 e10 z10 => ?_
  refine CALL_of (ref03_Same (hr.ext (e9.trans e10)) (show SlG pcells w10 (.slice (some ⟨w9.heap.size, 0, none⟩) 2 2) [(1, 4), (2, 4)] from ⟨_, 2, rfl, Rd.own o10 0 (fun i v hv => by simpa [pcells] using hv), by simp, by simp⟩)) ?_
  rintro v w11 ⟨rfl, e11⟩
  have e711 := e9.trans (e10.trans e11)
  simp (disch := omega) only [SX, Nat.reduceAdd]
  refine CALL_of (meter_Counts (hm7.ext e711)) ?_
  rintro v w12 ⟨rfl, e12⟩
  have hc4 : (0 : Int) + (([117, 115, 104, 101] : List UInt8).length : Nat) = 4 := rfl
  simp only [hc4]
  have hd12 := hd7.ext (e711.trans e12)
  simp (disch := omega) only [SX, Nat.reduceAdd]
  refine CALL_of (dfa_Next' hd12 0 115) ?_
  rintro v w13 ⟨rfl, e13⟩
  rw [if_pos (by rw [ex_len]; omega), ex_next0]
  simp (disch := omega) only [SX, Nat.reduceAdd]
  refine CALL_of (dfa_Next' (hd12.ext e13) 5 120) ?_
  rintro v w14 ⟨rfl, e14⟩
  rw [if_pos (by rw [ex_len]; omega), ex_next5]
  simp (disch := omega) only [SX, Nat.reduceAdd]
  exact k _ _ ⟨rfl, e07.trans (e711.trans (e12.trans (e13.trans e14)))⟩
end
end Go.Proofs.Ytopdjdkkhpkmiaa.Y
