import Derived.Test.YtopdjdkkhpkmiaaRefsB
import Derived.Test.YtopdjdkkhpkmiaaClasses
set_option linter.unusedVariables false
set_option linter.unusedSimpArgs false
set_option linter.unusedVariables false
set_option linter.unusedSimpArgs false
set_option maxRecDepth 8000
namespace Go.Proofs.Ytopdjdkkhpkmiaa.Y
open Go Go.Sx

section
variable {w : World}

theorem STR_index {K : Value → Prop} {a : List UInt8} {i : Nat} (hi : i < a.length) : PURE Try.prog (Instr.index 9 (strV a) (.int .i64 i)) K = K (.int .u8 (a[i].toNat : Nat)) := by
  unfold strV
  rw [SX_9 (by omega) (by simp [ByteArray.size]; omega)]
  simp [List.getD, hi]

theorem ref01_In (a : List UInt8) (ha : a.length ≤ 2 ^ 40) (c : UInt8) : RET Try.prog 80 [strV a, .int .u8 c.toNat] w fun r w' => r = .bool (decide (c ∈ a)) ∧ w' = w := by
  refine RET_by fun R k => ?_
  apply by_seineref01_In
  unfold sh_seineref01_In
  refine ⟨fun iv w1 => ∃ i : Nat, iv = .int .i64 i ∧ w1 = w ∧ i ≤ a.length ∧ c ∉ a.take i, fun iv _ => a.length - vnat iv, ⟨0, rfl, rfl, Nat.zero_le _, by simp⟩, ?_⟩
  rintro iv w ⟨i, rfl, rfl, hi, hn⟩
  rw [STR_len]
  by_cases hlt : i < a.length
  · have hlt' : (i : Int) < ((a.length : Nat) : Int) := by omega
    simp (disch := omega) only [SX, Nat.reduceAdd, hlt']
    rw [STR_index hlt]
    by_cases he : a[i] = c
    · have he' : (((a[i].toNat : Nat) : Int) = ((c.toNat : Nat) : Int)) = True := eq_true (by rw [he])
      simp (disch := omega) only [SX, Nat.reduceAdd, he']
      refine k _ _ ⟨?_, rfl⟩
      have : c ∈ a := by rw [← he]; exact List.getElem_mem hlt
      simp [this]
    · have he' : (((a[i].toNat : Nat) : Int) = ((c.toNat : Nat) : Int)) = False := eq_false (fun h => he (UInt8.toNat_inj.1 (by omega)))
      simp (disch := omega) only [SX, Nat.reduceAdd, he']
      refine ⟨⟨i + 1, by simp, by trivial, by omega, ?_⟩, by simp only [vnat_int]; omega⟩
      rw [List.take_succ_eq_append_getElem hlt]
      intro hm
      rcases List.mem_append.1 hm with hm | hm
      · exact hn hm
      · simp only [List.mem_singleton] at hm
        exact he hm.symm
  · have hlt' : ¬ (i : Int) < ((a.length : Nat) : Int) := by omega
    simp (disch := omega) only [SX, Nat.reduceAdd, hlt']
    refine k _ _ ⟨?_, rfl⟩
    rw [List.take_of_length_le (by omega)] at hn
    simp [hn]

theorem slB_one {w : World} {g : Nat} {c : UInt8} (ho : Own w g [.int .u8 (c.toNat : Nat)] 5) : SlB w (.slice (some ⟨g, 0, none⟩) 1 1) [c] :=
  ⟨_, 1, rfl, Rd.own ho 0 (fun i v hv => by simpa [vB] using hv), by simp, by simp⟩

def inB (a : List UInt8) (x : Nat) : Bool := decide (∃ c ∈ a, x = c.toNat)

theorem ref01_List (a : List UInt8) (ha : a.length ≤ 2 ^ 39) : RET Try.prog 47 [strV a] w fun r w' => r = strV (setL (inB a)) ∧ Ext w w' := by
  refine RET_by fun R k => ?_
  apply by_seineref01_List
  unfold sh_seineref01_List
  refine ⟨fun out iv w1 => ∃ i : Nat, iv = .int .i64 i ∧ i ≤ 256 ∧ out = strV (((List.range i).filter (inB a)).map UInt8.ofNat) ∧ Ext w w1, fun _ iv _ => 256 - vnat iv, ⟨0, rfl, by omega, rfl, Ext.refl w⟩, ?_⟩
  rintro out iv w1 ⟨i, rfl, hi, rfl, he⟩
  by_cases hlt : i < 256
  · have hlt' : (i : Int) < 256 := by omega
    have hc : ((UInt8.ofNat i).toNat : Int) = i := by simp [UInt8.toNat_ofNat]; omega
    have hcn : (UInt8.ofNat i).toNat = i := by omega
    have hw : IntKind.u8.wrap (i : Int) = ((UInt8.ofNat i).toNat : Int) := by rw [hc]; exact wu8 (by omega) (by omega)
    have hll : (((List.range i).filter (inB a)).map UInt8.ofNat).length ≤ 256 := by
      rw [List.length_map]
      refine Nat.le_trans (List.length_filter_le _ _) (by simp; omega)
    simp (disch := omega) only [SX, Nat.reduceAdd, hlt', hw]
    refine CALL_of (ref01_In a (by omega) (UInt8.ofNat i)) ?_
    rintro v w2 ⟨rfl, rfl⟩
    have hin : decide (UInt8.ofNat i ∈ a) = inB a i := by
      unfold inB
      rw [decide_eq_decide]
      constructor
      · intro h; exact ⟨_, h, by omega⟩
      · rintro ⟨c, h1, h2⟩
        have : UInt8.ofNat i = c := UInt8.toNat_inj.1 (by omega)
        rw [this]; exact h1
    rw [hin]
    have hstep : ((List.range (i + 1)).filter (inB a)).map UInt8.ofNat = ((List.range i).filter (inB a)).map UInt8.ofNat ++ (if inB a i then [UInt8.ofNat i] else []) := by
      rw [List.range_succ, List.filter_append, List.map_append]
      cases h : inB a i <;> simp [h]
    cases hb : inB a i with
    | true =>
      rw [hb, if_pos rfl] at hstep
      simp (disch := omega) only [SX, Nat.reduceAdd, hw]
      refine BS_42_1 fun w3 o3 e3 z3 => ?_
      rw [hc] at o3
      rw [show ((i : Nat) : Int) = (((UInt8.ofNat i).toNat : Nat) : Int) by omega] at o3
      refine (STR Try.underlying42 Try.underlying5 Try.underlying9 (slB_one o3)).mpr ?_
      refine (STR_add (b := [UInt8.ofNat i]) (by simp only [List.length_cons, List.length_nil]; omega)).mpr ?_
      try simp (disch := omega) only [SX, Nat.reduceAdd]
      exact ⟨⟨i + 1, by simp, by omega, by rw [hstep], he.trans e3⟩, by simp only [vnat_int]; omega⟩
    | false =>
      rw [hb] at hstep
      simp only [Bool.false_eq_true, if_false, List.append_nil] at hstep
      simp (disch := omega) only [SX, Nat.reduceAdd]
      exact ⟨⟨i + 1, by simp, by omega, by rw [hstep], he⟩, by simp only [vnat_int]; omega⟩
  · have hlt' : ¬ (i : Int) < 256 := by omega
    obtain rfl : i = 256 := by omega
    simp (disch := omega) only [SX, Nat.reduceAdd, hlt']
    exact k _ _ ⟨rfl, he⟩

/-- All texts, one behind the other. -/
def allM : List (List UInt8) → List UInt8
  | [] => []
  | t :: r => t ++ allM r
theorem allM_app (l m : List (List UInt8)) : allM (l ++ m) = allM l ++ allM m := by
  induction l with
  | nil => rfl
  | cons t l ih => simp [allM, ih]
theorem allM_mem (c : UInt8) (l : List (List UInt8)) : c ∈ allM l ↔ ∃ t ∈ l, c ∈ t := by
  induction l with
  | nil => simp [allM]
  | cons t l ih => simp [allM, ih]
theorem allM_len (l : List (List UInt8)) : (allM l).length = sumL l := by
  induction l with
  | nil => rfl
  | cons t l ih => simp [allM, sumL, ih]
theorem sumL_app (l m : List (List UInt8)) : sumL (l ++ m) = sumL l + sumL m := by
  induction l with
  | nil => simp [sumL]
  | cons t l ih => simp [sumL, ih]; omega

theorem ref09_All {v : Value} {ls : List (List UInt8)} (h : SlG sCells w v ls) (hs : sumL ls ≤ 2 ^ 39) : RET Try.prog 48 [v] w fun r w' => r = strV (allM ls) ∧ w' = w := by
  have hl := h.len
  obtain ⟨A, c, rfl⟩ := h.shape
  refine RET_by fun R k => ?_
  apply by_seineref09_All
  unfold sh_seineref09_All
  refine ⟨fun out iv w1 => ∃ i : Nat, iv = .int .i64 i ∧ w1 = w ∧ i ≤ ls.length ∧ out = strV (allM (ls.take i)), fun _ iv _ => ls.length - vnat iv, ⟨0, rfl, rfl, Nat.zero_le _, rfl⟩, ?_⟩
  rintro out iv w ⟨i, rfl, rfl, hi, rfl⟩
  by_cases hlt : i < ls.length
  · have hlt' : (i : Int) < ((ls.length : Nat) : Int) := by omega
    obtain ⟨b, o, c', hv, hc⟩ := slS_at h hlt
    injection hv with hA _ hcc
    subst hA hcc
    have htk : ls.take (i + 1) = ls.take i ++ [ls[i]] := List.take_succ_eq_append_getElem hlt
    have hsum : sumL (ls.take (i + 1)) ≤ sumL ls := by
      have : ls = ls.take (i + 1) ++ ls.drop (i + 1) := (List.take_append_drop _ _).symm
      have h2 := congrArg sumL this
      rw [sumL_app] at h2
      omega
    have hal := allM_len (ls.take i)
    rw [htk, sumL_app] at hsum
    simp only [sumL] at hsum
    simp (disch := omega) only [SX, Nat.reduceAdd, hlt', LD_9 hc]
    refine (STR_add (by omega)).mpr ?_
    try simp (disch := omega) only [SX, Nat.reduceAdd]
    exact ⟨⟨i + 1, by simp, by trivial, by omega, by rw [htk, allM_app]; simp [allM]⟩, by simp only [vnat_int]; omega⟩
  · have hlt' : ¬ (i : Int) < ((ls.length : Nat) : Int) := by omega
    simp (disch := omega) only [SX, Nat.reduceAdd, hlt']
    rw [List.take_of_length_le (by omega)]
    exact k _ _ ⟨rfl, rfl⟩

theorem ref09_Len {v : Value} {ls : List (List UInt8)} (h : SlG sCells w v ls) (hs : sumL ls ≤ 2 ^ 39) : RET Try.prog 19 [v] w fun r w' => r = .int .i64 ((setL (inT ls)).length + 1 : Nat) ∧ Ext w w' := by
  refine RET_by fun R k => ?_
  apply by_seineref09_Len
  unfold sh_seineref09_Len
  refine CALL_of (ref09_All h hs) ?_
  rintro v w1 ⟨rfl, rfl⟩
  refine CALL_of (ref01_List (allM ls) (by rw [allM_len]; exact hs)) ?_
  rintro v w2 ⟨rfl, e2⟩
  have hset : setL (inB (allM ls)) = setL (inT ls) := by
    have : inB (allM ls) = inT ls := by
      funext x
      unfold inB inT
      rw [decide_eq_decide]
      have hm := fun c => allM_mem c ls
      constructor
      · rintro ⟨c, h1, h2⟩
        obtain ⟨t, h3, h4⟩ := (hm c).1 h1
        exact ⟨t, h3, c, h4, h2⟩
      · rintro ⟨t, h3, c, h4, h2⟩
        exact ⟨c, (hm c).2 ⟨t, h3, h4⟩, h2⟩
    rw [this]
  rw [hset, STR_len]
  have := setL_len (inT ls)
  simp (disch := omega) only [SX, Nat.reduceAdd]
  refine k _ _ ⟨?_, e2⟩

  congr 1
  omega
end
end Go.Proofs.Ytopdjdkkhpkmiaa.Y
