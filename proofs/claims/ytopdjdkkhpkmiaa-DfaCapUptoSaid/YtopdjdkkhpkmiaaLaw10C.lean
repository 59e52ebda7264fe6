import Derived.Test.YtopdjdkkhpkmiaaLaw10B
set_option linter.unusedVariables false
set_option linter.unusedSimpArgs false
set_option maxRecDepth 8000
namespace Go.Proofs.Ytopdjdkkhpkmiaa.Y
open Go Go.Sx

/-- A byte that stands in no text leads to the root. -/
theorem delta_out {ls : List (List UInt8)} {c : UInt8} (h : inT ls c.toNat = false) (s : Int) : deltaM (trieM ls) s c = 0 := by
  have hT := trie_for ls
  unfold deltaM
  have hin := lsn_in hT.ok.pos (pathM (trieM ls) s ++ [c])
  have hsx := lsn_suffix hT.ok (pathM (trieM ls) s ++ [c])
  generalize lsn (trieM ls) (pathM (trieM ls) s ++ [c]) = x at *
  by_cases hz : x = 0
  · exact hz
  · exfalso
    have hf := find_of hT.ok hin.1 hin.2
    have hne := path_ne hT.ok (x := x) (by omega) hin.2
    rcases hT.node (pathM (trieM ls) x) (by rw [hf]; exact hin.1) with h0 | ⟨t, ht, q, hq⟩
    · exact hne h0
    · obtain ⟨r, hr⟩ := hsx
      have hmem : c ∈ t := by
        rcases List.eq_nil_or_concat (pathM (trieM ls) x) with h0 | ⟨q', d, hd⟩
        · exact (hne h0).elim
        · rw [List.concat_eq_append] at hd
          rw [hd, ← List.append_assoc] at hr
          have := congrArg List.getLast? hr
          simp at this
          subst this
          rw [← hq, hd]
          simp
      have : inT ls c.toNat = true := by unfold inT; rw [decide_eq_true_eq]; exact ⟨t, ht, c, hmem, rfl⟩
      rw [h] at this; cases this
theorem delta_in {ls : List (List UInt8)} (s : Int) (c : UInt8) : 0 ≤ deltaM (trieM ls) s c ∧ deltaM (trieM ls) s c < ((trieM ls).length : Int) := lsn_in (trie_for ls).ok.pos _
/-- Bytes of one class lead to one state. -/
theorem delta_cls {ls : List (List UInt8)} {a b : UInt8} (h : clsN (inT ls) a.toNat = clsN (inT ls) b.toNat) (s : Int) : deltaM (trieM ls) s a = deltaM (trieM ls) s b := by
  unfold clsN at h
  split at h
  · rename_i ha
    split at h
    · rename_i hb
      have : a = b := UInt8.toNat_inj.1 (rank_inj a.toNat_lt b.toNat_lt ha hb (by omega))
      rw [this]
    · omega
  · rename_i ha
    split at h
    · omega
    · rename_i hb
      rw [delta_out (by simpa using ha), delta_out (by simpa using hb)]

theorem sumL_le : ∀ (ls : List (List UInt8)) (m : Nat), (∀ t ∈ ls, t.length ≤ m) → sumL ls ≤ ls.length * m
  | [], _, _ => by simp [sumL]
  | b :: r, m, h => by
    have := sumL_le r m (fun t ht => h t (List.mem_cons_of_mem _ ht))
    have := h b (by simp)
    simp only [sumL, List.length_cons, Nat.add_mul]
    omega

section
variable {w : World}

theorem law10_DfaClasses {l : Value} {ls : List (List UInt8)} (h : SlT w l ls) (hlim : ls.length ≤ 2 ^ 40) (s : Int) (a b : UInt8) : RET Try.prog 3 [l, .int .i64 s, .int .u8 a.toNat, .int .u8 b.toNat] w fun v w' => v = .bool true ∧ Ext w w' := by
  refine RET_by fun R k => ?_
  apply by_seinelaw10_DfaClasses
  unfold sh_seinelaw10_DfaClasses
  refine CALL_of law10_awake ?_
  rintro v w1 ⟨rfl, e1⟩
  simp (disch := omega) only [SX, Nat.reduceAdd]
  refine CALL_of (law10_texts (h.ext e1) hlim) ?_
  rintro v w2 ⟨e2, hv⟩
  rcases hv with ⟨_, rfl⟩ | ⟨h40, out, n, rfl, _⟩
  · simp (disch := omega) only [SX, Nat.reduceAdd]
    exact k _ _ ⟨rfl, e1.trans e2⟩
  by_cases h12 : ls.length ≤ 12
  · have hsum := sumL_le ls 40 h40
    simp (disch := omega) only [SX, Nat.reduceAdd, h12]
    have e02 := e1.trans e2
    refine CALL_of (dfa_New (h.ext e02) (by omega)) ?_
    rintro v w3 ⟨e3, hv⟩
    rcases hv with ⟨_, rfl⟩ | ⟨hfew, db, rfl, hd⟩
    · simp (disch := omega) only [SX, Nat.reduceAdd, show ¬ ((14 : Int) = 0) by decide]
      exact k _ _ ⟨rfl, e02.trans e3⟩
    simp (disch := omega) only [SX, Nat.reduceAdd]
    have e03 := e02.trans e3
    refine CALL_of (classes_Of (h.ext e03)) ?_
    rintro v w4 ⟨rfl, e4⟩
    refine AL_33 fun w5 o5 e5 z5 => ?_
    refine STOREA SZ_33 (cls_len _) o5 (by rw [cls_len]; simp) (fun v hv => ?_) fun w6 o6 c6 z6 => ?_
    · unfold clsCells at hv
      simp [vI] at hv
      rcases hv with ⟨_, _, rfl⟩ | rfl <;> rfl
    rw [putAt_all _ _ (by rw [cls_len]; simp)] at o6
    have e36 : Ext w3 w6 := (e4.trans e5).ext_of c6 fun i hi => by have := e4.size; omega
    try simp (disch := omega) only [SX, Nat.reduceAdd]
    refine CALL_of (dfa_Next' (hd.ext e36) s a) ?_
    rintro v w7 ⟨rfl, e7⟩
    refine CALL_of (dfa_Next' ((hd.ext e36).ext e7) s b) ?_
    rintro v w8 ⟨rfl, e8⟩
    have hd8 := ((hd.ext e36).ext e7).ext e8
    have o8 := (o6.ext e7).ext e8
    have hc := cellsAt_whole o8 (cls_len _)
    have hcb := o8.lt
    have e08 := e03.trans (e36.trans (e7.trans e8))
    by_cases hin : 0 ≤ s ∧ s < (trieM ls).length
    · rw [if_pos hin, if_pos hin]
      refine ⟨fun w9 => w9 = w8, ?_, ?_⟩
      · have n0 : ¬ s < 0 := by omega
        have n1 : ¬ ((trieM ls).length : Int) ≤ s := by omega
        try simp (disch := omega) only [SX, Nat.reduceAdd, n0]
        refine CALL_of (dfa_States' hd8) ?_
        rintro v w9 ⟨rfl, rfl⟩
        try simp (disch := omega) only [SX, Nat.reduceAdd, n1]
      · rintro _ rfl
        rename_i w
        have hx := delta_in (ls := ls) s a
        have hzero : clsN (inT ls) a.toNat = 0 → deltaM (trieM ls) s a = 0 := fun hz => by
          refine delta_out ?_ s
          unfold clsN at hz
          split at hz
          · omega
          · rename_i hh; simpa using hh
        have hdd := hd8
        refine ⟨KP (fun _ => False) w, KP.refl _ _, ?_⟩
        refine (RKA_33 (X := fun _ => False) hc hcb (fun x => x) (KP.refl _ _)).mpr ?_
        refine (RKA_33 (X := fun _ => False) hc hcb (fun x => x) (KP.refl _ _)).mpr ?_
        refine CALL_of (classes_Class (inT ls) a) ?_
        rintro v w6 ⟨rfl, e6⟩
        have e6 : Ext w w6 := (Ext.drew _).trans e6
        refine KEEP (KP.of_ext e6) ?_
        refine CALL_of (classes_Class (inT ls) b) ?_
        rintro v w7 ⟨rfl, e7⟩
        have e7 : Ext w w7 := e6.trans e7
        refine KEEP (KP.of_ext e7) ?_
        by_cases hab : ((clsN (inT ls) a.toNat : Nat) : Int) = ((clsN (inT ls) b.toNat : Nat) : Int)
        · have hxy := delta_cls (ls := ls) (a := a) (b := b) (by omega) s
          try simp (disch := omega) only [SX, Nat.reduceAdd, hab, ← hxy]
          try simp (disch := omega) only [SX, Nat.reduceAdd]
          refine (RKA_33 (X := fun _ => False) hc hcb (fun x => x) (KP.of_ext e7)).mpr ?_
          refine CALL_of (classes_Class (inT ls) a) ?_
          rintro v w8 ⟨rfl, e8⟩
          refine KEEP (KP.of_ext (e7.trans e8)) ?_
          have e78 := e7.trans e8
          by_cases hz : ((clsN (inT ls) a.toNat : Nat) : Int) = 0
          · have hx0 := hzero (by omega)
            try simp (disch := omega) only [SX, Nat.reduceAdd, hz, hx0]
            rw [hx0] at hx
            have x0 : (0 : Int) ≤ 0 := hx.1
            have x1 : (0 : Int) < ((trieM ls).length : Int) := hx.2
            try simp (disch := omega) only [SX, Nat.reduceAdd, x0]
            refine CALL_of (dfa_States' (hdd.ext e78)) ?_
            rintro v wS ⟨rfl, rfl⟩
            refine KEEP (KP.of_ext e78) ?_
            try simp (disch := omega) only [SX, Nat.reduceAdd, x1]
            refine (RKA_33 (X := fun _ => False) hc hcb (fun x => x) (KP.of_ext e78)).mpr ?_
            refine CALL_of (dfa_Width' (hdd.ext e78)) ?_
            rintro v wT ⟨rfl, eT⟩
            refine KEEP (KP.of_ext (e78.trans eT)) ?_
            refine CALL_of (classes_Len (inT ls)) ?_
            rintro v wU ⟨rfl, eU⟩
            refine KEEP (KP.of_ext (e78.trans (eT.trans eU))) ?_
            rw [show ((setL (inT ls)).length + 1) = wideN (inT ls) from rfl]
            try simp (disch := omega) only [SX, Nat.reduceAdd]
            exact k _ _ ⟨rfl, e08.trans (e78.trans (eT.trans eU))⟩
          · try simp (disch := omega) only [SX, Nat.reduceAdd, hz]
            have x0 : 0 ≤ deltaM (trieM ls) s a := hx.1
            have x1 : deltaM (trieM ls) s a < ((trieM ls).length : Int) := hx.2
            try simp (disch := omega) only [SX, Nat.reduceAdd, x0]
            refine CALL_of (dfa_States' (hdd.ext e78)) ?_
            rintro v wS ⟨rfl, rfl⟩
            refine KEEP (KP.of_ext e78) ?_
            try simp (disch := omega) only [SX, Nat.reduceAdd, x1]
            refine (RKA_33 (X := fun _ => False) hc hcb (fun x => x) (KP.of_ext e78)).mpr ?_
            refine CALL_of (dfa_Width' (hdd.ext e78)) ?_
            rintro v wT ⟨rfl, eT⟩
            refine KEEP (KP.of_ext (e78.trans eT)) ?_
            refine CALL_of (classes_Len (inT ls)) ?_
            rintro v wU ⟨rfl, eU⟩
            refine KEEP (KP.of_ext (e78.trans (eT.trans eU))) ?_
            rw [show ((setL (inT ls)).length + 1) = wideN (inT ls) from rfl]
            try simp (disch := omega) only [SX, Nat.reduceAdd]
            exact k _ _ ⟨rfl, e08.trans (e78.trans (eT.trans eU))⟩
        · try simp (disch := omega) only [SX, Nat.reduceAdd, hab]
          try simp (disch := omega) only [SX, Nat.reduceAdd]
          refine (RKA_33 (X := fun _ => False) hc hcb (fun x => x) (KP.of_ext e7)).mpr ?_
          refine CALL_of (classes_Class (inT ls) a) ?_
          rintro v w8 ⟨rfl, e8⟩
          refine KEEP (KP.of_ext (e7.trans e8)) ?_
          have e78 := e7.trans e8
          by_cases hz : ((clsN (inT ls) a.toNat : Nat) : Int) = 0
          · have hx0 := hzero (by omega)
            try simp (disch := omega) only [SX, Nat.reduceAdd, hz, hx0]
            rw [hx0] at hx
            have x0 : (0 : Int) ≤ 0 := hx.1
            have x1 : (0 : Int) < ((trieM ls).length : Int) := hx.2
            try simp (disch := omega) only [SX, Nat.reduceAdd, x0]
            refine CALL_of (dfa_States' (hdd.ext e78)) ?_
            rintro v wS ⟨rfl, rfl⟩
            refine KEEP (KP.of_ext e78) ?_
            try simp (disch := omega) only [SX, Nat.reduceAdd, x1]
            refine (RKA_33 (X := fun _ => False) hc hcb (fun x => x) (KP.of_ext e78)).mpr ?_
            refine CALL_of (dfa_Width' (hdd.ext e78)) ?_
            rintro v wT ⟨rfl, eT⟩
            refine KEEP (KP.of_ext (e78.trans eT)) ?_
            refine CALL_of (classes_Len (inT ls)) ?_
            rintro v wU ⟨rfl, eU⟩
            refine KEEP (KP.of_ext (e78.trans (eT.trans eU))) ?_
            rw [show ((setL (inT ls)).length + 1) = wideN (inT ls) from rfl]
            try simp (disch := omega) only [SX, Nat.reduceAdd]
            exact k _ _ ⟨rfl, e08.trans (e78.trans (eT.trans eU))⟩
          · try simp (disch := omega) only [SX, Nat.reduceAdd, hz]
            have x0 : 0 ≤ deltaM (trieM ls) s a := hx.1
            have x1 : deltaM (trieM ls) s a < ((trieM ls).length : Int) := hx.2
            try simp (disch := omega) only [SX, Nat.reduceAdd, x0]
            refine CALL_of (dfa_States' (hdd.ext e78)) ?_
            rintro v wS ⟨rfl, rfl⟩
            refine KEEP (KP.of_ext e78) ?_
            try simp (disch := omega) only [SX, Nat.reduceAdd, x1]
            refine (RKA_33 (X := fun _ => False) hc hcb (fun x => x) (KP.of_ext e78)).mpr ?_
            refine CALL_of (dfa_Width' (hdd.ext e78)) ?_
            rintro v wT ⟨rfl, eT⟩
            refine KEEP (KP.of_ext (e78.trans eT)) ?_
            refine CALL_of (classes_Len (inT ls)) ?_
            rintro v wU ⟨rfl, eU⟩
            refine KEEP (KP.of_ext (e78.trans (eT.trans eU))) ?_
            rw [show ((setL (inT ls)).length + 1) = wideN (inT ls) from rfl]
            try simp (disch := omega) only [SX, Nat.reduceAdd]
            exact k _ _ ⟨rfl, e08.trans (e78.trans (eT.trans eU))⟩
    · rw [if_neg hin, if_neg hin]
      refine ⟨fun w9 => False, ?_, fun _ hf => hf.elim⟩
      by_cases n0 : s < 0
      · try simp (disch := omega) only [SX, Nat.reduceAdd, n0]
        exact k _ _ ⟨rfl, e08⟩
      · have n1 : ((trieM ls).length : Int) ≤ s := by omega
        try simp (disch := omega) only [SX, Nat.reduceAdd, n0]
        refine CALL_of (dfa_States' hd8) ?_
        rintro v w9 ⟨rfl, rfl⟩
        try simp (disch := omega) only [SX, Nat.reduceAdd, n1]
        exact k _ _ ⟨rfl, e08⟩
  · simp (disch := omega) only [SX, Nat.reduceAdd, h12]
    exact k _ _ ⟨rfl, e1.trans e2⟩
end
end Go.Proofs.Ytopdjdkkhpkmiaa.Y
