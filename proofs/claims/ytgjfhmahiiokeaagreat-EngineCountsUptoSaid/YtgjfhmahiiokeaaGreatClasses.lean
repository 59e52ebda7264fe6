import Derived.Test.YtgjfhmahiiokeaaGreatFold
set_option linter.unusedVariables false
set_option linter.unusedSimpArgs false
set_option linter.unusedVariables false
set_option linter.unusedSimpArgs false
set_option maxRecDepth 8000
namespace Go.Proofs.YtgjfhmahiiokeaaGreat.Y
open Go Go.Sx

/-! ### Classes of bytes -/
def inT (ls : List (List UInt8)) (x : Nat) : Bool := decide (∃ t ∈ ls, ∃ c ∈ t, x = c.toNat)
def rankN (S : Nat → Bool) (c : Nat) : Nat := ((List.range c).filter S).length
def clsN (S : Nat → Bool) (c : Nat) : Nat := if S c then rankN S c + 1 else 0
def clsCells (S : Nat → Bool) : List Value := ((List.range 256).map fun c => vI (clsN S c)) ++ [vI (setL S).length]

theorem get_rank (S : Nat → Bool) (j b : Nat) : ∀ n, ((List.range n).filter S)[j]? = some b ↔ b < n ∧ S b = true ∧ rankN S b = j := by
  intro n
  induction n with
  | zero => simp
  | succ n ih =>
    rw [List.range_succ, List.filter_append]
    by_cases hj : j < ((List.range n).filter S).length
    · rw [List.getElem?_append_left hj, ih]
      constructor
      · rintro ⟨h1, h2⟩; exact ⟨by omega, h2⟩
      · rintro ⟨h1, h2, h3⟩
        refine ⟨?_, h2, h3⟩
        by_cases e : b = n
        · subst e; unfold rankN at h3; omega
        · omega
    · rw [List.getElem?_append_right (by omega)]
      by_cases hs : S n = true
      · simp only [List.filter_cons, hs, if_true, List.filter_nil]
        constructor
        · intro h
          have hz : j - ((List.range n).filter S).length = 0 := by
            have := (List.getElem?_eq_some_iff.1 h).1
            simp at this
            omega
          rw [hz] at h
          simp at h
          subst h
          exact ⟨by omega, hs, by unfold rankN; omega⟩
        · rintro ⟨h1, h2, h3⟩
          have e : b = n := by
            by_cases e : b = n
            · exact e
            · have : ((List.range n).filter S)[j]? = some b := ih.2 ⟨by omega, h2, h3⟩
              have := (List.getElem?_eq_some_iff.1 this).1
              omega
          subst e
          have : j - ((List.range b).filter S).length = 0 := by unfold rankN at h3; omega
          rw [this]; rfl
      · have hs' : S n = false := by simpa using hs
        simp only [List.filter_cons, hs', List.filter_nil]
        simp only [Bool.false_eq_true, if_false, List.getElem?_nil, reduceCtorEq, false_iff]
        rintro ⟨h1, h2, h3⟩
        have hbn : b ≠ n := by rintro rfl; exact hs h2
        have : ((List.range n).filter S)[j]? = some b := ih.2 ⟨by omega, h2, h3⟩
        have := (List.getElem?_eq_some_iff.1 this).1
        omega

theorem setL_len (S : Nat → Bool) : (setL S).length ≤ 256 := by
  unfold setL
  rw [List.length_map]
  refine Nat.le_trans (List.length_filter_le _ _) (by simp)
theorem setL_get {S : Nat → Bool} {j : Nat} (hj : j < (setL S).length) : (setL S)[j].toNat < 256 ∧ S (setL S)[j].toNat = true ∧ rankN S (setL S)[j].toNat = j := by
  have hj' : j < ((List.range 256).filter S).length := by simpa [setL] using hj
  have h := (get_rank S j _ 256).1 (List.getElem?_eq_getElem hj')
  have e : (setL S)[j].toNat = ((List.range 256).filter S)[j] := by
    simp only [setL, List.getElem_map, UInt8.toNat_ofNat']
    omega
  rw [e]
  exact h
theorem rank_inj {S : Nat → Bool} {a b : Nat} (ha : a < 256) (hb : b < 256) (h1 : S a = true) (h2 : S b = true) (he : rankN S a = rankN S b) : a = b := by
  have x := (get_rank S (rankN S a) a 256).2 ⟨ha, h1, rfl⟩
  have y := (get_rank S (rankN S a) b 256).2 ⟨hb, h2, he.symm⟩
  rw [x] at y
  exact Option.some.inj y
theorem rank_lt {S : Nat → Bool} {a : Nat} (ha : a < 256) (h1 : S a = true) : rankN S a < (setL S).length := by
  have x := (get_rank S (rankN S a) a 256).2 ⟨ha, h1, rfl⟩
  have := (List.getElem?_eq_some_iff.1 x).1
  simpa [setL] using this
theorem clsN_le {S : Nat → Bool} {a : Nat} (ha : a < 256) : clsN S a ≤ (setL S).length := by
  unfold clsN
  split
  · have := rank_lt ha (by assumption); omega
  · omega

/-- The cells when the first j bytes of the set are numbered. -/
def clsPart (S : Nat → Bool) (j : Nat) : List Value := ((List.range 256).map fun c => vI (if S c = true ∧ rankN S c < j then rankN S c + 1 else 0 : Nat)) ++ [vI j]
theorem clsPart_len (S : Nat → Bool) (j : Nat) : (clsPart S j).length = 257 := by simp [clsPart]
theorem clsPart_zero (S : Nat → Bool) : clsPart S 0 = List.replicate 257 (.int .i64 0) := by
  unfold clsPart
  apply List.ext_getElem
  · simp
  · intro i h1 h2
    rw [List.getElem_replicate, List.getElem_append]
    split
    · simp [vI]
    · simp [vI]
theorem clsPart_all (S : Nat → Bool) : clsPart S (setL S).length = clsCells S := by
  unfold clsPart clsCells
  congr 1
  apply List.map_congr_left
  intro c hc
  rw [List.mem_range] at hc
  unfold clsN
  congr 2
  by_cases hs : S c = true
  · rw [if_pos ⟨hs, rank_lt hc hs⟩, if_pos hs]
  · rw [if_neg (fun h => hs h.1), if_neg hs]
theorem clsPart_step {S : Nat → Bool} {j : Nat} (hj : j < (setL S).length) : ((clsPart S j).set 256 (vI ((j : Int) + 1))).set (setL S)[j].toNat (vI ((j : Int) + 1)) = clsPart S (j + 1) := by
  obtain ⟨h1, h2, h3⟩ := setL_get hj
  generalize (setL S)[j].toNat = b at *
  apply List.ext_getElem?
  intro i
  rw [List.getElem?_set, List.getElem?_set, List.length_set, clsPart_len]
  by_cases hi : i < 256
  · have e : (clsPart S j)[i]? = some (vI (if S i = true ∧ rankN S i < j then rankN S i + 1 else 0 : Nat)) := by
      unfold clsPart; rw [List.getElem?_append_left (by simpa using hi)]; simp [hi]
    have e' : (clsPart S (j + 1))[i]? = some (vI (if S i = true ∧ rankN S i < j + 1 then rankN S i + 1 else 0 : Nat)) := by
      unfold clsPart; rw [List.getElem?_append_left (by simpa using hi)]; simp [hi]
    rw [e, e']
    by_cases hb : b = i
    · subst hb
      rw [if_pos rfl, if_pos (by omega), if_pos ⟨h2, by omega⟩, h3]
      rfl
    · rw [if_neg hb, if_neg (by omega)]
      congr 2
      by_cases hs : S i = true
      · have : rankN S i ≠ j := fun he => hb (rank_inj h1 hi h2 hs (by omega))
        by_cases hr : rankN S i < j
        · rw [if_pos ⟨hs, hr⟩, if_pos ⟨hs, by omega⟩]
        · rw [if_neg (fun h => hr h.2), if_neg (fun h => hr (by omega))]
      · rw [if_neg (fun h => hs h.1), if_neg (fun h => hs h.1)]
  · rw [if_neg (by omega)]
    by_cases he : i = 256
    · subst he
      rw [if_pos rfl, if_pos (by omega)]
      unfold clsPart
      rw [List.getElem?_append_right (by simp)]
      simp
    · rw [if_neg (by omega), List.getElem?_eq_none (by rw [clsPart_len]; omega), List.getElem?_eq_none (by rw [clsPart_len]; omega)]

theorem cls_get (S : Nat → Bool) {c : Nat} (hc : c < 256) : (clsCells S)[c]? = some (.int .i64 (clsN S c : Nat)) := by
  unfold clsCells
  rw [List.getElem?_append_left (by simpa using hc)]
  simp [hc, vI]
theorem cls_last (S : Nat → Bool) : (clsCells S)[256]? = some (.int .i64 ((setL S).length : Nat)) := by
  unfold clsCells
  rw [List.getElem?_append_right (by simp)]
  simp [vI]
theorem cls_len (S : Nat → Bool) : (clsCells S).length = 257 := by simp [clsCells]

section
variable {w : World}
def clsV (S : Nat → Bool) : Value := .agg (clsCells S).toArray

theorem classes_Class (S : Nat → Bool) (c : UInt8) : RET Tryz.prog 75 [clsV S, .int .u8 c.toNat] w fun v w' => v = .int .i64 (clsN S c.toNat : Nat) ∧ Ext w w' := by
  have hc := c.toNat_lt
  apply by_classes_Classes_Class
  unfold sh_classes_Classes_Class
  refine BOXA fun w1 o1 e1 z1 => ?_
  simp (disch := omega) only [SX, Nat.reduceAdd, LD_3 (o1.cell (cls_get S hc))]
  exact ⟨trivial, e1⟩

theorem classes_Len (S : Nat → Bool) : RET Tryz.prog 71 [clsV S] w fun v w' => v = .int .i64 ((setL S).length + 1 : Nat) ∧ Ext w w' := by
  have := setL_len S
  apply by_classes_Classes_Len
  unfold sh_classes_Classes_Len
  refine BOXA fun w1 o1 e1 z1 => ?_
  simp (disch := omega) only [SX, Nat.reduceAdd, LD_3 (o1.cell (cls_last S))]
  exact ⟨by simp, e1⟩

theorem classes_Table (S : Nat → Bool) : RET Tryz.prog 135 [clsV S] w fun v w' => v = .agg ((clsCells S).take 256).toArray ∧ Ext w w' := by
  apply by_classes_Classes_Table
  unfold sh_classes_Classes_Table
  refine BOXA fun w1 o1 e1 z1 => ?_
  refine AL_101 fun w2 o2 e2 z2 => ?_
  have hc := cellsAt_own (o1.ext e2) 256 0 (by rw [cls_len]; omega)
  rw [List.drop_zero] at hc
  simp (disch := omega) only [SX, Nat.reduceAdd]
  rw [LA_101 hc]
  have hl : ((clsCells S).take 256).length = 256 := by rw [List.length_take, cls_len]; rfl
  refine STOREA SZ_101 hl o2 (by rw [hl]; simp) (fun v hv => ?_) fun w3 o3 c3 z3 => ?_
  · have := List.mem_of_mem_take hv
    unfold clsCells at this
    simp [vI] at this
    rcases this with ⟨_, _, rfl⟩ | rfl <;> rfl
  rw [putAt_all _ _ (by rw [hl]; simp)] at o3
  exact LOADRES_A (by kernel_rfl) SZ_101 (cellsAt_whole o3 hl) ⟨rfl, (e1.trans e2).ext_of c3 fun i hi => by omega⟩

theorem classes_Of {l : Value} {ls : List (List UInt8)} (h : SlT w l ls) : RET Tryz.prog 46 [l] w fun v w' => v = clsV (inT ls) ∧ Ext w w' := by
  have hls := h.len
  apply by_classes_Of
  unfold sh_classes_Of
  refine AL_103 fun w1 o1 e1 z1 => ?_
  refine AL_142 fun w2 o2 e2 z2 => ?_
  obtain ⟨A, cc, rfl⟩ := h.shape
  simp (disch := omega) only [SX, Nat.reduceAdd]
  refine ⟨fun iv w3 => ∃ (i : Nat) (ws : List Nat), iv = .int .i64 i ∧ i ≤ ls.length ∧ Ext w w3 ∧ Own w3 w.heap.size (List.replicate 257 (.int .i64 0)) 103 ∧ Own w3 w1.heap.size (ws.map vW) 142 ∧ WS ws (inT (ls.take i)), fun iv _ => ls.length - vnat iv,
    ⟨0, [0, 0, 0, 0], rfl, Nat.zero_le _, e1.trans e2, o1.ext e2, o2, rfl, ?_, ?_⟩, ?_⟩
  · intro k hk; match k, hk with | 0, _ => simp | 1, _ => simp | 2, _ => simp | 3, _ => simp
  · intro k hk i hi
    match k, hk with
    | 0, _ => simp [inT]
    | 1, _ => simp [inT]
    | 2, _ => simp [inT]
    | 3, _ => simp [inT]
  rintro iv w3 ⟨i, ws, rfl, hi, e3, o3, p3, hw⟩
  have hlen := hw.len
  by_cases hlt : i < ls.length
  · have hlt' : (i : Int) < (ls.length : Int) := by omega
    obtain ⟨b, o, c', u, hv, hcell, hu⟩ := (h.ext e3).at hlt
    injection hv with hA _ hc
    subst hA hc
    simp (disch := omega) only [SX, Nat.reduceAdd, hlt', LD_23 hcell]
    refine ⟨KP (fun _ => False) w3, KP.refl _ _, ?_⟩
    refine (RKA_142 (X := fun _ => False) (cellsAt_whole p3 (by simp [hlen])) p3.lt (fun x => x) (KP.refl _ _)).mpr ?_
    refine CALL_of (fold_Of (hu.ext (Ext.drew _))) ?_
    rintro v w4 ⟨⟨us, rfl, hus⟩, e4⟩
    have e34 : Ext w3 w4 := (Ext.drew _).trans e4
    refine KEEP (KP.of_ext e34) ?_
    refine CALL_of (fold_Union hw hus) ?_
    rintro v w5 ⟨⟨ws', rfl, hw'⟩, e5⟩
    have hlen' := hw'.len
    refine STOREA SZ_142 (by simp [hlen']) ((p3.ext e34).ext e5) (by simp [hlen, hlen']) (by simp [vW, Value.oneCell']) fun w6 o6 c6 z6 => ?_
    rw [putAt_all _ _ (by simp [hlen, hlen'])] at o6
    try simp (disch := omega) only [SX, Nat.reduceAdd]
    refine ⟨⟨i + 1, ws', by simp, by omega, (e3.trans (e34.trans e5)).ext_of c6 fun i hi => by omega, ((o3.ext e34).ext e5).chg c6 (by omega), o6, hw'.congr ?_⟩, by simp only [vnat_int]; omega⟩
    intro x _
    rw [List.take_succ_eq_append_getElem hlt]
    unfold inT
    rw [← Bool.decide_or, decide_eq_decide]
    simp only [List.mem_append, List.mem_singleton]
    constructor
    · rintro (⟨t, h1, h2⟩ | h2)
      · exact ⟨t, .inl h1, h2⟩
      · exact ⟨_, .inr rfl, h2⟩
    · rintro ⟨t, h1 | rfl, h2⟩
      · exact .inl ⟨t, h1, h2⟩
      · exact .inr h2
  · have hlt' : ¬ (i : Int) < (ls.length : Int) := by omega
    obtain rfl : i = ls.length := by omega
    rw [List.take_length] at hw
    simp (disch := omega) only [SX, Nat.reduceAdd, hlt']
    refine AL_103 fun w4 o4 e4 z4 => ?_
    rw [LA_142 (cellsAt_whole (p3.ext e4) (by simp [hlen]))]
    refine CALL_of (fold_List hw) ?_
    rintro v w5 ⟨hbr, e5⟩
    have hsl := setL_len (inT ls)
    have hb := (SlB.of_row hbr (by omega)).1
    obtain ⟨A', c', rfl⟩ := hb.shape
    simp (disch := omega) only [SX, Nat.reduceAdd]
    have hsl := setL_len (inT ls)
    refine ⟨fun jv w6 => ∃ j : Nat, jv = .int .i64 j ∧ j ≤ (setL (inT ls)).length ∧ Own w6 w3.heap.size (clsPart (inT ls) j) 103 ∧ Chg (fun k => k = w3.heap.size) w5 w6, fun jv _ => (setL (inT ls)).length - vnat jv, ⟨0, rfl, Nat.zero_le _, by rw [clsPart_zero]; exact o4.ext e5, Chg.refl _ _⟩, ?_⟩
    rintro jv w6 ⟨j, rfl, hj, o6, c6⟩
    by_cases hjl : j < (setL (inT ls)).length
    · have hjl' : (j : Int) < ((setL (inT ls)).length : Int) := by omega
      have nk : ∀ k, (Value.slice A' (setL (inT ls)).length c').ownBlock = some k → ¬ k = w3.heap.size := fun k hk => by
        have := row_base hbr k hk.symm
        omega
      have hb6 := (SlB.of_row (row_chg hbr c6 nk) (by omega)).1
      obtain ⟨b', o', c'', hv, hcell⟩ := hb6.at hjl
      injection hv with hA _ hc
      subst hA hc
      have hg := setL_get hjl
      have k1 : w6.cell? ⟨w3.heap.size, 256, none⟩ = some (.int .i64 (j : Int)) := o6.cell (by
        unfold clsPart
        rw [List.getElem?_append_right (by simp)]
        simp [vI])
      simp (disch := omega) only [SX, Nat.reduceAdd, hjl', LD_5 hcell, LD_3 k1]
      refine STORE SZ_3 o6 (by rw [clsPart_len]; omega) rfl rfl fun w7 o7 c7 z7 => ?_
      have k2 : w7.cell? ⟨w3.heap.size, 256, none⟩ = some (.int .i64 ((j : Int) + 1)) := o7.cell (by rw [List.getElem?_set_self (by rw [clsPart_len]; omega)])
      try simp (disch := omega) only [SX, Nat.reduceAdd]
      simp (disch := omega) only [SX, Nat.reduceAdd, LD_3 k2]
      refine STORE SZ_3 o7 (by rw [List.length_set, clsPart_len]; omega) rfl rfl fun w8 o8 c8 z8 => ?_
      try simp (disch := omega) only [SX, Nat.reduceAdd]
      have hst := clsPart_step hjl
      unfold vI at hst
      rw [hst] at o8
      exact ⟨⟨j + 1, by simp, by omega, o8, (c6.then c7 (fun _ _ x => x) fun _ _ x => x).then c8 (fun _ _ x => x) fun _ _ x => x⟩, by simp only [vnat_int]; omega⟩
    · have hjl' : ¬ (j : Int) < ((setL (inT ls)).length : Int) := by omega
      obtain rfl : j = (setL (inT ls)).length := by omega
      rw [clsPart_all] at o6
      simp (disch := omega) only [SX, Nat.reduceAdd, hjl']
      rw [LA_103 (cellsAt_whole o6 (cls_len _))]
      have e06 : Ext w w6 := (e3.trans (e4.trans e5)).ext_of c6 fun i hi => by have := e3.size; omega
      have h3 := o3.lt
      refine STOREA SZ_103 (cls_len _) (((o3.ext e4).ext e5).chg c6 (by omega)) (by rw [cls_len]; simp) (fun v hv => ?_) fun w7 o7 c7 z7 => ?_
      · unfold clsCells at hv
        simp [vI] at hv
        rcases hv with ⟨_, _, rfl⟩ | rfl <;> rfl
      rw [putAt_all _ _ (by rw [cls_len]; simp)] at o7
      exact LOADRES_A (by kernel_rfl) SZ_103 (cellsAt_whole o7 (cls_len _)) ⟨rfl, e06.ext_of c7 fun i hi => by omega⟩
end
end Go.Proofs.YtgjfhmahiiokeaaGreat.Y
