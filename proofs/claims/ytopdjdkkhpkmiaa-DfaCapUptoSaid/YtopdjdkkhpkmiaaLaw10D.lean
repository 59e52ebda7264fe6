import Derived.Test.YtopdjdkkhpkmiaaLaw10C
set_option linter.unusedVariables false
set_option linter.unusedSimpArgs false
set_option maxRecDepth 8000
namespace Go.Proofs.Ytopdjdkkhpkmiaa.Y
open Go Go.Sx

theorem ins_chain (b : List UInt8) : ∀ (T : List TN), TreeOK T → (insM T ((T.length : Int) - 1) b).2.length = T.length + b.length := by
  induction b with
  | nil => intro T _; rfl
  | cons c b ih =>
    intro T h
    have hp := h.pos
    have hl : lookE (ents 1 T.tail) ((T.length : Int) - 1) c.toNat = none := by
      cases hl : lookE (ents 1 T.tail) ((T.length : Int) - 1) c.toNat with
      | none => rfl
      | some x =>
        exfalso
        obtain ⟨i, y, rfl, h0, h1, h2, h3⟩ := h.look.1 hl
        obtain ⟨_, k1, k2, _⟩ := h.up i y h1 h0
        have := (List.getElem?_eq_some_iff.1 h1).1
        omega
    obtain ⟨k1, -⟩ := grow_ok h c (n := (T.length : Int) - 1) ⟨by omega, by omega⟩
    have hg : growM T ((T.length : Int) - 1) c = ((T.length : Int), T ++ [⟨(T.length : Int) - 1, ((nodeM T ((T.length : Int) - 1)).map TN.dep).getD 0 + 1, -1, c⟩]) := by simp [growM, hl]
    simp only [insM]
    rw [hg] at k1 ⊢
    have := ih _ k1
    simp only [List.length_append, List.length_cons, List.length_nil] at this ⊢
    have e : (((T.length + (0 + 1) : Nat) : Int) - 1) = (T.length : Int) := by omega
    rw [e] at this
    rw [this]
    omega
/-- The tree of one text. -/
theorem trie_one (t : List UInt8) : (trieM [t]).length = t.length + 1 := by
  have hr : TreeOK [(⟨-1, 0, -1, 0⟩ : TN)] := (trie_for []).ok
  have := ins_chain t [⟨-1, 0, -1, 0⟩] hr
  simp only [trieM, buildM]
  rw [(mark_same _ _ _).1]
  simp only [List.length_cons, List.length_nil] at this
  rw [show ((((0 + 1 : Nat) : Int)) - 1) = 0 by omega] at this
  rw [this]
  omega

section
variable {w : World}

theorem dfa_States_nil : RET Try.prog 14 [.pointer none] w fun v w' => v = .int .i64 0 ∧ w' = w := by
  refine RET_by fun R k => ?_
  apply by_dfa_DFA_States
  unfold sh_dfa_DFA_States
  simp (disch := omega) only [SX, Nat.reduceAdd]
  exact k _ _ ⟨rfl, rfl⟩
theorem dfa_Width_nil : RET Try.prog 16 [.pointer none] w fun v w' => v = .int .i64 0 ∧ w' = w := by
  refine RET_by fun R k => ?_
  apply by_dfa_DFA_Width
  unfold sh_dfa_DFA_Width
  simp (disch := omega) only [SX, Nat.reduceAdd]
  exact k _ _ ⟨rfl, rfl⟩
theorem dfa_Path_nil (n : Int) : RET Try.prog 21 [.pointer none, .int .i64 n] w fun v w' => v = .slice none 0 0 ∧ w' = w := by
  refine RET_by fun R k => ?_
  apply by_dfa_DFA_Path
  unfold sh_dfa_DFA_Path
  simp (disch := omega) only [SX, Nat.reduceAdd]
  exact k _ _ ⟨rfl, rfl⟩
theorem dfa_Scan_nil (m l : Value) : RET Try.prog 25 [.pointer none, m, l] w fun v w' => v = .slice none 0 0 ∧ w' = w := by
  refine RET_by fun R k => ?_
  apply by_dfa_DFA_Scan
  unfold sh_dfa_DFA_Scan
  simp (disch := omega) only [SX, Nat.reduceAdd]
  exact k _ _ ⟨rfl, rfl⟩
theorem dfa_Next_nil (c : Int) : RET Try.prog 13 [.pointer none, .int .i64 0, .int .u8 c] w fun v w' => v = .int .i64 (-1) ∧ w' = w := by
  refine RET_by fun R k => ?_
  apply by_dfa_DFA_Next
  unfold sh_dfa_DFA_Next
  refine ⟨fun _ => False, ?_, fun _ h => h.elim⟩
  simp (disch := omega) only [SX, Nat.reduceAdd, show ¬ ((0 : Int) < 0) by decide]
  refine CALL_of dfa_States_nil ?_
  rintro v w' ⟨rfl, rfl⟩
  simp (disch := omega) only [SX, Nat.reduceAdd, Int.le_refl]
  exact k _ _ ⟨rfl, rfl⟩

theorem slT_one {w : World} {g : Nat} {v1 : Value} {l1 : List UInt8} (ho : Own w g [v1] 42) (h1 : SlB w v1 l1) : SlT w (.slice (some ⟨g, 0, none⟩) 1 1) [l1] := by
  refine ⟨_, 1, [v1], rfl, Rd.own ho 0 (fun i v hv => by simpa using hv), rfl, by simp, by simp, fun i h h' => ?_⟩
  match i, h with
  | 0, _ => exact h1

theorem law10_DfaCap {bv : Value} {l : List UInt8} (h : SlB w bv l) (n : UInt8) : RET Try.prog 5 [bv, .int .u8 n.toNat] w fun v w' => v = .bool true ∧ Ext w w' := by
  have hll := h.len
  have hn8 := n.toNat_lt
  refine RET_by fun R k => ?_
  apply by_seinelaw10_DfaCap
  unfold sh_seinelaw10_DfaCap
  refine CALL_of law10_awake ?_
  rintro v w1 ⟨rfl, e1⟩
  obtain ⟨A, c, rfl⟩ := h.shape
  by_cases h4 : 400 < l.length
  · have h4' : (400 : Int) < ((l.length : Nat) : Int) := by omega
    simp (disch := omega) only [SX, Nat.reduceAdd, h4']
    exact k _ _ ⟨rfl, e1⟩
  have h4' : ¬ (400 : Int) < ((l.length : Nat) : Int) := by omega
  simp (disch := omega) only [SX, Nat.reduceAdd, h4']
  have hi64 : IntKind.i64.wrap ((n.toNat : Nat) : Int) = (n.toNat : Nat) := by simp [IntKind.wrap, IntKind.bits, IntKind.signed]; omega
  have happ : RUN Try.prog (Builtin.append_ #[42, 42] 42 #[.slice none 0 0, .slice A l.length c]) w1 fun v w2 => w2.ownsRow w1.heap.size 5 1 v l.length (l.map vB) ∧ Ext w1 w2 := by
    obtain ⟨A', c', he, hr, _⟩ := h.ext e1
    injection he with e1' _ e3'
    subst e1' e3'
    cases hl : l with
    | nil =>
      refine APPENDZ (by kernel_rfl) SZ_5 _ _ _ _ _ (Nat.le_refl _) ⟨World.ownsRow_nil _ _ _ _, Ext.refl _⟩
    | cons x r =>
      rw [← hl]
      have h0 : 0 < l.length := by rw [hl]; simp
      rcases hr with hr | ⟨b, o, rfl, hq⟩
      · simp [hl] at hr
      · refine APPEND (by kernel_rfl) IN_5 rfl (by omega) (World.ownsRow_nil w1 w1.heap.size 5 1) (news := l.map vB) (by simp) (fun j u hj => by rw [addr_add]; exact hq j u hj) (by simp [vB, Value.oneCell']) h0 (by unfold maxLen; omega) (by omega) (Nat.le_refl _) fun g cap w2 o2 c2 g2 => ?_
        rw [Nat.zero_add] at *
        exact ⟨o2, (Ext.refl w1).ext_of c2 fun i hi => by simp [Value.ownBlock] at hi⟩
  refine RUN_mono happ ?_
  rintro v w2 ⟨hr2, e2⟩
  refine ⟨fun tv iv w3 => ∃ (i m : Nat), iv = .int .i64 i ∧ i ≤ n.toNat ∧ m = l.length + i ∧ w3.ownsRow w1.heap.size 5 1 tv m ((l ++ List.replicate i 97).map vB) ∧ Ext w1 w3, fun _ iv _ => n.toNat - vnat iv, ⟨0, l.length, rfl, Nat.zero_le _, rfl, by simpa using hr2, e2⟩, ?_⟩
  rintro tv iv w3 ⟨i, m, rfl, hi, hm, hr3, e3⟩
  by_cases hlt : i < n.toNat
  · have hlt' : (i : Int) < ((n.toNat : Nat) : Int) := by omega
    simp (disch := omega) only [SX, Nat.reduceAdd, hi64, hlt']
    refine BS_42_1 fun w4 o4 e4 z4 => ?_
    have hr4 := row_ext hr3 e4
    refine PUSH1 (by kernel_rfl) IN_5 rfl hr4 o4 rfl (by unfold maxLen; omega) (by omega) (by have := e3.size; omega) fun v' w5 o5 c5 g5 => ?_
    try simp (disch := omega) only [SX, Nat.reduceAdd]
    refine ⟨⟨i + 1, m + 1, by simp, by omega, by omega, ?_, (e3.trans e4).ext_of c5 fun q hq => row_base hr4 q hq⟩, by simp only [vnat_int]; omega⟩
    rw [List.replicate_succ', ← List.append_assoc, List.map_append]
    exact o5
  · have hlt' : ¬ (i : Int) < ((n.toNat : Nat) : Int) := by omega
    obtain rfl : i = n.toNat := by omega
    generalize hts : l ++ List.replicate n.toNat 97 = ts at *
    have htl : ts.length = l.length + n.toNat := by rw [← hts]; simp
    have hm' : m = ts.length := by omega
    subst hm'
    have hsb := (SlB.of_row hr3 (by omega)).1
    obtain ⟨At, ct, rfl⟩ := hsb.shape
    have hone := trie_one ts
    simp (disch := omega) only [SX, Nat.reduceAdd, hi64, hlt']
    refine BS_22_1 fun w4 o4 e4 z4 => ?_
    refine CALL_of (dfa_New (slT_one o4 (hsb.ext e4)) (by simp [sumL]; omega)) ?_
    rintro v w5 ⟨e5, hv⟩
    have e15 := e3.trans (e4.trans e5)
    have hs5 := hsb.ext (e4.trans e5)
    by_cases hover : 160 < ts.length + 1
    · have hover' : (160 : Int) < ((ts.length : Nat) : Int) + 1 := by omega
      rcases hv with ⟨_, rfl⟩ | ⟨hf, _⟩
      · simp (disch := omega) only [SX, Nat.reduceAdd, hover']
        refine ⟨fun w6 => Ext w5 w6, ?_, ?_⟩
        · refine BS_22_1 fun w6 o6 e6 z6 => ?_
          refine CALL_of (trie_Build (slT_one o6 (hs5.ext e6)) (by simp [sumL]; omega)) ?_
          rintro v w7 ⟨tb, rfl, ht, e7⟩
          refine CALL_of (trie_Nodes ht) ?_
          rintro v w8 ⟨rfl, rfl⟩
          have hne : ((((trieM [ts]).length : Nat) : Int) = ((ts.length : Nat) : Int) + 1) = True := eq_true (by omega)
          try simp (disch := omega) only [SX, Nat.reduceAdd, hne, NE_bool, bne_self_eq_false]
          exact e6.trans e7
        · rintro w6 e6
          refine CALL_of meter_New ?_
          rintro v w7 ⟨rfl, hm7, e7⟩
          try simp (disch := omega) only [SX, Nat.reduceAdd]
          refine CALL_of (dfa_Scan_nil _ _) ?_
          rintro v w8 ⟨rfl, rfl⟩
          simp (disch := omega) only [SX, Nat.reduceAdd, show (((0 : Nat) : Int) = 0) = True from eq_true rfl]
          refine CALL_of (meter_Counts hm7) ?_
          rintro v w9 ⟨rfl, e9⟩
          simp (disch := omega) only [SX, Nat.reduceAdd]
          refine CALL_of dfa_States_nil ?_
          rintro v w10 ⟨rfl, rfl⟩
          simp (disch := omega) only [SX, Nat.reduceAdd]
          refine CALL_of dfa_Width_nil ?_
          rintro v w11 ⟨rfl, rfl⟩
          simp (disch := omega) only [SX, Nat.reduceAdd]
          refine CALL_of (dfa_Next_nil 97) ?_
          rintro v w12 ⟨rfl, rfl⟩
          simp (disch := omega) only [SX, Nat.reduceAdd]
          refine CALL_of (dfa_Path_nil 0) ?_
          rintro v w13 ⟨rfl, rfl⟩
          simp (disch := omega) only [SX, Nat.reduceAdd, show (((0 : Nat) : Int) = 0) = True from eq_true rfl]
          exact k _ _ ⟨rfl, e1.trans (e15.trans (e6.trans (e7.trans e9)))⟩
      · omega
    · have hover' : ¬ (160 : Int) < ((ts.length : Nat) : Int) + 1 := by omega
      rcases hv with ⟨hf, _⟩ | ⟨_, db, rfl, hd⟩
      · omega
      · simp (disch := omega) only [SX, Nat.reduceAdd, hover']
        refine ⟨fun w6 => Ext w5 w6, ?_, ?_⟩
        · refine BS_22_1 fun w6 o6 e6 z6 => ?_
          refine CALL_of (trie_Build (slT_one o6 (hs5.ext e6)) (by simp [sumL]; omega)) ?_
          rintro v w7 ⟨tb, rfl, ht, e7⟩
          refine CALL_of (trie_Nodes ht) ?_
          rintro v w8 ⟨rfl, rfl⟩
          have hne : ((((trieM [ts]).length : Nat) : Int) = ((ts.length : Nat) : Int) + 1) = True := eq_true (by omega)
          have h014 : ((0 : Int) = 14) = False := eq_false (by decide)
          try simp (disch := omega) only [SX, Nat.reduceAdd, hne, h014, NE_bool, bne_self_eq_false]
          exact e6.trans e7
        · rintro w6 e6
          refine CALL_of meter_New ?_
          rintro v w7 ⟨rfl, hm7, e7⟩
          try simp (disch := omega) only [SX, Nat.reduceAdd]
          refine CALL_of (dfa_States' (hd.ext (e6.trans e7))) ?_
          rintro v w8 ⟨rfl, rfl⟩
          have hne : ((((trieM [ts]).length : Nat) : Int) = ((ts.length : Nat) : Int) + 1) = True := eq_true (by omega)
          simp (disch := omega) only [SX, Nat.reduceAdd, hne]
          exact k _ _ ⟨rfl, e1.trans (e15.trans (e6.trans e7))⟩
end
end Go.Proofs.Ytopdjdkkhpkmiaa.Y
