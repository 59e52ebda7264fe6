import Derived.Test.YtgjfhmahiiokeaaGreatSlices
set_option linter.unusedVariables false
set_option linter.unusedSimpArgs false
set_option linter.unusedVariables false
set_option linter.unusedSimpArgs false
set_option maxRecDepth 8000
namespace Go.Proofs.YtgjfhmahiiokeaaGreat.Y
open Go Go.Sx

/-! ### Sets of bytes -/
def vW (n : Nat) : Value := .int .u64 n
structure WS (ws : List Nat) (S : Nat → Bool) : Prop where
  len : ws.length = 4
  lt : ∀ k (h : k < ws.length), ws[k] < 2 ^ 64
  bit : ∀ k (h : k < ws.length) i, i < 64 → ws[k].testBit i = S (64 * k + i)
def setV (ws : List Nat) : Value := .agg (ws.map vW).toArray

theorem WS.congr {ws : List Nat} {S S' : Nat → Bool} (h : WS ws S) (he : ∀ c, c < 256 → S c = S' c) : WS ws S' :=
  ⟨h.len, h.lt, fun k hk i hi => by have := h.len; rw [h.bit k hk i hi, he _ (by omega)]⟩

theorem wu64 {x : Int} (h0 : 0 ≤ x) (h1 : x < 2 ^ 64) : IntKind.u64.wrap x = x := by simp [IntKind.wrap, IntKind.bits, IntKind.signed]; omega
theorem wu8 {x : Int} (h0 : 0 ≤ x) (h1 : x < 2 ^ 8) : IntKind.u8.wrap x = x := by simp [IntKind.wrap, IntKind.bits, IntKind.signed]; omega

theorem or_u64 {a b : Nat} (ha : a < 2 ^ 64) (hb : b < 2 ^ 64) : (IntKind.u64.wrap (BitVec.ofInt IntKind.u64.bits (a : Int) ||| BitVec.ofInt IntKind.u64.bits (b : Int)).toNat : Int) = ((a ||| b : Nat) : Int) := by
  have e : (BitVec.ofInt 64 (a : Int) ||| BitVec.ofInt 64 (b : Int)).toNat = a ||| b := by
    rw [BitVec.ofInt_natCast, BitVec.ofInt_natCast, BitVec.toNat_or, BitVec.toNat_ofNat, BitVec.toNat_ofNat, Nat.mod_eq_of_lt ha, Nat.mod_eq_of_lt hb]
  have hlt : a ||| b < 2 ^ 64 := Nat.or_lt_two_pow ha hb
  have e4 : IntKind.u64.wrap ((a ||| b : Nat) : Int) = ((a ||| b : Nat) : Int) := wu64 (by omega) (by omega)
  exact (congrArg (fun k : Nat => IntKind.u64.wrap (k : Int)) e).trans e4

theorem shl_u64 {i : Nat} (hi : i < 64) : IntKind.u64.wrap ((1 : Int) * 2 ^ (min i IntKind.u64.bits)) = ((2 ^ i : Nat) : Int) := by
  have : min i IntKind.u64.bits = i := by simp [IntKind.bits]; omega
  rw [this, Int.one_mul]
  have hlt : 2 ^ i < 2 ^ 64 := Nat.pow_lt_pow_right (by omega) hi
  have e : ((2 : Int) ^ i) = ((2 ^ i : Nat) : Int) := by simp
  rw [e]
  clear e
  generalize (2 ^ i : Nat) = m at *
  exact wu64 (by omega) (by omega)

section
variable {w : World}

theorem fold_With {ws : List Nat} {S : Nat → Bool} (h : WS ws S) (c : UInt8) : RET Tryz.prog 89 [setV ws, .int .u8 c.toNat] w fun v w' => (∃ ws', v = setV ws' ∧ WS ws' fun x => decide (x = c.toNat) || S x) ∧ Ext w w' := by
  have hc := c.toNat_lt
  have hlen := h.len
  apply by_fold_Set_With
  unfold sh_fold_Set_With
  refine BOXA fun w1 o1 e1 z1 => ?_
  refine AL_142 fun w2 o2 e2 z2 => ?_
  have q1 : IntKind.u8.wrap ((c.toNat : Int).tdiv 64) = ((c.toNat / 64 : Nat) : Int) := by
    rw [Int.tdiv_eq_ediv_of_nonneg (by omega), wu8 (by omega) (by omega)]
    omega
  have q2 : ((c.toNat : Int).tmod 64) = ((c.toNat % 64 : Nat) : Int) := by
    rw [Int.tmod_eq_emod_of_nonneg (by omega)]
    omega
  have hk : c.toNat / 64 < ws.length := by omega
  have hcell : w2.cell? ⟨w.heap.size, c.toNat / 64, none⟩ = some (.int .u64 (ws[c.toNat / 64] : Nat)) := (o1.ext e2).cell (by simp [vW, hk])
  simp (disch := omega) only [SX, Nat.reduceAdd, q1, q2, PURE_shl, shl_u64 (show c.toNat % 64 < 64 by omega), LD_140 hcell, PURE_or, or_u64 (h.lt _ hk) (Nat.pow_lt_pow_right (show 1 < 2 by omega) (show c.toNat % 64 < 64 by omega))]
  refine STORE SZ_140 (o1.ext e2) (by simpa using hk) rfl rfl fun w3 o3 c3 z3 => ?_
  rw [show (ws.map vW).set (c.toNat / 64) (.int .u64 ((ws[c.toNat / 64] ||| 2 ^ (c.toNat % 64) : Nat) : Int)) = (ws.set (c.toNat / 64) (ws[c.toNat / 64] ||| 2 ^ (c.toNat % 64))).map vW by rw [List.map_set]; rfl] at o3
  have hwl : (ws.set (c.toNat / 64) (ws[c.toNat / 64] ||| 2 ^ (c.toNat % 64))).length = 4 := by simp [hlen]
  generalize hws : ws.set (c.toNat / 64) (ws[c.toNat / 64] ||| 2 ^ (c.toNat % 64)) = ws' at *
  rw [LA_142 (cellsAt_whole o3 (by simp [hwl]))]
  have o23 := o2.chg c3 (by omega)
  refine STOREA SZ_142 (by simp [hwl]) o23 (by simp [hwl]) (by simp [vW, Value.oneCell']) fun w4 o4 c4 z4 => ?_
  have e4 : Ext w w4 := ((e1.trans e2).ext_of c3 fun i hi => by omega).ext_of c4 fun i hi => by omega
  have hput : putAt [.int .u64 0, .int .u64 0, .int .u64 0, .int .u64 0] 0 (ws'.map vW) = ws'.map vW := by
    match ws', hwl with
    | [a, b, c, d], _ => rfl
  rw [hput] at o4
  refine LOADRES_A (by kernel_rfl) SZ_142 (cellsAt_whole o4 (by simp [hwl])) ⟨⟨ws', rfl, hwl, ?_, ?_⟩, e4⟩
  · intro k hkk
    subst hws
    rw [List.getElem_set]
    split
    · exact Nat.or_lt_two_pow (h.lt _ hk) (Nat.pow_lt_pow_right (by omega) (by omega))
    · exact h.lt _ _
  · intro k hkk i hi
    subst hws
    rw [List.length_set] at hkk
    rw [List.getElem_set]
    split
    · rename_i e
      subst e
      rw [Nat.testBit_or, h.bit _ hk i hi, Nat.testBit_two_pow, Bool.or_comm]
      congr 1
      simp only [decide_eq_decide]
      omega
    · rw [h.bit _ _ i hi]
      have : ¬ (64 * k + i = c.toNat) := by omega
      simp [this]

theorem fold_Has {ws : List Nat} {S : Nat → Bool} (h : WS ws S) (c : UInt8) : RET Tryz.prog 90 [setV ws, .int .u8 c.toNat] w fun v w' => v = .bool (S c.toNat) ∧ Ext w w' := by
  have hc := c.toNat_lt
  have hlen := h.len
  apply by_fold_Set_Has
  unfold sh_fold_Set_Has
  refine BOXA fun w1 o1 e1 z1 => ?_
  have q1 : IntKind.u8.wrap ((c.toNat : Int).tdiv 64) = ((c.toNat / 64 : Nat) : Int) := by
    rw [Int.tdiv_eq_ediv_of_nonneg (by omega), wu8 (by omega) (by omega)]
    omega
  have q2 : ((c.toNat : Int).tmod 64) = ((c.toNat % 64 : Nat) : Int) := by
    rw [Int.tmod_eq_emod_of_nonneg (by omega)]
    omega
  have hk : c.toNat / 64 < ws.length := by omega
  have hcell : w1.cell? ⟨w.heap.size, c.toNat / 64, none⟩ = some (.int .u64 (ws[c.toNat / 64] : Nat)) := o1.cell (by simp [vW, hk])
  have hw := h.lt _ hk
  have q3 : Int.fdiv ((ws[c.toNat / 64] : Nat) : Int) (2 ^ (min (c.toNat % 64) IntKind.u64.bits)) = ((ws[c.toNat / 64] >>> (c.toNat % 64) : Nat) : Int) := by
    have : min (c.toNat % 64) IntKind.u64.bits = c.toNat % 64 := by simp [IntKind.bits]; omega
    rw [this, Nat.shiftRight_eq_div_pow]
    have e : ((2 : Int) ^ (c.toNat % 64)) = ((2 ^ (c.toNat % 64) : Nat) : Int) := by simp
    rw [e, Int.fdiv_eq_ediv_of_nonneg _ (Int.natCast_nonneg _)]
    simp
  have hsh : ws[c.toNat / 64] >>> (c.toNat % 64) < 2 ^ 64 := Nat.lt_of_le_of_lt (Nat.shiftRight_le _ _) hw
  have q4 : IntKind.u64.wrap ((BitVec.ofInt IntKind.u64.bits ((ws[c.toNat / 64] >>> (c.toNat % 64) : Nat) : Int) &&& BitVec.ofInt IntKind.u64.bits 1).toNat : Int) = (((ws[c.toNat / 64] >>> (c.toNat % 64)) % 2 : Nat) : Int) := by
    have e : (BitVec.ofInt 64 ((ws[c.toNat / 64] >>> (c.toNat % 64) : Nat) : Int) &&& BitVec.ofNat 64 1).toNat = (ws[c.toNat / 64] >>> (c.toNat % 64)) % 2 := by
      rw [BitVec.ofInt_natCast, BitVec.toNat_and, BitVec.toNat_ofNat, BitVec.toNat_ofNat, Nat.mod_eq_of_lt hsh, show 1 % 2 ^ 64 = 1 from rfl, Nat.and_one_is_mod]
    have key : ∀ m : Nat, IntKind.u64.wrap ((m % 2 : Nat) : Int) = ((m % 2 : Nat) : Int) := fun m => wu64 (by omega) (by omega)
    exact (congrArg (fun k : Nat => IntKind.u64.wrap (k : Int)) e).trans (key _)
  have hbit := h.bit _ hk (c.toNat % 64) (by omega)
  rw [show 64 * (c.toNat / 64) + c.toNat % 64 = c.toNat by omega] at hbit
  have hb : decide ((((ws[c.toNat / 64] >>> (c.toNat % 64)) % 2 : Nat) : Int) = 1) = S c.toNat := by
    rw [← hbit, Nat.testBit, Nat.and_comm, Nat.and_one_is_mod]
    have : (ws[c.toNat / 64] >>> (c.toNat % 64)) % 2 < 2 := Nat.mod_lt _ (by omega)
    generalize (ws[c.toNat / 64] >>> (c.toNat % 64)) % 2 = m at *
    match m, this with
    | 0, _ => rfl
    | 1, _ => rfl
  simp (disch := omega) only [SX, Nat.reduceAdd, q1, q2, LD_140 hcell, PURE_shr, q3, PURE_and, q4, hb]
  exact ⟨trivial, e1⟩

theorem fold_Of {bv : Value} {l : List UInt8} (hb : SlB w bv l) : RET Tryz.prog 69 [bv] w fun v w' => (∃ ws, v = setV ws ∧ WS ws fun x => decide (∃ c ∈ l, x = c.toNat)) ∧ Ext w w' := by
  have hll := hb.len
  apply by_fold_Of
  unfold sh_fold_Of
  refine AL_142 fun w1 o1 e1 z1 => ?_
  refine AL_142 fun w2 o2 e2 z2 => ?_
  obtain ⟨A, c, rfl⟩ := hb.shape
  simp (disch := omega) only [SX, Nat.reduceAdd]
  refine ⟨fun iv w3 => ∃ (i : Nat) (ws : List Nat), iv = .int .i64 i ∧ i ≤ l.length ∧ Ext w w3 ∧ Own w3 w.heap.size [.int .u64 0, .int .u64 0, .int .u64 0, .int .u64 0] 142 ∧ Own w3 w1.heap.size (ws.map vW) 142 ∧ WS ws fun x => decide (∃ c ∈ l.take i, x = c.toNat), fun iv _ => l.length - vnat iv,
    ⟨0, [0, 0, 0, 0], rfl, Nat.zero_le _, e1.trans e2, o1.ext e2, o2, rfl, ?_, ?_⟩, ?_⟩
  · intro k hk; match k, hk with | 0, _ => simp | 1, _ => simp | 2, _ => simp | 3, _ => simp
  · intro k hk i hi
    match k, hk with
    | 0, _ => simp
    | 1, _ => simp
    | 2, _ => simp
    | 3, _ => simp
  rintro iv w3 ⟨i, ws, rfl, hi, e3, o3, p3, hw⟩
  have hlen := hw.len
  by_cases hlt : i < l.length
  · have hlt' : (i : Int) < (l.length : Int) := by omega
    obtain ⟨b, o, c', hv, hcell⟩ := (hb.ext e3).at hlt
    injection hv with hA _ hc
    subst hA hc
    simp (disch := omega) only [SX, Nat.reduceAdd, hlt', LD_5 hcell]
    rw [LA_142 (cellsAt_whole p3 (by simp [hlen]))]
    refine CALL_of (fold_With hw l[i]) ?_
    rintro v w4 ⟨⟨ws', rfl, hw'⟩, e4⟩
    have hlen' := hw'.len
    refine STOREA SZ_142 (by simp [hlen']) (p3.ext e4) (by simp [hlen, hlen']) (by simp [vW, Value.oneCell']) fun w5 o5 c5 z5 => ?_
    have hput : putAt (ws.map vW) 0 (ws'.map vW) = ws'.map vW := by
      match ws, ws', hlen, hlen' with
      | [_, _, _, _], [a, b, c, d], _, _ => rfl
    rw [hput] at o5
    try simp (disch := omega) only [SX, Nat.reduceAdd]
    refine ⟨⟨i + 1, ws', by simp, by omega, (e3.trans e4).ext_of c5 fun i hi => by omega, (o3.ext e4).chg c5 (by omega), o5, hw'.congr ?_⟩, by simp only [vnat_int]; omega⟩
    intro x _
    rw [List.take_succ_eq_append_getElem hlt, ← Bool.decide_or, decide_eq_decide]
    simp only [List.mem_append, List.mem_singleton]
    constructor
    · rintro (rfl | ⟨c, h1, h2⟩)
      · exact ⟨_, .inr rfl, rfl⟩
      · exact ⟨c, .inl h1, h2⟩
    · rintro ⟨c, h1 | rfl, h2⟩
      · exact .inr ⟨c, h1, h2⟩
      · exact .inl h2
  · have hlt' : ¬ (i : Int) < (l.length : Int) := by omega
    obtain rfl : i = l.length := by omega
    rw [List.take_length] at hw
    simp (disch := omega) only [SX, Nat.reduceAdd, hlt']
    rw [LA_142 (cellsAt_whole p3 (by simp [hlen]))]
    refine STOREA SZ_142 (by simp [hlen]) o3 (by simp [hlen]) (by simp [vW, Value.oneCell']) fun w5 o5 c5 z5 => ?_
    have hput : putAt [.int .u64 0, .int .u64 0, .int .u64 0, .int .u64 0] 0 (ws.map vW) = ws.map vW := by
      match ws, hlen with
      | [a, b, c, d], _ => rfl
    rw [hput] at o5
    exact LOADRES_A (by kernel_rfl) SZ_142 (cellsAt_whole o5 (by simp [hlen])) ⟨⟨ws, rfl, hw⟩, e3.ext_of c5 fun i hi => by omega⟩

theorem fold_Union {ws us : List Nat} {S U : Nat → Bool} (h : WS ws S) (k : WS us U) : RET Tryz.prog 68 [setV ws, setV us] w fun v w' => (∃ ws', v = setV ws' ∧ WS ws' fun x => S x || U x) ∧ Ext w w' := by
  have hlen := h.len
  have klen := k.len
  apply by_fold_Set_Union
  unfold sh_fold_Set_Union
  refine BOXA fun w1 o1 e1 z1 => ?_
  refine BOXA fun w2 o2 e2 z2 => ?_
  refine AL_142 fun w3 o3 e3 z3 => ?_
  rw [LA_142 (cellsAt_whole (o2.ext e3) (by simp [klen]))]
  refine ⟨fun iv w4 => ∃ (i : Nat) (vs : List Nat), iv = .int .i64 i ∧ i ≤ 4 ∧ Ext w w4 ∧ Own w4 w.heap.size (vs.map vW) 142 ∧ Own w4 w2.heap.size [.int .u64 0, .int .u64 0, .int .u64 0, .int .u64 0] 142 ∧ WS vs fun x => S x || (decide (x < 64 * i) && U x), fun iv _ => 4 - vnat iv,
    ⟨0, ws, rfl, by omega, e1.trans (e2.trans e3), o1.ext (e2.trans e3), o3, h.congr (by intro c _; simp)⟩, ?_⟩
  rintro iv w4 ⟨i, vs, rfl, hi, e4, o4, p4, hv⟩
  have vlen := hv.len
  by_cases hlt : i < 4
  · have hlt' : (i : Int) < 4 := by omega
    have hcell : w4.cell? ⟨w.heap.size, i, none⟩ = some (.int .u64 (vs[i] : Nat)) := o4.cell (by simp [vW, vlen, hlt])
    have hx : (us.map vW).toArray[i]? = some (.int .u64 (us[i] : Nat)) := by simp [vW, klen, hlt]
    simp (disch := omega) only [SX, Nat.reduceAdd, hlt', AX_142 (show (0 : Int) ≤ (i : Int) by omega) (show (i : Int) < 4 by omega) (by rw [Int.toNat_natCast]; exact hx), LD_140 hcell, PURE_or, or_u64 (hv.lt i (by omega)) (k.lt i (by omega))]
    refine STORE SZ_140 o4 (by simp [vlen]; omega) rfl rfl fun w5 o5 c5 z5 => ?_
    try simp (disch := omega) only [SX, Nat.reduceAdd]
    refine ⟨⟨i + 1, vs.set i (vs[i] ||| us[i]), by simp, by omega, e4.ext_of c5 fun i hi => by omega, by rw [List.map_set]; exact o5, p4.chg c5 (by have := e1.size; have := e2.size; omega), by simp [vlen], ?_, ?_⟩, by simp only [vnat_int]; omega⟩
    · intro j hj
      rw [List.getElem_set]
      split
      · exact Nat.or_lt_two_pow (hv.lt i (by omega)) (k.lt i (by omega))
      · exact hv.lt _ _
    · intro j hj b hb
      rw [List.length_set] at hj
      rw [List.getElem_set]
      split
      · rename_i e
        subst e
        rw [Nat.testBit_or, hv.bit i (by omega) b hb, k.bit i (by omega) b hb]
        have d1 : ¬ (64 * i + b < 64 * i) := by omega
        have d2 : 64 * i + b < 64 * (i + 1) := by omega
        simp [d1, d2]
      · rw [hv.bit j (by omega) b hb]
        congr 2
        simp only [decide_eq_decide]
        omega
  · have hlt' : ¬ (i : Int) < 4 := by omega
    obtain rfl : i = 4 := by omega
    simp (disch := omega) only [SX, Nat.reduceAdd, hlt']
    rw [LA_142 (cellsAt_whole o4 (by simp [vlen]))]
    refine STOREA SZ_142 (by simp [vlen]) p4 (by simp [vlen]) (by simp [vW, Value.oneCell']) fun w5 o5 c5 z5 => ?_
    have hput : putAt [.int .u64 0, .int .u64 0, .int .u64 0, .int .u64 0] 0 (vs.map vW) = vs.map vW := by
      match vs, vlen with
      | [a, b, c, d], _ => rfl
    rw [hput] at o5
    refine LOADRES_A (by kernel_rfl) SZ_142 (cellsAt_whole o5 (by simp [vlen])) ⟨⟨vs, rfl, hv.congr ?_⟩, e4.ext_of c5 fun i hi => by have := e1.size; have := e2.size; omega⟩
    intro c hc
    have : c < 64 * 4 := by omega
    simp [this]

/-- The bytes of a set, rising. -/
def setL (S : Nat → Bool) : List UInt8 := ((List.range 256).filter S).map UInt8.ofNat

theorem EQ_set {x y : Operand} {K : Value → Prop} {ws : List Nat} {S : Nat → Bool} (h : WS ws S) : PURE Tryz.prog (BINS .eql 142 x y (.agg (ws.map vW).toArray) (.agg #[.int .u64 0, .int .u64 0, .int .u64 0, .int .u64 0])) K = K (.bool (decide (∀ k < ws.length, ws[k]? = some 0))) := by
  obtain ⟨hl, -, -⟩ := h
  match ws, hl with
  | [a, b, c, d], _ =>
    rw [show Value.agg ([a, b, c, d].map vW).toArray = .agg #[.int .u64 a, .int .u64 b, .int .u64 c, .int .u64 d] from rfl]
    rw [PURE_eqlS (by kernel_rfl) (run_equal_arr4 (k := .u64) Tryz.underlying142 (by kernel_rfl) (by kernel_rfl) Tryz.underlying140)]
    congr 2
    rw [Bool.and_true, ← Bool.decide_and, ← Bool.decide_and, ← Bool.decide_and, decide_eq_decide]
    constructor
    · rintro ⟨h1, h2, h3, h4⟩ k hk
      match k, hk with
      | 0, _ => simp; omega
      | 1, _ => simp; omega
      | 2, _ => simp; omega
      | 3, _ => simp; omega
    · intro h
      have h0 := h 0 (by simp)
      have h1 := h 1 (by simp)
      have h2 := h 2 (by simp)
      have h3 := h 3 (by simp)
      simp at h0 h1 h2 h3
      omega

theorem fold_List {ws : List Nat} {S : Nat → Bool} (h : WS ws S) : RET Tryz.prog 70 [setV ws] w fun v w' => w'.ownsRow w.heap.size 5 1 v (setL S).length ((setL S).map vB) ∧ Ext w w' := by
  have hlen := h.len
  apply by_fold_Set_List
  unfold sh_fold_Set_List
  refine BOXA fun w1 o1 e1 z1 => ?_
  rw [LA_142 (cellsAt_whole o1 (by simp [hlen]))]
  simp only [SX, Nat.reduceAdd]
  rw [EQ_set h]
  by_cases hz : ∀ k < ws.length, ws[k]? = some 0
  · rw [decide_eq_true hz]
    simp only [SX, Nat.reduceAdd]
    have : setL S = [] := by
      unfold setL
      rw [List.map_eq_nil_iff, List.filter_eq_nil_iff]
      intro c hc
      rw [List.mem_range] at hc
      have hb := h.bit (c / 64) (by omega) (c % 64) (by omega)
      have h0 := hz (c / 64) (by omega)
      rw [List.getElem?_eq_getElem (by omega)] at h0
      injection h0 with h0
      rw [h0, show 64 * (c / 64) + c % 64 = c by omega] at hb
      simp at hb
      simp [← hb]
    rw [this]
    exact ⟨World.ownsRow_nil _ _ _ _, e1⟩
  · rw [decide_eq_false hz]
    simp only [SX, Nat.reduceAdd]
    refine ⟨fun out i w1 => ∃ k m : Nat, i = .int .i64 k ∧ k ≤ 256 ∧ Ext w w1 ∧ Own w1 w.heap.size (ws.map vW) 142 ∧ w1.ownsRow (w.heap.size + 1) 5 1 out m ((((List.range k).filter S).map UInt8.ofNat).map vB) ∧ m ≤ k,
      fun _ i _ => 256 - vnat i, ⟨0, 0, rfl, by omega, e1, o1, World.ownsRow_nil _ _ _ _, by omega⟩, ?_⟩
    rintro out i w2 ⟨k, m, rfl, hk, he, ho, hr, hm⟩
    by_cases hlt : k < 256
    · have hlt' : (k : Int) < 256 := by omega
      have hc : ((UInt8.ofNat k).toNat : Int) = k := by simp [UInt8.toNat_ofNat]; omega
      have hcn : (UInt8.ofNat k).toNat = k := by omega
      have hw : IntKind.u8.wrap (k : Int) = ((UInt8.ofNat k).toNat : Int) := by rw [hc]; exact wu8 (by omega) (by omega)
      simp (disch := omega) only [SX, Nat.reduceAdd, hlt']
      rw [LA_142 (cellsAt_whole ho (by simp [hlen]))]
      simp (disch := omega) only [SX, Nat.reduceAdd, hw]
      refine CALL_of (fold_Has h (UInt8.ofNat k)) ?_
      rintro v w3 ⟨rfl, e3⟩
      rw [hcn]
      by_cases hs : S k = true
      · simp (disch := omega) only [SX, Nat.reduceAdd, hs, hw]
        refine BS_23_1 fun w4 hb he3 hz3 => ?_
        have ho3 := row_ext hr (e3.trans he3)
        refine PUSH1 (by kernel_rfl) IN_5 rfl ho3 hb rfl (by unfold maxLen; omega) (by omega) (by have := he.size; have := e3.size; have := ho.lt; omega) fun v' w5 ho4 hc4 hg4 => ?_
        have hb5 : ∀ i, some i = out.ownBlock → w.heap.size + 1 ≤ i := fun i hi => row_base ho3 i hi
        refine ⟨⟨k + 1, m + 1, by simp, by omega, ?_, ?_, ?_, by omega⟩, by simp only [vnat_int]; omega⟩
        · exact (he.trans (e3.trans he3)).ext_of hc4 fun i hi => by have := hb5 i hi; omega
        · exact ((ho.ext e3).ext he3).chg hc4 fun hi => by have := hb5 _ hi; omega
        · have : ((List.range (k + 1)).filter S).map UInt8.ofNat = ((List.range k).filter S).map UInt8.ofNat ++ [UInt8.ofNat k] := by
            rw [List.range_succ, List.filter_append, List.map_append]
            simp [hs]
          rw [this, List.map_append]
          have hv : vB (UInt8.ofNat k) = .int .u8 k := by unfold vB; rw [hc]
          simp only [List.map_cons, List.map_nil, hv]
          exact ho4
      · have hs' : S k = false := by simpa using hs
        simp (disch := omega) only [SX, Nat.reduceAdd, hs']
        refine ⟨⟨k + 1, m, by simp, by omega, he.trans e3, ho.ext e3, ?_, by omega⟩, by simp only [vnat_int]; omega⟩
        have : ((List.range (k + 1)).filter S).map UInt8.ofNat = ((List.range k).filter S).map UInt8.ofNat := by
          rw [List.range_succ, List.filter_append, List.map_append]
          simp [hs']
        rw [this]
        exact row_ext hr e3
    · have hlt' : ¬ (k : Int) < 256 := by omega
      obtain rfl : k = 256 := by omega
      simp (disch := omega) only [SX, Nat.reduceAdd, hlt']
      have hl : (setL S).length ≤ 256 := by
        unfold setL
        rw [List.length_map]
        refine Nat.le_trans (List.length_filter_le _ _) (by simp)
      obtain rfl : m = (setL S).length := (SlB.of_row (l := setL S) hr (by omega)).2
      exact ⟨row_mono hr (by omega), he⟩
end
end Go.Proofs.YtgjfhmahiiokeaaGreat.Y
