import Derived.Test.YtgjfhmahiiokeaaGreatTrieC
set_option linter.unusedVariables false
set_option linter.unusedSimpArgs false
set_option linter.unusedVariables false
set_option linter.unusedSimpArgs false
set_option maxRecDepth 8000
namespace Go.Proofs.YtgjfhmahiiokeaaGreat.Y
open Go Go.Sx

/-! ### Of the library: slices, bits -/
def pcells (p : Int × Int) : List Value := [.int .i64 p.1, .int .i64 p.2]
theorem pcells_len (p : Int × Int) : (pcells p).length = 2 := rfl

section
variable {w : World} {v : Value}

theorem slices_CloneB {l : List UInt8} (h : SlB w v l) : RET Tryz.prog 26 [v] w fun v' w' => SlB w' v' l ∧ Ext w w' ∧ ∀ k, v'.ownBlock = some k → w.heap.size ≤ k ∧ k < w'.heap.size := by
  have hl := h.len
  apply by_slices_Clone_byte_byte
  unfold sh_slices_Clone_byte_byte
  obtain ⟨A, c, rfl, hr, hc, _⟩ := id h
  cases A with
  | none =>
    have : l = [] := by
      cases l with
      | nil => rfl
      | cons x l => rcases hr with hr | ⟨_, _, hr, _⟩ <;> cases hr
    subst this
    simp (disch := omega) only [SX, Nat.reduceAdd]
    exact ⟨⟨none, 0, rfl, .inl rfl, Nat.le_refl _, by simp⟩, Ext.refl w, by simp [Value.ownBlock]⟩
  | some a =>
    simp (disch := omega) only [SX, Nat.reduceAdd]
    refine BS_23_0 fun w1 o1 e1 z1 => ?_
    have ho := row_own (size := 1) (n := 0) o1 rfl (by unfold maxLen; decide) w.heap.size (Nat.le_refl _)
    cases hn : l with
    | nil =>
      refine APPENDZ (by kernel_rfl) SZ_5 _ _ _ _ _ (Nat.le_refl _) ?_
      exact ⟨⟨_, 0, rfl, .inl rfl, Nat.le_refl _, by simp⟩, e1, by simp [Value.ownBlock]; omega⟩
    | cons x r =>
      rw [← hn]
      have h0 : 0 < l.length := by rw [hn]; simp
      refine APPEND (by kernel_rfl) IN_5 rfl (by omega) ho (news := l.map vB) (by simp) (fun j u hj => ?_) (by simp [vB, Value.oneCell']) h0 (by unfold maxLen; omega) (by omega) (by omega) fun g cap w2 o2 c2 g2 => ?_
      · rcases hr.ext e1 with hr | ⟨b, o, hb, hq⟩
        · simp [hn] at hr
        · injection hb with hb
          subst hb
          rw [addr_add]
          exact hq j u hj
      · rw [Nat.zero_add] at *
        exact ⟨(SlB.of_row o2 hl).1, e1.ext_of c2 (fun i hi => row_base ho i hi), fun k hk => o2.lt k hk⟩

theorem slices_CloneI {l : List Int} (h : SlI w v l) (hl : l.length ≤ 2 ^ 40) : RET Tryz.prog 91 [v] w fun v' w' => SlI w' v' l ∧ Ext w w' ∧ ∀ k, v'.ownBlock = some k → w.heap.size ≤ k ∧ k < w'.heap.size := by
  apply by_slices_Clone_int_int
  unfold sh_slices_Clone_int_int
  obtain ⟨A, c, rfl, hr, hc, _⟩ := id h
  cases A with
  | none =>
    have : l = [] := by
      cases l with
      | nil => rfl
      | cons x l => rcases hr with hr | ⟨_, _, hr, _⟩ <;> cases hr
    subst this
    simp (disch := omega) only [SX, Nat.reduceAdd]
    exact ⟨⟨none, 0, rfl, .inl rfl, Nat.le_refl _, by simp⟩, Ext.refl w, by simp [Value.ownBlock]⟩
  | some a =>
    simp (disch := omega) only [SX, Nat.reduceAdd]
    refine BS_105_0 fun w1 o1 e1 z1 => ?_
    have ho := row_own (size := 1) (n := 0) o1 rfl (by unfold maxLen; decide) w.heap.size (Nat.le_refl _)
    cases hn : l with
    | nil =>
      refine APPENDZ (by kernel_rfl) SZ_3 _ _ _ _ _ (Nat.le_refl _) ?_
      exact ⟨⟨_, 0, rfl, .inl rfl, Nat.le_refl _, by simp⟩, e1, by simp [Value.ownBlock]; omega⟩
    | cons x r =>
      rw [← hn]
      have h0 : 0 < l.length := by rw [hn]; simp
      refine APPEND (by kernel_rfl) IN_3 rfl (by omega) ho (news := l.map vI) (by simp) (fun j u hj => ?_) (by simp [vI, Value.oneCell']) h0 (by unfold maxLen; omega) (by omega) (by omega) fun g cap w2 o2 c2 g2 => ?_
      · rcases hr.ext e1 with hr | ⟨b, o, hb, hq⟩
        · simp [hn] at hr
        · injection hb with hb
          subst hb
          rw [addr_add]
          exact hq j u hj
      · rw [Nat.zero_add] at *
        exact ⟨(SlI.of_row o2 (by omega)).1, e1.ext_of c2 (fun i hi => row_base ho i hi), fun k hk => o2.lt k hk⟩

theorem slices_CloneP {l : List (Int × Int)} (h : SlG pcells w v l) (hl : l.length ≤ 2 ^ 40) : RET Tryz.prog 85 [v] w fun v' w' => SlG pcells w' v' l ∧ Ext w w' ∧ ∀ k, v'.ownBlock = some k → w.heap.size ≤ k ∧ k < w'.heap.size := by
  apply by_slices_Clone_api_Pair_api_Pair
  unfold sh_slices_Clone_api_Pair_api_Pair
  obtain ⟨A, c, rfl, hr, hc, _⟩ := id h
  cases A with
  | none =>
    have : l = [] := by
      cases l with
      | nil => rfl
      | cons x l => rcases hr with hr | ⟨_, _, hr, _⟩ <;> cases hr
    subst this
    simp (disch := omega) only [SX, Nat.reduceAdd]
    exact ⟨⟨none, 0, rfl, .inl rfl, Nat.le_refl _, by simp⟩, Ext.refl w, by simp [Value.ownBlock]⟩
  | some a =>
    simp (disch := omega) only [SX, Nat.reduceAdd]
    refine BS_37_0 fun w1 o1 e1 z1 => ?_
    have ho := row_own (size := 2) (n := 0) o1 rfl (by unfold maxLen; decide) w.heap.size (Nat.le_refl _)
    cases hn : l with
    | nil =>
      refine APPENDZ (by kernel_rfl) SZ_57 _ _ _ _ _ (Nat.le_refl _) ?_
      exact ⟨⟨_, 0, rfl, .inl rfl, Nat.le_refl _, by simp⟩, e1, by simp [Value.ownBlock]; omega⟩
    | cons x r =>
      rw [← hn]
      have h0 : 0 < l.length := by rw [hn]; simp
      refine APPEND (by kernel_rfl) IN_57 rfl (by omega) ho (news := l.flatMap pcells) (flatMap_len pcells_len l) (fun j u hj => ?_) (by intro u hu; simp [pcells] at hu; obtain ⟨_, _, _, hu⟩ := hu; rcases hu with rfl | rfl <;> rfl) h0 (by unfold maxLen; omega) (by omega) (by omega) fun g cap w2 o2 c2 g2 => ?_
      · rcases hr.ext e1 with hr | ⟨b, o, hb, hq⟩
        · simp [hn, pcells] at hr
        · injection hb with hb
          subst hb
          rw [addr_add]
          exact hq j u hj
      · rw [Nat.zero_add] at *
        exact ⟨(SlG.of_row pcells_len (by omega) o2 (by omega)).1, e1.ext_of c2 (fun i hi => row_base ho i hi), fun k hk => o2.lt k hk⟩

theorem and_mask (n : Nat) (h : n < 2 ^ 32) : (IntKind.u64.wrap (BitVec.ofInt IntKind.u64.bits (n : Int) &&& BitVec.ofInt IntKind.u64.bits (4294967295 : Int)).toNat : Int) = n := by
  have e3 : (BitVec.ofInt 64 (n : Int) &&& BitVec.ofNat 64 4294967295).toNat = n := by
    rw [BitVec.ofInt_natCast, BitVec.toNat_and, BitVec.toNat_ofNat, BitVec.toNat_ofNat, Nat.mod_eq_of_lt (by omega), Nat.mod_eq_of_lt (by omega)]
    rw [show 4294967295 = 2 ^ 32 - 1 from rfl, Nat.and_two_pow_sub_one_eq_mod, Nat.mod_eq_of_lt h]
  have e4 : IntKind.u64.wrap (n : Int) = n := by simp [IntKind.wrap, IntKind.bits, IntKind.signed]; omega
  exact (congrArg (fun k : Nat => IntKind.u64.wrap (k : Int)) e3).trans e4

theorem bits_Mul (n : Nat) (h : n < 2 ^ 32) : RET Tryz.prog 86 [.int .u64 1, .int .u64 n] w fun v w' => v = .tuple #[.int .u64 0, .int .u64 n] ∧ w' = w := by
  have e1 := and_mask 1 (by omega)
  have en := and_mask n h
  have e0 := and_mask 0 (by omega)
  have s1 : Int.fdiv (1 : Int) (2 ^ (min (Int.toNat 32) IntKind.u64.bits)) = 0 := by decide
  have s0 : Int.fdiv (0 : Int) (2 ^ (min (Int.toNat 32) IntKind.u64.bits)) = 0 := by decide
  have sn : Int.fdiv (n : Int) (2 ^ (min (Int.toNat 32) IntKind.u64.bits)) = 0 := by
    have : (2 : Int) ^ (min (Int.toNat 32) IntKind.u64.bits) = 4294967296 := by decide
    rw [this, Int.fdiv_eq_ediv_of_nonneg _ (by omega)]
    omega
  have w0 : IntKind.u64.wrap (0 : Int) = 0 := by decide
  have wn : IntKind.u64.wrap (n : Int) = n := by simp [IntKind.wrap, IntKind.bits, IntKind.signed]; omega
  rw [Int.natCast_one] at e1
  rw [Int.natCast_zero] at e0
  apply by_math_bits_Mul
  unfold sh_math_bits_Mul
  simp only [COND_false]
  refine CALL_of (R := fun v w' => v = .tuple #[.int .u64 0, .int .u64 n] ∧ w' = w) ?_ ?_
  · apply by_math_bits_Mul64
    unfold sh_math_bits_Mul64
    simp only [PURE_and, PURE_shr _ _ _ _ _ _ 32 (by decide : (0 : Int) ≤ 32), PURE_mul_u, PURE_arith_u, e1, en, e0, s1, s0, sn, Int.mul_zero, Int.zero_mul, Int.one_mul, Int.add_zero, Int.zero_add, w0, wn]
    exact ⟨trivial, trivial⟩
  · rintro v w' ⟨rfl, rfl⟩
    simp only [SX, Nat.reduceAdd]
    exact ⟨trivial, trivial⟩

theorem sub_rep (n k : Nat) (a : Int) : (List.replicate n (Value.int .i64 a)).take k = List.replicate (min k n) (.int .i64 a) := by simp [List.take_replicate]

theorem slices_Repeat (h : SlI w v [-1]) (n : Nat) (hn : n ≤ 2 ^ 31) : RET Tryz.prog 62 [v, .int .i64 n] w fun v' w' => ∃ g, v' = .slice (some ⟨g, 0, none⟩) n n ∧ Own w' g (List.replicate n (.int .i64 (-1))) 3 ∧ Ext w w' ∧ w.heap.size ≤ g := by
  apply by_slices_Repeat_int_int
  unfold sh_slices_Repeat_int_int
  obtain ⟨A, c, rfl, hr, hc, _⟩ := id h
  refine ⟨fun w1 => w1 = w, ?_, ?_⟩
  · have : ¬ (n : Int) < 0 := by omega
    simp (disch := omega) only [SX, Nat.reduceAdd, this]
  rintro _ rfl
  have c1 : IntKind.u64.wrap (([-1] : List Int).length : Int) = 1 := by decide
  have cn : IntKind.u64.wrap (n : Int) = n := by simp [IntKind.wrap, IntKind.bits, IntKind.signed]; omega
  have cn' : IntKind.i64.wrap (n : Int) = n := by simp [IntKind.wrap, IntKind.bits, IntKind.signed]; omega
  simp (disch := omega) only [SX, Nat.reduceAdd, c1, cn]
  refine CALL_of (bits_Mul n (by omega)) ?_
  rintro v w' ⟨rfl, rfl⟩
  simp (disch := omega) only [SX, Nat.reduceAdd]
  refine ⟨fun w1 => w1 = w', ?_, ?_⟩
  · have : ¬ (9223372036854775807 : Int) < (n : Int) := by omega
    simp (disch := omega) only [SX, Nat.reduceAdd, this, show ¬ (0 : Int) < 0 by decide]
  rintro _ rfl
  simp (disch := omega) only [SX, Nat.reduceAdd, cn']
  refine MAKE (by kernel_rfl) IN_3 rfl (by omega) (by unfold maxLen; omega) fun w2 o2 e2 z2 => ?_
  rename_i w
  have hcp : RUN Tryz.prog (Builtin.copy_ #[105, 105] 3 #[.slice (some ⟨w.heap.size, 0, none⟩) n n, .slice A ([-1] : List Int).length c]) w2 fun v w1 => ∃ m : Nat, v = .int .i64 m ∧ m ≤ n ∧ (0 < n → 0 < m) ∧ Own w1 w.heap.size (List.replicate m (.int .i64 (-1)) ++ List.replicate (n - m) (.int .i64 0)) 3 ∧ Ext w w1 := by
    by_cases h0 : n = 0
    · subst h0
      exact COPY0 (by kernel_rfl) SZ_3 rfl ⟨0, rfl, by omega, fun h => h, o2, e2⟩
    · rcases hr.ext e2 with hr | ⟨b, o, rfl, hq⟩
      · cases hr
      · refine COPY (by kernel_rfl) SZ_3 o2 (cs := [.int .i64 (-1)]) (by show 1 = min 1 n; omega) (fun j u hj => by rw [addr_add]; exact hq j u hj) (by simp; omega) (by simp [Value.oneCell']) fun w3 o3 c3 z3 => ⟨1, rfl, by omega, fun _ => by omega, ?_, e2.ext_of c3 fun i hi => by omega⟩
        simpa [List.drop_replicate] using o3
  refine RUN_mono hcp ?_
  rintro v19 w1 ⟨m, rfl, hm, hm0, ho, he⟩
  refine ⟨fun x w1 => ∃ m : Nat, x = .int .i64 m ∧ m ≤ n ∧ (0 < n → 0 < m) ∧ Own w1 w.heap.size (List.replicate m (.int .i64 (-1)) ++ List.replicate (n - m) (.int .i64 0)) 3 ∧ Ext w w1, fun x _ => n - vnat x, ⟨m, rfl, hm, hm0, ho, he⟩, ?_⟩
  clear ho he hm hm0
  rintro x w1 ⟨m, rfl, hm, hm0, ho, he⟩
  by_cases hlt : m < n
  · have hlt' : (m : Int) < (n : Int) := by omega
    have hsub : sub (some ⟨w.heap.size, 0, none⟩) n m 1 = some ⟨w.heap.size, m, none⟩ := by
      unfold sub
      rw [if_neg (by omega)]
      simp [addr_add]
    simp (disch := omega) only [SX, Nat.reduceAdd, hlt', DRAWQ, hsub, sub_zero]
    have hp := hm0 (by omega)
    have hcell : ∀ (j : Nat) (u : Value), (List.replicate (min m (n - m)) (Value.int .i64 (-1)))[j]? = some u → w1.drew.cell? ((⟨w.heap.size, 0, none⟩ : Addr).add j) = some u := by
      intro j u hj
      rw [addr_add]
      have hj' := (List.getElem?_eq_some_iff.1 hj).1
      rw [List.length_replicate] at hj'
      refine ho.drew.cell ?_
      rw [Nat.zero_add, List.getElem?_append_left (by rw [List.length_replicate]; omega)]
      rw [List.getElem?_replicate, if_pos (by omega)] at hj ⊢
      exact hj
    refine COPY (by kernel_rfl) SZ_3 ho.drew (cs := List.replicate (min m (n - m)) (.int .i64 (-1))) (by rw [List.length_replicate]) hcell (by simp only [List.length_replicate, List.length_append]; omega) (fun u hu => by obtain ⟨_, rfl⟩ := List.mem_replicate.1 hu; rfl) fun w3 o3 c3 z3 => ?_
    rw [List.length_replicate] at o3 ⊢
    try simp (disch := omega) only [SX, Nat.reduceAdd]
    refine ⟨⟨m + min m (n - m), by simp, by omega, fun _ => by omega, ?_, he.ext_of c3.of_drew fun i hi => by omega⟩, by simp only [vnat_int]; omega⟩
    rw [List.take_append_of_le_length (by simp), List.take_of_length_le (by simp), List.drop_append, List.drop_of_length_le (by simp), List.drop_replicate, List.length_replicate, List.nil_append] at o3
    rw [List.replicate_append_replicate] at o3
    have : n - m - (m + min m (n - m) - m) = n - (m + min m (n - m)) := by omega
    rw [this] at o3
    exact o3
  · have hlt' : ¬ (m : Int) < (n : Int) := by omega
    simp (disch := omega) only [SX, Nat.reduceAdd, hlt']
    obtain rfl : m = n := by omega
    rw [Nat.sub_self] at ho
    exact ⟨_, rfl, by simpa using ho, he, Nat.le_refl _⟩
end
end Go.Proofs.YtgjfhmahiiokeaaGreat.Y
