import Derived.Test.YtgjfhmahiiokeaaGreatLib
import Derived.Test.YtgjfhmahiiokeaaGreatTab
import Derived.Test.YtgjfhmahiiokeaaGreatSh
set_option linter.unusedVariables false
set_option linter.unusedSimpArgs false
set_option linter.unusedVariables false
set_option linter.unusedSimpArgs false
set_option maxRecDepth 8000
namespace Go.Proofs.YtgjfhmahiiokeaaGreat.Y
open Go Go.Sx

/-! ### Strings -/
theorem NE_bool {K : Value → Prop} {x y : Operand} (a b : Bool) : PURE Tryz.prog (BINS .neq 4 x y (.bool a) (.bool b)) K = K (.bool (a != b)) := PURE_eq fun w => by
  cases a <;> cases b <;> kernel_rfl

def strV (l : List UInt8) : Value := .string ⟨l.toArray⟩
theorem strV_inj {a b : List UInt8} (h : strV a = strV b) : a = b := by
  injection h with h
  injection h with h
  simpa using congrArg Array.toList h
section
variable {K : Value → Prop} {a b : List UInt8}
theorem STR_len : PURE Tryz.prog (Builtin.len_ #[9] 3 #[strV a]) K = K (.int .i64 (a.length : Nat)) := by
  unfold strV
  rw [LN_9]
  simp [ByteArray.size]
theorem STR_eq {x y : Operand} : PURE Tryz.prog (BINS .eql 9 x y (strV a) (strV b)) K = K (.bool (decide (a = b))) := by
  have e : (a == b) = decide (a = b) := by
    by_cases hab : a = b
    · subst hab; simp
    · simp [hab]
  unfold strV
  rw [← e]
  exact PURE_eq fun w => by simp [BINS, eqGuard, binOp, Op.stringOp, pure, bind, Sem.bind, Sem.run]
theorem STR_add {x y : Operand} (h : a.length + b.length ≤ 2 ^ 40) : PURE Tryz.prog (BINS .add 9 x y (strV a) (strV b)) K = K (strV (a ++ b)) := by
  have e : (⟨a.toArray⟩ : ByteArray) ++ ⟨b.toArray⟩ = ⟨(a ++ b).toArray⟩ := by
    apply ByteArray.ext
    simp
  have hn : ¬ ((((⟨a.toArray⟩ : ByteArray).size + (⟨b.toArray⟩ : ByteArray).size : Nat) : Int) > IntKind.i64.max) := by
    simp [ByteArray.size, IntKind.max, IntKind.signed, IntKind.bits]
    omega
  unfold strV
  rw [← e]
  exact PURE_eq fun w => by
    simp only [BINS, eqGuard, binOp, Op.stringOp, pure, bind, Sem.bind, Sem.run, if_neg hn]
    rfl
theorem ba_extract (a : List UInt8) (l h : Nat) : (⟨a.toArray⟩ : ByteArray).extract l h = ⟨((a.take h).drop l).toArray⟩ := by
  apply ByteArray.ext
  rw [ByteArray.data_extract]
  simp [List.extract_eq_take_drop, List.drop_take]
theorem STR_hi {k : IntKind} {h : Int} (h0 : 0 ≤ h) (h2 : h ≤ (a.length : Int)) : PURE Tryz.prog (Instr.sliceAt 9 (strV a) none (some (.int k h)) none) K = K (strV (a.take h.toNat)) := by
  unfold strV
  rw [PURE_sslice_hi (by kernel_rfl) h0 (by simpa [ByteArray.size] using h2), ba_extract, List.drop_zero]
theorem STR_lo {k : IntKind} {l : Int} (h0 : 0 ≤ l) (h2 : l ≤ (a.length : Int)) : PURE Tryz.prog (Instr.sliceAt 9 (strV a) (some (.int k l)) none none) K = K (strV (a.drop l.toNat)) := by
  unfold strV
  rw [PURE_sslice_lo (by kernel_rfl) h0 (by simpa [ByteArray.size] using h2), ba_extract]
  simp [ByteArray.size]
theorem STR_sub {j k : IntKind} {l h : Int} (h0 : 0 ≤ l) (h1 : l ≤ h) (h2 : h ≤ (a.length : Int)) : PURE Tryz.prog (Instr.sliceAt 9 (strV a) (some (.int j l)) (some (.int k h)) none) K = K (strV ((a.take h.toNat).drop l.toNat)) := by
  unfold strV
  rw [PURE_sslice (by kernel_rfl) h0 h1 (by simpa [ByteArray.size] using h2), ba_extract]
theorem STR_index {i : Nat} (hi : i < a.length) : PURE Tryz.prog (Instr.index 9 (strV a) (.int .i64 i)) K = K (.int .u8 (a[i].toNat : Nat)) := by
  unfold strV
  rw [SX_9 (by omega) (by simp [ByteArray.size]; omega)]
  simp [List.getD, hi]
end
end Go.Proofs.YtgjfhmahiiokeaaGreat.Y
