import Derived.Test.YtgjfhmahiiokeaaGreatClasses
import Derived.Test.YtgjfhmahiiokeaaGreatAcB
import Derived.Test.YtgjfhmahiiokeaaGreatLinksD
set_option linter.unusedVariables false
set_option linter.unusedSimpArgs false
set_option linter.unusedVariables false
set_option linter.unusedSimpArgs false
set_option maxRecDepth 8000
namespace Go.Proofs.YtgjfhmahiiokeaaGreat.Y
open Go Go.Sx

/-! ### The table -/
def dfaZero : List Value := .pointer none :: .pointer none :: (List.replicate 257 (.int .i64 0) ++ [.slice none 0 0])
theorem BD_dfa {a b : Option Addr} {cs : List Value} {K : Value → Prop} (hc : cs.length = 257) : PURE Tryz.prog (Instr.build 107 #[(0, .pointer a), (1, .pointer b), (2, .agg cs.toArray)]) K = K (.agg (.pointer a :: .pointer b :: (cs ++ [.slice none 0 0])).toArray) := by
  refine PURE_build (Z := dfaZero) (places := #[(0, 1), (1, 1), (2, 257), (259, 1)]) Tryz.underlying107 (by kernel_rfl) (fun _ => by kernel_rfl) ?_
  rw [show (#[(0, Value.pointer a), (1, .pointer b), (2, .agg cs.toArray)] : Array (Nat × Value)).toList = [(0, .pointer a), (1, .pointer b), (2, .agg cs.toArray)] from rfl]
  rw [fill_step (vs := [.pointer a]) (off := 0) (size := 1) rfl rfl rfl (by simp [dfaZero])]
  rw [fill_step (vs := [.pointer b]) (off := 1) (size := 1) rfl rfl rfl (by simp [dfaZero, putAt])]
  rw [fill_step (vs := cs) (off := 2) (size := 257) rfl rfl hc (by simp [dfaZero, putAt])]
  rw [putAt_eq _ _ _ (by simp [dfaZero, putAt, hc])]
  simp [dfaZero, putAt, hc, Instr.fill]
end Go.Proofs.YtgjfhmahiiokeaaGreat.Y
