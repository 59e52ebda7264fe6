import Derived.Test.YtgjfhmahiiokeaaGreatRefsB
import Derived.Test.YtgjfhmahiiokeaaGreatRefsP
import Derived.Test.YtgjfhmahiiokeaaGreatClasses
set_option linter.unusedVariables false
set_option linter.unusedSimpArgs false
set_option linter.unusedVariables false
set_option linter.unusedSimpArgs false
set_option maxRecDepth 8000
namespace Go.Proofs.YtgjfhmahiiokeaaGreat.Y
open Go Go.Sx

section
variable {w : World}

theorem slB_one {w : World} {g : Nat} {c : UInt8} (ho : Own w g [.int .u8 (c.toNat : Nat)] 5) : SlB w (.slice (some ⟨g, 0, none⟩) 1 1) [c] :=
  ⟨_, 1, rfl, Rd.own ho 0 (fun i v hv => by simpa [vB] using hv), by simp, by simp⟩

def inB (a : List UInt8) (x : Nat) : Bool := decide (∃ c ∈ a, x = c.toNat)

/-- All texts, one behind the other. -/
def allM : List (List UInt8) → List UInt8
  | [] => []
  | t :: r => t ++ allM r
theorem allM_app (l m : List (List UInt8)) : allM (l ++ m) = allM l ++ allM m := by
  induction l with
  | nil => rfl
  | cons t l ih => simp [allM, ih]
theorem allM_mem (c : UInt8) (l : List (List UInt8)) : c ∈ allM l ↔ ∃ t ∈ l, c ∈ t := by
  induction l with
  | nil => simp [allM]
  | cons t l ih => simp [allM, ih]
theorem allM_len (l : List (List UInt8)) : (allM l).length = sumL l := by
  induction l with
  | nil => rfl
  | cons t l ih => simp [allM, sumL, ih]
end
end Go.Proofs.YtgjfhmahiiokeaaGreat.Y
