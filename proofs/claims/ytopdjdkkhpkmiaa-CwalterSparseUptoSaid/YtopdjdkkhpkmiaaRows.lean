/-
  No cell of these rows narrows 'for every input' (looked for: loops, veiled, ifaces, maps, wideKeys, modest, calm, conditions, laid).
  DERIVED. THE GIVEN ROWS OF THIS SEAT. 6 by the template 'for every input the law returns true; each argument reads behind the call as it read before'; 0 by the template 'total and deterministic' (their statements: YtopdjdkkhpkmiaaTotals.lean).
  GIVEN WITH THE SEED: the statements are not yours to turn. If you find one false, say at which input.
  Laid BY PROGRAM, IN A SANDBOX (cutbox-rows.mjs): the forced cells as the released guide's own fill.sh prints them over the translation ca77cf0340e721e1… (all of the seat's roots in one cut). By AI agents, Wed Nov 11 2026. No macro, syntax, notation, axiom, sorry.
-/
import Derived.Test.YtopdjdkkhpkmiaaChecked
import GoSem.Claim
import GoSem.ClaimJoined
import GoSem.ClaimMapViews
import Derived.JoinedTies
import Derived.KernelRfl
namespace Go.Proofs.Ytopdjdkkhpkmiaa
/- THE CELL 'sum', in the pinned program and in every row, IS THE sha256 OF THE DUMP (.gsa) THAT YtopdjdkkhpkmiaaProg.lean LOADS. Nothing in Lean hashes anything: it is a label: what it is worth is what the hold of that sum in a sandbox is worth. -/
noncomputable def Try.pinned : Pinned := { name := "ytopdjdkkhpkmiaa", sum := "ca77cf0340e721e1d50136bacf6b1d1518ed2f597090f3c2de7c36a7f3bfdbfd", checked := Try.checked }
namespace Rows
def none {H : Type} : Left H := { results := [], args := [] }

/-- 'seinelaw10.DfaClasses': WHATEVER THE INPUT: true; the input reads as it did. -/
def dfaClassesSpec : ChangeSpec := { name := "dfaClasses", fn := fun _ => fun
  | [d1, d2, d3, d4] => { results := [.lit (.bool true)], args := [d1, d2, d3, d4] }
  | _ => none }
def dfaClassesRow : OpenClaim := { program := "ytopdjdkkhpkmiaa", sum := "ca77cf0340e721e1d50136bacf6b1d1518ed2f597090f3c2de7c36a7f3bfdbfd", func := "seine/seinelaw10.DfaClasses", spec := "dfaClasses", unfollowed := true, recurses := true, plainKeys := false, apart := false }
def DfaClassesSaid : Prop := dfaClassesRow.holds Try.pinned (OpenSpec.ofChange dfaClassesSpec)

/-- ITS FALSE NEIGHBOUR: 'it returns false'. Refute it at one input. -/
def dfaClassesWrong : ChangeSpec := { name := "dfaClasses", fn := fun _ => fun
  | [d1, d2, d3, d4] => { results := [.lit (.bool false)], args := [d1, d2, d3, d4] }
  | _ => none }
def DfaClassesWrongFalsely : Prop := dfaClassesRow.holds Try.pinned (OpenSpec.ofChange dfaClassesWrong)

/-- 'seinelaw10.DfaNext': WHATEVER THE INPUT: true; the input reads as it did. -/
def dfaNextSpec : ChangeSpec := { name := "dfaNext", fn := fun _ => fun
  | [d1, d2, d3] => { results := [.lit (.bool true)], args := [d1, d2, d3] }
  | _ => none }
def dfaNextRow : OpenClaim := { program := "ytopdjdkkhpkmiaa", sum := "ca77cf0340e721e1d50136bacf6b1d1518ed2f597090f3c2de7c36a7f3bfdbfd", func := "seine/seinelaw10.DfaNext", spec := "dfaNext", unfollowed := true, recurses := true, plainKeys := false, apart := false }
def DfaNextSaid : Prop := dfaNextRow.holds Try.pinned (OpenSpec.ofChange dfaNextSpec)

/-- ITS FALSE NEIGHBOUR: 'it returns false'. Refute it at one input. -/
def dfaNextWrong : ChangeSpec := { name := "dfaNext", fn := fun _ => fun
  | [d1, d2, d3] => { results := [.lit (.bool false)], args := [d1, d2, d3] }
  | _ => none }
def DfaNextWrongFalsely : Prop := dfaNextRow.holds Try.pinned (OpenSpec.ofChange dfaNextWrong)

/-- 'seinelaw10.DfaCap': WHATEVER THE INPUT: true; the input reads as it did. -/
def dfaCapSpec : ChangeSpec := { name := "dfaCap", fn := fun _ => fun
  | [d1, d2] => { results := [.lit (.bool true)], args := [d1, d2] }
  | _ => none }
def dfaCapRow : OpenClaim := { program := "ytopdjdkkhpkmiaa", sum := "ca77cf0340e721e1d50136bacf6b1d1518ed2f597090f3c2de7c36a7f3bfdbfd", func := "seine/seinelaw10.DfaCap", spec := "dfaCap", unfollowed := true, recurses := true, plainKeys := false, apart := false }
def DfaCapSaid : Prop := dfaCapRow.holds Try.pinned (OpenSpec.ofChange dfaCapSpec)

/-- ITS FALSE NEIGHBOUR: 'it returns false'. Refute it at one input. -/
def dfaCapWrong : ChangeSpec := { name := "dfaCap", fn := fun _ => fun
  | [d1, d2] => { results := [.lit (.bool false)], args := [d1, d2] }
  | _ => none }
def DfaCapWrongFalsely : Prop := dfaCapRow.holds Try.pinned (OpenSpec.ofChange dfaCapWrong)

/-- 'seinelaw13.TwowaySparse': WHATEVER THE INPUT: true; the input reads as it did. -/
def twowaySparseSpec : ChangeSpec := { name := "twowaySparse", fn := fun _ => fun
  | [d1, d2] => { results := [.lit (.bool true)], args := [d1, d2] }
  | _ => none }
def twowaySparseRow : OpenClaim := { program := "ytopdjdkkhpkmiaa", sum := "ca77cf0340e721e1d50136bacf6b1d1518ed2f597090f3c2de7c36a7f3bfdbfd", func := "seine/seinelaw13.TwowaySparse", spec := "twowaySparse", unfollowed := true, recurses := true, plainKeys := false, apart := false }
def TwowaySparseSaid : Prop := twowaySparseRow.holds Try.pinned (OpenSpec.ofChange twowaySparseSpec)

/-- ITS FALSE NEIGHBOUR: 'it returns false'. Refute it at one input. -/
def twowaySparseWrong : ChangeSpec := { name := "twowaySparse", fn := fun _ => fun
  | [d1, d2] => { results := [.lit (.bool false)], args := [d1, d2] }
  | _ => none }
def TwowaySparseWrongFalsely : Prop := twowaySparseRow.holds Try.pinned (OpenSpec.ofChange twowaySparseWrong)

/-- 'seinelaw10.DfaSparse': WHATEVER THE INPUT: true; the input reads as it did. -/
def dfaSparseSpec : ChangeSpec := { name := "dfaSparse", fn := fun _ => fun
  | [d1, d2, d3, d4] => { results := [.lit (.bool true)], args := [d1, d2, d3, d4] }
  | _ => none }
def dfaSparseRow : OpenClaim := { program := "ytopdjdkkhpkmiaa", sum := "ca77cf0340e721e1d50136bacf6b1d1518ed2f597090f3c2de7c36a7f3bfdbfd", func := "seine/seinelaw10.DfaSparse", spec := "dfaSparse", unfollowed := true, recurses := true, plainKeys := false, apart := false }
def DfaSparseSaid : Prop := dfaSparseRow.holds Try.pinned (OpenSpec.ofChange dfaSparseSpec)

/-- ITS FALSE NEIGHBOUR: 'it returns false'. Refute it at one input. -/
def dfaSparseWrong : ChangeSpec := { name := "dfaSparse", fn := fun _ => fun
  | [d1, d2, d3, d4] => { results := [.lit (.bool false)], args := [d1, d2, d3, d4] }
  | _ => none }
def DfaSparseWrongFalsely : Prop := dfaSparseRow.holds Try.pinned (OpenSpec.ofChange dfaSparseWrong)

/-- 'seinelaw16.CwalterSparse': WHATEVER THE INPUT: true; the input reads as it did. -/
def cwalterSparseSpec : ChangeSpec := { name := "cwalterSparse", fn := fun _ => fun
  | [d1, d2, d3] => { results := [.lit (.bool true)], args := [d1, d2, d3] }
  | _ => none }
def cwalterSparseRow : OpenClaim := { program := "ytopdjdkkhpkmiaa", sum := "ca77cf0340e721e1d50136bacf6b1d1518ed2f597090f3c2de7c36a7f3bfdbfd", func := "seine/seinelaw16.CwalterSparse", spec := "cwalterSparse", unfollowed := true, recurses := true, plainKeys := false, apart := false }
def CwalterSparseSaid : Prop := cwalterSparseRow.holds Try.pinned (OpenSpec.ofChange cwalterSparseSpec)

/-- ITS FALSE NEIGHBOUR: 'it returns false'. Refute it at one input. -/
def cwalterSparseWrong : ChangeSpec := { name := "cwalterSparse", fn := fun _ => fun
  | [d1, d2, d3] => { results := [.lit (.bool false)], args := [d1, d2, d3] }
  | _ => none }
def CwalterSparseWrongFalsely : Prop := cwalterSparseRow.holds Try.pinned (OpenSpec.ofChange cwalterSparseWrong)

/- THE SECOND FORM. 'bulk': how many values and letters a reading holds, each counted each time it is reached (what is shared counts as often as it is met; a slice's spare places count too). A statement '..UptoSaid' is the law's where the arguments, and the package variables that the reading takes, are together of bulk at most 1048576: NARROWER than '..Said'. Prove '..Said' where nothing that the law and all that it calls make is longer than what came in: it says more and counts as full. Else prove '..UptoSaid'. A law counts once. -/
mutual
def uptoBulk {H : Type} : DataW H → Nat
  | .lit (.string bytes) => bytes.length + 1
  | .lit _ => 1
  | .nil => 1
  | .ptr d => uptoBulk d + 1
  | .slice elems spare => uptoBulkAll elems + uptoBulkAll spare + 1
  | .agg parts => uptoBulkAll parts + 1
  | .iface _ d => uptoBulk d + 1
  | .map entries => uptoBulkEntries entries + 1
  | .held _ => 1
def uptoBulkAll {H : Type} : List (DataW H) → Nat
  | [] => 0
  | d :: r => uptoBulk d + uptoBulkAll r
def uptoBulkEntries {H : Type} : List (Lit × DataW H) → Nat
  | [] => 0
  | x :: r => uptoBulkEntry x + uptoBulkEntries r
def uptoBulkEntry {H : Type} : Lit × DataW H → Nat
  | (.string bytes, d) => bytes.length + uptoBulk d + 1
  | (_, d) => uptoBulk d + 1
 end
def uptoSmall : (H : Type) → List (DataW H) → Bool := fun _ ds => decide (uptoBulkAll ds ≤ 1048576)
def OpenSpec.upto (s : _root_.Go.ChangeSpec) : _root_.Go.OpenSpec := { _root_.Go.OpenSpec.ofChange s with cond := some uptoSmall }

/-- 'seinelaw10.DfaClasses', WHERE WHAT IT READS IS OF BULK AT MOST 1048576: true; the input reads as it did. -/
def dfaClassesUptoRow : OpenClaim := { program := "ytopdjdkkhpkmiaa", sum := "ca77cf0340e721e1d50136bacf6b1d1518ed2f597090f3c2de7c36a7f3bfdbfd", func := "seine/seinelaw10.DfaClasses", spec := "dfaClasses", unfollowed := true, recurses := true, plainKeys := false, apart := false, narrowed := true }
def DfaClassesUptoSaid : Prop := dfaClassesUptoRow.holds Try.pinned (OpenSpec.upto dfaClassesSpec)

/-- 'seinelaw10.DfaNext', WHERE WHAT IT READS IS OF BULK AT MOST 1048576: true; the input reads as it did. -/
def dfaNextUptoRow : OpenClaim := { program := "ytopdjdkkhpkmiaa", sum := "ca77cf0340e721e1d50136bacf6b1d1518ed2f597090f3c2de7c36a7f3bfdbfd", func := "seine/seinelaw10.DfaNext", spec := "dfaNext", unfollowed := true, recurses := true, plainKeys := false, apart := false, narrowed := true }
def DfaNextUptoSaid : Prop := dfaNextUptoRow.holds Try.pinned (OpenSpec.upto dfaNextSpec)

/-- 'seinelaw10.DfaCap', WHERE WHAT IT READS IS OF BULK AT MOST 1048576: true; the input reads as it did. -/
def dfaCapUptoRow : OpenClaim := { program := "ytopdjdkkhpkmiaa", sum := "ca77cf0340e721e1d50136bacf6b1d1518ed2f597090f3c2de7c36a7f3bfdbfd", func := "seine/seinelaw10.DfaCap", spec := "dfaCap", unfollowed := true, recurses := true, plainKeys := false, apart := false, narrowed := true }
def DfaCapUptoSaid : Prop := dfaCapUptoRow.holds Try.pinned (OpenSpec.upto dfaCapSpec)

/-- 'seinelaw13.TwowaySparse', WHERE WHAT IT READS IS OF BULK AT MOST 1048576: true; the input reads as it did. -/
def twowaySparseUptoRow : OpenClaim := { program := "ytopdjdkkhpkmiaa", sum := "ca77cf0340e721e1d50136bacf6b1d1518ed2f597090f3c2de7c36a7f3bfdbfd", func := "seine/seinelaw13.TwowaySparse", spec := "twowaySparse", unfollowed := true, recurses := true, plainKeys := false, apart := false, narrowed := true }
def TwowaySparseUptoSaid : Prop := twowaySparseUptoRow.holds Try.pinned (OpenSpec.upto twowaySparseSpec)

/-- 'seinelaw10.DfaSparse', WHERE WHAT IT READS IS OF BULK AT MOST 1048576: true; the input reads as it did. -/
def dfaSparseUptoRow : OpenClaim := { program := "ytopdjdkkhpkmiaa", sum := "ca77cf0340e721e1d50136bacf6b1d1518ed2f597090f3c2de7c36a7f3bfdbfd", func := "seine/seinelaw10.DfaSparse", spec := "dfaSparse", unfollowed := true, recurses := true, plainKeys := false, apart := false, narrowed := true }
def DfaSparseUptoSaid : Prop := dfaSparseUptoRow.holds Try.pinned (OpenSpec.upto dfaSparseSpec)

/-- 'seinelaw16.CwalterSparse', WHERE WHAT IT READS IS OF BULK AT MOST 1048576: true; the input reads as it did. -/
def cwalterSparseUptoRow : OpenClaim := { program := "ytopdjdkkhpkmiaa", sum := "ca77cf0340e721e1d50136bacf6b1d1518ed2f597090f3c2de7c36a7f3bfdbfd", func := "seine/seinelaw16.CwalterSparse", spec := "cwalterSparse", unfollowed := true, recurses := true, plainKeys := false, apart := false, narrowed := true }
def CwalterSparseUptoSaid : Prop := cwalterSparseUptoRow.holds Try.pinned (OpenSpec.upto cwalterSparseSpec)

end Rows
end Go.Proofs.Ytopdjdkkhpkmiaa
