import Derived.Test.YtgjfhmahiiokeaaGreatArg
import Derived.Test.YtgjfhmahiiokeaaGreatTab
import Derived.Test.YtgjfhmahiiokeaaGreatSh
set_option linter.unusedVariables false
set_option linter.unusedSimpArgs false
set_option linter.unusedVariables false
set_option linter.unusedSimpArgs false
set_option maxRecDepth 8000
namespace Go.Proofs.YtgjfhmahiiokeaaGreat.Y
open Go Go.Sx Go.ChangeShapes Go.WideShapes Go.ChangeAt Go.RowKit Go.Deep
open Go.Proofs.YtgjfhmahiiokeaaGreat

theorem own : ownKnob Tryz.prog.godebug = none := by kernel_rfl
theorem laidOut : laidOutB Tryz.prog = true := by kernel_rfl

/-- What the bound says of texts. -/
theorem bulk_texts {H : Type} {d : DataW H} {bound : Nat} (hb : Rows.uptoBulk d ≤ bound) : ∀ es sp, d = .slice es sp → es.length ≤ bound ∧ ∀ d' ∈ es, ∀ es' sp', d' = .slice es' sp' → es'.length ≤ bound := by
  rintro es sp rfl
  have h1 := bulks.slice_le es sp
  refine ⟨by omega, ?_⟩
  rintro d' hd es' sp' rfl
  have h2 := bulks.part_le hd
  have h3 := bulks.slice_elems es sp
  have h4 := bulks.slice_le es' sp'
  omega

end Go.Proofs.YtgjfhmahiiokeaaGreat.Y
