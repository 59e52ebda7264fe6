import Derived.Test.YtopdjdkkhpkmiaaGen2
set_option linter.unusedVariables false
set_option linter.unusedSimpArgs false
namespace Go.Sx
open Go
/-- What is claimed at the end is kept out of sight till then. -/
theorem RET_by {P : Program} {f : FuncId} {args : List Value} {w : World} {R : Value → World → Prop} (h : ∀ R' : Value → World → Prop, (∀ v w', R v w' → R' v w') → RET P f args w R') : RET P f args w R := h R fun _ _ h => h

theorem SlI.chg {S : Nat → Prop} {w w' : World} {v : Value} {l : List Int} (h : SlI w v l) (hc : Chg S w w') (hs : ∀ k, v.ownBlock = some k → ¬ S k) : SlI w' v l := by
  obtain ⟨A, c, rfl, h2, h3⟩ := h
  exact ⟨A, c, rfl, h2.chg hc (fun a ha => hs _ (by subst ha; rfl)), h3⟩
theorem SlB.chg {S : Nat → Prop} {w w' : World} {v : Value} {l : List UInt8} (h : SlB w v l) (hc : Chg S w w') (hs : ∀ k, v.ownBlock = some k → ¬ S k) : SlB w' v l := by
  obtain ⟨A, c, rfl, h2, h3⟩ := h
  exact ⟨A, c, rfl, h2.chg hc (fun a ha => hs _ (by subst ha; rfl)), h3⟩
theorem SlG.chg {α : Type} {enc : α → List Value} {S : Nat → Prop} {w w' : World} {v : Value} {l : List α} (h : SlG enc w v l) (hc : Chg S w w') (hs : ∀ k, v.ownBlock = some k → ¬ S k) : SlG enc w' v l := by
  obtain ⟨A, c, rfl, h2, h3⟩ := h
  exact ⟨A, c, rfl, h2.chg hc (fun a ha => hs _ (by subst ha; rfl)), h3⟩
end Go.Sx
