/- What TwowaySparse says is proved for every input whose bulk is at most 1048576 (the second form of the statement): what is found of one text is what an automaton of that text finds. -/
import Derived.Test.YtopdjdkkhpkmiaaLaw13
import Derived.Test.YtopdjdkkhpkmiaaRowKitY
set_option linter.unusedVariables false
set_option linter.unusedSimpArgs false
set_option maxRecDepth 8000
namespace Go.Proofs.Ytopdjdkkhpkmiaa.Y
open Go Go.Sx Go.ChangeShapes Go.WideShapes Go.ChangeAt Go.RowKit Go.Deep
open Go.Proofs.Ytopdjdkkhpkmiaa

theorem contract_TwowaySparse (H : Type) (enc : TypeId × Value → H) (W : World) (base : Nat) (args : Array Value) (ds gs : List (DataW H)) (before : List MemPlace)
    (hval : ∀ (j : Nat) t v, Try.f6.params[j]? = some t → args[j]? = some v → Value.okWide Try.prog W .any base t v)
    (hW : DataW.Whole enc Try.prog Try.f6.params.toList Rows.twowaySparseSpec.vars false W args.toList ds gs before) (hk : Rows.uptoSmall H (ds ++ gs) = true) :
    Calls Try.prog 6 args W fun e W' => ∃ v, e = .returned v ∧ Rows.twowaySparseSpec.post enc Try.prog Try.f6 false true false false W args v W' := by
  have hW' := hW
  obtain ⟨p, q, hA0, hV, rfl, hfz, hnd⟩ := hW
  have hA : DataW.TrodAll enc Try.prog W 0 (fun _ => true) true Try.f6.params.toList args.toList ds p := hA0
  rw [Try.params6] at hA hval
  obtain ⟨v0, vs0, d0, ds0, p0, q0, hargs, rfl, rfl, h0, r0⟩ := trodAll_cons hA
  obtain ⟨v1, vs1, d1, ds1, p1, q1, rfl, rfl, rfl, h1, r1⟩ := trodAll_cons r0
  obtain ⟨rfl, rfl, rfl⟩ := trodAll_nil r1
  obtain rfl : args = #[v0, v1] := by cases args; simp_all
  obtain ⟨rfl, rfl⟩ := trodVars_none hV
  obtain ⟨a0, len0, cap0, rfl⟩ := okWide_slice Try.underlying42 (hval 0 42 v0 rfl rfl)
  obtain ⟨a1, len1, cap1, rfl⟩ := okWide_slice Try.underlying42 (hval 1 42 v1 rfl rfl)
  have h0k := h0
  obtain ⟨fuel0, hf0⟩ := h0
  have h1k := h1
  obtain ⟨fuel1, hf1⟩ := h1
  clear hA0
  simp only [List.append_nil] at hW'
  have hlt0 : ∀ x ∈ p0, x.block < W.heap.size := fun x hx => by simpa using hW'.lt x (by simp [hx])
  have hargs0 : ∀ (W' : World), Below W.heap.size W W' → DataW.Trod enc Try.prog W' 0 (fun b => decide (b < W.heap.size)) true 42 (.slice a0 len0 cap0) d0 p0 :=
    fun W' hn => Below.trod laidOut (by kernel_rfl) (of_decide_eq_true (by kernel_rfl)) h0k hn hlt0
  have hlt1 : ∀ x ∈ p1, x.block < W.heap.size := fun x hx => by simpa using hW'.lt x (by simp [hx])
  have hargs1 : ∀ (W' : World), Below W.heap.size W W' → DataW.Trod enc Try.prog W' 0 (fun b => decide (b < W.heap.size)) true 42 (.slice a1 len1 cap1) d1 p1 :=
    fun W' hn => Below.trod laidOut (by kernel_rfl) (of_decide_eq_true (by kernel_rfl)) h1k hn hlt1
  have hbnd := bulks.bound hk
  simp only [List.cons_append, List.nil_append, Rows.uptoBulkAll] at hbnd
  obtain ⟨l0, hl0, hlim0⟩ := slB_arg (bound := 1048576) Try.underlying42 Try.underlying5 (by kernel_rfl) hf0 (by omega) (fun es sp he => (bulk_texts (show Rows.uptoBulk d0 ≤ 1048576 by omega) es sp he).1)
  obtain ⟨l1, hl1, hlim1⟩ := slB_arg (bound := 1048576) Try.underlying42 Try.underlying5 (by kernel_rfl) hf1 (by omega) (fun es sp he => (bulk_texts (show Rows.uptoBulk d1 ≤ 1048576 by omega) es sp he).1)
  have hh := RET_calls (law13_TwowaySparse hl0 hl1)
  refine Calls.mono hh fun e W' he => ?_
  obtain ⟨v, rfl, rfl, hext⟩ := he
  have hnx := ext_below hext
  exact ⟨_, rfl, _, _, _, [], _, [], hW', trodAll_mk1 (shut_bool Try.underlying4 _), trodAll_cons_mk (hargs0 _ hnx) (trodAll_cons_mk (hargs1 _ hnx) trodAll_mk0), rfl, hnx.frame _, fun h => by cases h⟩

set_option maxRecDepth 100000 in
theorem lifted_TwowaySparse (os : Os) (started : os.Started) (H : Type) (enc : TypeId × Value → H) (F : Stop.Interp) :
    ReturnsInHanded {} Try.checked os 6 .any ((Rows.OpenSpec.upto Rows.twowaySparseSpec).pre6 enc Try.prog Try.f6 Rows.twowaySparseUptoRow.domain false) (((Rows.OpenSpec.upto Rows.twowaySparseSpec).at F).post enc Try.prog Try.f6 false true false false) := by
  refine returnsInHanded_of_cond (C := Try.checked) (s := Rows.OpenSpec.upto Rows.twowaySparseSpec) (k := Rows.uptoSmall) rfl own started (by kernel_rfl) Try.func6
    (OpenSpec.witness (enc := enc) (C := Try.checked) (s := Rows.OpenSpec.upto Rows.twowaySparseSpec) (k := Rows.uptoSmall) rfl false ⟨#[], #[.slice none 0 0, .slice none 0 0], []⟩ 8 (by kernel_rfl) (by kernel_rfl) (by kernel_rfl)
      (x := ([.nil, .nil], [], [])) (by kernel_rfl) rfl (by kernel_rfl)) ?_
  intro W base args ds gs before hval hW _ hk _
  exact contract_TwowaySparse H enc W base args ds gs before hval hW hk

theorem over_TwowaySparse : Rows.twowaySparseUptoRow.holds Try.pinned (Rows.OpenSpec.upto Rows.twowaySparseSpec) :=
  OpenClaim.holds_of_cond 6 Try.f6 rfl rfl rfl rfl rfl rfl rfl ⟨rfl, rfl, rfl, rfl, rfl⟩ rfl rfl rfl rfl rfl (by kernel_rfl) Try.func6 (by kernel_rfl)
    (of_decide_eq_true (by kernel_rfl)) (by unfold Func.isWrapper; first | (rw [if_pos (by decide +kernel)]; kernel_rfl) | (rw [if_neg (by decide +kernel)]; exact ⟨rfl, rfl⟩))
    (fun os started H enc _ F => lifted_TwowaySparse os started H enc F)

theorem proved_TwowaySparse : Rows.TwowaySparseUptoSaid := over_TwowaySparse
end Go.Proofs.Ytopdjdkkhpkmiaa.Y
#print axioms Go.Proofs.Ytopdjdkkhpkmiaa.Y.proved_TwowaySparse
