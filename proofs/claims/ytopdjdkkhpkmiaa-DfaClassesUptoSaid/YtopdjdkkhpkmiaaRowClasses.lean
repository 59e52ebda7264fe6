/- The statement of DfaClasses, where what it reads is of bulk at most 1048576: bytes of one class lead to one state; no condition else. -/
import Derived.Test.YtopdjdkkhpkmiaaLaw10C
import Derived.Test.YtopdjdkkhpkmiaaArg
set_option linter.unusedVariables false
set_option linter.unusedSimpArgs false
set_option maxRecDepth 8000
namespace Go.Proofs.Ytopdjdkkhpkmiaa.Y
open Go Go.Sx Go.ChangeShapes Go.WideShapes Go.ChangeAt Go.RowKit Go.Deep
open Go.Proofs.Ytopdjdkkhpkmiaa

theorem own : ownKnob Try.prog.godebug = none := by kernel_rfl
theorem laidOut : laidOutB Try.prog = true := by kernel_rfl

/-- What the bound says of texts. -/
theorem bulk_texts {H : Type} {d : DataW H} {bound : Nat} (hb : Rows.uptoBulk d ≤ bound) : ∀ es sp, d = .slice es sp → es.length ≤ bound ∧ ∀ d' ∈ es, ∀ es' sp', d' = .slice es' sp' → es'.length ≤ bound := by
  rintro es sp rfl
  have h1 := bulks.slice_le es sp
  refine ⟨by omega, ?_⟩
  rintro d' hd es' sp' rfl
  have h2 := bulks.part_le hd
  have h3 := bulks.slice_elems es sp
  have h4 := bulks.slice_le es' sp'
  omega

theorem contract_DfaClasses (H : Type) (enc : TypeId × Value → H) (W : World) (base : Nat) (args : Array Value) (ds gs : List (DataW H)) (before : List MemPlace)
    (hval : ∀ (j : Nat) t v, Try.f3.params[j]? = some t → args[j]? = some v → Value.okWide Try.prog W .any base t v)
    (hW : DataW.Whole enc Try.prog Try.f3.params.toList Rows.dfaClassesSpec.vars false W args.toList ds gs before) (hk : Rows.uptoSmall H (ds ++ gs) = true) :
    Calls Try.prog 3 args W fun e W' => ∃ v, e = .returned v ∧ Rows.dfaClassesSpec.post enc Try.prog Try.f3 false true false false W args v W' := by
  have hW' := hW
  obtain ⟨p, q, hA0, hV, rfl, hfz, hnd⟩ := hW
  have hA : DataW.TrodAll enc Try.prog W 0 (fun _ => true) true Try.f3.params.toList args.toList ds p := hA0
  rw [Try.params3] at hA hval
  obtain ⟨v0, vs0, d0, ds0, p0, q0, hargs, rfl, rfl, h0, r0⟩ := trodAll_cons hA
  obtain ⟨v1, vs1, d1, ds1, p1, q1, rfl, rfl, rfl, h1, r1⟩ := trodAll_cons r0
  obtain ⟨v2, vs2, d2, ds2, p2, q2, rfl, rfl, rfl, h2, r2⟩ := trodAll_cons r1
  obtain ⟨v3, vs3, d3, ds3, p3, q3, rfl, rfl, rfl, h3, r3⟩ := trodAll_cons r2
  obtain ⟨rfl, rfl, rfl⟩ := trodAll_nil r3
  obtain rfl : args = #[v0, v1, v2, v3] := by cases args; simp_all
  obtain ⟨rfl, rfl⟩ := trodVars_none hV
  obtain ⟨a0, len, cap, rfl⟩ := okWide_slice Try.underlying22 (hval 0 22 v0 rfl rfl)
  obtain ⟨s, rfl, rfl, rfl, w1⟩ := open_int Try.underlying3 (hval 1 3 v1 rfl rfl) h1
  obtain ⟨a, rfl, rfl, rfl, w2⟩ := open_int Try.underlying5 (hval 2 5 v2 rfl rfl) h2
  obtain ⟨b, rfl, rfl, rfl, w3⟩ := open_int Try.underlying5 (hval 3 5 v3 rfl rfl) h3
  have h0k := h0
  obtain ⟨fuel, hf⟩ := h0
  clear hA0
  simp only [List.append_nil] at hW'
  have hlt : ∀ x ∈ p0, x.block < W.heap.size := fun x hx => by simpa using hW'.lt x (by simp [hx])
  have hargs : ∀ (W' : World), Below W.heap.size W W' → DataW.Trod enc Try.prog W' 0 (fun b => decide (b < W.heap.size)) true 22 (.slice a0 len cap) d0 p0 :=
    fun W' hn => Below.trod laidOut (by kernel_rfl) (of_decide_eq_true (by kernel_rfl)) h0k hn hlt
  have hbnd := bulks.bound hk
  simp only [List.cons_append, List.nil_append, Rows.uptoBulkAll] at hbnd
  obtain ⟨ls, hls, hlim⟩ := slT_arg (bound := 1048576) Try.underlying22 Try.underlying42 Try.underlying5 (by kernel_rfl) (by kernel_rfl) hf (by omega) (bulk_texts (show Rows.uptoBulk d0 ≤ 1048576 by omega))
  have ha := byteI_v w2
  have hb := byteI_v w3
  have hh := RET_calls (law10_DfaClasses hls (by omega) s (byteI a) (byteI b))
  rw [show Value.int .u8 ((byteI a).toNat : Int) = .int .u8 a from ha, show Value.int .u8 ((byteI b).toNat : Int) = .int .u8 b from hb] at hh
  refine Calls.mono hh fun e W' he => ?_
  obtain ⟨v, rfl, rfl, hext⟩ := he
  have hnx := ext_below hext
  exact ⟨_, rfl, _, _, _, [], _, [], hW', trodAll_mk1 (shut_bool Try.underlying4 _), trodAll_cons_mk (hargs _ hnx) (trodAll_cons_mk (shut_int Try.underlying3 w1) (trodAll_cons_mk (shut_int Try.underlying5 w2) (trodAll_cons_mk (shut_int Try.underlying5 w3) trodAll_mk0))), rfl, hnx.frame _, fun h => by cases h⟩

set_option maxRecDepth 100000 in
theorem lifted_DfaClasses (os : Os) (started : os.Started) (H : Type) (enc : TypeId × Value → H) (F : Stop.Interp) :
    ReturnsInHanded {} Try.checked os 3 .any ((Rows.OpenSpec.upto Rows.dfaClassesSpec).pre6 enc Try.prog Try.f3 Rows.dfaClassesUptoRow.domain false) (((Rows.OpenSpec.upto Rows.dfaClassesSpec).at F).post enc Try.prog Try.f3 false true false false) := by
  refine returnsInHanded_of_cond (C := Try.checked) (s := Rows.OpenSpec.upto Rows.dfaClassesSpec) (k := Rows.uptoSmall) rfl own started (by kernel_rfl) Try.func3
    (OpenSpec.witness (enc := enc) (C := Try.checked) (s := Rows.OpenSpec.upto Rows.dfaClassesSpec) (k := Rows.uptoSmall) rfl false ⟨#[], #[.slice none 0 0, .int .i64 0, .int .u8 0, .int .u8 0], []⟩ 8 (by kernel_rfl) (by kernel_rfl) (by kernel_rfl)
      (x := ([.nil, .lit (.int .i64 0), .lit (.int .u8 0), .lit (.int .u8 0)], [], [])) (by kernel_rfl) rfl (by kernel_rfl)) ?_
  intro W base args ds gs before hval hW _ hk _
  exact contract_DfaClasses H enc W base args ds gs before hval hW hk

theorem over_DfaClasses : Rows.dfaClassesUptoRow.holds Try.pinned (Rows.OpenSpec.upto Rows.dfaClassesSpec) :=
  OpenClaim.holds_of_cond 3 Try.f3 rfl rfl rfl rfl rfl rfl rfl ⟨rfl, rfl, rfl, rfl, rfl⟩ rfl rfl rfl rfl rfl (by kernel_rfl) Try.func3 (by kernel_rfl)
    (of_decide_eq_true (by kernel_rfl)) (by unfold Func.isWrapper; first | (rw [if_pos (by decide +kernel)]; kernel_rfl) | (rw [if_neg (by decide +kernel)]; exact ⟨rfl, rfl⟩))
    (fun os started H enc _ F => lifted_DfaClasses os started H enc F)

theorem proved_DfaClasses : Rows.DfaClassesUptoSaid := over_DfaClasses
end Go.Proofs.Ytopdjdkkhpkmiaa.Y
#print axioms Go.Proofs.Ytopdjdkkhpkmiaa.Y.proved_DfaClasses
