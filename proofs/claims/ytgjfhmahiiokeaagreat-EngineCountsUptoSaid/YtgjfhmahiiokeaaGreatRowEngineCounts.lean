/- The dense way reads and looks up each byte once, the sparse one reads it once and looks it up once to twice, the others count nothing, for texts and lines of bulk at most 1048576 -/
import Derived.Test.YtgjfhmahiiokeaaGreatLaw17
import Derived.Test.YtgjfhmahiiokeaaGreatRowKitY
set_option linter.unusedVariables false
set_option linter.unusedSimpArgs false
set_option linter.unusedVariables false
set_option linter.unusedSimpArgs false
set_option maxRecDepth 8000
namespace Go.Proofs.YtgjfhmahiiokeaaGreat.Y
open Go Go.Sx Go.ChangeShapes Go.WideShapes Go.ChangeAt Go.RowKit Go.Deep
open Go.Proofs.YtgjfhmahiiokeaaGreat

theorem contract_EngineCounts (H : Type) (enc : TypeId × Value → H) (W : World) (base : Nat) (args : Array Value) (ds gs : List (DataW H)) (before : List MemPlace)
    (hval : ∀ (j : Nat) t v, Tryz.f7.params[j]? = some t → args[j]? = some v → Value.okWide Tryz.prog W .any base t v)
    (hW : DataW.Whole enc Tryz.prog Tryz.f7.params.toList Rows.engineCountsSpec.vars false W args.toList ds gs before) (hk : Rows.uptoSmall H (ds ++ gs) = true) :
    Calls Tryz.prog 7 args W fun e W' => ∃ v, e = .returned v ∧ Rows.engineCountsSpec.post enc Tryz.prog Tryz.f7 false true false false W args v W' := by
  have hW' := hW
  obtain ⟨p, q, hA0, hV, rfl, hfz, hnd⟩ := hW
  have hA : DataW.TrodAll enc Tryz.prog W 0 (fun _ => true) true Tryz.f7.params.toList args.toList ds p := hA0
  rw [Tryz.params7] at hA hval
  obtain ⟨v0, vs0, d0, ds0, p0, q0, hargs, rfl, rfl, h0, r0⟩ := trodAll_cons hA
  obtain ⟨v1, vs1, d1, ds1, p1, q1, rfl, rfl, rfl, h1, r1⟩ := trodAll_cons r0
  obtain ⟨v2, vs2, d2, ds2, p2, q2, rfl, rfl, rfl, h2, r2⟩ := trodAll_cons r1
  obtain ⟨v3, vs3, d3, ds3, p3, q3, rfl, rfl, rfl, h3, r3⟩ := trodAll_cons r2
  obtain ⟨rfl, rfl, rfl⟩ := trodAll_nil r3
  obtain rfl : args = #[v0, v1, v2, v3] := by cases args; simp_all
  obtain ⟨rfl, rfl⟩ := trodVars_none hV
  obtain ⟨a0, len0, cap0, rfl⟩ := okWide_slice Tryz.underlying22 (hval 0 22 v0 rfl rfl)
  obtain ⟨a1, len1, cap1, rfl⟩ := okWide_slice Tryz.underlying23 (hval 1 23 v1 rfl rfl)
  obtain ⟨a2, len2, cap2, rfl⟩ := okWide_slice Tryz.underlying23 (hval 2 23 v2 rfl rfl)
  obtain ⟨x3, rfl, rfl, rfl, w3⟩ := open_int Tryz.underlying5 (hval 3 5 v3 rfl rfl) h3
  have h0k := h0
  obtain ⟨fuel0, hf0⟩ := h0
  have h1k := h1
  obtain ⟨fuel1, hf1⟩ := h1
  have h2k := h2
  obtain ⟨fuel2, hf2⟩ := h2
  clear hA0
  simp only [List.append_nil] at hW'
  have hlt0 : ∀ x ∈ p0, x.block < W.heap.size := fun x hx => by simpa using hW'.lt x (by simp [hx])
  have hargs0 : ∀ (W' : World), Below W.heap.size W W' → DataW.Trod enc Tryz.prog W' 0 (fun b => decide (b < W.heap.size)) true 22 (.slice a0 len0 cap0) d0 p0 :=
    fun W' hn => Below.trod laidOut (by kernel_rfl) (of_decide_eq_true (by kernel_rfl)) h0k hn hlt0
  have hlt1 : ∀ x ∈ p1, x.block < W.heap.size := fun x hx => by simpa using hW'.lt x (by simp [hx])
  have hargs1 : ∀ (W' : World), Below W.heap.size W W' → DataW.Trod enc Tryz.prog W' 0 (fun b => decide (b < W.heap.size)) true 23 (.slice a1 len1 cap1) d1 p1 :=
    fun W' hn => Below.trod laidOut (by kernel_rfl) (of_decide_eq_true (by kernel_rfl)) h1k hn hlt1
  have hlt2 : ∀ x ∈ p2, x.block < W.heap.size := fun x hx => by simpa using hW'.lt x (by simp [hx])
  have hargs2 : ∀ (W' : World), Below W.heap.size W W' → DataW.Trod enc Tryz.prog W' 0 (fun b => decide (b < W.heap.size)) true 23 (.slice a2 len2 cap2) d2 p2 :=
    fun W' hn => Below.trod laidOut (by kernel_rfl) (of_decide_eq_true (by kernel_rfl)) h2k hn hlt2
  have hbnd := bulks.bound hk
  simp only [List.cons_append, List.nil_append, Rows.uptoBulkAll] at hbnd
  obtain ⟨l0, hl0, hlim0⟩ := slT_arg (bound := 1048576) Tryz.underlying22 Tryz.underlying23 Tryz.underlying5 (by kernel_rfl) (by kernel_rfl) hf0 (by omega) (bulk_texts (show Rows.uptoBulk d0 ≤ 1048576 by omega))
  obtain ⟨l1, hl1, hlim1⟩ := slB_arg (bound := 1048576) Tryz.underlying23 Tryz.underlying5 (by kernel_rfl) hf1 (by omega) (fun es sp he => (bulk_texts (show Rows.uptoBulk d1 ≤ 1048576 by omega) es sp he).1)
  obtain ⟨l2, hl2, hlim2⟩ := slB_arg (bound := 1048576) Tryz.underlying23 Tryz.underlying5 (by kernel_rfl) hf2 (by omega) (fun es sp he => (bulk_texts (show Rows.uptoBulk d2 ≤ 1048576 by omega) es sp he).1)
  have hb3 := byteI_v w3
  have hh := RET_calls (law17_EngineCounts hl0 hlim0 hl1 hl2 (byteI x3))
  rw [show Value.int .u8 ((byteI x3).toNat : Int) = .int .u8 x3 from hb3] at hh
  refine Calls.mono hh fun e W' he => ?_
  obtain ⟨v, rfl, rfl, hext⟩ := he
  have hnx := ext_below hext
  exact ⟨_, rfl, _, _, _, [], _, [], hW', trodAll_mk1 (shut_bool Tryz.underlying4 _), trodAll_cons_mk (hargs0 _ hnx) (trodAll_cons_mk (hargs1 _ hnx) (trodAll_cons_mk (hargs2 _ hnx) (trodAll_cons_mk (shut_int Tryz.underlying5 w3) trodAll_mk0))), rfl, hnx.frame _, fun h => by cases h⟩

set_option maxRecDepth 100000 in
theorem lifted_EngineCounts (os : Os) (started : os.Started) (H : Type) (enc : TypeId × Value → H) (F : Stop.Interp) :
    ReturnsInHanded {} Tryz.checked os 7 .any ((Rows.OpenSpec.upto Rows.engineCountsSpec).pre6 enc Tryz.prog Tryz.f7 Rows.engineCountsUptoRow.domain false) (((Rows.OpenSpec.upto Rows.engineCountsSpec).at F).post enc Tryz.prog Tryz.f7 false true false false) := by
  refine returnsInHanded_of_cond (C := Tryz.checked) (s := Rows.OpenSpec.upto Rows.engineCountsSpec) (k := Rows.uptoSmall) rfl own started (by kernel_rfl) Tryz.func7
    (OpenSpec.witness (enc := enc) (C := Tryz.checked) (s := Rows.OpenSpec.upto Rows.engineCountsSpec) (k := Rows.uptoSmall) rfl false ⟨#[], #[.slice none 0 0, .slice none 0 0, .slice none 0 0, .int .u8 0], []⟩ 8 (by kernel_rfl) (by kernel_rfl) (by kernel_rfl)
      (x := ([.nil, .nil, .nil, .lit (.int .u8 0)], [], [])) (by kernel_rfl) rfl (by kernel_rfl)) ?_
  intro W base args ds gs before hval hW _ hk _
  exact contract_EngineCounts H enc W base args ds gs before hval hW hk

theorem over_EngineCounts : Rows.engineCountsUptoRow.holds Tryz.pinned (Rows.OpenSpec.upto Rows.engineCountsSpec) :=
  OpenClaim.holds_of_cond 7 Tryz.f7 rfl rfl rfl rfl rfl rfl rfl ⟨rfl, rfl, rfl, rfl, rfl⟩ rfl rfl rfl rfl rfl (by kernel_rfl) Tryz.func7 (by kernel_rfl)
    (of_decide_eq_true (by kernel_rfl)) (by unfold Func.isWrapper; first | (rw [if_pos (by decide +kernel)]; kernel_rfl) | (rw [if_neg (by decide +kernel)]; exact ⟨rfl, rfl⟩))
    (fun os started H enc _ F => lifted_EngineCounts os started H enc F)

theorem proved_EngineCounts : Rows.EngineCountsUptoSaid := over_EngineCounts
end Go.Proofs.YtgjfhmahiiokeaaGreat.Y
#print axioms Go.Proofs.YtgjfhmahiiokeaaGreat.Y.proved_EngineCounts
