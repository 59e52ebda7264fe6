import Derived.Test.YtgjfhmahiiokeaaGreatPairs
import Derived.Test.YtgjfhmahiiokeaaGreatStrs
set_option linter.unusedVariables false
set_option linter.unusedSimpArgs false
set_option linter.unusedVariables false
set_option linter.unusedSimpArgs false
set_option maxRecDepth 8000
namespace Go.Proofs.YtgjfhmahiiokeaaGreat.Y
open Go Go.Sx

theorem sumL_le : ∀ (ls : List (List UInt8)) (m : Nat), (∀ t ∈ ls, t.length ≤ m) → sumL ls ≤ ls.length * m
  | [], _, _ => by simp [sumL]
  | b :: r, m, h => by
    have := sumL_le r m (fun t ht => h t (List.mem_cons_of_mem _ ht))
    have := h b (by simp)
    simp only [sumL, List.length_cons, Nat.add_mul]
    omega

section
variable {w : World}

theorem slP_cell {w : World} {A : Option Addr} {n c : Nat} {l : List (Int × Int)} (h : SlG pcells w (.slice A n c) l) {i : Nat} (hi : i < l.length) : ∃ b o, A = some ⟨b, o, none⟩ ∧ cellsAt w b (o + i * 2) 2 = some (pcells l[i]) := by
  obtain ⟨b, o, c', he, hc⟩ := h.at pcells_len (by omega) hi
  injection he with e1
  refine ⟨b, o, e1, ?_⟩
  have h0 := hc 0 (by omega) _ rfl
  have h1 := hc 1 (by omega) _ rfl
  simp only [cellsAt]
  rw [Nat.add_zero] at h0
  rw [h0, h1]
  rfl

theorem ref03_Same {av bv : Value} {la lb : List (Int × Int)} (ha : SlG pcells w av la) (hb : SlG pcells w bv lb) : RET Tryz.prog 12 [av, bv] w fun v w' => v = .bool (decide (la = lb)) ∧ Ext w w' := by
  have hla := ha.len
  obtain ⟨Aa, ca, rfl⟩ := ha.shape
  obtain ⟨Ab, cb, rfl⟩ := hb.shape
  refine RET_by fun R k => ?_
  apply by_seineref03_Same
  unfold sh_seineref03_Same
  by_cases hl : la.length = lb.length
  · have hl' : ((la.length : Nat) : Int) = ((lb.length : Nat) : Int) := by omega
    simp (disch := omega) only [SX, Nat.reduceAdd, hl']
    refine ⟨fun iv w1 => ∃ i : Nat, iv = .int .i64 i ∧ i ≤ la.length ∧ la.take i = lb.take i ∧ Ext w w1, fun iv _ => la.length - vnat iv, ⟨0, rfl, Nat.zero_le _, rfl, Ext.refl w⟩, ?_⟩
    rintro iv w1 ⟨i, rfl, hi, ht, he⟩
    by_cases hlt : i < la.length
    · have hlt' : (i : Int) < ((lb.length : Nat) : Int) := by omega
      obtain ⟨b1, o1, rfl, h1⟩ := slP_cell (ha.ext he) hlt
      obtain ⟨b2, o2, rfl, h2⟩ := slP_cell (hb.ext he) (show i < lb.length by omega)
      simp (disch := omega) only [DRAWQ, SX, Nat.reduceAdd, hlt']
      rw [RA_57 h1, RA_57 h2]
      have hne : ∀ (ox oy : Operand) (K : Value → Prop), PURE Tryz.prog (BINS .neq 57 ox oy (.agg (pcells la[i]).toArray) (.agg (pcells (lb[i]'(by omega))).toArray)) K = K (.bool (!decide (la[i] = lb[i]'(by omega)))) := by
        intro ox oy K
        have : (decide (la[i] = lb[i]'(by omega))) = (decide (la[i].1 = (lb[i]'(by omega)).1) && (decide (la[i].2 = (lb[i]'(by omega)).2) && true)) := by
          rw [Bool.and_true, ← Bool.decide_and, decide_eq_decide, Prod.ext_iff]
        rw [this]
        exact NE_57
      rw [hne]
      have e1 : la.take (i + 1) = la.take i ++ [la[i]] := List.take_succ_eq_append_getElem hlt
      have e2 : lb.take (i + 1) = lb.take i ++ [lb[i]'(by omega)] := List.take_succ_eq_append_getElem (by omega)
      by_cases hx : la[i] = lb[i]'(by omega)
      · simp (disch := omega) only [SX, Nat.reduceAdd, hx]
        refine ⟨⟨i + 1, by simp, by omega, by rw [e1, e2, ht, hx], he.trans (Ext.drew _)⟩, by simp only [vnat_int]; omega⟩
      · simp (disch := omega) only [SX, Nat.reduceAdd, hx]
        refine k _ _ ⟨?_, he.trans (Ext.drew _)⟩
        have : ¬ la = lb := by
          rintro rfl
          exact hx rfl
        simp [this]
    · have hlt' : ¬ (i : Int) < ((lb.length : Nat) : Int) := by omega
      simp (disch := omega) only [SX, Nat.reduceAdd, hlt']
      refine k _ _ ⟨?_, he⟩
      rw [List.take_of_length_le (by omega), List.take_of_length_le (by omega)] at ht
      simp [ht]
  · have hl' : ¬ ((la.length : Nat) : Int) = ((lb.length : Nat) : Int) := by omega
    simp (disch := omega) only [SX, Nat.reduceAdd, hl']
    refine k _ _ ⟨?_, Ext.refl w⟩
    have : ¬ la = lb := by rintro rfl; exact hl rfl
    simp [this]
end
end Go.Proofs.YtgjfhmahiiokeaaGreat.Y
