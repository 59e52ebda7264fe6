import Derived.Test.YtopdjdkkhpkmiaaDfaF
import Derived.Test.YtopdjdkkhpkmiaaLib
import Derived.Test.YtopdjdkkhpkmiaaStrs
set_option linter.unusedVariables false
set_option linter.unusedSimpArgs false
set_option linter.unusedVariables false
set_option linter.unusedSimpArgs false
set_option maxRecDepth 8000
namespace Go.Proofs.Ytopdjdkkhpkmiaa.Y
open Go Go.Sx

theorem sumL_le : ∀ (ls : List (List UInt8)) (m : Nat), (∀ t ∈ ls, t.length ≤ m) → sumL ls ≤ ls.length * m
  | [], _, _ => by simp [sumL]
  | b :: r, m, h => by
    have := sumL_le r m (fun t ht => h t (List.mem_cons_of_mem _ ht))
    have := h b (by simp)
    simp only [sumL, List.length_cons, Nat.add_mul]
    omega

section
variable {w : World}

theorem slP_cell {w : World} {A : Option Addr} {n c : Nat} {l : List (Int × Int)} (h : SlG pcells w (.slice A n c) l) {i : Nat} (hi : i < l.length) : ∃ b o, A = some ⟨b, o, none⟩ ∧ cellsAt w b (o + i * 2) 2 = some (pcells l[i]) := by
  obtain ⟨b, o, c', he, hc⟩ := h.at pcells_len (by omega) hi
  injection he with e1
  refine ⟨b, o, e1, ?_⟩
  have h0 := hc 0 (by omega) _ rfl
  have h1 := hc 1 (by omega) _ rfl
  simp only [cellsAt]
  rw [Nat.add_zero] at h0
  rw [h0, h1]
  rfl

theorem ref03_Same {av bv : Value} {la lb : List (Int × Int)} (ha : SlG pcells w av la) (hb : SlG pcells w bv lb) : RET Try.prog 30 [av, bv] w fun v w' => v = .bool (decide (la = lb)) ∧ Ext w w' := by
  have hla := ha.len
  obtain ⟨Aa, ca, rfl⟩ := ha.shape
  obtain ⟨Ab, cb, rfl⟩ := hb.shape
  refine RET_by fun R k => ?_
  apply by_seineref03_Same
  unfold sh_seineref03_Same
  by_cases hl : la.length = lb.length
  · have hl' : ((la.length : Nat) : Int) = ((lb.length : Nat) : Int) := by omega
    simp (disch := omega) only [SX, Nat.reduceAdd, hl']
    refine ⟨fun iv w1 => ∃ i : Nat, iv = .int .i64 i ∧ i ≤ la.length ∧ la.take i = lb.take i ∧ Ext w w1, fun iv _ => la.length - vnat iv, ⟨0, rfl, Nat.zero_le _, rfl, Ext.refl w⟩, ?_⟩
    rintro iv w1 ⟨i, rfl, hi, ht, he⟩
    by_cases hlt : i < la.length
    · have hlt' : (i : Int) < ((lb.length : Nat) : Int) := by omega
      obtain ⟨b1, o1, rfl, h1⟩ := slP_cell (ha.ext he) hlt
      obtain ⟨b2, o2, rfl, h2⟩ := slP_cell (hb.ext he) (show i < lb.length by omega)
      simp (disch := omega) only [DRAWQ, SX, Nat.reduceAdd, hlt']
      rw [RA_69 h1, RA_69 h2]
      have hne : ∀ (ox oy : Operand) (K : Value → Prop), PURE Try.prog (BINS .neq 69 ox oy (.agg (pcells la[i]).toArray) (.agg (pcells (lb[i]'(by omega))).toArray)) K = K (.bool (!decide (la[i] = lb[i]'(by omega)))) := by
        intro ox oy K
        have : (decide (la[i] = lb[i]'(by omega))) = (decide (la[i].1 = (lb[i]'(by omega)).1) && (decide (la[i].2 = (lb[i]'(by omega)).2) && true)) := by
          rw [Bool.and_true, ← Bool.decide_and, decide_eq_decide, Prod.ext_iff]
        rw [this]
        exact NE_69
      rw [hne]
      have e1 : la.take (i + 1) = la.take i ++ [la[i]] := List.take_succ_eq_append_getElem hlt
      have e2 : lb.take (i + 1) = lb.take i ++ [lb[i]'(by omega)] := List.take_succ_eq_append_getElem (by omega)
      by_cases hx : la[i] = lb[i]'(by omega)
      · simp (disch := omega) only [SX, Nat.reduceAdd, hx]
        refine ⟨⟨i + 1, by simp, by omega, by rw [e1, e2, ht, hx], he.trans (Ext.drew _)⟩, by simp only [vnat_int]; omega⟩
      · simp (disch := omega) only [SX, Nat.reduceAdd, hx]
        refine k _ _ ⟨?_, he.trans (Ext.drew _)⟩
        have : ¬ la = lb := by
          rintro rfl
          exact hx rfl
        simp [this]
    · have hlt' : ¬ (i : Int) < ((lb.length : Nat) : Int) := by omega
      simp (disch := omega) only [SX, Nat.reduceAdd, hlt']
      refine k _ _ ⟨?_, he⟩
      rw [List.take_of_length_le (by omega), List.take_of_length_le (by omega)] at ht
      simp [ht]
  · have hl' : ¬ ((la.length : Nat) : Int) = ((lb.length : Nat) : Int) := by omega
    simp (disch := omega) only [SX, Nat.reduceAdd, hl']
    refine k _ _ ⟨?_, Ext.refl w⟩
    have : ¬ la = lb := by rintro rfl; exact hl rfl
    simp [this]

theorem law10_texts {l : Value} {ls : List (List UInt8)} (h : SlT w l ls) (hlim : ls.length ≤ 2 ^ 40) : RET Try.prog 10 [l] w fun v w' => Ext w w' ∧ (((∃ t ∈ ls, 40 < t.length) ∧ v = .tuple #[.slice none 0 0, .bool false]) ∨
    ((∀ t ∈ ls, t.length ≤ 40) ∧ ∃ out n, v = .tuple #[out, .bool (decide (ls.length ≤ 12))] ∧ w'.ownsRow w.heap.size 9 1 out n (ls.map strV))) := by
  have hls := h.len
  obtain ⟨A, cc, rfl⟩ := h.shape
  refine RET_by fun R k => ?_
  apply by_seinelaw10_texts
  unfold sh_seinelaw10_texts
  refine ⟨fun out iv w1 => ∃ (i n : Nat), iv = .int .i64 i ∧ i ≤ ls.length ∧ n = i ∧ w1.ownsRow w.heap.size 9 1 out n ((ls.take i).map strV) ∧ Ext w w1 ∧ ∀ t ∈ ls.take i, t.length ≤ 40, fun _ iv _ => ls.length - vnat iv, ⟨0, 0, rfl, Nat.zero_le _, rfl, World.ownsRow_nil _ _ _ _, Ext.refl w, by simp⟩, ?_⟩
  rintro out iv w1 ⟨i, n, rfl, hi, hn, hr, he, hall⟩
  by_cases hlt : i < ls.length
  · have hlt' : (i : Int) < ((ls.length : Nat) : Int) := by omega
    obtain ⟨b, o, c', u, hv, hcell, hu⟩ := (h.ext he).at hlt
    injection hv with hA _ hc
    subst hA hc
    have hul := hu.len
    obtain ⟨A', c'', rfl⟩ := hu.shape
    have htk : ls.take (i + 1) = ls.take i ++ [ls[i]] := List.take_succ_eq_append_getElem hlt
    by_cases h40 : 40 < ls[i].length
    · have h40' : (40 : Int) < ((ls[i].length : Nat) : Int) := by omega
      simp (disch := omega) only [SX, Nat.reduceAdd, hlt', LD_42 hcell, h40']
      exact k _ _ ⟨he, .inl ⟨⟨_, List.getElem_mem hlt, h40⟩, rfl⟩⟩
    · have h40' : ¬ (40 : Int) < ((ls[i].length : Nat) : Int) := by omega
      simp (disch := omega) only [SX, Nat.reduceAdd, hlt', LD_42 hcell, h40']
      rw [STR Try.underlying42 Try.underlying5 Try.underlying9 hu]
      refine BS_24_1 fun w2 o2 e2 z2 => ?_
      have hr2 := row_ext hr e2
      refine PUSH1 (by kernel_rfl) IN_9 rfl hr2 o2 rfl (by unfold maxLen; omega) (by omega) (by have := he.size; have := e2.size; omega) fun v' w3 o3 c3 g3 => ?_
      try simp (disch := omega) only [SX, Nat.reduceAdd]
      refine ⟨⟨i + 1, n + 1, by simp, by omega, by omega, ?_, (he.trans e2).ext_of c3 fun q hq => row_base hr2 q hq, ?_⟩, by simp only [vnat_int]; omega⟩
      · rw [htk, List.map_append]; exact o3
      · rw [htk]
        intro t ht
        rcases List.mem_append.1 ht with ht | ht
        · exact hall t ht
        · simp only [List.mem_singleton] at ht
          subst ht; omega
  · have hlt' : ¬ (i : Int) < ((ls.length : Nat) : Int) := by omega
    obtain rfl : i = ls.length := by omega
    rw [List.take_length] at hr hall
    simp (disch := omega) only [SX, Nat.reduceAdd, hlt']
    refine k _ _ ⟨he, .inr ⟨hall, out, n, ?_, hr⟩⟩
    have : (decide (((ls.length : Nat) : Int) ≤ 12)) = decide (ls.length ≤ 12) := by rw [decide_eq_decide]; omega
    rw [this]
end
end Go.Proofs.Ytopdjdkkhpkmiaa.Y
