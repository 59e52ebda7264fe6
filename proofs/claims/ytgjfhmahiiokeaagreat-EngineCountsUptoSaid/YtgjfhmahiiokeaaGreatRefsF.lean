import Derived.Test.YtgjfhmahiiokeaaGreatRefsD
import Derived.Test.YtgjfhmahiiokeaaGreatRefsC
import Derived.Test.YtgjfhmahiiokeaaGreatDfaB
import Derived.Test.YtgjfhmahiiokeaaGreatSparse
import Derived.Test.YtgjfhmahiiokeaaGreatPairs
import Derived.Test.YtgjfhmahiiokeaaGreatSame
import Derived.Test.YtgjfhmahiiokeaaGreatFound
import Derived.Test.YtgjfhmahiiokeaaGreatPatset
import Derived.Test.YtgjfhmahiiokeaaGreatEngine
import Derived.Test.YtgjfhmahiiokeaaGreatRefsP
set_option linter.unusedVariables false
set_option linter.unusedSimpArgs false
set_option linter.unusedVariables false
set_option linter.unusedSimpArgs false
set_option maxRecDepth 8000
namespace Go.Proofs.YtgjfhmahiiokeaaGreat.Y
open Go Go.Sx

theorem STR_eq0 {a : List UInt8} {x y : Operand} {K : Value → Prop} : PURE Tryz.prog (BINS .eql 9 x y (strV a) (.string { data := #[] })) K = K (.bool (decide (a = []))) := STR_eq (b := [])
theorem find_snoc0 {T : List TN} (h : TreeOK T) {x : Int} (h0 : 0 ≤ x) (h1 : x < T.length) (c : UInt8) : (0 ≤ findM T (pathM T x ++ [c]) ↔ 0 ≤ stepM T x c) ∧ (0 ≤ stepM T x c → pathM T (stepM T x c) = pathM T x ++ [c]) := by
  have hf : findM T (pathM T x ++ [c]) = stepM T (findM T (pathM T x)) c := by simp only [findM, List.foldl_append, List.foldl_cons, List.foldl_nil]
  rw [find_of h h0 h1] at hf
  exact ⟨by rw [hf], path_step h⟩
theorem lsn_here {T : List TN} (p : List UInt8) (hf : 0 ≤ findM T p) (h : TreeOK T) : lsn T p = findM T p := by
  cases p with
  | nil =>
    have h1 : 0 < T.length := h.pos
    have := find_of h (x := 0) (Int.le_refl _) (by omega)
    rw [path_root h] at this
    rw [this]
    rfl
  | cons a r => simp only [lsn, if_pos hf]
theorem lsn_not {T : List TN} {a : UInt8} {r : List UInt8} (hf : ¬ 0 ≤ findM T (a :: r)) : lsn T (a :: r) = lsn T r := by simp only [lsn, if_neg hf]

section
variable {w : World}

theorem ref08_Step {v : Value} {T : List TN} (hT : TreeOK T) (h : SlG sCells w v (pathsL T)) (hd : ∀ x, depM T x ≤ 2 ^ 39) {x0 : Int} (h0 : 0 ≤ x0) (h1 : x0 < T.length) (c : UInt8) : RET Tryz.prog 59 [v, strV (pathM T x0), .int .u8 c.toNat] w fun r w' => r = .tuple #[strV (pathM T (deltaM T x0 c)), .int .i64 (looksM T x0 c : Nat)] ∧ Ext w w' := by
  obtain ⟨A, cc, rfl⟩ := h.shape
  refine RET_by fun R k => ?_
  apply by_seineref08_Step
  unfold sh_seineref08_Step
  refine ⟨fun sv nv w1 => ∃ (x : Int) (n : Nat), sv = strV (pathM T x) ∧ nv = .int .i64 n ∧ 0 ≤ x ∧ x < T.length ∧ n + looksM T x c = 1 + looksM T x0 c ∧ deltaM T x c = deltaM T x0 c ∧ 1 ≤ n ∧ Ext w w1, fun sv _ _ => match sv with | .string s => s.data.size | _ => 0, ⟨x0, 1, rfl, rfl, h0, h1, rfl, rfl, Nat.le_refl _, Ext.refl w⟩, ?_⟩
  rintro sv nv w1 ⟨x, n, rfl, rfl, hx0, hx1, hn, hdl, hn1, e1⟩
  have hdx : (pathM T x).length ≤ 2 ^ 39 := hd x
  obtain ⟨q1, q2⟩ := find_snoc0 hT hx0 hx1 c
  have hlk := looksM_step hT c hx0 hx1
  have hds := delta_step hT hx0 hx1 c
  have hlb := (looksM_bound hT c _ x hx0 hx1 (Nat.le_refl _)).1
  have hlb0 := (looksM_bound hT c _ x0 h0 h1 (Nat.le_refl _))
  have hd0 := hd x0
  refine BS_23_1 fun w2 o2 e2 z2 => ?_
  rw [STR Tryz.underlying23 Tryz.underlying5 Tryz.underlying9 (slB_one o2)]
  refine (STR_add (b := [c]) (by simp only [List.length_cons, List.length_nil]; omega)).mpr ?_
  refine CALL_of (ref06_Place (h.ext (e1.trans e2)) _) ?_
  rintro v w3 ⟨rfl, rfl⟩
  rw [paths_place hT]
  by_cases hs : 0 ≤ stepM T x c
  · have hf := q1.2 hs
    rw [if_pos hs] at hlk hds
    simp (disch := omega) only [SX, Nat.reduceAdd, hf]
    refine k _ _ ⟨?_, e1.trans e2⟩
    rw [← q2 hs, ← hds, hdl]
    congr 3
    have : n = looksM T x0 c := by omega
    rw [this]
  · have hf : ¬ 0 ≤ findM T (pathM T x ++ [c]) := fun hh => hs (q1.1 hh)
    rw [if_neg hs] at hlk hds
    simp (disch := omega) only [SX, Nat.reduceAdd, hf, STR_eq0]
    by_cases hz : x = 0
    · subst hz
      rw [if_pos rfl] at hlk hds
      simp (disch := omega) only [SX, Nat.reduceAdd, path_root hT]
      refine k _ _ ⟨?_, e1.trans e2⟩
      rw [← hdl, hds, path_root hT]
      have : n = looksM T x0 c := by omega
      rw [this]
      rfl
    · have hne := path_ne hT (x := x) (by omega) hx1
      rw [if_neg hz] at hlk hds
      simp (disch := omega) only [SX, Nat.reduceAdd, hne]
      have hlen := List.length_pos_iff.2 hne
      have hfl : failM T x = lsn T ((pathM T x).drop 1) := by unfold failM; rw [if_neg hz]; simp
      refine ⟨fun kv w4 => ∃ i : Nat, kv = .int .i64 i ∧ 1 ≤ i ∧ i ≤ (pathM T x).length ∧ lsn T ((pathM T x).drop i) = failM T x ∧ w4 = w3, fun kv _ => (pathM T x).length - vnat kv, ⟨1, rfl, Nat.le_refl _, by omega, hfl.symm, rfl⟩, ?_⟩
      rintro kv w4 ⟨i, rfl, hi1, hi2, hl, rfl⟩
      simp (disch := omega) only [SX, Nat.reduceAdd, STR_lo]
      refine CALL_of (ref06_Place (h.ext (e1.trans e2)) _) ?_
      rintro v w5 ⟨rfl, rfl⟩
      rw [paths_place hT]
      by_cases hf2 : 0 ≤ findM T ((pathM T x).drop i)
      · have hp := lsn_here _ hf2 hT
        rw [hl] at hp
        have hpp : pathM T (failM T x) = (pathM T x).drop i := by rw [hp]; exact path_find hT _ hf2
        simp (disch := omega) only [SX, Nat.reduceAdd, STR_lo, show ¬ findM T ((pathM T x).drop i) < 0 by omega]
        refine ⟨⟨failM T x, n + 1, by rw [hpp], by simp, failM_lo hT hz, (failM_in hT x).2, by omega, by rw [← hds, hdl], by omega, e1.trans e2⟩, ?_⟩
        show (((pathM T x).drop i).toArray).size < ((pathM T x).toArray).size
        simp
        omega
      · have hdr : i < (pathM T x).length := by
          rcases Nat.lt_or_ge i (pathM T x).length with hh | hh
          · exact hh
          · exfalso
            rw [List.drop_of_length_le hh] at hf2
            exact hf2 (by simp [findM])
        have hdc : (pathM T x).drop i = (pathM T x)[i] :: (pathM T x).drop (i + 1) := List.drop_eq_getElem_cons hdr
        simp (disch := omega) only [SX, Nat.reduceAdd, show findM T ((pathM T x).drop i) < 0 by omega]
        refine ⟨⟨i + 1, by simp, by omega, by omega, ?_, by trivial⟩, by simp only [vnat_int]; omega⟩
        rw [← hl, hdc]
        rw [hdc] at hf2
        exact (lsn_not hf2).symm

theorem ref08_Looks {v : Value} {T : List TN} (hT : TreeOK T) (h : SlG sCells w v (pathsL T)) (hd : ∀ x, depM T x ≤ 2 ^ 39) {line : List UInt8} (hl : line.length ≤ 2 ^ 30) : RET Tryz.prog 38 [v, strV line] w fun r w' => r = .int .i64 (looksL T line line.length : Nat) ∧ Ext w w' := by
  obtain ⟨A, cc, rfl⟩ := h.shape
  refine RET_by fun R k => ?_
  apply by_seineref08_Looks
  unfold sh_seineref08_Looks
  refine ⟨fun sv nv iv w1 => ∃ i : Nat, sv = strV (pathM T (lsn T (line.take i))) ∧ nv = .int .i64 (looksL T line i : Nat) ∧ iv = .int .i64 i ∧ i ≤ line.length ∧ Ext w w1, fun _ _ iv _ => line.length - vnat iv, ⟨0, by simp only [List.take_zero, lsn, path_root hT]; rfl, rfl, rfl, Nat.zero_le _, Ext.refl w⟩, ?_⟩
  rintro sv nv iv w1 ⟨i, rfl, rfl, rfl, hi, e1⟩
  have hin := lsn_in hT.pos (line.take i)
  have hlb := looksL_bound hT line i hi
  by_cases hlt : i < line.length
  · have hlt' : (i : Int) < ((line.length : Nat) : Int) := by omega
    have hg : line.getD i 0 = line[i] := by simp [List.getD, List.getElem?_eq_getElem hlt]
    have hlb2 := looksL_bound hT line (i + 1) hlt
    have hls : looksL T line (i + 1) = looksL T line i + looksM T (lsn T (line.take i)) line[i] := by rw [looksL, hg]
    have hst : deltaM T (lsn T (line.take i)) line[i] = lsn T (line.take (i + 1)) := by
      unfold deltaM
      rw [lsn_path hT, List.take_succ_eq_append_getElem hlt]
    simp (disch := omega) only [SX, Nat.reduceAdd, STR_len, hlt', STR_index hlt]
    refine CALL_of (ref08_Step hT (h.ext e1) hd hin.1 hin.2 line[i]) ?_
    rintro v w2 ⟨rfl, e2⟩
    simp (disch := omega) only [SX, Nat.reduceAdd]
    refine ⟨⟨i + 1, by rw [hst], by rw [hls]; simp, by simp, by omega, e1.trans e2⟩, by simp only [vnat_int]; omega⟩
  · have hlt' : ¬ (i : Int) < ((line.length : Nat) : Int) := by omega
    have hie : i = line.length := by omega
    subst hie
    simp (disch := omega) only [SX, Nat.reduceAdd, STR_len, hlt']
    exact k _ _ ⟨rfl, e1⟩
end
end Go.Proofs.YtgjfhmahiiokeaaGreat.Y
set_option linter.unusedVariables false
set_option linter.unusedSimpArgs false
set_option maxRecDepth 8000
namespace Go.Proofs.YtgjfhmahiiokeaaGreat.Y
open Go Go.Sx

/-! ### The reference's lists of pieces -/
section
variable {w : World}

theorem ref03_Less (p q : Int × Int) : RET Tryz.prog 60 [.agg (pcells p).toArray, .agg (pcells q).toArray] w fun v w' => v = .bool (decide (ltP p q)) ∧ Ext w w' := by
  refine RET_by fun R k => ?_
  apply by_seineref03_Less
  unfold sh_seineref03_Less
  refine BOXA fun w1 o1 e1 z1 => ?_
  refine BOXA fun w2 o2 e2 z2 => ?_
  have a0 := (o1.ext e2).cell (i := 0) rfl
  have a1 := (o1.ext e2).cell (i := 1) rfl
  have b0 := o2.cell (i := 0) rfl
  have b1 := o2.cell (i := 1) rfl
  by_cases h : p.1 < q.1
  · simp (disch := omega) only [SX, Nat.reduceAdd, LD_3 a0, LD_3 a1, LD_3 b0, LD_3 b1, h]
    exact k _ _ ⟨by rw [decide_eq_true (show ltP p q from .inl h)], e1.trans e2⟩
  · by_cases h2 : p.1 = q.1
    · simp (disch := omega) only [SX, Nat.reduceAdd, LD_3 a0, LD_3 a1, LD_3 b0, LD_3 b1, h, h2, Int.lt_irrefl]
      refine k _ _ ⟨?_, e1.trans e2⟩
      congr 1
      rw [decide_eq_decide]
      unfold ltP
      omega
    · simp (disch := omega) only [SX, Nat.reduceAdd, LD_3 a0, LD_3 a1, LD_3 b0, LD_3 b1, h, h2]
      refine k _ _ ⟨?_, e1.trans e2⟩
      rw [decide_eq_false (show ¬ ltP p q from fun hh => by unfold ltP at hh; omega)]

theorem ne_pair (x y : Int × Int) (ox oy : Operand) (K : Value → Prop) : PURE Tryz.prog (BINS .neq 57 ox oy (.agg (pcells y).toArray) (.agg (pcells x).toArray)) K = K (.bool (!decide (y = x))) := by
  have : (decide (y = x)) = (decide (y.1 = x.1) && (decide (y.2 = x.2) && true)) := by
    rw [Bool.and_true, ← Bool.decide_and, decide_eq_decide, Prod.ext_iff]
  rw [this]
  exact NE_57

theorem ref03_Put {v : Value} {l : List (Int × Int)} (h : SlG pcells w v l) (hr : Rising l) (hl : l.length ≤ 2 ^ 38) (p : Int × Int) : RET Tryz.prog 40 [v, .agg (pcells p).toArray] w fun r w' => (∃ xs, w'.ownsRow w.heap.size 57 2 r xs.length (xs.flatMap pcells) ∧ Rising xs ∧ (∀ q, q ∈ xs ↔ q ∈ l ∨ q = p) ∧ xs.length ≤ l.length + 1) ∧ Ext w w' := by
  have hlen := h.len
  obtain ⟨A, cc, rfl⟩ := h.shape
  refine RET_by fun R k => ?_
  apply by_seineref03_Put
  unfold sh_seineref03_Put
  refine BOXA fun w1 o1 e1 z1 => ?_
  refine ⟨fun ov dv iv w2 => ∃ (i : Nat) (d : Bool) (xs : List (Int × Int)), dv = .bool d ∧ iv = .int .i64 i ∧ i ≤ l.length ∧ w2.ownsRow w1.heap.size 57 2 ov xs.length (xs.flatMap pcells) ∧ Rising xs ∧ (∀ q ∈ xs, ∀ q' ∈ l.drop i, ltP q q') ∧ xs.length ≤ i + 1 ∧
      (d = true → ∀ q, q ∈ xs ↔ q ∈ l.take i ∨ q = p) ∧ (d = false → xs = l.take i ∧ ∀ q ∈ xs, ltP q p) ∧ Ext w1 w2, fun _ _ iv _ => l.length - vnat iv,
    ⟨0, false, [], rfl, rfl, Nat.zero_le _, World.ownsRow_nil _ _ _ _, List.Pairwise.nil, by simp, by simp, by simp, by simp, Ext.refl _⟩, ?_⟩
  rintro ov dv iv w2 ⟨i, d, xs, rfl, rfl, hi, hrow, hris, hlt, hxl, hT, hF, e2⟩
  obtain ⟨Ao, co, rfl, _⟩ := row_shape hrow
  have z2 := e2.size
  by_cases hin : i < l.length
  · have hin' : (i : Int) < ((l.length : Nat) : Int) := by omega
    obtain ⟨b, o, hA, hcell⟩ := slP_cell ((h.ext e1).ext e2) hin
    subst hA
    have hpc := cellsAt_whole ((o1.ext e2)) (n := 2) rfl
    have hdrop : l.drop i = l[i] :: l.drop (i + 1) := List.drop_eq_getElem_cons hin
    have htake : l.take (i + 1) = l.take i ++ [l[i]] := List.take_succ_eq_append_getElem hin
    have hli : ∀ q' ∈ l.drop (i + 1), ltP l[i] q' := by
      have : Rising (l.drop i) := List.Pairwise.drop hr
      rw [hdrop] at this
      exact (List.pairwise_cons.1 this).1
    have hxi : ∀ q ∈ xs, ltP q l[i] := fun q hq => hlt q hq _ (by rw [hdrop]; exact List.Mem.head _)
    have hlt1 : ∀ q ∈ xs, ∀ q' ∈ l.drop (i + 1), ltP q q' := fun q hq q' hq' => hlt q hq q' (by rw [hdrop]; exact List.mem_cons_of_mem _ hq')
    simp (disch := omega) only [SX, Nat.reduceAdd, hin']
    refine ⟨fun v w3 => v = .bool (!d && !decide (ltP l[i] p)) ∧ Ext w2 w3, ?_, ?_⟩
    · cases d with
      | true =>
        simp (disch := omega) only [DRAWQ, SX, Nat.reduceAdd]
        exact ⟨trivial, Ext.drew _⟩
      | false =>
        simp (disch := omega) only [DRAWQ, SX, Nat.reduceAdd]
        rw [RA_57 hcell, RA_57 hpc]
        refine CALL_of (ref03_Less l[i] p) ?_
        rintro _ w3 ⟨rfl, e3⟩
        simp (disch := omega) only [SX, Nat.reduceAdd]
        exact ⟨by simp, (Ext.drew _).trans e3⟩
    · rintro _ w3 ⟨rfl, e3⟩
      have hcell3 := cellsAt_ext e3 hcell (by
        have := h.ext (e1.trans e2)
        obtain ⟨c0, hc0⟩ : ∃ c0, w2.cell? ⟨b, o + i * 2, none⟩ = some c0 := by
          simp only [cellsAt] at hcell
          cases hq : w2.cell? ⟨b, o + i * 2, none⟩ with
          | none => rw [hq] at hcell; simp at hcell
          | some c0 => exact ⟨c0, rfl⟩
        exact World.block_lt_of_cell? _ _ hc0)
      have hpc3 := cellsAt_whole ((o1.ext (e2.trans e3))) (n := 2) rfl
      have hrow3 := row_ext hrow e3
      have z3 := e3.size
      by_cases hc : d = false ∧ ¬ ltP l[i] p
      · obtain ⟨rfl, hnl⟩ := hc
        obtain ⟨hxs, hall⟩ := hF rfl
        have hnl' : (decide (ltP l[i] p)) = false := decide_eq_false hnl
        simp (disch := omega) only [SX, Nat.reduceAdd, hnl', DRAWQ]
        rw [RA_57 hcell3, RA_57 hpc3, ne_pair]
        by_cases he : l[i] = p
        · simp (disch := omega) only [SX, Nat.reduceAdd, he]
          rw [LA_57 (show cellsAt w3.drew b (o + i * 2) 2 = some (pcells l[i]) from hcell3)]
          refine PUSHP l[i] (row_ext hrow3 (Ext.drew _)) (by show _ ≤ w3.heap.size; omega) (by omega) fun v' w4 hr4 c4 => ?_
          obtain ⟨A4, c4', rfl, _⟩ := row_shape hr4
          try simp (disch := omega) only [SX, Nat.reduceAdd]
          have e4 : Ext w1 w4 := row_ext_of ((e2.trans e3).trans (Ext.drew _)) c4
          refine ⟨⟨i + 1, true, xs ++ [l[i]], rfl, by simp, by omega, hr4, ?_, ?_, by simp; omega, fun _ q => ?_, by simp, e4⟩, by simp only [vnat_int]; omega⟩
          · unfold Rising
            rw [List.pairwise_append]
            exact ⟨hris, List.pairwise_singleton _ _, fun q hq q' hq' => by simp only [List.mem_singleton] at hq'; subst hq'; exact hxi q hq⟩
          · intro q hq q' hq'
            rcases List.mem_append.1 hq with hq | hq
            · exact hlt1 q hq q' hq'
            · simp only [List.mem_singleton] at hq; subst hq; exact hli q' hq'
          · rw [hxs, htake, List.mem_append, List.mem_singleton]
            constructor
            · rintro (hq | hq)
              · exact .inl (.inl hq)
              · exact .inl (.inr hq)
            · rintro (hq | hq)
              · exact hq
              · exact .inr (by rw [hq, he])
        · simp (disch := omega) only [SX, Nat.reduceAdd, he]
          rw [LA_57 (show cellsAt w3.drew w.heap.size 0 2 = some (pcells p) from hpc3)]
          refine PUSHP p (row_ext hrow3 (Ext.drew _)) (by show _ ≤ w3.heap.size; omega) (by omega) fun v' w4 hr4 c4 => ?_
          obtain ⟨A4, c4', rfl, _⟩ := row_shape hr4
          have z4 := c4.size
          have hcell4 : cellsAt w4 b (o + i * 2) 2 = some (pcells l[i]) := by
            have e4 : Ext w1 w4 := row_ext_of ((e2.trans e3).trans (Ext.drew _)) c4
            obtain ⟨b4, o4, hA4, hcell4⟩ := slP_cell ((h.ext e1).ext e4) hin
            injection hA4 with hA4
            injection hA4 with hb4 ho4
            subst hb4 ho4
            exact hcell4
          try simp (disch := omega) only [SX, Nat.reduceAdd]
          rw [LA_57 hcell4]
          refine PUSHP l[i] hr4 (by have : w3.drew.heap.size = w3.heap.size := rfl; omega) (by simp; omega) fun v' w5 hr5 c5 => ?_
          obtain ⟨A5, c5', rfl, _⟩ := row_shape hr5
          try simp (disch := omega) only [SX, Nat.reduceAdd]
          have e5 : Ext w1 w5 := row_ext_of (row_ext_of ((e2.trans e3).trans (Ext.drew _)) c4) c5
          have hpl : ltP p l[i] := by
            rcases leP_total l[i] p with hh | hh
            · rcases hh with hh | hh
              · exact (he hh).elim
              · exact (hnl hh).elim
            · exact hh
          refine ⟨⟨i + 1, true, xs ++ [p] ++ [l[i]], rfl, by simp, by omega, hr5, ?_, ?_, by simp; rw [hxs, List.length_take]; omega, fun _ q => ?_, by simp, e5⟩, by simp only [vnat_int]; omega⟩
          · unfold Rising
            rw [List.pairwise_append, List.pairwise_append]
            refine ⟨⟨hris, List.pairwise_singleton _ _, fun q hq q' hq' => by simp only [List.mem_singleton] at hq'; subst hq'; exact hall q hq⟩, List.pairwise_singleton _ _, fun q hq q' hq' => ?_⟩
            simp only [List.mem_singleton] at hq'
            subst hq'
            rcases List.mem_append.1 hq with hq | hq
            · exact hxi q hq
            · simp only [List.mem_singleton] at hq; subst hq; exact hpl
          · intro q hq q' hq'
            rcases List.mem_append.1 hq with hq | hq
            · rcases List.mem_append.1 hq with hq | hq
              · exact hlt1 q hq q' hq'
              · simp only [List.mem_singleton] at hq; subst hq; exact ltP_trans hpl (hli q' hq')
            · simp only [List.mem_singleton] at hq; subst hq; exact hli q' hq'
          · rw [hxs, htake, List.mem_append, List.mem_append, List.mem_append, List.mem_singleton, List.mem_singleton]
            constructor
            · rintro ((hq | hq) | hq)
              · exact .inl (.inl hq)
              · exact .inr hq
              · exact .inl (.inr hq)
            · rintro ((hq | hq) | hq)
              · exact .inl (.inl hq)
              · exact .inr hq
              · exact .inl (.inr hq)
      · have hb : (!d && !decide (ltP l[i] p)) = false := by
          cases d with
          | true => rfl
          | false =>
            have : ltP l[i] p := Classical.not_not.1 fun hn => hc ⟨rfl, hn⟩
            simp [this]
        rw [hb]
        simp (disch := omega) only [SX, Nat.reduceAdd]
        rw [LA_57 hcell3]
        refine PUSHP l[i] hrow3 (by omega) (by omega) fun v' w4 hr4 c4 => ?_
        obtain ⟨A4, c4', rfl, _⟩ := row_shape hr4
        try simp (disch := omega) only [SX, Nat.reduceAdd]
        have e4 : Ext w1 w4 := row_ext_of (e2.trans e3) c4
        refine ⟨⟨i + 1, d, xs ++ [l[i]], rfl, by simp, by omega, hr4, ?_, ?_, by simp; omega, fun hd q => ?_, fun hd => ?_, e4⟩, by simp only [vnat_int]; omega⟩
        · unfold Rising
          rw [List.pairwise_append]
          exact ⟨hris, List.pairwise_singleton _ _, fun q hq q' hq' => by simp only [List.mem_singleton] at hq'; subst hq'; exact hxi q hq⟩
        · intro q hq q' hq'
          rcases List.mem_append.1 hq with hq | hq
          · exact hlt1 q hq q' hq'
          · simp only [List.mem_singleton] at hq; subst hq; exact hli q' hq'
        · rw [List.mem_append, hT hd, htake, List.mem_append, List.mem_singleton]
          constructor
          · rintro ((hq | hq) | hq)
            · exact .inl (.inl hq)
            · exact .inr hq
            · exact .inl (.inr hq)
          · rintro ((hq | hq) | hq)
            · exact .inl (.inl hq)
            · exact .inr hq
            · exact .inl (.inr hq)
        · obtain ⟨hxs, hall⟩ := hF hd
          have hlp : ltP l[i] p := Classical.not_not.1 fun hn => hc ⟨hd, hn⟩
          refine ⟨by rw [hxs, htake], fun q hq => ?_⟩
          rcases List.mem_append.1 hq with hq | hq
          · exact hall q hq
          · simp only [List.mem_singleton] at hq; subst hq; exact hlp
  · have hin' : ¬ (i : Int) < ((l.length : Nat) : Int) := by omega
    have hie : l.take i = l := List.take_of_length_le (by omega)
    have hb1 : w.heap.size ≤ w1.heap.size := by omega
    cases d with
    | true =>
      simp (disch := omega) only [SX, Nat.reduceAdd, hin']
      refine k _ _ ⟨⟨xs, row_mono hrow hb1, hris, fun q => by rw [hT rfl, hie], by omega⟩, e1.trans e2⟩
    | false =>
      obtain ⟨hxs, hall⟩ := hF rfl
      simp (disch := omega) only [SX, Nat.reduceAdd, hin']
      rw [LA_57 (cellsAt_whole (o1.ext e2) (n := 2) rfl)]
      refine PUSHP p hrow (by omega) (by omega) fun v' w4 hr4 c4 => ?_
      obtain ⟨A4, c4', rfl, _⟩ := row_shape hr4
      try simp (disch := omega) only [SX, Nat.reduceAdd]
      refine k _ _ ⟨⟨_, row_mono hr4 hb1, ?_, fun q => ?_, by have := congrArg List.length hxs; rw [List.length_take] at this; simp; omega⟩, e1.trans (row_ext_of e2 c4)⟩
      · unfold Rising
        rw [List.pairwise_append]
        exact ⟨hris, List.pairwise_singleton _ _, fun q hq q' hq' => by simp only [List.mem_singleton] at hq'; subst hq'; exact hall q hq⟩
      · rw [List.mem_append, hxs, hie, List.mem_singleton]
end
end Go.Proofs.YtgjfhmahiiokeaaGreat.Y
set_option linter.unusedVariables false
set_option linter.unusedSimpArgs false
set_option maxRecDepth 8000
namespace Go.Proofs.YtgjfhmahiiokeaaGreat.Y
open Go Go.Sx

theorem occ_at {ls : List (List UInt8)} {line : List UInt8} {i j : Nat} (h1 : i < j) (h2 : j ≤ line.length) : IsOcc ls line ((i : Int), (j : Int)) ↔ (line.take j).drop i ∈ ls := by
  have hlen : ((line.take j).drop i).length = j - i := by rw [List.length_drop, List.length_take]; omega
  constructor
  · rintro ⟨t, ht, hne, a, hp, he⟩
    rw [Prod.mk.injEq] at he
    have ha : a = i := by omega
    subst ha
    have hj : j = a + t.length := by omega
    have : (line.take j).drop a = t := by
      rw [List.drop_take, hj, show a + t.length - a = t.length by omega]
      exact (List.prefix_iff_eq_take.1 hp).symm
    rw [this]
    exact ht
  · intro h
    refine ⟨_, h, ?_, i, ?_, ?_⟩
    · intro hn
      rw [hn] at hlen
      simp at hlen
      omega
    · rw [List.drop_take]; exact List.take_prefix _ _
    · rw [hlen, Prod.mk.injEq]; omega
theorem occ_bnd {ls : List (List UInt8)} {line : List UInt8} {p : Int × Int} (h : IsOcc ls line p) : ∃ i j : Nat, p = ((i : Int), (j : Int)) ∧ i < j ∧ j ≤ line.length := by
  obtain ⟨t, ht, hne, a, hp, rfl⟩ := h
  have h1 := hp.length_le
  rw [List.length_drop] at h1
  have h2 := List.length_pos_iff.2 hne
  exact ⟨a, a + t.length, rfl, by omega, by omega⟩

section
variable {w : World}

theorem ref03_Occ {v : Value} {ls : List (List UInt8)} (h : SlG sCells w v ls) {line : List UInt8} (hl : line.length ≤ 4096) : RET Tryz.prog 39 [strV line, v] w fun r w' => (∃ xs, w'.ownsRow w.heap.size 57 2 r xs.length (xs.flatMap pcells) ∧ Rising xs ∧ (∀ q, q ∈ xs ↔ IsOcc ls line q) ∧ xs.length ≤ 2 ^ 30) ∧ Ext w w' := by
  have hlen := h.len
  obtain ⟨A, cc, rfl⟩ := h.shape
  refine RET_by fun R k => ?_
  apply by_seineref03_Occ
  unfold sh_seineref03_Occ
  refine ⟨fun ov iv w1 => ∃ (i : Nat) (xs : List (Int × Int)), iv = .int .i64 i ∧ i ≤ line.length ∧ w1.ownsRow w.heap.size 57 2 ov xs.length (xs.flatMap pcells) ∧ Rising xs ∧ (∀ q, q ∈ xs ↔ IsOcc ls line q ∧ q.1 < i) ∧ xs.length ≤ i * 4097 ∧ Ext w w1, fun _ iv _ => line.length - vnat iv,
    ⟨0, [], rfl, Nat.zero_le _, World.ownsRow_nil _ _ _ _, List.Pairwise.nil, fun q => ⟨fun h => by simp at h, fun ⟨h, h2⟩ => by obtain ⟨i, j, rfl, _⟩ := occ_bnd h; simp at h2; omega⟩, by simp, Ext.refl w⟩, ?_⟩
  rintro ov iv w1 ⟨i, xs, rfl, hi, hrow, hris, hmem, hxl, e1⟩
  obtain ⟨Ao, co, rfl, _⟩ := row_shape hrow
  have z1 := e1.size
  by_cases hin : i < line.length
  · have hin' : (i : Int) < ((line.length : Nat) : Int) := by omega
    simp (disch := omega) only [SX, Nat.reduceAdd, STR_len, hin']
    have hx1 : xs.length ≤ i * 4097 + (i + 1) := Nat.le_trans hxl (Nat.le_add_right _ _)
    refine ⟨fun ov jv w2 => ∃ (j : Nat) (xs : List (Int × Int)), jv = .int .i64 j ∧ i < j ∧ j ≤ line.length + 1 ∧ w2.ownsRow w.heap.size 57 2 ov xs.length (xs.flatMap pcells) ∧ Rising xs ∧ (∀ q, q ∈ xs ↔ IsOcc ls line q ∧ (q.1 < i ∨ (q.1 = i ∧ q.2 < j))) ∧ xs.length ≤ i * 4097 + j ∧ Ext w w2, fun _ jv _ => line.length + 1 - vnat jv,
      ⟨i + 1, xs, by simp, by omega, by omega, hrow, hris, fun q => ?_, hx1, e1⟩, ?_⟩
    · rw [hmem]
      constructor
      · rintro ⟨h1, h2⟩; exact ⟨h1, .inl h2⟩
      · rintro ⟨h1, h2 | ⟨h2, h3⟩⟩
        · exact ⟨h1, h2⟩
        · obtain ⟨a, b, rfl, h4, h5⟩ := occ_bnd h1
          simp only at h2 h3
          omega
    clear hmem hris hrow hxl hx1
    rintro ov jv w2 ⟨j, xs, rfl, hij, hj, hrow, hris, hmem, hxl, e2⟩
    obtain ⟨Ao, co, rfl, _⟩ := row_shape hrow
    have z2 := e2.size
    by_cases hjn : j ≤ line.length
    · have hjn' : (j : Int) ≤ ((line.length : Nat) : Int) := by omega
      have hocc := occ_at (ls := ls) hij hjn
      have hseg : ((line.take j).drop i).length = j - i := by rw [List.length_drop, List.length_take]; omega
      generalize hsg : (line.take j).drop i = seg at *
      simp (disch := omega) only [SX, Nat.reduceAdd, STR_len, hjn']
      refine ⟨fun bv kv w3 => ∃ (m : Nat) (b : Bool), bv = .bool b ∧ kv = .int .i64 m ∧ m ≤ ls.length ∧ (b = true ↔ seg ∈ ls.take m) ∧ Ext w2 w3, fun _ kv _ => ls.length - vnat kv, ⟨0, false, rfl, rfl, Nat.zero_le _, by simp, Ext.refl _⟩, ?_⟩
      rintro bv kv w3 ⟨m, b, rfl, rfl, hm, hb, e3⟩
      have z3 := e3.size
      have hrow3 := row_ext hrow e3
      have hyes : seg ∈ ls → ∀ w3', Ext w2 w3' → RUN Tryz.prog (Instr.buildSlice 37 1 #[(0, .agg (pcells ((i : Int), (j : Int))).toArray)]) w3' fun u wq => RUN Tryz.prog (Builtin.append_ #[37, 37] 37 #[.slice Ao xs.length co, u]) wq fun v w4 =>
          (∃ (j' : Nat) (xs' : List (Int × Int)), Value.int .i64 ((j : Int) + 1) = .int .i64 j' ∧ i < j' ∧ j' ≤ line.length + 1 ∧ w4.ownsRow w.heap.size 57 2 v xs'.length (xs'.flatMap pcells) ∧ Rising xs' ∧ (∀ q, q ∈ xs' ↔ IsOcc ls line q ∧ (q.1 < i ∨ (q.1 = i ∧ q.2 < j'))) ∧ xs'.length ≤ i * 4097 + j' ∧ Ext w w4) ∧ line.length + 1 - vnat (.int .i64 ((j : Int) + 1)) < line.length + 1 - vnat (.int .i64 (j : Int)) := by
        intro hin w3' e3'
        have := e3'.size
        refine PUSHP ((i : Int), (j : Int)) (row_ext hrow e3') (by omega) (by omega) fun v' w4 hr4 c4 => ?_
        refine ⟨⟨j + 1, _, by simp, by omega, by omega, hr4, ?_, fun q => ?_, by simp; omega, row_ext_of (e2.trans e3') c4⟩, by show line.length + 1 - ((j : Int) + 1).toNat < line.length + 1 - (j : Int).toNat; omega⟩
        · unfold Rising
          rw [List.pairwise_append]
          refine ⟨hris, List.pairwise_singleton _ _, fun q hq q' hq' => ?_⟩
          simp only [List.mem_singleton] at hq'
          subst hq'
          exact ((hmem q).1 hq).2
        · rw [List.mem_append, hmem, List.mem_singleton]
          constructor
          · rintro (⟨h1, h2 | ⟨h2, h3⟩⟩ | rfl)
            · exact ⟨h1, .inl h2⟩
            · exact ⟨h1, .inr ⟨h2, by omega⟩⟩
            · exact ⟨hocc.2 hin, .inr ⟨rfl, by simp only; omega⟩⟩
          · rintro ⟨h1, h2 | ⟨h2, h3⟩⟩
            · exact .inl ⟨h1, .inl h2⟩
            · by_cases h4 : q.2 = j
              · exact .inr (Prod.ext h2 h4)
              · exact .inl ⟨h1, .inr ⟨h2, by omega⟩⟩
      have hno : seg ∉ ls → ∀ w3', Ext w2 w3' → (∃ (j' : Nat) (xs' : List (Int × Int)), Value.int .i64 ((j : Int) + 1) = .int .i64 j' ∧ i < j' ∧ j' ≤ line.length + 1 ∧ w3'.ownsRow w.heap.size 57 2 (.slice Ao xs.length co) xs'.length (xs'.flatMap pcells) ∧ Rising xs' ∧ (∀ q, q ∈ xs' ↔ IsOcc ls line q ∧ (q.1 < i ∨ (q.1 = i ∧ q.2 < j'))) ∧ xs'.length ≤ i * 4097 + j' ∧ Ext w w3') ∧ line.length + 1 - vnat (.int .i64 ((j : Int) + 1)) < line.length + 1 - vnat (.int .i64 (j : Int)) := by
        intro hin w3' e3'
        refine ⟨⟨j + 1, xs, by simp, by omega, by omega, row_ext hrow e3', hris, fun q => ?_, by omega, e2.trans e3'⟩, by show line.length + 1 - ((j : Int) + 1).toNat < line.length + 1 - (j : Int).toNat; omega⟩
        rw [hmem]
        constructor
        · rintro ⟨h1, h2 | ⟨h2, h3⟩⟩
          · exact ⟨h1, .inl h2⟩
          · exact ⟨h1, .inr ⟨h2, by omega⟩⟩
        · rintro ⟨h1, h2 | ⟨h2, h3⟩⟩
          · exact ⟨h1, .inl h2⟩
          · by_cases h4 : q.2 = j
            · have : q = ((i : Int), (j : Int)) := Prod.ext h2 h4
              rw [this] at h1
              exact (hin (hocc.1 h1)).elim
            · exact ⟨h1, .inr ⟨h2, by omega⟩⟩
      by_cases hmn : m < ls.length
      · have hmn' : (m : Int) < ((ls.length : Nat) : Int) := by omega
        cases b with
        | true =>
          have hin : seg ∈ ls := List.mem_of_mem_take (hb.1 rfl)
          refine ⟨fun _ => False, ?_, fun _ hf => hf.elim⟩
          simp (disch := omega) only [SX, Nat.reduceAdd, hmn']
          exact hyes hin w3 e3
        | false =>
          refine ⟨fun w4 => w4 = w3, ?_, ?_⟩
          · simp (disch := omega) only [SX, Nat.reduceAdd, hmn']
          rintro w4 rfl
          obtain ⟨b0, o0, c0, hv, hc⟩ := slS_at (h.ext (e2.trans e3)) hmn
          injection hv with hA _ hcc
          subst hA hcc
          have htk : ls.take (m + 1) = ls.take m ++ [ls[m]] := List.take_succ_eq_append_getElem hmn
          have hn : seg ∉ ls.take m := fun hh => by have := hb.2 hh; simp at this
          have hnext : (seg ∈ ls.take (m + 1)) ↔ seg = ls[m] := by
            rw [htk, List.mem_append, List.mem_singleton]
            exact ⟨fun h => h.elim (fun h => (hn h).elim) id, .inr⟩
          simp (disch := omega) only [DRAWQ, SX, Nat.reduceAdd, RD_9 hc, STR_len, STR_sub]
          by_cases hle : ((ls[m].length : Nat) : Int) = (j : Int) - (i : Int)
          · simp (disch := omega) only [SX, Nat.reduceAdd, RD_9 hc, STR_len, STR_sub, hle, STR_eq, hsg]
            refine ⟨⟨m + 1, decide (seg = ls[m]), rfl, by simp, by omega, by rw [hnext]; simp, e3.trans (Ext.drew _)⟩, by simp only [vnat_int]; omega⟩
          · simp (disch := omega) only [SX, Nat.reduceAdd, hle]
            refine ⟨⟨m + 1, false, rfl, by simp, by omega, ?_, e3.trans (Ext.drew _)⟩, by simp only [vnat_int]; omega⟩
            rw [hnext]
            refine ⟨fun hh => by simp at hh, fun hh => ?_⟩
            rw [← hh, hseg] at hle
            omega
      · have hmn' : ¬ (m : Int) < ((ls.length : Nat) : Int) := by omega
        refine ⟨fun _ => False, ?_, fun _ hf => hf.elim⟩
        rw [List.take_of_length_le (by omega)] at hb
        cases b with
        | true =>
          simp (disch := omega) only [SX, Nat.reduceAdd, hmn']
          exact hyes (hb.1 rfl) w3 e3
        | false =>
          simp (disch := omega) only [SX, Nat.reduceAdd, hmn']
          exact hno (fun hh => by have := hb.2 hh; simp at this) w3 e3
    · have hjn' : ¬ (j : Int) ≤ ((line.length : Nat) : Int) := by omega
      simp (disch := omega) only [SX, Nat.reduceAdd, STR_len, hjn']
      refine ⟨⟨i + 1, xs, by simp, by omega, hrow, hris, fun q => ?_, by omega, e2⟩, by simp only [vnat_int]; omega⟩
      rw [hmem]
      constructor
      · rintro ⟨h1, h2⟩; exact ⟨h1, by omega⟩
      · rintro ⟨h1, h2⟩
        obtain ⟨a, b, rfl, h4, h5⟩ := occ_bnd h1
        simp only at h2 ⊢
        exact ⟨h1, by omega⟩
  · have hin' : ¬ (i : Int) < ((line.length : Nat) : Int) := by omega
    simp (disch := omega) only [SX, Nat.reduceAdd, STR_len, hin']
    refine k _ _ ⟨⟨xs, hrow, hris, fun q => ?_, by omega⟩, e1⟩
    rw [hmem]
    refine ⟨fun h => h.1, fun h1 => ⟨h1, ?_⟩⟩
    obtain ⟨a, b, rfl, h4, h5⟩ := occ_bnd h1
    simp only
    omega
end
end Go.Proofs.YtgjfhmahiiokeaaGreat.Y
set_option linter.unusedVariables false
set_option linter.unusedSimpArgs false
set_option maxRecDepth 8000
namespace Go.Proofs.YtgjfhmahiiokeaaGreat.Y
open Go Go.Sx

/-! ### The reference's patterns, and what is found of them -/
theorem dep_sum {ls : List (List UInt8)} (x : Int) : depM (trieM ls) x ≤ sumL ls := by
  have hT := trie_for ls
  by_cases hin : 0 ≤ x ∧ x < (trieM ls).length
  · have hf := find_of hT.ok hin.1 hin.2
    rcases hT.node (pathM (trieM ls) x) (by rw [hf]; exact hin.1) with h0 | ⟨t, ht, hp⟩
    · unfold depM; rw [h0]; simp
    · have h1 := hp.length_le
      have h2 := sumL_mem ht
      unfold depM
      omega
  · unfold depM pathM; rw [up_stop (fun y hy => by rw [nodeM_none hin] at hy; cases hy)]; simp

section
variable {w : World}

theorem ref04_In {v : Value} {ls : List (List UInt8)} (h : SlG sCells w v ls) (s : List UInt8) : RET Tryz.prog 36 [v, strV s] w fun r w' => r = .bool (decide (s ∈ ls)) ∧ w' = w := by
  have hl := h.len
  obtain ⟨A, c, rfl⟩ := h.shape
  refine RET_by fun R k => ?_
  apply by_seineref04_In
  unfold sh_seineref04_In
  refine ⟨fun iv w1 => ∃ i : Nat, iv = .int .i64 i ∧ w1 = w ∧ i ≤ ls.length ∧ s ∉ ls.take i, fun iv _ => ls.length - vnat iv, ⟨0, rfl, rfl, Nat.zero_le _, by simp⟩, ?_⟩
  rintro iv w ⟨i, rfl, rfl, hi, hn⟩
  by_cases hlt : i < ls.length
  · have hlt' : (i : Int) < ((ls.length : Nat) : Int) := by omega
    obtain ⟨b, o, c', hv, hc⟩ := slS_at h hlt
    injection hv with hA _ hcc
    subst hA hcc
    simp (disch := omega) only [SX, Nat.reduceAdd, hlt', LD_9 hc]
    rw [STR_eq]
    by_cases he : ls[i] = s
    · simp (disch := omega) only [SX, Nat.reduceAdd, he]
      exact k _ _ ⟨by rw [decide_eq_true (show s ∈ ls by rw [← he]; exact List.getElem_mem hlt)], rfl⟩
    · simp (disch := omega) only [SX, Nat.reduceAdd, he]
      refine ⟨⟨i + 1, by simp, by trivial, by omega, ?_⟩, by simp only [vnat_int]; omega⟩
      rw [List.take_succ_eq_append_getElem hlt]
      intro hm
      rcases List.mem_append.1 hm with hm | hm
      · exact hn hm
      · simp only [List.mem_singleton] at hm
        exact he hm.symm
  · have hlt' : ¬ (i : Int) < ((ls.length : Nat) : Int) := by omega
    simp (disch := omega) only [SX, Nat.reduceAdd, hlt']
    rw [List.take_of_length_le (by omega)] at hn
    exact k _ _ ⟨by rw [decide_eq_false hn], rfl⟩

/-- The reference's set: texts, and whether the empty one is among them. -/
def SetR (w : World) (v : Value) (ps : List (List UInt8)) (e : Bool) : Prop := ∃ sv, v = .agg #[sv, .bool e] ∧ SlG sCells w sv ps
theorem SetR.ext {w w' : World} {v : Value} {ps : List (List UInt8)} {e : Bool} (h : SetR w v ps e) (hc : Ext w w') : SetR w' v ps e := by
  obtain ⟨sv, rfl, h⟩ := h
  exact ⟨sv, rfl, h.ext hc⟩

theorem ref04_Of {v : Value} {ls : List (List UInt8)} (h : SlG sCells w v ls) (hn : ls.length ≤ 2 ^ 31) : RET Tryz.prog 15 [v] w fun r w' => SetR w' r (ofM ls) (decide ([] ∈ ls)) ∧ Ext w w' := by
  have hl := h.len
  obtain ⟨A, cc, rfl⟩ := h.shape
  refine RET_by fun R k => ?_
  apply by_seineref04_Of
  unfold sh_seineref04_Of
  refine AL_42 fun w1 o1 e1 z1 => ?_
  simp (disch := omega) only [SX, Nat.reduceAdd]
  refine AL_42 fun w2 o2 e2 z2 => ?_
  refine STOREA SZ_42 (vs := [.slice none 0 0, .bool false]) rfl o2 (by simp) (by simp [Value.oneCell']) fun w3 o3 c3 z3 => ?_
  have o3 : Own w3 w1.heap.size [.slice none 0 0, .bool false] 42 := o3
  have or3 := (o1.ext e2).chg c3 (by omega)
  have e03 : Ext w w3 := (e1.trans e2).ext_of c3 fun j hj => by omega
  generalize hsb : w1.heap.size = sb at *
  generalize hB : w3.heap.size = B at *
  refine ⟨fun iv w5 => ∃ (i : Nat) (sv : Value), iv = .int .i64 i ∧ i ≤ ls.length ∧ Own w5 sb [sv, .bool (decide ([] ∈ ls.take i))] 42 ∧ w5.ownsRow B 9 1 sv (ofM (ls.take i)).length ((ofM (ls.take i)).map strV) ∧ Own w5 w.heap.size [.slice none 0 0, .bool false] 42 ∧ Ext w w5 ∧ B ≤ w5.heap.size, fun iv _ => ls.length - vnat iv,
    ⟨0, _, rfl, Nat.zero_le _, o3, World.ownsRow_nil _ _ _ _, or3, e03, by omega⟩, ?_⟩
  rintro iv w5 ⟨i, sv, rfl, hi', o5, hr5, or5, e5, zB⟩
  have hofl := ofM_len (ls.take i)
  rw [List.length_take] at hofl
  by_cases hlt : i < ls.length
  · have hlt' : (i : Int) < ((ls.length : Nat) : Int) := by omega
    obtain ⟨b, o, c', hv, hc⟩ := slS_at (h.ext e5) hlt
    injection hv with hA _ hcc
    subst hA hcc
    have htk : ls.take (i + 1) = ls.take i ++ [ls[i]] := List.take_succ_eq_append_getElem hlt
    have hof := ofM_snoc (ls.take i) ls[i]
    rw [← htk] at hof
    by_cases he : ls[i] = []
    · rw [if_pos (.inl he)] at hof
      have hme : decide ([] ∈ ls.take (i + 1)) = true := by rw [htk, he]; simp
      simp (disch := omega) only [SX, Nat.reduceAdd, hlt', LD_9 hc, STR_eq0, he]
      refine STORE SZ_4 o5 (by simp) rfl rfl fun w6 o6 c6 z6 => ?_
      have o6 : Own w6 sb [sv, .bool true] 42 := o6
      try simp (disch := omega) only [SX, Nat.reduceAdd]
      refine ⟨⟨i + 1, sv, by simp, by omega, by rw [hme]; exact o6, by rw [hof]; exact row_chg hr5 c6 (fun q hq hS => by have := row_base hr5 q hq.symm; omega), or5.chg c6 (by omega), e5.ext_of c6 (fun j hj => by omega), by omega⟩, by simp only [vnat_int]; omega⟩
    · have hme : decide ([] ∈ ls.take (i + 1)) = decide ([] ∈ ls.take i) := by
        rw [decide_eq_decide, htk, List.mem_append, List.mem_singleton]
        exact ⟨fun h => h.elim id fun h => (he h.symm).elim, .inl⟩
      obtain ⟨As, cs, rfl, _⟩ := row_shape hr5
      simp (disch := omega) only [SX, Nat.reduceAdd, hlt', LD_9 hc, STR_eq0, he, DRAWQ, RD_25 (o5.cell (i := 0) rfl), RD_9 hc]
      refine CALL_of (ref04_In ((slS_row hr5 (by omega)).1.ext (Ext.drew _)) _) ?_
      rintro _ w6 ⟨rfl, rfl⟩
      by_cases hx : ls[i] ∈ ofM (ls.take i)
      · rw [if_pos (.inr hx)] at hof
        simp (disch := omega) only [SX, Nat.reduceAdd, hx]
        refine ⟨⟨i + 1, _, by simp, by omega, by rw [hme]; exact o5.drew, by rw [hof]; exact row_ext hr5 (Ext.drew _), or5.drew, e5.trans (Ext.drew _), zB⟩, by simp only [vnat_int]; omega⟩
      · rw [if_neg (fun hh => hh.elim he hx)] at hof
        simp (disch := omega) only [SX, Nat.reduceAdd, hx]
        have o6 := o5.drew
        have hc6 : w5.drew.cell? ⟨b, o + i, none⟩ = some (strV ls[i]) := hc
        generalize hw6 : w5.drew = w6 at *
        have e56 : Ext w5 w6 := by rw [← hw6]; exact Ext.drew _
        have z6 : w6.heap.size = w5.heap.size := by rw [← hw6]; rfl
        refine ⟨KP (fun _ => False) w6, KP.refl _ _, ?_⟩
        simp (disch := omega) only [SX, Nat.reduceAdd, RK_25 (X := fun _ => False) (o6.cell (i := 0) rfl) (fun x => x) (KP.refl _ _), RK_9 (X := fun _ => False) hc6 (fun x => x) (KP.refl _ _)]
        refine BS_25_1 fun w7 o7 e7 z7 => ?_
        have e7 : Ext w6 w7 := (Ext.drew _).trans e7
        have z7' := e7.size
        refine KEEP (KP.of_ext e7) ?_
        have hr7 := row_ext (row_ext hr5 e56) e7
        refine PUSH1 (by kernel_rfl) IN_9 rfl hr7 o7 rfl (by unfold maxLen; omega) (by omega) (by omega) fun v8 w8 r8 c8 g8 => ?_
        have ow : ∀ j, some j = (Value.slice As (ofM (ls.take i)).length cs).ownBlock → B ≤ j := fun j hj => row_base hr7 j hj
        have o8 := (o6.ext e7).chg c8 (fun hk => by have := ow _ hk; omega)
        have or8 := ((or5.ext e56).ext e7).chg c8 (fun hk => by have := ow _ hk; omega)
        have e8 : Ext w w8 := (e5.trans (e56.trans e7)).ext_of c8 fun j hj => by have := ow j hj; omega
        have z8 := c8.size
        obtain ⟨A8, cp8, rfl, _⟩ := row_shape r8
        try simp (disch := omega) only [SX, Nat.reduceAdd]
        refine STORE SZ_25 o8 (by simp) rfl rfl fun w9 o9 c9 z9 => ?_
        try simp (disch := omega) only [SX, Nat.reduceAdd]
        refine ⟨⟨i + 1, _, by simp, by omega, by rw [hme]; exact o9, ?_, or8.chg c9 (by omega), e8.ext_of c9 (fun j hj => by omega), by omega⟩, by simp only [vnat_int]; omega⟩
        have := row_chg r8 c9 (fun q hq hS => by have := row_base r8 q hq.symm; omega)
        rw [hof]
        simpa [strV] using this
  · have hlt' : ¬ (i : Int) < ((ls.length : Nat) : Int) := by omega
    simp (disch := omega) only [SX, Nat.reduceAdd, hlt']
    rw [List.take_of_length_le (by omega)] at o5 hr5
    obtain ⟨As, cs, rfl, _⟩ := row_shape hr5
    have hofl := ofM_len ls
    rw [LA_42 (cellsAt_whole o5 rfl)]
    refine STOREA SZ_42 (vs := [.slice As (ofM ls).length cs, .bool (decide ([] ∈ ls))]) rfl or5 (by simp) (by simp [Value.oneCell']) fun w6 o6 c6 z6 => ?_
    refine LOADRES_A (by kernel_rfl) SZ_42 (cellsAt_whole o6 rfl) (k _ _ ⟨⟨_, rfl, (slS_row (row_chg hr5 c6 (fun q hq hS => by have := row_base hr5 q hq.symm; omega)) (by omega)).1⟩, e5.ext_of c6 fun j hj => by omega⟩)

variable {v : Value} {ps : List (List UInt8)} {e : Bool}

theorem ref17_Wrong (h : SetR w v ps e) (hs : sumL ps ≤ 2 ^ 30) (tag : Int) : RET Tryz.prog 16 [.int .i64 tag, v] w fun r w' => r = .int .i64 (wrongM tag ps e) ∧ Ext w w' := by
  obtain ⟨sv, rfl, h⟩ := h
  have hl := h.len
  obtain ⟨A, c, rfl⟩ := h.shape
  refine RET_by fun R k => ?_
  apply by_seineref17_Wrong
  unfold sh_seineref17_Wrong
  refine BOXA (cs := [.slice A ps.length c, .bool e]) fun w1 o1 e1 z1 => ?_
  by_cases h0 : tag < 0 ∨ 3 < tag
  · have hw : wrongM tag ps e = 11 := by unfold wrongM; rw [if_pos h0]
    refine ⟨fun _ => False, ?_, fun _ hf => hf.elim⟩
    rcases h0 with h0 | h0
    · simp (disch := omega) only [SX, Nat.reduceAdd, h0]
      exact k _ _ ⟨by rw [hw], e1⟩
    · simp (disch := omega) only [SX, Nat.reduceAdd, show ¬ tag < 0 by omega, h0]
      exact k _ _ ⟨by rw [hw], e1⟩
  · refine ⟨fun w2 => w2 = w1, ?_, ?_⟩
    · simp (disch := omega) only [SX, Nat.reduceAdd, show ¬ tag < 0 by omega, show ¬ 3 < tag by omega]
    rintro w2 rfl
    by_cases h2 : tag = 2 ∧ (ps.length ≠ 1 ∨ e = true)
    · have hw : wrongM tag ps e = 13 := by unfold wrongM; rw [if_neg h0, if_pos h2]
      refine ⟨fun _ => False, ?_, fun _ hf => hf.elim⟩
      obtain ⟨rfl, h2⟩ := h2
      by_cases h1 : ps.length = 1
      · have h1' : ((ps.length : Nat) : Int) = 1 := by omega
        have he : e = true := h2.resolve_left (fun hh => hh h1)
        simp (disch := omega) only [SX, Nat.reduceAdd, LD_25 (o1.cell (i := 0) rfl), LD_4 (o1.cell (i := 1) rfl), h1', he]
        exact k _ _ ⟨by rw [hw], e1⟩
      · have h1' : ¬ ((ps.length : Nat) : Int) = 1 := by omega
        simp (disch := omega) only [SX, Nat.reduceAdd, LD_25 (o1.cell (i := 0) rfl), h1']
        exact k _ _ ⟨by rw [hw], e1⟩
    · refine ⟨fun w3 => w3 = w2, ?_, ?_⟩
      · by_cases ht : tag = 2
        · subst ht
          have h1 : ps.length = 1 := Classical.not_not.1 fun hh => h2 ⟨rfl, .inl hh⟩
          have he : e = false := by cases e; rfl; exact (h2 ⟨rfl, .inr rfl⟩).elim
          have h1' : ((ps.length : Nat) : Int) = 1 := by omega
          simp (disch := omega) only [SX, Nat.reduceAdd, LD_25 (o1.cell (i := 0) rfl), LD_4 (o1.cell (i := 1) rfl), h1', he]
        · simp (disch := omega) only [SX, Nat.reduceAdd, ht]
      rintro w3 rfl
      by_cases ht : tag = 1
      · subst ht
        simp (disch := omega) only [SX, Nat.reduceAdd, LD_25 (o1.cell (i := 0) rfl)]
        refine CALL_of (ref06_Paths (h.ext e1) (by omega)) ?_
        rintro pv w4 ⟨hpv, e4⟩
        have htl := trie_len ps
        obtain ⟨A4, c4, rfl, _⟩ := row_shape hpv
        by_cases hb : 160 < (trieM ps).length
        · have hw : wrongM 1 ps e = 14 := by simp [wrongM, hb]
          have hb' : (160 : Int) < (((trieM ps).length : Nat) : Int) := by omega
          simp (disch := omega) only [SX, Nat.reduceAdd, hb']
          exact k _ _ ⟨by rw [hw], e1.trans e4⟩
        · have hw : wrongM 1 ps e = 0 := by simp [wrongM, hb]
          have hb' : ¬ (160 : Int) < (((trieM ps).length : Nat) : Int) := by omega
          simp (disch := omega) only [SX, Nat.reduceAdd, hb']
          exact k _ _ ⟨by rw [hw], e1.trans e4⟩
      · have hw : wrongM tag ps e = 0 := by unfold wrongM; rw [if_neg h0, if_neg h2, if_neg (fun hh => ht hh.1)]
        simp (disch := omega) only [SX, Nat.reduceAdd, ht]
        exact k _ _ ⟨by rw [hw], e1⟩

theorem ref17_Counts (h : SetR w v ps e) (hs : sumL ps + 1 ≤ 2 ^ 30) {line : List UInt8} (hl : line.length ≤ 2 ^ 20) (tag : Int) (ht : 0 ≤ tag) : RET Tryz.prog 21 [.int .i64 tag, v, strV line] w fun r w' => r = .tuple #[.int .i64 (readM tag ps line), .int .i64 (lookM tag ps line)] ∧ Ext w w' := by
  obtain ⟨sv, rfl, h⟩ := h
  have hll := h.len
  obtain ⟨A, c, rfl⟩ := h.shape
  refine RET_by fun R k => ?_
  apply by_seineref17_Counts
  unfold sh_seineref17_Counts
  refine BOXA (cs := [.slice A ps.length c, .bool e]) fun w1 o1 e1 z1 => ?_
  by_cases h0 : ps = [] ∨ 1 < tag
  · have hw : readM tag ps line = 0 ∧ lookM tag ps line = 0 := by unfold readM lookM; rw [if_pos h0, if_pos h0]; exact ⟨rfl, rfl⟩
    refine ⟨fun _ => False, ?_, fun _ hf => hf.elim⟩
    by_cases hz : ps.length = 0
    · have hz' : ((ps.length : Nat) : Int) = 0 := by omega
      simp (disch := omega) only [SX, Nat.reduceAdd, LD_25 (o1.cell (i := 0) rfl), hz']
      exact k _ _ ⟨by rw [hw.1, hw.2], e1⟩
    · have hz' : ¬ ((ps.length : Nat) : Int) = 0 := by omega
      have hg : 1 < tag := h0.resolve_left fun hh => hz (by rw [hh]; rfl)
      simp (disch := omega) only [SX, Nat.reduceAdd, LD_25 (o1.cell (i := 0) rfl), hz', hg]
      exact k _ _ ⟨by rw [hw.1, hw.2], e1⟩
  · have hz' : ¬ ((ps.length : Nat) : Int) = 0 := fun hh => h0 (.inl (List.eq_nil_of_length_eq_zero (by omega)))
    have hg : ¬ 1 < tag := fun hh => h0 (.inr hh)
    refine ⟨fun w2 => w2 = w1, ?_, ?_⟩
    · simp (disch := omega) only [SX, Nat.reduceAdd, LD_25 (o1.cell (i := 0) rfl), hz', hg]
    rintro w2 rfl
    by_cases h1 : tag = 1
    · subst h1
      simp (disch := omega) only [SX, Nat.reduceAdd, STR_len]
      exact k _ _ ⟨by unfold readM lookM; rw [if_neg h0, if_neg h0, if_pos rfl], e1⟩
    · simp (disch := omega) only [SX, Nat.reduceAdd, STR_len, h1, LD_25 (o1.cell (i := 0) rfl)]
      refine CALL_of (ref06_Paths (h.ext e1) (by omega)) ?_
      rintro pv w4 ⟨hpv, e4⟩
      have htl := trie_len ps
      have hT := (trie_for ps).ok
      obtain ⟨hsl, hnl⟩ := slS_row hpv (by rw [paths_len]; omega)
      refine CALL_of (ref08_Looks hT hsl (fun x => ?_) (by omega)) ?_
      · have := dep_sum (ls := ps) x
        omega
      rintro r w5 ⟨rfl, e5⟩
      try simp (disch := omega) only [SX, Nat.reduceAdd]
      exact k _ _ ⟨by unfold readM lookM; rw [if_neg h0, if_neg h0, if_neg h1], e1.trans (e4.trans e5)⟩

theorem ref17_Find (h : SetR w v ps e) {line : List UInt8} (hl : line.length ≤ 4096) : RET Tryz.prog 22 [v, strV line] w fun r w' => (∃ xs, SlG pcells w' r xs ∧ Rising xs ∧ ∀ q, q ∈ xs ↔ IsHit ps e line q) ∧ Ext w w' := by
  obtain ⟨sv, rfl, h⟩ := h
  have hll := h.len
  obtain ⟨A, c, rfl⟩ := h.shape
  refine RET_by fun R k => ?_
  apply by_seineref17_Find
  unfold sh_seineref17_Find
  refine BOXA (cs := [.slice A ps.length c, .bool e]) fun w1 o1 e1 z1 => ?_
  simp (disch := omega) only [SX, Nat.reduceAdd, LD_25 (o1.cell (i := 0) rfl)]
  refine CALL_of (ref03_Occ (h.ext e1) hl) ?_
  rintro ov w2 ⟨⟨xs, hr, hris, hmem, hxl⟩, e2⟩
  refine ⟨fun ov iv w3 => ∃ (i : Nat) (xs : List (Int × Int)), iv = .int .i64 i ∧ i ≤ line.length + 1 ∧ (i = 0 ∨ e = true) ∧ SlG pcells w3 ov xs ∧ Rising xs ∧ (∀ q, q ∈ xs ↔ IsOcc ps line q ∨ q ∈ emptL i) ∧ xs.length ≤ 2 ^ 30 + i ∧ Ext w2 w3, fun _ iv _ => line.length + 1 - vnat iv,
    ⟨0, xs, rfl, Nat.zero_le _, .inl rfl, (SlG.of_row pcells_len (by omega) hr (by omega)).1, hris, fun q => by rw [hmem]; simp [emptL], by omega, Ext.refl _⟩, ?_⟩
  rintro ov iv w3 ⟨i, xs, rfl, hi, hie, hr, hris, hmem, hxl, e3⟩
  obtain ⟨Ao, co, rfl⟩ := hr.shape
  cases e with
  | false =>
    have hi0 : i = 0 := hie.resolve_right (by simp)
    subst hi0
    have : (((0 : Nat) : Int)) ≤ ((line.length : Nat) : Int) := by omega
    simp (disch := omega) only [SX, Nat.reduceAdd, STR_len, this, LD_4 ((o1.ext (e2.trans e3)).cell (i := 1) rfl)]
    refine k _ _ ⟨⟨xs, hr, hris, fun q => ?_⟩, e1.trans (e2.trans e3)⟩
    rw [hmem]
    simp [IsHit, emptL]
  | true =>
    by_cases hin : i ≤ line.length
    · have hin' : (i : Int) ≤ ((line.length : Nat) : Int) := by omega
      simp (disch := omega) only [SX, Nat.reduceAdd, STR_len, hin', LD_4 ((o1.ext (e2.trans e3)).cell (i := 1) rfl)]
      refine CALL_of (ref03_Put hr hris (by omega) ((i : Int), (i : Int))) ?_
      rintro ov w4 ⟨⟨xs', hr', hris', hmem', hxl'⟩, e4⟩
      obtain ⟨A4, c4, rfl, _⟩ := row_shape hr'
      try simp (disch := omega) only [SX, Nat.reduceAdd]
      refine ⟨⟨i + 1, xs', by simp, by omega, .inr trivial, (SlG.of_row pcells_len (by omega) hr' (by omega)).1, hris', fun q => ?_, by omega, e3.trans e4⟩, by simp only [vnat_int]; omega⟩
      rw [hmem', hmem, emptL_succ, List.mem_append, List.mem_singleton, or_assoc]
    · have hin' : ¬ (i : Int) ≤ ((line.length : Nat) : Int) := by omega
      have hie : i = line.length + 1 := by omega
      subst hie
      simp (disch := omega) only [SX, Nat.reduceAdd, STR_len, hin']
      refine k _ _ ⟨⟨xs, hr, hris, fun q => ?_⟩, e1.trans (e2.trans e3)⟩
      rw [hmem]
      simp [IsHit]
end
end Go.Proofs.YtgjfhmahiiokeaaGreat.Y
