import Derived.Test.YtgjfhmahiiokeaaGreatRowT
import Derived.Test.YtgjfhmahiiokeaaGreatLib
import Derived.Test.YtgjfhmahiiokeaaGreatStrs
import Derived.Test.YtgjfhmahiiokeaaGreatTrieC
set_option linter.unusedVariables false
set_option linter.unusedSimpArgs false
set_option linter.unusedVariables false
set_option linter.unusedSimpArgs false
set_option maxRecDepth 8000
namespace Go.Proofs.YtgjfhmahiiokeaaGreat.Y
open Go Go.Sx

/-! ### Patterns -/
def ofM (ls : List (List UInt8)) : List (List UInt8) := ls.foldl (fun s t => if t = [] ∨ t ∈ s then s else s ++ [t]) []
theorem ofM_snoc (l : List (List UInt8)) (t : List UInt8) : ofM (l ++ [t]) = if t = [] ∨ t ∈ ofM l then ofM l else ofM l ++ [t] := by unfold ofM; rw [List.foldl_append]; rfl
theorem snoc_ind {α : Type} {P : List α → Prop} (h0 : P []) (h1 : ∀ l a, P l → P (l ++ [a])) (l : List α) : P l := by
  have : ∀ n (l : List α), l.length = n → P l := by
    intro n
    induction n with
    | zero => intro l hl; rw [List.eq_nil_of_length_eq_zero hl]; exact h0
    | succ n ih =>
      intro l hl
      rcases List.eq_nil_or_concat l with rfl | ⟨r, a, rfl⟩
      · simp at hl
      · rw [List.concat_eq_append] at hl ⊢
        exact h1 r a (ih r (by simpa using hl))
  exact this _ l rfl
theorem ofM_mem (ls : List (List UInt8)) : ∀ t, t ∈ ofM ls ↔ t ≠ [] ∧ t ∈ ls := by
  refine snoc_ind (P := fun ls => ∀ t, t ∈ ofM ls ↔ t ≠ [] ∧ t ∈ ls) ?_ ?_ ls
  · intro t; simp [ofM]
  · intro l a ih t
    rw [ofM_snoc]
    split
    · rename_i h
      rw [ih t]
      constructor
      · rintro ⟨h1, h2⟩; exact ⟨h1, List.mem_append_left _ h2⟩
      · rintro ⟨h1, h2⟩
        refine ⟨h1, ?_⟩
        rcases List.mem_append.1 h2 with h2 | h2
        · exact h2
        · simp only [List.mem_singleton] at h2
          subst h2
          rcases h with h | h
          · exact (h1 h).elim
          · exact ((ih _).1 h).2
    · rename_i h
      rw [List.mem_append, ih t, List.mem_append, List.mem_singleton]
      constructor
      · rintro (⟨h1, h2⟩ | rfl)
        · exact ⟨h1, .inl h2⟩
        · exact ⟨fun h1 => h (.inl h1), .inr rfl⟩
      · rintro ⟨h1, h2 | h2⟩
        · exact .inl ⟨h1, h2⟩
        · exact .inr h2
theorem ofM_len (ls : List (List UInt8)) : (ofM ls).length ≤ ls.length ∧ sumL (ofM ls) ≤ sumL ls := by
  refine snoc_ind (P := fun ls => (ofM ls).length ≤ ls.length ∧ sumL (ofM ls) ≤ sumL ls) ?_ ?_ ls
  · simp [ofM]
  · intro l a ih
    have happ : ∀ l m : List (List UInt8), sumL (l ++ m) = sumL l + sumL m := by
      intro l m
      induction l with
      | nil => simp [sumL]
      | cons t l ih => simp [sumL, ih]; omega
    rw [ofM_snoc, List.length_append, happ]
    split
    · exact ⟨by omega, by omega⟩
    · rw [List.length_append, happ]; omega
/-- The least length; 0: there is none. -/
def leastM (ls : List (List UInt8)) : Nat := ls.foldl (fun n t => if n = 0 ∨ t.length < n then t.length else n) 0

structure IsSet (w : World) (lo hi : Nat) (v : Value) (ls : List (List UInt8)) : Prop where
  ex : ∃ sv m kvs, v = .agg #[sv, .map (some m), .bool (decide ([] ∈ ls))] ∧ RowH w lo hi sv (ofM ls) ∧ MapS w m kvs ∧ kvs.map (·.1) = ofM ls ∧ lo ≤ m ∧ m < hi
theorem IsSet.chg {S : Nat → Prop} {w w' : World} {lo hi : Nat} {v : Value} {ls : List (List UInt8)} (h : IsSet w lo hi v ls) (hc : Chg S w w') (hs : ∀ i, S i → i < lo ∨ hi ≤ i) : IsSet w' lo hi v ls := by
  obtain ⟨sv, m, kvs, h1, h2, h3, h4, h5, h6⟩ := h.ex
  exact ⟨sv, m, kvs, h1, h2.chg hc hs, h3.chg hc (fun hS => by have := hs _ hS; omega), h4, h5, h6⟩
theorem IsSet.ext {w w' : World} {lo hi : Nat} {v : Value} {ls : List (List UInt8)} (h : IsSet w lo hi v ls) (hc : Ext w w') : IsSet w' lo hi v ls := h.chg hc fun _ x => x.elim

theorem key_str : KeyS Tryz.prog 9 := ⟨fun _ _ _ => by kernel_rfl, Tryz.underlying9⟩

section
variable {w : World} {lo hi : Nat} {v : Value} {ls : List (List UInt8)}

theorem patset_Of {lv : Value} (h : SlT w lv ls) (hn : ls.length ≤ 2 ^ 31) : RET Tryz.prog 10 [lv] w fun r w' => IsSet w' w.heap.size w'.heap.size r ls ∧ Ext w w' := by
  have h' := h
  have hll := h.len
  obtain ⟨A, cc, rfl⟩ := h.shape
  refine RET_by fun R k => ?_
  apply by_patset_Of
  unfold sh_patset_Of
  refine AL_30 fun w1 o1 e1 z1 => ?_
  refine MAKEMAP fun w2 m2 e2 z2 => ?_
  simp (disch := omega) only [SX, Nat.reduceAdd]
  refine AL_30 fun w3 o3 e3 z3 => ?_
  refine STOREA SZ_30 (vs := [.slice none 0 0, .map (some w1.heap.size), .bool false]) rfl o3 (by simp) (by simp [Value.oneCell']) fun w4 o4 c4 z4 => ?_
  have o4 : Own w4 w2.heap.size [.slice none 0 0, .map (some w1.heap.size), .bool false] 30 := o4
  have o1' := ((o1.ext e2).ext e3).chg c4 (by omega)
  have hm4 : MapS w4 w1.heap.size [] := ⟨#[], 0, ((c4.block _ (by omega) (by omega)).trans (e3.block _ (by omega) (fun x => x))).trans m2, rfl⟩
  have e04 : Ext w w4 := (e1.trans (e2.trans e3)).ext_of c4 fun i hi => by omega
  generalize hB : w4.heap.size = B at *
  generalize hmb : w1.heap.size = mb at *
  generalize hsb : w2.heap.size = sb at *
  try simp (disch := omega) only [SX, Nat.reduceAdd]
  refine ⟨fun iv w5 => ∃ (i : Nat) (sv : Value) (kvs : List KS), iv = .int .i64 i ∧ i ≤ ls.length ∧ Own w5 sb [sv, .map (some mb), .bool (decide ([] ∈ ls.take i))] 30 ∧ RowT w5 B B sv (ofM (ls.take i)) ∧ MapS w5 mb kvs ∧ kvs.map (·.1) = ofM (ls.take i) ∧ Own w5 w.heap.size [.slice none 0 0, .map none, .bool false] 30 ∧ Ext w w5 ∧ B ≤ w5.heap.size, fun iv _ => ls.length - vnat iv,
    ⟨0, _, [], rfl, Nat.zero_le _, o4, RowT.nil _ _ _, hm4, rfl, o1', e04, by omega⟩, ?_⟩
  rintro iv w5 ⟨i, sv, kvs, rfl, hi', o5, hT5, hm5, hkv, or5, e5, zB⟩
  have hofl := ofM_len (ls.take i)
  rw [List.length_take] at hofl
  by_cases hlt : i < ls.length
  · have hlt' : (i : Int) < (ls.length : Int) := by omega
    obtain ⟨b, o, c, u, hv, hcell, hu⟩ := (h'.ext e5).at hlt
    injection hv with hA _ hc
    subst hA hc
    have htk : ls.take (i + 1) = ls.take i ++ [ls[i]] := List.take_succ_eq_append_getElem hlt
    have hu' := hu
    obtain ⟨A', c', rfl⟩ := hu.shape
    have hof := ofM_snoc (ls.take i) ls[i]
    rw [← htk] at hof
    by_cases he : ls[i] = []
    · have he' : ((ls[i].length : Nat) : Int) = 0 := by rw [he]; rfl
      rw [if_pos (.inl he)] at hof
      simp (disch := omega) only [SX, Nat.reduceAdd, hlt', LD_23 hcell, he']
      refine STORE SZ_4 o5 (by simp) rfl rfl fun w6 o6 c6 z6 => ?_
      have o6 : Own w6 sb [sv, .map (some mb), .bool true] 30 := o6
      have hme : decide ([] ∈ ls.take (i + 1)) = true := by rw [htk, he]; simp
      try simp (disch := omega) only [SX, Nat.reduceAdd]
      refine ⟨⟨i + 1, sv, kvs, by simp, by omega, by rw [hme]; exact o6, by rw [hof]; exact hT5.chg c6 (fun j hj => .inl (by omega)), hm5.chg c6 (by omega), by rw [hof]; exact hkv, or5.chg c6 (by omega), e5.ext_of c6 (fun j hj => by omega), by omega⟩, by simp only [vnat_int]; omega⟩
    · have he' : ¬ ((ls[i].length : Nat) : Int) = 0 := fun hh => he (List.eq_nil_of_length_eq_zero (by omega))
      have hme : decide ([] ∈ ls.take (i + 1)) = decide ([] ∈ ls.take i) := by
        rw [decide_eq_decide, htk, List.mem_append, List.mem_singleton]
        exact ⟨fun h => h.elim id fun h => (he h.symm).elim, .inl⟩
      simp (disch := omega) only [SX, Nat.reduceAdd, hlt', LD_23 hcell, he', LD_28 (o5.cell (i := 1) rfl)]
      rw [STR Tryz.underlying23 Tryz.underlying5 Tryz.underlying9 hu']
      rw [RUN_lookS Tryz.underlying28 (by kernel_rfl) key_str hm5]
      have hlk : (lookS kvs ls[i]).isSome = decide (ls[i] ∈ ofM (ls.take i)) := by
        rw [← hkv]
        by_cases hx : ls[i] ∈ kvs.map (·.1)
        · rw [lookS_mem.2 hx]; simp only [hx, decide_true]
        · cases hy : (lookS kvs ls[i]).isSome with
          | true => exact (hx (lookS_mem.1 hy)).elim
          | false => simp only [hx, decide_false]
      rw [hlk]
      by_cases hx : ls[i] ∈ ofM (ls.take i)
      · rw [if_pos (.inr hx)] at hof
        simp (disch := omega) only [SX, Nat.reduceAdd, hx]
        refine ⟨⟨i + 1, sv, kvs, by simp, by omega, by rw [hme]; exact o5, by rw [hof]; exact hT5, hm5, by rw [hof]; exact hkv, or5, e5, zB⟩, by simp only [vnat_int]; omega⟩
      · rw [if_neg (fun hh => hh.elim he hx)] at hof
        have hnone : lookS kvs ls[i] = none := by
          cases hy : lookS kvs ls[i] with
          | none => rfl
          | some x => rw [hy] at hlk; simp [hx] at hlk
        simp (disch := omega) only [SX, Nat.reduceAdd, hx, LD_28 (o5.cell (i := 1) rfl)]
        rw [STR Tryz.underlying23 Tryz.underlying5 Tryz.underlying9 hu']
        obtain ⟨hs0, q1, q2, q3⟩ := id hT5.ex
        obtain ⟨As, cs, rfl, _⟩ := row_shape q1
        simp (disch := omega) only [SX, Nat.reduceAdd, LD_22 (o5.cell (i := 0) rfl)]
        refine MAPNEWS Tryz.underlying28 key_str hm5 hnone fun w6 m6 c6 z6 => ?_
        have hT6 := hT5.chg c6 (fun j hj => .inl (by omega))
        have o6 := o5.chg c6 (by omega)
        have or6 := or5.chg c6 (by omega)
        have e6 : Ext w w6 := e5.ext_of c6 (fun j hj => by omega)
        have hu6 := (h'.ext e6).at hlt
        obtain ⟨b6, o6', c6', u6, hv6, hcell6, hu6⟩ := hu6
        refine ⟨KP (fun _ => False) w6, KP.refl _ _, ?_⟩
        simp (disch := omega) only [SX, Nat.reduceAdd, RK_22 (X := fun _ => False) (o6.cell (i := 0) rfl) (fun x => x) (KP.refl _ _)]
        have hub6 : SlB w6 (.slice A' ls[i].length c') ls[i] := by
          refine SlB.chg' hu' c6 fun hne q hq hq2 => ?_
          have hmk := hm5.lt
          obtain ⟨b9, o9, c9, u9, hv9, hcell9, hu9⟩ := h'.at hlt
          injection hv9 with hA9 _ hcc9
          injection hA9 with hA9
          injection hA9 with hA9 hA10
          subst hA9 hA10
          have := e5.cell hcell9
          rw [hcell] at this
          injection this with this
          subst this
          have := SlB.blk hu9 hne hq
          omega
        refine CALL_of (slices_CloneB (hub6.ext (Ext.drew _))) ?_
        rintro cv w7 ⟨hcv, e7, hfr⟩
        have e7 : Ext w6 w7 := (Ext.drew _).trans e7
        have hfr : ∀ k, cv.ownBlock = some k → w6.heap.size ≤ k ∧ k < w7.heap.size := hfr
        refine KEEP (KP.of_ext e7) ?_
        have z7 := e7.size
        refine PUSHTS (hT6.ext e7) hcv (fun _ q hq => ?_) (fun w1 e => KP.of_ext (e7.trans e)) (by omega) (by omega) fun v8 w8 hT8 c8 g8 => ?_
        · have := hfr q hq
          refine ⟨by omega, by omega, fun hk => ?_⟩
          have := (q1.lt q hk).2
          omega
        have ow : ∀ j, some j = (Value.slice As (ofM (ls.take i)).length cs).ownBlock → B ≤ j := fun j hj => row_base q1 j hj
        have o8 := (o6.ext e7).chg c8 (fun hk => by have := ow _ hk; omega)
        have m8 := (m6.ext e7).chg c8 (fun hk => by have := ow _ hk; omega)
        have or8 := (or6.ext e7).chg c8 (fun hk => by have := ow _ hk; omega)
        have e8 : Ext w w8 := (e6.trans e7).ext_of c8 fun j hj => by have := ow j hj; omega
        have z8 := c8.size
        obtain ⟨hs8, p1, p2, p3⟩ := id hT8.ex
        obtain ⟨A8, cp8, rfl, _⟩ := row_shape p1
        try simp (disch := omega) only [SX, Nat.reduceAdd]
        refine STORE SZ_22 o8 (by simp) rfl rfl fun w9 o9 c9 z9 => ?_
        try simp (disch := omega) only [SX, Nat.reduceAdd]
        refine ⟨⟨i + 1, _, _, by simp, by omega, by rw [hme]; exact o9, by rw [hof]; exact hT8.chg c9 (fun j hj => .inl (by omega)), m8.chg c9 (by omega), by rw [hof, ← hkv]; simp, or8.chg c9 (by omega), e8.ext_of c9 (fun j hj => by omega), by omega⟩, by simp only [vnat_int]; omega⟩
  · have hlt' : ¬ (i : Int) < (ls.length : Int) := by omega
    simp (disch := omega) only [SX, Nat.reduceAdd, hlt']
    rw [List.take_of_length_le (by omega)] at o5 hT5 hkv
    obtain ⟨hs0, q1, q2, q3⟩ := id hT5.ex
    rw [LA_30 (cellsAt_whole o5 rfl)]
    refine STOREA SZ_30 (vs := [sv, .map (some mb), .bool (decide ([] ∈ ls))]) rfl or5 (by simp) (by
      obtain ⟨As, cs, rfl, _⟩ := row_shape q1
      simp [Value.oneCell']) fun w6 o6 c6 z6 => ?_
    refine LOADRES_A (by kernel_rfl) SZ_30 (cellsAt_whole o6 rfl) (k _ _ ⟨⟨sv, mb, kvs, rfl, ?_, hm5.chg c6 (by omega), hkv, by omega, by omega⟩, e5.ext_of c6 fun j hj => by omega⟩)
    exact (hT5.chg c6 (fun j hj => .inl (by omega))).rowH (by omega) (by omega)
end
end Go.Proofs.YtgjfhmahiiokeaaGreat.Y
set_option linter.unusedVariables false
set_option linter.unusedSimpArgs false
set_option maxRecDepth 8000
namespace Go.Proofs.YtgjfhmahiiokeaaGreat.Y
open Go Go.Sx

/-! ### What a set of patterns tells -/
/-- A set, for those who read it. -/
def SetV (w : World) (v : Value) (ps : List (List UInt8)) (e : Bool) : Prop := ∃ sv m, v = .agg #[sv, .map (some m), .bool e] ∧ SlT w sv ps
theorem SetV.ext {w w' : World} {v : Value} {ps : List (List UInt8)} {e : Bool} (h : SetV w v ps e) (hc : Ext w w') : SetV w' v ps e := by
  obtain ⟨sv, m, rfl, h⟩ := h
  exact ⟨sv, m, rfl, h.ext hc⟩
theorem IsSet.setV {w : World} {lo hi : Nat} {v : Value} {ls : List (List UInt8)} (h : IsSet w lo hi v ls) (hl : ls.length ≤ 2 ^ 31) : SetV w v (ofM ls) (decide ([] ∈ ls)) := by
  obtain ⟨sv, m, kvs, rfl, h2, _⟩ := h.ex
  have := (ofM_len ls).1
  exact ⟨sv, m, rfl, h2.slT (by omega)⟩

theorem least_snoc (l : List (List UInt8)) (t : List UInt8) : leastM (l ++ [t]) = if leastM l = 0 ∨ t.length < leastM l then t.length else leastM l := by unfold leastM; rw [List.foldl_append]; rfl
theorem least_le (l : List (List UInt8)) : leastM l ≤ sumL l := by
  refine snoc_ind (P := fun l => leastM l ≤ sumL l) ?_ ?_ l
  · exact Nat.le_refl _
  · intro l a ih
    have happ : ∀ l m : List (List UInt8), sumL (l ++ m) = sumL l + sumL m := by
      intro l m
      induction l with
      | nil => simp [sumL]
      | cons t l ih => simp [sumL, ih]; omega
    rw [least_snoc, happ]
    simp only [sumL]
    split <;> omega
theorem least_pos (l : List (List UInt8)) (h : ∀ t ∈ l, t ≠ []) : 0 < leastM l ↔ l ≠ [] := by
  refine snoc_ind (P := fun l => (∀ t ∈ l, t ≠ []) → (0 < leastM l ↔ l ≠ [])) ?_ ?_ l h
  · intro _; simp [leastM]
  · intro l a ih h
    rw [least_snoc]
    have ha : a ≠ [] := h a (by simp)
    have := List.length_pos_iff.2 ha
    split
    · simp; exact this
    · rename_i hn
      simp only [not_or] at hn
      simp; omega
theorem ofM_ne (ls : List (List UInt8)) : ∀ t ∈ ofM ls, t ≠ [] := fun t ht => ((ofM_mem ls t).1 ht).1

section
variable {w : World} {v : Value} {ps : List (List UInt8)} {e : Bool}

theorem patset_Patterns (h : SetV w v ps e) (hn : ps.length ≤ 2 ^ 31) : RET Tryz.prog 23 [v] w fun r w' => RowH w' w.heap.size w'.heap.size r ps ∧ Ext w w' := by
  obtain ⟨sv, m, rfl, hsv⟩ := h
  obtain ⟨As, cs, rfl⟩ := hsv.shape
  refine RET_by fun R k => ?_
  apply by_patset_Set_Patterns
  unfold sh_patset_Set_Patterns
  refine BOXA (cs := [.slice As ps.length cs, .map (some m), .bool e]) fun w1 o1 e1 z1 => ?_
  simp (disch := omega) only [SX, Nat.reduceAdd, LD_22 (o1.cell (i := 0) rfl)]
  refine ⟨fun ov iv w2 => ∃ i : Nat, iv = .int .i64 i ∧ i ≤ ps.length ∧ RowT w2 w1.heap.size w1.heap.size ov (ps.take i) ∧ Ext w w2 ∧ w1.heap.size ≤ w2.heap.size, fun _ iv _ => ps.length - vnat iv, ⟨0, rfl, Nat.zero_le _, RowT.nil _ _ _, e1, Nat.le_refl _⟩, ?_⟩
  rintro ov iv w2 ⟨i, rfl, hi', hT, e2, zz⟩
  by_cases hlt : i < ps.length
  · have hlt' : (i : Int) < (ps.length : Int) := by omega
    obtain ⟨b, o, c, u, hv, hcell, hu⟩ := (hsv.ext e2).at hlt
    injection hv with hA _ hc
    subst hA hc
    have htk : ps.take (i + 1) = ps.take i ++ [ps[i]] := List.take_succ_eq_append_getElem hlt
    simp (disch := omega) only [SX, Nat.reduceAdd, hlt', LD_23 hcell]
    refine CALL_of (slices_CloneB hu) ?_
    rintro cv w3 ⟨hcv, e3, hfr⟩
    have z3 := e3.size
    obtain ⟨hs0, q1, q2, q3⟩ := id hT.ex
    have ql := q1.lt
    refine PUSHT (hT.ext e3) hcv (fun _ q hq => ?_) (by omega) (by rw [List.length_take]; omega) fun v8 w8 hT8 c8 g8 => ?_
    · have := hfr q hq
      exact ⟨by omega, by omega, fun hk => by have := ql q hk; omega⟩
    have z8 := c8.size
    obtain ⟨hs8, p1, p2, p3⟩ := id hT8.ex
    obtain ⟨A8, cp8, rfl, _⟩ := row_shape p1
    try simp (disch := omega) only [SX, Nat.reduceAdd]
    refine ⟨⟨i + 1, by simp, by omega, by rw [htk]; exact hT8, (e2.trans e3).ext_of c8 (fun j hj => by have := row_base q1 j hj; omega), by omega⟩, by simp only [vnat_int]; omega⟩
  · have hlt' : ¬ (i : Int) < (ps.length : Int) := by omega
    simp (disch := omega) only [SX, Nat.reduceAdd, hlt']
    rw [List.take_of_length_le (by omega)] at hT
    have := e1.size
    exact k _ _ ⟨hT.rowH (by omega) (by omega), e2⟩

theorem patset_Empty (h : SetV w v ps e) : RET Tryz.prog 24 [v] w fun r w' => r = .bool e ∧ Ext w w' := by
  obtain ⟨sv, m, rfl, hsv⟩ := h
  refine RET_by fun R k => ?_
  apply by_patset_Set_Empty
  unfold sh_patset_Set_Empty
  refine BOXA (cs := [sv, .map (some m), .bool e]) fun w1 o1 e1 z1 => ?_
  simp (disch := omega) only [SX, Nat.reduceAdd, LD_4 (o1.cell (i := 2) rfl)]
  exact k _ _ ⟨rfl, e1⟩

theorem patset_Size (h : SetV w v ps e) (hn : sumL ps ≤ 2 ^ 40) : RET Tryz.prog 25 [v] w fun r w' => r = .int .i64 (sumL ps : Nat) ∧ Ext w w' := by
  obtain ⟨sv, m, rfl, hsv⟩ := h
  have hll := hsv.len
  obtain ⟨As, cs, rfl⟩ := hsv.shape
  refine RET_by fun R k => ?_
  apply by_patset_Set_Size
  unfold sh_patset_Set_Size
  refine BOXA (cs := [.slice As ps.length cs, .map (some m), .bool e]) fun w1 o1 e1 z1 => ?_
  simp (disch := omega) only [SX, Nat.reduceAdd, LD_22 (o1.cell (i := 0) rfl)]
  refine ⟨fun nv iv w2 => ∃ i : Nat, nv = .int .i64 (sumL (ps.take i) : Nat) ∧ iv = .int .i64 i ∧ i ≤ ps.length ∧ w2 = w1, fun _ iv _ => ps.length - vnat iv, ⟨0, rfl, rfl, Nat.zero_le _, rfl⟩, ?_⟩
  rintro nv iv w2 ⟨i, rfl, rfl, hi', rfl⟩
  have happ : ∀ l m : List (List UInt8), sumL (l ++ m) = sumL l + sumL m := by
    intro l m
    induction l with
    | nil => simp [sumL]
    | cons t l ih => simp [sumL, ih]; omega
  by_cases hlt : i < ps.length
  · have hlt' : (i : Int) < (ps.length : Int) := by omega
    obtain ⟨b, o, c, u, hv, hcell, hu⟩ := (hsv.ext e1).at hlt
    injection hv with hA _ hc
    subst hA hc
    obtain ⟨A', c', rfl⟩ := hu.shape
    have htk : ps.take (i + 1) = ps.take i ++ [ps[i]] := List.take_succ_eq_append_getElem hlt
    have hs1 : sumL (ps.take (i + 1)) = sumL (ps.take i) + ps[i].length := by rw [htk, happ]; simp [sumL]
    have hs2 : sumL ps = sumL (ps.take (i + 1)) + sumL (ps.drop (i + 1)) := by rw [← happ, List.take_append_drop]
    simp (disch := omega) only [SX, Nat.reduceAdd, hlt', LD_23 hcell]
    refine ⟨⟨i + 1, ?_, by simp, by omega, trivial⟩, by simp only [vnat_int]; omega⟩
    congr 1
    omega
  · have hlt' : ¬ (i : Int) < (ps.length : Int) := by omega
    simp (disch := omega) only [SX, Nat.reduceAdd, hlt']
    rw [List.take_of_length_le (by omega)]
    exact k _ _ ⟨rfl, e1⟩

theorem patset_Least (h : SetV w v ps e) (hn : sumL ps ≤ 2 ^ 40) : RET Tryz.prog 33 [v] w fun r w' => r = .int .i64 (leastM ps : Nat) ∧ Ext w w' := by
  obtain ⟨sv, m, rfl, hsv⟩ := h
  have hll := hsv.len
  obtain ⟨As, cs, rfl⟩ := hsv.shape
  refine RET_by fun R k => ?_
  apply by_patset_Set_Least
  unfold sh_patset_Set_Least
  refine BOXA (cs := [.slice As ps.length cs, .map (some m), .bool e]) fun w1 o1 e1 z1 => ?_
  simp (disch := omega) only [SX, Nat.reduceAdd, LD_22 (o1.cell (i := 0) rfl)]
  refine ⟨fun nv iv w2 => ∃ i : Nat, nv = .int .i64 (leastM (ps.take i) : Nat) ∧ iv = .int .i64 i ∧ i ≤ ps.length ∧ w2 = w1, fun _ iv _ => ps.length - vnat iv, ⟨0, rfl, rfl, Nat.zero_le _, rfl⟩, ?_⟩
  rintro nv iv w2 ⟨i, rfl, rfl, hi', rfl⟩
  by_cases hlt : i < ps.length
  · have hlt' : (i : Int) < (ps.length : Int) := by omega
    obtain ⟨b, o, c, u, hv, hcell, hu⟩ := (hsv.ext e1).at hlt
    injection hv with hA _ hc
    subst hA hc
    obtain ⟨A', c', rfl⟩ := hu.shape
    have htk : ps.take (i + 1) = ps.take i ++ [ps[i]] := List.take_succ_eq_append_getElem hlt
    have hls := least_snoc (ps.take i) ps[i]
    rw [← htk] at hls
    by_cases h0 : leastM (ps.take i) = 0
    · rw [if_pos (.inl h0)] at hls
      have h0' : ((leastM (ps.take i) : Nat) : Int) = 0 := by omega
      simp (disch := omega) only [SX, Nat.reduceAdd, hlt', LD_23 hcell, h0']
      exact ⟨⟨i + 1, by rw [hls], by simp, by omega, trivial⟩, by simp only [vnat_int]; omega⟩
    · have h0' : ¬ ((leastM (ps.take i) : Nat) : Int) = 0 := by omega
      by_cases h1 : ps[i].length < leastM (ps.take i)
      · rw [if_pos (.inr h1)] at hls
        have h1' : ((ps[i].length : Nat) : Int) < ((leastM (ps.take i) : Nat) : Int) := by omega
        simp (disch := omega) only [SX, Nat.reduceAdd, hlt', LD_23 hcell, h0', h1']
        exact ⟨⟨i + 1, by rw [hls], by simp, by omega, trivial⟩, by simp only [vnat_int]; omega⟩
      · rw [if_neg (fun hh => hh.elim h0 h1)] at hls
        have h1' : ¬ ((ps[i].length : Nat) : Int) < ((leastM (ps.take i) : Nat) : Int) := by omega
        simp (disch := omega) only [SX, Nat.reduceAdd, hlt', LD_23 hcell, h0', h1']
        exact ⟨⟨i + 1, by rw [hls], by simp, by omega, trivial⟩, by simp only [vnat_int]; omega⟩
  · have hlt' : ¬ (i : Int) < (ps.length : Int) := by omega
    simp (disch := omega) only [SX, Nat.reduceAdd, hlt']
    rw [List.take_of_length_le (by omega)]
    exact k _ _ ⟨rfl, e1⟩
end
end Go.Proofs.YtgjfhmahiiokeaaGreat.Y
