import Derived.Test.YtgjfhmahiiokeaaGreatRowT
import Derived.Test.YtgjfhmahiiokeaaGreatAcB
import Derived.Test.YtgjfhmahiiokeaaGreatRefsP
import Derived.Test.YtgjfhmahiiokeaaGreatDfa
set_option linter.unusedVariables false
set_option linter.unusedSimpArgs false
set_option linter.unusedVariables false
set_option linter.unusedSimpArgs false
set_option maxRecDepth 8000
namespace Go.Proofs.YtgjfhmahiiokeaaGreat.Y
open Go Go.Sx

/-! ### Texts from their ends -/
def closeM (old n : Int) : Int := if old = 0 then n else min old n
/-- The texts that aren't empty, turned round. -/
def turnL (ls : List (List UInt8)) : List (List UInt8) := (ls.filter fun t => !t.isEmpty).map List.reverse
theorem turn_mem {ls : List (List UInt8)} {u : List UInt8} : u ∈ turnL ls ↔ u ≠ [] ∧ u.reverse ∈ ls := by
  simp only [turnL, List.mem_map, List.mem_filter, Bool.not_eq_true', List.isEmpty_eq_false_iff]
  constructor
  · rintro ⟨t, ⟨h1, h2⟩, rfl⟩
    exact ⟨by simpa using h2, by simpa using h1⟩
  · rintro ⟨h1, h2⟩
    exact ⟨u.reverse, ⟨h2, by simpa using h1⟩, by simp⟩

theorem turn_sum : ∀ (l : List (List UInt8)), sumL (turnL l) ≤ sumL l := by
  intro l
  induction l with
  | nil => simp [turnL, sumL]
  | cons t r ih =>
    by_cases ht : t = []
    · subst ht
      have : turnL ([] :: r) = turnL r := by simp [turnL]
      rw [this]; simp only [sumL]; omega
    · have : turnL (t :: r) = t.reverse :: turnL r := by simp [turnL, ht]
      rw [this]; simp only [sumL, List.length_reverse]; omega
/-- What is known of some turned texts: the least length, and how near to an end each byte stands. -/
structure NearOK (us : List (List UInt8)) (least : Int) (N : List Int) : Prop where
  len : N.length = 256
  none : us = [] → least = 0
  some : ∀ u ∈ us, 0 < least ∧ least ≤ u.length
  att : us = [] ∨ ∃ u ∈ us, least = (u.length : Int)
  near : ∀ u ∈ us, ∀ i (h : i < u.length), ∃ x, N[u[i].toNat]? = .some x ∧ 0 < x ∧ x ≤ (i : Int) + 1
  low : 0 ≤ least ∧ ∀ x ∈ N, 0 ≤ x
  small : least ≤ 2 ^ 40 ∧ ∀ x ∈ N, x ≤ 2 ^ 40

structure IsBack (w : World) (lo hi b : Nat) (us : List (List UInt8)) (least : Int) (N : List Int) : Prop where
  ex : ∃ tb, Own w b (.pointer (some ⟨tb, 0, none⟩) :: .int .i64 least :: N.map vI) 154 ∧ IsTrie w lo hi tb (trieM us) ∧ lo ≤ b ∧ b < hi ∧ hi ≤ w.heap.size
  ok : NearOK us least N
theorem IsBack.chg {S : Nat → Prop} {w w' : World} {lo hi b : Nat} {us : List (List UInt8)} {least : Int} {N : List Int} (h : IsBack w lo hi b us least N) (hc : Chg S w w') (hs : ∀ i, S i → i < lo ∨ hi ≤ i) : IsBack w' lo hi b us least N := by
  obtain ⟨⟨tb, h1, h2, h3, h4, h5⟩, h6⟩ := h
  have := hc.size
  exact ⟨⟨tb, h1.chg hc (fun hS => by have := hs _ hS; omega), h2.chg hc hs, h3, h4, by omega⟩, h6⟩
theorem IsBack.ext {w w' : World} {lo hi b : Nat} {us : List (List UInt8)} {least : Int} {N : List Int} (h : IsBack w lo hi b us least N) (hc : Ext w w') : IsBack w' lo hi b us least N := h.chg hc fun _ x => x.elim

section
variable {w : World}

theorem trie_Find {lo hi b : Nat} {T : List TN} (h : IsTrie w lo hi b T) {bv : Value} {p : List UInt8} (hb : SlB w bv p) : RET Tryz.prog 95 [.pointer (some ⟨b, 0, none⟩), bv] w fun v w' => v = .int .i64 (findM T p) ∧ w' = w := by
  have hpos := h.pos
  have hsm := h.small
  have hll := hb.len
  have hb' := hb
  obtain ⟨A, c, rfl⟩ := hb.shape
  refine RET_by fun R k => ?_
  apply by_trie_Trie_Find
  unfold sh_trie_Trie_Find
  refine CALL_of (trie_Nodes h) ?_
  rintro v w1 ⟨rfl, rfl⟩
  have hmin : min (0 : Int) ((T.length : Int) - 1) = 0 := by omega
  simp (disch := omega) only [SX, Nat.reduceAdd, hmin]
  refine ⟨fun av iv w2 => ∃ i : Nat, av = .int .i64 (findM T (p.take i)) ∧ iv = .int .i64 i ∧ i ≤ p.length ∧ w2 = w1, fun _ iv _ => p.length - vnat iv, ⟨0, by simp [findM], rfl, Nat.zero_le _, rfl⟩, ?_⟩
  rintro av iv w2 ⟨i, rfl, rfl, hi, rfl⟩
  by_cases hlt : i < p.length
  · have hlt' : (i : Int) < (p.length : Int) := by omega
    obtain ⟨bb, o, cc, hv, hc⟩ := hb'.at hlt
    injection hv with hA _ hcc
    subst hA hcc
    simp (disch := omega) only [SX, Nat.reduceAdd, hlt', LD_5 hc]
    refine CALL_of (trie_Step h _ p[i]) ?_
    rintro v w3 ⟨rfl, rfl⟩
    try simp (disch := omega) only [SX, Nat.reduceAdd]
    refine ⟨⟨i + 1, by rw [List.take_succ_eq_append_getElem hlt, findM_snoc], by simp, by omega, by trivial⟩, by simp only [vnat_int]; omega⟩
  · have hlt' : ¬ (i : Int) < (p.length : Int) := by omega
    simp (disch := omega) only [SX, Nat.reduceAdd, hlt']
    rw [List.take_of_length_le (by omega)]
    exact k _ _ ⟨rfl, rfl⟩

theorem back_closer (old n : Int) : RET Tryz.prog 80 [.int .i64 old, .int .i64 n] w fun v w' => v = .int .i64 (closeM old n) ∧ w' = w := by
  refine RET_by fun R k => ?_
  apply by_back_Build_1
  unfold sh_back_Build_1
  by_cases h0 : old = 0
  · simp (disch := omega) only [SX, Nat.reduceAdd, h0]
    exact k _ _ ⟨by unfold closeM; rw [if_pos h0], rfl⟩
  · simp (disch := omega) only [SX, Nat.reduceAdd, h0]
    exact k _ _ ⟨by unfold closeM; rw [if_neg h0], rfl⟩

theorem back_Turn {bv : Value} {l : List UInt8} (hb : SlB w bv l) (hn : l.length ≤ 2 ^ 40) : RET Tryz.prog 81 [bv] w fun v w' => w'.ownsRow w.heap.size 5 1 v l.length (l.reverse.map vB) ∧ Ext w w' := by
  refine RET_by fun R k => ?_
  apply by_back_Turn
  unfold sh_back_Turn
  refine CALL_of (slices_CloneR hb) ?_
  rintro v w1 ⟨hr, e1⟩
  refine CALL_of (slices_Reverse hr hn) ?_
  rintro _ w2 ⟨hr2, c2⟩
  exact k _ _ ⟨hr2, e1.ext_of c2 fun i hi => row_base hr i hi⟩

theorem NearOK.start : NearOK [] 0 (List.replicate 256 0) :=
  ⟨by simp, fun _ => rfl, fun u h => by simp at h, .inl rfl, fun u h => by simp at h, ⟨by omega, fun x h => by simp at h; omega⟩, ⟨by omega, fun x h => by simp at h; omega⟩⟩

/-- So many bytes of one more text are told. -/
structure NearUp (us : List (List UInt8)) (u : List UInt8) (j : Nat) (N : List Int) : Prop where
  len : N.length = 256
  old : ∀ v ∈ us, ∀ i (h : i < v.length), ∃ x, N[v[i].toNat]? = .some x ∧ 0 < x ∧ x ≤ (i : Int) + 1
  new : ∀ i (h : i < u.length), i < j → ∃ x, N[u[i].toNat]? = .some x ∧ 0 < x ∧ x ≤ (i : Int) + 1
  low : ∀ x ∈ N, 0 ≤ x ∧ x ≤ 2 ^ 40
theorem NearUp.step {us : List (List UInt8)} {u : List UInt8} {j : Nat} {N : List Int} (h : NearUp us u j N) (hj : j < u.length) (hl : u.length ≤ 2 ^ 40) : ∃ y, N[u[j].toNat]? = some y ∧ NearUp us u (j + 1) (N.set u[j].toNat (closeM y ((j : Int) + 1))) := by
  have hlt := u[j].toNat_lt
  have hN := h.len
  have hin : u[j].toNat < N.length := by omega
  refine ⟨N[u[j].toNat], List.getElem?_eq_getElem hin, ?_⟩
  have hy := h.low N[u[j].toNat] (List.getElem_mem hin)
  generalize hye : N[u[j].toNat] = y at *
  have hset : ∀ (c : UInt8) x, N[c.toNat]? = some x → 0 < x → ∃ z, (N.set u[j].toNat (closeM y ((j : Int) + 1)))[c.toNat]? = some z ∧ 0 < z ∧ z ≤ x := fun c x hx h0 => by
    rw [List.getElem?_set]
    split
    · rename_i he
      have : N[c.toNat]? = some y := by rw [← he, List.getElem?_eq_getElem hin, hye]
      rw [hx] at this
      injection this with this
      subst this
      refine ⟨_, by first | rw [if_pos hin] | rfl, ?_, ?_⟩ <;> unfold closeM <;> split <;> omega
    · exact ⟨x, hx, h0, Int.le_refl _⟩
  refine ⟨by rw [List.length_set]; exact hN, fun v hv i hi => ?_, fun i hi hij => ?_, fun x hx => ?_⟩
  · obtain ⟨x, k1, k2, k3⟩ := h.old v hv i hi
    obtain ⟨z, q1, q2, q3⟩ := hset _ x k1 k2
    exact ⟨z, q1, q2, by omega⟩
  · by_cases he : i = j
    · subst he
      rw [List.getElem?_set, if_pos rfl, if_pos hin]
      refine ⟨_, rfl, ?_, ?_⟩ <;> unfold closeM <;> split <;> omega
    · obtain ⟨x, k1, k2, k3⟩ := h.new i hi (by omega)
      obtain ⟨z, q1, q2, q3⟩ := hset _ x k1 k2
      exact ⟨z, q1, q2, by omega⟩
  · rcases List.mem_or_eq_of_mem_set hx with hx | rfl
    · exact h.low x hx
    · unfold closeM; split <;> omega

def backZ : List Value := .pointer none :: .int .i64 0 :: (List.replicate 256 (.int .i64 0))
theorem BD_back {K : Value → Prop} : PURE Tryz.prog (Instr.build 154 #[]) K = K (.agg backZ.toArray) := PURE_eq fun _ => by kernel_rfl

theorem back_Build {lv : Value} {ls : List (List UInt8)} (h : SlT w lv ls) (hs : sumL ls + 1 ≤ 2 ^ 31) (hn : ls.length ≤ 2 ^ 31) : RET Tryz.prog 52 [lv] w fun v w' => (∃ b least N, v = .pointer (some ⟨b, 0, none⟩) ∧ IsBack w' w.heap.size w'.heap.size b (turnL ls) least N) ∧ Ext w w' := by
  have hls := h.len
  obtain ⟨A, cc, rfl⟩ := h.shape
  refine RET_by fun R k => ?_
  apply by_back_Build
  unfold sh_back_Build
  rw [BD_back]
  refine BOXA fun w3 o3 e3 z3 => ?_
  have o3 : Own w3 w.heap.size (.pointer none :: .int .i64 0 :: (List.replicate 256 (0 : Int)).map vI) 154 := by
    rw [List.map_replicate]; exact o3
  simp (disch := omega) only [SX, Nat.reduceAdd]
  refine ⟨fun tv iv w4 => ∃ (i : Nat) (least : Int) (N : List Int), iv = .int .i64 i ∧ i ≤ ls.length ∧ RowT w4 w3.heap.size w3.heap.size tv (turnL (ls.take i)) ∧ Own w4 w.heap.size (.pointer none :: .int .i64 least :: N.map vI) 154 ∧ NearOK (turnL (ls.take i)) least N ∧ Ext w w4 ∧ w3.heap.size ≤ w4.heap.size ∧ (turnL (ls.take i)).length ≤ i, fun _ iv _ => ls.length - vnat iv,
    ⟨0, 0, _, rfl, Nat.zero_le _, RowT.nil _ _ _, o3, NearOK.start, e3, Nat.le_refl _, Nat.le_refl _⟩, ?_⟩
  rintro tv iv w4 ⟨i, least, N, rfl, hi, hT, o4, hN, e4, z4, htl⟩
  by_cases hlt : i < ls.length
  · have hlt' : (i : Int) < (ls.length : Int) := by omega
    obtain ⟨bb, o, c, u, hv, hcell, hu⟩ := (h.ext e4).at hlt
    injection hv with hA _ hc
    subst hA hc
    have hsm := sumL_mem (List.getElem_mem hlt)
    have hu' := hu
    obtain ⟨A', c', rfl⟩ := hu.shape
    have htk : ls.take (i + 1) = ls.take i ++ [ls[i]] := List.take_succ_eq_append_getElem hlt
    by_cases he : ls[i] = []
    · have he' : ((ls[i].length : Nat) : Int) = 0 := by rw [he]; rfl
      simp (disch := omega) only [SX, Nat.reduceAdd, hlt', LD_23 hcell, he']
      have hsame : turnL (ls.take (i + 1)) = turnL (ls.take i) := by rw [htk, he]; simp [turnL]
      refine ⟨⟨i + 1, least, N, by simp, by omega, by rw [hsame]; exact hT, o4, by rw [hsame]; exact hN, e4, z4, by rw [hsame]; omega⟩, by simp only [vnat_int]; omega⟩
    · have he' : ¬ ((ls[i].length : Nat) : Int) = 0 := fun hh => he (List.eq_nil_of_length_eq_zero (by omega))
      have hpos : 0 < ls[i].length := List.length_pos_iff.2 he
      have hnew : turnL (ls.take (i + 1)) = turnL (ls.take i) ++ [ls[i].reverse] := by
        unfold turnL
        rw [htk, List.filter_append, List.map_append]
        congr 1
        simp [he]
      simp (disch := omega) only [SX, Nat.reduceAdd, hlt', LD_23 hcell, he']
      refine CALL_of (back_Turn hu' (by omega)) ?_
      rintro v w5 ⟨hr5, e5⟩
      have hbn := (SlB.of_row hr5 (by simp; omega)).1
      have hrl : ls[i].reverse.length = ls[i].length := List.length_reverse
      have hvb : ∀ k, v.ownBlock = some k → w4.heap.size ≤ k ∧ k < w5.heap.size := fun k hk => hr5.lt k hk
      have hT5 := hT.ext e5
      refine PUSHT hT5 hbn (fun _ k hk => ?_) (by have := e5.size; omega) (by omega) fun v' w6 hT6 c6 g6 => ?_
      · have := hvb k hk
        refine ⟨by omega, by omega, fun hk2 => ?_⟩
        obtain ⟨xs, q1, _⟩ := hT.ex
        have := (q1.lt k hk2).2
        omega
      have ow : ∀ j, some j = tv.ownBlock → w3.heap.size ≤ j := fun j hj => by
        obtain ⟨xs, q1, _⟩ := hT.ex
        exact row_base q1 j hj
      have o6 := (o4.ext e5).chg c6 (fun hk => by have := ow _ hk; omega)
      have z5 := e5.size
      have z6 := c6.size
      have hvt : ∀ k, v.ownBlock = some k → ¬ some k = tv.ownBlock := fun k hk hk2 => by
        obtain ⟨xs, q1, _⟩ := hT.ex
        have := (q1.lt k hk2.symm).2
        have := hvb k hk
        omega
      have hr6 := row_chg hr5 c6 hvt
      have e6 : Ext w w6 := (e4.trans e5).ext_of c6 fun j hj => by have := ow j hj; have := e3.size; omega
      obtain ⟨A5, c5, rfl, _⟩ := row_shape hr5
      try simp (disch := omega) only [SX, Nat.reduceAdd, LD_3 (o6.cell (i := 1) rfl)]
      refine CALLV_of (first := #[]) (captured := #[]) (back_closer least (ls[i].length : Nat)) ?_
      rintro v w7 ⟨rfl, rfl⟩
      rename_i w7
      try simp (disch := omega) only [SX, Nat.reduceAdd]
      refine STORE SZ_3 o6 (by simp) rfl rfl fun w8 o8 c8 z8 => ?_
      have o8 : Own w8 w.heap.size (.pointer none :: .int .i64 (closeM least (ls[i].length : Nat)) :: N.map vI) 154 := o8
      try simp (disch := omega) only [SX, Nat.reduceAdd]
      have hblk : ∀ j, j = w.heap.size → j < w3.heap.size := fun j hj => by omega
      have hT8 := hT6.chg c8 (fun j hj => .inl (by omega))
      have hr8 := row_chg hr6 c8 (fun k hk hk2 => by have := hvb k hk; omega)
      have e8 : Ext w w8 := e6.ext_of c8 fun j hj => by omega
      refine ⟨fun jv w9 => ∃ (j : Nat) (N' : List Int), jv = .int .i64 j ∧ j ≤ ls[i].length ∧ NearUp (turnL (ls.take i)) ls[i].reverse j N' ∧ Own w9 w.heap.size (.pointer none :: .int .i64 (closeM least (ls[i].length : Nat)) :: N'.map vI) 154 ∧ RowT w9 w3.heap.size w3.heap.size v' (turnL (ls.take i) ++ [ls[i].reverse]) ∧ w9.ownsRow w4.heap.size 5 1 (.slice A5 ls[i].length c5) ls[i].length (ls[i].reverse.map vB) ∧ Ext w w9 ∧ w3.heap.size ≤ w9.heap.size,
        fun jv _ => ls[i].length - vnat jv, ⟨0, N, rfl, Nat.zero_le _, ⟨hN.len, hN.near, fun _ _ hh => by omega, fun x hx => ⟨hN.low.2 x hx, hN.small.2 x hx⟩⟩, o8, hT8, hr8, e8, by omega⟩, ?_⟩
      rintro jv w9 ⟨j, N', rfl, hj, hup, o9, hT9, hr9, e9, z9⟩
      by_cases hjl : j < ls[i].length
      · have hjl' : (j : Int) < (ls[i].length : Int) := by omega
        have hb9 := (SlB.of_row hr9 (by simp; omega)).1
        rw [← hrl] at hb9
        obtain ⟨b1, p1, c1, hv1, hc1⟩ := hb9.at (i := j) (by omega)
        injection hv1 with hA1 _ hcc1
        subst hA1 hcc1
        obtain ⟨y, hy, hstep⟩ := hup.step (j := j) (by omega) (by omega)
        have hlt8 := (ls[i].reverse[j]'(by omega)).toNat_lt
        generalize hxe : ls[i].reverse[j]'(by omega) = x at *
        have hcy : ((.pointer none :: .int .i64 (closeM least (ls[i].length : Nat)) :: N'.map vI) : List Value)[2 + x.toNat]? = some (.int .i64 y) := by
          rw [show 2 + x.toNat = x.toNat + 1 + 1 by omega]
          simp [hy, vI]
        simp (disch := omega) only [SX, Nat.reduceAdd, DRAWQ, hjl', LD_5 hc1, RD_3 (o9.cell hcy), Nat.zero_add]
        refine CALLV_of (first := #[]) (captured := #[]) (back_closer (w := w9.drew) y ((j : Int) + 1)) ?_
        rintro v w10 ⟨rfl, rfl⟩
        try simp (disch := omega) only [SX, Nat.reduceAdd, Nat.zero_add]
        refine STORE SZ_3 o9.drew (by simp [hup.len]; omega) rfl rfl fun w11 o11 c11 z11 => ?_
        have c11 : Chg (fun k => k = w.heap.size) w9 w11 := c11.of_drew
        have hset : ((.pointer none :: .int .i64 (closeM least (ls[i].length : Nat)) :: N'.map vI) : List Value).set (2 + x.toNat) (.int .i64 (closeM y ((j : Int) + 1))) = .pointer none :: .int .i64 (closeM least (ls[i].length : Nat)) :: (N'.set x.toNat (closeM y ((j : Int) + 1))).map vI := by
          rw [show 2 + x.toNat = x.toNat + 1 + 1 by omega]
          simp [List.map_set, vI]
        rw [hset] at o11
        try simp (disch := omega) only [SX, Nat.reduceAdd]
        refine ⟨⟨j + 1, _, by simp, by omega, hstep, o11, hT9.chg c11 (fun q hq => .inl (by omega)), row_chg hr9 c11 (fun q hq hq2 => by have := hr9.lt q hq; have := e4.size; omega), e9.ext_of c11 (fun q hq => by omega), by have := c11.size; omega⟩, by simp only [vnat_int]; omega⟩
      · have hjl' : ¬ (j : Int) < (ls[i].length : Int) := by omega
        obtain rfl : j = ls[i].length := by omega
        simp (disch := omega) only [SX, Nat.reduceAdd, hjl']
        refine ⟨⟨i + 1, _, N', by simp, by omega, by rw [hnew]; exact hT9, o9, ?_, e9, z9, by rw [hnew, List.length_append]; simp only [List.length_cons, List.length_nil]; omega⟩, by simp only [vnat_int]; omega⟩
        rw [hnew]
        have hlow := hN.low.1
        have hsml := hN.small.1
        have hcl : 0 < closeM least (ls[i].length : Nat) ∧ closeM least (ls[i].length : Nat) ≤ (ls[i].length : Int) ∧ (0 < least → closeM least (ls[i].length : Nat) ≤ least) := by
          unfold closeM; split <;> omega
        refine ⟨hup.len, fun hh => by simp at hh, fun q hq => ?_, ?_, fun q hq a ha => ?_, ⟨by omega, fun x hx => (hup.low x hx).1⟩, ⟨by omega, fun x hx => (hup.low x hx).2⟩⟩
        · rcases List.mem_append.1 hq with hq | hq
          · have := hN.some q hq; omega
          · simp only [List.mem_singleton] at hq
            subst hq
            rw [hrl]; omega
        · right
          by_cases hx : closeM least (ls[i].length : Nat) = (ls[i].length : Nat)
          · exact ⟨_, List.mem_append_right _ (List.mem_singleton.2 rfl), by rw [hrl]; exact hx⟩
          · have hx2 : closeM least (ls[i].length : Nat) = least ∧ least ≠ 0 := by
              unfold closeM at hx ⊢; split at hx <;> split <;> omega
            rcases hN.att with ha | ⟨u, hu1, hu2⟩
            · exact (hx2.2 (hN.none ha)).elim
            · exact ⟨u, List.mem_append_left _ hu1, by omega⟩
        · rcases List.mem_append.1 hq with hq | hq
          · exact hup.old q hq a ha
          · simp only [List.mem_singleton] at hq
            subst hq
            exact hup.new a ha (by rw [← hrl]; exact ha)
  · have hlt' : ¬ (i : Int) < (ls.length : Int) := by omega
    simp (disch := omega) only [SX, Nat.reduceAdd, hlt']
    rw [List.take_of_length_le (by omega)] at hT hN htl
    have hsum := turn_sum
    have := hsum ls
    refine CALL_of (trie_Build (hT.slT (by omega)) (by omega)) ?_
    rintro v w5 ⟨tb, rfl, ht, e5⟩
    try simp (disch := omega) only [SX, Nat.reduceAdd]
    refine STORE SZ_90 (o4.ext e5) (by simp) rfl rfl fun w6 o6 c6 z6 => ?_
    try simp (disch := omega) only [SX, Nat.reduceAdd]
    have z5 := e5.size
    refine k _ _ ⟨⟨_, least, N, rfl, ⟨tb, o6, (ht.chg c6 (fun q hq => by omega)).mono (by omega) (by omega), by omega, by omega, Nat.le_refl _⟩, hN⟩, (e4.trans e5).ext_of c6 fun q hq => by omega⟩

variable {lo hi b : Nat} {us : List (List UInt8)} {least : Int} {N : List Int}
theorem back_Least (h : IsBack w lo hi b us least N) : RET Tryz.prog 82 [.pointer (some ⟨b, 0, none⟩)] w fun v w' => v = .int .i64 least ∧ w' = w := by
  obtain ⟨tb, h1, _⟩ := h.ex
  refine RET_by fun R k => ?_
  apply by_back_Back_Least
  unfold sh_back_Back_Least
  simp (disch := omega) only [SX, Nat.reduceAdd, LD_3 (h1.cell (i := 1) rfl)]
  exact k _ _ ⟨rfl, rfl⟩
theorem back_Whole (h : IsBack w lo hi b us least N) (n : Int) : RET Tryz.prog 96 [.pointer (some ⟨b, 0, none⟩), .int .i64 n] w fun v w' => v = .bool (decide (0 ≤ wordM (trieM us) n)) ∧ w' = w := by
  obtain ⟨tb, h1, h2, _⟩ := h.ex
  refine RET_by fun R k => ?_
  apply by_back_Back_Whole
  unfold sh_back_Back_Whole
  simp (disch := omega) only [SX, Nat.reduceAdd, LD_90 (h1.cell (i := 0) rfl)]
  refine CALL_of (trie_Word h2 n) ?_
  rintro v w1 ⟨rfl, rfl⟩
  try simp (disch := omega) only [SX, Nat.reduceAdd]
  exact k _ _ ⟨rfl, rfl⟩
theorem back_Near (h : IsBack w lo hi b us least N) (c : UInt8) : RET Tryz.prog 104 [.pointer (some ⟨b, 0, none⟩), .int .u8 c.toNat] w fun v w' => (∃ x, N[c.toNat]? = some x ∧ v = .int .i64 x) ∧ w' = w := by
  obtain ⟨tb, h1, h2, _⟩ := h.ex
  have hlt := c.toNat_lt
  have hl := h.ok.len
  have hN : N[c.toNat]? = some (N[c.toNat]'(by omega)) := List.getElem?_eq_getElem (by omega)
  refine RET_by fun R k => ?_
  apply by_back_Back_Near
  unfold sh_back_Back_Near
  have hcy : ((.pointer (some ⟨tb, 0, none⟩) :: .int .i64 least :: N.map vI) : List Value)[2 + c.toNat]? = some (.int .i64 (N[c.toNat]'(by omega))) := by
    rw [show 2 + c.toNat = c.toNat + 1 + 1 by omega]
    simp [hN, vI]
  simp (disch := omega) only [SX, Nat.reduceAdd, Nat.zero_add, LD_3 (h1.cell hcy)]
  exact k _ _ ⟨⟨_, hN, rfl⟩, rfl⟩
end
end Go.Proofs.YtgjfhmahiiokeaaGreat.Y
