import Derived.Test.YtopdjdkkhpkmiaaCwalterB
import Derived.Test.YtopdjdkkhpkmiaaSparseB
import Derived.Test.YtopdjdkkhpkmiaaLaw10
set_option linter.unusedVariables false
set_option linter.unusedSimpArgs false
set_option linter.unusedVariables false
set_option linter.unusedSimpArgs false
set_option maxRecDepth 8000
namespace Go.Proofs.Ytopdjdkkhpkmiaa.Y
open Go Go.Sx

section
variable {w : World}

theorem law16_texts {l : Value} {ls : List (List UInt8)} (h : SlT w l ls) (hlim : ls.length ≤ 2 ^ 40) : RET Try.prog 37 [l] w fun v w' => Ext w w' ∧ (((∃ t ∈ ls, 40 < t.length) ∧ v = .tuple #[.slice none 0 0, .bool false]) ∨
    ((∀ t ∈ ls, t.length ≤ 40) ∧ ∃ out n, v = .tuple #[out, .bool (decide (ls.length ≤ 12))] ∧ w'.ownsRow w.heap.size 9 1 out n (ls.map strV))) := by
  have hls := h.len
  obtain ⟨A, cc, rfl⟩ := h.shape
  refine RET_by fun R k => ?_
  apply by_seinelaw16_texts
  unfold sh_seinelaw16_texts
  refine ⟨fun out iv w1 => ∃ (i n : Nat), iv = .int .i64 i ∧ i ≤ ls.length ∧ n = i ∧ w1.ownsRow w.heap.size 9 1 out n ((ls.take i).map strV) ∧ Ext w w1 ∧ ∀ t ∈ ls.take i, t.length ≤ 40, fun _ iv _ => ls.length - vnat iv, ⟨0, 0, rfl, Nat.zero_le _, rfl, World.ownsRow_nil _ _ _ _, Ext.refl w, by simp⟩, ?_⟩
  rintro out iv w1 ⟨i, n, rfl, hi, hn, hr, he, hall⟩
  by_cases hlt : i < ls.length
  · have hlt' : (i : Int) < ((ls.length : Nat) : Int) := by omega
    obtain ⟨b, o, c', u, hv, hcell, hu⟩ := (h.ext he).at hlt
    injection hv with hA _ hc
    subst hA hc
    have hul := hu.len
    obtain ⟨A', c'', rfl⟩ := hu.shape
    have htk : ls.take (i + 1) = ls.take i ++ [ls[i]] := List.take_succ_eq_append_getElem hlt
    by_cases h40 : 40 < ls[i].length
    · have h40' : (40 : Int) < ((ls[i].length : Nat) : Int) := by omega
      simp (disch := omega) only [SX, Nat.reduceAdd, hlt', LD_42 hcell, h40']
      exact k _ _ ⟨he, .inl ⟨⟨_, List.getElem_mem hlt, h40⟩, rfl⟩⟩
    · have h40' : ¬ (40 : Int) < ((ls[i].length : Nat) : Int) := by omega
      simp (disch := omega) only [SX, Nat.reduceAdd, hlt', LD_42 hcell, h40']
      rw [STR Try.underlying42 Try.underlying5 Try.underlying9 hu]
      refine BS_24_1 fun w2 o2 e2 z2 => ?_
      have hr2 := row_ext hr e2
      refine PUSH1 (by kernel_rfl) IN_9 rfl hr2 o2 rfl (by unfold maxLen; omega) (by omega) (by have := he.size; have := e2.size; omega) fun v' w3 o3 c3 g3 => ?_
      try simp (disch := omega) only [SX, Nat.reduceAdd]
      refine ⟨⟨i + 1, n + 1, by simp, by omega, by omega, ?_, (he.trans e2).ext_of c3 fun q hq => row_base hr2 q hq, ?_⟩, by simp only [vnat_int]; omega⟩
      · rw [htk, List.map_append]; exact o3
      · rw [htk]
        intro t ht
        rcases List.mem_append.1 ht with ht | ht
        · exact hall t ht
        · simp only [List.mem_singleton] at ht
          subst ht; omega
  · have hlt' : ¬ (i : Int) < ((ls.length : Nat) : Int) := by omega
    obtain rfl : i = ls.length := by omega
    rw [List.take_length] at hr hall
    simp (disch := omega) only [SX, Nat.reduceAdd, hlt']
    refine k _ _ ⟨he, .inr ⟨hall, out, n, ?_, hr⟩⟩
    have : (decide (((ls.length : Nat) : Int) ≤ 12)) = decide (ls.length ≤ 12) := by rw [decide_eq_decide]; omega
    rw [this]

def ex16 : List (List UInt8) := [[97, 98, 99], [98, 99]]
theorem ex16_found : foundM (trieM ex16) [120, 97, 98, 99, 120] 5 = [(1, 4), (2, 4)] := by kernel_rfl

theorem law16_awake : RET Try.prog 36 [] w fun v w' => v = .bool true ∧ Ext w w' := by
  refine RET_by fun R k => ?_
  apply by_seinelaw16_awake
  unfold sh_seinelaw16_awake
  refine LIT (n := 3) (e := 5) [97, 98, 99] (by kernel_rfl) Try.underlying42 Try.underlying5 rfl (by decide) fun w1 s1 e1 z1 => ?_
  refine LIT (n := 2) (e := 5) [98, 99] (by kernel_rfl) Try.underlying42 Try.underlying5 rfl (by decide) fun w2 s2 e2 z2 => ?_
  refine BS_22_2 fun w3 o3 e3 z3 => ?_
  have hls : SlT w3 (.slice (some ⟨w2.heap.size, 0, none⟩) 2 2) ex16 := by
    refine ⟨_, 2, _, rfl, Rd.own (vs := [.slice (some ⟨w.heap.size, 0, none⟩) 3 3, .slice (some ⟨w1.heap.size, 0, none⟩) 2 2]) o3 0 (fun i v hv => by simpa using hv), rfl, by simp [ex16], by simp [ex16], fun i h h' => ?_⟩
    match i, h with
    | 0, _ => exact s1.ext (e2.trans e3)
    | 1, _ => exact s2.ext e3
  have hTl := trie_len (turnL ex16)
  have hsum : sumL (turnL ex16) = 5 := by kernel_rfl
  refine CALL_of (cwalter_New hls (by decide) (by decide)) ?_
  rintro v w4 ⟨⟨b, rfl, hw⟩, e4⟩
  refine LIT (n := 5) (e := 5) [120, 97, 98, 99, 120] (by kernel_rfl) Try.underlying42 Try.underlying5 rfl (by decide) fun w5 s5 e5 z5 => ?_
  refine CALL_of (cwalter_Scan (hw.ext e5) s5 (by decide) (by omega)) ?_
  rintro xv w6 ⟨⟨L, hL, hLr, hLm, _⟩, e6⟩
  refine LIT (n := 5) (e := 5) [120, 97, 98, 99, 120] (by kernel_rfl) Try.underlying42 Try.underlying5 rfl (by decide) fun w7 s7 e7 z7 => ?_
  refine CALL_of (cwalter_Ends (hw.ext (e5.trans (e6.trans e7))) s7 (by decide) (by omega)) ?_
  rintro ev w8 ⟨⟨E, hE, hEh⟩, e8⟩
  have hhead : E.head? = some 2 := by
    have := hEh [99, 98] (by decide) (by decide) (by decide)
    exact this
  have hLe : L = [(1, 4), (2, 4)] := by
    refine rising_ext hLr (by unfold Rising; simp [ltP]) fun p => ?_
    rw [hLm, ← found_iff, show ([120, 97, 98, 99, 120] : List UInt8).length = 5 from rfl, ex16_found]
  subst hLe
  try simp (disch := omega) only [SX, Nat.reduceAdd]
  refine BS_49_2 fun w10 o10 e10 z10 => ?_
  refine CALL_of (ref03_Same (hL.ext (e7.trans (e8.trans e10))) (show SlG pcells w10 (.slice (some ⟨w8.heap.size, 0, none⟩) 2 2) [(1, 4), (2, 4)] from ⟨_, 2, rfl, Rd.own o10 0 (fun i v hv => by simpa [pcells] using hv), by simp, by simp⟩)) ?_
  rintro v w11 ⟨rfl, e11⟩
  cases E with
  | nil => simp at hhead
  | cons a E =>
    simp only [List.head?_cons, Option.some.injEq] at hhead
    subst hhead
    have hE2 := hE.ext (e10.trans e11)
    have hel := hE2.len
    obtain ⟨bx, ox, cx, hv, hcell⟩ := hE2.at (i := 0) (by simp)
    simp only [List.length_cons] at hel
    rw [hv]
    have h0n : (0 : Int).toNat = 0 := rfl
    simp only [List.length_cons, List.getElem_cons_zero, Nat.add_zero] at hcell ⊢
    simp (disch := omega) only [SX, Nat.reduceAdd, show (0 : Int) < ((E.length + 1 : Nat) : Int) by omega, h0n, LD_3 hcell, Nat.add_zero]
    exact k _ _ ⟨rfl, e1.trans (e2.trans (e3.trans (e4.trans (e5.trans (e6.trans (e7.trans (e8.trans (e10.trans e11))))))))⟩

/-- A slice of other texts, their places turned. -/
def rotL (ls : List (List UInt8)) (t : Nat) (k : Nat) : List (List UInt8) := (List.range k).map fun i => ls.getD ((i + t) % ls.length) []
theorem rot_mem {ls : List (List UInt8)} (t : Nat) (u : List UInt8) : u ∈ rotL ls t ls.length ↔ u ∈ ls := by
  unfold rotL
  simp only [List.mem_map, List.mem_range]
  constructor
  · rintro ⟨i, hi, rfl⟩
    have hlt : (i + t) % ls.length < ls.length := Nat.mod_lt _ (by omega)
    simp only [List.getD, List.getElem?_eq_getElem hlt, Option.getD_some]
    exact List.getElem_mem hlt
  · intro hu
    obtain ⟨j, hj, rfl⟩ := List.mem_iff_getElem.1 hu
    have hn : 0 < ls.length := by omega
    have htm := Nat.mod_lt t hn
    refine ⟨(j + (ls.length - t % ls.length)) % ls.length, Nat.mod_lt _ hn, ?_⟩
    have h1 : ((j + (ls.length - t % ls.length)) % ls.length + t) % ls.length = j := by
      rw [Nat.add_mod, Nat.mod_mod, ← Nat.add_mod]
      have h2 : j + (ls.length - t % ls.length) + t = j + ls.length * (t / ls.length + 1) := by
        have := Nat.div_add_mod t ls.length
        rw [Nat.mul_add, Nat.mul_one]
        omega
      rw [h2, Nat.add_mul_mod_self_left, Nat.mod_eq_of_lt hj]
    rw [h1]
    simp [List.getD, hj]

theorem law16_CwalterSparse {l lv : Value} {ls : List (List UInt8)} {line : List UInt8} (h : SlT w l ls) (hlim : ls.length ≤ 1048576) (hlv : SlB w lv line) (t : UInt8) : RET Try.prog 8 [l, lv, .int .u8 t.toNat] w fun v w' => v = .bool true ∧ Ext w w' := by
  have hll := hlv.len
  have h' := h
  obtain ⟨A0, c0, rfl⟩ := h.shape
  have hlv' := hlv
  obtain ⟨Al, cl, rfl⟩ := hlv.shape
  refine RET_by fun R k => ?_
  apply by_seinelaw16_CwalterSparse
  unfold sh_seinelaw16_CwalterSparse
  refine CALL_of law16_awake ?_
  rintro v w1 ⟨rfl, e1⟩
  simp (disch := omega) only [SX, Nat.reduceAdd]
  refine CALL_of (law16_texts (h'.ext e1) (by omega)) ?_
  rintro v w2 ⟨e2, hv⟩
  have e02 := e1.trans e2
  rcases hv with ⟨_, rfl⟩ | ⟨h40, out, n, rfl, hrow⟩
  · simp (disch := omega) only [SX, Nat.reduceAdd]
    refine ⟨fun _ => False, ?_, fun _ h => h.elim⟩
    try simp (disch := omega) only [SX, Nat.reduceAdd]
    exact k _ _ ⟨rfl, e02⟩
  have hsum := sumL_le ls 40 h40
  have hTl := trie_len ls
  have hTl2 := trie_len (turnL ls)
  have hts := turn_sum ls
  simp (disch := omega) only [SX, Nat.reduceAdd]
  by_cases hgo : ls.length ≤ 12 ∧ line.length ≤ 300 ∧ 0 < ls.length
  · obtain ⟨h12, h3, h0⟩ := hgo
    refine ⟨fun w' => w' = w2, ?_, ?_⟩
    · simp (disch := omega) only [SX, Nat.reduceAdd, h12, show ¬ (300 : Int) < (line.length : Int) by omega, show ¬ (ls.length : Int) = 0 by omega]
    rintro _ rfl
    rename_i w2
    refine CALL_of (cwalter_New (h'.ext e02) (by omega) (by omega)) ?_
    rintro v w3 ⟨⟨cb, rfl, hw⟩, e3⟩
    have e03 := e02.trans e3
    refine CALL_of (cwalter_Scan hw (hlv'.ext e03) (by omega) (by omega)) ?_
    rintro xv w4 ⟨⟨L, hL, hLr, hLm, _⟩, e4⟩
    have e04 := e03.trans e4
    refine PUSHT (RowT.nil w4 w4.heap.size 0) (u := .slice none 0 0) (t := []) ⟨none, 0, rfl, .inl rfl, Nat.le_refl _, by simp⟩ (fun hne => (hne rfl).elim) (Nat.le_refl _) (by simp) fun v5 w5 hT5 c5 g5 => ?_
    have e45 : Ext w4 w5 := c5.weaken fun i _ hi => by simp [Value.ownBlock] at hi
    have e05 := e04.trans e45
    try simp (disch := omega) only [SX, Nat.reduceAdd]
    refine ⟨fun ov iv w6 => ∃ i : Nat, iv = .int .i64 i ∧ i ≤ ls.length ∧ RowT w6 w4.heap.size 0 ov ([] :: rotL ls t.toNat i) ∧ Ext w w6 ∧ Ext w4 w6, fun _ iv _ => ls.length - vnat iv, ⟨0, rfl, Nat.zero_le _, hT5, e05, e45⟩, ?_⟩
    rintro ov iv w6 ⟨i, rfl, hi, hT6, e6, e46⟩
    by_cases hlt : i < ls.length
    · have hlt' : (i : Int) < (ls.length : Int) := by omega
      have htl := t.toNat_lt
      have hw64 : IntKind.i64.wrap ((t.toNat : Nat) : Int) = (t.toNat : Nat) := by simp [IntKind.wrap, IntKind.bits, IntKind.signed]; omega
      have hmod : ((i : Int) + (t.toNat : Int)).tmod (ls.length : Int) = (((i + t.toNat) % ls.length : Nat) : Int) := by
        rw [show (i : Int) + (t.toNat : Int) = ((i + t.toNat : Nat) : Int) by omega]
        rfl
      have hidx : (i + t.toNat) % ls.length < ls.length := Nat.mod_lt _ h0
      obtain ⟨b, o, c', u, hv, hcell, hu⟩ := (h'.ext e6).at hidx
      injection hv with hA _ hcc
      subst hA hcc
      have hrl : (rotL ls t.toNat i).length = i := by simp [rotL]
      have hnext : rotL ls t.toNat (i + 1) = rotL ls t.toNat i ++ [ls[(i + t.toNat) % ls.length]] := by
        unfold rotL
        rw [List.range_succ, List.map_append]
        congr 1
        simp [List.getD, hidx]
      generalize hge : (i + t.toNat) % ls.length = jj at *
      simp (disch := omega) only [SX, Nat.reduceAdd, hlt', hw64, hmod, LD_42 hcell]
      refine PUSHT hT6 hu (fun hne q hq => ?_) (by have := e46.size; omega) (by simp only [List.length_cons, hrl]; omega) fun v7 w7 hT7 c7 g7 => ?_
      · have hub : q < w.heap.size := by
          obtain ⟨b2, o2, c2, u2, hv2, hcell2, hu2⟩ := h'.at (show jj < ls.length by omega)
          injection hv2 with hA2 _ hcc2
          injection hA2 with hA2
          injection hA2 with hA2 hA3
          subst hA2 hA3
          have := e6.cell hcell2
          rw [hcell] at this
          injection this with this
          subst this
          exact SlB.blk hu2 hne hq
        obtain ⟨xs, q1, _⟩ := hT6.ex
        have z4 := e04.size
        refine ⟨Nat.zero_le _, by have := e6.size; omega, fun hk => ?_⟩
        have := row_base q1 q hk.symm
        omega
      · have e67 : Ext w4 w7 := e46.ext_of c7 fun q hq => by
          obtain ⟨xs, q1, _⟩ := hT6.ex
          exact row_base q1 q hq
        try simp (disch := omega) only [SX, Nat.reduceAdd]
        refine ⟨⟨i + 1, by simp, by omega, by rw [hnext]; exact hT7, e04.trans e67, e67⟩, by simp only [vnat_int]; omega⟩
    · have hlt' : ¬ (i : Int) < (ls.length : Int) := by omega
      obtain rfl : i = ls.length := by omega
      simp (disch := omega) only [SX, Nat.reduceAdd, hlt']
      refine CALL_of (sparse_New (h'.ext e6) (by omega)) ?_
      rintro v w7 ⟨e7, sb, rfl, hs7⟩
      have z6 := e6.size
      refine CALL_of (sparse_Scan (o := none) (hu := 0) (mo := 0) (s := 0) (l := 0) hs7 (hlv'.ext (e6.trans e7)) (MeterAt.none _ _ _) (by omega) (by omega) (fun k hk => by cases hk) (fun k hk => by cases hk) (by omega) (by omega)) ?_
      rintro yv w8 ⟨⟨r, hr, hrr, hmem, _⟩, _, _, c8⟩
      have e8 : Ext w7 w8 := c8.weaken fun i _ hi => by cases hi
      have hLr2 : L = r := rising_ext hLr hrr fun p => by rw [hLm, hmem, found_iff]
      subst hLr2
      have e48 := e46.trans (e7.trans e8)
      refine CALL_of (ref03_Same (hL.ext e48) hr) ?_
      rintro v w9 ⟨rfl, e9⟩
      simp (disch := omega) only [SX, Nat.reduceAdd, decide_true]
      have hrl : ([] :: rotL ls t.toNat ls.length).length = ls.length + 1 := by simp [rotL]
      have hrs : sumL ([] :: rotL ls t.toNat ls.length) ≤ 520 := by
        have := sumL_le ([] :: rotL ls t.toNat ls.length) 40 (fun u hu => by
          rcases List.mem_cons.1 hu with rfl | hu
          · simp
          · exact h40 u ((rot_mem _ _).1 hu))
        rw [hrl] at this
        omega
      have hTl3 := trie_len (turnL ([] :: rotL ls t.toNat ls.length))
      have hts3 := turn_sum ([] :: rotL ls t.toNat ls.length)
      refine CALL_of (cwalter_New (((hT6.slT (by rw [hrl]; omega)).ext (e7.trans e8)).ext e9) (by omega) (by rw [hrl]; omega)) ?_
      rintro v wa ⟨⟨cb2, rfl, hw2⟩, ea⟩
      have e0a := e6.trans (e7.trans (e8.trans (e9.trans ea)))
      refine CALL_of (cwalter_Scan hw2 (hlv'.ext e0a) (by omega) (by omega)) ?_
      rintro zv wb ⟨⟨L2, hL2, hL2r, hL2m, _⟩, eb⟩
      have hLe : L = L2 := rising_ext hLr hL2r fun p => by
        rw [hLm, hL2m]
        refine occ_congr (fun u hu => ?_) line p
        rw [List.mem_cons, rot_mem]
        exact ⟨fun h => .inr h, fun h => h.elim (fun h => (hu h).elim) id⟩
      subst hLe
      refine CALL_of (ref03_Same (hL.ext (e48.trans (e9.trans (ea.trans eb)))) hL2) ?_
      rintro v wc ⟨rfl, ec⟩
      exact k _ _ ⟨by simp, e0a.trans (eb.trans ec)⟩
  · refine ⟨fun _ => False, ?_, fun _ h => h.elim⟩
    by_cases h12 : ls.length ≤ 12
    · by_cases h3 : line.length ≤ 300
      · have h0 : ((ls.length : Nat) : Int) = 0 := by omega
        simp (disch := omega) only [SX, Nat.reduceAdd, h12, show ¬ (300 : Int) < (line.length : Int) by omega, h0]
        exact k _ _ ⟨rfl, e02⟩
      · simp (disch := omega) only [SX, Nat.reduceAdd, h12, show (300 : Int) < (line.length : Int) by omega]
        exact k _ _ ⟨rfl, e02⟩
    · simp (disch := omega) only [SX, Nat.reduceAdd, h12]
      exact k _ _ ⟨rfl, e02⟩
end
end Go.Proofs.Ytopdjdkkhpkmiaa.Y
