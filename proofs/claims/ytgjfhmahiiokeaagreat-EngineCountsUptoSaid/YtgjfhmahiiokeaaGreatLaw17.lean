import Derived.Test.YtgjfhmahiiokeaaGreatRefsF
import Derived.Test.YtgjfhmahiiokeaaGreatSame
set_option linter.unusedVariables false
set_option linter.unusedSimpArgs false
set_option linter.unusedVariables false
set_option linter.unusedSimpArgs false
set_option maxRecDepth 8000
namespace Go.Proofs.YtgjfhmahiiokeaaGreat.Y
open Go Go.Sx

/-! ### Of the four ways: the laws -/
section
variable {w : World}

theorem law17_texts {l : Value} {ls : List (List UInt8)} (h : SlT w l ls) (hlim : ls.length ≤ 2 ^ 40) : RET Tryz.prog 9 [l] w fun v w' => Ext w w' ∧ (((∃ t ∈ ls, 40 < t.length) ∧ v = .tuple #[.slice none 0 0, .bool false]) ∨
    ((∀ t ∈ ls, t.length ≤ 40) ∧ ∃ out n, v = .tuple #[out, .bool (decide (ls.length ≤ 12))] ∧ w'.ownsRow w.heap.size 9 1 out n (ls.map strV))) := by
  have hls := h.len
  obtain ⟨A, cc, rfl⟩ := h.shape
  refine RET_by fun R k => ?_
  apply by_seinelaw17_texts
  unfold sh_seinelaw17_texts
  refine ⟨fun out iv w1 => ∃ (i n : Nat), iv = .int .i64 i ∧ i ≤ ls.length ∧ n = i ∧ w1.ownsRow w.heap.size 9 1 out n ((ls.take i).map strV) ∧ Ext w w1 ∧ ∀ t ∈ ls.take i, t.length ≤ 40, fun _ iv _ => ls.length - vnat iv, ⟨0, 0, rfl, Nat.zero_le _, rfl, World.ownsRow_nil _ _ _ _, Ext.refl w, by simp⟩, ?_⟩
  rintro out iv w1 ⟨i, n, rfl, hi, hn, hr, he, hall⟩
  by_cases hlt : i < ls.length
  · have hlt' : (i : Int) < ((ls.length : Nat) : Int) := by omega
    obtain ⟨b, o, c', u, hv, hcell, hu⟩ := (h.ext he).at hlt
    injection hv with hA _ hc
    subst hA hc
    have hul := hu.len
    obtain ⟨A', c'', rfl⟩ := hu.shape
    have htk : ls.take (i + 1) = ls.take i ++ [ls[i]] := List.take_succ_eq_append_getElem hlt
    by_cases h40 : 40 < ls[i].length
    · have h40' : (40 : Int) < ((ls[i].length : Nat) : Int) := by omega
      simp (disch := omega) only [SX, Nat.reduceAdd, hlt', LD_23 hcell, h40']
      exact k _ _ ⟨he, .inl ⟨⟨_, List.getElem_mem hlt, h40⟩, rfl⟩⟩
    · have h40' : ¬ (40 : Int) < ((ls[i].length : Nat) : Int) := by omega
      simp (disch := omega) only [SX, Nat.reduceAdd, hlt', LD_23 hcell, h40']
      rw [STR Tryz.underlying23 Tryz.underlying5 Tryz.underlying9 hu]
      refine BS_25_1 fun w2 o2 e2 z2 => ?_
      have hr2 := row_ext hr e2
      refine PUSH1 (by kernel_rfl) IN_9 rfl hr2 o2 rfl (by unfold maxLen; omega) (by omega) (by have := he.size; have := e2.size; omega) fun v' w3 o3 c3 g3 => ?_
      try simp (disch := omega) only [SX, Nat.reduceAdd]
      refine ⟨⟨i + 1, n + 1, by simp, by omega, by omega, ?_, (he.trans e2).ext_of c3 fun q hq => row_base hr2 q hq, ?_⟩, by simp only [vnat_int]; omega⟩
      · rw [htk, List.map_append]; exact o3
      · rw [htk]
        intro t ht
        rcases List.mem_append.1 ht with ht | ht
        · exact hall t ht
        · simp only [List.mem_singleton] at ht
          subst ht; omega
  · have hlt' : ¬ (i : Int) < ((ls.length : Nat) : Int) := by omega
    obtain rfl : i = ls.length := by omega
    rw [List.take_length] at hr hall
    simp (disch := omega) only [SX, Nat.reduceAdd, hlt']
    refine k _ _ ⟨he, .inr ⟨hall, out, n, ?_, hr⟩⟩
    have : (decide (((ls.length : Nat) : Int) ≤ 12)) = decide (ls.length ≤ 12) := by rw [decide_eq_decide]; omega
    rw [this]

theorem law17_few {v : Value} {line : List UInt8} (h : SlB w v line) : RET Tryz.prog 14 [v] w fun r w' => r = .bool (decide (line.length ≤ 120)) ∧ w' = w := by
  have hl := h.len
  obtain ⟨A, c, rfl⟩ := h.shape
  refine RET_by fun R k => ?_
  apply by_seinelaw17_few
  unfold sh_seinelaw17_few
  simp (disch := omega) only [SX, Nat.reduceAdd]
  refine k _ _ ⟨?_, rfl⟩
  have : (decide (((line.length : Nat) : Int) ≤ 120)) = decide (line.length ≤ 120) := by rw [decide_eq_decide]; omega
  rw [this]

theorem engine_Tag {lo hi eb : Nat} {tag : Int} {ps : List (List UInt8)} {e : Bool} (h : IsEng w lo hi eb tag ps e) : RET Tryz.prog 20 [.pointer (some ⟨eb, 0, none⟩)] w fun r w' => r = .int .i64 tag ∧ w' = w := by
  obtain ⟨sv, m, sc, l1, h1, l2, h2, k1, _⟩ := h.ex
  refine RET_by fun R k => ?_
  apply by_engine_Engine_Tag
  unfold sh_engine_Engine_Tag
  simp (disch := omega) only [SX, Nat.reduceAdd, LD_3 (k1.cell (i := 0) rfl)]
  exact k _ _ ⟨rfl, rfl⟩
theorem engine_Tag0 : RET Tryz.prog 20 [.pointer none] w fun r w' => r = .int .i64 (-1) ∧ w' = w := by
  refine RET_by fun R k => ?_
  apply by_engine_Engine_Tag
  unfold sh_engine_Engine_Tag
  simp (disch := omega) only [SX, Nat.reduceAdd]
  exact k _ _ ⟨rfl, rfl⟩
theorem engine_Find0 {mv lv : Value} : RET Tryz.prog 13 [.pointer none, mv, lv] w fun r w' => r = .slice none 0 0 ∧ w' = w := by
  refine RET_by fun R k => ?_
  apply by_engine_Engine_Find
  unfold sh_engine_Engine_Find
  simp (disch := omega) only [SX, Nat.reduceAdd]
  exact k _ _ ⟨rfl, rfl⟩

/-- A set of the texts, in a variable. -/
theorem newSet {lv : Value} {ls : List (List UInt8)} (h : SlT w lv ls) (hn : ls.length ≤ 2 ^ 31) {E : List PanicEntry → World → Prop} {K : Value → World → Prop}
    (k : ∀ b v hi w', (∃ cs, cs.length = 3 ∧ v = .agg cs.toArray ∧ Own w' b cs 30) → IsSet w' w.heap.size hi v ls → w.heap.size ≤ hi → hi ≤ w'.heap.size → Ext w w' → K (.pointer (some ⟨b, 0, none⟩)) w') :
    CALL Tryz.prog 10 [lv] w E fun v w => RUN Tryz.prog (Instr.alloc 30 true (.tuple #[])) w fun p w => RUNU Tryz.prog (Instr.storeAt 30 p v) w (K p) := by
  refine CALL_of (patset_Of h hn) ?_
  rintro v w1 ⟨hs, e1⟩
  obtain ⟨sv, m, kvs, rfl, h2, _⟩ := id hs.ex
  obtain ⟨A, c, rfl⟩ := (h2.slT (by have := (ofM_len ls).1; omega)).shape
  refine AL_30 fun w2 o2 e2 z2 => ?_
  have z1 := e1.size
  refine STOREA SZ_30 (vs := [.slice A (ofM ls).length c, .map (some m), .bool (decide ([] ∈ ls))]) rfl o2 (by simp) (by simp [Value.oneCell']) fun w3 o3 c3 z3 => ?_
  exact k _ _ w1.heap.size w3 ⟨_, by rfl, rfl, o3⟩ ((hs.ext e2).chg c3 (fun i hi => by omega)) z1 (by omega) ((e1.trans e2).ext_of c3 fun j hj => by omega)

/-- The same, said of any answer. -/
theorem engine_New' {lo hi : Nat} {v : Value} {ls : List (List UInt8)} (h : IsSet w lo hi v ls) (hlo : lo ≤ hi) (hhi : hi ≤ w.heap.size) (hl : ls.length ≤ 2 ^ 31) (hs : sumL ls + 1 ≤ 2 ^ 30) (tag : Int) : RET Tryz.prog 11 [.int .i64 tag, v] w fun r w' => Ext w w' ∧
    ∃ a, r = .tuple #[.pointer a, .int .i64 (wrongM tag (ofM ls) (decide ([] ∈ ls)))] ∧ ((wrongM tag (ofM ls) (decide ([] ∈ ls)) ≠ 0 ∧ a = none) ∨ (wrongM tag (ofM ls) (decide ([] ∈ ls)) = 0 ∧ ∃ eb, a = some ⟨eb, 0, none⟩ ∧ IsEng w' lo w'.heap.size eb tag (ofM ls) (decide ([] ∈ ls)))) := by
  refine (engine_New h hlo hhi hl hs tag).mono ?_
  rintro r w' ⟨e, ⟨h1, rfl⟩ | ⟨h1, eb, rfl, h2⟩⟩
  · exact ⟨e, _, rfl, .inl ⟨h1, rfl⟩⟩
  · exact ⟨e, _, by rw [h1], .inr ⟨h1, _, rfl, h2⟩⟩

/-- What is found without a meter. -/
theorem engine_FindN {lo hi eb : Nat} {tag : Int} {ps : List (List UInt8)} {e : Bool} {lv : Value} {line : List UInt8} (h : IsEng w lo hi eb tag ps e) (hlv : SlB w lv line) (hhi : hi ≤ w.heap.size) (hps : ps.length ≤ 2 ^ 31) (hne : ∀ t ∈ ps, t ≠ []) (hsum : sumL ps + 1 ≤ 2048) (hlen : line.length ≤ 4096) :
    RET Tryz.prog 13 [.pointer (some ⟨eb, 0, none⟩), .pointer none, lv] w fun r w' => (∃ L, SlG pcells w' r L ∧ Rising L ∧ (∀ p, p ∈ L ↔ IsHit ps e line p) ∧ L.length ≤ 2 ^ 39) ∧ Ext w w' := by
  refine (engine_Find (o := none) (s := 0) (l := 0) (hu := 0) (mo := 0) h hlv (MeterAt.none _ _ _) (by omega) (by omega) (fun _ h => by cases h) (fun _ h => by cases h) hhi hps hne hsum hlen).mono ?_
  rintro r w' ⟨h1, h2, h3, h4⟩
  exact ⟨h1, h4.weaken fun i _ hi => by cases hi⟩

/-- What is found with a meter that came behind: it alone is changed. -/
theorem engine_FindM {lo hi eb o : Nat} {tag : Int} {ps : List (List UInt8)} {e : Bool} {lv : Value} {line : List UInt8} {w0 : World} {s l : Int} (h : IsEng w0 lo hi eb tag ps e) (hlv : SlB w0 lv line) (he : Ext w0 w) (hm : MeterAt 0 0 w (some o) s l) (hs : 0 ≤ s ∧ s ≤ 2 ^ 39) (hl : 0 ≤ l ∧ l ≤ 2 ^ 39) (hhi : hi ≤ w0.heap.size) (ho : w0.heap.size ≤ o) (hob : o < w.heap.size) (hps : ps.length ≤ 2 ^ 31) (hne : ∀ t ∈ ps, t ≠ []) (hsum : sumL ps + 1 ≤ 2048) (hlen : line.length ≤ 4096) :
    RET Tryz.prog 13 [.pointer (some ⟨eb, 0, none⟩), mV (some o), lv] w fun r w' => (∃ L, SlG pcells w' r L ∧ Rising L ∧ (∀ p, p ∈ L ↔ IsHit ps e line p) ∧ L.length ≤ 2 ^ 39) ∧ MeterAt 0 0 w' (some o) (s + readM tag ps line) (l + lookM tag ps line) ∧ Ext w0 w' ∧ w.heap.size ≤ w'.heap.size ∧ (∀ k, r.ownBlock = some k → w.heap.size ≤ k) ∧ Chg (fun k => k = o) w w' := by
  have := he.size
  refine (engine_Find (o := some o) (h.ext he) (hlv.ext he) hm hs hl (fun k hk => by injection hk with hk; omega) (fun k hk => by injection hk with hk; omega) (by omega) hps hne hsum hlen).mono ?_
  rintro r w' ⟨h1, h2, h3, h4⟩
  have h4' : Chg (fun k => k = o) w w' := h4.weaken fun i _ hi => by injection hi with hi
  exact ⟨h1, h3, he.ext_of h4' fun i hi => by omega, h4.size, h2, h4'⟩
theorem look_bound {tag : Int} {ps : List (List UInt8)} {line : List UInt8} : 0 ≤ readM tag ps line ∧ readM tag ps line ≤ line.length ∧ readM tag ps line ≤ lookM tag ps line ∧ lookM tag ps line ≤ 2 * readM tag ps line ∧ (tag = 1 → lookM tag ps line = readM tag ps line) ∧ (ps ≠ [] → tag ≤ 1 → readM tag ps line = line.length) ∧ (ps = [] ∨ 1 < tag → readM tag ps line = 0) := by
  have hT := (trie_for ps).ok
  have hb := looksL_bound hT line line.length (Nat.le_refl _)
  unfold readM lookM
  by_cases h0 : ps = [] ∨ 1 < tag
  · rw [if_pos h0, if_pos h0]
    refine ⟨by omega, by omega, by omega, by omega, fun _ => rfl, fun h1 h2 => ?_, fun _ => rfl⟩
    rcases h0 with h0 | h0
    · exact (h1 h0).elim
    · omega
  · rw [if_neg h0, if_neg h0]
    by_cases h1 : tag = 1
    · rw [if_pos h1]
      exact ⟨by omega, by omega, by omega, by omega, fun _ => rfl, fun _ _ => rfl, fun hh => (h0 hh).elim⟩
    · rw [if_neg h1]
      exact ⟨by omega, by omega, by omega, by omega, fun hh => (h1 hh).elim, fun _ _ => rfl, fun hh => (h0 hh).elim⟩

def ex17 : List (List UInt8) := [[97, 98], []]
theorem law17_awake : RET Tryz.prog 8 [] w fun v w' => v = .bool true ∧ Ext w w' := by
  refine RET_by fun R k => ?_
  apply by_seinelaw17_awake
  unfold sh_seinelaw17_awake
  refine LIT (n := 2) (e := 5) [97, 98] (by kernel_rfl) Tryz.underlying23 Tryz.underlying5 rfl (by decide) fun w1 s1 e1 z1 => ?_
  refine BS_22_2 fun w3 o3 e3 z3 => ?_
  have hls : SlT w3 (.slice (some ⟨w1.heap.size, 0, none⟩) 2 2) ex17 := by
    refine ⟨_, 2, _, rfl, Rd.own (vs := [.slice (some ⟨w.heap.size, 0, none⟩) 2 2, .slice none 0 0]) o3 0 (fun i v hv => by simpa using hv), rfl, by simp [ex17], by simp [ex17], fun i h h' => ?_⟩
    match i, h with
    | 0, _ => exact s1.ext e3
    | 1, _ => exact ⟨none, 0, rfl, .inl rfl, Nat.le_refl _, (by show (0 : Nat) ≤ 140737488355328; omega)⟩
  have hps : ofM ex17 = [[97, 98]] := by kernel_rfl
  have he : decide ([] ∈ ex17) = true := by kernel_rfl
  have hsum : sumL ex17 + 1 ≤ 2 ^ 30 := by decide
  refine newSet hls (by decide) fun pb sv hi w4 hcs hset hlo hhi e4 => ?_
  obtain ⟨cs, hc3, rfl, o4⟩ := hcs
  rw [LA_30 (cellsAt_whole o4 hc3)]
  refine CALL_of (engine_New' hset hlo hhi (by decide) hsum 3) ?_
  rintro _ w5 ⟨e5, a5, rfl, h5⟩
  try simp (disch := omega) only [SX, Nat.reduceAdd]
  rw [LA_30 (cellsAt_whole (o4.ext e5) hc3)]
  have z5 := e5.size
  refine CALL_of (engine_New' (hset.ext e5) hlo (by omega) (by decide) hsum 2) ?_
  rintro _ w6 ⟨e6, a6, rfl, h6⟩
  have z6 := e6.size
  try simp (disch := omega) only [SX, Nat.reduceAdd]
  rw [LA_30 (cellsAt_whole (o4.ext (e5.trans e6)) hc3)]
  refine CALL_of (engine_New' (hset.ext (e5.trans e6)) hlo (by omega) (by decide) hsum 4) ?_
  rintro _ w7 ⟨e7, a7, rfl, h7⟩
  have z7 := e7.size
  rw [hps, he] at *
  have q3 : wrongM 3 [[97, 98]] true = 0 := by simp [wrongM]
  have q2 : wrongM 2 [[97, 98]] true = 13 := by simp [wrongM]
  have q4 : wrongM 4 [[97, 98]] true = 11 := by simp [wrongM]
  rw [q3] at *
  rw [q2] at *
  rw [q4] at *
  rcases h5 with ⟨h5, _⟩ | ⟨_, eb, rfl, h5⟩
  · exact (h5 rfl).elim
  try simp (disch := omega) only [SX, Nat.reduceAdd]
  refine LIT (n := 2) (e := 5) [97, 98] (by kernel_rfl) Tryz.underlying23 Tryz.underlying5 rfl (by decide) fun w8 s8 e8 z8 => ?_
  refine CALL_of (engine_FindN (h5.ext (e6.trans (e7.trans e8))) s8 (by omega) (by decide) (by decide) (by decide) (by decide)) ?_
  rintro fv w9 ⟨⟨L, hL, hLr, hLm, _⟩, e9⟩
  have hLe : L = [(0, 0), (0, 2), (1, 1), (2, 2)] := by
    refine rising_ext hLr (by unfold Rising; simp [ltP]) fun p => ?_
    rw [hLm]
    constructor
    · rintro (h | ⟨_, h⟩)
      · obtain ⟨i, j, rfl, hij, hj⟩ := occ_bnd h
        have := (occ_at hij hj).1 h
        have hj : j ≤ 2 := hj
        have : i = 0 ∧ j = 2 := by
          have hc : (i = 0 ∧ j = 1) ∨ (i = 0 ∧ j = 2) ∨ (i = 1 ∧ j = 2) := by omega
          rcases hc with ⟨rfl, rfl⟩ | h | ⟨rfl, rfl⟩
          · exact (by revert this; decide)
          · exact h
          · exact (by revert this; decide)
        obtain ⟨rfl, rfl⟩ := this
        simp
      · obtain ⟨i, hi, rfl⟩ := (emptL_mem _ _).1 h
        have hi : i < 3 := hi
        have hc : i = 0 ∨ i = 1 ∨ i = 2 := by omega
        rcases hc with rfl | rfl | rfl <;> simp
    · intro h
      simp only [List.mem_cons, List.not_mem_nil, or_false] at h
      rcases h with rfl | rfl | rfl | rfl
      · exact .inr ⟨rfl, (emptL_mem _ _).2 ⟨0, by decide, rfl⟩⟩
      · exact .inl ((occ_at (i := 0) (j := 2) (by decide) (by decide)).2 (by decide))
      · exact .inr ⟨rfl, (emptL_mem _ _).2 ⟨1, by decide, rfl⟩⟩
      · exact .inr ⟨rfl, (emptL_mem _ _).2 ⟨2, by decide, rfl⟩⟩
  subst hLe
  have i1 : decide ((0 : Int) ≤ 3 ∧ (3 : Int) ≤ 3) = true := by decide
  have i2 : decide ((0 : Int) ≤ -1 ∧ (-1 : Int) ≤ 3) = false := by decide
  try simp (disch := omega) only [SX, Nat.reduceAdd]
  refine CALL_of (engine_Is 3) ?_
  rintro _ w9 ⟨rfl, rfl⟩
  rw [i1]
  try simp (disch := omega) only [SX, Nat.reduceAdd]
  refine CALL_of (engine_Is (-1)) ?_
  rintro _ w9 ⟨rfl, rfl⟩
  rw [i2]
  try simp (disch := omega) only [SX, Nat.reduceAdd]
  refine CALL_of (engine_Tag (h5.ext (e6.trans (e7.trans (e8.trans e9))))) ?_
  rintro _ w9 ⟨rfl, rfl⟩
  obtain ⟨Af, cf, rfl⟩ := hL.shape
  try simp (disch := omega) only [SX, Nat.reduceAdd]
  refine BS_37_4 fun w10 o10 e10 z10 => ?_
  refine CALL_of (ref03_Same (hL.ext e10) (show SlG pcells w10 (.slice (some ⟨w9.heap.size, 0, none⟩) 4 4) [(0, 0), (0, 2), (1, 1), (2, 2)] from ⟨_, 4, rfl, Rd.own o10 0 (fun i v hv => by simpa [pcells] using hv), by simp, by simp⟩)) ?_
  rintro v w11 ⟨rfl, e11⟩
  exact k _ _ ⟨rfl, e1.trans (e3.trans (e4.trans (e5.trans (e6.trans (e7.trans (e8.trans (e9.trans (e10.trans e11))))))))⟩
end
end Go.Proofs.YtgjfhmahiiokeaaGreat.Y
set_option linter.unusedVariables false
set_option linter.unusedSimpArgs false
set_option maxRecDepth 8000
namespace Go.Proofs.YtgjfhmahiiokeaaGreat.Y
open Go Go.Sx

theorem rem4 (a : UInt8) : ∃ t : Int, IntKind.i64.wrap ((a.toNat : Int).tmod 4) = t ∧ 0 ≤ t ∧ t ≤ 3 := by
  refine ⟨_, rfl, ?_⟩
  have h1 : (a.toNat : Int).tmod 4 = ((a.toNat % 4 : Nat) : Int) := by rw [Int.tmod_eq_emod_of_nonneg (by omega)]; omega
  have h2 : IntKind.i64.wrap ((a.toNat % 4 : Nat) : Int) = ((a.toNat % 4 : Nat) : Int) := by simp [IntKind.wrap, IntKind.bits, IntKind.signed]; omega
  rw [h1, h2]
  omega
theorem wrong_few {tag : Int} (h0 : 0 ≤ tag) (h1 : tag ≤ 3) (ps : List (List UInt8)) (e : Bool) : wrongM tag ps e = 0 ∨ wrongM tag ps e = 13 ∨ wrongM tag ps e = 14 := by
  unfold wrongM
  rw [if_neg (by omega)]
  split
  · exact .inr (.inl rfl)
  · split
    · exact .inr (.inr rfl)
    · exact .inl rfl
theorem sums40 {ls : List (List UInt8)} (h40 : ∀ t ∈ ls, t.length ≤ 40) (h12 : ls.length ≤ 12) : sumL ls ≤ 480 ∧ sumL (ofM ls) ≤ 480 ∧ (ofM ls).length ≤ 12 := by
  have h1 := sumL_le ls 40 h40
  have h2 := ofM_len ls
  have : ls.length * 40 ≤ 480 := by omega
  omega

section
variable {w : World}

theorem law17_EngineSame {l lv : Value} {ls : List (List UInt8)} {line : List UInt8} (h : SlT w l ls) (hlim : ls.length ≤ 1048576) (hlv : SlB w lv line) (a b : UInt8) : RET Tryz.prog 3 [l, lv, .int .u8 a.toNat, .int .u8 b.toNat] w fun v w' => v = .bool true ∧ Ext w w' := by
  have hll := hlv.len
  have h' := h
  obtain ⟨A0, c0, rfl⟩ := h.shape
  have hlv' := hlv
  obtain ⟨Al, cl, rfl⟩ := hlv.shape
  refine RET_by fun R k => ?_
  apply by_seinelaw17_EngineSame
  unfold sh_seinelaw17_EngineSame
  refine CALL_of law17_awake ?_
  rintro v w1 ⟨rfl, e1⟩
  simp (disch := omega) only [SX, Nat.reduceAdd]
  refine CALL_of (law17_texts (h'.ext e1) (by omega)) ?_
  rintro v w2 ⟨e2, hv⟩
  have e02 := e1.trans e2
  rcases hv with ⟨_, rfl⟩ | ⟨h40, out, n, rfl, hrow⟩
  · simp (disch := omega) only [SX, Nat.reduceAdd]
    refine ⟨fun _ => False, ?_, fun _ h => h.elim⟩
    simp (disch := omega) only [SX, Nat.reduceAdd]
    exact k _ _ ⟨rfl, e02⟩
  simp (disch := omega) only [SX, Nat.reduceAdd]
  by_cases h12 : ls.length ≤ 12
  case neg =>
    refine ⟨fun _ => False, ?_, fun _ h => h.elim⟩
    simp (disch := omega) only [SX, Nat.reduceAdd, h12]
    exact k _ _ ⟨rfl, e02⟩
  by_cases h300 : 300 < line.length
  · have h300' : (300 : Int) < ((line.length : Nat) : Int) := by omega
    refine ⟨fun _ => False, ?_, fun _ h => h.elim⟩
    simp (disch := omega) only [SX, Nat.reduceAdd, h12, h300']
    exact k _ _ ⟨rfl, e02⟩
  have h300' : ¬ (300 : Int) < ((line.length : Nat) : Int) := by omega
  refine ⟨fun w3 => w3 = w2, ?_, ?_⟩
  · simp (disch := omega) only [SX, Nat.reduceAdd, h12, h300']
  rintro w3 rfl
  obtain ⟨s1, s2, s3⟩ := sums40 h40 h12
  have hne := ofM_ne ls
  refine newSet (h'.ext e02) (by omega) fun pb sv hi w4 hcs hset hlo hhi e4 => ?_
  obtain ⟨cs, hc3, rfl, o4⟩ := hcs
  obtain ⟨ta, hta, ta0, ta3⟩ := rem4 a
  obtain ⟨tb, htb, tb0, tb3⟩ := rem4 b
  simp (disch := omega) only [SX, Nat.reduceAdd, PURE_rem, hta, htb]
  rw [LA_30 (cellsAt_whole o4 hc3)]
  refine CALL_of (engine_New' hset hlo hhi (by omega) (by omega) ta) ?_
  rintro _ w5 ⟨e5, a5, rfl, h5⟩
  try simp (disch := omega) only [SX, Nat.reduceAdd, PURE_rem, htb]
  rw [LA_30 (cellsAt_whole (o4.ext e5) hc3)]
  have z5 := e5.size
  refine CALL_of (engine_New' (hset.ext e5) hlo (by omega) (by omega) (by omega) tb) ?_
  rintro _ w6 ⟨e6, a6, rfl, h6⟩
  have z6 := e6.size
  have e06 := e02.trans (e4.trans (e5.trans e6))
  have wa := wrong_few ta0 ta3 (ofM ls) (decide ([] ∈ ls))
  have wb := wrong_few tb0 tb3 (ofM ls) (decide ([] ∈ ls))
  generalize decide ([] ∈ ls) = e at *
  generalize hps : ofM ls = ps at *
  try simp (disch := omega) only [SX, Nat.reduceAdd]
  refine ⟨fun v w7 => v = .bool (decide (wrongM ta ps e ≠ 0 ∨ wrongM tb ps e ≠ 0)) ∧ w7 = w6, ?_, ?_⟩
  · by_cases q : wrongM ta ps e = 0
    · by_cases q2 : wrongM tb ps e = 0
      · simp (disch := omega) only [SX, Nat.reduceAdd, q, q2]
        exact ⟨by simp, trivial⟩
      · simp (disch := omega) only [SX, Nat.reduceAdd, q, q2]
        exact ⟨by simp [q2], trivial⟩
    · simp (disch := omega) only [SX, Nat.reduceAdd, q]
      exact ⟨by simp [q], trivial⟩
  rintro _ w7 ⟨rfl, rfl⟩
  by_cases q : wrongM ta ps e = 0
  · rcases h5 with ⟨h5, _⟩ | ⟨_, ea, rfl, h5⟩
    · exact (h5 q).elim
    by_cases q2 : wrongM tb ps e = 0
    · rcases h6 with ⟨h6, _⟩ | ⟨_, eb, rfl, h6⟩
      · exact (h6 q2).elim
      have hd : decide (wrongM ta ps e ≠ 0 ∨ wrongM tb ps e ≠ 0) = false := by simp [q, q2]
      rw [hd]
      simp (disch := omega) only [SX, Nat.reduceAdd]
      refine CALL_of (engine_FindN (h5.ext e6) (hlv'.ext e06) (by omega) (by omega) hne (by omega) (by omega)) ?_
      rintro fv w8 ⟨⟨L1, hL1, hr1, hm1, _⟩, e8⟩
      have z8 := e8.size
      refine CALL_of (engine_FindN (h6.ext e8) (hlv'.ext (e06.trans e8)) (by omega) (by omega) hne (by omega) (by omega)) ?_
      rintro gv w9 ⟨⟨L2, hL2, hr2, hm2, _⟩, e9⟩
      refine CALL_of (ref03_Same (hL1.ext e9) hL2) ?_
      rintro _ w10 ⟨rfl, e10⟩
      have : L1 = L2 := rising_ext hr1 hr2 fun p => by rw [hm1, hm2]
      exact k _ _ ⟨by simp [this], e06.trans (e8.trans (e9.trans e10))⟩
    · have hd : decide (wrongM ta ps e ≠ 0 ∨ wrongM tb ps e ≠ 0) = true := by simp [q2]
      rw [hd]
      simp (disch := omega) only [SX, Nat.reduceAdd, q]
      exact k _ _ ⟨rfl, e06⟩
  · rcases h5 with ⟨_, rfl⟩ | ⟨h5, _⟩
    · have hd : decide (wrongM ta ps e ≠ 0 ∨ wrongM tb ps e ≠ 0) = true := by simp [q]
      rcases wa with wa | wa | wa
      · exact (q wa).elim
      · rw [hd]
        simp (disch := omega) only [SX, Nat.reduceAdd, wa, show ¬ (13 : Int) = 0 by decide]
        exact k _ _ ⟨rfl, e06⟩
      · rw [hd]
        simp (disch := omega) only [SX, Nat.reduceAdd, wa, show ¬ (14 : Int) = 0 by decide, show ¬ (14 : Int) = 13 by decide]
        exact k _ _ ⟨rfl, e06⟩
    · exact (q h5).elim
end
end Go.Proofs.YtgjfhmahiiokeaaGreat.Y
set_option linter.unusedVariables false
set_option linter.unusedSimpArgs false
set_option maxRecDepth 8000
namespace Go.Proofs.YtgjfhmahiiokeaaGreat.Y
open Go Go.Sx

section
variable {w : World}

theorem law17_EngineCounts {l xv yv : Value} {ls : List (List UInt8)} {x y : List UInt8} (h : SlT w l ls) (hlim : ls.length ≤ 1048576) (hx : SlB w xv x) (hy : SlB w yv y) (a : UInt8) : RET Tryz.prog 7 [l, xv, yv, .int .u8 a.toNat] w fun v w' => v = .bool true ∧ Ext w w' := by
  have hxl := hx.len
  have hyl := hy.len
  have h' := h
  obtain ⟨A0, c0, rfl⟩ := h.shape
  have hx' := hx
  have hy' := hy
  obtain ⟨Ax, cx, rfl⟩ := hx.shape
  obtain ⟨Ay, cy, rfl⟩ := hy.shape
  refine RET_by fun R k => ?_
  apply by_seinelaw17_EngineCounts
  unfold sh_seinelaw17_EngineCounts
  refine CALL_of law17_awake ?_
  rintro v w1 ⟨rfl, e1⟩
  simp (disch := omega) only [SX, Nat.reduceAdd]
  refine CALL_of (law17_texts (h'.ext e1) (by omega)) ?_
  rintro v w2 ⟨e2, hv⟩
  have e02 := e1.trans e2
  obtain ⟨ta, hta, ta0, ta3⟩ := rem4 a
  rcases hv with ⟨_, rfl⟩ | ⟨h40, out, n, rfl, hrow⟩
  · simp (disch := omega) only [SX, Nat.reduceAdd, PURE_rem, hta]
    refine ⟨fun _ => False, ?_, fun _ h => h.elim⟩
    simp (disch := omega) only [SX, Nat.reduceAdd]
    exact k _ _ ⟨rfl, e02⟩
  simp (disch := omega) only [SX, Nat.reduceAdd, PURE_rem, hta]
  by_cases h12 : ls.length ≤ 12
  case neg =>
    refine ⟨fun _ => False, ?_, fun _ h => h.elim⟩
    simp (disch := omega) only [SX, Nat.reduceAdd, h12]
    exact k _ _ ⟨rfl, e02⟩
  by_cases hx4 : 400 < x.length
  · have hx4' : (400 : Int) < ((x.length : Nat) : Int) := by omega
    refine ⟨fun _ => False, ?_, fun _ h => h.elim⟩
    simp (disch := omega) only [SX, Nat.reduceAdd, h12, hx4']
    exact k _ _ ⟨rfl, e02⟩
  have hx4' : ¬ (400 : Int) < ((x.length : Nat) : Int) := by omega
  by_cases hy4 : 400 < y.length
  · have hy4' : (400 : Int) < ((y.length : Nat) : Int) := by omega
    refine ⟨fun _ => False, ?_, fun _ h => h.elim⟩
    simp (disch := omega) only [SX, Nat.reduceAdd, h12, hx4', hy4']
    exact k _ _ ⟨rfl, e02⟩
  have hy4' : ¬ (400 : Int) < ((y.length : Nat) : Int) := by omega
  refine ⟨fun w3 => w3 = w2, ?_, ?_⟩
  · simp (disch := omega) only [SX, Nat.reduceAdd, h12, hx4', hy4']
  rintro w3 rfl
  obtain ⟨s1, s2, s3⟩ := sums40 h40 h12
  have hne := ofM_ne ls
  have hofl := ofM_len ls
  refine newSet (h'.ext e02) (by omega) fun pb sv hi w4 hcs hset hlo hhi e4 => ?_
  obtain ⟨cs, hc3, rfl, o4⟩ := hcs
  rw [LA_30 (cellsAt_whole o4 hc3)]
  refine CALL_of (engine_New' hset hlo hhi (by omega) (by omega) ta) ?_
  rintro _ w5 ⟨e5, a5, rfl, h5⟩
  have hV5 := (hset.ext e5).setV (by omega)
  generalize decide ([] ∈ ls) = e at *
  generalize hps : ofM ls = ps at *
  have e05 := e02.trans (e4.trans e5)
  by_cases q : wrongM ta ps e = 0
  case neg =>
    rcases h5 with ⟨_, rfl⟩ | ⟨h5, _⟩
    · try simp (disch := omega) only [SX, Nat.reduceAdd, q]
      exact k _ _ ⟨rfl, e05⟩
    · exact (q h5).elim
  rcases h5 with ⟨h5, _⟩ | ⟨_, eb, rfl, h5⟩
  · exact (h5 q).elim
  simp (disch := omega) only [SX, Nat.reduceAdd, q]
  refine CALL_of meter_New ?_
  rintro _ w6 ⟨rfl, hm6, e6⟩
  generalize hob : w5.heap.size = ob at *
  have hmb : ob < w6.heap.size := by have := (hm6 ob rfl).lt; omega
  have bx := look_bound (tag := ta) (ps := ps) (line := x)
  have by' := look_bound (tag := ta) (ps := ps) (line := y)
  refine CALL_of (engine_FindM (w0 := w5) h5 (hx'.ext e05) e6 hm6 (by omega) (by omega) (by omega) (by omega) hmb (by omega) hne (by omega) (by omega)) ?_
  rintro xr w7 ⟨_, hm7, e7, z7, _⟩
  refine CALL_of (engine_FindM (w0 := w5) h5 (hy'.ext e05) e7 hm7 (by omega) (by omega) (by omega) (by omega) (by omega) (by omega) hne (by omega) (by omega)) ?_
  rintro yr w8 ⟨_, hm8, e8, z8, _⟩
  refine CALL_of (meter_Counts hm8) ?_
  rintro _ w9 ⟨rfl, e9⟩
  refine AL_49 fun w10 o10 e10 z10 => ?_
  refine STOREA SZ_49 (vs := [.int .i64 (0 + readM ta ps x + readM ta ps y), .int .i64 (0 + lookM ta ps x + lookM ta ps y), .int .i64 0, .int .i64 0]) rfl o10 (by simp) (by simp [Value.oneCell']) fun w11 o11 c11 z11 => ?_
  have e11 : Ext w5 w11 := (e8.trans (e9.trans e10)).ext_of c11 fun j hj => by have := e8.size; have := e9.size; omega
  have o11 : Own w11 w9.heap.size [.int .i64 (0 + readM ta ps x + readM ta ps y), .int .i64 (0 + lookM ta ps x + lookM ta ps y), .int .i64 0, .int .i64 0] 49 := o11
  simp (disch := omega) only [SX, Nat.reduceAdd]
  by_cases hz : ps = [] ∨ 1 < ta
  · have hr1 := bx.2.2.2.2.2.2 hz
    have hr2 := by'.2.2.2.2.2.2 hz
    have v0 : (0 + readM ta ps x + readM ta ps y) = 0 := by omega
    have v1 : (0 + lookM ta ps x + lookM ta ps y) = 0 := by omega
    rw [v0, v1] at o11
    refine ⟨fun _ => False, ?_, fun _ h => h.elim⟩
    show RUN Tryz.prog (Instr.loadAt 30 (.pointer (some ⟨pb, 0, none⟩))) w11 _
    rw [LA_30 (cellsAt_whole (o4.ext (e5.trans e11)) hc3)]
    refine CALL_of (patset_Size (hV5.ext e11) (by omega)) ?_
    rintro _ w12 ⟨rfl, e12⟩
    by_cases hs0 : sumL ps = 0
    · have hs0' : ((sumL ps : Nat) : Int) = 0 := by omega
      simp (disch := omega) only [SX, Nat.reduceAdd, hs0']
      rw [LA_49 (cellsAt_whole (o11.ext e12) rfl)]
      simp (disch := omega) only [SX, Nat.reduceAdd]
      exact k _ _ ⟨rfl, e05.trans (e11.trans e12)⟩
    · have hs0' : ¬ ((sumL ps : Nat) : Int) = 0 := by omega
      have hg : 1 < ta := hz.resolve_left fun hh => hs0 (by rw [hh]; rfl)
      simp (disch := omega) only [SX, Nat.reduceAdd, hs0', hg]
      rw [LA_49 (cellsAt_whole (o11.ext e12) rfl)]
      simp (disch := omega) only [SX, Nat.reduceAdd]
      exact k _ _ ⟨rfl, e05.trans (e11.trans e12)⟩
  · have hpne : ps ≠ [] := fun hh => hz (.inl hh)
    have hta1 : ta ≤ 1 := by
      have : ¬ 1 < ta := fun hh => hz (.inr hh)
      omega
    have hr1 := bx.2.2.2.2.2.1 hpne hta1
    have hr2 := by'.2.2.2.2.2.1 hpne hta1
    have hg : ¬ 1 < ta := by omega
    refine ⟨fun w12 => Ext w11 w12, ?_, ?_⟩
    · show RUN Tryz.prog (Instr.loadAt 30 (.pointer (some ⟨pb, 0, none⟩))) w11 _
      rw [LA_30 (cellsAt_whole (o4.ext (e5.trans e11)) hc3)]
      refine CALL_of (patset_Size (hV5.ext e11) (by omega)) ?_
      rintro _ w12 ⟨rfl, e12⟩
      have hs0' : ¬ ((sumL ps : Nat) : Int) = 0 := by
        intro hh
        cases hq : ps with
        | nil => exact hpne hq
        | cons t r =>
          have := List.length_pos_iff.2 (hne t (by rw [hq]; simp))
          rw [hq] at hh
          simp only [sumL] at hh
          omega
      simp (disch := omega) only [SX, Nat.reduceAdd, hs0', hg]
      exact e12
    intro w12 e12
    have o12 := o11.ext e12
    have v0 : (0 + readM ta ps x + readM ta ps y) = ((x.length : Nat) : Int) + ((y.length : Nat) : Int) := by omega
    have v1 : ((x.length : Nat) : Int) + ((y.length : Nat) : Int) ≤ (0 + lookM ta ps x + lookM ta ps y) := by omega
    have v2 : (0 + lookM ta ps x + lookM ta ps y) ≤ 2 * (((x.length : Nat) : Int) + ((y.length : Nat) : Int)) := by omega
    have v3 : ta = 1 → (0 + lookM ta ps x + lookM ta ps y) = ((x.length : Nat) : Int) + ((y.length : Nat) : Int) := fun hh => by have := bx.2.2.2.2.1 hh; have := by'.2.2.2.2.1 hh; omega
    rw [v0] at o12
    generalize (0 + lookM ta ps x + lookM ta ps y) = L at *
    have e012 := e05.trans (e11.trans e12)
    by_cases h1 : ta = 1
    · have v3 := v3 h1
      simp (disch := omega) only [SX, Nat.reduceAdd, LD_3 (o12.cell (i := 0) rfl), LD_3 (o12.cell (i := 1) rfl), LD_3 (o12.cell (i := 2) rfl), LD_3 (o12.cell (i := 3) rfl), v1, v2, h1, v3, Int.le_refl, show (((x.length : Nat) : Int) + ((y.length : Nat) : Int)) ≤ 2 * (((x.length : Nat) : Int) + ((y.length : Nat) : Int)) by omega]
      exact k _ _ ⟨rfl, e012⟩
    · simp (disch := omega) only [SX, Nat.reduceAdd, LD_3 (o12.cell (i := 0) rfl), LD_3 (o12.cell (i := 1) rfl), LD_3 (o12.cell (i := 2) rfl), LD_3 (o12.cell (i := 3) rfl), v1, v2, h1]
      exact k _ _ ⟨rfl, e012⟩
end
end Go.Proofs.YtgjfhmahiiokeaaGreat.Y
