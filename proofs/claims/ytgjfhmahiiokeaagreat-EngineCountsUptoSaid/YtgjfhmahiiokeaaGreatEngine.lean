import Derived.Test.YtgjfhmahiiokeaaGreatPatset
import Derived.Test.YtgjfhmahiiokeaaGreatPairs
import Derived.Test.YtgjfhmahiiokeaaGreatSparseB
import Derived.Test.YtgjfhmahiiokeaaGreatCwalter
import Derived.Test.YtgjfhmahiiokeaaGreatTwo
import Derived.Test.YtgjfhmahiiokeaaGreatDfaF
set_option linter.unusedVariables false
set_option linter.unusedSimpArgs false
set_option linter.unusedVariables false
set_option linter.unusedSimpArgs false
set_option maxRecDepth 8000
namespace Go.Proofs.YtgjfhmahiiokeaaGreat.Y
open Go Go.Sx

/-! ### The four ways -/
def wrongM (tag : Int) (ps : List (List UInt8)) (e : Bool) : Int :=
  if tag < 0 ∨ 3 < tag then 11 else if tag = 2 ∧ (ps.length ≠ 1 ∨ e = true) then 13 else if tag = 1 ∧ 160 < (trieM ps).length then 14 else 0
/-- What is read, and what is looked up. -/
def readM (tag : Int) (ps : List (List UInt8)) (line : List UInt8) : Int := if ps = [] ∨ 1 < tag then 0 else line.length
def lookM (tag : Int) (ps : List (List UInt8)) (line : List UInt8) : Int := if ps = [] ∨ 1 < tag then 0 else if tag = 1 then line.length else (looksL (trieM ps) line line.length : Nat)
/-- What is to be found. -/
def IsHit (ps : List (List UInt8)) (e : Bool) (line : List UInt8) (p : Int × Int) : Prop := IsOcc ps line p ∨ (e = true ∧ p ∈ emptL (line.length + 1))

def quietV (f : FuncId) (b : Nat) : Value := .iface 78 (.agg #[.func (.func f) #[.pointer (some ⟨b, 0, none⟩)] #[]])
inductive ScanOK (w : World) (lo hi : Nat) : Int → List (List UInt8) → Value → Prop
  | sparse (ps : List (List UInt8)) (b : Nat) : IsSparse w lo hi b ps → ScanOK w lo hi 0 ps (.iface 68 (.pointer (some ⟨b, 0, none⟩)))
  | dfa (ps : List (List UInt8)) (b : Nat) : IsDfa w lo hi b ps → ScanOK w lo hi 1 ps (.iface 70 (.pointer (some ⟨b, 0, none⟩)))
  | two (l : List UInt8) (b cut per : Nat) (small : Bool) : IsTwo w lo hi b l cut per small → ScanOK w lo hi 2 [l] (quietV 30 b)
  | walter (ps : List (List UInt8)) (b : Nat) : IsWalter w lo hi b (turnL ps) → ScanOK w lo hi 3 ps (quietV 32 b)
theorem ScanOK.chg {S : Nat → Prop} {w w' : World} {lo hi : Nat} {tag : Int} {ps : List (List UInt8)} {sc : Value} (h : ScanOK w lo hi tag ps sc) (hc : Chg S w w') (hs : ∀ i, S i → i < lo ∨ hi ≤ i) : ScanOK w' lo hi tag ps sc := by
  cases h with
  | sparse _ b h => exact .sparse _ b (h.chg hc hs)
  | dfa _ b h => exact .dfa _ b (h.chg hc hs)
  | two l b cut per small h => exact .two l b cut per small (h.chg hc hs)
  | walter _ b h => exact .walter _ b (h.chg hc hs)

structure IsEng (w : World) (lo hi eb : Nat) (tag : Int) (ps : List (List UInt8)) (e : Bool) : Prop where
  ex : ∃ sv m sc l1 h1 l2 h2, Own w eb [.int .i64 tag, sv, .map (some m), .bool e, sc] 67 ∧ RowH w l1 h1 sv ps ∧ ScanOK w l2 h2 tag ps sc ∧ (lo ≤ l1 ∧ h1 ≤ hi) ∧ (lo ≤ l2 ∧ h2 ≤ hi) ∧ lo ≤ eb ∧ eb < hi
theorem IsEng.chg {S : Nat → Prop} {w w' : World} {lo hi eb : Nat} {tag : Int} {ps : List (List UInt8)} {e : Bool} (h : IsEng w lo hi eb tag ps e) (hc : Chg S w w') (hs : ∀ i, S i → i < lo ∨ hi ≤ i) : IsEng w' lo hi eb tag ps e := by
  obtain ⟨sv, m, sc, l1, h1, l2, h2, k1, k2, k3, k4, k5, k6, k7⟩ := h.ex
  exact ⟨sv, m, sc, l1, h1, l2, h2, k1.chg hc (fun hS => by have := hs _ hS; omega), k2.chg hc (fun i hi => by have := hs i hi; omega), k3.chg hc (fun i hi => by have := hs i hi; omega), k4, k5, k6, k7⟩
theorem IsEng.ext {w w' : World} {lo hi eb : Nat} {tag : Int} {ps : List (List UInt8)} {e : Bool} (h : IsEng w lo hi eb tag ps e) (hc : Ext w w') : IsEng w' lo hi eb tag ps e := h.chg hc fun _ x => x.elim

theorem MKI_sparse {v : Value} {K : Value → Prop} : PURE Tryz.prog (Instr.makeInterface 68 v) K = K (.iface 68 v) := PURE_eq fun _ => by kernel_rfl
theorem MKI_dfa {v : Value} {K : Value → Prop} : PURE Tryz.prog (Instr.makeInterface 70 v) K = K (.iface 70 v) := PURE_eq fun _ => by kernel_rfl
theorem MKI_quiet {v : Value} {K : Value → Prop} : PURE Tryz.prog (Instr.makeInterface 78 v) K = K (.iface 78 v) := PURE_eq fun _ => by kernel_rfl

section
variable {w : World} {lo hi : Nat} {v : Value} {ls : List (List UInt8)}

theorem engine_Is (tag : Int) : RET Tryz.prog 17 [.int .i64 tag] w fun r w' => r = .bool (decide (0 ≤ tag ∧ tag ≤ 3)) ∧ w' = w := by
  refine RET_by fun R k => ?_
  apply by_engine_Is
  unfold sh_engine_Is
  by_cases h1 : 0 ≤ tag
  · by_cases h2 : tag < 4
    · simp (disch := omega) only [SX, Nat.reduceAdd, h1, h2]
      exact k _ _ ⟨by rw [decide_eq_true (by omega)], rfl⟩
    · simp (disch := omega) only [SX, Nat.reduceAdd, h1, h2]
      exact k _ _ ⟨by rw [decide_eq_false (by omega)], rfl⟩
  · simp (disch := omega) only [SX, Nat.reduceAdd, h1]
    exact k _ _ ⟨by rw [decide_eq_false (by omega)], rfl⟩

theorem engine_New (h : IsSet w lo hi v ls) (hlo : lo ≤ hi) (hhi : hi ≤ w.heap.size) (hl : ls.length ≤ 2 ^ 31) (hs : sumL ls + 1 ≤ 2 ^ 30) (tag : Int) : RET Tryz.prog 11 [.int .i64 tag, v] w fun r w' => Ext w w' ∧
    ((wrongM tag (ofM ls) (decide ([] ∈ ls)) ≠ 0 ∧ r = .tuple #[.pointer none, .int .i64 (wrongM tag (ofM ls) (decide ([] ∈ ls)))]) ∨ (wrongM tag (ofM ls) (decide ([] ∈ ls)) = 0 ∧ ∃ eb, r = .tuple #[.pointer (some ⟨eb, 0, none⟩), .int .i64 0] ∧ IsEng w' lo w'.heap.size eb tag (ofM ls) (decide ([] ∈ ls)))) := by
  have hof := ofM_len ls
  have hne := ofM_ne ls
  have hV := h.setV hl
  obtain ⟨sv, m, kvs, rfl, hsv, hm, hk, h5, h6⟩ := h.ex
  generalize ofM ls = ps at *
  generalize decide ([] ∈ ls) = e at *
  have hsvT := hsv.slT (by omega)
  obtain ⟨As, cs, rfl⟩ := hsvT.shape
  refine RET_by fun R k => ?_
  apply by_engine_New
  unfold sh_engine_New
  refine BOXA (cs := [.slice As ps.length cs, .map (some m), .bool e]) fun w1 o1 e1 z1 => ?_
  rw [LA_30 (cellsAt_whole o1 rfl)]
  refine CALL_of (patset_Patterns (hV.ext e1) (by omega)) ?_
  rintro pv w2 ⟨hpv, e2⟩
  have z2 := e2.size
  have hpT := hpv.slT (by omega)
  rw [LA_30 (cellsAt_whole (o1.ext e2) rfl)]
  simp (disch := omega) only [SX, Nat.reduceAdd]
  refine BOXA (cs := [.int .i64 tag, .slice As ps.length cs, .map (some m), .bool e, .nilIface]) fun w3 o3 e3 z3 => ?_
  have e03 : Ext w w3 := e1.trans (e2.trans e3)
  have fin : ∀ {w4 w5 : World} {sc : Value} {l2 : Nat}, Ext w3 w4 → ScanOK w4 l2 w4.heap.size tag ps sc → lo ≤ l2 → w2.heap.size < l2 → Own w5 w2.heap.size [.int .i64 tag, .slice As ps.length cs, .map (some m), .bool e, sc] 67 → Chg (fun k => k = w2.heap.size) w4 w5 → w5.heap.size = w4.heap.size →
      Ext w w5 ∧ IsEng w5 lo w5.heap.size w2.heap.size tag ps e := by
    intro w4 w5 sc l2 e4 hsc hl2 hl3 o5 c5 z5
    have z4 := e4.size
    refine ⟨(e03.trans e4).ext_of c5 fun j hj => by omega, ⟨_, _, _, lo, hi, l2, w4.heap.size, o5, (hsv.ext (e03.trans e4)).chg c5 fun i hi => by omega, hsc.chg c5 fun i hi => by omega, ⟨Nat.le_refl _, by omega⟩, ⟨hl2, by omega⟩, by omega, by omega⟩⟩
  by_cases h0 : tag = 0
  · subst h0
    simp (disch := omega) only [SX, Nat.reduceAdd]
    refine CALL_of (sparse_New (hpT.ext e3) (by omega)) ?_
    rintro v4 w4 ⟨e4, b, rfl, hb⟩
    simp (disch := omega) only [SX, Nat.reduceAdd, MKI_sparse]
    refine STORE SZ_65 (o3.ext e4) (by simp) rfl rfl fun w5 o5 c5 z5 => ?_
    have := fin e4 (.sparse _ _ hb) (by omega) (by omega) o5 c5 z5
    exact k _ _ ⟨this.1, .inr ⟨by simp [wrongM], _, rfl, this.2⟩⟩
  by_cases h1 : tag = 1
  · subst h1
    simp (disch := omega) only [SX, Nat.reduceAdd, h0]
    refine CALL_of (dfa_New (hpT.ext e3) (by omega)) ?_
    rintro v4 w4 ⟨e4, ⟨hbig, rfl⟩ | ⟨hbig, b, rfl, hb⟩⟩
    · have hw : wrongM 1 ps e = 14 := by simp [wrongM, hbig]
      simp (disch := omega) only [SX, Nat.reduceAdd, show ¬ (14 : Int) = 0 by decide]
      exact k _ _ ⟨e03.trans e4, .inl ⟨by rw [hw]; decide, by rw [hw]⟩⟩
    · have hw : wrongM 1 ps e = 0 := by simp [wrongM]; omega
      simp (disch := omega) only [SX, Nat.reduceAdd, MKI_dfa]
      refine STORE SZ_65 (o3.ext e4) (by simp) rfl rfl fun w5 o5 c5 z5 => ?_
      have := fin e4 (.dfa _ _ hb) (by omega) (by omega) o5 c5 z5
      exact k _ _ ⟨this.1, .inr ⟨hw, _, rfl, this.2⟩⟩
  by_cases h2 : tag = 2
  · subst h2
    simp (disch := omega) only [SX, Nat.reduceAdd, h0, h1]
    obtain ⟨Ap, cp, rfl⟩ := hpT.shape
    by_cases hgood : ps.length = 1 ∧ e = false
    · obtain ⟨hl1, rfl⟩ := hgood
      obtain ⟨l, rfl⟩ := List.length_eq_one_iff.1 hl1
      refine ⟨fun w4 => Ext w3 w4, ?_, ?_⟩
      · simp (disch := omega) only [SX, Nat.reduceAdd, List.length_singleton, Int.natCast_one]
        rw [LA_30 (cellsAt_whole (o1.ext (e2.trans e3)) rfl)]
        refine CALL_of (patset_Empty (hV.ext e03)) ?_
        rintro _ w4 ⟨rfl, e4⟩
        simp (disch := omega) only [SX, Nat.reduceAdd]
        exact e4
      · intro w4 e4
        obtain ⟨b0, o0, c0, u, hv, hcell, hu⟩ := (hpT.ext (e3.trans e4)).at (i := 0) (by simp)
        injection hv with hA _ hc
        subst hA hc
        rw [Nat.add_zero] at hcell
        simp (disch := omega) only [SX, Nat.reduceAdd, List.length_singleton, Int.toNat_zero, Nat.zero_mul, Nat.add_zero, LD_23 hcell]
        have hsum : l.length ≤ sumL [l] := by simp [sumL]
        refine CALL_of (twoway_New hu (hne l (by simp)) (by simp only [List.getElem_cons_zero]; omega)) ?_
        rintro v5 w5 ⟨⟨b, cut, per, small, rfl, hb⟩, e5⟩
        have z4 := e4.size
        simp (disch := omega) only [SX, Nat.reduceAdd, MKI_quiet]
        refine STORE SZ_65 (o3.ext (e4.trans e5)) (by simp) rfl rfl fun w6 o6 c6 z6 => ?_
        have := fin (e4.trans e5) (.two _ _ _ _ _ hb) (by omega) (by omega) o6 c6 z6
        exact k _ _ ⟨this.1, .inr ⟨by simp [wrongM], _, rfl, this.2⟩⟩
    · have hw : wrongM 2 ps e = 13 := by
        unfold wrongM
        rw [if_neg (by omega), if_pos]
        refine ⟨rfl, ?_⟩
        cases e
        · left; intro hh; exact hgood ⟨hh, rfl⟩
        · exact .inr rfl
      refine ⟨fun _ => False, ?_, fun _ hf => hf.elim⟩
      by_cases hl1 : ps.length = 1
      · have hl1' : ((ps.length : Nat) : Int) = 1 := by omega
        have he : e = true := by cases e; exact (hgood ⟨hl1, rfl⟩).elim; rfl
        simp (disch := omega) only [SX, Nat.reduceAdd, hl1']
        rw [LA_30 (cellsAt_whole (o1.ext (e2.trans e3)) rfl)]
        refine CALL_of (patset_Empty (hV.ext e03)) ?_
        rintro _ w4 ⟨rfl, e4⟩
        simp (disch := omega) only [SX, Nat.reduceAdd, he]
        exact k _ _ ⟨e03.trans e4, .inl ⟨by rw [hw]; decide, by rw [hw]⟩⟩
      · have hl1' : ¬ ((ps.length : Nat) : Int) = 1 := by omega
        simp (disch := omega) only [SX, Nat.reduceAdd, hl1']
        exact k _ _ ⟨e03, .inl ⟨by rw [hw]; decide, by rw [hw]⟩⟩
  by_cases h3 : tag = 3
  · subst h3
    simp (disch := omega) only [SX, Nat.reduceAdd, h0, h1, h2]
    refine CALL_of (cwalter_New (hpT.ext e3) (by omega) (by omega)) ?_
    rintro v4 w4 ⟨⟨b, rfl, hb⟩, e4⟩
    simp (disch := omega) only [SX, Nat.reduceAdd, MKI_quiet]
    refine STORE SZ_65 (o3.ext e4) (by simp) rfl rfl fun w5 o5 c5 z5 => ?_
    have := fin e4 (.walter _ _ hb) (by omega) (by omega) o5 c5 z5
    exact k _ _ ⟨this.1, .inr ⟨by simp [wrongM], _, rfl, this.2⟩⟩
  · have hw : wrongM tag ps e = 11 := by unfold wrongM; rw [if_pos (by omega)]
    simp (disch := omega) only [SX, Nat.reduceAdd, h0, h1, h2, h3]
    exact k _ _ ⟨e03, .inl ⟨by rw [hw]; decide, by rw [hw]⟩⟩
end
end Go.Proofs.YtgjfhmahiiokeaaGreat.Y
set_option linter.unusedVariables false
set_option linter.unusedSimpArgs false
set_option maxRecDepth 8000
namespace Go.Proofs.YtgjfhmahiiokeaaGreat.Y
open Go Go.Sx

/-! ### What the four ways find -/
theorem hit_some {ps : List (List UInt8)} {line : List UInt8} (p : Int × Int) : IsHit ps false line p ↔ IsOcc ps line p := by simp [IsHit]
theorem occ_nil (line : List UInt8) (p : Int × Int) : ¬ IsOcc [] line p := by rintro ⟨t, ht, _⟩; simp at ht

section
variable {w : World} {lo hi eb : Nat} {tag : Int} {ps : List (List UInt8)} {e : Bool} {o : Option Nat} {s l hu mo : Int}

theorem quiet_Scan {f b : FuncId} {lv mv : Value} {R : Value → World → Prop} (h : ∀ w1, Ext w w1 → RET Tryz.prog f [.pointer (some ⟨b, 0, none⟩), lv] w1 R) : RET Tryz.prog 137 [.agg #[.func (.func f) #[.pointer (some ⟨b, 0, none⟩)] #[]], mv, lv] w R := by
  refine RET_by fun R' k => ?_
  apply by_engine_quiet_Scan
  unfold sh_engine_quiet_Scan
  refine BOXA (cs := [.func (.func f) #[.pointer (some ⟨b, 0, none⟩)] #[]]) fun w1 o1 e1 z1 => ?_
  simp (disch := omega) only [SX, Nat.reduceAdd, LD_76 (o1.cell (i := 0) rfl)]
  exact CALLV_of (h w1 e1) k

theorem engine_Find {lv : Value} {line : List UInt8} (h : IsEng w lo hi eb tag ps e) (hlv : SlB w lv line) (hm : MeterAt hu mo w o s l) (hs : 0 ≤ s ∧ s ≤ 2 ^ 39) (hl : 0 ≤ l ∧ l ≤ 2 ^ 39) (ho : ∀ k, o = some k → k < lo ∨ hi ≤ k) (hob : ∀ k, o = some k → k < w.heap.size) (hhi : hi ≤ w.heap.size)
    (hps : ps.length ≤ 2 ^ 31) (hne : ∀ t ∈ ps, t ≠ []) (hsum : sumL ps + 1 ≤ 2048) (hlen : line.length ≤ 4096) :
    RET Tryz.prog 13 [.pointer (some ⟨eb, 0, none⟩), mV o, lv] w fun r w' => (∃ L, SlG pcells w' r L ∧ Rising L ∧ (∀ p, p ∈ L ↔ IsHit ps e line p) ∧ L.length ≤ 2 ^ 39) ∧ (∀ k, r.ownBlock = some k → w.heap.size ≤ k) ∧ MeterAt hu mo w' o (s + readM tag ps line) (l + lookM tag ps line) ∧ Chg (fun k => some k = o) w w' := by
  have hlv' := hlv
  have hlenv := hlv.len
  obtain ⟨Al, cl, rfl⟩ := hlv.shape
  obtain ⟨sv, m, sc, l1, h1, l2, h2, k1, k2, k3, k4, k5, k6, k7⟩ := h.ex
  have hsvT := k2.slT (by omega)
  obtain ⟨As, cs, rfl⟩ := hsvT.shape
  have hV : SetV w (.agg #[.slice As ps.length cs, .map (some m), .bool e]) ps e := ⟨_, _, rfl, hsvT⟩
  have hcells : cellsAt w eb 1 3 = some [.slice As ps.length cs, .map (some m), .bool e] := by
    have c1 := k1.cell (i := 1) rfl
    have c2 := k1.cell (i := 2) rfl
    have c3 := k1.cell (i := 3) rfl
    simp only [cellsAt]
    rw [c1, c2, c3]
  have hebb : eb < w.heap.size := by omega
  refine RET_by fun R k => ?_
  apply by_engine_Engine_Find
  unfold sh_engine_Engine_Find
  simp (disch := omega) only [SX, Nat.reduceAdd]
  refine ⟨fun out w1 => (∃ L, SlG pcells w1 out L ∧ Rising L ∧ (∀ p, p ∈ L ↔ IsOcc ps line p) ∧ L.length ≤ 2 ^ 38) ∧ (∀ k, out.ownBlock = some k → w.heap.size ≤ k) ∧ MeterAt hu mo w1 o (s + readM tag ps line) (l + lookM tag ps line) ∧ Chg (fun k => some k = o) w w1, ?_, ?_⟩
  · show RUN Tryz.prog (Instr.loadAt 30 (.pointer (some ⟨eb, 1, none⟩))) w _
    rw [LA_30 hcells]
    refine CALL_of (patset_Least hV (by omega)) ?_
    rintro _ w1 ⟨rfl, e1⟩
    by_cases hp : ps = []
    · subst hp
      have h0 : ¬ (0 : Int) < ((leastM [] : Nat) : Int) := by simp [leastM]
      simp (disch := omega) only [SX, Nat.reduceAdd, h0]
      refine ⟨⟨[], ⟨none, 0, rfl, .inl rfl, Nat.le_refl _, by simp⟩, List.Pairwise.nil, fun p => ⟨fun h => by simp at h, fun h => (occ_nil _ _ h).elim⟩, by simp⟩, by simp [Value.ownBlock], ?_, e1.chg⟩
      have : readM tag [] line = 0 ∧ lookM tag [] line = 0 := by simp [readM, lookM]
      rw [this.1, this.2, Int.add_zero, Int.add_zero]
      exact hm.ext e1
    · have h0 : (0 : Int) < ((leastM ps : Nat) : Int) := by have := (least_pos ps hne).2 hp; omega
      have htl := trie_len ps
      have hcs := (k1.ext e1).cell (i := 4) rfl
      have hlv1 := hlv.ext e1
      have hm1 := hm.ext e1
      have z1 := e1.size
      have hob1 : ∀ k, o = some k → k < w1.heap.size := fun k hk => by have := hob k hk; omega
      have ho2 : ∀ k, o = some k → k < l2 ∨ h2 ≤ k := fun k hk => by have := ho k hk; omega
      simp (disch := omega) only [SX, Nat.reduceAdd, h0, LD_65 hcs]
      have k3' := k3.chg (S := fun _ => False) e1.chg (fun _ x => x.elim)
      cases k3' with
      | sparse _ b hb =>
        refine CALLI_of (f := 122) (by kernel_rfl) (sparse_Scan hb hlv1 hm1 hs hl ho2 hob1 (by omega) (by omega)) ?_
        rintro v w2 ⟨⟨r, q1, q2, q3, q4⟩, q5, q6, q7⟩
        refine ⟨⟨r, q1, q2, fun p => by rw [q3, found_iff], by omega⟩, fun k hk => by have := q5 k hk; omega, ?_, e1.chg.then q7 (fun _ _ x => x) (fun _ _ x => x)⟩
        simpa [readM, lookM, hp] using q6
      | dfa _ b hb =>
        refine CALLI_of (f := 133) (by kernel_rfl) (dfa_Scan hb hlv1 hm1 (by omega) (by omega) ho2 (by omega) (by omega)) ?_
        rintro v w2 ⟨⟨r, q1, q2, q3, q4⟩, q5, q6, q7⟩
        refine ⟨⟨r, q1, q2, fun p => by rw [q3, found_iff], by omega⟩, fun k hk => by have := q5 k hk; omega, ?_, e1.chg.then q7 (fun _ _ x => x) (fun _ _ x => x)⟩
        simpa [readM, lookM, hp] using q6
      | two t b cut per small hb =>
        refine CALLI_of (f := 137) (by kernel_rfl) (quiet_Scan (f := 30) (b := b) (R := fun v w2 => SlG pcells w2 v (occs t line (line.length + 1)) ∧ (∀ k, v.ownBlock = some k → w1.heap.size ≤ k) ∧ Ext w1 w2) fun w2 e2 => ?_) ?_
        · refine (twoway_Scan (hb.ext e2) (hlv1.ext e2) (by omega)).mono ?_
          rintro v w3 ⟨q1, q2, q3⟩
          have := e2.size
          exact ⟨q1, fun k hk => by have := q2 k hk; omega, e2.trans q3⟩
        · rintro v w2 ⟨q1, q2, q3⟩
          have hol := occs_len (l := t) line (line.length + 1)
          refine ⟨⟨_, q1, occs_rising _ _, fun p => occs_mem (hne t (by simp)) p, by omega⟩, fun k hk => by have := q2 k hk; omega, ?_, e1.chg.then q3.chg (fun _ _ x => x) (fun _ _ x => x)⟩
          have : readM 2 [t] line = 0 ∧ lookM 2 [t] line = 0 := by simp [readM, lookM]
          rw [this.1, this.2, Int.add_zero, Int.add_zero]
          exact hm1.ext q3
      | walter _ b hb =>
        refine CALLI_of (f := 137) (by kernel_rfl) (quiet_Scan (f := 32) (b := b) (R := fun v w2 => (∃ L, SlG pcells w2 v L ∧ Rising L ∧ (∀ p, p ∈ L ↔ IsOcc ps line p) ∧ L.length ≤ 2 ^ 38) ∧ (∀ k, v.ownBlock = some k → w1.heap.size ≤ k) ∧ Ext w1 w2) fun w2 e2 => ?_) ?_
        · have htl' := trie_len (turnL ps)
          have hts := turn_sum ps
          refine (cwalter_ScanF (hb.ext e2) (hlv1.ext e2) (by omega) (by omega)).mono ?_
          rintro v w3 ⟨q1, q2, q3⟩
          have := e2.size
          exact ⟨q1, fun k hk => by have := q2 k hk; omega, e2.trans q3⟩
        · rintro v w2 ⟨q1, q2, q3⟩
          refine ⟨q1, fun k hk => by have := q2 k hk; omega, ?_, e1.chg.then q3.chg (fun _ _ x => x) (fun _ _ x => x)⟩
          have : readM 3 ps line = 0 ∧ lookM 3 ps line = 0 := by simp [readM, lookM]
          rw [this.1, this.2, Int.add_zero, Int.add_zero]
          exact hm1.ext q3
  · rintro out w1 ⟨⟨L, q1, q2, q3, q4⟩, q5, q6, q7⟩
    have z1 := q7.size
    have hk1 := k1.chg q7 (fun hS => by have := ho _ hS.symm; omega)
    have hV1 : SetV w1 (.agg #[.slice As ps.length cs, .map (some m), .bool e]) ps e := ⟨_, _, rfl, (k2.chg q7 (fun i hi => by have := ho _ hi.symm; omega)).slT (by omega)⟩
    have hcells1 : cellsAt w1 eb 1 3 = some [.slice As ps.length cs, .map (some m), .bool e] := by
      have c1 := hk1.cell (i := 1) rfl
      have c2 := hk1.cell (i := 2) rfl
      have c3 := hk1.cell (i := 3) rfl
      simp only [cellsAt]
      rw [c1, c2, c3]
    obtain ⟨Ao, co, rfl⟩ := q1.shape
    try simp (disch := omega) only [SX, Nat.reduceAdd]
    rw [LA_30 hcells1]
    refine CALL_of (patset_Empty hV1) ?_
    rintro _ w2 ⟨rfl, e2⟩
    cases e with
    | false =>
      simp (disch := omega) only [SX, Nat.reduceAdd]
      exact k _ _ ⟨⟨L, q1.ext e2, q2, fun p => by rw [q3, hit_some], by omega⟩, q5, q6.ext e2, q7.then e2.chg (fun _ _ x => x) (fun _ _ x => x)⟩
    | true =>
      simp (disch := omega) only [SX, Nat.reduceAdd]
      refine CALL_of (pairs_Empties line.length (by omega)) ?_
      rintro v3 w3 ⟨s3, f3, e3⟩
      have hel := emptL_len (line.length + 1)
      refine CALL_of (pairs_Merge (q1.ext (e2.trans e3)) s3 q4 (by omega)) ?_
      rintro v4 w4 ⟨⟨r, s4, i4, m4, l4⟩, f4, e4⟩
      have z2 := e2.size
      have z3 := e3.size
      refine k _ _ ⟨⟨r, s4, i4, fun p => ?_, by omega⟩, fun k hk => by have := f4 k hk; omega, q6.ext (e2.trans (e3.trans e4)), q7.then (e2.trans (e3.trans e4)).chg (fun _ _ x => x) (fun _ _ x => x)⟩
      rw [m4, q3]
      simp [IsHit]
end
end Go.Proofs.YtgjfhmahiiokeaaGreat.Y
