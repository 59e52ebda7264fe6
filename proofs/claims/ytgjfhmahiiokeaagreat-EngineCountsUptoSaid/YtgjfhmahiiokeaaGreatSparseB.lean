import Derived.Test.YtgjfhmahiiokeaaGreatSparse
import Derived.Test.YtgjfhmahiiokeaaGreatRefsP
set_option linter.unusedVariables false
set_option linter.unusedSimpArgs false
set_option linter.unusedVariables false
set_option linter.unusedSimpArgs false
set_option maxRecDepth 8000
namespace Go.Proofs.YtgjfhmahiiokeaaGreat.Y
open Go Go.Sx
variable {hu mo : Int}

/-! ### The automaton -/
structure IsSparse (w : World) (lo hi b : Nat) (ls : List (List UInt8)) : Prop where
  ex : ∃ tb lb m1 m2 rv Q, Own w b [.pointer (some ⟨tb, 0, none⟩), .pointer (some ⟨lb, 0, none⟩), rv] 96 ∧ IsTrie w lo m1 tb (trieM ls) ∧ IsLinks w m1 m2 lb (failL (trieM ls)) (outL (trieM ls)) (ownL (trieM ls)) Q ∧ w.ownsRow m2 100 3 rv ((trieM ls).length - 1) ((rowsM (trieM ls)).flatMap wcells) ∧
    (lo ≤ m1 ∧ m1 ≤ m2 ∧ m2 ≤ b ∧ b < hi ∧ hi ≤ w.heap.size) ∧ ∀ k, rv.ownBlock = some k → k < hi
theorem IsSparse.chg {S : Nat → Prop} {w w' : World} {lo hi b : Nat} {ls : List (List UInt8)} (h : IsSparse w lo hi b ls) (hc : Chg S w w') (hs : ∀ i, S i → i < lo ∨ hi ≤ i) : IsSparse w' lo hi b ls := by
  obtain ⟨tb, lb, m1, m2, rv, Q, h1, h2, h3, h4, ⟨a1, a2, a3, a4, a5⟩, h5⟩ := h.ex
  have nS : ∀ i, lo ≤ i → i < hi → ¬ S i := fun i h1 h2 hS => by have := hs i hS; omega
  have hz := hc.size
  exact ⟨tb, lb, m1, m2, rv, Q, h1.chg hc (nS _ (by omega) a4), h2.chg hc (fun i hi => by have := hs i hi; omega), h3.chg hc (fun i hi => by have := hs i hi; omega), row_chg h4 hc (fun k hk => nS _ (by have := row_base h4 k hk.symm; omega) (h5 k hk)), ⟨a1, a2, a3, a4, by omega⟩, h5⟩
theorem IsSparse.ext {w w' : World} {lo hi b : Nat} {ls : List (List UInt8)} (h : IsSparse w lo hi b ls) (hc : Ext w w') : IsSparse w' lo hi b ls := h.chg hc fun _ x => x.elim

section
variable {w : World} {lo hi b : Nat} {ls : List (List UInt8)} {o : Option Nat} {s l : Int}

theorem sparse_New {v0 : Value} (h : SlT w v0 ls) (hs : sumL ls + 1 ≤ 2 ^ 31) : RET Tryz.prog 27 [v0] w fun v w' => Ext w w' ∧ ∃ b, v = .pointer (some ⟨b, 0, none⟩) ∧ IsSparse w' w.heap.size w'.heap.size b ls := by
  have hT := trie_for ls
  have hTl := trie_len ls
  refine RET_by fun R k => ?_
  apply by_sparse_New
  unfold sh_sparse_New
  refine CALL_of (trie_Build h (by omega)) ?_
  rintro v w1 ⟨tb, rfl, ht, e1⟩
  refine CALL_of (links_Build ht hT.ok (Nat.le_refl _) (by omega)) ?_
  rintro v w2 ⟨lb, Q, rfl, hl, hq, e2⟩
  simp (disch := omega) only [SX, Nat.reduceAdd]
  refine BOXA fun w3 o3 e3 z3 => ?_
  have e03 := e1.trans (e2.trans e3)
  have ht3 := ht.ext (e2.trans e3)
  have hl3 := hl.ext e3
  have s1 := e1.size
  have s2 := e2.size
  generalize hTe : trieM ls = T at *
  have hpos := hT.ok.pos
  have hrl := rowsM_len T
  refine ⟨fun nv w4 => ∃ (n : Nat) (rv : Value), nv = .int .i64 n ∧ 1 ≤ n ∧ n ≤ T.length ∧ Own w4 w2.heap.size [.pointer (some ⟨tb, 0, none⟩), .pointer (some ⟨lb, 0, none⟩), rv] 96 ∧ w4.ownsRow w2.heap.size 100 3 rv (n - 1) (((rowsM T).take (n - 1)).flatMap wcells) ∧ Chg (fun i => w2.heap.size ≤ i) w3 w4, fun nv _ => T.length - vnat nv, ⟨1, _, rfl, Nat.le_refl _, hpos, o3, World.ownsRow_nil _ _ _ _, Chg.refl _ _⟩, ?_⟩
  rintro nv w4 ⟨n, rv, rfl, hn1, hn, o4, hr4, c4⟩
  have ht4 := ht3.chg c4 (fun i hi => by omega)
  have z4 := c4.size
  refine CALL_of (trie_Nodes ht4) ?_
  rintro v w5 ⟨rfl, rfl⟩
  by_cases hlt : n < T.length
  · have hlt' : (n : Int) < ((T.length : Nat) : Int) := by omega
    simp (disch := omega) only [SX, Nat.reduceAdd, hlt']
    refine CALL_of (trie_Path ht4 n) ?_
    rintro pv w6 ⟨hp, e6⟩
    have hnode : nodeM T (n : Int) = some T[n] := by rw [nodeM_in (by omega)]; simp
    have hpath := path_up hT.ok hnode (by omega)
    have hplen : (pathM T (n : Int)).length = (pathM T T[n].par).length + 1 := by rw [hpath]; simp
    obtain ⟨A', c', rfl⟩ := hp.shape
    obtain ⟨bp, op, cp, hv, hcp⟩ := hp.at (i := (pathM T T[n].par).length) (by omega)
    injection hv with hA _ hcc
    subst hA hcc
    have hlast : (pathM T (n : Int))[(pathM T T[n].par).length]'(by omega) = T[n].c := by simp [hpath]
    rw [hlast] at hcp
    have hidx : (((pathM T (n : Int)).length : Nat) : Int) - 1 = (((pathM T T[n].par).length : Nat) : Int) := by omega
    have o6 := o4.ext e6
    have hr6 := row_ext hr4 e6
    have hsmall : (pathM T (n : Int)).length ≤ 140737488355328 := hp.len
    refine ⟨KP (fun _ => False) w6, KP.refl _ _, ?_⟩
    simp (disch := omega) only [SX, Nat.reduceAdd, RK_94 (X := fun _ => False) (o6.cell (i := 2) rfl) (fun x => x) (KP.refl _ _), hidx, RK_5 (X := fun _ => False) hcp (fun x => x) (KP.refl _ _)]
    refine CALL_of (trie_Parent ((ht4.ext e6).ext (Ext.drew _)) n) ?_
    rintro v w7 ⟨rfl, rfl⟩
    refine KEEP (KP.refl _ _) ?_
    have hpar : parentM T (n : Int) = T[n].par := by unfold parentM; rw [hnode]; rfl
    rw [hpar]
    simp (disch := omega) only [SX, Nat.reduceAdd]
    refine BS_94_1 fun w8 o8 e8 z8 => ?_
    have e8 : Ext w6 w8 := e8.of_drew
    refine KEEP (KP.of_ext e8) ?_
    obtain ⟨Ar, cr, rfl, hcr⟩ := row_shape hr6
    have hr8 := row_ext hr6 e8
    have z6 := e6.size
    refine APPEND (by kernel_rfl) IN_100 rfl (by omega) hr8 (news := wcells (T[n].par, T[n].c, (n : Int))) (by simp [wcells]) (fun q u hq => by rw [addr_add]; exact o8.cell (by simpa [wcells] using hq)) (by simp [wcells, Value.oneCell']) (by omega) (by unfold maxLen; omega) (by omega) (by have := e8.size; omega) fun g cap w9 o9 c9 g9 => ?_
    try simp (disch := omega) only [SX, Nat.reduceAdd]
    have hb8 := o6.ext e8
    have hb9 := hb8.chg c9 (fun hk => row_ne hb8 hr8 hk.symm (by decide) rfl)
    refine STORE SZ_94 hb9 (by simp) rfl rfl fun w10 o10 c10 z10 => ?_
    try simp (disch := omega) only [SX, Nat.reduceAdd]
    refine ⟨⟨n + 1, _, by simp, by omega, by omega, o10, ?_, ?_⟩, by simp only [vnat_int]; omega⟩
    · have hrow : (rowsM T).take (n + 1 - 1) = (rowsM T).take (n - 1) ++ [(T[n].par, T[n].c, (n : Int))] := by
        have hn' : n - 1 < (rowsM T).length := by omega
        have hge : (rowsM T)[n - 1] = (T[n].par, T[n].c, (n : Int)) := by
          simp [rowsM, rowAt, show n - 1 + 1 = n by omega, List.getElem?_eq_getElem hlt]
          omega
        rw [show n + 1 - 1 = (n - 1) + 1 by omega, List.take_succ_eq_append_getElem hn', hge]
      rw [hrow, List.flatMap_append, show n + 1 - 1 = n - 1 + 1 by omega]
      have := row_chg o9 c10 (fun k hk hS => by
        have := row_ne hb9 o9 hk (by decide)
        omega)
      simpa [wcells] using this
    · refine (((c4.then (e6.chg (S := fun i => w2.heap.size ≤ i)) (fun _ _ x => x) (fun _ _ x => x)).then e8 (fun _ _ x => x) (fun _ _ x => x.elim)).then c9 (fun _ _ x => x) (fun q _ hq => row_base hr8 q hq)).then c10 (fun _ _ x => x) (fun q _ hq => by omega)
  · have hlt' : ¬ (n : Int) < ((T.length : Nat) : Int) := by omega
    obtain rfl : n = T.length := by omega
    simp (disch := omega) only [SX, Nat.reduceAdd, hlt']
    rw [List.take_of_length_le (by omega)] at hr4
    subst hTe
    refine k _ _ ⟨e03.ext_of c4 fun i hi => by omega, _, rfl, tb, lb, w1.heap.size, w2.heap.size, rv, Q, o4, ht4, hl3.chg c4 (fun i hi => by omega), hr4, ⟨by omega, by omega, Nat.le_refl _, by omega, Nat.le_refl _⟩, fun k hk => (hr4.lt k hk).2⟩

/-- One step, by a handle on the edges. -/
theorem sparse_step {tlo thi tb : Nat} (h : IsSparse w lo hi b ls) (ht : IsTable w tlo thi tb o (fun _ => True) (fun s c => (lookE (ents 1 (trieM ls).tail) s c.toNat).getD (-1))) (hm : MeterAt hu mo w o s l) (hl : 0 ≤ l ∧ l ≤ 2 ^ 40) (ho : ∀ k, o = some k → k < tlo ∨ thi ≤ k) (ho' : ∀ k, o = some k → k < lo ∨ hi ≤ k) (hbig : (trieM ls).length ≤ 2 ^ 20) (st : Int) (c : UInt8) (hst : 0 ≤ st ∧ st < (trieM ls).length) :
    RET Tryz.prog 127 [.pointer (some ⟨b, 0, none⟩), .pointer (some ⟨tb, 0, none⟩), .int .i64 st, .int .u8 c.toNat] w fun v w' => v = .int .i64 (deltaM (trieM ls) st c) ∧ MeterAt hu mo w' o s (l + (looksM (trieM ls) st c : Nat)) ∧ Chg (fun k => some k = o) w w' := by
  have hT := (trie_for ls).ok
  refine RET_by fun R k => ?_
  apply by_sparse_Automaton_step
  unfold sh_sparse_Automaton_step
  refine ⟨fun sv w1 => ∃ (x : Int) (n : Nat), sv = .int .i64 x ∧ 0 ≤ x ∧ x < (trieM ls).length ∧ deltaM (trieM ls) x c = deltaM (trieM ls) st c ∧ n + looksM (trieM ls) x c = looksM (trieM ls) st c ∧ n + depM (trieM ls) x ≤ depM (trieM ls) st ∧ MeterAt hu mo w1 o s (l + n) ∧ Chg (fun k => some k = o) w w1,
    fun sv _ => match sv with | .int _ x => depM (trieM ls) x | _ => 0, ⟨st, 0, rfl, hst.1, hst.2, rfl, by omega, by omega, by simpa using hm, Chg.refl _ _⟩, ?_⟩
  rintro sv w1 ⟨x, n, rfl, hx0, hx1, hd, hn, hnd, hm1, c1⟩
  have ht1 := ht.chg c1 (fun i hi => ho i hi.symm)
  have h1 := h.chg c1 (fun i hi => ho' i hi.symm)
  obtain ⟨tb', lb, m1, m2, rv, Q, g1, g2, g3, g4, ga, g5⟩ := h1.ex
  have hdep : depM (trieM ls) st ≤ 2 ^ 20 := by
    have := depM_le g2 hT st
    omega
  refine CALL_of (table_Look ht1 hm1 (by omega) ho x c trivial) ?_
  rintro v w2 ⟨rfl, hm2, c2⟩
  have hstep : (lookE (ents 1 (trieM ls).tail) x c.toNat).getD (-1) = stepM (trieM ls) x c := by
    unfold stepM
    rw [if_pos ⟨hx0, hx1⟩]
  rw [hstep]
  have hls := looksM_step hT c hx0 hx1
  have hds := delta_step hT hx0 hx1 c
  have c12 := c1.then c2 (fun _ _ x => x) (fun _ _ x => x)
  refine ⟨fun bv w3 => bv = .bool (decide (stepM (trieM ls) x c < 0 ∧ 0 < x)) ∧ w3 = w2, ?_, ?_⟩
  · by_cases hs : stepM (trieM ls) x c < 0
    · simp (disch := omega) only [SX, Nat.reduceAdd, hs]
      refine ⟨?_, by trivial⟩
      simp [hs]
    · simp (disch := omega) only [SX, Nat.reduceAdd, hs]
      refine ⟨?_, by trivial⟩
      simp [hs]
  · rintro bv w3 ⟨rfl, rfl⟩
    by_cases hs : stepM (trieM ls) x c < 0 ∧ 0 < x
    · rw [if_neg (by omega), if_neg (by omega)] at hls hds
      have h3 := h1.chg c2 (fun i hi => ho' i hi.symm)
      obtain ⟨tb3, lb3, m13, m23, rv3, Q3, k1, k2, k3, k4, ka, k5⟩ := h3.ex
      simp (disch := omega) only [SX, Nat.reduceAdd, hs, and_self, LD_92 (k1.cell (i := 1) rfl)]
      refine CALL_of (links_Fail k3 x) ?_
      rintro v w4 ⟨rfl, rfl⟩
      rw [failL_get hx0 hx1]
      have hf := failM_dep hT hs.2 hx1
      have hfi := failM_in hT x
      have hfl := failM_lo hT (x := x) (by omega)
      refine ⟨⟨_, n + 1, rfl, hfl, hfi.2, by rw [← hds, hd], by omega, by omega, ?_, c12⟩, hf⟩
      have e : l + (n : Int) + 1 = l + ((n + 1 : Nat) : Int) := by omega
      rw [← e]
      exact hm2
    · simp (disch := omega) only [SX, Nat.reduceAdd, hs]
      have hlo := stepM_lo (trieM ls) x c
      have hmax : max (stepM (trieM ls) x c) 0 = deltaM (trieM ls) x c := by
        rw [hds]
        split
        · omega
        · rw [if_pos (by omega)]; omega
      have hone : looksM (trieM ls) x c = 1 := by
        rw [hls]
        split
        · rfl
        · rw [if_pos (by omega)]
      rw [hmax, hd]
      refine k _ _ ⟨rfl, ?_, c12⟩
      rw [← hn, hone]
      have e : l + (n : Int) + 1 = l + ((n + 1 : Nat) : Int) := by omega
      rw [← e]
      exact hm2

theorem sparse_rows (h : IsSparse w lo hi b ls) (hbig : (trieM ls).length ≤ 2 ^ 20) : ∃ A c, w.cell? ⟨b, 2, none⟩ = some (.slice A ((trieM ls).length - 1) c) ∧ SlG wcells w (.slice A ((trieM ls).length - 1) c) (rowsM (trieM ls)) := by
  obtain ⟨tb, lb, m1, m2, rv, Q, h1, h2, h3, h4, _, h5⟩ := h.ex
  obtain ⟨A, c, rfl, hc⟩ := row_shape h4
  exact ⟨A, c, h1.cell rfl, (SlG.of_row wcells_len (by omega) h4 (by rw [rowsM_len]; omega)).1⟩

theorem sparse_Scan {lv : Value} {line : List UInt8} (h : IsSparse w lo hi b ls) (hlv : SlB w lv line) (hm : MeterAt hu mo w o s l) (hs : 0 ≤ s ∧ s ≤ 2 ^ 39) (hl : 0 ≤ l ∧ l ≤ 2 ^ 39) (ho : ∀ k, o = some k → k < lo ∨ hi ≤ k) (hob : ∀ k, o = some k → k < w.heap.size) (hbig : (trieM ls).length ≤ 2048) (hlen : line.length ≤ 2 ^ 20) :
    RET Tryz.prog 122 [.pointer (some ⟨b, 0, none⟩), mV o, lv] w fun v w' => (∃ r, SlG pcells w' v r ∧ Rising r ∧ (∀ p, p ∈ r ↔ p ∈ foundM (trieM ls) line line.length) ∧ r.length ≤ 2048 * line.length) ∧ (∀ k, v.ownBlock = some k → w.heap.size ≤ k) ∧ MeterAt hu mo w' o (s + line.length) (l + (looksL (trieM ls) line line.length : Nat)) ∧ Chg (fun k => some k = o) w w' := by
  have hT := trie_for ls
  refine RET_by fun R k => ?_
  apply by_sparse_Automaton_Scan
  unfold sh_sparse_Automaton_Scan
  obtain ⟨A, cc, hcell, hrows⟩ := sparse_rows h (by omega)
  simp (disch := omega) only [SX, Nat.reduceAdd]
  refine ⟨KP (fun _ => False) w, KP.refl _ _, ?_⟩
  try simp (disch := omega) only [SX, Nat.reduceAdd, RK_94 (X := fun _ => False) hcell (fun x => x) (KP.refl _ _)]
  refine CALL_of (meter_Text (hlv.ext (Ext.drew _))) ?_
  rintro v w1 ⟨tx, rfl, htx, e1⟩
  have e1 : Ext w w1 := (Ext.drew _).trans e1
  have htx : IsText w1 w.heap.size w1.heap.size tx o line := htx
  refine KEEP (KP.of_ext e1) ?_
  refine CALL_of (meter_Sparse (o := o) (hrows.ext e1)) ?_
  rintro v w4 ⟨tbl, rfl, htb, e2⟩
  rw [rows_ents hT.ok] at htb
  have e04 := e1.trans e2
  have htx4 := htx.ext e2
  refine CALL_of (text_Len htx4) ?_
  rintro v w4 ⟨rfl, rfl⟩
  have z1 := e1.size
  have z4 := e2.size
  obtain ⟨_, _, m1, _, _, _, _, ht0, _⟩ := (h.ext e04).ex
  have hdep := depM_le ht0 hT.ok
  refine ⟨fun out at' iv w5 => ∃ (i m : Nat), iv = .int .i64 i ∧ at' = .int .i64 (lsn (trieM ls) (line.take i)) ∧ i ≤ line.length ∧ w5.ownsRow w4.heap.size 57 2 out m ((foundM (trieM ls) line i).flatMap pcells) ∧ m ≤ 2048 * i ∧ MeterAt hu mo w5 o (s + i) (l + (looksL (trieM ls) line i : Nat)) ∧ Chg (fun k => some k = o) w4 w5,
    fun _ _ iv _ => line.length - vnat iv, ⟨0, 0, rfl, by simp [lsn], Nat.zero_le _, World.ownsRow_nil _ _ _ _, Nat.zero_le _, by simpa [looksL] using hm.ext e04, Chg.refl _ _⟩, ?_⟩
  rintro out at' iv w5 ⟨i, m, rfl, rfl, hi', hr, hmi, hm5, c5⟩
  have hlb := looksL_bound hT.ok line i hi'
  have h5 := (h.ext e04).chg c5 (fun k hk => ho k hk.symm)
  have htx5 := htx4.chg c5 (fun k hk => .inl (hob k hk.symm))
  have htb5 := htb.chg c5 (fun k hk => .inl (by have := hob k hk.symm; omega))
  have hcom : ∀ k, o = some k → k < w4.heap.size := fun k hk => by have := hob k hk; omega
  obtain ⟨Ao, co, rfl, hco⟩ := row_shape hr
  by_cases hlt : i < line.length
  · have hlt' : (i : Int) < (line.length : Int) := by omega
    simp (disch := omega) only [SX, Nat.reduceAdd, hlt']
    refine CALL_of (text_At htx5 hm5 (by omega) (fun k hk => .inl (hob k hk)) hlt) ?_
    rintro v w6 ⟨rfl, hm6, c6⟩
    have hby := line[i].toNat_lt
    have hw8 : IntKind.u8.wrap ((line[i].toNat : Nat) : Int) = ((line[i].toNat : Nat) : Int) := wu8 (by omega) (by omega)
    simp (disch := omega) only [SX, Nat.reduceAdd, hw8]
    have hin := lsn_in hT.ok.pos (line.take i)
    refine CALL_of (sparse_step (h5.chg c6 (fun k hk => ho k hk.symm)) (htb5.chg c6 (fun k hk => .inl (by have := hob k hk.symm; omega))) hm6 (by omega) (fun k hk => .inl (by have := hob k hk; omega)) ho (by omega) _ line[i] hin) ?_
    rintro v w7 ⟨rfl, hm7, c7⟩
    have hst : deltaM (trieM ls) (lsn (trieM ls) (line.take i)) line[i] = lsn (trieM ls) (line.take (i + 1)) := by
      unfold deltaM
      rw [lsn_path hT.ok, List.take_succ_eq_append_getElem hlt]
    rw [hst]
    have hin2 := lsn_in hT.ok.pos (line.take (i + 1))
    have h7 := (h5.chg c6 (fun k hk => ho k hk.symm)).chg c7 (fun k hk => ho k hk.symm)
    obtain ⟨tb7, lb7, _, _, rv7, _, q1, _, hlk7, _⟩ := h7.ex
    simp (disch := omega) only [SX, Nat.reduceAdd, LD_92 (q1.cell (i := 1) rfl)]
    refine CALL_of (links_Ends hlk7 hT.ok (by simp [failL]) (fun j hj => by simp [outL, hj]) (fun j hj => by simp [ownL, hj]) (fun x => by have := hdep x; omega) (lsn (trieM ls) (line.take (i + 1)))) ?_
    rintro ev w8 ⟨hev, e8⟩
    rw [if_pos hin2, endsL_lsn hT.ok] at hev
    have hmem := endsL_mem hT.ok (line.take (i + 1))
    generalize hE : endsL (trieM ls) (line.take (i + 1)) = L at *
    have hel : L.length ≤ 2048 := by
      rw [← hE, ← endsL_lsn hT.ok]
      have := endsL_len (T := trieM ls) (pathM (trieM ls) (lsn (trieM ls) (line.take (i + 1))))
      have := hdep (lsn (trieM ls) (line.take (i + 1)))
      unfold depM at this
      omega
    have hhits : hitsM (trieM ls) line (i + 1) = L.map fun n => (((i + 1 : Nat) : Int) - n, ((i + 1 : Nat) : Int)) := by unfold hitsM; rw [hE]
    have hnr : ∀ k, (Value.slice Ao m co).ownBlock = some k → ¬ some k = o := fun k hk he => by have := row_base hr k hk.symm; have := hcom k he.symm; omega
    have hr8 := row_ext (row_chg (row_chg hr c6 hnr) c7 hnr) e8
    obtain ⟨Ae, ce, rfl, _⟩ := row_shape hev
    simp (disch := omega) only [SX, Nat.reduceAdd]
    have z8 : w4.heap.size ≤ w8.heap.size := by have := c5.size; have := c6.size; have := c7.size; have := e8.size; omega
    refine ⟨fun out' jv w9 => ∃ (j : Nat) (m' : Nat), jv = .int .i64 j ∧ j ≤ L.length ∧ w9.ownsRow w4.heap.size 57 2 out' m' ((foundM (trieM ls) line i ++ (hitsM (trieM ls) line (i + 1)).take j).flatMap pcells) ∧ m' ≤ m + j ∧ w9.ownsRow w7.heap.size 3 1 (.slice Ae L.length ce) L.length (L.map vI) ∧ Chg (fun k => w4.heap.size ≤ k) w8 w9,
      fun _ jv _ => L.length - vnat jv, ⟨0, m, rfl, Nat.zero_le _, by simpa using hr8, by omega, hev, Chg.refl _ _⟩, ?_⟩
    rintro out' jv w9 ⟨j, m', rfl, hj, hr9, hm9, hev9, c9⟩
    obtain ⟨Ao', co', rfl, _⟩ := row_shape hr9
    have hevI := (SlI.of_row hev9 (by omega)).1
    by_cases hjl : j < L.length
    · have hjl' : (j : Int) < (L.length : Int) := by omega
      obtain ⟨be, oe, ce', hv, hcell⟩ := hevI.at hjl
      injection hv with hA _ hc
      subst hA hc
      have hx := hmem L[j] (List.getElem_mem hjl)
      rw [List.length_take] at hx
      simp (disch := omega) only [SX, Nat.reduceAdd, hjl', LD_3 hcell]
      refine BS_37_1 fun w10 o10 e10 z10 => ?_
      have hr10 := row_ext hr9 e10
      have z9 := c9.size
      refine APPEND (by kernel_rfl) IN_57 rfl (by omega) hr10 (news := [.int .i64 ((i : Int) + 1 - L[j]), .int .i64 ((i : Int) + 1)]) rfl (fun q u hq => by rw [addr_add]; exact o10.cell (by simpa using hq)) (by simp [Value.oneCell']) (by omega) (by unfold maxLen; omega) (by omega) (by have := e10.size; omega) fun g cap w11 o11 c11 g11 => ?_
      try simp (disch := omega) only [SX, Nat.reduceAdd]
      have nrow : ∀ k, (Value.slice (some ⟨be, oe, none⟩) L.length ce).ownBlock = some k → ¬ some k = (Value.slice Ao' m' co').ownBlock := fun k hk hk2 => rows_ne hev9 hr9 hk hk2.symm (by decide) rfl
      refine ⟨⟨j + 1, m' + 1, by simp, by omega, ?_, by omega, row_chg (row_ext hev9 e10) c11 nrow, (c9.then (e10.chg (S := fun k => w4.heap.size ≤ k)) (fun _ _ x => x) (fun _ _ x => x)).then c11 (fun _ _ x => x) (fun q _ hq => row_base hr10 q hq)⟩, by simp only [vnat_int]; omega⟩
      have htk : (hitsM (trieM ls) line (i + 1)).take (j + 1) = (hitsM (trieM ls) line (i + 1)).take j ++ [((i : Int) + 1 - L[j], (i : Int) + 1)] := by
        rw [hhits, List.take_succ_eq_append_getElem (by simpa using hjl)]
        simp
      rw [htk, ← List.append_assoc, List.flatMap_append]
      simpa [pcells] using o11
    · have hjl' : ¬ (j : Int) < (L.length : Int) := by omega
      obtain rfl : j = L.length := by omega
      simp (disch := omega) only [SX, Nat.reduceAdd, hjl']
      have hfull : (hitsM (trieM ls) line (i + 1)).take L.length = hitsM (trieM ls) line (i + 1) := by
        rw [List.take_of_length_le]; rw [hhits, List.length_map]; exact Nat.le_refl _
      rw [hfull, ← foundM_succ] at hr9
      have c49 : Chg (fun k => some k = o) w4 w9 := (((c5.then c6 (fun _ _ x => x) (fun _ _ x => x)).then c7 (fun _ _ x => x) (fun _ _ x => x)).then (e8.chg (S := fun k => some k = o)) (fun _ _ x => x) (fun _ _ x => x)).then c9 (fun _ _ x => x) (fun q hq x => by omega)
      refine ⟨⟨i + 1, m', by simp, by trivial, by omega, hr9, by omega, ?_, c49⟩, by simp only [vnat_int]; omega⟩
      have hmm := (hm7.ext e8).chg c9 (fun k hk x => by have := hcom k hk; omega)
      have hg : line.getD i 0 = line[i] := by simp [List.getD, List.getElem?_eq_getElem hlt]
      have e1' : s + (i : Int) + 1 = s + ((i + 1 : Nat) : Int) := by omega
      have e2' : l + (looksL (trieM ls) line i : Nat) + (looksM (trieM ls) (lsn (trieM ls) (line.take i)) line[i] : Nat) = l + (looksL (trieM ls) line (i + 1) : Nat) := by
        simp only [looksL, hg]
        omega
      rw [e1', e2'] at hmm
      exact hmm
  · have hlt' : ¬ (i : Int) < (line.length : Int) := by omega
    obtain rfl : i = line.length := by omega
    simp (disch := omega) only [SX, Nat.reduceAdd, hlt']
    have hmf : m = (foundM (trieM ls) line line.length).length := by have := hr.1; rw [flatMap_len pcells_len] at this; omega
    refine CALL_of (pairs_Sort (foundM (trieM ls) line line.length).length (SlG.of_row pcells_len (by omega) hr (by omega)).1 (Nat.le_refl _) (by omega)) ?_
    rintro v w6 ⟨r, hr6, g6, mem6, l6, f6, e6⟩
    have z5 := c5.size
    refine k _ _ ⟨⟨r, hr6, g6, mem6, by omega⟩, fun k hk => by have := f6 k hk; omega, hm5.ext e6, ?_⟩
    exact ((e04.chg (S := fun k => some k = o)).then c5 (fun _ _ x => x) (fun _ _ x => x)).then e6 (fun _ _ x => x) (fun _ _ x => x.elim)
end
end Go.Proofs.YtgjfhmahiiokeaaGreat.Y
