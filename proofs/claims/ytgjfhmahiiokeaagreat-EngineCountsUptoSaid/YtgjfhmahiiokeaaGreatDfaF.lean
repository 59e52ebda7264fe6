import Derived.Test.YtgjfhmahiiokeaaGreatDfaE
import Derived.Test.YtgjfhmahiiokeaaGreatMeterB
import Derived.Test.YtgjfhmahiiokeaaGreatPairs
set_option linter.unusedVariables false
set_option linter.unusedSimpArgs false
set_option linter.unusedVariables false
set_option linter.unusedSimpArgs false
set_option maxRecDepth 8000
namespace Go.Proofs.YtgjfhmahiiokeaaGreat.Y
open Go Go.Sx
variable {hu mo : Int}

/-! ### What is found -/
theorem endsL_mem {T : List TN} (h : TreeOK T) : ∀ (p : List UInt8) (x : Int), x ∈ endsL T p → 0 < x ∧ x ≤ p.length := by
  intro p
  induction p with
  | nil => intro x hx; simp [endsL] at hx
  | cons c r ih =>
    intro x hx
    have key : 0 < ownM T (findM T (c :: r)) → ownM T (findM T (c :: r)) ≤ (c :: r).length := by
      intro h0
      have hp : 0 ≤ findM T (c :: r) := by
        by_cases hh : 0 ≤ findM T (c :: r)
        · exact hh
        · rw [ownM_neg (by omega)] at h0; omega
      unfold ownM
      split
      · unfold depM; rw [path_find h _ hp]; exact Int.le_refl _
      · simp only [List.length_cons]; omega
    simp only [endsL] at hx
    split at hx
    · rename_i h0
      rcases List.mem_cons.1 hx with rfl | hx
      · exact ⟨h0, key h0⟩
      · have := ih x hx; simp only [List.length_cons]; omega
    · have := ih x hx; simp only [List.length_cons]; omega
theorem endsL_len {T : List TN} (p : List UInt8) : (endsL T p).length ≤ p.length := by
  induction p with
  | nil => simp [endsL]
  | cons c r ih =>
    simp only [endsL]
    split <;> simp <;> omega

def hitsM (T : List TN) (line : List UInt8) (i : Nat) : List (Int × Int) := (endsL T (line.take i)).map fun n => ((i : Int) - n, (i : Int))
def foundM (T : List TN) (line : List UInt8) (k : Nat) : List (Int × Int) := (List.range k).flatMap fun i => hitsM T line (i + 1)

theorem foundM_succ (T : List TN) (line : List UInt8) (k : Nat) : foundM T line (k + 1) = foundM T line k ++ hitsM T line (k + 1) := by
  simp [foundM, List.range_succ]

section
variable {w : World} {lo hi b : Nat} {ls : List (List UInt8)} {o : Option Nat} {s l : Int}

theorem depM_le {T : List TN} {lo hi b : Nat} (ht : IsTrie w lo hi b T) (hT : TreeOK T) (x : Int) : depM T x ≤ T.length := by
  by_cases hx : 0 ≤ x ∧ x < T.length
  · have h1 := nodeM_in hx
    have := depM_node hT x.toNat x _ h1 (by omega)
    have := ht.deps _ (List.getElem_mem (show x.toNat < T.length by omega))
    omega
  · unfold depM pathM
    rw [up_stop (fun y hy => by rw [nodeM_none hx] at hy; cases hy)]
    simp

theorem dfa_Scan {lv : Value} {line : List UInt8} (h : IsDfa w lo hi b ls) (hlv : SlB w lv line) (hm : MeterAt hu mo w o s l) (hs : 0 ≤ s ∧ s ≤ 2 ^ 40) (hl : 0 ≤ l ∧ l ≤ 2 ^ 40) (ho : ∀ k, o = some k → k < lo ∨ hi ≤ k) (hhi : hi ≤ w.heap.size) (hlen : line.length ≤ 2 ^ 20) :
    RET Tryz.prog 133 [.pointer (some ⟨b, 0, none⟩), mV o, lv] w fun v w' => (∃ r, SlG pcells w' v r ∧ Rising r ∧ (∀ p, p ∈ r ↔ p ∈ foundM (trieM ls) line line.length) ∧ r.length ≤ 160 * line.length) ∧ (∀ k, v.ownBlock = some k → w.heap.size ≤ k) ∧ MeterAt hu mo w' o (s + line.length) (l + line.length) ∧ Chg (fun k => some k = o) w w' := by
  have hT := trie_for ls
  refine RET_by fun R k => ?_
  apply by_dfa_DFA_Scan
  unfold sh_dfa_DFA_Scan
  obtain ⟨N, hN, hrow⟩ := id h
  have hfew := hN.few
  have hNl := hN.len
  have hwide := wide_le (inT ls)
  have hbig : N.length ≤ 160 * 257 := by rw [hNl]; exact Nat.mul_le_mul hfew hwide.2
  obtain ⟨tb, lb, nb, m1, m2, Q, c0, c1, c2, c3, ht, hlk, hq, hON, hbl, hn1, hn2, _⟩ := hN.cells
  have hmb : ∀ k, o = some k → k < w.heap.size := fun k hk => (hm k hk).lt
  simp (disch := omega) only [SX, Nat.reduceAdd]
  refine ⟨KP (fun _ => False) w, KP.refl _ _, ?_⟩
  refine (RKA_103 (X := fun _ => False) c2 hbl (fun x => x) (KP.refl _ _)).mpr ?_
  try simp (disch := omega) only [SX, Nat.reduceAdd]
  refine (RKA_103 (X := fun _ => False) c2 hbl (fun x => x) (KP.refl _ _)).mpr ?_
  try simp (disch := omega) only [SX, Nat.reduceAdd, RK_105 (X := fun _ => False) c3 (fun x => x) (KP.refl _ _)]
  refine CALL_of (meter_Text (hlv.ext (Ext.drew _))) ?_
  rintro v w1 ⟨tx, rfl, htx, e1⟩
  have e1 : Ext w w1 := (Ext.drew _).trans e1
  have htx : IsText w1 w.heap.size w1.heap.size tx o line := htx
  refine KEEP (KP.of_ext e1) ?_
  refine CALL_of (classes_Table (inT ls)) ?_
  rintro v w2 ⟨rfl, e2⟩
  refine KEEP (KP.of_ext (e1.trans e2)) ?_
  refine CALL_of (classes_Len (inT ls)) ?_
  rintro v w3 ⟨rfl, e3⟩
  refine KEEP (KP.of_ext (e1.trans (e2.trans e3))) ?_
  have e03 := e1.trans (e2.trans e3)
  have hnx : SlI w3 (.slice (some ⟨nb, 0, none⟩) N.length N.length) N := ⟨_, _, rfl, Rd.own (hON.ext e03) 0 (fun i v hv => by simpa using hv), Nat.le_refl _, by omega⟩
  refine CALL_of (meter_Dense (W := wideN (inT ls)) (n := (trieM ls).length) hnx hNl (by omega) (deltaM (trieM ls)) (fun c => clsN (inT ls) c.toNat) (fun st c h0 h1 => ⟨?_, cls_lt _ c, ?_⟩)) ?_
  · rw [List.getElem?_take, if_pos c.toNat_lt]
    exact cls_get _ c.toNat_lt
  · have := hrow st.toNat (by omega) c
    rw [show ((st.toNat : Nat) : Int) = st by omega] at this
    exact this
  rintro v w4 ⟨tbl, rfl, htb, e4⟩
  have e04 := e03.trans e4
  have htx4 := htx.ext ((e2.trans e3).trans e4)
  refine CALL_of (text_Len htx4) ?_
  rintro v w4 ⟨rfl, rfl⟩
  have z1 := e1.size
  have z3 := (e2.trans e3).size
  have z4 := e4.size
  have hdep := depM_le ht hT.ok
  refine ⟨fun out at' iv w5 => ∃ (i m : Nat), iv = .int .i64 i ∧ at' = .int .i64 (lsn (trieM ls) (line.take i)) ∧ i ≤ line.length ∧ w5.ownsRow w4.heap.size 57 2 out m ((foundM (trieM ls) line i).flatMap pcells) ∧ m ≤ 160 * i ∧ MeterAt hu mo w5 o (s + i) (l + i) ∧ Chg (fun k => some k = o) w4 w5,
    fun _ _ iv _ => line.length - vnat iv, ⟨0, 0, rfl, by simp [lsn], Nat.zero_le _, World.ownsRow_nil _ _ _ _, Nat.zero_le _, by simpa using hm.ext e04, Chg.refl _ _⟩, ?_⟩
  rintro out at' iv w5 ⟨i, m, rfl, rfl, hi', hr, hmi, hm5, c5⟩
  have h5 := (h.ext e04).chg c5 (fun k hk => ho k hk.symm)
  have htx5 := htx4.chg c5 (fun k hk => .inl (hmb k hk.symm))
  have htb5 := htb.chg c5 (fun k hk => .inl (by have := hmb k hk.symm; omega))
  have hcom : ∀ k, o = some k → k < w4.heap.size := fun k hk => by have := hmb k hk; omega
  obtain ⟨Ao, co, rfl, hco⟩ := row_shape hr
  by_cases hlt : i < line.length
  · have hlt' : (i : Int) < (line.length : Int) := by omega
    simp (disch := omega) only [SX, Nat.reduceAdd, hlt']
    refine CALL_of (text_At htx5 hm5 (by omega) (fun k hk => .inl (hmb k hk)) hlt) ?_
    rintro v w6 ⟨rfl, hm6, c6⟩
    have hby := line[i].toNat_lt
    have hw8 : IntKind.u8.wrap ((line[i].toNat : Nat) : Int) = ((line[i].toNat : Nat) : Int) := wu8 (by omega) (by omega)
    simp (disch := omega) only [SX, Nat.reduceAdd, hw8]
    have hin := lsn_in hT.ok.pos (line.take i)
    refine CALL_of (table_Look (htb5.chg c6 (fun k hk => .inl (by have := hmb k hk.symm; omega))) hm6 (by omega) (fun k hk => .inl (by have := hmb k hk; omega)) _ line[i] hin) ?_
    rintro v w7 ⟨rfl, hm7, c7⟩
    have hst : deltaM (trieM ls) (lsn (trieM ls) (line.take i)) line[i] = lsn (trieM ls) (line.take (i + 1)) := by
      unfold deltaM
      rw [lsn_path hT.ok, List.take_succ_eq_append_getElem hlt]
    rw [hst]
    have hin2 := lsn_in hT.ok.pos (line.take (i + 1))
    have h7 := (h5.chg c6 (fun k hk => ho k hk.symm)).chg c7 (fun k hk => ho k hk.symm)
    obtain ⟨N7, hN7, _⟩ := id h7
    obtain ⟨tb7, lb7, _, _, _, _, _, d1, _, _, _, hlk7, _⟩ := hN7.cells
    simp (disch := omega) only [SX, Nat.reduceAdd, LD_92 d1]
    have hget : ∀ (f : Int → Int) (g : List TN → List Int), True := fun _ _ => trivial
    refine CALL_of (links_Ends hlk7 hT.ok (by simp [failL]) (fun j hj => by simp [outL, hj]) (fun j hj => by simp [ownL, hj]) (fun x => by have := hdep x; omega) (lsn (trieM ls) (line.take (i + 1)))) ?_
    rintro ev w8 ⟨hev, e8⟩
    rw [if_pos hin2, endsL_lsn hT.ok] at hev
    have hmem := endsL_mem hT.ok (line.take (i + 1))
    generalize hE : endsL (trieM ls) (line.take (i + 1)) = L at *
    have hel : L.length ≤ 160 := by
      rw [← hE, ← endsL_lsn hT.ok]
      have := endsL_len (T := trieM ls) (pathM (trieM ls) (lsn (trieM ls) (line.take (i + 1))))
      have := hdep (lsn (trieM ls) (line.take (i + 1)))
      unfold depM at this
      omega
    have hhits : hitsM (trieM ls) line (i + 1) = L.map fun n => (((i + 1 : Nat) : Int) - n, ((i + 1 : Nat) : Int)) := by unfold hitsM; rw [hE]
    have hnr : ∀ k, (Value.slice Ao m co).ownBlock = some k → ¬ some k = o := fun k hk he => by have := row_base hr k hk.symm; have := hcom k he.symm; omega
    have hr8 := row_ext (row_chg (row_chg hr c6 hnr) c7 hnr) e8
    obtain ⟨Ae, ce, rfl, _⟩ := row_shape hev
    simp (disch := omega) only [SX, Nat.reduceAdd]
    have z8 : w4.heap.size ≤ w8.heap.size := by have := c5.size; have := c6.size; have := c7.size; have := e8.size; omega
    refine ⟨fun out' jv w9 => ∃ (j : Nat) (m' : Nat), jv = .int .i64 j ∧ j ≤ L.length ∧ w9.ownsRow w4.heap.size 57 2 out' m' ((foundM (trieM ls) line i ++ (hitsM (trieM ls) line (i + 1)).take j).flatMap pcells) ∧ m' ≤ m + j ∧ w9.ownsRow w7.heap.size 3 1 (.slice Ae L.length ce) L.length (L.map vI) ∧ Chg (fun k => w4.heap.size ≤ k) w8 w9,
      fun _ jv _ => L.length - vnat jv, ⟨0, m, rfl, Nat.zero_le _, by simpa using hr8, by omega, hev, Chg.refl _ _⟩, ?_⟩
    rintro out' jv w9 ⟨j, m', rfl, hj, hr9, hm9, hev9, c9⟩
    obtain ⟨Ao', co', rfl, _⟩ := row_shape hr9
    have hevI := (SlI.of_row hev9 (by omega)).1
    by_cases hjl : j < L.length
    · have hjl' : (j : Int) < (L.length : Int) := by omega
      obtain ⟨be, oe, ce', hv, hcell⟩ := hevI.at hjl
      injection hv with hA _ hc
      subst hA hc
      have hx := hmem L[j] (List.getElem_mem hjl)
      rw [List.length_take] at hx
      simp (disch := omega) only [SX, Nat.reduceAdd, hjl', LD_3 hcell]
      refine BS_37_1 fun w10 o10 e10 z10 => ?_
      have hr10 := row_ext hr9 e10
      have z9 := c9.size
      refine APPEND (by kernel_rfl) IN_57 rfl (by omega) hr10 (news := [.int .i64 ((i : Int) + 1 - L[j]), .int .i64 ((i : Int) + 1)]) rfl (fun q u hq => by rw [addr_add]; exact o10.cell (by simpa using hq)) (by simp [Value.oneCell']) (by omega) (by unfold maxLen; omega) (by omega) (by have := e10.size; omega) fun g cap w11 o11 c11 g11 => ?_
      try simp (disch := omega) only [SX, Nat.reduceAdd]
      have nrow : ∀ k, (Value.slice (some ⟨be, oe, none⟩) L.length ce).ownBlock = some k → ¬ some k = (Value.slice Ao' m' co').ownBlock := fun k hk hk2 => rows_ne hev9 hr9 hk hk2.symm (by decide) rfl
      refine ⟨⟨j + 1, m' + 1, by simp, by omega, ?_, by omega, row_chg (row_ext hev9 e10) c11 nrow, (c9.then (e10.chg (S := fun k => w4.heap.size ≤ k)) (fun _ _ x => x) (fun _ _ x => x)).then c11 (fun _ _ x => x) (fun q _ hq => row_base hr10 q hq)⟩, by simp only [vnat_int]; omega⟩
      have htk : (hitsM (trieM ls) line (i + 1)).take (j + 1) = (hitsM (trieM ls) line (i + 1)).take j ++ [((i : Int) + 1 - L[j], (i : Int) + 1)] := by
        rw [hhits, List.take_succ_eq_append_getElem (by simpa using hjl)]
        simp
      rw [htk, ← List.append_assoc, List.flatMap_append]
      simpa [pcells] using o11
    · have hjl' : ¬ (j : Int) < (L.length : Int) := by omega
      obtain rfl : j = L.length := by omega
      simp (disch := omega) only [SX, Nat.reduceAdd, hjl']
      have hfull : (hitsM (trieM ls) line (i + 1)).take L.length = hitsM (trieM ls) line (i + 1) := by
        rw [List.take_of_length_le]; rw [hhits, List.length_map]; exact Nat.le_refl _
      rw [hfull, ← foundM_succ] at hr9
      have c49 : Chg (fun k => some k = o) w4 w9 := (((c5.then c6 (fun _ _ x => x) (fun _ _ x => x)).then c7 (fun _ _ x => x) (fun _ _ x => x)).then (e8.chg (S := fun k => some k = o)) (fun _ _ x => x) (fun _ _ x => x)).then c9 (fun _ _ x => x) (fun q hq x => by omega)
      refine ⟨⟨i + 1, m', by simp, by trivial, by omega, hr9, by omega, ?_, c49⟩, by simp only [vnat_int]; omega⟩
      have hmm := (hm7.ext e8).chg c9 (fun k hk x => by have := hcom k hk; omega)
      have e1' : s + (i : Int) + 1 = s + ((i + 1 : Nat) : Int) := by omega
      have e2' : l + (i : Int) + 1 = l + ((i + 1 : Nat) : Int) := by omega
      rw [e1', e2'] at hmm
      exact hmm
  · have hlt' : ¬ (i : Int) < (line.length : Int) := by omega
    obtain rfl : i = line.length := by omega
    simp (disch := omega) only [SX, Nat.reduceAdd, hlt']
    have hmf : m = (foundM (trieM ls) line line.length).length := by have := hr.1; rw [flatMap_len pcells_len] at this; omega
    refine CALL_of (pairs_Sort (foundM (trieM ls) line line.length).length (SlG.of_row pcells_len (by omega) hr (by omega)).1 (Nat.le_refl _) (by omega)) ?_
    rintro v w6 ⟨r, hr6, g6, mem6, l6, f6, e6⟩
    have z5 := c5.size
    refine k _ _ ⟨⟨r, hr6, g6, mem6, by omega⟩, fun k hk => by have := f6 k hk; omega, hm5.ext e6, ?_⟩
    exact ((e04.chg (S := fun k => some k = o)).then c5 (fun _ _ x => x) (fun _ _ x => x)).then e6 (fun _ _ x => x) (fun _ _ x => x.elim)
end
end Go.Proofs.YtgjfhmahiiokeaaGreat.Y
