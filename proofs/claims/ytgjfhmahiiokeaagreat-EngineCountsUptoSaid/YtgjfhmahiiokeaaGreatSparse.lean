import Derived.Test.YtgjfhmahiiokeaaGreatMeterB
import Derived.Test.YtgjfhmahiiokeaaGreatDfaF
set_option linter.unusedVariables false
set_option linter.unusedSimpArgs false
set_option linter.unusedVariables false
set_option linter.unusedSimpArgs false
set_option maxRecDepth 8000
namespace Go.Proofs.YtgjfhmahiiokeaaGreat.Y
open Go Go.Sx
variable {hu mo : Int}

/-! ### Tables out of rows -/
def wcells (r : Int × UInt8 × Int) : List Value := [.int .i64 r.1, .int .u8 r.2.1.toNat, .int .i64 r.2.2]
theorem wcells_len (r : Int × UInt8 × Int) : (wcells r).length = 3 := rfl
def foldR (R : List (Int × UInt8 × Int)) : List KV := R.foldl (fun kvs r => updE kvs r.1 r.2.1.toNat r.2.2) []
theorem foldR_snoc (R : List (Int × UInt8 × Int)) (r : Int × UInt8 × Int) : foldR (R ++ [r]) = updE (foldR R) r.1 r.2.1.toNat r.2.2 := by simp [foldR]
theorem slW_cell {w : World} {A : Option Addr} {n c : Nat} {l : List (Int × UInt8 × Int)} (h : SlG wcells w (.slice A n c) l) {i : Nat} (hi : i < l.length) : ∃ b o, A = some ⟨b, o, none⟩ ∧ cellsAt w b (o + i * 3) 3 = some (wcells l[i]) := by
  obtain ⟨b, o, c', he, hc⟩ := h.at wcells_len (by omega) hi
  injection he with e1
  refine ⟨b, o, e1, ?_⟩
  have h0 := hc 0 (by omega) _ rfl
  have h1 := hc 1 (by omega) _ rfl
  have h2 := hc 2 (by omega) _ rfl
  simp only [cellsAt]
  rw [Nat.add_zero] at h0
  rw [h0, h1, h2]
  rfl

section
variable {w : World} {o : Option Nat}

theorem meter_Sparse {lv : Value} {R : List (Int × UInt8 × Int)} (h : SlG wcells w lv R) : RET Tryz.prog 125 [mV o, lv] w fun v w' => ∃ tb, v = .pointer (some ⟨tb, 0, none⟩) ∧ IsTable w' w.heap.size w'.heap.size tb o (fun _ => True) (fun s c => (lookE (foldR R) s c.toNat).getD (-1)) ∧ Ext w w' := by
  have hlen := h.len
  obtain ⟨A, cc, rfl⟩ := h.shape
  refine RET_by fun R' k => ?_
  apply by_meter_Meter_Sparse
  unfold sh_meter_Meter_Sparse
  refine MAKEMAP fun w1 m1 e1 z1 => ?_
  refine AL_206 fun w2 o2 e2 z2 => ?_
  refine STORE SZ_206 o2 (by simp) rfl rfl fun w3 o3 c3 z3 => ?_
  have o3 : Own w3 w1.heap.size [.map (some w.heap.size)] 206 := o3
  have m3 : MapE w3 w.heap.size [] := ⟨#[], 0, ((c3.block _ (by omega) (by omega)).trans (e2.block _ (by omega) (fun x => x))).trans m1, rfl⟩
  have e03 : Ext w w3 := (e1.trans e2).ext_of c3 fun i hi => by omega
  simp (disch := omega) only [SX, Nat.reduceAdd]
  refine ⟨fun iv w4 => ∃ i : Nat, iv = .int .i64 i ∧ i ≤ R.length ∧ MapE w4 w.heap.size (foldR (R.take i)) ∧ Own w4 w1.heap.size [.map (some w.heap.size)] 206 ∧ Ext w w4, fun iv _ => R.length - vnat iv, ⟨0, rfl, Nat.zero_le _, m3, o3, e03⟩, ?_⟩
  rintro iv w4 ⟨i, rfl, hi, m4, o4, e4⟩
  by_cases hlt : i < R.length
  · have hlt' : (i : Int) < ((R.length : Nat) : Int) := by omega
    obtain ⟨b, oo, rfl, hc⟩ := slW_cell (h.ext e4) hlt
    simp (disch := omega) only [SX, Nat.reduceAdd, hlt']
    rw [LA_100 hc]
    refine AL_100 fun w5 o5 e5 z5 => ?_
    refine STOREA SZ_100 (vs := wcells R[i]) rfl o5 (by simp [wcells]) (by simp [Value.oneCell', wcells]) fun w6 o6 c6 z6 => ?_
    have o6 : Own w6 w4.heap.size (wcells R[i]) 100 := by simpa [putAt, wcells] using o6
    have hm4 := m4.lt
    have ho4 := o4.lt
    have e46 : Ext w4 w6 := e5.ext_of c6 fun i hi => by omega
    simp (disch := omega) only [SX, Nat.reduceAdd, LD_206 ((o4.ext e46).cell (i := 0) rfl), LD_3 (o6.cell (i := 0) rfl), LD_5 (o6.cell (i := 1) rfl), LD_3 (o6.cell (i := 2) rfl)]
    refine MU_206 (m4.ext e46) fun w7 m7 c7 z7 => ?_
    try simp (disch := omega) only [SX, Nat.reduceAdd]
    refine ⟨⟨i + 1, by simp, by omega, ?_, (o4.ext e46).chg c7 (by omega), (e4.trans e46).ext_of c7 fun i hi => by omega⟩, by simp only [vnat_int]; omega⟩
    rw [List.take_succ_eq_append_getElem hlt, foldR_snoc]
    exact m7
  · have hlt' : ¬ (i : Int) < ((R.length : Nat) : Int) := by omega
    simp (disch := omega) only [SX, Nat.reduceAdd, hlt']
    rw [List.take_of_length_le (by omega)] at m4
    have hm : mV o = .pointer (o.map fun b => ⟨b, 0, none⟩) := by cases o <;> rfl
    rw [hm]
    try simp (disch := omega) only [SX, Nat.reduceAdd]
    have hm4 := m4.lt
    have ho4 := o4.lt
    refine BOXA fun w6 o6 e6 z6 => k _ _ ⟨_, rfl, ⟨_, _, by rw [hm]; exact o6, ⟨e4.size, by omega, Nat.le_refl _⟩, fun w' hst hsz s c _ => ?_⟩, e4.trans e6⟩
    have m6 : MapE w' w.heap.size (foldR R) := by
      obtain ⟨es, cl, h1, h2⟩ := m4.ext e6
      exact ⟨es, cl, (hst _ (Nat.le_refl _) (by omega)).trans h1, h2⟩
    have o7 := hst.own (o4.ext e6) (by omega) (by omega)
    refine RET_by fun R2 k2 => ?_
    apply by_meter_Meter_Sparse_1
    unfold sh_meter_Meter_Sparse_1
    refine BOXA fun w8 o8 e8 z8 => ?_
    have hcell : cellsAt w8 w'.heap.size 0 2 = some [.int .i64 s, .int .u8 c.toNat] := cellsAt_own o8 2 0 (by simp)
    rw [LD_206 ((o7.ext e8).cell (i := 0) rfl), LA_208 hcell, LK_206 (m6.ext e8)]
    cases hl : lookE (foldR R) s c.toNat with
    | none =>
      simp (disch := omega) only [Option.isSome_none, SX, Nat.reduceAdd]
      exact k2 _ _ ⟨by rw [hl]; rfl, e8⟩
    | some x =>
      simp (disch := omega) only [Option.isSome_some, SX, Nat.reduceAdd]
      exact k2 _ _ ⟨by rw [hl]; rfl, e8⟩
end

/-! ### The rows of a tree -/
def rowAt (T : List TN) (j : Nat) : Int × UInt8 × Int := match T[j]? with
  | some y => (y.par, y.c, (j : Int))
  | none => (0, 0, 0)
def rowsM (T : List TN) : List (Int × UInt8 × Int) := (List.range (T.length - 1)).map fun i => rowAt T (i + 1)
theorem rowsM_len (T : List TN) : (rowsM T).length = T.length - 1 := by simp [rowsM]
theorem ents_take (T : List TN) (h : TreeOK T) : ∀ k, k ≤ T.length - 1 → foldR ((rowsM T).take k) = ents 1 (T.tail.take k) := by
  intro k
  induction k with
  | zero => intro _; rfl
  | succ k ih =>
    intro hk
    have hk1 : k < (rowsM T).length := by rw [rowsM_len]; omega
    have hk2 : k < T.tail.length := by rw [List.length_tail]; omega
    rw [List.take_succ_eq_append_getElem hk1, foldR_snoc, ih (by omega), List.take_succ_eq_append_getElem hk2, ents_append]
    have hr : (rowsM T)[k] = (T.tail[k].par, T.tail[k].c, ((k + 1 : Nat) : Int)) := by
      have h1 : T[k + 1]? = some T.tail[k] := by rw [← tail_get, List.getElem?_eq_getElem hk2]
      simp [rowsM, rowAt, h1]
    rw [hr]
    rw [updE_none]
    · have hlk : (T.tail.take k).length = k := by rw [List.length_take]; omega
      rw [hlk, show ((1 + k : Nat) : Int) = ((k + 1 : Nat) : Int) by omega]
    · cases hl : lookE (ents 1 (T.tail.take k)) T.tail[k].par T.tail[k].c.toNat with
      | none => rfl
      | some x =>
        exfalso
        obtain ⟨i, y, h1, rfl, h3, h4⟩ := lookE_get hl
        rw [List.getElem?_take] at h1
        split at h1
        · rename_i hik
          have ha : lookE (ents 1 T.tail) T.tail[k].par T.tail[k].c.toNat = some ((i + 1 : Nat) : Int) := h.look.2 ⟨i + 1, y, rfl, by omega, by rw [← tail_get]; exact h1, h3, UInt8.toNat_inj.1 (by omega)⟩
          have hb : lookE (ents 1 T.tail) T.tail[k].par T.tail[k].c.toNat = some ((k + 1 : Nat) : Int) := h.look.2 ⟨k + 1, T.tail[k], rfl, by omega, by rw [← tail_get, List.getElem?_eq_getElem hk2], rfl, rfl⟩
          rw [ha] at hb
          injection hb with hb
          omega
        · cases h1
theorem rows_ents {T : List TN} (h : TreeOK T) : foldR (rowsM T) = ents 1 T.tail := by
  have := ents_take T h (T.length - 1) (Nat.le_refl _)
  rw [List.take_of_length_le (by rw [rowsM_len]; omega), List.take_of_length_le (by rw [List.length_tail]; omega)] at this
  exact this

/-! ### How often is looked up -/
def looksF (T : List TN) : Nat → Int → UInt8 → Nat
  | 0, _, _ => 1
  | f + 1, x, c => if 0 ≤ stepM T x c then 1 else if x = 0 then 1 else 1 + looksF T f (failM T x) c
def looksM (T : List TN) (x : Int) (c : UInt8) : Nat := looksF T (depM T x + 1) x c
theorem looksF_fuel {T : List TN} (h : TreeOK T) (c : UInt8) : ∀ (f g : Nat) (x : Int), 0 ≤ x → x < T.length → depM T x < f → depM T x < g → looksF T f x c = looksF T g x c := by
  intro f
  induction f with
  | zero => intro g x _ _ h1; omega
  | succ f ih =>
    intro g x h0 hx h1 h2
    cases g with
    | zero => omega
    | succ g =>
      simp only [looksF]
      split
      · rfl
      · split
        · rfl
        · rename_i hz
          have hf := failM_dep h (x := x) (by omega) hx
          have hi := failM_in h x
          have h0 : 0 ≤ failM T x := by
            unfold failM
            rw [if_neg hz]
            exact (lsn_in h.pos _).1
          rw [ih g (failM T x) h0 hi.2 (by omega) (by omega)]
theorem failM_lo {T : List TN} (h : TreeOK T) {x : Int} (hz : x ≠ 0) : 0 ≤ failM T x := by
  unfold failM
  rw [if_neg hz]
  exact (lsn_in h.pos _).1
theorem looksM_step {T : List TN} (h : TreeOK T) (c : UInt8) {x : Int} (h0 : 0 ≤ x) (h1 : x < T.length) : looksM T x c = if 0 ≤ stepM T x c then 1 else if x = 0 then 1 else 1 + looksM T (failM T x) c := by
  unfold looksM
  rw [looksF]
  split
  · rfl
  · split
    · rfl
    · rename_i hz
      have hf := failM_dep h (x := x) (by omega) h1
      rw [looksF_fuel h c _ (depM T (failM T x) + 1) _ (failM_lo h hz) (failM_in h x).2 hf (by omega)]
theorem looksM_bound {T : List TN} (h : TreeOK T) (c : UInt8) : ∀ (n : Nat) (x : Int), 0 ≤ x → x < T.length → depM T x ≤ n → 1 ≤ looksM T x c ∧ looksM T x c + depM T (deltaM T x c) ≤ depM T x + 2 := by
  intro n
  induction n with
  | zero =>
    intro x h0 h1 hd
    rw [looksM_step h c h0 h1, delta_step h h0 h1 c]
    by_cases hs : 0 ≤ stepM T x c
    · rw [if_pos hs, if_pos hs]
      have := path_step h hs
      have hl : depM T (stepM T x c) = depM T x + 1 := by unfold depM; rw [this]; simp
      omega
    · rw [if_neg hs, if_neg hs]
      have hz : x = 0 := by
        by_cases hz : x = 0
        · exact hz
        · have := path_ne h (x := x) (by omega) h1
          unfold depM at hd
          have := List.length_eq_zero_iff.1 (Nat.le_zero.1 hd)
          contradiction
      subst hz
      simp only [if_true]
      have : depM T 0 = 0 := by unfold depM; rw [path_root h]; rfl
      omega
  | succ n ih =>
    intro x h0 h1 hd
    rw [looksM_step h c h0 h1, delta_step h h0 h1 c]
    by_cases hs : 0 ≤ stepM T x c
    · rw [if_pos hs, if_pos hs]
      have := path_step h hs
      have hl : depM T (stepM T x c) = depM T x + 1 := by unfold depM; rw [this]; simp
      omega
    · rw [if_neg hs, if_neg hs]
      by_cases hz : x = 0
      · subst hz
        simp only [if_true]
        have : depM T 0 = 0 := by unfold depM; rw [path_root h]; rfl
        omega
      · rw [if_neg hz, if_neg hz]
        have hf := failM_dep h (x := x) (by omega) h1
        have := ih (failM T x) (failM_lo h hz) (failM_in h x).2 (by omega)
        omega
/-- How often a line's first bytes are looked up. -/
def looksL (T : List TN) (line : List UInt8) : Nat → Nat
  | 0 => 0
  | i + 1 => looksL T line i + looksM T (lsn T (line.take i)) (line.getD i 0)
theorem looksL_bound {T : List TN} (h : TreeOK T) (line : List UInt8) : ∀ i, i ≤ line.length → i ≤ looksL T line i ∧ looksL T line i + depM T (lsn T (line.take i)) ≤ 2 * i := by
  intro i
  induction i with
  | zero =>
    intro _
    have : depM T (lsn T (line.take 0)) = 0 := by simp [lsn, depM, path_root h]
    simp only [looksL]
    omega
  | succ i ih =>
    intro hi
    have hin := lsn_in h.pos (line.take i)
    have hb := looksM_bound h (line.getD i 0) _ (lsn T (line.take i)) hin.1 hin.2 (Nat.le_refl _)
    have hg : line.getD i 0 = line[i] := by simp [List.getD, List.getElem?_eq_getElem (show i < line.length by omega)]
    have hst : deltaM T (lsn T (line.take i)) (line.getD i 0) = lsn T (line.take (i + 1)) := by
      unfold deltaM
      rw [lsn_path h, hg, List.take_succ_eq_append_getElem (by omega)]
    rw [hst] at hb
    have := ih (by omega)
    simp only [looksL]
    omega
end Go.Proofs.YtgjfhmahiiokeaaGreat.Y
