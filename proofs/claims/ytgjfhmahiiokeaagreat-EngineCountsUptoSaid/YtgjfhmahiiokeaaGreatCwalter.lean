import Derived.Test.YtgjfhmahiiokeaaGreatShifts
import Derived.Test.YtgjfhmahiiokeaaGreatFound
import Derived.Test.YtgjfhmahiiokeaaGreatPairs
import Derived.Test.YtgjfhmahiiokeaaGreatLib
set_option linter.unusedVariables false
set_option linter.unusedSimpArgs false
set_option linter.unusedVariables false
set_option linter.unusedSimpArgs false
set_option maxRecDepth 8000
namespace Go.Proofs.YtgjfhmahiiokeaaGreat.Y
open Go Go.Sx

/-! ### From window to window -/
/-- How many bytes a line has, read back from a place, before a place: what ends there. -/
def backL (line : List UInt8) (e : Nat) : List UInt8 := (line.take e).reverse
theorem back_len {line : List UInt8} {e : Nat} (h : e ≤ line.length) : (backL line e).length = e := by
  unfold backL; rw [List.length_reverse, List.length_take]; omega
theorem back_drop {line : List UInt8} {e d : Nat} (h : e + d ≤ line.length) : (backL line (e + d)).drop d = backL line e := by
  unfold backL
  rw [List.drop_reverse, List.length_take, List.take_take]
  congr 2
  omega
theorem back_get {line : List UInt8} {e j : Nat} (h : e ≤ line.length) (hj : j < e) : (backL line e)[j]? = some (line[e - 1 - j]'(by omega)) := by
  unfold backL
  rw [List.getElem?_reverse (by rw [List.length_take]; omega), List.length_take, List.getElem?_take, if_pos (by omega)]
  rw [List.getElem?_eq_getElem (by omega)]
  congr 2
  omega
/-- A turned text stands ahead of a place. -/
theorem occ_back {line t : List UInt8} {a e : Nat} (he : e = a + t.length) (hle : e ≤ line.length) : t <+: line.drop a ↔ t.reverse <+: backL line e := by
  unfold backL
  rw [List.reverse_prefix, suffix_take hle]
  have : e - t.length = a := by omega
  rw [this]
  exact ⟨fun h => ⟨by omega, h⟩, fun h => h.2⟩

theorem pre_of_take {p q : List UInt8} {n : Nat} (h : q <+: p) (hn : q.length ≤ n) : q <+: p.take n := by
  rw [List.prefix_iff_eq_take] at h ⊢
  rw [List.take_take, Nat.min_eq_left hn]
  exact h

/-- No text ends between two windows. -/
theorem safe {us : List (List UInt8)} {least : Int} {N : List Int} {F : List (Int × Int)} (hN : NearOK us least N) (hF : FarOK (trieM us) least F) {line : List UInt8} {e m : Nat} {v : Nat} (he : e ≤ line.length) (hm : m ≤ e) (hv : v < (trieM us).length) (hp : pathM (trieM us) v = (backL line e).take m) {y : Int × Int} (hy : F[v]? = some y) {far : Int}
    (hfar : (m = e → far ≤ y.2) ∧ (∀ h : m < e, ∃ x, N[(line[e - 1 - m]'(by omega)).toNat]? = some x ∧ far ≤ min y.2 (max y.1 ((if 0 < x then min (least + 1) x else least + 1) - m - 1)))) (hfl : far ≤ least) :
    ∀ d : Nat, 1 ≤ d → (d : Int) < far → e + d ≤ line.length → ∀ u ∈ us, ¬ u <+: backL line (e + d) := by
  intro d hd hdf hed u hu hocc
  have hT := trie_for us
  have hul := (hN.some u hu).2
  have hdu : d < u.length := by omega
  have hloc := hocc.length_le
  rw [back_len hed] at hloc
  have hfy : far ≤ y.2 := by
    by_cases h : m = e
    · exact hfar.1 h
    · obtain ⟨x, _, hx⟩ := hfar.2 (by omega)
      omega
  have hfu := hT.text u hu
  have hpu := path_find hT.ok u hfu
  have hult := (findM_lo hT.ok.pos u).2
  obtain ⟨x, hx⟩ : ∃ x : Nat, findM (trieM us) u = (x : Int) := ⟨(findM (trieM us) u).toNat, by omega⟩
  rw [hx] at hpu
  have hx0 : 0 < x := by
    rcases Nat.eq_zero_or_pos x with h0 | h0
    · subst h0
      have := path_root hT.ok
      rw [show ((0 : Nat) : Int) = 0 from rfl, this] at hpu
      rw [← hpu] at hdu
      simp at hdu
    · exact h0
  have hud : u.drop d <+: backL line e := by
    rw [← back_drop hed]
    obtain ⟨r, hr⟩ := hocc
    exact ⟨r, by rw [← hr, List.drop_append_of_le_length (by omega)]⟩
  by_cases hA : u.length - d ≤ m
  · have hpre : (pathM (trieM us) x).drop d <+: pathM (trieM us) v := by
      rw [hpu, hp]
      exact pre_of_take hud (by rw [List.length_drop]; omega)
    have hw : 0 ≤ wordM (trieM us) x := (hT.word x (by omega) (by omega)).2 (by rw [hpu]; exact hu)
    have := hF.end' x hx0 (by omega) hw d hd (by rw [hpu]; omega) v y hpre hy
    omega
  · have hme : m < e := by
      have := hud.length_le
      rw [List.length_drop, back_len he] at this
      omega
    obtain ⟨z, hz, hz2⟩ := hfar.2 hme
    have hpre : u.take (d + m) <+: u := List.take_prefix _ _
    have hfp : 0 ≤ findM (trieM us) (u.take (d + m)) := (hT.find _).2 (.inr ⟨u, hu, hpre⟩)
    have hplt := (findM_lo hT.ok.pos (u.take (d + m))).2
    have hpp := path_find hT.ok _ hfp
    obtain ⟨x2, hx2⟩ : ∃ x2 : Nat, findM (trieM us) (u.take (d + m)) = (x2 : Int) := ⟨(findM (trieM us) (u.take (d + m))).toNat, by omega⟩
    rw [hx2] at hpp
    have hlen2 : (u.take (d + m)).length = d + m := by rw [List.length_take]; omega
    have hx20 : 0 < x2 := by
      rcases Nat.eq_zero_or_pos x2 with h0 | h0
      · subst h0
        have := path_root hT.ok
        rw [show ((0 : Nat) : Int) = 0 from rfl, this] at hpp
        rw [← hpp] at hlen2
        simp at hlen2
        omega
      · exact h0
    have hdrop : (pathM (trieM us) x2).drop d = pathM (trieM us) v := by
      rw [hpp, hp, List.drop_take, show d + m - d = m by omega]
      have := List.prefix_iff_eq_take.1 hud
      rw [this, List.take_take]
      congr 1
      rw [List.length_drop]
      omega
    have h1 := (hF.hit x2 hx20 (by omega) d hd (by rw [hpp, hlen2]; omega) v y (by rw [hdrop, find_of hT.ok (by omega) (by omega)]) hy).1
    have hc : u[d + m]'(by omega) = line[e - 1 - m]'(by omega) := by
      have g1 := back_get (line := line) (e := e + d) (j := d + m) hed (by omega)
      have g2 : u[d + m]? = (backL line (e + d))[d + m]? := by
        obtain ⟨r, hr⟩ := hocc
        rw [← hr, List.getElem?_append_left (by omega)]
      rw [List.getElem?_eq_getElem (by omega), g1] at g2
      have g3 := Option.some.inj g2
      rw [g3]
      congr 1
      omega
    obtain ⟨z', q1, q2, q3⟩ := hN.near u hu (d + m) (by omega)
    rw [hc, hz] at q1
    injection q1 with q1
    subst q1
    rw [if_pos q2] at hz2
    omega

structure IsWalter (w : World) (lo hi b : Nat) (us : List (List UInt8)) : Prop where
  ex : ∃ bb sb mid least N F, Own w b [.pointer (some ⟨bb, 0, none⟩), .pointer (some ⟨sb, 0, none⟩)] 120 ∧ IsBack w lo mid bb us least N ∧ IsShifts w mid hi sb bb F ∧ (least ≠ 0 → FarOK (trieM us) least F) ∧ mid ≤ hi ∧ lo ≤ b ∧ b < hi
theorem IsWalter.chg {S : Nat → Prop} {w w' : World} {lo hi b : Nat} {us : List (List UInt8)} (h : IsWalter w lo hi b us) (hc : Chg S w w') (hs : ∀ i, S i → i < lo ∨ hi ≤ i) : IsWalter w' lo hi b us := by
  obtain ⟨bb, sb, mid, least, N, F, h1, h2, h3, h4, h5, h6, h7⟩ := h.ex
  have hlm : lo ≤ mid := by obtain ⟨_, _, _, a, b, _⟩ := h2.ex; omega
  exact ⟨bb, sb, mid, least, N, F, h1.chg hc (fun hS => by have := hs _ hS; omega), h2.chg hc (fun i hi => by have := hs i hi; omega), h3.chg hc (fun i hi => by have := hs i hi; omega), h4, h5, h6, h7⟩
theorem IsWalter.ext {w w' : World} {lo hi b : Nat} {us : List (List UInt8)} (h : IsWalter w lo hi b us) (hc : Ext w w') : IsWalter w' lo hi b us := h.chg hc fun _ x => x.elim

section
variable {w : World}

theorem cwalter_New {lv : Value} {ls : List (List UInt8)} (h : SlT w lv ls) (hs : sumL ls + 1 ≤ 2 ^ 30) (hn : ls.length ≤ 2 ^ 31) : RET Tryz.prog 31 [lv] w fun v w' => (∃ b, v = .pointer (some ⟨b, 0, none⟩) ∧ IsWalter w' w.heap.size w'.heap.size b (turnL ls)) ∧ Ext w w' := by
  refine RET_by fun R k => ?_
  apply by_cwalter_New
  unfold sh_cwalter_New
  refine CALL_of (back_Build h (by omega) hn) ?_
  rintro v w1 ⟨⟨bb, least, N, rfl, hB⟩, e1⟩
  have hTl := trie_len (turnL ls)
  have hsl := turn_sum ls
  refine CALL_of (shifts_Build hB (by omega)) ?_
  rintro v w2 ⟨⟨sb, F, rfl, hS, hF⟩, e2⟩
  simp (disch := omega) only [SX, Nat.reduceAdd]
  refine BOXA fun w3 o3 e3 z3 => ?_
  have z1 := e1.size
  have z2 := e2.size
  have hS3 : IsShifts w3 w1.heap.size w3.heap.size sb bb F := by
    obtain ⟨rv, h1, h2, h3, h4⟩ := (hS.ext e3).ex
    exact ⟨rv, h1, h2, by omega, fun q hq => by have := h4 q hq; omega⟩
  exact k _ _ ⟨⟨_, rfl, bb, sb, _, least, N, F, o3, hB.ext (e2.trans e3), hS3, hF, by omega, by omega, by omega⟩, e1.trans (e2.trans e3)⟩
end
end Go.Proofs.YtgjfhmahiiokeaaGreat.Y
set_option linter.unusedVariables false
set_option linter.unusedSimpArgs false
set_option maxRecDepth 8000
namespace Go.Proofs.YtgjfhmahiiokeaaGreat.Y
open Go Go.Sx

theorem run_equal_arr2 {P : Program} {t e : TypeId} {k : IntKind} (hu : P.underlying t = some (.array 2 e)) (hi : (P.info? e).isSome = true) (hc : P.cellsOf e = 1) (he : P.underlying e = some (.int k)) {a0 a1 b0 b1 : Int} (w : World) :
    (Op.equal t (.agg #[.int k a0, .int k a1]) (.agg #[.int k b0, .int k b1])).run P w = .ok (decide (a0 = b0) && (decide (a1 = b1) && true)) w := by
  obtain ⟨i, hi⟩ := Option.isSome_iff_exists.1 hi
  show (Op.equalIn (9999 + 1) t _ _).run P w = _
  rw [run_equalIn_array (P := P) (w := w) 9999 _ _ hu hi, hc]
  exact eqI_step he rfl rfl (eqI_step he rfl rfl eqI_nil)
theorem EQ_two {x y : Operand} {K : Value → Prop} {a0 a1 b0 b1 : Int} : PURE Tryz.prog (BINS .eql 159 x y (.agg #[.int .i64 a0, .int .i64 a1]) (.agg #[.int .i64 b0, .int .i64 b1])) K = K (.bool (decide (a0 = b0) && (decide (a1 = b1) && true))) :=
  PURE_eqlS (by kernel_rfl) (run_equal_arr2 (k := .i64) Tryz.underlying159 (by kernel_rfl) (by kernel_rfl) Tryz.underlying3)

section
variable {w : World} {lo mid hi sb bb : Nat} {F : List (Int × Int)} {us : List (List UInt8)} {least : Int} {N : List Int}

theorem shifts_of (h : IsShifts w lo hi sb bb F) (hbig : F.length ≤ 2 ^ 40) {v : Nat} {y : Int × Int} (hy : F[v]? = some y) : RET Tryz.prog 103 [.pointer (some ⟨sb, 0, none⟩), .int .i64 v] w fun r w' => r = .agg #[.int .i64 y.1, .int .i64 y.2] ∧ Ext w w' := by
  obtain ⟨hv, hye⟩ := List.getElem?_eq_some_iff.1 hy
  obtain ⟨rv, s1, s2, s3, s4⟩ := id h.ex
  obtain ⟨g, cap, rfl, hg1, hg2⟩ := row_block s2 (by omega)
  refine RET_by fun R k => ?_
  apply by_shifts_Shifts_of
  unfold sh_shifts_Shifts_of
  refine AL_159 fun w1 o1 e1 z1 => ?_
  have s1' := s1.ext e1
  refine ⟨fun w2 => w2 = w1, ?_, ?_⟩
  · simp (disch := omega) only [SX, Nat.reduceAdd, show ¬ ((v : Int) < 0) by omega, LD_156 (s1'.cell (i := 1) rfl), show ¬ ((F.length : Int) ≤ (v : Int)) by omega]
  rintro _ rfl
  rename_i w1
  have s2' := row_ext s2 e1
  have c0 := s2'.cellAt (v * 2) (by omega)
  have c1 := s2'.cellAt (v * 2 + 1) (by omega)
  rw [(flat_at hv).1, hye] at c0
  rw [(flat_at hv).2, hye] at c1
  have hcs : cellsAt w1 g (v * 2) 2 = some [.int .i64 y.1, .int .i64 y.2] := by
    simp only [cellsAt]
    rw [c0, c1]
  simp (disch := omega) only [SX, Nat.reduceAdd, LD_156 (s1'.cell (i := 1) rfl), LA_159 hcs]
  refine STOREA SZ_159 (vs := [.int .i64 y.1, .int .i64 y.2]) rfl o1 (by simp) (by simp [Value.oneCell']) fun w2 o2 c2 z2 => ?_
  exact LOADRES_A (by kernel_rfl) SZ_159 (cellsAt_whole o2 rfl) (k _ _ ⟨rfl, e1.ext_of c2 fun i hi => by omega⟩)

theorem shifts_Second (h : IsShifts w lo hi sb bb F) (hbig : F.length ≤ 2 ^ 40) {v : Nat} {y : Int × Int} (hy : F[v]? = some y) : RET Tryz.prog 98 [.pointer (some ⟨sb, 0, none⟩), .int .i64 v] w fun r w' => r = .int .i64 y.2 ∧ Ext w w' := by
  refine RET_by fun R k => ?_
  apply by_shifts_Shifts_Second
  unfold sh_shifts_Shifts_Second
  refine CALL_of (shifts_of h hbig hy) ?_
  rintro r w1 ⟨rfl, e1⟩
  refine (AX_159 (by omega) (by omega) rfl).mpr ?_
  exact k _ _ ⟨rfl, e1⟩

theorem trie_Depth' {b : Nat} {T : List TN} (h : IsTrie w lo hi b T) (hT : TreeOK T) {v : Nat} (hv : v < T.length) : RET Tryz.prog 97 [.pointer (some ⟨b, 0, none⟩), .int .i64 v] w fun r w' => r = .int .i64 (depM T v : Nat) ∧ w' = w := by
  refine (trie_Depth h v).mono fun r w' hr => ⟨?_, hr.2⟩
  rw [hr.1]
  have hn := nodeM_in (T := T) (n := (v : Int)) (by omega)
  have := depM_node hT v v _ hn (by omega)
  unfold depthM
  rw [hn, this]
  rfl

theorem shifts_Far (hB : IsBack w lo mid bb us least N) (h : IsShifts w mid hi sb bb F) (hbig : F.length ≤ 2 ^ 30) (hF : FarB (trieM us) least F) {v : Nat} {y : Int × Int} (hy : F[v]? = some y) (hd : depM (trieM us) v ≤ 2 ^ 30) (c : UInt8) : RET Tryz.prog 99 [.pointer (some ⟨sb, 0, none⟩), .int .i64 v, .int .u8 c.toNat] w fun r w' => (∃ x, N[c.toNat]? = some x ∧ r = .int .i64 (min y.2 (max y.1 ((if 0 < x then min (least + 1) x else least + 1) - (depM (trieM us) v : Nat) - 1)))) ∧ Ext w w' := by
  have hT := (trie_for us).ok
  obtain ⟨hv, hye⟩ := List.getElem?_eq_some_iff.1 hy
  have hyok := hF.ok y (by rw [← hye]; exact List.getElem_mem hv)
  have hsm := hB.ok.small
  have hlow := hB.ok.low
  refine RET_by fun R k => ?_
  apply by_shifts_Shifts_Far
  unfold sh_shifts_Shifts_Far
  refine CALL_of (shifts_of h (by omega) hy) ?_
  rintro r w1 ⟨rfl, e1⟩
  refine AL_159 fun w2 o2 e2 z2 => ?_
  refine STOREA SZ_159 (vs := [.int .i64 y.1, .int .i64 y.2]) rfl o2 (by simp) (by simp [Value.oneCell']) fun w3 o3 c3 z3 => ?_
  have o3 : Own w3 w1.heap.size [.int .i64 y.1, .int .i64 y.2] 159 := o3
  have e03 : Ext w w3 := (e1.trans e2).ext_of c3 fun i hi => by have := e1.size; omega
  rw [LA_159 (cellsAt_whole o3 rfl)]
  simp (disch := omega) only [SX, Nat.reduceAdd]
  refine EQ_two.mpr ?_
  have hz : (decide (y.1 = 0) && decide (y.2 = 0)) = false := by simp; omega
  obtain ⟨rv, s1, s2, s3, s4⟩ := id (h.ext e03).ex
  have hB3 := hB.ext e03
  simp (disch := omega) only [SX, Nat.reduceAdd, hz, LD_115 (s1.cell (i := 0) rfl)]
  refine CALL_of (back_Least hB3) ?_
  rintro r w4 ⟨rfl, rfl⟩
  try simp (disch := omega) only [SX, Nat.reduceAdd]
  have hNc := c.toNat_lt
  have hNl := hB.ok.len
  have hNx : N[c.toNat]? = some (N[c.toNat]'(by omega)) := List.getElem?_eq_getElem (by omega)
  have hx1 := hlow.2 _ (List.getElem_mem (show c.toNat < N.length by omega))
  have hx2 := hsm.2 _ (List.getElem_mem (show c.toNat < N.length by omega))
  generalize N[c.toNat]'(by omega) = x at *
  refine ⟨fun kv w5 => kv = .int .i64 (if 0 < x then min (least + 1) x else least + 1) ∧ w5 = w4, ?_, ?_⟩
  · simp (disch := omega) only [SX, Nat.reduceAdd, LD_115 (s1.cell (i := 0) rfl)]
    refine CALL_of (back_Near hB3 c) ?_
    rintro r w5 ⟨⟨x', hx', rfl⟩, rfl⟩
    rw [hNx] at hx'
    injection hx' with hx'
    subst hx'
    by_cases hp : 0 < x
    · simp (disch := omega) only [SX, Nat.reduceAdd, hp]
      exact ⟨by rw [if_pos trivial], by trivial⟩
    · simp (disch := omega) only [SX, Nat.reduceAdd, hp]
      exact ⟨by rw [if_neg (fun h => h)], by trivial⟩
  rintro kv w5 ⟨rfl, rfl⟩
  generalize hq : (if 0 < x then min (least + 1) x else least + 1) = q at *
  have hqb : 0 ≤ q ∧ q ≤ 2 ^ 41 := by subst hq; split <;> omega
  obtain ⟨tb, b1, b2, b3, b4, b5⟩ := id hB3.ex
  have h1n : (1 : Int).toNat = 1 := rfl
  have h0n : (0 : Int).toNat = 0 := rfl
  have hlts := s1.lt
  refine ⟨KP (fun _ => False) w5, KP.refl _ _, ?_⟩
  simp (disch := omega) only [SX, Nat.reduceAdd, h1n, h0n, RK_3 (X := fun _ => False) (o3.cell (i := 0) rfl) (fun x => x) (KP.refl _ _), RK_3 (X := fun _ => False) (o3.cell (i := 1) rfl) (fun x => x) (KP.refl _ _), RK_115 (X := fun _ => False) (s1.cell (i := 0) rfl) (fun x => x) (KP.refl _ _), RK_90 (X := fun _ => False) (b1.cell (i := 0) rfl) (fun x => x) (KP.refl _ _)]
  refine CALL_of (trie_Depth' (b2.ext (Ext.drew _)) hT (v := v) (by have := hF.len; omega)) ?_
  rintro r w6 ⟨rfl, rfl⟩
  refine KEEP (KP.refl _ _) ?_
  simp (disch := omega) only [SX, Nat.reduceAdd]
  exact k _ _ ⟨⟨x, hNx, by rw [hq]⟩, e03.trans (Ext.drew _)⟩

/-! ### A window -/
def winL (us : List (List UInt8)) (line : List UInt8) (e m : Nat) : List (Int × Int) := ((List.range m).filter fun j => decide (0 ≤ wordM (trieM us) (findM (trieM us) ((backL line e).take (j + 1))))).map fun (j : Nat) => ((e : Int) - ((j + 1 : Nat) : Int), (e : Int))
theorem winL_len (line : List UInt8) (e m : Nat) : (winL us line e m).length ≤ m := by
  unfold winL
  rw [List.length_map]
  exact Nat.le_trans (List.length_filter_le _ _) (by simp)
theorem word_neg {T : List TN} {x : Int} (h : x < 0) : wordM T x = -1 := by
  unfold wordM; rw [nodeM_none (by omega)]; rfl
theorem find_more {T : List TN} {p : List UInt8} {m j : Nat} (h : findM T (p.take m) < 0) (hj : m ≤ j) (hpos : 0 < T.length) : findM T (p.take j) < 0 := by
  rcases Int.lt_or_le (findM T (p.take j)) 0 with hl | hl
  · exact hl
  · exfalso
    have : p.take j = p.take m ++ (p.drop m).take (j - m) := by
      rw [← List.take_add, show m + (j - m) = j by omega]
    rw [this] at hl
    have := find_prefix hl
    omega
theorem winL_stop {line : List UInt8} {e m : Nat} (hm : m ≤ e) (h : m = e ∨ findM (trieM us) ((backL line e).take (m + 1)) < 0) : winL us line e e = winL us line e m := by
  rcases h with rfl | h
  · rfl
  · have hpos := (trie_for us).ok.pos
    unfold winL
    congr 1
    have : List.range e = List.range m ++ (List.range (e - m)).map (m + ·) := by
      have := List.range_add (n := m) (m := e - m)
      rw [show m + (e - m) = e by omega] at this
      exact this
    rw [this, List.filter_append]
    have : ((List.range (e - m)).map (m + ·)).filter (fun j => decide (0 ≤ wordM (trieM us) (findM (trieM us) ((backL line e).take (j + 1))))) = [] := by
      rw [List.filter_eq_nil_iff]
      intro j hj
      obtain ⟨i, hi, rfl⟩ := List.mem_map.1 hj
      have := find_more h (j := m + i + 1) (by omega) hpos
      rw [word_neg this]
      decide
    rw [this, List.append_nil]
theorem winL_mem {line : List UInt8} {e : Nat} (he : e ≤ line.length) (hne : ∀ u ∈ us, u ≠ []) (p : Int × Int) : p ∈ winL us line e e ↔ ∃ u ∈ us, u <+: backL line e ∧ p = ((e : Int) - (u.length : Int), (e : Int)) := by
  have hT := trie_for us
  have hbl := back_len he
  unfold winL
  simp only [List.mem_map, List.mem_filter, List.mem_range, decide_eq_true_eq]
  constructor
  · rintro ⟨j, ⟨h1, h2⟩, rfl⟩
    have hf : 0 ≤ findM (trieM us) ((backL line e).take (j + 1)) := by
      rcases Int.lt_or_le (findM (trieM us) ((backL line e).take (j + 1))) 0 with hl | hl
      · rw [word_neg hl] at h2; omega
      · exact hl
    have hlt := (findM_lo hT.ok.pos ((backL line e).take (j + 1))).2
    have hp := path_find hT.ok _ hf
    have := (hT.word _ hf hlt).1 h2
    rw [hp] at this
    exact ⟨_, this, List.take_prefix _ _, by rw [List.length_take, hbl, Nat.min_eq_left (by omega)]⟩
  · rintro ⟨u, h1, h2, rfl⟩
    have hl := h2.length_le
    rw [hbl] at hl
    have h0 : 0 < u.length := List.length_pos_iff.2 (hne u h1)
    refine ⟨u.length - 1, ⟨by omega, ?_⟩, by rw [show u.length - 1 + 1 = u.length by omega]⟩
    rw [show u.length - 1 + 1 = u.length by omega, ← List.prefix_iff_eq_take.1 h2]
    have hf := hT.text u h1
    have hlt := (findM_lo hT.ok.pos u).2
    exact (hT.word _ hf hlt).2 (by rw [path_find hT.ok u hf]; exact h1)

theorem cwalter_window {b : Nat} {lv : Value} {line : List UInt8} (h : IsWalter w lo hi b us) (hlv : SlB w lv line) (hlb : line.length ≤ 4096) (hbig : (trieM us).length ≤ 2 ^ 30) (hne : ∀ u ∈ us, u ≠ []) (hus : us ≠ []) {e : Nat} (he : e ≤ line.length) :
    RET Tryz.prog 84 [.pointer (some ⟨b, 0, none⟩), lv, .int .i64 e] w fun r w' => (∃ (out : Value) (far : Nat), r = .tuple #[out, .int .i64 far] ∧ SlG pcells w' out (winL us line e e) ∧ 1 ≤ far ∧ far ≤ 2 ^ 41 ∧ ∀ d : Nat, 1 ≤ d → d < far → e + d ≤ line.length → ∀ u ∈ us, ¬ u <+: backL line (e + d)) ∧ Ext w w' := by
  have hT := trie_for us
  obtain ⟨bb, sb, mid, least, N, F, w1, w2, w3, w4, w5, w6, w7⟩ := id h.ex
  have hleast : 0 < least := by
    obtain ⟨u, hu⟩ := List.exists_mem_of_ne_nil us hus
    exact (w2.ok.some u hu).1
  have hFO := w4 (by omega)
  have hFl := hFO.b.len
  have hll := hlv.len
  have hbl := back_len he
  have hlv' := hlv
  have hleb := w2.ok.small.1
  obtain ⟨Al, cl, rfl⟩ := hlv.shape
  refine RET_by fun R k => ?_
  apply by_cwalter_Walter_window
  unfold sh_cwalter_Walter_window
  refine ⟨fun out av wz => ∃ (v m : Nat), av = .int .i64 v ∧ (v : Int) = findM (trieM us) ((backL line e).take m) ∧ m ≤ e ∧ (m = e ∨ findM (trieM us) ((backL line e).take (m + 1)) < 0) ∧ wz.ownsRow w.heap.size 57 2 out (winL us line e m).length ((winL us line e m).flatMap pcells) ∧ Ext w wz, ?_, ?_⟩
  · try simp (disch := omega) only [SX, Nat.reduceAdd]
    refine ⟨fun out av iv wz => ∃ (v m : Nat), av = .int .i64 v ∧ iv = .int .i64 ((e : Int) - 1 - m) ∧ (v : Int) = findM (trieM us) ((backL line e).take m) ∧ m ≤ e ∧ wz.ownsRow w.heap.size 57 2 out (winL us line e m).length ((winL us line e m).flatMap pcells) ∧ Ext w wz, fun _ _ iv _ => match iv with | .int _ x => (x + 1).toNat | _ => 0,
      ⟨0, 0, rfl, by simp, by simp [findM], Nat.zero_le _, World.ownsRow_nil _ _ _ _, Ext.refl w⟩, ?_⟩
    rintro out av iv wz ⟨v, m, rfl, rfl, hv, hm, hr, ez⟩
    have hz := h.ext ez
    by_cases hlt : m < e
    · have hlt' : (0 : Int) ≤ (e : Int) - 1 - (m : Int) := by omega
      have hix : (e : Int) - 1 - (m : Int) = ((e - 1 - m : Nat) : Int) := by omega
      rw [hix] at hlt' ⊢
      obtain ⟨tb, t1, t2, _⟩ := id (w2.ext ez).ex
      obtain ⟨bx, ox, cx, hvx, hcx⟩ := (hlv'.ext ez).at (i := e - 1 - m) (by omega)
      injection hvx with hA _ hcc
      subst hA hcc
      have hin : e - 1 - m < line.length := by omega
      have hgc := back_get (line := line) (e := e) (j := m) he hlt
      generalize hch : line[e - 1 - m] = ch at *
      generalize hi2 : e - 1 - m = i2 at *
      simp (disch := omega) only [SX, Nat.reduceAdd, DRAWQ, hlt', RD_115 ((w1.ext ez).cell (i := 0) rfl), RD_90 (t1.cell (i := 0) rfl), RD_5 hcx]
      refine CALL_of (trie_Step (t2.ext (Ext.drew wz)) v ch) ?_
      rintro r wq ⟨rfl, rfl⟩
      have hstep : stepM (trieM us) v ch = findM (trieM us) ((backL line e).take (m + 1)) := by
        have : (backL line e).take (m + 1) = (backL line e).take m ++ [ch] := by
          rw [List.take_add_one, hgc]
          rfl
        rw [this, findM_snoc, ← hv]
      rw [hstep]
      have ez' : Ext w wz.drew := ez.trans (Ext.drew _)
      by_cases hneg : findM (trieM us) ((backL line e).take (m + 1)) < 0
      · simp (disch := omega) only [SX, Nat.reduceAdd, hneg]
        exact ⟨v, m, rfl, hv, hm, .inr hneg, row_ext hr (Ext.drew _), ez'⟩
      · have hwl : winL us line e (m + 1) = winL us line e m ++ (if 0 ≤ wordM (trieM us) (findM (trieM us) ((backL line e).take (m + 1))) then [((e : Int) - ((m + 1 : Nat) : Int), (e : Int))] else []) := by
          unfold winL
          rw [List.range_succ, List.filter_append, List.map_append]
          congr 1
          by_cases hww : 0 ≤ wordM (trieM us) (findM (trieM us) ((backL line e).take (m + 1)))
          · rw [if_pos hww]; simp [hww]
          · rw [if_neg hww]; simp [hww]
        obtain ⟨v2, hv2⟩ : ∃ v2 : Nat, findM (trieM us) ((backL line e).take (m + 1)) = (v2 : Int) := ⟨(findM (trieM us) ((backL line e).take (m + 1))).toNat, by omega⟩
        rw [hv2] at hwl ⊢
        have hi3 : (i2 : Int) - 1 = (e : Int) - 1 - ((m + 1 : Nat) : Int) := by omega
        have w1' := (w1.ext ez).drew
        simp (disch := omega) only [SX, Nat.reduceAdd, show ¬ ((v2 : Int) < 0) by omega, LD_115 (w1'.cell (i := 0) rfl)]
        refine CALL_of (back_Whole ((w2.ext ez).ext (Ext.drew wz)) (v2 : Int)) ?_
        rintro r wq ⟨rfl, rfl⟩
        have hr' := row_ext hr (Ext.drew wz)
        have hwll := winL_len (us := us) line e m
        by_cases hww : 0 ≤ wordM (trieM us) (v2 : Int)
        · rw [if_pos hww] at hwl
          simp (disch := omega) only [SX, Nat.reduceAdd, hww]
          refine BS_37_1 fun wa oa ea za => ?_
          obtain ⟨Ao, co, rfl, _⟩ := row_shape hr'
          have hra := row_ext hr' ea
          refine APPEND (by kernel_rfl) IN_57 rfl (by omega) hra (news := [.int .i64 (i2 : Int), .int .i64 (e : Int)]) rfl (fun q u hq => by rw [addr_add]; exact oa.cell (by simpa using hq)) (by simp [Value.oneCell']) (by omega) (by unfold maxLen; omega) (by omega) (by have := ez'.size; have := ea.size; omega) fun g cap wb ob cb gb => ?_
          try simp (disch := omega) only [SX, Nat.reduceAdd, hi3]
          refine ⟨⟨v2, m + 1, rfl, rfl, hv2.symm, by omega, ?_, (ez'.trans ea).ext_of cb fun q hq => row_base hra q hq⟩, by show (((e : Int) - 1 - ((m + 1 : Nat) : Int)) + 1).toNat < (((i2 : Int)) + 1).toNat; omega⟩
          rw [hwl, List.length_append, List.flatMap_append]
          have : (i2 : Int) = (e : Int) - ((m + 1 : Nat) : Int) := by omega
          rw [this] at ob
          simpa [pcells] using ob
        · rw [if_neg hww, List.append_nil] at hwl
          simp (disch := omega) only [SX, Nat.reduceAdd, hww, hi3]
          refine ⟨⟨v2, m + 1, rfl, rfl, hv2.symm, by omega, by rw [hwl]; exact hr', ez'⟩, by show (((e : Int) - 1 - ((m + 1 : Nat) : Int)) + 1).toNat < (((i2 : Int)) + 1).toNat; omega⟩
    · have hlt' : ¬ (0 : Int) ≤ (e : Int) - 1 - (m : Int) := by omega
      simp (disch := omega) only [SX, Nat.reduceAdd, hlt']
      exact ⟨v, m, rfl, hv, hm, .inl (by omega), hr, ez⟩
  · rintro out av wz ⟨v, m, rfl, hv, hm, hstop, hr, ez⟩
    have hfin := winL_stop hm hstop
    have hwll := winL_len (us := us) line e m
    have hvlt : v < (trieM us).length := by have := (findM_lo hT.ok.pos ((backL line e).take m)).2; omega
    have hp : pathM (trieM us) v = (backL line e).take m := by
      rw [hv, path_find hT.ok _ (by omega)]
    have hdep : depM (trieM us) v = m := by
      unfold depM; rw [hp, List.length_take, hbl]; omega
    have hy : F[v]? = some (F[v]'(by omega)) := List.getElem?_eq_getElem (by omega)
    have hyok := hFO.b.ok _ (List.getElem_mem (show v < F.length by omega))
    generalize F[v]'(by omega) = y at *
    obtain ⟨tb, t1, t2, _⟩ := id (w2.ext ez).ex
    have hsl := (SlG.of_row pcells_len (by omega) hr (by omega)).1
    rw [← hfin] at hsl
    simp (disch := omega) only [SX, Nat.reduceAdd, LD_115 ((w1.ext ez).cell (i := 0) rfl), LD_90 (t1.cell (i := 0) rfl)]
    refine CALL_of (trie_Depth' t2 hT.ok hvlt) ?_
    rintro r wq ⟨rfl, rfl⟩
    rw [hdep]
    by_cases hme : m = e
    · have hme' : (e : Int) - (m : Int) = 0 := by omega
      simp (disch := omega) only [SX, Nat.reduceAdd, hme', LD_117 ((w1.ext ez).cell (i := 1) rfl)]
      refine CALL_of (shifts_Second (w3.ext ez) (by omega) hy) ?_
      rintro r wr ⟨rfl, er⟩
      obtain ⟨far, hfar⟩ : ∃ far : Nat, y.2 = (far : Int) := ⟨y.2.toNat, by omega⟩
      rw [hfar]
      refine k _ _ ⟨⟨out, far, rfl, hsl.ext er, by omega, by omega, ?_⟩, ez.trans er⟩
      intro d h1 h2 h3
      exact safe w2.ok hFO he hm hvlt hp hy (far := y.2) ⟨fun _ => Int.le_refl _, fun hh => by omega⟩ (by omega) d h1 (by omega) h3
    · have hme' : ¬ (e : Int) - (m : Int) = 0 := by omega
      have hix : (e : Int) - (m : Int) - 1 = ((e - 1 - m : Nat) : Int) := by omega
      obtain ⟨bx, ox, cx, hvx, hcx⟩ := (hlv'.ext ez).at (i := e - 1 - m) (by omega)
      injection hvx with hA _ hcc
      subst hA hcc
      have hin : e - 1 - m < line.length := by omega
      simp (disch := omega) only [SX, Nat.reduceAdd, DRAWQ, hme', hix, RD_117 ((w1.ext ez).cell (i := 1) rfl), RD_5 hcx]
      refine CALL_of (shifts_Far ((w2.ext ez).ext (Ext.drew wq)) ((w3.ext ez).ext (Ext.drew wq)) (by omega) hFO.b hy (by omega) line[e - 1 - m]) ?_
      rintro r wr ⟨⟨x, hx, rfl⟩, er⟩
      rw [hdep]
      have hfb : 1 ≤ min y.2 (max y.1 ((if 0 < x then min (least + 1) x else least + 1) - (m : Int) - 1)) ∧ min y.2 (max y.1 ((if 0 < x then min (least + 1) x else least + 1) - (m : Int) - 1)) ≤ least := by omega
      obtain ⟨far, hfar⟩ : ∃ far : Nat, min y.2 (max y.1 ((if 0 < x then min (least + 1) x else least + 1) - (m : Int) - 1)) = (far : Int) := ⟨(min y.2 (max y.1 ((if 0 < x then min (least + 1) x else least + 1) - (m : Int) - 1))).toNat, by omega⟩
      rw [hfar] at hfb ⊢
      refine k _ _ ⟨⟨out, far, rfl, (hsl.ext (Ext.drew _)).ext er, by omega, by omega, ?_⟩, ez.trans ((Ext.drew _).trans er)⟩
      intro d h1 h2 h3
      exact safe w2.ok hFO he hm hvlt hp hy (far := (far : Int)) ⟨fun hh => by omega, fun _ => ⟨x, hx, by rw [← hfar]; exact Int.le_refl _⟩⟩ (by omega) d h1 (by omega) h3

/-! ### All windows -/
def WalkAt (us : List (List UInt8)) (line : List UInt8) (e : Nat) (L : List (Int × Int)) : Prop := ∀ p, p ∈ L ↔ ∃ u ∈ us, ∃ e' : Nat, e' < e ∧ e' ≤ line.length ∧ u <+: backL line e' ∧ p = ((e' : Int) - (u.length : Int), (e' : Int))

theorem cwalter_walk {b : Nat} {lv : Value} {line : List UInt8} (h : IsWalter w lo hi b us) (hlv : SlB w lv line) (hlb : line.length ≤ 4096) (hbig : (trieM us).length ≤ 2 ^ 30) (hne : ∀ u ∈ us, u ≠ []) :
    RET Tryz.prog 54 [.pointer (some ⟨b, 0, none⟩), lv] w fun r w' => (∃ (out ends : Value) (L : List (Int × Int)) (E : List Int), r = .tuple #[out, ends] ∧ SlG pcells w' out L ∧ L.length ≤ 2 ^ 38 ∧ (∀ p, p ∈ L ↔ ∃ u ∈ us, ∃ e' : Nat, e' ≤ line.length ∧ u <+: backL line e' ∧ p = ((e' : Int) - (u.length : Int), (e' : Int))) ∧ SlI w' ends E ∧ (∀ u ∈ us, (∀ v ∈ us, u.length ≤ v.length) → u.length ≤ line.length → E.head? = some (u.length : Int))) ∧ Ext w w' := by
  obtain ⟨bb, sb, mid, least, N, F, w1, w2, w3, w4, w5, w6, w7⟩ := id h.ex
  have hlow := w2.ok.low.1
  have hsml := w2.ok.small.1
  have hll := hlv.len
  have hlv' := hlv
  obtain ⟨Al, cl, rfl⟩ := hlv.shape
  refine RET_by fun R k => ?_
  apply by_cwalter_Walter_walk
  unfold sh_cwalter_Walter_walk
  by_cases hus : us = []
  · have h0 := w2.ok.none hus
    subst h0
    refine ⟨fun _ => False, ?_, fun _ h => h.elim⟩
    simp (disch := omega) only [SX, Nat.reduceAdd, LD_115 (w1.cell (i := 0) rfl)]
    refine CALL_of (back_Least w2) ?_
    rintro r wz ⟨rfl, rfl⟩
    simp (disch := omega) only [SX, Nat.reduceAdd]
    refine k _ _ ⟨⟨_, _, [], [], rfl, ⟨none, 0, rfl, .inl rfl, Nat.le_refl _, by simp⟩, by simp, fun p => ?_, ⟨none, 0, rfl, .inl rfl, Nat.le_refl _, by simp⟩, fun u hu => by rw [hus] at hu; cases hu⟩, Ext.refl _⟩
    rw [hus]
    simp
  have hleast : 0 < least := by
    obtain ⟨u, hu⟩ := List.exists_mem_of_ne_nil us hus
    exact (w2.ok.some u hu).1
  refine ⟨fun wz => wz = w, ?_, ?_⟩
  · simp (disch := omega) only [SX, Nat.reduceAdd, LD_115 (w1.cell (i := 0) rfl)]
    refine CALL_of (back_Least w2) ?_
    rintro r wz ⟨rfl, rfl⟩
    simp (disch := omega) only [SX, Nat.reduceAdd, show ¬ (least = 0) by omega]
  rintro _ rfl
  rename_i w
  simp (disch := omega) only [SX, Nat.reduceAdd, LD_115 (w1.cell (i := 0) rfl)]
  refine CALL_of (back_Least w2) ?_
  rintro r w ⟨rfl, rfl⟩
  obtain ⟨ln, hln⟩ : ∃ ln : Nat, least = (ln : Int) := ⟨least.toNat, by omega⟩
  subst hln
  refine ⟨fun out ends ev wz => ∃ (e : Nat) (L : List (Int × Int)) (E : List Int), ev = .int .i64 e ∧ e ≤ 2 ^ 41 + 4097 ∧ ln ≤ e ∧ wz.ownsRow w.heap.size 57 2 out L.length (L.flatMap pcells) ∧ L.length ≤ 4096 * min e 4097 ∧ WalkAt us line e L ∧ wz.ownsRow w.heap.size 3 1 ends E.length (E.map vI) ∧ E.length ≤ min e 4097 ∧ (E = [] → e = ln) ∧ (E ≠ [] → E.head? = some (ln : Int)) ∧ Ext w wz, fun _ _ ev _ => 2 ^ 41 + 5000 - vnat ev,
    ⟨ln, [], [], rfl, by omega, Nat.le_refl _, World.ownsRow_nil _ _ _ _, by simp, ?_, World.ownsRow_nil _ _ _ _, by simp, fun _ => rfl, fun h => (h rfl).elim, Ext.refl _⟩, ?_⟩
  · intro p
    simp only [List.not_mem_nil, false_iff]
    rintro ⟨u, hu, e', h1, h2, h3, _⟩
    have := (w2.ok.some u hu).2
    have hl := h3.length_le
    rw [back_len h2] at hl
    omega
  rintro out ends ev wz ⟨e, L, E, rfl, he1, he2, hr, hLl, hL, hrE, hEl, hE1, hE2, ez⟩
  by_cases hlt : e ≤ line.length
  · have hlt' : (e : Int) ≤ (line.length : Int) := by omega
    simp (disch := omega) only [SX, Nat.reduceAdd, hlt']
    refine CALL_of (cwalter_window (h.ext ez) (hlv'.ext ez) hlb hbig hne hus hlt) ?_
    rintro r wq ⟨⟨o2, far, rfl, hs2, hf1, hf2, hsafe⟩, eq⟩
    simp (disch := omega) only [SX, Nat.reduceAdd]
    have hwl := winL_len (us := us) line e e
    have ezq := ez.trans eq
    have step : WalkAt us line (e + far) (L ++ winL us line e e) := by
      intro p
      rw [List.mem_append, hL p, winL_mem hlt hne]
      constructor
      · rintro (⟨u, hu, e', h1, h2, h3, h4⟩ | ⟨u, hu, h3, h4⟩)
        · exact ⟨u, hu, e', by omega, h2, h3, h4⟩
        · exact ⟨u, hu, e, by omega, hlt, h3, h4⟩
      · rintro ⟨u, hu, e', h1, h2, h3, h4⟩
        rcases Nat.lt_trichotomy e' e with hl | rfl | hl
        · exact .inl ⟨u, hu, e', hl, h2, h3, h4⟩
        · exact .inr ⟨u, hu, h3, h4⟩
        · exfalso
          obtain ⟨d, rfl⟩ : ∃ d, e' = e + d := ⟨e' - e, by omega⟩
          exact hsafe d (by omega) (by omega) h2 u hu h3
    have key : ∀ (ow : Value) (wa : World), wa.ownsRow w.heap.size 57 2 ow (L ++ winL us line e e).length ((L ++ winL us line e e).flatMap pcells) → Chg (fun k => some k = out.ownBlock) wq wa → RUN Tryz.prog (Instr.buildSlice 105 1 #[(0, .int .i64 (e : Int))]) wa fun x wb => RUN Tryz.prog (Builtin.append_ #[105, 105] 105 #[ends, x]) wb fun en wc => ∃ (e' : Nat) (L' : List (Int × Int)) (E' : List Int), Value.int .i64 ((e : Int) + (far : Int)) = .int .i64 e' ∧ e' ≤ 2 ^ 41 + 4097 ∧ ln ≤ e' ∧ wc.ownsRow w.heap.size 57 2 ow L'.length (L'.flatMap pcells) ∧ L'.length ≤ 4096 * min e' 4097 ∧ WalkAt us line e' L' ∧ wc.ownsRow w.heap.size 3 1 en E'.length (E'.map vI) ∧ E'.length ≤ min e' 4097 ∧ (E' = [] → e' = ln) ∧ (E' ≠ [] → E'.head? = some (ln : Int)) ∧ Ext w wc ∧ e < e' := by
      intro ow wa hra ca
      refine BS_105_1 fun wb ob eb zb => ?_
      have hrE2 : wa.ownsRow w.heap.size 3 1 ends E.length (E.map vI) := row_chg (row_ext hrE eq) ca (fun q hq hq2 => rows_ne hrE hr hq hq2.symm (by decide) rfl)
      have hrEb := row_ext hrE2 eb
      have zza := ezq.size
      have zca := ca.size
      refine PUSH1 (by kernel_rfl) IN_3 rfl hrEb ob rfl (by unfold maxLen; omega) (by omega) (by have := eb.size; omega) fun en wc oc cc gc => ?_
      have eax : Ext w wa := ezq.ext_of ca fun q hq => row_base hr q hq
      refine ⟨e + far, _, E ++ [(e : Int)], vi (by omega), by omega, by omega, row_chg (row_ext hra eb) cc (fun q hq hq2 => rows_ne hra hrE2 hq hq2.symm (by decide) rfl), by rw [List.length_append]; omega, step, by simpa [vI] using oc, by simp only [List.length_append, List.length_cons, List.length_nil]; omega, fun hh => by simp at hh, fun _ => ?_, (eax.trans eb).ext_of cc fun q hq => row_base hrEb q hq, by omega⟩
      cases E with
      | nil => rw [hE1 rfl]; rfl
      | cons a E => exact hE2 (by simp)
    obtain ⟨A2, c2, rfl⟩ := hs2.shape
    obtain ⟨Ao, co, rfl, hco⟩ := row_shape hr
    have hrq := row_ext hr eq
    by_cases hz : winL us line e e = []
    · rw [hz]
      refine APPENDZ (by kernel_rfl) SZ_57 _ _ _ _ _ hco ?_
      refine RUN_mono (key _ wq (by rw [hz, List.append_nil]; exact hrq) (Chg.refl _ _)) fun x wb hx => RUN_mono hx fun en wc hy => ?_
      obtain ⟨e', L', E', q1, q2, q3, q4, q5, q6, q7, q8, q9, q10, q11, q12⟩ := hy
      try simp (disch := omega) only [SX, Nat.reduceAdd]
      exact ⟨⟨e', L', E', q1, q2, q3, q4, q5, q6, q7, q8, q9, q10, q11⟩, by rw [q1]; simp only [vnat_int]; omega⟩
    · have hpos : 0 < (winL us line e e).length := List.length_pos_iff.2 hz
      obtain ⟨A2', c2', he2', hrd, _, _⟩ := id hs2
      injection he2' with q1 _ q3
      subst q1 q3
      rcases hrd with hrd | ⟨b2, p2, rfl, hrd⟩
      · exfalso
        have := congrArg List.length hrd
        rw [flatMap_len pcells_len] at this
        simp at this
        omega
      refine APPEND (by kernel_rfl) IN_57 rfl (by omega) hrq (news := (winL us line e e).flatMap pcells) (by rw [flatMap_len pcells_len]) (fun q u hq => by rw [addr_add]; exact hrd q u hq) (fun u hu => by
        obtain ⟨p, _, hp⟩ := List.mem_flatMap.1 hu
        simp [pcells] at hp
        rcases hp with rfl | rfl <;> rfl) hpos (by unfold maxLen; omega) (by omega) (by have := ezq.size; omega) fun g cap wa oa ca ga => ?_
      refine RUN_mono (key _ wa (by rw [List.length_append, List.flatMap_append]; exact oa) ca) fun x wb hx => RUN_mono hx fun en wc hy => ?_
      obtain ⟨e', L', E', q1, q2, q3, q4, q5, q6, q7, q8, q9, q10, q11, q12⟩ := hy
      try simp (disch := omega) only [SX, Nat.reduceAdd]
      exact ⟨⟨e', L', E', q1, q2, q3, q4, q5, q6, q7, q8, q9, q10, q11⟩, by rw [q1]; simp only [vnat_int]; omega⟩
  · have hlt' : ¬ (e : Int) ≤ (line.length : Int) := by omega
    simp (disch := omega) only [SX, Nat.reduceAdd, hlt']
    refine k _ _ ⟨⟨out, ends, L, E, rfl, (SlG.of_row pcells_len (by omega) hr (by omega)).1, by omega, fun p => ?_, (SlI.of_row hrE (by omega)).1, fun u hu hmin hul => ?_⟩, ez⟩
    · rw [hL p]
      constructor
      · rintro ⟨u, hu, e', h1, h2, h3, h4⟩; exact ⟨u, hu, e', h2, h3, h4⟩
      · rintro ⟨u, hu, e', h2, h3, h4⟩; exact ⟨u, hu, e', by omega, h2, h3, h4⟩
    · have hleq : (ln : Int) = (u.length : Int) := by
        rcases w2.ok.att with hh | ⟨v, hv1, hv2⟩
        · exact (hus hh).elim
        · have := hmin v hv1
          have := (w2.ok.some u hu).2
          omega
      rw [← hleq]
      apply hE2
      intro hh
      have := hE1 hh
      omega

theorem back_occ {ls : List (List UInt8)} {line : List UInt8} (p : Int × Int) : (∃ u ∈ turnL ls, ∃ e' : Nat, e' ≤ line.length ∧ u <+: backL line e' ∧ p = ((e' : Int) - (u.length : Int), (e' : Int))) ↔ IsOcc ls line p := by
  constructor
  · rintro ⟨u, hu, e', h2, h3, rfl⟩
    obtain ⟨h4, h5⟩ := turn_mem.1 hu
    have hl := h3.length_le
    rw [back_len h2] at hl
    refine ⟨u.reverse, h5, by simpa using h4, e' - u.length, ?_, ?_⟩
    · refine (occ_back (e := e') (by rw [List.length_reverse]; omega) h2).2 ?_
      rw [List.reverse_reverse]
      exact h3
    · rw [Prod.mk.injEq, List.length_reverse]
      omega
  · rintro ⟨t, h1, h2, a, h3, rfl⟩
    have hl := h3.length_le
    rw [List.length_drop] at hl
    have h0 : 0 < t.length := List.length_pos_iff.2 h2
    refine ⟨t.reverse, turn_mem.2 ⟨by simpa using h2, by simpa using h1⟩, a + t.length, by omega, (occ_back rfl (by omega)).1 h3, ?_⟩
    rw [Prod.mk.injEq, List.length_reverse]
    omega
theorem turn_ne {ls : List (List UInt8)} : ∀ u ∈ turnL ls, u ≠ [] := fun u hu => (turn_mem.1 hu).1

theorem cwalter_ScanF {b : Nat} {lv : Value} {line : List UInt8} {ls : List (List UInt8)} (h : IsWalter w lo hi b (turnL ls)) (hlv : SlB w lv line) (hlb : line.length ≤ 4096) (hbig : (trieM (turnL ls)).length ≤ 2 ^ 30) :
    RET Tryz.prog 32 [.pointer (some ⟨b, 0, none⟩), lv] w fun r w' => (∃ L, SlG pcells w' r L ∧ Rising L ∧ (∀ p, p ∈ L ↔ IsOcc ls line p) ∧ L.length ≤ 2 ^ 38) ∧ (∀ k, r.ownBlock = some k → w.heap.size ≤ k) ∧ Ext w w' := by
  refine RET_by fun R k => ?_
  apply by_cwalter_Walter_Scan
  unfold sh_cwalter_Walter_Scan
  refine CALL_of (cwalter_walk h hlv hlb hbig turn_ne) ?_
  rintro r w1 ⟨⟨out, ends, L, E, rfl, hs, hl, hm, _, _⟩, e1⟩
  simp (disch := omega) only [SX, Nat.reduceAdd]
  refine CALL_of (pairs_Sort L.length hs (Nat.le_refl _) (by omega)) ?_
  rintro v w6 ⟨r, hr6, g6, mem6, l6, f6, e6⟩
  exact k _ _ ⟨⟨r, hr6, g6, fun p => by rw [mem6, hm, back_occ], by omega⟩, fun k hk => by have := e1.size; have := f6 k hk; omega, e1.trans e6⟩

theorem cwalter_Scan {b : Nat} {lv : Value} {line : List UInt8} {ls : List (List UInt8)} (h : IsWalter w lo hi b (turnL ls)) (hlv : SlB w lv line) (hlb : line.length ≤ 4096) (hbig : (trieM (turnL ls)).length ≤ 2 ^ 30) :
    RET Tryz.prog 32 [.pointer (some ⟨b, 0, none⟩), lv] w fun r w' => (∃ L, SlG pcells w' r L ∧ Rising L ∧ (∀ p, p ∈ L ↔ IsOcc ls line p) ∧ L.length ≤ 2 ^ 38) ∧ Ext w w' :=
  (cwalter_ScanF h hlv hlb hbig).mono fun _ _ x => ⟨x.1, x.2.2⟩

end
end Go.Proofs.YtgjfhmahiiokeaaGreat.Y
