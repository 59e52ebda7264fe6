import Derived.Test.YtopdjdkkhpkmiaaShiftsB
import Derived.Test.YtopdjdkkhpkmiaaFound
import Derived.Test.YtopdjdkkhpkmiaaPairsB
set_option linter.unusedVariables false
set_option linter.unusedSimpArgs false
set_option linter.unusedVariables false
set_option linter.unusedSimpArgs false
set_option maxRecDepth 8000
namespace Go.Proofs.Ytopdjdkkhpkmiaa.Y
open Go Go.Sx

/-! ### From window to window -/
/-- How many bytes a line has, read back from a place, before a place: what ends there. -/
def backL (line : List UInt8) (e : Nat) : List UInt8 := (line.take e).reverse
theorem back_len {line : List UInt8} {e : Nat} (h : e ≤ line.length) : (backL line e).length = e := by
  unfold backL; rw [List.length_reverse, List.length_take]; omega
theorem back_drop {line : List UInt8} {e d : Nat} (h : e + d ≤ line.length) : (backL line (e + d)).drop d = backL line e := by
  unfold backL
  rw [List.drop_reverse, List.length_take, List.take_take]
  congr 2
  omega
theorem back_get {line : List UInt8} {e j : Nat} (h : e ≤ line.length) (hj : j < e) : (backL line e)[j]? = some (line[e - 1 - j]'(by omega)) := by
  unfold backL
  rw [List.getElem?_reverse (by rw [List.length_take]; omega), List.length_take, List.getElem?_take, if_pos (by omega)]
  rw [List.getElem?_eq_getElem (by omega)]
  congr 2
  omega
/-- A turned text stands ahead of a place. -/
theorem occ_back {line t : List UInt8} {a e : Nat} (he : e = a + t.length) (hle : e ≤ line.length) : t <+: line.drop a ↔ t.reverse <+: backL line e := by
  unfold backL
  rw [List.reverse_prefix, suffix_take hle]
  have : e - t.length = a := by omega
  rw [this]
  exact ⟨fun h => ⟨by omega, h⟩, fun h => h.2⟩

theorem pre_of_take {p q : List UInt8} {n : Nat} (h : q <+: p) (hn : q.length ≤ n) : q <+: p.take n := by
  rw [List.prefix_iff_eq_take] at h ⊢
  rw [List.take_take, Nat.min_eq_left hn]
  exact h

/-- No text ends between two windows. -/
theorem safe {us : List (List UInt8)} {least : Int} {N : List Int} {F : List (Int × Int)} (hN : NearOK us least N) (hF : FarOK (trieM us) least F) {line : List UInt8} {e m : Nat} {v : Nat} (he : e ≤ line.length) (hm : m ≤ e) (hv : v < (trieM us).length) (hp : pathM (trieM us) v = (backL line e).take m) {y : Int × Int} (hy : F[v]? = some y) {far : Int}
    (hfar : (m = e → far ≤ y.2) ∧ (∀ h : m < e, ∃ x, N[(line[e - 1 - m]'(by omega)).toNat]? = some x ∧ far ≤ min y.2 (max y.1 ((if 0 < x then min (least + 1) x else least + 1) - m - 1)))) (hfl : far ≤ least) :
    ∀ d : Nat, 1 ≤ d → (d : Int) < far → e + d ≤ line.length → ∀ u ∈ us, ¬ u <+: backL line (e + d) := by
  intro d hd hdf hed u hu hocc
  have hT := trie_for us
  have hul := (hN.some u hu).2
  have hdu : d < u.length := by omega
  have hloc := hocc.length_le
  rw [back_len hed] at hloc
  have hfy : far ≤ y.2 := by
    by_cases h : m = e
    · exact hfar.1 h
    · obtain ⟨x, _, hx⟩ := hfar.2 (by omega)
      omega
  have hfu := hT.text u hu
  have hpu := path_find hT.ok u hfu
  have hult := (findM_lo hT.ok.pos u).2
  obtain ⟨x, hx⟩ : ∃ x : Nat, findM (trieM us) u = (x : Int) := ⟨(findM (trieM us) u).toNat, by omega⟩
  rw [hx] at hpu
  have hx0 : 0 < x := by
    rcases Nat.eq_zero_or_pos x with h0 | h0
    · subst h0
      have := path_root hT.ok
      rw [show ((0 : Nat) : Int) = 0 from rfl, this] at hpu
      rw [← hpu] at hdu
      simp at hdu
    · exact h0
  have hud : u.drop d <+: backL line e := by
    rw [← back_drop hed]
    obtain ⟨r, hr⟩ := hocc
    exact ⟨r, by rw [← hr, List.drop_append_of_le_length (by omega)]⟩
  by_cases hA : u.length - d ≤ m
  · have hpre : (pathM (trieM us) x).drop d <+: pathM (trieM us) v := by
      rw [hpu, hp]
      exact pre_of_take hud (by rw [List.length_drop]; omega)
    have hw : 0 ≤ wordM (trieM us) x := (hT.word x (by omega) (by omega)).2 (by rw [hpu]; exact hu)
    have := hF.end' x hx0 (by omega) hw d hd (by rw [hpu]; omega) v y hpre hy
    omega
  · have hme : m < e := by
      have := hud.length_le
      rw [List.length_drop, back_len he] at this
      omega
    obtain ⟨z, hz, hz2⟩ := hfar.2 hme
    have hpre : u.take (d + m) <+: u := List.take_prefix _ _
    have hfp : 0 ≤ findM (trieM us) (u.take (d + m)) := (hT.find _).2 (.inr ⟨u, hu, hpre⟩)
    have hplt := (findM_lo hT.ok.pos (u.take (d + m))).2
    have hpp := path_find hT.ok _ hfp
    obtain ⟨x2, hx2⟩ : ∃ x2 : Nat, findM (trieM us) (u.take (d + m)) = (x2 : Int) := ⟨(findM (trieM us) (u.take (d + m))).toNat, by omega⟩
    rw [hx2] at hpp
    have hlen2 : (u.take (d + m)).length = d + m := by rw [List.length_take]; omega
    have hx20 : 0 < x2 := by
      rcases Nat.eq_zero_or_pos x2 with h0 | h0
      · subst h0
        have := path_root hT.ok
        rw [show ((0 : Nat) : Int) = 0 from rfl, this] at hpp
        rw [← hpp] at hlen2
        simp at hlen2
        omega
      · exact h0
    have hdrop : (pathM (trieM us) x2).drop d = pathM (trieM us) v := by
      rw [hpp, hp, List.drop_take, show d + m - d = m by omega]
      have := List.prefix_iff_eq_take.1 hud
      rw [this, List.take_take]
      congr 1
      rw [List.length_drop]
      omega
    have h1 := (hF.hit x2 hx20 (by omega) d hd (by rw [hpp, hlen2]; omega) v y (by rw [hdrop, find_of hT.ok (by omega) (by omega)]) hy).1
    have hc : u[d + m]'(by omega) = line[e - 1 - m]'(by omega) := by
      have g1 := back_get (line := line) (e := e + d) (j := d + m) hed (by omega)
      have g2 : u[d + m]? = (backL line (e + d))[d + m]? := by
        obtain ⟨r, hr⟩ := hocc
        rw [← hr, List.getElem?_append_left (by omega)]
      rw [List.getElem?_eq_getElem (by omega), g1] at g2
      have g3 := Option.some.inj g2
      rw [g3]
      congr 1
      omega
    obtain ⟨z', q1, q2, q3⟩ := hN.near u hu (d + m) (by omega)
    rw [hc, hz] at q1
    injection q1 with q1
    subst q1
    rw [if_pos q2] at hz2
    omega

structure IsWalter (w : World) (lo hi b : Nat) (us : List (List UInt8)) : Prop where
  ex : ∃ bb sb mid least N F, Own w b [.pointer (some ⟨bb, 0, none⟩), .pointer (some ⟨sb, 0, none⟩)] 122 ∧ IsBack w lo mid bb us least N ∧ IsShifts w mid hi sb bb F ∧ (least ≠ 0 → FarOK (trieM us) least F) ∧ mid ≤ hi ∧ lo ≤ b ∧ b < hi
theorem IsWalter.chg {S : Nat → Prop} {w w' : World} {lo hi b : Nat} {us : List (List UInt8)} (h : IsWalter w lo hi b us) (hc : Chg S w w') (hs : ∀ i, S i → i < lo ∨ hi ≤ i) : IsWalter w' lo hi b us := by
  obtain ⟨bb, sb, mid, least, N, F, h1, h2, h3, h4, h5, h6, h7⟩ := h.ex
  have hlm : lo ≤ mid := by obtain ⟨_, _, _, a, b, _⟩ := h2.ex; omega
  exact ⟨bb, sb, mid, least, N, F, h1.chg hc (fun hS => by have := hs _ hS; omega), h2.chg hc (fun i hi => by have := hs i hi; omega), h3.chg hc (fun i hi => by have := hs i hi; omega), h4, h5, h6, h7⟩
theorem IsWalter.ext {w w' : World} {lo hi b : Nat} {us : List (List UInt8)} (h : IsWalter w lo hi b us) (hc : Ext w w') : IsWalter w' lo hi b us := h.chg hc fun _ x => x.elim

section
variable {w : World}

theorem cwalter_New {lv : Value} {ls : List (List UInt8)} (h : SlT w lv ls) (hs : sumL ls + 1 ≤ 2 ^ 30) (hn : ls.length ≤ 2 ^ 31) : RET Try.prog 38 [lv] w fun v w' => (∃ b, v = .pointer (some ⟨b, 0, none⟩) ∧ IsWalter w' w.heap.size w'.heap.size b (turnL ls)) ∧ Ext w w' := by
  refine RET_by fun R k => ?_
  apply by_cwalter_New
  unfold sh_cwalter_New
  refine CALL_of (back_Build h (by omega) hn) ?_
  rintro v w1 ⟨⟨bb, least, N, rfl, hB⟩, e1⟩
  have hTl := trie_len (turnL ls)
  have hsl := turn_sum ls
  refine CALL_of (shifts_Build hB (by omega)) ?_
  rintro v w2 ⟨⟨sb, F, rfl, hS, hF⟩, e2⟩
  simp (disch := omega) only [SX, Nat.reduceAdd]
  refine BOXA fun w3 o3 e3 z3 => ?_
  have z1 := e1.size
  have z2 := e2.size
  have hS3 : IsShifts w3 w1.heap.size w3.heap.size sb bb F := by
    obtain ⟨rv, h1, h2, h3, h4⟩ := (hS.ext e3).ex
    exact ⟨rv, h1, h2, by omega, fun q hq => by have := h4 q hq; omega⟩
  exact k _ _ ⟨⟨_, rfl, bb, sb, _, least, N, F, o3, hB.ext (e2.trans e3), hS3, hF, by omega, by omega, by omega⟩, e1.trans (e2.trans e3)⟩
end
end Go.Proofs.Ytopdjdkkhpkmiaa.Y
