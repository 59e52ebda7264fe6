import Derived.Test.YtgjfhmahiiokeaaGreatLib
import Derived.Test.YtgjfhmahiiokeaaGreatBulk
import Derived.WalkKit
import Derived.ProofKit
import Derived.OpenShut
import Derived.JoinedCond
import Derived.Deep.Matrix
set_option linter.unusedVariables false
set_option linter.unusedSimpArgs false
set_option linter.unusedVariables false
set_option linter.unusedSimpArgs false
set_option maxRecDepth 8000
namespace Go.Proofs.YtgjfhmahiiokeaaGreat.Y
open Go Go.Sx Go.ChangeShapes Go.WideShapes Go.ChangeAt Go.RowKit Go.Deep

theorem ext_below {w w' : World} (h : Ext w w') : Below w.heap.size w w' := ⟨h.os, h.tape, h.output, h.size, fun k hk => h.block k hk (fun x => x)⟩

def byteI (n : Int) : UInt8 := UInt8.ofNat n.toNat
theorem byteI_v {n : Int} (h : (Lit.int .u8 n).wf = true) : vB (byteI n) = .int .u8 n := by
  have hx : 0 ≤ n ∧ n ≤ 255 := by simpa [Lit.wf, IntKind.min, IntKind.max, IntKind.signed, IntKind.bits] using h
  unfold vB byteI
  congr 1
  simp only [UInt8.toNat_ofNat']
  omega

theorem cell_spot {w : World} {a : Addr} {v : Value} (h : w.cell? a = some v) : ∃ b o, a = ⟨b, o, none⟩ := by
  obtain ⟨b, o, sp⟩ := a
  cases sp with
  | none => exact ⟨b, o, rfl⟩
  | some k =>
    exfalso
    simp only [World.cell?] at h
    split at h <;> simp at h
theorem rd_add {w : World} {a : Addr} {vs : List Value} (h : ∀ i v, vs[i]? = some v → w.cell? (a.add i) = some v) : Rd w (some a) vs := by
  cases vs with
  | nil => exact .inl rfl
  | cons x r =>
    have h0 := h 0 x rfl
    rw [show a.add 0 = a from by simp [Addr.add]] at h0
    obtain ⟨b, o, rfl⟩ := cell_spot h0
    exact .inr ⟨b, o, rfl, fun i v hi => by have := h i v hi; rwa [addr_add] at this⟩

section
variable {H : Type} {enc : TypeId × Value → H} {P : Program} {W : World}

/-- Texts that came in, as they are read. -/
theorem slT_arg {t e q : TypeId} (ht : P.underlying t = some (.slice e)) (he : P.underlying e = some (.slice q)) (hq : P.underlying q = some (.int .u8)) (ce : P.cellsOf e = 1) (cq : P.cellsOf q = 1)
    {a : Option Addr} {len cap fuel : Nat} {x : DataW H × List MemPlace} (h : DataW.trod enc P W 0 (fun _ => true) true fuel t [.slice a len cap] = some x) {bound : Nat} (hb : bound ≤ 140737488355328)
    (hbulk : ∀ es sp, x.1 = .slice es sp → es.length ≤ bound ∧ ∀ d ∈ es, ∀ es' sp', d = .slice es' sp' → es'.length ≤ bound) : ∃ ls, SlT W (.slice a len cap) ls ∧ ls.length ≤ bound := by
  rcases open_int_rows ht he hq ce cq h with ⟨hcs, rfl⟩ | ⟨a, len', cap', A, L, C, Z, hcs, _, hl, hm, rfl, hr⟩
  · simp only [List.cons.injEq, Value.slice.injEq, and_true] at hcs
    obtain ⟨rfl, rfl, rfl⟩ := hcs
    exact ⟨[], ⟨none, 0, [], rfl, .inl rfl, rfl, Nat.le_refl _, by simp, fun i hi => by simp at hi⟩, by simp⟩
  · simp only [List.cons.injEq, Value.slice.injEq, and_true] at hcs
    obtain ⟨rfl, rfl, rfl⟩ := hcs
    obtain ⟨hb1, hb2⟩ := hbulk _ _ rfl
    simp only [List.length_map, List.length_range] at hb1
    refine ⟨(List.range len).map fun r => ((Z r).take (L r)).map byteI, ⟨some a, cap, (List.range len).map fun r => .slice (A r) (L r) (C r), by simp, ?_, by simp, by simpa using hl, by simp; omega, ?_⟩, by simpa using hb1⟩
    · refine rd_add fun i v hi => ?_
      obtain ⟨hlt, he⟩ := List.getElem?_eq_some_iff.1 hi
      simp only [List.length_map, List.length_range] at hlt
      simp only [List.getElem_map, List.getElem_range] at he
      rw [← he]
      exact (hr i (by omega)).1
    · intro i hi hi'
      simp only [List.length_map, List.length_range] at hi
      simp only [List.getElem_map, List.getElem_range]
      obtain ⟨r1, r2, r3, r4, r5, r6, r7⟩ := hr i (by omega)
      have hlen : (((Z i).take (L i)).map byteI).length = L i := by simp; omega
      have hLb : L i ≤ bound := by
        cases hA : A i with
        | none => have := r6 hA; omega
        | some a' =>
          have := hb2 (intRow .u8 (A i) (L i) (Z i)) (List.mem_map.2 ⟨i, by simpa using hi, rfl⟩) (lits .u8 ((Z i).take (L i))) (lits .u8 ((Z i).drop (L i))) (by rw [hA]; rfl)
          simp [lits] at this
          omega
      refine ⟨A i, C i, by rw [hlen], ?_, by rw [hlen]; exact r2, by rw [hlen]; omega⟩
      cases hA : A i with
      | none =>
        left
        have := r6 hA
        have h0 : L i = 0 := by omega
        simp [h0]
      | some a' =>
        obtain ⟨_, hcell⟩ := r7 a' hA
        refine rd_add fun j v hj => ?_
        obtain ⟨hlt, he⟩ := List.getElem?_eq_some_iff.1 hj
        rw [List.length_map, hlen] at hlt
        have hjz : j < (Z i).length := by omega
        rw [hcell j (by omega)]
        simp only [List.getElem_map, List.getElem_take] at he
        rw [← he, byteI_v (r5 _ (List.getElem_mem hjz))]
        simp [List.getD, hjz]

/-- Bytes that came in, as they are read. -/
theorem slB_arg {t q : TypeId} (ht : P.underlying t = some (.slice q)) (hq : P.underlying q = some (.int .u8)) (cq : P.cellsOf q = 1)
    {a : Option Addr} {len cap fuel : Nat} {x : DataW H × List MemPlace} (h : DataW.trod enc P W 0 (fun _ => true) true fuel t [.slice a len cap] = some x) {bound : Nat} (hb : bound ≤ 140737488355328)
    (hbulk : ∀ es sp, x.1 = .slice es sp → es.length ≤ bound) : ∃ l, SlB W (.slice a len cap) l ∧ l.length ≤ bound := by
  rcases open_ints ht hq cq h with ⟨hcs, rfl⟩ | ⟨a', len', cap', zs, hcs, _, hl, hm, hz, rfl, hcell, hwz⟩
  · simp only [List.cons.injEq, Value.slice.injEq, and_true] at hcs
    obtain ⟨rfl, rfl, rfl⟩ := hcs
    exact ⟨[], ⟨none, 0, rfl, .inl rfl, Nat.le_refl _, by simp⟩, by simp⟩
  · simp only [List.cons.injEq, Value.slice.injEq, and_true] at hcs
    obtain ⟨rfl, rfl, rfl⟩ := hcs
    simp only [if_true] at hz
    have hb1 := hbulk _ _ rfl
    have hlen : ((zs.take len).map byteI).length = len := by simp; omega
    have hb2 : len ≤ bound := by simp [lits] at hb1; omega
    refine ⟨(zs.take len).map byteI, ⟨some a', cap, by rw [hlen], ?_, by rw [hlen]; exact hl, by rw [hlen]; omega⟩, by rw [hlen]; exact hb2⟩
    refine rd_add fun j v hj => ?_
    obtain ⟨hlt, he⟩ := List.getElem?_eq_some_iff.1 hj
    rw [List.length_map, hlen] at hlt
    have hjz : j < zs.length := by omega
    rw [hcell j (by rw [hz]; omega)]
    simp only [List.getElem_map, List.getElem_take] at he
    rw [← he, byteI_v (hwz _ (List.getElem_mem hjz))]
    simp [List.getD, hjz]
end
end Go.Proofs.YtgjfhmahiiokeaaGreat.Y
