import Derived.Test.YtopdjdkkhpkmiaaOps
set_option linter.unusedVariables false
set_option linter.unusedSimpArgs false
namespace Go.Sx
open Go

/-! ### What makes memory -/
theorem NEW {P : Program} {s : Sem Value} {v : Value} {w : World} {K : Value → World → Prop} {cs : List Value} {ty : TypeId} (hrun : s.run P w = .ok v (w.alloc (.cells cs.toArray ty)))
    (k : ∀ w', Own w' w.heap.size cs ty → Ext w w' → w'.heap.size = w.heap.size + 1 → K v w') : RUN P s w K := by
  rw [RUN_eq hrun]
  exact k _ (Own.alloc_new w cs ty) (Ext.alloc w _) (by simp)

/-- A new variable of one cell. -/
theorem BOX1 {P : Program} {t : TypeId} {v : Value} {w : World} {K : Value → World → Prop} (hv : v.cells = #[v])
    (k : ∀ w', Own w' w.heap.size [v] t → Ext w w' → w'.heap.size = w.heap.size + 1 → K (.pointer (some ⟨w.heap.size, 0, none⟩)) w') : RUN P (Instr.box t v) w K :=
  NEW (cs := [v]) (ty := t) (by
    show Result.ok _ (w.alloc (.cells v.cells t)) = _
    rw [hv]) k

theorem BOXA {P : Program} {t : TypeId} {cs : List Value} {w : World} {K : Value → World → Prop}
    (k : ∀ w', Own w' w.heap.size cs t → Ext w w' → w'.heap.size = w.heap.size + 1 → K (.pointer (some ⟨w.heap.size, 0, none⟩)) w') : RUN P (Instr.box t (.agg cs.toArray)) w K :=
  NEW (cs := cs) (ty := t) rfl k

theorem ALLOC {P : Program} {t : TypeId} {z : Value} {cs : List Value} {w : World} {K : Value → World → Prop} (hz : (P.info? t).map (·.zero) = some (some z)) (hcs : z.cells = cs.toArray)
    (k : ∀ w', Own w' w.heap.size cs t → Ext w w' → w'.heap.size = w.heap.size + 1 → K (.pointer (some ⟨w.heap.size, 0, none⟩)) w') : RUN P (Instr.alloc t true (.tuple #[])) w K := by
  obtain ⟨i, hi, hzi⟩ := Option.map_eq_some_iff.1 hz
  refine NEW (cs := cs) (ty := t) ?_ k
  simp only [Instr.alloc, zeroValue, typeInfo, program, pure, bind, Sem.bind, Sem.run, hi, hzi]
  show Result.ok _ (w.alloc (.cells z.cells t)) = _
  rw [hcs]

/-! ### Stores -/
theorem setCell_own {w : World} {b i : Nat} {cs : List Value} {ty : TypeId} (h : Own w b cs ty) (v : Value) : Own (w.setCell ⟨b, i, none⟩ v) b (cs.set i v) ty := by
  unfold Own World.setCell
  simp only
  rw [Array.getElem?_modify, if_pos rfl, show w.heap[b]? = _ from h]
  simp

theorem setCell_chg (w : World) (b i : Nat) (v : Value) : Chg (fun k => k = b) w (w.setCell ⟨b, i, none⟩ v) := by
  refine ⟨rfl, rfl, rfl, by simp [World.setCell], fun k hk hn => ?_⟩
  simp only [World.setCell]
  rw [Array.getElem?_modify]
  rw [if_neg (fun e => hn e.symm)]

theorem run_store {P : Program} {t : TypeId} {w : World} {b i : Nat} {cs : List Value} {ty : TypeId} {v : Value} (hs : (P.info? t).map (·.size) = some 1) (h : Own w b cs ty) (hi : i < cs.length) (hv : v.cells = #[v]) (h1 : v.oneCell' = true) :
    (Instr.storeAt t (.pointer (some ⟨b, i, none⟩)) v).run P w = .ok () (w.setCell ⟨b, i, none⟩ v) := by
  obtain ⟨inf, hinf, hn⟩ := Option.map_eq_some_iff.1 hs
  have hc := h.cell (List.getElem?_eq_getElem hi)
  have hf : w.frozen? ⟨b, i, none⟩ = false := by
    simp [World.frozen?, show w.heap[b]? = _ from h]
  simp only [Instr.storeAt, Instr.sureAddr, storeVar, sizeOf, typeInfo, program, pure, bind, Sem.bind, Sem.run, hinf, hn, hv]
  simp only [List.size_toArray, List.length_cons, List.length_nil, ne_eq, not_true, if_false, storeCells, store, bind, Sem.bind, pure]
  have ha : (⟨b, i, none⟩ : Addr).add 0 = ⟨b, i, none⟩ := by simp [Addr.add]
  rw [ha]
  cases v <;> first | (simp [Value.oneCell'] at h1; done) | simp [Sem.run, hc, hf]

theorem STORE {P : Program} {t : TypeId} {w : World} {b i : Nat} {cs : List Value} {ty : TypeId} {v : Value} {K : World → Prop} (hs : (P.info? t).map (·.size) = some 1) (h : Own w b cs ty) (hi : i < cs.length) (hv : v.cells = #[v]) (h1 : v.oneCell' = true)
    (k : ∀ w', Own w' b (cs.set i v) ty → Chg (fun k => k = b) w w' → w'.heap.size = w.heap.size → K w') : RUNU P (Instr.storeAt t (.pointer (some ⟨b, i, none⟩)) v) w K := by
  rw [RUNU_eq (run_store hs h hi hv h1)]
  exact k _ (setCell_own h v) (setCell_chg w b i v) (by simp [World.setCell])

/-- Cells that are turned, one behind the other. -/
def putAt (cs : List Value) : Nat → List Value → List Value
  | _, [] => cs
  | o, v :: vs => putAt (cs.set o v) (o + 1) vs

theorem putAt_length (vs : List Value) : ∀ (cs : List Value) (o : Nat), (putAt cs o vs).length = cs.length := by
  induction vs with
  | nil => intro cs o; rfl
  | cons v vs ih => intro cs o; rw [putAt, ih, List.length_set]

theorem run_storeCells_own {P : Program} {b o : Nat} {ty : TypeId} : ∀ (vs : List Value) (i : Nat) (cs : List Value) (w : World), Own w b cs ty → o + i + vs.length ≤ cs.length → (∀ v ∈ vs, v.oneCell' = true) →
    ∃ w', (storeCells ⟨b, o, none⟩ vs i).run P w = .ok () w' ∧ Own w' b (putAt cs (o + i) vs) ty ∧ Chg (fun k => k = b) w w' ∧ w'.heap.size = w.heap.size
  | [], i, cs, w, h, _, _ => ⟨w, rfl, h, Chg.refl _ w, rfl⟩
  | v :: vs, i, cs, w, h, hl, h1 => by
    simp only [List.length_cons] at hl
    have hi : o + i < cs.length := by omega
    have hc := h.cell (List.getElem?_eq_getElem hi)
    have hf : w.frozen? ⟨b, o + i, none⟩ = false := by simp [World.frozen?, show w.heap[b]? = _ from h]
    obtain ⟨w', hr, ho, hg, hz⟩ := run_storeCells_own (P := P) (o := o) vs (i + 1) (cs.set (o + i) v) (w.setCell ⟨b, o + i, none⟩ v) (setCell_own h v) (by rw [List.length_set]; omega) (fun u hu => h1 u (by simp [hu]))
    refine ⟨w', ?_, ?_, ?_, ?_⟩
    · unfold storeCells
      simp only [store, bind, Sem.bind, addr_add]
      have hv := h1 v (by simp)
      cases v <;> first | (simp [Value.oneCell'] at hv; done) | (simp only [Sem.run, hc, hf, Bool.false_eq_true, if_false]; exact hr)
    · rw [putAt]; rw [Nat.add_assoc] at *; exact ho
    · exact (setCell_chg w b (o + i) v).then hg (fun _ _ x => x) (fun _ _ x => x)
    · rw [hz]; simp [World.setCell]

theorem STOREA {P : Program} {t : TypeId} {n : Nat} {w : World} {b i : Nat} {cs vs : List Value} {ty : TypeId} {K : World → Prop} (hs : (P.info? t).map (·.size) = some n) (hn : vs.length = n) (h : Own w b cs ty) (hi : i + vs.length ≤ cs.length) (h1 : ∀ v ∈ vs, v.oneCell' = true)
    (k : ∀ w', Own w' b (putAt cs i vs) ty → Chg (fun k => k = b) w w' → w'.heap.size = w.heap.size → K w') : RUNU P (Instr.storeAt t (.pointer (some ⟨b, i, none⟩)) (.agg vs.toArray)) w K := by
  obtain ⟨inf, hinf, hn'⟩ := Option.map_eq_some_iff.1 hs
  obtain ⟨w', hr, ho, hg, hz⟩ := run_storeCells_own (P := P) (o := i) vs 0 cs w h (by omega) h1
  rw [RUNU_eq (w' := w')]
  · exact k w' (by simpa using ho) hg hz
  · have hcs : (Value.agg vs.toArray).cells.size = n := by simp [Value.cells, hn]
    simp only [Instr.storeAt, Instr.sureAddr, storeVar, sizeOf, typeInfo, program, pure, bind, Sem.bind, Sem.run, hinf, hn', hcs, ne_eq, not_true, if_false]
    exact hr

/-! ### Slices of the call's own -/
/-- append of what lies at an address, onto a row of the call's own. -/
theorem APPEND {P : Program} {t ty e : TypeId} {size bytes : Nat} {z : Value} {w : World} {K : Value → World → Prop} (ht : P.underlying t = some (.slice e)) (hinf : (P.info? e).map (fun i => (i.zero, i.size, i.bytes)) = some (some z, size, bytes))
    (hzs : z.cells.size = size) (hsz : 0 < size) {base n : Nat} {v : Value} {xs : List Value} (hown : w.ownsRow base e size v n xs) {ad : Addr} {m c : Nat} {news : List Value} (hl : news.length = m * size)
    (hnews : ∀ j u, news[j]? = some u → w.cell? (ad.add j) = some u) (h1 : ∀ u ∈ news, u.oneCell' = true) (hm : 0 < m) (h63 : n + m ≤ maxLen) (hbytes : (n + m) * bytes ≤ 140737488355328) (hbase : base ≤ w.heap.size)
    (k : ∀ g cap w', w'.ownsRow base e size (.slice (some ⟨g, 0, none⟩) (n + m) cap) (n + m) (xs ++ news) → Chg (fun j => some j = v.ownBlock) w w' → (v.ownBlock = some g ∨ g = w.heap.size) → K (.slice (some ⟨g, 0, none⟩) (n + m) cap) w') :
    RUN P (Builtin.append_ #[t, t] ty #[v, .slice (some ad) m c]) w K := by
  obtain ⟨i, hi, hzz⟩ := Option.map_eq_some_iff.1 hinf
  simp only [Prod.mk.injEq] at hzz
  obtain ⟨g, cap, w', hr, ho, hg, hb, _⟩ := run_append_lies (P := P) (w := w) t ty base e i z size bytes ht hi hzz.1 hzz.2.1 hzz.2.2 hzs hsz v n xs hown ad m c news hl hnews h1 hm h63 hbytes hbase w.heap.size rfl
  rw [RUN_eq hr]
  exact k g cap w' ho (Chg.of_grownBy hg) hb

/-- append of nothing. -/
theorem APPEND0 {P : Program} {t ty e : TypeId} {size : Nat} {w : World} {K : Value → World → Prop} (ht : P.underlying t = some (.slice e)) (hinf : (P.info? e).map (·.size) = some size) (a : Option Addr) (n c : Nat) (c' : Nat) (hn : n ≤ c) (k : K (.slice a n c) w) :
    RUN P (Builtin.append_ #[t, t] ty #[.slice a n c, .slice none 0 c']) w K := by
  obtain ⟨i, hi, hs⟩ := Option.map_eq_some_iff.1 hinf
  rw [RUN_eq (v := .slice a n c) (w' := w)]
  · exact k
  · simp only [Builtin.append_, List.getElem?_toArray, List.getElem?_cons_zero, List.getElem?_cons_succ, underlying, program, sizeOf, typeInfo, pure, bind, Sem.bind, Sem.run, ht, hi, Builtin.lenOf, Nat.add_zero, if_pos hn, Builtin.firstCells]
    cases a <;> simp [Sem.bind, Sem.run, Builtin.firstCells, pure, storeCells, bind, hn]

theorem MAKE {P : Program} {t e : TypeId} {z : Value} {bytes : Nat} {w : World} {K : Value → World → Prop} (ht : P.underlying t = some (.slice e)) (hinf : (P.info? e).map (fun i => (i.zero, i.size, i.bytes)) = some (some z, 1, bytes)) (hz1 : z.cells = #[z])
    {n : Nat} (hb : bytes * n ≤ 281474976710656) (h63 : n ≤ maxLen)
    (k : ∀ w', Own w' w.heap.size (List.replicate n z) e → Ext w w' → w.heap.size + 1 ≤ w'.heap.size → K (.slice (some ⟨w.heap.size, 0, none⟩) n n) w') : RUN P (Instr.makeSlice t (.int .i64 (n : Int)) (.int .i64 (n : Int))) w K := by
  obtain ⟨i, hi, hzz⟩ := Option.map_eq_some_iff.1 hinf
  simp only [Prod.mk.injEq] at hzz
  obtain ⟨w', hr, ho, hg⟩ := run_make_full (P := P) w 0 t e i z 1 ht hi hzz.1 hzz.2.1 .i64 .i64 n (by rw [hzz.2.2]; exact hb) h63 (Nat.zero_le _)
  rw [RUN_eq hr]
  have hcells : (madeCells z.cells (n * 1)).toList = List.replicate n z := by
    rw [Nat.mul_one, hz1]
    unfold madeCells
    apply List.ext_getElem
    · simp
    · intro j h1 h2
      simp [Nat.mod_one]
  rcases ho.2 with ⟨he, _⟩ | ⟨g, cap, cur, he, _, hh, hn, hm, hsz, htake⟩
  · cases he
  · injection he with e1 e2 e3
    injection e1 with e1
    injection e1 with e1
    subst e1
    subst e3
    refine k w' ?_ (Ext.of_grownBy hg) (by have := (Array.getElem?_eq_some_iff.1 hh).1; omega)
    unfold Own
    rw [hh]
    have : cur = (List.replicate n z).toArray := by
      apply Array.ext'
      simp only
      rw [← hcells]
      rw [← htake]
      rw [List.take_of_length_le]
      rw [Array.length_toList, hsz]
      exact Nat.le_refl _
    rw [this]

theorem MAKEMAP {P : Program} {t : TypeId} {w : World} {K : Value → World → Prop} (k : ∀ w', w'.heap[w.heap.size]? = some (.map #[] 0) → Ext w w' → w'.heap.size = w.heap.size + 1 → K (.map (some w.heap.size)) w') : RUN P (Instr.makeMap t none) w K := by
  rw [RUN_eq (v := .map (some w.heap.size)) (w' := w.alloc (.map #[] 0)) rfl]
  exact k _ (heap_alloc_new w _) (Ext.alloc w _) (by simp)

/-! ### Reading what came in -/
/-- Cells that are read through a slice. -/
def Rd (w : World) (A : Option Addr) (vs : List Value) : Prop := vs = [] ∨ ∃ b o, A = some ⟨b, o, none⟩ ∧ ∀ i v, vs[i]? = some v → w.cell? ⟨b, o + i, none⟩ = some v

theorem Rd.at {w : World} {A : Option Addr} {vs : List Value} (h : Rd w A vs) {i : Nat} (hi : i < vs.length) : ∃ b o, A = some ⟨b, o, none⟩ ∧ w.cell? ⟨b, o + i, none⟩ = some vs[i] := by
  rcases h with rfl | ⟨b, o, rfl, h⟩
  · simp at hi
  · exact ⟨b, o, rfl, h i _ (List.getElem?_eq_getElem hi)⟩
theorem Rd.chg {S : Nat → Prop} {w w' : World} {A : Option Addr} {vs : List Value} (h : Rd w A vs) (hc : Chg S w w') (hs : ∀ a, A = some a → ¬ S a.block) : Rd w' A vs := by
  rcases h with rfl | ⟨b, o, rfl, h⟩
  · exact .inl rfl
  · exact .inr ⟨b, o, rfl, fun i v hi => hc.cell (h i v hi) (show ¬ S b from hs ⟨b, o, none⟩ rfl)⟩
theorem Rd.ext {w w' : World} {A : Option Addr} {vs : List Value} (h : Rd w A vs) (hc : Ext w w') : Rd w' A vs := h.chg hc fun _ _ x => x
theorem Rd.lt {w : World} {A : Option Addr} {vs : List Value} (h : Rd w A vs) (hv : vs ≠ []) : ∃ b o, A = some ⟨b, o, none⟩ ∧ b < w.heap.size := by
  cases vs with
  | nil => exact (hv rfl).elim
  | cons v vs =>
    obtain ⟨b, o, e, hc⟩ := h.at (i := 0) (by simp)
    exact ⟨b, o, e, World.block_lt_of_cell? w _ hc⟩
theorem Rd.own {w : World} {b : Nat} {cs : List Value} {ty : TypeId} (h : Own w b cs ty) (o : Nat) {vs : List Value} (hv : ∀ i v, vs[i]? = some v → cs[o + i]? = some v) : Rd w (some ⟨b, o, none⟩) vs :=
  .inr ⟨b, o, rfl, fun i v hi => h.cell (hv i v hi)⟩

/-- A row of the call's own, as it is read. -/
theorem Rd.row {w : World} {base : Nat} {e : TypeId} {size n : Nat} {a : Option Addr} {c : Nat} {xs : List Value} (h : w.ownsRow base e size (.slice a n c) n xs) : Rd w a xs := by
  rcases h.2 with ⟨he, h0⟩ | ⟨g, cap, cur, he, _⟩
  · left
    have := h.1
    rw [h0] at this
    exact List.eq_nil_of_length_eq_zero (by simpa using this)
  · injection he with e1
    subst e1
    refine .inr ⟨g, 0, rfl, fun i v hi => ?_⟩
    have := h.cells (g := g) rfl i v hi
    rw [addr_add] at this
    exact this

theorem row_base {w : World} {base : Nat} {e : TypeId} {size n : Nat} {v : Value} {xs : List Value} (h : w.ownsRow base e size v n xs) (j : Nat) (hj : some j = v.ownBlock) : base ≤ j := (h.lt j hj.symm).1
theorem row_ext {w w' : World} {base : Nat} {e : TypeId} {size n : Nat} {v : Value} {xs : List Value} (h : w.ownsRow base e size v n xs) (hc : Ext w w') : w'.ownsRow base e size v n xs :=
  h.kept (row := none) ⟨hc.os, hc.tape, hc.output, hc.size, fun k hk _ => hc.block k hk (fun x => x)⟩ (by cases v.ownBlock <;> simp)
theorem row_chg {S : Nat → Prop} {w w' : World} {base : Nat} {e : TypeId} {size n : Nat} {v : Value} {xs : List Value} (h : w.ownsRow base e size v n xs) (hc : Chg S w w') (hs : ∀ k, v.ownBlock = some k → ¬ S k) : w'.ownsRow base e size v n xs := by
  refine ⟨h.1, ?_⟩
  rcases h.2 with hn | ⟨g, cap, cur, rfl, hb, hgg, rest⟩
  · exact .inl hn
  · refine .inr ⟨g, cap, cur, rfl, hb, ?_, rest⟩
    rw [hc.block g (Array.getElem?_eq_some_iff.1 hgg).1 (hs g rfl)]
    exact hgg

end Go.Sx
namespace Go.Sx
open Go

theorem STOREROW {P : Program} {t : TypeId} {w : World} {K : World → Prop} {base e size g n cap j : Nat} {xs : List Value} {v : Value} (hs : (P.info? t).map (·.size) = some 1) (h : w.ownsRow base e size (.slice (some ⟨g, 0, none⟩) n cap) n xs) (hj : j < n * size) (hv : v.cells = #[v]) (h1 : v.oneCell' = true)
    (k : ∀ w', w'.ownsRow base e size (.slice (some ⟨g, 0, none⟩) n cap) n (xs.set j v) → Chg (fun k => k = g) w w' → w'.heap.size = w.heap.size → K w') : RUNU P (Instr.storeAt t (.pointer (some ⟨g, j, none⟩)) v) w K := by
  rcases h.2 with ⟨he, _⟩ | ⟨g', cap', cur, he, hb, hh, hn, hm, hsz, htake⟩
  · cases he
  · injection he with e1 e2 e3
    injection e1 with e1
    injection e1 with e1
    subst e1
    subst e3
    have hown : Own w g cur.toList e := by simpa [Own] using hh
    have hlen : j < cur.toList.length := by
      rw [Array.length_toList, hsz]
      exact Nat.lt_of_lt_of_le hj (Nat.mul_le_mul_right _ hn)
    refine STORE hs hown hlen hv h1 fun w' ho hc hz => k w' ⟨by rw [List.length_set]; exact h.1, .inr ⟨g, cap, (cur.toList.set j v).toArray, rfl, hb, ho, hn, hm, by simp [hsz], ?_⟩⟩ hc hz
    simp only
    rw [← htake, List.take_set]

/-- A number, for a loop's measure. -/
def vnat : Value → Nat
  | .int _ n => n.toNat
  | _ => 0
theorem vnat_int (k : IntKind) (n : Int) : vnat (.int k n) = n.toNat := rfl

/-- Bytes, as they are held. -/
def vB (x : UInt8) : Value := .int .u8 x.toNat
def vI (x : Int) : Value := .int .i64 x
/-- A slice that reads as bytes. -/
def SlB (w : World) (v : Value) (l : List UInt8) : Prop := ∃ A c, v = .slice A l.length c ∧ Rd w A (l.map vB) ∧ l.length ≤ c ∧ l.length ≤ 140737488355328
/-- A slice that reads as numbers. -/
def SlI (w : World) (v : Value) (l : List Int) : Prop := ∃ A c, v = .slice A l.length c ∧ Rd w A (l.map vI) ∧ l.length ≤ c ∧ l.length ≤ 140737488355328
/-- A slice of texts. -/
def SlT (w : World) (v : Value) (ls : List (List UInt8)) : Prop := ∃ A c hs, v = .slice A ls.length c ∧ Rd w A hs ∧ hs.length = ls.length ∧ ls.length ≤ c ∧ ls.length ≤ 140737488355328 ∧ ∀ i (h : i < ls.length) (h' : i < hs.length), SlB w hs[i] ls[i]

theorem SlB.ext {w w' : World} {v : Value} {l : List UInt8} (h : SlB w v l) (hc : Ext w w') : SlB w' v l := by
  obtain ⟨A, c, h1, h2, h3⟩ := h
  exact ⟨A, c, h1, h2.ext hc, h3⟩
theorem SlI.ext {w w' : World} {v : Value} {l : List Int} (h : SlI w v l) (hc : Ext w w') : SlI w' v l := by
  obtain ⟨A, c, h1, h2, h3⟩ := h
  exact ⟨A, c, h1, h2.ext hc, h3⟩
theorem SlT.ext {w w' : World} {v : Value} {ls : List (List UInt8)} (h : SlT w v ls) (hc : Ext w w') : SlT w' v ls := by
  obtain ⟨A, c, hs, h1, h2, h3, h4, h5, h6⟩ := h
  exact ⟨A, c, hs, h1, h2.ext hc, h3, h4, h5, fun i hi hi' => (h6 i hi hi').ext hc⟩
/-- What a slice of bytes holds at a place. -/
theorem SlB.at {w : World} {v : Value} {l : List UInt8} (h : SlB w v l) {i : Nat} (hi : i < l.length) : ∃ b o c, v = .slice (some ⟨b, o, none⟩) l.length c ∧ w.cell? ⟨b, o + i, none⟩ = some (.int .u8 (l[i].toNat : Int)) := by
  obtain ⟨A, c, rfl, h2, _⟩ := h
  obtain ⟨b, o, rfl, hc⟩ := h2.at (i := i) (by simpa using hi)
  exact ⟨b, o, c, rfl, by simpa [vB] using hc⟩
theorem SlI.at {w : World} {v : Value} {l : List Int} (h : SlI w v l) {i : Nat} (hi : i < l.length) : ∃ b o c, v = .slice (some ⟨b, o, none⟩) l.length c ∧ w.cell? ⟨b, o + i, none⟩ = some (.int .i64 l[i]) := by
  obtain ⟨A, c, rfl, h2, _⟩ := h
  obtain ⟨b, o, rfl, hc⟩ := h2.at (i := i) (by simpa using hi)
  exact ⟨b, o, c, rfl, by simpa [vI] using hc⟩
theorem SlB.of_row {w : World} {base e n : Nat} {v : Value} {l : List UInt8} (h : w.ownsRow base e 1 v n (l.map vB)) (hl : l.length ≤ 140737488355328) : SlB w v l ∧ n = l.length := by
  have hn : n = l.length := by have := h.1; simp at this; omega
  subst hn
  rcases h.2 with ⟨rfl, h0⟩ | ⟨g, cap, cur, rfl, _, _, hle, _⟩
  · exact ⟨⟨none, 0, by rw [h0], by left; rw [List.eq_nil_of_length_eq_zero h0]; rfl, by omega, hl⟩, rfl⟩
  · exact ⟨⟨_, cap, rfl, Rd.row h, hle, hl⟩, rfl⟩
theorem SlI.of_row {w : World} {base e n : Nat} {v : Value} {l : List Int} (h : w.ownsRow base e 1 v n (l.map vI)) (hl : l.length ≤ 140737488355328) : SlI w v l ∧ n = l.length := by
  have hn : n = l.length := by have := h.1; simp at this; omega
  subst hn
  rcases h.2 with ⟨rfl, h0⟩ | ⟨g, cap, cur, rfl, _, _, hle, _⟩
  · exact ⟨⟨none, 0, by rw [h0], by left; rw [List.eq_nil_of_length_eq_zero h0]; rfl, by omega, hl⟩, rfl⟩
  · exact ⟨⟨_, cap, rfl, Rd.row h, hle, hl⟩, rfl⟩

/-- One more element of one cell, onto a row of the call's own. -/
theorem PUSH1 {P : Program} {t ty e : TypeId} {bytes : Nat} {z u : Value} {w : World} {K : Value → World → Prop} (ht : P.underlying t = some (.slice e)) (hinf : (P.info? e).map (fun i => (i.zero, i.size, i.bytes)) = some (some z, 1, bytes))
    (hzs : z.cells.size = 1) {base n : Nat} {v : Value} {xs : List Value} (hown : w.ownsRow base e 1 v n xs) {b c : Nat} (hb : Own w b [u] e)
    (h1 : u.oneCell' = true) (h63 : n + 1 ≤ maxLen) (hbytes : (n + 1) * bytes ≤ 140737488355328) (hbase : base ≤ w.heap.size)
    (k : ∀ v' w', w'.ownsRow base e 1 v' (n + 1) (xs ++ [u]) → Chg (fun j => some j = v.ownBlock) w w' → (v'.ownBlock = v.ownBlock ∨ v'.ownBlock = some w.heap.size) → K v' w') :
    RUN P (Builtin.append_ #[t, t] ty #[v, .slice (some ⟨b, 0, none⟩) 1 c]) w K := by
  refine APPEND ht hinf hzs (by omega) hown (news := [u]) rfl (fun j x hj => ?_) (by simpa using h1) (by omega) h63 hbytes hbase fun g cap w' ho hc hg => k _ w' ho hc ?_
  · cases j with
    | zero => simp at hj; subst hj; rw [addr_add]; exact hb.cell rfl
    | succ j => simp at hj
  · rcases hg with hg | hg
    · exact .inl (by rw [hg]; rfl)
    · exact .inr (by rw [hg]; rfl)

/-- A block of the call's own is another one than what was there. -/
theorem Chg.ext_of {w0 w w' : World} {S : Nat → Prop} (h : Ext w0 w) (k : Chg S w w') (hs : ∀ i, S i → w0.heap.size ≤ i) : Ext w0 w' :=
  h.then k (fun _ _ x => x) fun i hi x => by have := hs i x; omega

end Go.Sx
