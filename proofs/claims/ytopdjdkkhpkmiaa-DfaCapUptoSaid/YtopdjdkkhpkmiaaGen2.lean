import Derived.Test.YtopdjdkkhpkmiaaGen
import Derived.Laws.CopyRow
import Derived.Laws.IdiomCopy
import Derived.ChangeKeysEq
set_option linter.unusedVariables false
set_option linter.unusedSimpArgs false
namespace Go.Sx
open Go

theorem RUN_mono {P : Program} {s : Sem Value} {w : World} {K K' : Value → World → Prop} (h : RUN P s w K) (hk : ∀ v w', K v w' → K' v w') : RUN P s w K' := by
  unfold RUN at *
  split at h <;> first | exact hk _ _ h | exact h
theorem RUNU_mono {P : Program} {s : Sem Unit} {w : World} {K K' : World → Prop} (h : RUNU P s w K) (hk : ∀ w', K w' → K' w') : RUNU P s w K' := by
  unfold RUNU at *
  split at h <;> first | exact hk _ h | exact h

/-! ### copy, and append of nothing -/
theorem COPY {P : Program} {dT sT ty e t : TypeId} (hu : P.underlying dT = some (.slice e)) (hs : (P.info? e).map (·.size) = some 1) {w : World} {K : Value → World → Prop} {g o n c n' c' : Nat} {a : Addr} {cur cs : List Value}
    (h : Own w g cur t) (hn : cs.length = Nat.min n' n) (hsrc : ∀ j v, cs[j]? = some v → w.cell? (a.add j) = some v) (hfit : o + cs.length ≤ cur.length) (h1 : ∀ v ∈ cs, v.oneCell' = true)
    (k : ∀ w', Own w' g (cur.take o ++ cs ++ cur.drop (o + cs.length)) t → Chg (fun j => j = g) w w' → w'.heap.size = w.heap.size → K (.int .i64 cs.length) w') :
    RUN P (Builtin.copy_ #[dT, sT] ty #[.slice (some ⟨g, o, none⟩) n c, .slice (some a) n' c']) w K := by
  have hr := run_copy_row P w dT sT ty e g o n c a n' c' cur.toArray t cs hu hs h hn hsrc (by simpa using hfit) h1
  rw [RUN_eq hr]
  refine k _ ?_ ⟨rfl, rfl, rfl, by simp [World.setRow], fun j hj hne => ?_⟩ (by simp [World.setRow])
  · have := setRow_heap w g cur.toArray (cur.take o ++ cs ++ cur.drop (o + cs.length)).toArray t (0, 0) h
    simpa [Own] using this
  · simp only [World.setRow]
    rw [Array.getElem?_modify, if_neg (fun e => hne e.symm)]

theorem COPY0 {P : Program} {dT sT ty e : TypeId} (hu : P.underlying dT = some (.slice e)) (hs : (P.info? e).map (·.size) = some 1) {w : World} {K : Value → World → Prop} {n c n' c' : Nat} {a d : Option Addr}
    (hn : Nat.min n' n = 0) (k : K (.int .i64 0) w) : RUN P (Builtin.copy_ #[dT, sT] ty #[.slice d n c, .slice a n' c']) w K := by
  rw [RUN_eq (run_copy_none (P := P) w dT sT ty e d a n c n' c' hu hs hn)]
  exact k

theorem APPENDZ {P : Program} {t ty e : TypeId} {size : Nat} {w : World} {K : Value → World → Prop} (ht : P.underlying t = some (.slice e)) (hinf : (P.info? e).map (·.size) = some size) (a b : Option Addr) (n c : Nat) (c' : Nat) (hn : n ≤ c) (k : K (.slice a n c) w) :
    RUN P (Builtin.append_ #[t, t] ty #[.slice a n c, .slice b 0 c']) w K := by
  obtain ⟨i, hi, hs⟩ := Option.map_eq_some_iff.1 hinf
  have hl : ∀ (x : Addr), (loadCells x 0).run P w = .ok #[] w := fun x => by simpa using run_loadCells_list (P := P) w x [] (by simp)
  rw [RUN_eq (v := .slice a n c) (w' := w)]
  · exact k
  · simp only [Builtin.append_, List.getElem?_toArray, List.getElem?_cons_zero, List.getElem?_cons_succ, underlying, program, sizeOf, typeInfo, pure, bind, Sem.bind, Sem.run, ht, hi, Builtin.lenOf, Nat.add_zero, if_pos hn, Builtin.firstCells]
    cases a <;> cases b <;> simp [Sem.bind, Sem.run, Builtin.firstCells, pure, storeCells, bind, hn] <;> (rw [Sx.run_bind, hl]; simp [Sem.bind, Sem.run, storeCells, pure])

/-! ### Slices of things of more cells -/
def SlG {α : Type} (enc : α → List Value) (w : World) (v : Value) (l : List α) : Prop := ∃ A c, v = .slice A l.length c ∧ Rd w A (l.flatMap enc) ∧ l.length ≤ c ∧ l.length ≤ 140737488355328

section
variable {α : Type} {enc : α → List Value} {w w' : World} {v : Value} {l : List α}
theorem SlG.ext (h : SlG enc w v l) (hc : Ext w w') : SlG enc w' v l := by
  obtain ⟨A, c, h1, h2, h3⟩ := h
  exact ⟨A, c, h1, h2.ext hc, h3⟩
theorem SlG.len (h : SlG enc w v l) : l.length ≤ 140737488355328 := by
  obtain ⟨A, c, h1, h2, h3, h4⟩ := h
  exact h4
theorem SlG.shape (h : SlG enc w v l) : ∃ A c, v = .slice A l.length c := by
  obtain ⟨A, c, rfl, _⟩ := h
  exact ⟨A, c, rfl⟩
theorem flatMap_len {size : Nat} (he : ∀ x, (enc x).length = size) (l : List α) : (l.flatMap enc).length = l.length * size := by
  induction l with
  | nil => simp
  | cons x l ih => simp only [List.flatMap_cons, List.length_append, he, ih, List.length_cons]; rw [Nat.add_mul]; omega
theorem flatMap_get {size : Nat} (he : ∀ x, (enc x).length = size) {l : List α} {i : Nat} (hi : i < l.length) {j : Nat} (hj : j < size) : (l.flatMap enc)[i * size + j]? = (enc l[i])[j]? := by
  induction l generalizing i with
  | nil => simp at hi
  | cons x l ih =>
    simp only [List.flatMap_cons]
    cases i with
    | zero => rw [List.getElem?_append_left (by rw [he]; omega)]; simp
    | succ i =>
      simp only [List.length_cons] at hi
      rw [List.getElem?_append_right (by rw [he, Nat.add_mul]; omega)]
      have : (i + 1) * size + j - (enc x).length = i * size + j := by rw [he, Nat.add_mul]; omega
      rw [this, ih (by omega)]
      simp
theorem SlG.at {size : Nat} (he : ∀ x, (enc x).length = size) (h0 : 0 < size) (h : SlG enc w v l) {i : Nat} (hi : i < l.length) : ∃ b o c, v = .slice (some ⟨b, o, none⟩) l.length c ∧ ∀ j (hj : j < size) u, (enc l[i])[j]? = some u → w.cell? ⟨b, o + i * size + j, none⟩ = some u := by
  obtain ⟨A, c, rfl, h2, _⟩ := h
  rcases h2 with hn | ⟨b, o, rfl, hc⟩
  · have := flatMap_len he l
    rw [hn] at this
    have : 0 < l.length * size := Nat.mul_pos (by omega) h0
    simp at *
    omega
  · refine ⟨b, o, c, rfl, fun j hj u hu => ?_⟩
    have := hc (i * size + j) u (by rw [flatMap_get he hi hj]; exact hu)
    rw [← Nat.add_assoc] at this
    exact this
theorem SlG.of_row {size base e n : Nat} (he : ∀ x, (enc x).length = size) (hp : 0 < size) (h : w.ownsRow base e size v n (l.flatMap enc)) (hl : l.length ≤ 140737488355328) : SlG enc w v l ∧ n = l.length := by
  have hn : n = l.length := by have := h.1; rw [flatMap_len he] at this; exact (Nat.eq_of_mul_eq_mul_right hp this).symm
  subst hn
  rcases h.2 with ⟨rfl, h0⟩ | ⟨g, cap, cur, rfl, _, _, hle, _⟩
  · exact ⟨⟨none, 0, by rw [h0], by left; rw [List.eq_nil_of_length_eq_zero h0]; rfl, by omega, hl⟩, rfl⟩
  · exact ⟨⟨_, cap, rfl, Rd.row h, hle, hl⟩, rfl⟩
end

theorem SlT.at {w : World} {v : Value} {ls : List (List UInt8)} (h : SlT w v ls) {i : Nat} (hi : i < ls.length) : ∃ b o c u, v = .slice (some ⟨b, o, none⟩) ls.length c ∧ w.cell? ⟨b, o + i, none⟩ = some u ∧ SlB w u ls[i] := by
  obtain ⟨A, c, hs, rfl, h2, h3, _, _, h4⟩ := h
  obtain ⟨b, o, rfl, hc⟩ := h2.at (i := i) (by omega)
  exact ⟨b, o, c, _, rfl, hc, h4 i hi (by omega)⟩
theorem SlT.shape {w : World} {v : Value} {ls : List (List UInt8)} (h : SlT w v ls) : ∃ A c, v = .slice A ls.length c := by
  obtain ⟨A, c, hs, rfl, _⟩ := h
  exact ⟨A, c, rfl⟩
theorem SlB.shape {w : World} {v : Value} {ls : List UInt8} (h : SlB w v ls) : ∃ A c, v = .slice A ls.length c := by
  obtain ⟨A, c, rfl, _⟩ := h
  exact ⟨A, c, rfl⟩
theorem SlI.shape {w : World} {v : Value} {ls : List Int} (h : SlI w v ls) : ∃ A c, v = .slice A ls.length c := by
  obtain ⟨A, c, rfl, _⟩ := h
  exact ⟨A, c, rfl⟩
theorem SlT.len {w : World} {v : Value} {ls : List (List UInt8)} (h : SlT w v ls) : ls.length ≤ 140737488355328 := by
  obtain ⟨A, c, hs, _, _, _, _, h, _⟩ := h
  exact h
theorem SlB.len {w : World} {v : Value} {ls : List UInt8} (h : SlB w v ls) : ls.length ≤ 140737488355328 := by
  obtain ⟨A, c, _, _, _, h⟩ := h
  exact h
theorem SlI.len {w : World} {v : Value} {ls : List Int} (h : SlI w v ls) : ls.length ≤ 140737488355328 := by
  obtain ⟨A, c, _, _, _, h⟩ := h
  exact h

theorem row_mono {w : World} {base base' : Nat} {e : TypeId} {size : Nat} {v : Value} {n : Nat} {xs : List Value} (h : w.ownsRow base e size v n xs) (hb : base' ≤ base) : w.ownsRow base' e size v n xs := by
  refine ⟨h.1, ?_⟩
  rcases h.2 with hn | ⟨g, cap, cur, rfl, hbb, rest⟩
  · exact .inl hn
  · exact .inr ⟨g, cap, cur, rfl, by omega, rest⟩
theorem row_cell {w : World} {base e g n cap : Nat} {xs : List Value} (h : w.ownsRow base e 1 (.slice (some ⟨g, 0, none⟩) n cap) n xs) {i : Nat} {v : Value} (hi : xs[i]? = some v) : w.cell? ⟨g, i, none⟩ = some v := by
  have hlt := (List.getElem?_eq_some_iff.1 hi).1
  rw [h.cellAt i (by have := h.1; omega)]
  exact hi
theorem row_own {w : World} {g e n size : Nat} {cs : List Value} (h : Own w g cs e) (hl : cs.length = n * size) (hm : n ≤ maxLen) (base : Nat) (hb : base ≤ g) : w.ownsRow base e size (.slice (some ⟨g, 0, none⟩) n n) n cs :=
  ⟨hl, .inr ⟨g, n, cs.toArray, rfl, hb, h, Nat.le_refl _, hm, by simpa using hl, by rw [List.take_of_length_le]; simp [hl]⟩⟩
theorem row_shape {w : World} {base e size n : Nat} {v : Value} {xs : List Value} (h : w.ownsRow base e size v n xs) : ∃ a c, v = .slice a n c ∧ n ≤ c := by
  rcases h.2 with ⟨rfl, rfl⟩ | ⟨g, cap, _, rfl, _, _, h, _⟩
  · exact ⟨_, _, rfl, Nat.le_refl _⟩
  · exact ⟨_, _, rfl, h⟩
/-- A row of the call's own that isn't nil lies in a block of its own. -/
theorem row_block {w : World} {base e size n : Nat} {v : Value} {xs : List Value} (h : w.ownsRow base e size v n xs) (hn : 0 < n) : ∃ g c, v = .slice (some ⟨g, 0, none⟩) n c ∧ base ≤ g ∧ g < w.heap.size := by
  rcases h.2 with ⟨rfl, rfl⟩ | ⟨g, cap, _, rfl, hb, hg, _⟩
  · omega
  · exact ⟨g, cap, rfl, hb, (Array.getElem?_eq_some_iff.1 hg).1⟩
theorem rows_ne {w : World} {base base' e e' n n' size size' k j : Nat} {xs ys : List Value} {v u : Value} (h : w.ownsRow base e size v n xs) (h' : w.ownsRow base' e' size' u n' ys) (hk : v.ownBlock = some k) (hj : u.ownBlock = some j) (hn : e ≠ e') : k ≠ j := by
  rintro rfl
  rcases h.2 with ⟨rfl, _⟩ | ⟨g, _, cur, rfl, _, hg, _⟩
  · cases hk
  · rcases h'.2 with ⟨rfl, _⟩ | ⟨g', _, cur', rfl, _, hg', _⟩
    · cases hj
    · simp [Value.ownBlock] at hk hj
      subst hk hj
      have := hg.symm.trans hg'
      injection this with this
      injection this with _ this
      exact hn this

/-! ### Results that are named; arrays -/
theorem LOADRES_A {P : Program} {t : TypeId} {n : Nat} (hagg : isAggT P t = true) (hs : (P.info? t).map (·.size) = some n) {w : World} {b o : Nat} {cs : List Value} {K : Value → Prop} (h : cellsAt w b o n = some cs) (k : K (.agg cs.toArray)) : LOADRES P t (.pointer (some ⟨b, o, none⟩)) w K :=
  ⟨.agg cs.toArray, run_loadAgg hagg hs h, k⟩
theorem cellsAt_whole {w : World} {b : Nat} {cs : List Value} {ty : TypeId} (h : Own w b cs ty) {n : Nat} (hn : cs.length = n) : cellsAt w b 0 n = some cs := by
  rw [cellsAt_own h n 0 (by omega), List.drop_zero, List.take_of_length_le (by omega)]

theorem eqI_nil {d c : Nat} {e : TypeId} {xs ys : Array Value} {P : Program} {w : World} : (Op.eqItems d e c xs ys []).run P w = .ok true w := by simp [Op.eqItems]
theorem eqI_step {d c : Nat} {e : TypeId} {xs ys : Array Value} {P : Program} {w : World} {i : Nat} {is : List Nat} {k : IntKind} {a b : Int} {s : Bool} (hu : P.underlying e = some (.int k)) (hx : xs[i * c]? = some (.int k a)) (hy : ys[i * c]? = some (.int k b)) (hr : (Op.eqItems (d + 1) e c xs ys is).run P w = .ok s w) :
    (Op.eqItems (d + 1) e c xs ys (i :: is)).run P w = .ok (decide (a = b) && s) w := by
  have hagg : isAggT P e = false := by simp [isAggT, hu]
  have h1 : (Op.equalIn (d + 1) e (.int k a) (.int k b)).run P w = .ok (decide (a = b)) w := by
    simp only [Op.equalIn, underlying, program, pure, bind, Sem.bind, Sem.run, hu, if_true]
    rfl
  simp only [Op.eqItems, Sem.run_bind, run_part hu hagg hx, run_part hu hagg hy, h1, Result.andThen_ok]
  cases decide (a = b)
  · simp
  · simpa using hr
theorem run_equal_arr4 {P : Program} {t e : TypeId} {k : IntKind} (hu : P.underlying t = some (.array 4 e)) (hi : (P.info? e).isSome = true) (hc : P.cellsOf e = 1) (he : P.underlying e = some (.int k)) {a0 a1 a2 a3 b0 b1 b2 b3 : Int} (w : World) :
    (Op.equal t (.agg #[.int k a0, .int k a1, .int k a2, .int k a3]) (.agg #[.int k b0, .int k b1, .int k b2, .int k b3])).run P w = .ok (decide (a0 = b0) && (decide (a1 = b1) && (decide (a2 = b2) && (decide (a3 = b3) && true)))) w := by
  obtain ⟨i, hi⟩ := Option.isSome_iff_exists.1 hi
  show (Op.equalIn (9999 + 1) t _ _).run P w = _
  rw [run_equalIn_array (P := P) (w := w) 9999 _ _ hu hi, hc]
  exact eqI_step he rfl rfl (eqI_step he rfl rfl (eqI_step he rfl rfl (eqI_step he rfl rfl eqI_nil)))
theorem putAt_eq : ∀ (vs : List Value) (cs : List Value) (o : Nat), o + vs.length ≤ cs.length → putAt cs o vs = cs.take o ++ vs ++ cs.drop (o + vs.length)
  | [], cs, o, _ => by simp [putAt]
  | v :: vs, cs, o, h => by
    simp only [List.length_cons] at h
    rw [putAt, putAt_eq vs _ _ (by rw [List.length_set]; omega), List.length_cons, ← list_seg_step cs o v vs h]
theorem putAt_all (cs vs : List Value) (h : vs.length = cs.length) : putAt cs 0 vs = vs := by
  rw [putAt_eq vs cs 0 (by omega)]
  simp [h]
/-! ### Structs with arrays in them -/
theorem fold_put (o : Nat) : ∀ (vs : List Value) (k : Nat) (cs : List Value), (vs.zipIdx k).foldl (fun (cs : Array Value) (x : Value × Nat) => cs.setIfInBounds (o + x.2) x.1) cs.toArray = (putAt cs (o + k) vs).toArray
  | [], _, _ => rfl
  | v :: vs, k, cs => by
    rw [List.zipIdx_cons, List.foldl_cons, putAt]
    have : cs.toArray.setIfInBounds (o + k) v = (cs.set (o + k) v).toArray := by simp
    rw [this, fold_put o vs (k + 1)]
    rfl
theorem fill_step {place : Nat → Option (Nat × Nat)} {cs : List Value} {i off size : Nat} {v : Value} {vs : List Value} {rest : List (Nat × Value)} (hp : place i = some (off, size)) (hv : v.cells = vs.toArray) (hs : vs.length = size) (hl : off + size ≤ cs.length) :
    Instr.fill place cs.toArray ((i, v) :: rest) = Instr.fill place (putAt cs off vs).toArray rest := by
  rw [Instr.fill]
  simp only [hp, hv, List.size_toArray, hs]
  rw [if_neg (by simp; omega)]
  congr 1
  have := fold_put off vs 0 cs
  rw [Nat.add_zero] at this
  rw [← this]
  simp
theorem PURE_build {P : Program} {t : TypeId} {fs : Array Field} {Z : List Value} {places : Array (Nat × Nat)} {parts : Array (Nat × Value)} {cells : List Value} {K : Value → Prop} (hu : P.underlying t = some (.struct fs)) (hz : (P.info? t).map (·.zero) = some (some (.agg Z.toArray)))
    (hp : ∀ w, (fs.mapM fun f => (do pure (f.offset, ← sizeOf f.type) : Sem (Nat × Nat))).run P w = .ok places w) (hf : Instr.fill (places[·]?) Z.toArray parts.toList = some cells.toArray) : PURE P (Instr.build t parts) K = K (.agg cells.toArray) := PURE_eq fun w => by
  obtain ⟨i, hi, hzi⟩ := Option.map_eq_some_iff.1 hz
  have h1 : (zeroValue t).run P w = .ok (.agg Z.toArray) w := by
    simp [zeroValue, typeInfo, program, pure, bind, Sem.bind, Sem.run, hi, hzi]
  unfold Instr.build
  simp only [Sem.run_bind, h1, Result.andThen_ok, run_underlying hu, hp, Value.cells, hf]
  rfl
end Go.Sx
