import Derived.Test.YtopdjdkkhpkmiaaGen
set_option linter.unusedVariables false
set_option linter.unusedSimpArgs false
namespace Go.Sx
open Go

/-! ### Maps from a number and a byte to a number -/
abbrev KV := (Int × Int) × Int
def keyE (n c : Int) : Value := .agg #[.int .i64 n, .int .u8 c]
def MapE (w : World) (m : Nat) (kvs : List KV) : Prop :=
  ∃ es clock, w.heap[m]? = some (.map es clock) ∧ es.toList.map (fun e => (e.key, e.val)) = kvs.map fun x => (keyE x.1.1 x.1.2, Value.int .i64 x.2)
def lookE : List KV → Int → Int → Option Int
  | [], _, _ => none
  | x :: r, n, c => if n = x.1.1 ∧ c = x.1.2 then some x.2 else lookE r n c
def updE : List KV → Int → Int → Int → List KV
  | [], n, c, v => [((n, c), v)]
  | x :: r, n, c, v => if n = x.1.1 ∧ c = x.1.2 then (x.1, v) :: r else x :: updE r n c v

theorem MapE.lt {w : World} {m : Nat} {kvs : List KV} (h : MapE w m kvs) : m < w.heap.size := by
  obtain ⟨es, clock, h, _⟩ := h
  exact (Array.getElem?_eq_some_iff.1 h).1
theorem MapE.chg {S : Nat → Prop} {w w' : World} {m : Nat} {kvs : List KV} (h : MapE w m kvs) (hc : Chg S w w') (hs : ¬ S m) : MapE w' m kvs := by
  have hlt := h.lt
  obtain ⟨es, clock, h, hh⟩ := h
  exact ⟨es, clock, (hc.block m hlt hs).trans h, hh⟩
theorem MapE.ext {w w' : World} {m : Nat} {kvs : List KV} (h : MapE w m kvs) (hc : Ext w w') : MapE w' m kvs := h.chg hc fun x => x

/-- What a type of keys must be. -/
structure KeyE (P : Program) (kt : TypeId) : Prop where
  check : ∀ e n c w, (Instr.checkKey e 10000 kt (keyE n c)).run P w = .ok () w
  eq : ∀ a b c d w, (Op.equal kt (keyE a c) (keyE b d)).run P w = .ok (decide (a = b) && (decide (c = d) && true)) w
  str : ∃ fs, P.underlying kt = some (.struct fs)

variable {P : Program}

theorem run_asking {kt : TypeId} (hk : KeyE P kt) (n c : Int) (w : World) : ∀ (es : List MapEntry) (kvs : List KV) (i : Nat), es.map (fun e => (e.key, e.val)) = kvs.map (fun x => (keyE x.1.1 x.1.2, Value.int .i64 x.2)) →
    ∃ r, (Instr.findAsking kt (keyE n c) es i).run P w = .ok r w ∧ (match r with
      | none => lookE kvs n c = none
      | some (j, v) => i ≤ j ∧ j - i < kvs.length ∧ lookE kvs n c = (kvs[j - i]?).map (·.2) ∧ (kvs[j - i]?).map (·.2) = some (match v with | .int _ x => x | _ => 0) ∧ v = .int .i64 (match v with | .int _ x => x | _ => 0) ∧
          (kvs[j - i]?).map (·.1) = some (n, c) ∧ ∀ u, updE kvs n c u = kvs.modify (j - i) (fun x => (x.1, u)))
  | [], kvs, i, h => by
    have : kvs = [] := by cases kvs with | nil => rfl | cons x r => simp at h
    subst this
    exact ⟨none, rfl, rfl⟩
  | e :: es, kvs, i, h => by
    cases kvs with
    | nil => simp at h
    | cons x r =>
      simp only [List.map_cons, List.cons.injEq, Prod.mk.injEq] at h
      unfold Instr.findAsking
      have he := hk.eq n x.1.1 c x.1.2 w
      rw [← h.1.1] at he
      by_cases hx : n = x.1.1 ∧ c = x.1.2
      · refine ⟨some (i, e.val), ?_, Nat.le_refl _, by simp, ?_, ?_, ?_, ?_, ?_⟩
        · show (Sem.bind (Op.equal kt (keyE n c) e.key) _).run P w = _
          rw [Sx.run_bind, he]
          simp [hx, pure, Sem.run]
        · simp [lookE, hx]
        · simp [h.1.2]
        · simp [h.1.2]
        · simp [hx]
        · intro u; simp [updE, hx]
      · obtain ⟨r', hr, hp⟩ := run_asking hk n c w es r (i + 1) h.2
        refine ⟨r', ?_, ?_⟩
        · show (Sem.bind (Op.equal kt (keyE n c) e.key) _).run P w = _
          rw [Sx.run_bind, he]
          have : (decide (n = x.1.1) && (decide (c = x.1.2) && true)) = false := by
            simp only [Bool.and_true, Bool.and_eq_false_iff, decide_eq_false_iff_not]
            by_cases h1 : n = x.1.1
            · exact .inr fun h2 => hx ⟨h1, h2⟩
            · exact .inl h1
          simp only [this]
          exact hr
        · cases r' with
          | none => simp only at hp ⊢; rw [lookE, if_neg hx]; exact hp
          | some jv =>
            obtain ⟨j, v⟩ := jv
            simp only at hp ⊢
            obtain ⟨h1, h2, h3, h4, h5, h6, h7⟩ := hp
            have e1 : j - i = (j - (i + 1)) + 1 := by omega
            refine ⟨by omega, by simp only [List.length_cons]; omega, ?_, ?_, h5, ?_, ?_⟩
            · rw [lookE, if_neg hx, h3, e1]; rfl
            · rw [e1]; exact h4
            · rw [e1]; exact h6
            · intro u; rw [updE, if_neg hx, h7, e1]; rfl

theorem run_findKey {kt : TypeId} (hk : KeyE P kt) (n c : Int) (w : World) (es : List MapEntry) :
    (Instr.findKey kt (keyE n c) es).run P w = (Instr.findAsking kt (keyE n c) es 0).run P w := by
  obtain ⟨fs, hs⟩ := hk.str
  simp only [Instr.findKey, underlying, program, pure, bind, Sem.bind, Sem.run, hs]
  cases es with
  | nil => rfl
  | cons e es => rfl

theorem run_lookE {mt kt et : TypeId} (hm : P.underlying mt = some (.map kt et)) (hz : (P.info? et).map (·.zero) = some (some (.int .i64 0))) (hk : KeyE P kt) {w : World} {m : Nat} {kvs : List KV} (h : MapE w m kvs) (n c : Int) :
    (Instr.lookup mt (.map (some m)) (keyE n c) true).run P w = .ok (.tuple #[.int .i64 ((lookE kvs n c).getD 0), .bool (lookE kvs n c).isSome]) w := by
  obtain ⟨es, clock, hh, he⟩ := h
  obtain ⟨inf, hinf, hzi⟩ := Option.map_eq_some_iff.1 hz
  obtain ⟨r, hr, hp⟩ := run_asking hk n c w es.toList kvs 0 he
  have hck := hk.check es.isEmpty n c w
  simp only [Instr.lookup, underlying, program, getObj, pure, bind, Sem.bind, Sem.run, hm, hh]
  show (Sem.bind (Instr.checkKey es.isEmpty 10000 kt (keyE n c)) _).run P w = _
  rw [Sx.run_bind, hck]
  simp only
  rw [Sx.run_bind, run_findKey hk, hr]
  cases r with
  | none =>
    simp only at hp
    simp [zeroValue, typeInfo, program, pure, bind, Sem.bind, Sem.run, hinf, hzi, hp]
  | some jv =>
    obtain ⟨j, v⟩ := jv
    simp only at hp
    obtain ⟨_, _, h3, h4, h5, _⟩ := hp
    rw [h3, h4]
    simp only [Sem.run, Option.getD_some, Option.isSome_some]
    rw [← h5]
    rfl

theorem READ_lookE {mt kt et : TypeId} (hm : P.underlying mt = some (.map kt et)) (hz : (P.info? et).map (·.zero) = some (some (.int .i64 0))) (hk : KeyE P kt) {w : World} {m : Nat} {kvs : List KV} {n c : Int} {K : Value → Prop} (h : MapE w m kvs) :
    READ P (SAME w) (Instr.lookup mt (.map (some m)) (.agg #[.int .i64 n, .int .u8 c]) true) w.drew K = K (.tuple #[.int .i64 ((lookE kvs n c).getD 0), .bool (lookE kvs n c).isSome]) :=
  READ_eq (run_lookE hm hz hk (show MapE w.drew m kvs from h) n c) fun w' hw => run_lookE hm hz hk (by
    obtain ⟨es, clock, h1, h2⟩ := h
    exact ⟨es, clock, by rw [show w'.heap = w.heap from hw]; exact h1, h2⟩) n c
theorem RUN_lookE {mt kt et : TypeId} (hm : P.underlying mt = some (.map kt et)) (hz : (P.info? et).map (·.zero) = some (some (.int .i64 0))) (hk : KeyE P kt) {w : World} {m : Nat} {kvs : List KV} {n c : Int} {K : Value → World → Prop} (h : MapE w m kvs) :
    RUN P (Instr.lookup mt (.map (some m)) (.agg #[.int .i64 n, .int .u8 c]) true) w K = K (.tuple #[.int .i64 ((lookE kvs n c).getD 0), .bool (lookE kvs n c).isSome]) w :=
  RUN_eq (run_lookE hm hz hk h n c)

theorem MAPUPD {mt kt et : TypeId} (hm : P.underlying mt = some (.map kt et)) (hk : KeyE P kt) {w : World} {m : Nat} {kvs : List KV} {n c v : Int} {K : World → Prop} (h : MapE w m kvs)
    (k : ∀ w', MapE w' m (updE kvs n c v) → Chg (fun j => j = m) w w' → w'.heap.size = w.heap.size → K w') : RUNU P (Instr.mapUpdate mt (.map (some m)) (.agg #[.int .i64 n, .int .u8 c]) (.int .i64 v)) w K := by
  have hlt := h.lt
  obtain ⟨es, clock, hh, he⟩ := h
  obtain ⟨r, hr, hp⟩ := run_asking hk n c w es.toList kvs 0 he
  have hck := hk.check false n c w
  have chg : ∀ o : Obj, Chg (fun j => j = m) w { w with heap := w.heap.setIfInBounds m o } := fun o =>
    ⟨rfl, rfl, rfl, by simp, fun j hj hn => by simp only; rw [Array.getElem?_setIfInBounds_ne (Ne.symm hn)]⟩
  have new : ∀ o : Obj, ({ w with heap := w.heap.setIfInBounds m o } : World).heap[m]? = some o := fun o => by simp [hlt]
  cases r with
  | none =>
    simp only at hp
    rw [RUNU_eq (w' := { w with heap := w.heap.setIfInBounds m (.map (es.push { key := keyE n c, val := .int .i64 v, born := clock }) (clock + 1)) })]
    · refine k _ ⟨_, _, new _, ?_⟩ (chg _) (by simp)
      have hu : ∀ (l : List KV), lookE l n c = none → updE l n c v = l ++ [((n, c), v)] := by
        intro l
        induction l with
        | nil => intro _; rfl
        | cons x l ih =>
          intro hl
          unfold lookE at hl
          split at hl
          · cases hl
          · rename_i hx
            rw [updE, if_neg hx, ih hl]; rfl
      rw [hu kvs hp]
      simp [he]
    · simp only [Instr.mapUpdate, underlying, program, getObj, pure, bind, Sem.bind, Sem.run, hm, hh]
      show (Sem.bind (Instr.checkKey false 10000 kt (keyE n c)) _).run P w = _
      rw [Sx.run_bind, hck]
      simp only
      rw [Sx.run_bind, show Value.agg #[.int .i64 n, .int .u8 c] = keyE n c from rfl, run_findKey hk, hr]
      simp [setObj, Sem.run, hh]
  | some jv =>
    obtain ⟨j, v0⟩ := jv
    simp only [Nat.sub_zero] at hp
    obtain ⟨_, h2, h3, h4, h5, h6, h7⟩ := hp
    have hes : es.size = kvs.length := by
      have := congrArg List.length he
      simpa using this
    have hkey : (es[j]?).map (·.key) = some (keyE n c) := by
      have e1 : (es.toList.map (fun e => (e.key, e.val)))[j]? = (kvs.map fun x => (keyE x.1.1 x.1.2, Value.int .i64 x.2))[j]? := by rw [he]
      simp only [List.getElem?_map] at e1
      have h6' : ∃ y, kvs[j]? = some y ∧ y.1 = (n, c) := by
        cases hy : kvs[j]? with
        | none => rw [hy] at h6; cases h6
        | some y => rw [hy] at h6; simp at h6; exact ⟨y, rfl, h6⟩
      obtain ⟨y, hy, hy1⟩ := h6'
      rw [hy] at e1
      have e2 : es.toList[j]? = es[j]? := by simp
      rw [e2] at e1
      cases hej : es[j]? with
      | none => rw [hej] at e1; cases e1
      | some e =>
        rw [hej] at e1
        simp only [Option.map_some, Option.some.injEq, Prod.mk.injEq] at e1
        simp [e1.1, hy1]
    have hsame : Instr.sameBits 10000 (keyE n c) (keyE n c) = true := by
      show Instr.sameBits (9999 + 1) (keyE n c) (keyE n c) = true
      simp [Instr.sameBits, keyE]
    rw [RUNU_eq (w' := { w with heap := w.heap.setIfInBounds m (.map (es.modify j fun e => { e with key := keyE n c, val := .int .i64 v }) clock) })]
    · refine k _ ⟨_, _, new _, ?_⟩ (chg _) (by simp)
      rw [h7 v]
      apply List.ext_getElem?
      intro i
      simp only [List.getElem?_map, Array.toList_modify, List.getElem?_modify]
      have e1 : (es.toList.map (fun e => (e.key, e.val)))[i]? = (kvs.map fun x => (keyE x.1.1 x.1.2, Value.int .i64 x.2))[i]? := by rw [he]
      simp only [List.getElem?_map] at e1
      by_cases hij : j = i
      · subst hij
        simp only [if_true]
        cases hej : es.toList[j]? with
        | none =>
          rw [hej] at e1
          cases hkj : kvs[j]? with
          | none => rfl
          | some y => rw [hkj] at e1; cases e1
        | some e =>
          rw [hej] at e1
          cases hkj : kvs[j]? with
          | none => rw [hkj] at e1; cases e1
          | some y =>
            rw [hkj] at h6
            simp at h6
            simp [h6]
      · simp only [if_neg hij]
        simpa using e1
    · simp only [Instr.mapUpdate, underlying, program, getObj, pure, bind, Sem.bind, Sem.run, hm, hh]
      show (Sem.bind (Instr.checkKey false 10000 kt (keyE n c)) _).run P w = _
      rw [Sx.run_bind, hck]
      simp only
      rw [Sx.run_bind, show Value.agg #[.int .i64 n, .int .u8 c] = keyE n c from rfl, run_findKey hk, hr]
      simp only
      have hkt : Instr.keyThatStays (((es[j]?).map (·.key)).getD (keyE n c)) (keyE n c) = .pure (keyE n c) := by
        rw [hkey]
        simp only [Option.getD_some, Instr.keyThatStays, hsame, if_true]
        rfl
      show (Sem.bind (Instr.keyThatStays (((es[j]?).map (·.key)).getD (keyE n c)) (keyE n c)) _).run P w = _
      rw [hkt]
      simp [Sem.bind, setObj, Sem.run, hh]

end Go.Sx
