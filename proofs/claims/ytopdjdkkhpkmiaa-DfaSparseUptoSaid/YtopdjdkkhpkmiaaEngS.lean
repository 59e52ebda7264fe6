import Derived.Test.YtopdjdkkhpkmiaaEng
set_option linter.unusedVariables false
set_option linter.unusedSimpArgs false
namespace Go.Sx
open Go

/-! ### Soundness -/
theorem Agree.set {n : Nat} {ρ : Env} {a : Act} (h : Agree n ρ a) {d : Nat} {v : Value} (hd : d < n) : Agree n (ρ.set d (some v)) (a.put (some d) v) := by
  refine ⟨by simp [Act.put, h.size], h.nodef, fun j u hj => ?_⟩
  unfold Env.set at hj
  by_cases e : j = d
  · subst e
    simp at hj
    subst hj
    simp [Act.put, h.size, hd]
  · have : Nat.beq j d = false := by
      cases hb : Nat.beq j d with
      | false => rfl
      | true => exact absurd (Nat.eq_of_beq_eq_true hb) e
    simp [this] at hj
    simp only [Act.put]
    rw [Array.getElem?_setIfInBounds_ne (Ne.symm e)]
    exact h.val j u hj

theorem Agree.unset {n : Nat} {ρ : Env} {a : Act} (h : Agree n ρ a) (d : Nat) (v : Value) : Agree n (ρ.set d none) (a.put (some d) v) := by
  refine ⟨by simp [Act.put, h.size], h.nodef, fun j u hj => ?_⟩
  unfold Env.set at hj
  by_cases e : j = d
  · subst e
    simp at hj
  · have : Nat.beq j d = false := by
      cases hb : Nat.beq j d with
      | false => rfl
      | true => exact absurd (Nat.eq_of_beq_eq_true hb) e
    simp [this] at hj
    simp only [Act.put]
    rw [Array.getElem?_setIfInBounds_ne (Ne.symm e)]
    exact h.val j u hj

theorem dstOk_lt {n d : Nat} (h : dstOk n (some d) = true) : d < n := by
  exact Nat.lt_of_succ_le (Nat.le_of_ble_eq_true h)

theorem Agree.put {n : Nat} {ρ : Env} {a : Act} (h : Agree n ρ a) {d : Option Nat} (hd : dstOk n d = true) (v : Value) : Agree n (ρ.put d (some v)) (a.put d v) := by
  cases d with
  | none => exact h
  | some d => exact h.set (dstOk_lt hd)

theorem Agree.ev {n : Nat} {ρ : Env} {a : Act} (h : Agree n ρ a) {x : Operand} {v : Value} (hx : ρ.ev x = some v) : a.eval x = v := by
  cases x with
  | tmp t =>
    have := h.val t v hx
    simp [Act.eval, Array.getD_eq_getD_getElem?, this]
  | const u => simpa [Env.ev, Act.eval] using hx
  | global g => simpa [Env.ev, Act.eval] using hx
  | func f => simpa [Env.ev, Act.eval] using hx

/-- A move of what may be unknown. -/
theorem Agree.move {n : Nat} {ρ : Env} {a : Act} (h : Agree n ρ a) {d : Option Nat} (hd : dstOk n d = true) (x : Operand) : Agree n (ρ.put d (ρ.ev x)) (a.put d (a.eval x)) := by
  cases hx : ρ.ev x with
  | some v => rw [h.ev hx]; exact h.put hd v
  | none =>
    cases d with
    | none => exact h
    | some d => exact h.unset d _

theorem known_all {ρ : Env} : ∀ {l : List Operand}, known ρ l = true → ∀ x ∈ l, ∃ v, ρ.ev x = some v
  | [], _, x, hx => by cases hx
  | y :: l, h, x, hx => by
    unfold known at h
    split at h
    · rename_i v hv
      rcases List.mem_cons.1 hx with rfl | hx
      · exact ⟨v, hv⟩
      · exact known_all h x hx
    · cases h

theorem Agree.evals {n : Nat} {ρ : Env} {a : Act} (h : Agree n ρ a) {l : List Operand} (hk : known ρ l = true) : ∀ x ∈ l, a.eval x = ρ.D x := by
  intro x hx
  obtain ⟨v, hv⟩ := known_all hk x hx
  rw [h.ev hv]
  simp [Env.D, hv]

theorem arr_map {α β : Type} (xs : Array α) (f : α → β) : xs.map f = (xs.toList.map f).toArray := by
  apply Array.ext'
  simp

theorem run_bind {α β : Type} (P : Program) (s : Sem α) (f : α → Sem β) (w : World) : (s.bind f).run P w = match s.run P w with
    | .ok v w' => (f v).run P w'
    | .halt h w' => .halt h w' := by
  induction s generalizing w with
  | pure a => simp [Sem.bind, Sem.run]
  | load m a k ih =>
    simp only [Sem.bind, Sem.run]
    split
    · exact ih _ _
    · split
      · exact ih _ _
      · rfl
  | store m a v k ih =>
    cases v <;> simp only [Sem.bind, Sem.run] <;> first
      | rfl
      | (split
         · split
           · rfl
           · exact ih _
         · split
           · exact ih _
           · rfl)
  | new o k ih => exact ih _ _
  | shape r k ih => exact ih _ _
  | freeze a n k ih => exact ih _
  | frozen a k ih => exact ih _ _
  | getObj r k ih =>
    simp only [Sem.bind, Sem.run]
    split <;> first | rfl | exact ih _ _
  | setObj r o k ih =>
    simp only [Sem.bind, Sem.run]
    split <;> first | rfl | exact ih _
  | choose q k ih =>
    simp only [Sem.bind, Sem.run]
    split <;> exact ih _ _
  | sys c k ih => exact ih _ _
  | program k ih => exact ih _ _
  | mark m k ih => exact ih _
  | halt h => simp [Sem.bind, Sem.run]

theorem run_value {P : Program} {s : Sem Value} {w w' : World} {v : Value} (h : s.run P w = .ok v w') : (do pure (Next.value (← s)) : Sem Next).run P w = .ok (.value v) w' := by
  show (Sem.bind s _).run P w = _
  rw [run_bind, h]
  rfl

theorem run_skip {P : Program} {s : Sem Unit} {w w' : World} {u : Unit} (h : s.run P w = .ok u w') : (do s; pure Next.skip : Sem Next).run P w = .ok .skip w' := by
  show (Sem.bind s _).run P w = _
  rw [run_bind, h]
  rfl

theorem opV_run {P : Program} {n : Nat} {ρ : Env} {a : Act} (h : Agree n ρ a) {o : Oper} (hk : known ρ o.op.operands.toList = true) {s : Sem Value} (hs : opV ρ o = some s)
    {w w' : World} {v : Value} (hr : s.run P w = .ok v w') : (execOp a.eval o).run P w = .ok (.value v) w' := by
  have hsel : ∀ cs b, o.op ≠ .select cs b := by
    intro cs b e
    simp [opV, e] at hs
  rw [execOp_congr o hsel (ρ' := ρ.D) (fun x hx => h.evals hk x (by simpa using hx))]
  obtain ⟨dst, op, type, pos, after, guard⟩ := o
  cases op with
  | pick c x y =>
    simp only [opV, Option.some.injEq] at hs
    subst hs
    replace hr : (Sem.bind (asBool (ρ.D c)) (fun b => Sem.pure (if b = true then ρ.D x else ρ.D y))).run P w = .ok v w' := hr
    change (Sem.bind (asBool (ρ.D c)) (fun b => Sem.pure (Next.value (if b = true then ρ.D x else ρ.D y)))).run P w = _
    rw [run_bind] at hr ⊢
    cases hb : (asBool (ρ.D c)).run P w with
    | ok b w1 =>
      rw [hb] at hr
      simp only [Sem.run, Result.ok.injEq] at hr ⊢
      exact ⟨by rw [hr.1], hr.2⟩
    | halt e w1 =>
      rw [hb] at hr
      cases hr
  | nilCheck x =>
    simp only [opV, Option.some.injEq] at hs
    subst hs
    simp only [execOp]
    unfold NILS at hr
    revert hr
    generalize ρ.D x = y
    intro hr
    cases y with
    | pointer p =>
      cases p with
      | none => simp [stuck, Sem.run] at hr
      | some q => simpa [pure, Sem.run] using hr
    | func fn first captured =>
      cases fn with
      | func f => simpa [pure, Sem.run] using hr
      | _ => simp [stuck, Sem.run] at hr
    | iface t v => simpa [pure, Sem.run] using hr
    | _ => simp [stuck, Sem.run] at hr
  | call c =>
    obtain ⟨callee, args, argTypes⟩ := c
    cases callee with
    | builtin b =>
      cases b <;> simp only [opV, Option.some.injEq, reduceCtorEq] at hs <;> subst hs <;>
        (simp only [execOp, resolve, invoke, builtin, arr_map] ; exact run_value hr)
    | _ => simp [opV] at hs
  | makeMap t r =>
    cases r with
    | none =>
      simp only [opV, Option.some.injEq] at hs
      subst hs
      exact run_value hr
    | some r => simp [opV] at hs
  | build t ps =>
    simp only [opV, Option.some.injEq] at hs
    subst hs
    simp only [execOp, arr_map]
    exact run_value hr
  | buildSlice t k ps =>
    simp only [opV, Option.some.injEq] at hs
    subst hs
    simp only [execOp, arr_map]
    exact run_value hr
  | makeFunc fn f c =>
    simp only [opV, Option.some.injEq] at hs
    subst hs
    simp only [execOp, arr_map]
    exact run_value hr
  | _ =>
    first
    | (simp only [opV, Option.some.injEq] at hs; subst hs; exact run_value hr)
    | (simp [opV] at hs; done)

theorem opU_run {P : Program} {n : Nat} {ρ : Env} {a : Act} (h : Agree n ρ a) {o : Oper} (hk : known ρ o.op.operands.toList = true) {s : Sem Unit} (hs : opU ρ o = some s)
    {w w' : World} {u : Unit} (hr : s.run P w = .ok u w') : (execOp a.eval o).run P w = .ok .skip w' := by
  have hsel : ∀ cs b, o.op ≠ .select cs b := by
    intro cs b e
    simp [opU, e] at hs
  rw [execOp_congr o hsel (ρ' := ρ.D) (fun x hx => h.evals hk x (by simpa using hx))]
  obtain ⟨dst, op, type, pos, after, guard⟩ := o
  cases op with
  | store t x y => simp only [opU, Option.some.injEq] at hs; subst hs; exact run_skip hr
  | mapUpdate t m k x => simp only [opU, Option.some.injEq] at hs; subst hs; exact run_skip hr
  | insert t m k x => simp only [opU, Option.some.injEq] at hs; subst hs; exact run_skip hr
  | _ => simp [opU] at hs

/-- What a post on environments says of frames. -/
def lift (n : Nat) (E : List PanicEntry → World → Prop) (Q : Exit → Env → World → Prop) : Exit → Act → World → Prop
  | .panic c, a, w => a.defers = [] ∧ E c w
  | .outgrown, _, _ => False
  | e, a, w => ∃ ρ, Agree n ρ a ∧ Q e ρ w

end Go.Sx
