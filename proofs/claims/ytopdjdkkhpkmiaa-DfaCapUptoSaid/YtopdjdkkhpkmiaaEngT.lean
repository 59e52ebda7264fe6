import Derived.Test.YtopdjdkkhpkmiaaEngS
set_option linter.unusedVariables false
set_option linter.unusedSimpArgs false
namespace Go.Sx
open Go

theorem run_callFunc {P : Program} {f : FuncId} (h : callable P f = true) (args : Array Value) (w : World) : (callFunc f args).run P w = .ok (.enter f args) w := by
  unfold callable at h
  split at h
  · rename_i fn hf
    simp only [Bool.and_eq_true, Bool.not_eq_true'] at h
    have hb : fn.body.isNone = false := by
      cases hfb : fn.body with
      | none => rw [hfb] at h; simp at h
      | some c => rfl
    show (Sem.bind program _).run P w = _
    rw [run_bind]
    simp only [program, Sem.run, hf]
    rw [if_neg (by simp [h.1]), if_neg (by simp [hb])]
    rfl
  · cases h

theorem run_resolve_value {P : Program} {ρ : Operand → Value} {x : Operand} {args : Array Operand} {ts : Array TypeId} {ty : TypeId} {f : FuncId} {first captured : Array Value} (hx : ρ x = .func (.func f) first captured)
    (hc : callable P f = true) (w : World) :
    (do let d ← resolve ρ { callee := .value x, args := args, argTypes := ts } ty; invoke d.target d.args : Sem Next).run P w = .ok (.enter f (first ++ args.map ρ ++ captured)) w := by
  show (Sem.bind (resolve ρ _ ty) _).run P w = _
  rw [run_bind]
  simp only [resolve, hx, Deferred.ofValue, pure, Sem.run, invoke]
  exact run_callFunc hc _ w

/-- The post of a step. -/
def Nxt (n : Nat) (K : Env → World → Prop) (a : Act) (w : World) : Prop := ∃ ρ, Agree n ρ a ∧ K ρ w

theorem args_eq {n : Nat} {ρ : Env} {a : Act} (h : Agree n ρ a) {args : Array Operand} (hk : known ρ args.toList = true) : args.map a.eval = (args.toList.map ρ.D).toArray := by
  rw [arr_map]
  congr 1
  exact List.map_congr_left (h.evals hk)

theorem stepX_sound {P : Program} {n : Nat} {o : Oper} {ρ : Env} {E : List PanicEntry → World → Prop} {w : World} {K : Env → World → Prop} {a : Act} {Q : Exit → Env → World → Prop}
    (h : Agree n ρ a) (hs : stepX P n o ρ E w K) : o.wp P a w (Nxt n K) (lift n E Q) := by
  unfold stepX at hs
  split at hs
  · cases hs
  rename_i hd
  unfold Oper.wp
  obtain ⟨dst, op, type, pos, after, guard⟩ := o
  simp only at hd
  have gen : ∀ (hm : (match known ρ op.operands.toList with
      | false => False
      | true =>
        match opV ρ { dst, op, type, pos, after, guard } with
        | some s => match asks P { dst, op, type, pos, after, guard } with
          | 0 => PURE P s fun v => K (ρ.put dst (some v)) w
          | _ => RUN P s w fun v w => K (ρ.put dst (some v)) w
        | none => match opU ρ { dst, op, type, pos, after, guard } with
          | some s => RUNU P s w fun w => K (ρ.put dst (some undef)) w
          | none => False)), Oper.upon P { dst, op, type, pos, after, guard } a (Nxt n K) (lift n E Q) ((execOp a.eval { dst, op, type, pos, after, guard }).run P w) := by
    intro hm
    split at hm
    · cases hm
    rename_i hk
    split at hm
    · rename_i s hsv
      split at hm
      · obtain ⟨v, hr, hm⟩ := hm
        rw [opV_run h (o := { dst, op, type, pos, after, guard }) hk hsv (hr w)]
        exact ⟨_, h.put hd v, hm⟩
      · unfold RUN at hm
        split at hm
        · rename_i v w' hr
          rw [opV_run h (o := { dst, op, type, pos, after, guard }) hk hsv hr]
          exact ⟨_, h.put hd v, hm⟩
        · cases hm
    · split at hm
      · rename_i s hsv
        unfold RUNU at hm
        split at hm
        · rename_i v w' hr
          rw [opU_run h (o := { dst, op, type, pos, after, guard }) hk hsv hr]
          exact ⟨_, h.put hd undef, hm⟩
        · cases hm
      · cases hm
  cases op with
  | move x => exact ⟨_, h.move hd x, hs⟩
  | assign x => exact ⟨_, h.move hd x, hs⟩
  | panic x =>
    simp only at hs
    split at hs
    · cases hs
    rename_i hk
    have hx : a.eval x = ρ.D x := h.evals hk x (by simp)
    unfold PANIC at hs
    split at hs
    · rename_i t y hy
      simp only [execOp, hx, hy]
      exact ⟨h.nodef, hs⟩
    · cases hs
  | call c =>
    obtain ⟨callee, args, argTypes⟩ := c
    have viaV : ∀ (x : Operand) (hk : known ρ (x :: args.toList) = true) (hs : CALLV P (ρ.D x) (args.toList.map ρ.D) w E fun v w => K (ρ.put dst (some v)) w),
        Oper.upon P { dst, op := .call { callee := .value x, args, argTypes }, type, pos, after, guard } a (Nxt n K) (lift n E Q) ((execOp a.eval { dst, op := .call { callee := .value x, args, argTypes }, type, pos, after, guard }).run P w) := by
      intro x hk hs
      obtain ⟨f, first, captured, hv, hc, hcall⟩ := hs
      have hx : a.eval x = .func (.func f) first captured := by rw [h.evals hk x (by simp), hv]
      have hk' : known ρ args.toList = true := by
        unfold known at hk
        split at hk
        · exact hk
        · cases hk
      have hr := run_resolve_value (P := P) (ρ := a.eval) (args := args) (ts := argTypes) (ty := type) hx hc w
      simp only [execOp]
      rw [hr]
      have e : first ++ args.map a.eval ++ captured = (first.toList ++ args.toList.map ρ.D ++ captured.toList).toArray := by
        rw [args_eq h hk']
        apply Array.ext'
        simp
      rw [e]
      refine hcall.mono fun e w' he => ?_
      cases e with
      | returned v => exact ⟨_, h.put hd v, he⟩
      | panicked c => exact ⟨h.nodef, he⟩
      | outgrown => exact he.elim
    cases callee with
    | value x =>
      cases x with
      | func f =>
        simp only at hs
        split at hs
        · cases hs
        rename_i hk
        refine viaV (.func f) (by simpa [known, Env.ev] using hk) ⟨f, #[], #[], rfl, ?_⟩
        simpa using hs
      | tmp t =>
        simp only at hs
        split at hs
        · cases hs
        rename_i hk
        exact viaV _ hk hs
      | const v =>
        simp only at hs
        split at hs
        · cases hs
        rename_i hk
        exact viaV _ hk hs
      | global g =>
        simp only at hs
        split at hs
        · cases hs
        rename_i hk
        exact viaV _ hk hs
    | builtin b => exact gen hs
    | invoke r m => exact gen hs
  | _ => exact gen hs

end Go.Sx
