import Derived.Test.YtopdjdkkhpkmiaaEngU
set_option linter.unusedVariables false
set_option linter.unusedSimpArgs false
namespace Go.Sx
open Go

theorem CALL.mono {P : Program} {f : FuncId} {args : List Value} {w : World} {E : List PanicEntry → World → Prop} {K K' : Value → World → Prop} (h : CALL P f args w E K) (hk : ∀ v w', K v w' → K' v w') : CALL P f args w E K' :=
  ⟨h.1, h.2.mono fun e w' he => by cases e <;> first | exact hk _ _ he | exact he⟩

theorem CALLV.mono {P : Program} {v : Value} {args : List Value} {w : World} {E : List PanicEntry → World → Prop} {K K' : Value → World → Prop} (h : CALLV P v args w E K) (hk : ∀ v w', K v w' → K' v w') : CALLV P v args w E K' := by
  obtain ⟨f, a, b, e, h⟩ := h
  exact ⟨f, a, b, e, h.mono hk⟩

theorem RUN.mono {P : Program} {s : Sem Value} {w : World} {K K' : Value → World → Prop} (h : RUN P s w K) (hk : ∀ v w', K v w' → K' v w') : RUN P s w K' := by
  unfold RUN at *
  split
  · rename_i e; rw [e] at h; exact hk _ _ h
  · rename_i e
    split at h
    · rename_i e'; exact absurd e' (e _ _)
    · exact h

theorem RUNU.mono {P : Program} {s : Sem Unit} {w : World} {K K' : World → Prop} (h : RUNU P s w K) (hk : ∀ w', K w' → K' w') : RUNU P s w K' := by
  unfold RUNU at *
  split
  · rename_i e; rw [e] at h; exact hk _ h
  · rename_i e
    split at h
    · rename_i e'; exact absurd e' (e _ _)
    · exact h

theorem set_other {ρ : Env} {d : Nat} {v : Option Value} {j : Nat} (h : j ≠ d) : (ρ.set d v) j = ρ j := by
  unfold Env.set
  cases hb : Nat.beq j d with
  | false => rfl
  | true => exact absurd (Nat.eq_of_beq_eq_true hb) h

theorem set_same {ρ : Env} {d : Nat} {v : Option Value} : (ρ.set d v) d = v := by
  unfold Env.set
  cases hb : Nat.beq d d with
  | false => simp at hb
  | true => rfl

theorem put_other {ρ : Env} {d : Option Nat} {v : Option Value} {j : Nat} (h : d ≠ some j) : (ρ.put d v) j = ρ j := by
  cases d with
  | none => rfl
  | some d => exact set_other (fun e => h (by rw [e]))

theorem stepX_mono {P : Program} {n : Nat} {o : Oper} {ρ : Env} {E : List PanicEntry → World → Prop} {w : World} {K K' : Env → World → Prop}
    (hs : stepX P n o ρ E w K) (hk : ∀ ρ' w', (∀ j, o.dst ≠ some j → ρ' j = ρ j) → K ρ' w' → K' ρ' w') : stepX P n o ρ E w K' := by
  unfold stepX at hs ⊢
  split at hs
  · cases hs
  rename_i hd
  obtain ⟨dst, op, type, pos, after, guard⟩ := o
  have put : ∀ v w', K (ρ.put dst v) w' → K' (ρ.put dst v) w' := fun v w' => hk _ _ fun j hj => put_other hj
  have gen : ∀ (hm : (match known ρ op.operands.toList with
      | false => False
      | true =>
        match opV ρ { dst, op, type, pos, after, guard } with
        | some s => match asks P { dst, op, type, pos, after, guard } with
          | 0 => PURE P s fun v => K (ρ.put dst (some v)) w
          | _ => RUN P s w fun v w => K (ρ.put dst (some v)) w
        | none => match opU ρ { dst, op, type, pos, after, guard } with
          | some s => RUNU P s w fun w => K (ρ.put dst (some undef)) w
          | none => False)), (match known ρ op.operands.toList with
      | false => False
      | true =>
        match opV ρ { dst, op, type, pos, after, guard } with
        | some s => match asks P { dst, op, type, pos, after, guard } with
          | 0 => PURE P s fun v => K' (ρ.put dst (some v)) w
          | _ => RUN P s w fun v w => K' (ρ.put dst (some v)) w
        | none => match opU ρ { dst, op, type, pos, after, guard } with
          | some s => RUNU P s w fun w => K' (ρ.put dst (some undef)) w
          | none => False) := by
    intro hm
    cases hkn : known ρ op.operands.toList with
    | false => rw [hkn] at hm; exact hm
    | true =>
      rw [hkn] at hm
      simp only at hm ⊢
      split
      · rename_i s hsv
        rw [hsv] at hm
        simp only at hm ⊢
        split
        · rename_i h0
          rw [h0] at hm
          obtain ⟨v, h1, h2⟩ := hm
          exact ⟨v, h1, put _ _ h2⟩
        · rename_i h0
          split at hm
          · rename_i h1; exact absurd h1 h0
          · exact RUN.mono hm fun v w' => put _ _
      · rename_i hsv
        rw [hsv] at hm
        simp only at hm
        split
        · rename_i s hsu
          rw [hsu] at hm
          exact RUNU.mono hm fun w' => put _ _
        · rename_i hsu
          rw [hsu] at hm
          exact hm
  cases op with
  | move x => exact put _ _ hs
  | assign x => exact put _ _ hs
  | panic x =>
    simp only at hs ⊢
    exact hs
  | call c =>
    obtain ⟨callee, args, argTypes⟩ := c
    cases callee with
    | value x =>
      cases x with
      | func f =>
        simp only at hs ⊢
        split
        · rename_i hkn; rw [hkn] at hs; exact hs
        · rename_i hkn; rw [hkn] at hs; exact CALL.mono hs fun v w' => put _ _
      | tmp t =>
        simp only at hs ⊢
        split
        · rename_i hkn; rw [hkn] at hs; exact hs
        · rename_i hkn; rw [hkn] at hs; exact CALLV.mono hs fun v w' => put _ _
      | const v =>
        simp only at hs ⊢
        split
        · rename_i hkn; rw [hkn] at hs; exact hs
        · rename_i hkn; rw [hkn] at hs; exact CALLV.mono hs fun v w' => put _ _
      | global g =>
        simp only at hs ⊢
        split
        · rename_i hkn; rw [hkn] at hs; exact hs
        · rename_i hkn; rw [hkn] at hs; exact CALLV.mono hs fun v w' => put _ _
    | builtin b => exact gen hs
    | invoke r m => exact gen hs
  | _ => exact gen hs

theorem stepQ_mono {P : Program} {n : Nat} {o : Oper} {ρ : Env} {S : World → Prop} {w : World} {K K' : Env → Prop}
    (hs : stepQ P n o ρ S w K) (hk : ∀ ρ', (∀ j, o.dst ≠ some j → ρ' j = ρ j) → K ρ' → K' ρ') : stepQ P n o ρ S w K' := by
  unfold stepQ at hs ⊢
  split at hs
  · cases hs
  rename_i hd
  obtain ⟨dst, op, type, pos, after, guard⟩ := o
  have put : ∀ v, K (ρ.put dst v) → K' (ρ.put dst v) := fun v => hk _ fun j hj => put_other hj
  have gen : ∀ (hm : (match known ρ op.operands.toList with
      | false => False
      | true =>
        match opV ρ { dst, op, type, pos, after, guard } with
        | some s => match asks P { dst, op, type, pos, after, guard } with
          | 0 => PURE P s fun v => K (ρ.put dst (some v))
          | 1 => READ P S s w fun v => K (ρ.put dst (some v))
          | _ => False
        | none => False)), (match known ρ op.operands.toList with
      | false => False
      | true =>
        match opV ρ { dst, op, type, pos, after, guard } with
        | some s => match asks P { dst, op, type, pos, after, guard } with
          | 0 => PURE P s fun v => K' (ρ.put dst (some v))
          | 1 => READ P S s w fun v => K' (ρ.put dst (some v))
          | _ => False
        | none => False) := by
    intro hm
    cases hkn : known ρ op.operands.toList with
    | false => rw [hkn] at hm; exact hm
    | true =>
      rw [hkn] at hm
      simp only at hm ⊢
      split
      · rename_i s hsv
        rw [hsv] at hm
        simp only at hm ⊢
        split at hm
        · obtain ⟨v, h1, h3⟩ := hm
          exact ⟨v, h1, put _ h3⟩
        · obtain ⟨v, h1, h2, h3⟩ := hm
          exact ⟨v, h1, h2, put _ h3⟩
        · cases hm
      · rename_i hsv
        rw [hsv] at hm
        exact hm
  cases op with
  | move x => exact put _ hs
  | assign x => exact put _ hs
  | _ => exact gen hs

def guardDst (ops : Array Oper) (o : Oper) : Option Nat := o.guard.bind fun g => (ops[g.1]?).bind (·.dst)

theorem guardX_mono {ops : Array Oper} {o : Oper} {dec : List Nat} {ρ : Env} {go go' : Bool → List Nat → Env → Prop}
    (hg : guardX ops o dec ρ go) (hk : ∀ b dec' ρ', (∀ j, guardDst ops o ≠ some j → ρ' j = ρ j) → go b dec' ρ' → go' b dec' ρ') : guardX ops o dec ρ go' := by
  unfold guardX at hg ⊢
  split at hg
  · exact hk _ _ _ (fun _ _ => rfl) hg
  rename_i j want hn
  split at hg
  · cases hg
  rename_i t ht
  have hgd : guardDst ops o = some t := by simp [guardDst, hn, ht]
  split at hg
  · split at hg
    · exact hk _ _ _ (fun _ _ => rfl) hg
    · exact hk _ _ _ (fun _ _ => rfl) hg
    · cases hg
  · split at hg
    · rename_i v hv
      rcases hg with ⟨e, hg⟩ | ⟨e, hg⟩
      · exact .inl ⟨e, hk _ _ _ (fun j hj => set_other (fun e => hj (by rw [hgd, e]))) hg⟩
      · exact .inr ⟨e, hk _ _ _ (fun j hj => set_other (fun e => hj (by rw [hgd, e]))) hg⟩
    · cases hg

end Go.Sx
