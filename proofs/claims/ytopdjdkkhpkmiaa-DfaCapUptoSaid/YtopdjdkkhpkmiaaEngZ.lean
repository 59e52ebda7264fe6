import Derived.Test.YtopdjdkkhpkmiaaEngY
set_option linter.unusedVariables false
set_option linter.unusedSimpArgs false
namespace Go.Sx
open Go

theorem argEnv_spec : ∀ (vs : List Value) (i j : Nat) (v : Value), argEnv i vs j = some v → i ≤ j ∧ vs[j - i]? = some v
  | [], i, j, v, h => by cases h
  | u :: vs, i, j, v, h => by
    unfold argEnv at h
    by_cases e : j = i
    · subst e
      rw [set_same] at h
      simp at h
      simp [h]
    · rw [set_other e] at h
      have := argEnv_spec vs (i + 1) j v h
      refine ⟨by omega, ?_⟩
      have e2 : j - i = (j - (i + 1)) + 1 := by omega
      rw [e2]
      simpa using this.2

theorem agree_args {n : Nat} {vs : List Value} (h : vs.length ≤ n) : Agree n (argEnv 0 vs) { tmps := vs.toArray ++ Array.replicate (n - vs.toArray.size) undef, defers := [] } := by
  refine ⟨by simp; omega, rfl, fun j v hj => ?_⟩
  obtain ⟨_, hv⟩ := argEnv_spec _ _ _ _ hj
  have hlt : j < vs.length := (List.getElem?_eq_some_iff.1 hv).1
  simp only
  rw [Array.getElem?_append_left (by simpa using hlt)]
  simpa using hv

theorem getD_of {a : Act} {i : Nat} {v : Value} (h : a.tmps[i]? = some v) : a.tmps.getD i undef = v := by
  simp [Array.getD_eq_getD_getElem?, h]

theorem RES_sound {P : Program} {n : Nat} {fn : Func} {ρ : Env} {a : Act} {w : World} {K : Value → Prop} (ha : Agree n ρ a) (h : RES P fn.results.toList ρ w K) :
    ∃ v, (results fn a.tmps).run P w = .ok v w ∧ K v := by
  have hrs : fn.results = fn.results.toList.toArray := by simp
  generalize fn.results.toList = l at *
  unfold RES at h
  split at h
  · exact ⟨_, by simp [results, hrs], h⟩
  · split at h
    · rename_i v hv
      exact ⟨v, by simp [results, hrs, ha.val _ _ hv], h⟩
    · cases h
  · split at h
    · rename_i v hv
      obtain ⟨x, hx, hK⟩ := h
      refine ⟨x, ?_, hK⟩
      simp only [results, hrs]
      replace hx : (Sem.bind (asAddr v) fun q => loadVar _ q).run P w = .ok x w := hx
      rw [run_bind] at hx
      cases hq : (asAddr v).run P w with
      | halt e w1 => rw [hq] at hx; cases hx
      | ok q w1 =>
        rw [hq] at hx
        have := ha.val _ _ hv
        simp only [] at hx
        simp [this, hq, hx, Result.andThen]
    · cases h
  · split at h
    · rename_i v u hv hu
      exact ⟨_, by simp [results, hrs, ha.val _ _ hv, ha.val _ _ hu], h⟩
    · cases h
  · split at h
    · rename_i v u t hv hu ht
      exact ⟨_, by simp [results, hrs, ha.val _ _ hv, ha.val _ _ hu, ha.val _ _ ht], h⟩
    · cases h
  · cases h

/-- The way in: a call, out of what its body comes to. -/
theorem calls_comp {P : Program} {f : FuncId} {fn : Func} {c : Code} {args : List Value} {w : World} {R : Ending → World → Prop} (an : List (Nat × List Nat))
    (hf : P.funcs[f]? = some fn) (hb : fn.body = some c) (hn : args.length ≤ fn.ntmps)
    (h : comp P fn.ntmps an (fun c w => R (.panicked c) w) false c (bodyQ P fn.results.toList R) (argEnv 0 args) w) : Calls P f args.toArray w R := by
  refine calls_of_wp hf hb ?_
  refine wp_mono ((comp_sound _ _ _ _ _ _ (agree_args hn) h).1 rfl) fun e a' w' hq => ?_
  cases e with
  | normal =>
    obtain ⟨ρ, ha, hq⟩ := hq
    obtain ⟨v, hr, hK⟩ := RES_sound (fn := fn) (K := fun v => R (.returned v) w') ha hq
    exact ⟨ha.nodef, v, hr, hK⟩
  | ret =>
    obtain ⟨ρ, ha, hq⟩ := hq
    obtain ⟨v, hr, hK⟩ := RES_sound (fn := fn) (K := fun v => R (.returned v) w') ha hq
    exact ⟨ha.nodef, v, hr, hK⟩
  | panic c => exact hq
  | exit id => obtain ⟨ρ, _, hq⟩ := hq; exact hq
  | goto l => obtain ⟨ρ, _, hq⟩ := hq; exact hq
  | outgrown => exact (hq : False).elim

def bodyOf (fn : Func) : Code := fn.body.getD .skip

theorem calls_by {P : Program} {f : FuncId} {fn : Func} {args : List Value} {w : World} {R : Ending → World → Prop} (an : List (Nat × List Nat)) (hf : P.funcs[f]? = some fn) (hb : fn.body.isSome = true)
    (hn : Nat.ble args.length fn.ntmps = true) {T : Prop}
    (e : comp P fn.ntmps an (fun c w => R (.panicked c) w) false (bodyOf fn) (bodyQ P fn.results.toList R) (argEnv 0 args) w = T) (h : T) : Calls P f args.toArray w R := by
  obtain ⟨c, hc⟩ := Option.isSome_iff_exists.1 hb
  have : bodyOf fn = c := by simp [bodyOf, hc]
  rw [this] at e
  exact calls_comp an hf hc (Nat.le_of_ble_eq_true hn) (e.mpr h)

end Go.Sx
