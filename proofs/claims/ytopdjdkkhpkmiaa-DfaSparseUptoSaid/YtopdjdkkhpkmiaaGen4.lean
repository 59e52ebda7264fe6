import Derived.Test.YtopdjdkkhpkmiaaGen3
import Derived.Lib.SlBytesConst
import Derived.Laws.BytesString
import Derived.Laws.IdiomStrings
import Derived.Laws.BytesArg
set_option linter.unusedVariables false
set_option linter.unusedSimpArgs false
namespace Go.Sx
open Go

/-- '[]byte("..")' of a constant. -/
theorem LIT {P : Program} {s : Sem Value} {w : World} {t e : TypeId} {n : Nat} {K : Value → World → Prop} (l : List UInt8) (hrun : s.run P w = .ok (.slice (some ⟨w.heap.size, 0, none⟩) n n) (w.alloc (.cells (l.map vB).toArray e))) (ht : P.underlying t = some (.slice e)) (he : P.underlying e = some (.int .u8)) (hl : l.length = n) (hb : n ≤ 140737488355328)
    (k : ∀ w', SlB w' (.slice (some ⟨w.heap.size, 0, none⟩) n n) l → Ext w w' → w'.heap.size = w.heap.size + 1 → K (.slice (some ⟨w.heap.size, 0, none⟩) n n) w') : RUN P s w fun v1 w1 => RUN P (convert t t v1) w1 K := by
  rw [RUN_eq hrun]
  have hc := Lib.run_convert_bytes_const (P := P) w t e (l.map vB).toArray n n ht he
  rw [RUN_eq hc]
  refine k _ ⟨_, n, by rw [hl], .inr ⟨_, 0, rfl, fun i v hi => ?_⟩, by omega, by omega⟩ (Ext.alloc w _) (by simp)
  rw [Nat.zero_add]
  have := heap_alloc_new w (.cells (l.map vB).toArray e ((l.map vB).toArray.size, (l.map vB).toArray.size + 1))
  simp only [World.cell?, this]
  simp only [List.getElem?_toArray]
  rw [hi]
  rfl

/-- 'string(..)' of bytes. -/
theorem STR {P : Program} {src dst e : TypeId} (hs : P.underlying src = some (.slice e)) (he : P.underlying e = some (.int .u8)) (hd : P.underlying dst = some .string) {w : World} {v : Value} {l : List UInt8} {K : Value → World → Prop} (h : SlB w v l) : RUN P (convert src dst v) w K = K (.string ⟨l.toArray⟩) w := by
  obtain ⟨A, c, rfl, hr, _⟩ := h
  cases A with
  | none =>
    have : l = [] := by
      cases l with
      | nil => rfl
      | cons x l => rcases hr with hr | ⟨_, _, hr, _⟩ <;> cases hr
    subst this
    exact RUN_eq (run_convert_bytes_nil (P := P) (w := w) src e hs he _ _ dst hd)
  | some a =>
    refine RUN_eq (run_convert_bytes_back (P := P) w src dst e a c l hs he hd fun j hj => ?_)
    rcases hr with hr | ⟨b, o, ha, hr⟩
    · simp at hr; subst hr; simp at hj
    · injection ha with ha
      subst ha
      rw [addr_add]
      exact hr j _ (by simp [hj, vB])
theorem SlB.kp {w w' : World} {v : Value} {l : List UInt8} (h : SlB w v l) (k : KP (fun _ => False) w w') : SlB w' v l := by
  obtain ⟨A, c, rfl, hr, h1, h2⟩ := h
  refine ⟨A, c, rfl, ?_, h1, h2⟩
  rcases hr with hr | ⟨b, o, rfl, hr⟩
  · exact .inl hr
  · exact .inr ⟨b, o, rfl, fun i v hv => k.cell (hr i v hv) (fun x => x)⟩
theorem run_STR {P : Program} {src dst e : TypeId} (hs : P.underlying src = some (.slice e)) (he : P.underlying e = some (.int .u8)) (hd : P.underlying dst = some .string) {w : World} {v : Value} {l : List UInt8} (h : SlB w v l) : (convert src dst v).run P w = .ok (.string ⟨l.toArray⟩) w := by
  have := (STR (K := fun v' w' => v' = .string ⟨l.toArray⟩ ∧ w' = w) hs he hd h).mpr ⟨rfl, rfl⟩
  unfold RUN at this
  split at this
  · rename_i h1; rw [h1, this.1, this.2]
  · cases this
theorem STRK {P : Program} {src dst e : TypeId} (hs : P.underlying src = some (.slice e)) (he : P.underlying e = some (.int .u8)) (hd : P.underlying dst = some .string) {w w1 : World} {v : Value} {l : List UInt8} {K : Value → Prop} (h : SlB w v l) (hk : KP (fun _ => False) w w1) : READ P (KP (fun _ => False) w) (convert src dst v) w1 K = K (.string ⟨l.toArray⟩) :=
  READ_eq (run_STR hs he hd (h.kp hk)) fun w' hw => run_STR hs he hd (h.kp hw)
end Go.Sx
