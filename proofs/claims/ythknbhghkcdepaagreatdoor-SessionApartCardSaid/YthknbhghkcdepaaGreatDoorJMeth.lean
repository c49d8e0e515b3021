/- The program logic J, part 19: methods of a struct that is one's own. No condition. -/
import Derived.Test.YthknbhghkcdepaaGreatDoorJEqs
set_option maxHeartbeats 4000000
set_option linter.unusedVariables false
set_option linter.unusedSimpArgs false
namespace Go.J
/-- What a method may answer. -/
def okR (v : Value) : Prop := okS v ∨ (∃ vs : List Value, v = .tuple vs.toArray ∧ vs.all zb = true) ∨ ∃ x, v = .pointer (some ⟨0, x, none⟩)
theorem okR.s {v : Value} (h : okS v) : okR v := .inl h
theorem okR.t {vs : List Value} (h : vs.all zb = true) : okR (.tuple vs.toArray) := .inr (.inl ⟨vs, rfl, h⟩)
theorem okR.p {x : Nat} : okR (.pointer (some ⟨0, x, none⟩)) := .inr (.inr ⟨x, rfl⟩)
/-- A method, called with its struct's cells. -/
def Meth (P : Program) (gs : List (Nat × Obj)) (g : FuncId) (us : List Value) (c : List Value) (e : Nat) (R : Value → List Value → Prop) : Prop :=
  Spec P gs g (.pointer (some ⟨0, 0, none⟩) :: us) [⟨c, .w, e⟩] (fun o h' => ∃ v c', o = .ret v ∧ h' = [⟨c', .w, e⟩] ∧ c'.all zb = true ∧ okR v ∧ R v c')
def up (i : Nat) : Value → Value
  | .pointer (some ⟨0, x, none⟩) => .pointer (some ⟨i, x, none⟩)
  | v => v
section
variable {P : Program} {gs : List (Nat × Obj)} {m N : Nat} {K : AFr → List Blk → Prop} {Kp : Value → AFr → List Blk → Prop} {f : AFr} {h : List Blk} {o : Oper}
theorem okR.ru {ρ : Rn} {v : Value} {i : Nat} (h : okR v) (hρ : ρ[0]? = some (some (i, 0))) : RU ρ v (up i v) := by
  rcases h with h | ⟨vs, rfl, h⟩ | ⟨x, rfl⟩
  · have : up i v = v := by
      unfold okS at h
      unfold up
      split
      · simp [Value.cells, zb, scal] at h
      · rfl
    rw [this]; exact h.ru
  · exact RU.tupleL (RUs.same h)
  · exact RU.ptrK hρ
theorem OpJ.callM {fx : Operand} {as : Array Operand} {ats : Array TypeId} {g : FuncId} {us c : List Value} {i e : Nat} {R : Value → List Value → Prop} (ho : o.op = .call ⟨.value fx, as, ats⟩) (hf : ev f fx = some (.func (.func g) #[] #[]))
    (ha : as.toList.map (ev f) = (.pointer (some ⟨i, 0, none⟩) :: us).map some) (hb : h[i]? = some ⟨c, .w, e⟩) (hs : c.all zb = true) (hus : us.all (fun v => v.cells.toList.all zb) = true) (hS : Meth P gs g us c e R)
    (kk : ∀ v c', c'.all zb = true → R v c' → K (pt f o.dst (up i v)) (h.set i ⟨c', .w, e⟩)) : OpJ P gs m N o K Kp f h := by
  refine OpJ.call (fs := []) (cs := []) (us := .pointer (some ⟨i, 0, none⟩) :: us) (vs := .pointer (some ⟨0, 0, none⟩) :: us) (hl := [⟨c, .w, e⟩]) [some (i, 0)] ho hf ha hS ?_ rfl ?_ ?_ ?_
  · refine EmbC.emb ⟨⟨_, hb, BE.same rfl hs⟩, trivial⟩ rfl
  · simp only [List.nil_append, List.append_nil]
    refine .cons (RV.ptrK rfl) ?_
    have : ∀ us : List Value, us.all (fun v => v.cells.toList.all zb) = true → RVL [some (i, 0)] us us := by
      intro us
      induction us with
      | nil => intro _; exact .nil
      | cons u us ih =>
        intro h
        simp only [List.all_cons, Bool.and_eq_true] at h
        exact .cons (okS.rv h.1) (ih h.2)
    exact this us hus
  · rintro v h' ⟨v', c', ho', rfl, hc', hv, hR⟩
    cases ho'
    refine ⟨up i v, [⟨c', .w, e⟩], .cons (.same rfl hc') .nil, rfl, hv.ru rfl, ?_⟩
    have : back [⟨c, .w, e⟩] [some (i, 0)] [⟨c', .w, e⟩] h = h.set i ⟨c', .w, e⟩ := by simp [back, setB, isW, setO]
    rw [this]
    exact kk v c' hc' hR
  · rintro v h' ⟨v', c', ho', _⟩
    cases ho'
end
end Go.J
