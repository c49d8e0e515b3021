/- The program logic J: out of what a function does to what a row says. No condition. -/
import Derived.Test.YthknbhghkcdepaaGreatDoorJSpec
import Derived.Test.YthknbhghkcdepaaGreatDoorJPure
import Derived.Below
set_option maxHeartbeats 4000000
set_option linter.unusedVariables false
set_option linter.unusedSimpArgs false
namespace Go.J
/-- A function that is called with what lies in memory that nobody writes, and answers with a plain value: nothing that was there has turned. -/
theorem Spec.calls {P : Program} {g : FuncId} {fn : Func} {c : Code} {vs : List Value} {r : Value} {new : List Blk → Prop} {args : Array Value} {W : World} {z : List (Nat × Array Value)} (hS : Spec P [] g vs [] (fun o h' => o = .ret r ∧ new h'))
    (hf : P.funcs[g]? = some fn) (hb : fn.body = some c) (hn : (fn.name == "runtime.NumGoroutine") = false) (hr : scal r = true)
    (hz : ∀ p ∈ z, ∃ t fr, W.heap[p.1]? = some (.cells p.2 t fr)) (hv : VRs ⟨[], z⟩ vs args.toList) : Calls P g args W fun e W' => e = .returned r ∧ RowKit.Below W.heap.size W W' := by
  have h := hS ⟨[], z⟩ W args ⟨rfl, fun i B h => by simp at h, fun i j B D l m _ h => by simp at h, fun p h => by simp at h, hz, fun p _ i B l h => by simp at h, fun p h => by simp at h⟩ hv
  have hcall : (callFunc g args).run P W = .ok (.enter g args) W := by
    have hn' : fn.name ≠ "runtime.NumGoroutine" := by simpa using hn
    unfold callFunc
    simp [hf, hn', hb]
  unfold CallR at h
  rw [hcall] at h
  refine Calls.mono h ?_
  intro e W' he
  cases e with
  | returned v' =>
    obtain ⟨τ, h', v, I, hvr, hR, _⟩ := he
    cases hR
    rw [hvr.scal_eq hr]
    refine ⟨rfl, I.os, I.tape, I.out, I.size, fun k hk => I.keep k hk ?_⟩
    rintro ⟨i, B, l, h1, _⟩
    simp at h1
  | panicked ch => obtain ⟨τ, h', v, v', _, I, hvr, hR, _⟩ := he; cases hR
  | outgrown => exact he.elim
end Go.J
