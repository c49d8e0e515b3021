/- The book answers at the chapter's own case: what the closed function 8 gives. No condition. -/
import Derived.Test.YthknbhghkcdepaaGreatDoorXR
import Derived.Test.YthknbhghkcdepaaGreatDoorJPure
set_option maxRecDepth 100000
namespace Go.J
theorem Pure.closed {P : Program} {gs : List (Nat × Obj)} {g : FuncId} {b : Value} (hb : ∀ ρ, RU ρ b b) (k : Spec P gs g [] [] (fun o h => o = .ret b ∧ h = [])) : Pure P gs g [] (rS b) :=
  ⟨Sh.rS hb, fun vs hv => by
    cases vs with
    | nil => exact k.mono (fun o h' ⟨a, b⟩ => ⟨[], by simp [b, locHeap], a, rfl⟩)
    | cons a l => exact hv.elim⟩
end Go.J
namespace Go.J.Tryz
open Go.Proofs
theorem alive_pure (gs : List (Nat × Obj)) : Pure Tryz.prog gs 8 [] (rS (.bool true)) := Pure.closed (fun _ => .same rfl) (Go.Proofs.YthknbhghkcdepaaGreatDoor.X.alive_spec gs)
end Go.J.Tryz
