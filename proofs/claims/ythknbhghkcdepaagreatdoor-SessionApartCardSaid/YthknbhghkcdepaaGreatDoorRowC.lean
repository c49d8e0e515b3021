/- SessionApart answers true whatever the rows of requests are, and leaves them as they were; the package-level variables that the row lists are laid as the program's text lays them. -/
import Derived.Test.YthknbhghkcdepaaGreatDoorTie
import Derived.Test.YthknbhghkcdepaaGreatDoorCards
import Derived.Test.YthknbhghkcdepaaGreatDoorJKArg
import Derived.Test.YthknbhghkcdepaaGreatDoorJLift
import Derived.Test.YthknbhghkcdepaaGreatDoorL20C
import Derived.ProofKit
import Derived.OpenShut
import Derived.LaidMore
import Derived.Lay
import Derived.Carry
import Derived.SevenTiedAt
import Derived.Stop.Joined
set_option maxHeartbeats 4000000
set_option linter.unusedVariables false
namespace Go.Proofs.YthknbhghkcdepaaGreatDoor
namespace Apart
open Go.ChangeShapes Go.WideShapes Go.ChangeAt Go.RowKit
theorem own : ownKnob Tryz.prog.godebug = none := by kernel_rfl
theorem laidOut : laidOutB Tryz.prog = true := by kernel_rfl
theorem cells42 : Tryz.prog.cellsOf 42 = 3 := by kernel_rfl
theorem cells3 : Tryz.prog.cellsOf 3 = 1 := by kernel_rfl
theorem cells25 : Tryz.prog.cellsOf 25 = 1 := by kernel_rfl
set_option maxRecDepth 100000 in
theorem lifted (os : Os) (started : os.Started) (H : Type) (enc : TypeId × Value → H) :
    ReturnsInHanded {} Tryz.checked os 6 .any (fun w args => (Rows.sessionApartSpec.pre enc Tryz.prog Tryz.f6 Rows.sessionApartRow.domain false w args ∧ laidMetH Tryz.prog Rows.sessionApartRow.laid w) ∧ sizedMet enc Tryz.prog Tryz.f6 (OpenSpec.ofChange Rows.sessionApartSpec) false w args)
      (Rows.sessionApartSpec.post enc Tryz.prog Tryz.f6 false true false false) := by
  refine returnsInHanded_of_change_and (C := Tryz.checked) (X := fun w _ => laidMetH Tryz.prog Rows.sessionApartRow.laid w) (fun _ _ _ hh h => h.of_heap hh) own started (by kernel_rfl) Tryz.func6
    (ChangeSpec.witness_shaped (enc := enc) (C := Tryz.checked) (os := os) (X := fun w _ => laidMetH Tryz.prog Rows.sessionApartRow.laid w) false (World.laidAll Tryz.prog os Rows.sessionApartRow.laid) #[.slice none 0 0, .int .i64 0] 8 (World.laidAll_os _ _ _)
      (World.shaped_of_ZipB (by kernel_rfl) (by kernel_rfl)) (by kernel_rfl) (by kernel_rfl) (by kernel_rfl)
      (by rw [MakeChecks.laidMetH_plain _ _ _ (by kernel_rfl)]; exact laidMet_laidAll _ (by kernel_rfl) (by kernel_rfl))) ?_
  intro W base args ds gs before hval0 hW _ _ hL _
  have hval : ∀ (j : Nat) t v, Tryz.f6.params[j]? = some t → args[j]? = some v → Value.okWide Tryz.prog W .any base t v := hval0
  have hW' := hW
  obtain ⟨pp, q, hA0, hV, rfl, _, _⟩ := hW
  have hA : DataW.TrodAll enc Tryz.prog W 0 (fun _ => true) true Tryz.f6.params.toList args.toList ds pp := hA0
  rw [Tryz.params6] at hA hval
  obtain ⟨v0, v1, d0, d1, p, p1, rfl, rfl, rfl, h0, h1⟩ := trodAll_two hA
  obtain ⟨rfl, rfl⟩ := trodVars_none hV
  obtain ⟨a, len, cap, rfl⟩ := okWide_slice Tryz.underlying38 (hval 0 38 v0 rfl rfl)
  obtain ⟨d, rfl, rfl, rfl, hwd⟩ := open_int Tryz.underlying3 (hval 1 3 v1 rfl rfl) h1
  have k0 := h0
  have lt0 : ∀ x ∈ p, x.block < W.heap.size := by obtain ⟨m, hm⟩ := k0; exact DataW.trod_lt m _ _ _ hm
  obtain ⟨fuel, hf⟩ := h0
  obtain ⟨l, z, hz, hvr⟩ := Go.J.open_krs Tryz.underlying38 Tryz.underlying42 cells42 rfl
    (fun f hf => by obtain rfl := (Option.some.inj hf).symm; exact ⟨rfl, cells3, Tryz.underlying3⟩)
    (fun f hf => by obtain rfl := (Option.some.inj hf).symm; exact ⟨rfl, cells3, Tryz.underlying3⟩)
    (fun f hf => by obtain rfl := (Option.some.inj hf).symm; exact ⟨rfl, cells25, Tryz.underlying25⟩) hf
  have hP := (Go.J.Tryz.LC.law_Apart [] l d).2 [Go.J.FZ 3 l.length (Go.J.krsC l), .int .i64 d] ⟨rfl, rfl, trivial⟩
  have hvs : Go.J.VRs ⟨[], z⟩ [Go.J.FZ 3 l.length (Go.J.krsC l), .int .i64 d] (#[Value.slice a len cap, Value.int .i64 d] : Array Value).toList :=
    ⟨rfl, fun i v v' hv hv' => by
      cases i with
      | zero => simp at hv hv'; subst hv; subst hv'; exact hvr
      | succ i =>
        cases i with
        | zero => simp at hv hv'; subst hv; subst hv'; exact .int _ _
        | succ i => simp at hv⟩
  have hC := Go.J.Spec.calls (r := .bool true) (new := fun _ => True) (hP.mono (fun o h' ⟨new, _, ho, _⟩ => ⟨ho, trivial⟩)) Tryz.func6 rfl (by kernel_rfl) rfl hz hvs
  refine hC.mono fun e W' ⟨he, bel⟩ => ?_
  subst he
  simp only [List.append_nil] at hW'
  exact ⟨_, rfl, _, _, _, [], _, [], hW', trodAll_mk1 (shut_bool Tryz.underlying4 _), trodAll_mk2 (Below.trod laidOut (by kernel_rfl) (of_decide_eq_true (by kernel_rfl)) k0 bel lt0) (shut_int Tryz.underlying3 hwd), rfl, bel.frame _, fun h => by cases h⟩
theorem holds : Rows.SessionApartSaid :=
  OpenClaim.holds_of_wide 6 Tryz.f6 rfl rfl rfl rfl rfl rfl rfl ⟨rfl, rfl, rfl, rfl, rfl⟩ rfl rfl rfl rfl rfl (by kernel_rfl) Tryz.func6 (by kernel_rfl)
    (of_decide_eq_true (by kernel_rfl)) (by unfold Func.isWrapper; first | (rw [if_pos (by decide +kernel)]; kernel_rfl) | (rw [if_neg (by decide +kernel)]; exact ⟨rfl, rfl⟩))
    (fun os started H enc _ => lifted os started H enc)
end Apart
theorem sessionApart_card_holds : Rows.SessionApartCardSaid :=
  Claim7.holds_tied_plain_at .later [] [.data, .sentinel, .pinned] true (true, "378eab9d109d8b547c6af9e52cb11cca95f5cbb4522de7472bb85a2dfeefc76c") true Apart.holds (fun _ h => by cases h) (by kernel_rfl) (fun _ h => by cases h) sessionApart_row_tie rfl ⟨rfl, rfl⟩ (by kernel_rfl) rfl
    (fun f fn hf hfn => by
      obtain rfl : f = 6 := Option.some.inj ((show Tryz.prog.funcNamed "joist/joistlaw20.SessionApart" = some 6 by kernel_rfl).symm.trans hf) |>.symm
      obtain rfl : fn = Tryz.f6 := (Option.some.inj (Tryz.func6.symm.trans hfn)).symm
      exact ⟨by kernel_rfl, fun j t ht => by
        rw [Tryz.params6] at ht
        have hm : t ∈ [38, 3] := by simpa using Array.mem_of_getElem? ht
        have hall : ([38, 3].all fun u => !Tryz.prog.wantsStandIn u) = true := by kernel_rfl
        exact (show Tryz.prog.wantsStandIn t = false by simpa using List.all_eq_true.1 hall t hm)⟩)
    (by kernel_rfl)
#print axioms sessionApart_card_holds
end Go.Proofs.YthknbhghkcdepaaGreatDoor
