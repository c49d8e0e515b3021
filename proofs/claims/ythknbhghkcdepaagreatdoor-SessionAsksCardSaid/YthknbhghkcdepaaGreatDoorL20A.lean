/- Walks through functions of the program. No condition. -/
import Derived.Test.YthknbhghkcdepaaGreatDoorWSess
import Derived.Test.YthknbhghkcdepaaGreatDoorXA
import Derived.Test.YthknbhghkcdepaaGreatDoorXB
import Derived.Test.YthknbhghkcdepaaGreatDoorJPLaw20
import Derived.Test.YthknbhghkcdepaaGreatDoorJFOps
import Derived.Test.YthknbhghkcdepaaGreatDoorProg
set_option maxHeartbeats 4000000
set_option linter.unusedVariables false
set_option linter.unusedSimpArgs false
set_option maxRecDepth 4000
namespace Go.J.Tryz.LA
open Go.Proofs
theorem ti3 : TI Tryz.prog 3 ((Value.int IntKind.i64 0)) 1 8 := by unfold TI; kernel_rfl
theorem ti25 : TI Tryz.prog 25 ((Value.int IntKind.i64 0)) 1 8 := by unfold TI; kernel_rfl
theorem ti42 : TI Tryz.prog 42 ((Value.agg #[Value.int IntKind.i64 0, Value.int IntKind.i64 0, Value.int IntKind.i64 0])) 3 24 := by unfold TI; kernel_rfl
theorem name4 : (Tryz.f4.name == "runtime.NumGoroutine") = false := by kernel_rfl

theorem law_Asks (gs : List (Nat × Obj)) (l0 : List KR) : Pure Tryz.prog gs 4 [.s (FZ 3 l0.length (krsC l0))] (rS (.bool true)) := by
  refine ⟨Sh.rS (fun _ => .same rfl), fun vs hv => ?_⟩
  match vs, hv with
  | [_], ⟨rfl, _⟩ =>
  show Spec _ _ _ _ [] (fun o h2 => ∃ new, h2 = ([] : List Blk) ++ new ∧ (rS (.bool true)) 0 o new)
  refine Spec.mk 0 Tryz.func4 rfl name4 Tryz.ntmps4 Tryz.results4 rfl rfl ?_
  refine AWP.seq ?_
  refine AWP.region rfl ?_
  refine AOps.step rfl (OpJ.assign rfl rfl ?_)
  refine AOps.done (thenA.go ?_)
  refine AWP.trim [(0, _)] ⟨rfl, trivial⟩ ?_
  refine AWP.seq ?_
  refine AWP.seq ?_
  refine AWP.region rfl ?_
  refine AOps.step rfl (OpJ.callP (us := []) rfl rfl rfl (alive_pure gs) trivial (fun v0 new hR => ?_) (fun v0 new hR => nomatch hR.1))
  obtain ⟨ho, rfl⟩ := hR
  cases ho
  refine kn2 fun f2 h2 ef eh => ?_
  simp only [pt, List.length_cons, List.length_nil, List.cons_append, List.nil_append, List.set_cons_zero, List.set_cons_succ, wr, Nat.reduceAdd, Nat.reduceMul, Nat.zero_add, Nat.add_zero, List.append_nil] at ef eh
  subst ef eh
  refine AOps.step rfl (OpJ.not rfl rfl ?_)
  refine AOps.done (thenA.go ?_)
  refine AWP.trim [(0, _), (12, _)] ⟨rfl, rfl, trivial⟩ ?_
  refine AWP.condF rfl (rfl) ?_
  refine AWP.skip (thenA.go ?_)
  refine AWP.trim [(0, _)] ⟨rfl, trivial⟩ ?_
  refine AWP.seq ?_
  refine AWP.seq ?_
  refine AWP.region rfl ?_
  refine AOps.step rfl (OpJ.move rfl rfl ?_)
  refine AOps.step rfl (OpJ.lenFZ rfl Tryz.underlying38 rfl ?_)
  refine AOps.step rfl (OpJ.binI rfl rfl rfl rfl ?_)
  refine AOps.done (thenA.go ?_)
  refine AWP.trim [(0, _), (15, _)] ⟨rfl, rfl, trivial⟩ ?_
  refine AWP.cond rfl (fun h15 => ?_) (fun h15 => ?_)
  · simp at h15
    refine AWP.seq ?_
    refine AWP.region rfl ?_
    refine AOps.step rfl (OpJ.assign rfl rfl ?_)
    refine AOps.done (thenA.go ?_)
    refine AWP.trim [(2, _)] ⟨rfl, trivial⟩ ?_
    refine AWP.ret (thenA.ret ?_)
    refine bodyA.ret1 (h2 := []) [] (.tmp rfl) trivial rfl rfl (okS.rv rfl) ⟨_, rfl, ⟨rfl, rfl⟩⟩
  · simp at h15
    refine AWP.skip (thenA.go ?_)
    refine AWP.trim [(0, _)] ⟨rfl, trivial⟩ ?_
    refine AWP.seq ?_
    refine AWP.region rfl ?_
    refine AOps.step rfl (OpJ.callP (us := []) rfl rfl rfl (session_New gs) trivial (fun v0 new hR => ?_) (fun v0 new hR => nomatch hR.1))
    obtain ⟨ho, rfl⟩ := hR
    cases ho
    refine kn2 fun f2 h2 ef eh => ?_
    simp only [pt, List.length_cons, List.length_nil, List.cons_append, List.nil_append, List.set_cons_zero, List.set_cons_succ, wr, Nat.reduceAdd, Nat.reduceMul, Nat.zero_add, Nat.add_zero, List.append_nil] at ef eh
    subst ef eh
    refine AOps.step rfl (OpJ.assign rfl rfl ?_)
    refine AOps.done (thenA.go ?_)
    refine AWP.trim [(0, _), (3, _)] ⟨rfl, rfl, trivial⟩ ?_
    refine AWP.seq ?_
    refine AWP.region rfl ?_
    refine AOps.step rfl (OpJ.buildSliceL (vs := []) rfl Tryz.underlying38 ti42 rfl rfl rfl rfl rfl rfl rfl rfl rfl (kn2 fun f2 h2 ef eh => ?_))
    simp only [pt, List.length_cons, List.length_nil, List.cons_append, List.nil_append, List.set_cons_zero, List.set_cons_succ, wr, Nat.reduceAdd, Nat.reduceMul, Nat.zero_add, Nat.add_zero] at ef eh
    subst ef eh
    refine AOps.step rfl (OpJ.assign rfl rfl ?_)
    refine AOps.done (thenA.go ?_)
    refine AWP.trim [(0, _), (3, _), (4, _)] ⟨rfl, rfl, rfl, trivial⟩ ?_
    refine AWP.seq ?_
    refine AWP.seq ?_
    refine AWP.region rfl ?_
    refine AOps.step rfl (OpJ.assign rfl rfl ?_)
    refine AOps.done (thenA.go ?_)
    refine AWP.trim [(0, _), (3, _), (4, _), (5, _)] ⟨rfl, rfl, rfl, rfl, trivial⟩ ?_
    refine AWP.block ?_
    refine AWP.trim [(0, _), (3, _), (4, _), (5, _)] ⟨rfl, rfl, rfl, rfl, trivial⟩ ?_
    refine AWP.loop (fun m f h => ∃ (i : Nat) (b : List Kp) (l : List KR) (c : Nat), m = l0.length - i ∧ Rel b l ∧ l.length ≤ i ∧ i ≤ l0.length ∧ l.length ≤ c ∧ f = [(0, FZ 3 l0.length (krsC l0)), (3, .pointer (some ⟨0, 0, none⟩)), (4, .slice (some ⟨1, 0, none⟩) l.length c), (5, .int .i64 i)] ∧ h = [⟨bookC b, .w, 1⟩, ⟨krsC l, .w, 3⟩]) _ ⟨0, List.replicate 8 ⟨0, 0⟩, [], 0, rfl, Rel.init, by simp, by simp, by simp, rfl, rfl⟩ ?_
    rintro m _ _ ⟨i, b, l, c, hm, R, h2, h3, h4, rfl, rfl⟩
    refine AWP.seq ?_
    refine AWP.seq ?_
    refine AWP.region rfl ?_
    refine AOps.step rfl (OpJ.move rfl rfl ?_)
    refine AOps.step rfl (OpJ.move rfl rfl ?_)
    refine AOps.step rfl (OpJ.lenFZ rfl Tryz.underlying38 rfl ?_)
    refine AOps.step rfl (OpJ.binI rfl rfl rfl rfl ?_)
    refine AOps.done (thenA.go ?_)
    refine AWP.trim [(0, _), (3, _), (4, _), (5, _), (21, _)] ⟨rfl, rfl, rfl, rfl, rfl, trivial⟩ ?_
    refine AWP.cond rfl (fun h21 => ?_) (fun h21 => ?_)
    · simp at h21
      obtain ⟨k, hk, hdr⟩ := split_kr (b := l0) (i := i) (by omega)
      obtain ⟨a, e, hA⟩ : ∃ a e, askR l k.client k.seq = (a, e) := ⟨_, _, rfl⟩
      have hS : askS b k.client k.seq = (a, e) := (R.ask _ _).trans hA
      refine AWP.skip (thenA.go ?_)
      refine AWP.trim [(0, _), (3, _), (4, _), (5, _)] ⟨rfl, rfl, rfl, rfl, trivial⟩ ?_
      refine AWP.seq ?_
      refine AWP.block ?_
      refine AWP.seq ?_
      refine AWP.region rfl ?_
      refine AOps.step rfl (OpJ.move rfl rfl ?_)
      refine AOps.step rfl (OpJ.move rfl rfl ?_)
      refine AOps.step rfl (OpJ.indexFZ (.int .i64 k.client :: .int .i64 k.seq :: .int .i64 k.err :: krsC (l0.drop (i + 1))) rfl Tryz.underlying38 ti42 rfl rfl (by omega) (by omega) (krsC_cut hk hdr) ?_)
      refine AOps.step rfl (OpJ.loadAggPZ (us := [.int .i64 k.client, .int .i64 k.seq, .int .i64 k.err]) rfl Tryz.underlying42 rfl ti42 rfl (rfl) (rfl) (rfl) ?_)
      refine AOps.step rfl (OpJ.alloc 1 rfl ti42 rfl rfl (kn2 fun f2 h2 ef eh => ?_))
      simp only [pt, List.length_cons, List.length_nil, List.cons_append, List.nil_append, List.set_cons_zero, List.set_cons_succ, wr, Nat.reduceAdd, Nat.reduceMul, Nat.zero_add, Nat.add_zero] at ef eh
      subst ef eh
      refine AOps.step rfl (OpJ.store (vs := [_, _, _]) rfl ti42 rfl rfl rfl rfl (rfl) rfl rfl (Nat.le_of_ble_eq_true rfl) (kn2 fun f2 h2 ef eh => ?_))
      simp only [pt, List.length_cons, List.length_nil, List.cons_append, List.nil_append, List.set_cons_zero, List.set_cons_succ, wr, Nat.reduceAdd, Nat.reduceMul, Nat.zero_add, Nat.add_zero] at ef eh
      subst ef eh
      refine AOps.done (thenA.go ?_)
      refine AWP.trim [(0, _), (3, _), (4, _), (5, _), (6, _)] ⟨rfl, rfl, rfl, rfl, rfl, trivial⟩ ?_
      refine AWP.seq ?_
      refine AWP.region rfl ?_
      refine AOps.step rfl (OpJ.move rfl rfl ?_)
      refine AOps.step rfl (OpJ.fieldAddrV 0 rfl Tryz.underlying42 rfl ti3 (by decide) rfl rfl ?_)
      refine AOps.step rfl (OpJ.load rfl Tryz.underlying3 rfl rfl rfl rfl (rfl) ?_)
      refine AOps.step rfl (OpJ.fieldAddrV 1 rfl Tryz.underlying42 rfl ti3 (by decide) rfl rfl ?_)
      refine AOps.step rfl (OpJ.load rfl Tryz.underlying3 rfl rfl rfl rfl (rfl) ?_)
      refine AOps.step rfl (OpJ.callM (us := [_, _]) rfl rfl rfl rfl (by first | rfl | exact bytesC_scal _ | exact bookC_scal _ | exact krsC_scal _ | simp [bytesC_scal]) rfl (book_AskE gs b R.len k.client k.seq a e hS) (fun v0 c0 hc0 hR => ?_))
      obtain ⟨rfl, rfl⟩ := hR
      refine kn2 fun f2 h2 ef eh => ?_
      simp only [pt, List.length_cons, List.length_nil, List.cons_append, List.nil_append, List.set_cons_zero, List.set_cons_succ, wr, Nat.reduceAdd, Nat.reduceMul, Nat.zero_add, Nat.add_zero, List.append_nil, up] at ef eh
      subst ef eh
      refine AOps.step rfl (OpJ.move rfl rfl ?_)
      refine AOps.step rfl (OpJ.extract rfl rfl rfl ?_)
      refine AOps.step rfl (OpJ.extract rfl rfl rfl ?_)
      refine AOps.step rfl (OpJ.assign rfl rfl ?_)
      refine AOps.step rfl (OpJ.assign rfl rfl ?_)
      refine AOps.done (thenA.go ?_)
      refine AWP.trim [(0, _), (3, _), (4, _), (5, _), (6, _), (7, _), (8, _)] ⟨rfl, rfl, rfl, rfl, rfl, rfl, rfl, trivial⟩ ?_
      refine AWP.seq ?_
      refine AWP.region rfl ?_
      refine AOps.step rfl (OpJ.move rfl rfl ?_)
      refine AOps.step rfl (OpJ.fieldAddrV 0 rfl Tryz.underlying42 rfl ti3 (by decide) rfl rfl ?_)
      refine AOps.step rfl (OpJ.load rfl Tryz.underlying3 rfl rfl rfl rfl (rfl) ?_)
      refine AOps.step rfl (OpJ.fieldAddrV 1 rfl Tryz.underlying42 rfl ti3 (by decide) rfl rfl ?_)
      refine AOps.step rfl (OpJ.load rfl Tryz.underlying3 rfl rfl rfl rfl (rfl) ?_)
      refine AOps.step rfl (OpJ.callP (us := [_, _, _]) rfl rfl rfl (ref_AskE gs l (by omega) k.client k.seq a e hA) ⟨isSl.krs rfl rfl, ⟨rfl, rfl⟩, ⟨rfl, rfl⟩, trivial⟩ (fun v0 new hR => ?_) (fun v0 new hR => nomatch hR.1))
      obtain ⟨ho, rfl⟩ := hR
      cases ho
      refine kn2 fun f2 h2 ef eh => ?_
      simp only [pt, List.length_cons, List.length_nil, List.cons_append, List.nil_append, List.set_cons_zero, List.set_cons_succ, wr, Nat.reduceAdd, Nat.reduceMul, Nat.zero_add, Nat.add_zero, List.append_nil] at ef eh
      subst ef eh
      refine AOps.step rfl (OpJ.move rfl rfl ?_)
      refine AOps.step rfl (OpJ.extract rfl rfl rfl ?_)
      refine AOps.step rfl (OpJ.extract rfl rfl rfl ?_)
      refine AOps.step rfl (OpJ.assign rfl rfl ?_)
      refine AOps.step rfl (OpJ.assign rfl rfl ?_)
      refine AOps.done (thenA.go ?_)
      refine AWP.trim [(0, _), (3, _), (4, _), (5, _), (6, _), (7, _), (8, _), (9, _), (10, _)] ⟨rfl, rfl, rfl, rfl, rfl, rfl, rfl, rfl, rfl, trivial⟩ ?_
      refine AWP.seq ?_
      refine AWP.seq ?_
      refine AWP.region rfl ?_
      refine AOps.step rfl (OpJ.move rfl rfl ?_)
      refine AOps.step rfl (OpJ.move rfl rfl ?_)
      refine AOps.step rfl (OpJ.neB rfl Tryz.underlying4 rfl rfl ?_)
      refine AOps.step rfl (OpJ.move rfl rfl ?_)
      refine AOps.doG rfl rfl rfl (by simp) (OpJ.move rfl rfl ?_)
      refine AOps.doG rfl rfl rfl (by simp) (OpJ.move rfl rfl ?_)
      refine AOps.doG rfl rfl rfl (by simp) (OpJ.binI rfl rfl rfl rfl ?_)
      refine AOps.step rfl (OpJ.pickF rfl rfl (by simp) rfl ?_)
      refine AOps.step rfl (OpJ.move rfl rfl ?_)
      refine AOps.doG rfl rfl rfl (by simp) (OpJ.move rfl rfl ?_)
      refine AOps.doG rfl rfl rfl (by simp) (OpJ.fieldAddrV 0 rfl Tryz.underlying42 rfl ti3 (by decide) rfl rfl ?_)
      refine AOps.doG rfl rfl rfl (by simp) (OpJ.load rfl Tryz.underlying3 rfl rfl rfl rfl (rfl) ?_)
      refine AOps.doG rfl rfl rfl (by simp) (OpJ.fieldAddrV 1 rfl Tryz.underlying42 rfl ti3 (by decide) rfl rfl ?_)
      refine AOps.doG rfl rfl rfl (by simp) (OpJ.load rfl Tryz.underlying3 rfl rfl rfl rfl (rfl) ?_)
      refine AOps.doG rfl rfl rfl (by simp) (OpJ.fieldAddrV 2 rfl Tryz.underlying42 rfl ti25 (by decide) rfl rfl ?_)
      refine AOps.doG rfl rfl rfl (by simp) (OpJ.load rfl Tryz.underlying25 rfl rfl rfl rfl (rfl) ?_)
      refine AOps.doG rfl rfl rfl (by simp) (OpJ.callM (us := [_, _, _]) rfl rfl rfl rfl (by first | rfl | exact bytesC_scal _ | exact bookC_scal _ | exact krsC_scal _ | simp [bytesC_scal]) rfl (book_KeepE gs b R.len k.client k.seq k.err a (by rw [hS])) (fun v0 c0 hc0 hR => ?_))
      obtain ⟨rfl, rfl⟩ := hR
      refine kn2 fun f2 h2 ef eh => ?_
      simp only [pt, List.length_cons, List.length_nil, List.cons_append, List.nil_append, List.set_cons_zero, List.set_cons_succ, wr, Nat.reduceAdd, Nat.reduceMul, Nat.zero_add, Nat.add_zero, List.append_nil, up] at ef eh
      subst ef eh
      refine AOps.doG rfl rfl rfl (by simp) (OpJ.move rfl rfl ?_)
      refine AOps.doG rfl rfl rfl (by simp) (OpJ.neB rfl Tryz.underlying4 rfl rfl ?_)
      refine AOps.step rfl (OpJ.pickF rfl rfl (by simp) rfl ?_)
      refine AOps.done (thenA.go ?_)
      refine AWP.trim [(0, _), (3, _), (4, _), (5, _), (6, _), (9, _), (65, _)] ⟨rfl, rfl, rfl, rfl, rfl, rfl, rfl, trivial⟩ ?_
      refine AWP.condF rfl (by simp) ?_
      refine AWP.skip (thenA.go ?_)
      refine AWP.trim [(0, _), (3, _), (4, _), (5, _), (6, _), (9, _)] ⟨rfl, rfl, rfl, rfl, rfl, rfl, trivial⟩ ?_
      refine AWP.seq ?_
      refine AWP.seq ?_
      refine AWP.region rfl ?_
      refine AOps.step rfl (OpJ.move rfl rfl ?_)
      refine AOps.done (thenA.go ?_)
      refine AWP.trim [(0, _), (3, _), (4, _), (5, _), (6, _), (66, _)] ⟨rfl, rfl, rfl, rfl, rfl, rfl, trivial⟩ ?_
      refine AWP.cond rfl (fun h66 => ?_) (fun h66 => ?_)
      · subst h66
        have ha : (askR l k.client k.seq).1 = true := by rw [hA]
        have hlen : (l ++ [k]).length < 2 ^ 40 := by simp; omega
        have hRel : Rel (keepS b k.client k.seq k.err) (l ++ [k]) := R.keep k ha
        have hq : (lastR (l ++ [k]) k.client).seq = lastS (keepS b k.client k.seq k.err) k.client := (hRel.last _).symm
        refine AWP.region rfl ?_
        refine AOps.step rfl (OpJ.move rfl rfl ?_)
        refine AOps.step rfl (OpJ.loadAgg (vs := [_, _, _]) rfl Tryz.underlying42 rfl ti42 rfl rfl rfl (rfl) (rfl) ?_)
        refine AOps.step rfl (OpJ.buildSliceL (vs := [_, _, _]) rfl Tryz.underlying38 ti42 rfl rfl rfl rfl rfl rfl rfl rfl rfl (kn2 fun f2 h2 ef eh => ?_))
        simp only [pt, List.length_cons, List.length_nil, List.cons_append, List.nil_append, List.set_cons_zero, List.set_cons_succ, wr, Nat.reduceAdd, Nat.reduceMul, Nat.zero_add, Nat.add_zero] at ef eh
        subst ef eh
        refine AOps.step rfl (OpJ.append (k := 1) (xs := krsC l) (ys := krC k) rfl Tryz.underlying38 Tryz.underlying38 rfl ti42 rfl rfl rfl rfl rfl (by simp [krsC_length, List.take_of_length_le]) (by simp [krsC_length]) (Src.sl rfl rfl rfl rfl rfl) (rfl) (by omega) (by decide) (fun c70 hc70 => kn2 fun f2 h2 ef eh => ?_))
        simp only [pt, List.length_cons, List.length_nil, List.cons_append, List.nil_append, List.set_cons_zero, List.set_cons_succ, wr, Nat.reduceAdd, Nat.reduceMul, Nat.zero_add, Nat.add_zero] at ef eh
        subst ef eh
        rw [show krsC l ++ krC k = krsC (l ++ [k]) by simp [krsC], show l.length + 1 = (l ++ [k]).length by simp] at *
        refine AOps.step rfl (OpJ.assign rfl rfl ?_)
        refine AOps.done (thenA.go ?_)
        refine AWP.trim [(0, _), (3, _), (4, _), (5, _), (6, _)] ⟨rfl, rfl, rfl, rfl, rfl, trivial⟩ ?_
        refine AWP.seq ?_
        refine AWP.trim [(0, _), (3, _), (4, _), (5, _), (6, _)] ⟨rfl, rfl, rfl, rfl, rfl, trivial⟩ ?_
        refine AWP.drawn [0, 1, 2, 3, 4, 5, 6, 7, 8] [0, 1, 2, 3, 4, 5, 6, 7, 8] [0, 1, 2, 3, 4, 5, 6, 7, 8] [0, 1, 2, 4, 5, 6, 3, 7, 8] rfl rfl rfl rfl rfl (by decide) ?_
        refine DJ.val _ rfl rfl (OkV.plain rfl (fun F hF K Kp kk => OpJ.move rfl (hF.ev rfl) kk)) ?_
        refine DJ.val _ rfl rfl (OkV.plain rfl (fun F hF K Kp kk => OpJ.fieldAddrV 0 rfl Tryz.underlying42 rfl ti3 (by decide) (hF.ev rfl) rfl kk)) ?_
        refine DJ.val _ rfl rfl (OkV.plain rfl (fun F hF K Kp kk => OpJ.load rfl Tryz.underlying3 rfl (hF.ev rfl) rfl rfl (rfl) kk)) ?_
        refine DJ.val _ rfl rfl (OkV.plain rfl (fun F hF K Kp kk => OpJ.move rfl (hF.ev rfl) kk)) ?_
        refine DJ.val _ rfl rfl (OkV.plain rfl (fun F hF K Kp kk => OpJ.fieldAddrV 0 rfl Tryz.underlying42 rfl ti3 (by decide) (hF.ev rfl) rfl kk)) ?_
        refine DJ.val _ rfl rfl (OkV.plain rfl (fun F hF K Kp kk => OpJ.load rfl Tryz.underlying3 rfl (hF.ev rfl) rfl rfl (rfl) kk)) ?_
        refine DJ.eff rfl rfl rfl trivial (fun F hF => OpJ.callM (us := [_]) rfl (hF.ev rfl) (hF.evs rfl) rfl (by first | rfl | exact bytesC_scal _ | exact bookC_scal _ | exact krsC_scal _ | simp [bytesC_scal]) rfl (book_LastE gs _ (by rw [keepS_length]; exact R.len) k.client _ rfl) (fun v0 c0 hc0 hR => by
          obtain ⟨rfl, rfl⟩ := hR
          refine ⟨_, rfl, ⟨⟨_, rfl, OkV.plain rfl (fun F hF K Kp kk => OpJ.load rfl Tryz.underlying3 rfl (hF.ev rfl) rfl rfl (rfl) kk)⟩, ⟨_, rfl, OkV.plain rfl (fun F hF K Kp kk => OpJ.fieldAddrV 0 rfl Tryz.underlying42 rfl ti3 (by decide) (hF.ev rfl) rfl kk)⟩, ⟨_, rfl, OkV.plain rfl (fun F hF K Kp kk => OpJ.move rfl (hF.ev rfl) kk)⟩, ⟨_, rfl, OkV.plain rfl (fun F hF K Kp kk => OpJ.fieldAddrV 0 rfl Tryz.underlying42 rfl ti3 (by decide) (hF.ev rfl) rfl kk)⟩, trivial⟩, DJ.norm fun f2 h2 ef eh => ?_⟩
          simp only [pt, List.length_cons, List.length_nil, List.cons_append, List.nil_append, List.set_cons_zero, List.set_cons_succ, wr, Nat.reduceAdd, Nat.reduceMul, Nat.zero_add, Nat.add_zero, List.append_nil, up] at ef eh
          subst ef eh
          refine DJ.eff rfl rfl rfl trivial (fun F hF => OpJ.callP (us := [_, _]) rfl (hF.ev rfl) (hF.evs rfl) (ref_LastE gs _ hlen k.client _ hq) ⟨isSl.krs rfl rfl, ⟨rfl, rfl⟩, trivial⟩ (fun v0 new hR => by
            obtain ⟨ho, rfl⟩ := hR
            cases ho
            refine ⟨_, rfl, ⟨⟨_, rfl, OkV.plain rfl (fun F hF K Kp kk => OpJ.fieldAddrV 0 rfl Tryz.underlying42 rfl ti3 (by decide) (hF.ev rfl) rfl kk)⟩, ⟨_, rfl, OkV.plain rfl (fun F hF K Kp kk => OpJ.fieldAddrV 0 rfl Tryz.underlying42 rfl ti3 (by decide) (hF.ev rfl) rfl kk)⟩, trivial⟩, DJ.norm fun f2 h2 ef eh => ?_⟩
            simp only [pt, List.length_cons, List.length_nil, List.cons_append, List.nil_append, List.set_cons_zero, List.set_cons_succ, wr, Nat.reduceAdd, Nat.reduceMul, Nat.zero_add, Nat.add_zero, List.append_nil, up] at ef eh
            subst ef eh
            refine DJ.val _ rfl rfl (OkV.plain rfl (fun F hF K Kp kk => OpJ.binI rfl (hF.ev rfl) (hF.ev rfl) rfl kk)) ?_
            refine DJ.done (fun F hF => ?_)
            refine (thenA.sup hF ?_)
            refine AWP.trim [(0, _), (3, _), (4, _), (5, _), (79, _)] ⟨rfl, rfl, rfl, rfl, rfl, trivial⟩ ?_
            refine AWP.condF rfl (by simp) ?_
            refine AWP.skip (inBlockA.go (thenA.go ?_))
            refine AWP.trim [(0, _), (3, _), (4, _), (5, _)] ⟨rfl, rfl, rfl, rfl, trivial⟩ ?_
            refine AWP.region rfl ?_
            refine AOps.step rfl (OpJ.move rfl rfl ?_)
            refine AOps.step rfl (OpJ.addI rfl rfl rfl (⟨by omega, by omega⟩) ?_)
            refine AOps.step rfl (OpJ.assign rfl rfl ?_)
            refine AOps.done (thenA.go ?_)
            refine ⟨l0.length - (i + 1), [(0, FZ 3 l0.length (krsC l0)), (3, .pointer (some ⟨0, 0, none⟩)), (4, .slice (some ⟨1, 0, none⟩) (l ++ [k]).length c70), (5, .int .i64 (i + 1 : Nat))], [⟨bookC (keepS b k.client k.seq k.err), .w, 1⟩, ⟨krsC (l ++ [k]), .w, 3⟩], by omega, Wk.ofC [some (0, 0), some (4, 0)] ⟨⟨_, rfl, BE.same rfl (bookC_scal _)⟩, ⟨_, rfl, BE.same rfl (krsC_scal _)⟩, trivial⟩ rfl rfl ⟨⟨_, rfl, .same rfl⟩, ⟨_, rfl, RV.ptrK rfl⟩, ⟨_, rfl, RV.slK rfl⟩, ⟨_, rfl, ?_⟩, trivial⟩, i + 1, _, l ++ [k], c70, rfl, hRel, by simp; omega, by omega, by simpa using hc70, rfl, rfl⟩
            exact RV.same rfl) (fun v0 new hR => nomatch hR.1))))
      · subst h66
        have ha : (askR l k.client k.seq).1 = false := by rw [hA]
        have hlen : l.length < 2 ^ 40 := by omega
        have hRel : Rel (keepS b k.client k.seq k.err) l := by rw [R.keepF k ha]; exact R
        have hq : (lastR l k.client).seq = lastS (keepS b k.client k.seq k.err) k.client := (hRel.last _).symm
        refine AWP.skip (thenA.go ?_)
        refine AWP.trim [(0, _), (3, _), (4, _), (5, _), (6, _)] ⟨rfl, rfl, rfl, rfl, rfl, trivial⟩ ?_
        refine AWP.seq ?_
        refine AWP.trim [(0, _), (3, _), (4, _), (5, _), (6, _)] ⟨rfl, rfl, rfl, rfl, rfl, trivial⟩ ?_
        refine AWP.drawn [0, 1, 2, 3, 4, 5, 6, 7, 8] [0, 1, 2, 3, 4, 5, 6, 7, 8] [0, 1, 2, 3, 4, 5, 6, 7, 8] [0, 1, 2, 4, 5, 6, 3, 7, 8] rfl rfl rfl rfl rfl (by decide) ?_
        refine DJ.val _ rfl rfl (OkV.plain rfl (fun F hF K Kp kk => OpJ.move rfl (hF.ev rfl) kk)) ?_
        refine DJ.val _ rfl rfl (OkV.plain rfl (fun F hF K Kp kk => OpJ.fieldAddrV 0 rfl Tryz.underlying42 rfl ti3 (by decide) (hF.ev rfl) rfl kk)) ?_
        refine DJ.val _ rfl rfl (OkV.plain rfl (fun F hF K Kp kk => OpJ.load rfl Tryz.underlying3 rfl (hF.ev rfl) rfl rfl (rfl) kk)) ?_
        refine DJ.val _ rfl rfl (OkV.plain rfl (fun F hF K Kp kk => OpJ.move rfl (hF.ev rfl) kk)) ?_
        refine DJ.val _ rfl rfl (OkV.plain rfl (fun F hF K Kp kk => OpJ.fieldAddrV 0 rfl Tryz.underlying42 rfl ti3 (by decide) (hF.ev rfl) rfl kk)) ?_
        refine DJ.val _ rfl rfl (OkV.plain rfl (fun F hF K Kp kk => OpJ.load rfl Tryz.underlying3 rfl (hF.ev rfl) rfl rfl (rfl) kk)) ?_
        refine DJ.eff rfl rfl rfl trivial (fun F hF => OpJ.callM (us := [_]) rfl (hF.ev rfl) (hF.evs rfl) rfl (by first | rfl | exact bytesC_scal _ | exact bookC_scal _ | exact krsC_scal _ | simp [bytesC_scal]) rfl (book_LastE gs _ (by rw [keepS_length]; exact R.len) k.client _ rfl) (fun v0 c0 hc0 hR => by
          obtain ⟨rfl, rfl⟩ := hR
          refine ⟨_, rfl, ⟨⟨_, rfl, OkV.plain rfl (fun F hF K Kp kk => OpJ.load rfl Tryz.underlying3 rfl (hF.ev rfl) rfl rfl (rfl) kk)⟩, ⟨_, rfl, OkV.plain rfl (fun F hF K Kp kk => OpJ.fieldAddrV 0 rfl Tryz.underlying42 rfl ti3 (by decide) (hF.ev rfl) rfl kk)⟩, ⟨_, rfl, OkV.plain rfl (fun F hF K Kp kk => OpJ.move rfl (hF.ev rfl) kk)⟩, ⟨_, rfl, OkV.plain rfl (fun F hF K Kp kk => OpJ.fieldAddrV 0 rfl Tryz.underlying42 rfl ti3 (by decide) (hF.ev rfl) rfl kk)⟩, trivial⟩, DJ.norm fun f2 h2 ef eh => ?_⟩
          simp only [pt, List.length_cons, List.length_nil, List.cons_append, List.nil_append, List.set_cons_zero, List.set_cons_succ, wr, Nat.reduceAdd, Nat.reduceMul, Nat.zero_add, Nat.add_zero, List.append_nil, up] at ef eh
          subst ef eh
          refine DJ.eff rfl rfl rfl trivial (fun F hF => OpJ.callP (us := [_, _]) rfl (hF.ev rfl) (hF.evs rfl) (ref_LastE gs _ hlen k.client _ hq) ⟨isSl.krs rfl rfl, ⟨rfl, rfl⟩, trivial⟩ (fun v0 new hR => by
            obtain ⟨ho, rfl⟩ := hR
            cases ho
            refine ⟨_, rfl, ⟨⟨_, rfl, OkV.plain rfl (fun F hF K Kp kk => OpJ.fieldAddrV 0 rfl Tryz.underlying42 rfl ti3 (by decide) (hF.ev rfl) rfl kk)⟩, ⟨_, rfl, OkV.plain rfl (fun F hF K Kp kk => OpJ.fieldAddrV 0 rfl Tryz.underlying42 rfl ti3 (by decide) (hF.ev rfl) rfl kk)⟩, trivial⟩, DJ.norm fun f2 h2 ef eh => ?_⟩
            simp only [pt, List.length_cons, List.length_nil, List.cons_append, List.nil_append, List.set_cons_zero, List.set_cons_succ, wr, Nat.reduceAdd, Nat.reduceMul, Nat.zero_add, Nat.add_zero, List.append_nil, up] at ef eh
            subst ef eh
            refine DJ.val _ rfl rfl (OkV.plain rfl (fun F hF K Kp kk => OpJ.binI rfl (hF.ev rfl) (hF.ev rfl) rfl kk)) ?_
            refine DJ.done (fun F hF => ?_)
            refine (thenA.sup hF ?_)
            refine AWP.trim [(0, _), (3, _), (4, _), (5, _), (79, _)] ⟨rfl, rfl, rfl, rfl, rfl, trivial⟩ ?_
            refine AWP.condF rfl (by simp) ?_
            refine AWP.skip (inBlockA.go (thenA.go ?_))
            refine AWP.trim [(0, _), (3, _), (4, _), (5, _)] ⟨rfl, rfl, rfl, rfl, trivial⟩ ?_
            refine AWP.region rfl ?_
            refine AOps.step rfl (OpJ.move rfl rfl ?_)
            refine AOps.step rfl (OpJ.addI rfl rfl rfl (⟨by omega, by omega⟩) ?_)
            refine AOps.step rfl (OpJ.assign rfl rfl ?_)
            refine AOps.done (thenA.go ?_)
            refine ⟨l0.length - (i + 1), [(0, FZ 3 l0.length (krsC l0)), (3, .pointer (some ⟨0, 0, none⟩)), (4, .slice (some ⟨1, 0, none⟩) l.length c), (5, .int .i64 (i + 1 : Nat))], [⟨bookC (keepS b k.client k.seq k.err), .w, 1⟩, ⟨krsC l, .w, 3⟩], by omega, Wk.ofC [some (0, 0), some (1, 0)] ⟨⟨_, rfl, BE.same rfl (bookC_scal _)⟩, ⟨_, rfl, BE.same rfl (krsC_scal _)⟩, trivial⟩ rfl rfl ⟨⟨_, rfl, .same rfl⟩, ⟨_, rfl, RV.ptrK rfl⟩, ⟨_, rfl, RV.slK rfl⟩, ⟨_, rfl, ?_⟩, trivial⟩, i + 1, _, l, c, rfl, hRel, by omega, by omega, h4, rfl, rfl⟩
            exact RV.same rfl) (fun v0 new hR => nomatch hR.1))))
    · simp at h21
      refine AWP.exit (thenA.exit (thenA.exit (inBlockA.here (thenA.go ?_))))
      refine AWP.trim [] trivial ?_
      refine AWP.seq ?_
      refine AWP.region rfl ?_
      refine AOps.step rfl (OpJ.assign rfl rfl ?_)
      refine AOps.done (thenA.go ?_)
      refine AWP.trim [(2, _)] ⟨rfl, trivial⟩ ?_
      refine AWP.ret ?_
      refine bodyA.ret1 (h2 := []) [] (.tmp rfl) trivial rfl rfl (okS.rv rfl) ⟨_, rfl, ⟨rfl, rfl⟩⟩
end Go.J.Tryz.LA
