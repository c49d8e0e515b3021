/- Walks through functions of the program. No condition. -/
import Derived.Test.YthknbhghkcdepaaGreatDoorWSess
import Derived.Test.YthknbhghkcdepaaGreatDoorXA
import Derived.Test.YthknbhghkcdepaaGreatDoorXB
import Derived.Test.YthknbhghkcdepaaGreatDoorJPLaw20
import Derived.Test.YthknbhghkcdepaaGreatDoorJFOps
import Derived.Test.YthknbhghkcdepaaGreatDoorProg
set_option maxHeartbeats 4000000
set_option linter.unusedVariables false
set_option linter.unusedSimpArgs false
set_option maxRecDepth 4000
namespace Go.J.Tryz.LC
open Go.Proofs
theorem ti3 : TI Tryz.prog 3 ((Value.int IntKind.i64 0)) 1 8 := by unfold TI; kernel_rfl
theorem ti25 : TI Tryz.prog 25 ((Value.int IntKind.i64 0)) 1 8 := by unfold TI; kernel_rfl
theorem ti42 : TI Tryz.prog 42 ((Value.agg #[Value.int IntKind.i64 0, Value.int IntKind.i64 0, Value.int IntKind.i64 0])) 3 24 := by unfold TI; kernel_rfl
theorem name6 : (Tryz.f6.name == "runtime.NumGoroutine") = false := by kernel_rfl

set_option maxHeartbeats 4000000 in
theorem law_Apart (gs : List (Nat × Obj)) (l0 : List KR) (d : Int) : Pure Tryz.prog gs 6 [.s (FZ 3 l0.length (krsC l0)), .s (.int .i64 d)] (rS (.bool true)) := by
  refine ⟨Sh.rS (fun _ => .same rfl), fun vs hv => ?_⟩
  match vs, hv with
  | [_, _], ⟨rfl, rfl, _⟩ =>
  show Spec _ _ _ _ [] (fun o h2 => ∃ new, h2 = ([] : List Blk) ++ new ∧ (rS (.bool true)) 0 o new)
  refine Spec.mk 0 Tryz.func6 rfl name6 Tryz.ntmps6 Tryz.results6 rfl rfl ?_
  refine AWP.seq ?_
  refine AWP.region rfl ?_
  refine AOps.step rfl (OpJ.assign rfl rfl ?_)
  refine AOps.done (thenA.go ?_)
  refine AWP.trim [(0, _), (1, _)] ⟨rfl, rfl, trivial⟩ ?_
  refine AWP.seq ?_
  refine AWP.seq ?_
  refine AWP.region rfl ?_
  refine AOps.step rfl (OpJ.callP (us := []) rfl rfl rfl (alive_pure gs) trivial (fun v0 new hR => ?_) (fun v0 new hR => nomatch hR.1))
  obtain ⟨ho, rfl⟩ := hR
  cases ho
  refine kn2 fun f2 h2 ef eh => ?_
  simp only [pt, List.length_cons, List.length_nil, List.cons_append, List.nil_append, List.set_cons_zero, List.set_cons_succ, wr, Nat.reduceAdd, Nat.reduceMul, Nat.zero_add, Nat.add_zero, List.append_nil] at ef eh
  subst ef eh
  refine AOps.step rfl (OpJ.not rfl rfl ?_)
  refine AOps.done (thenA.go ?_)
  refine AWP.trim [(0, _), (1, _), (15, _)] ⟨rfl, rfl, rfl, trivial⟩ ?_
  refine AWP.condF rfl (rfl) ?_
  refine AWP.skip (thenA.go ?_)
  refine AWP.trim [(0, _), (1, _)] ⟨rfl, rfl, trivial⟩ ?_
  refine AWP.seq ?_
  refine AWP.seq ?_
  refine AWP.region rfl ?_
  refine AOps.step rfl (OpJ.move rfl rfl ?_)
  refine AOps.step rfl (OpJ.lenFZ rfl Tryz.underlying38 rfl ?_)
  refine AOps.step rfl (OpJ.binI rfl rfl rfl rfl ?_)
  refine AOps.done (thenA.go ?_)
  refine AWP.trim [(0, _), (1, _), (18, _)] ⟨rfl, rfl, rfl, trivial⟩ ?_
  refine AWP.cond rfl (fun h18 => ?_) (fun h18 => ?_)
  · simp at h18
    refine AWP.seq ?_
    refine AWP.region rfl ?_
    refine AOps.step rfl (OpJ.assign rfl rfl ?_)
    refine AOps.done (thenA.go ?_)
    refine AWP.trim [(4, _)] ⟨rfl, trivial⟩ ?_
    refine AWP.ret (thenA.ret ?_)
    refine bodyA.ret1 (h2 := []) [] (.tmp rfl) trivial rfl rfl (okS.rv rfl) ⟨_, rfl, ⟨rfl, rfl⟩⟩
  · simp at h18
    refine AWP.skip (thenA.go ?_)
    refine AWP.trim [(0, _), (1, _)] ⟨rfl, rfl, trivial⟩ ?_
    refine AWP.seq ?_
    refine AWP.region rfl ?_
    refine AOps.step rfl (OpJ.callP (us := []) rfl rfl rfl (session_New gs) trivial (fun v0 new hR => ?_) (fun v0 new hR => nomatch hR.1))
    obtain ⟨ho, rfl⟩ := hR
    cases ho
    refine kn2 fun f2 h2 ef eh => ?_
    simp only [pt, List.length_cons, List.length_nil, List.cons_append, List.nil_append, List.set_cons_zero, List.set_cons_succ, wr, Nat.reduceAdd, Nat.reduceMul, Nat.zero_add, Nat.add_zero, List.append_nil] at ef eh
    subst ef eh
    refine AOps.step rfl (OpJ.assign rfl rfl ?_)
    refine AOps.done (thenA.go ?_)
    refine AWP.trim [(0, _), (1, _), (5, _)] ⟨rfl, rfl, rfl, trivial⟩ ?_
    refine AWP.seq ?_
    refine AWP.region rfl ?_
    refine AOps.step rfl (OpJ.callP (us := []) rfl rfl rfl (session_New gs) trivial (fun v0 new hR => ?_) (fun v0 new hR => nomatch hR.1))
    obtain ⟨ho, rfl⟩ := hR
    cases ho
    refine kn2 fun f2 h2 ef eh => ?_
    simp only [pt, List.length_cons, List.length_nil, List.cons_append, List.nil_append, List.set_cons_zero, List.set_cons_succ, wr, Nat.reduceAdd, Nat.reduceMul, Nat.zero_add, Nat.add_zero, List.append_nil] at ef eh
    subst ef eh
    refine AOps.step rfl (OpJ.assign rfl rfl ?_)
    refine AOps.done (thenA.go ?_)
    refine AWP.trim [(0, _), (1, _), (5, _), (6, _)] ⟨rfl, rfl, rfl, rfl, trivial⟩ ?_
    refine AWP.seq ?_
    refine AWP.seq ?_
    refine AWP.region rfl ?_
    refine AOps.step rfl (OpJ.assign rfl rfl ?_)
    refine AOps.done (thenA.go ?_)
    refine AWP.trim [(0, _), (1, _), (5, _), (6, _), (7, _)] ⟨rfl, rfl, rfl, rfl, rfl, trivial⟩ ?_
    refine AWP.block ?_
    refine AWP.trim [(0, _), (1, _), (5, _), (6, _), (7, _)] ⟨rfl, rfl, rfl, rfl, rfl, trivial⟩ ?_
    refine AWP.loop (fun m f h => ∃ (i : Nat) (a b : List Kp), m = l0.length - i ∧ Alike a b d ∧ i ≤ l0.length ∧ f = [(0, FZ 3 l0.length (krsC l0)), (1, .int .i64 d), (5, .pointer (some ⟨0, 0, none⟩)), (6, .pointer (some ⟨1, 0, none⟩)), (7, .int .i64 i)] ∧ h = [⟨bookC a, .w, 1⟩, ⟨bookC b, .w, 1⟩]) _ ⟨0, List.replicate 8 ⟨0, 0⟩, List.replicate 8 ⟨0, 0⟩, rfl, Alike.init d, by simp, rfl, rfl⟩ ?_
    rintro m _ _ ⟨i, a, b, hm, A, h3, rfl, rfl⟩
    refine AWP.seq ?_
    refine AWP.seq ?_
    refine AWP.region rfl ?_
    refine AOps.step rfl (OpJ.move rfl rfl ?_)
    refine AOps.step rfl (OpJ.move rfl rfl ?_)
    refine AOps.step rfl (OpJ.lenFZ rfl Tryz.underlying38 rfl ?_)
    refine AOps.step rfl (OpJ.binI rfl rfl rfl rfl ?_)
    refine AOps.done (thenA.go ?_)
    refine AWP.trim [(0, _), (1, _), (5, _), (6, _), (7, _), (24, _)] ⟨rfl, rfl, rfl, rfl, rfl, rfl, trivial⟩ ?_
    refine AWP.cond rfl (fun h24 => ?_) (fun h24 => ?_)
    · simp at h24
      obtain ⟨k, hk, hdr⟩ := split_kr (b := l0) (i := i) (by omega)
      obtain ⟨x, hx⟩ : ∃ x, (askS a k.client k.seq).1 = x := ⟨_, rfl⟩
      have hy : k.client = d → (askS b k.client k.seq).1 = x := fun h => by subst h; rw [← A.ask]; exact hx
      have H : k.client = d ∨ k.client ≠ d := Classical.em _
      rcases H with q1 | q1
      · skip
        refine AWP.skip (thenA.go ?_)
        refine AWP.trim [(0, _), (1, _), (5, _), (6, _), (7, _)] ⟨rfl, rfl, rfl, rfl, rfl, trivial⟩ ?_
        refine AWP.seq ?_
        refine AWP.block ?_
        refine AWP.seq ?_
        refine AWP.region rfl ?_
        refine AOps.step rfl (OpJ.move rfl rfl ?_)
        refine AOps.step rfl (OpJ.move rfl rfl ?_)
        refine AOps.step rfl (OpJ.indexFZ (.int .i64 k.client :: .int .i64 k.seq :: .int .i64 k.err :: krsC (l0.drop (i + 1))) rfl Tryz.underlying38 ti42 rfl rfl (by omega) (by omega) (krsC_cut hk hdr) ?_)
        refine AOps.step rfl (OpJ.loadAggPZ (us := [.int .i64 k.client, .int .i64 k.seq, .int .i64 k.err]) rfl Tryz.underlying42 rfl ti42 rfl (rfl) (rfl) (rfl) ?_)
        refine AOps.step rfl (OpJ.alloc 1 rfl ti42 rfl rfl (kn2 fun f2 h2 ef eh => ?_))
        simp only [pt, List.length_cons, List.length_nil, List.cons_append, List.nil_append, List.set_cons_zero, List.set_cons_succ, wr, Nat.reduceAdd, Nat.reduceMul, Nat.zero_add, Nat.add_zero] at ef eh
        subst ef eh
        refine AOps.step rfl (OpJ.store (vs := [_, _, _]) rfl ti42 rfl rfl rfl rfl (rfl) rfl rfl (Nat.le_of_ble_eq_true rfl) (kn2 fun f2 h2 ef eh => ?_))
        simp only [pt, List.length_cons, List.length_nil, List.cons_append, List.nil_append, List.set_cons_zero, List.set_cons_succ, wr, Nat.reduceAdd, Nat.reduceMul, Nat.zero_add, Nat.add_zero] at ef eh
        subst ef eh
        refine AOps.done (thenA.go ?_)
        refine AWP.trim [(0, _), (1, _), (5, _), (6, _), (7, _), (8, _)] ⟨rfl, rfl, rfl, rfl, rfl, rfl, trivial⟩ ?_
        refine AWP.seq ?_
        refine AWP.region rfl ?_
        refine AOps.step rfl (OpJ.move rfl rfl ?_)
        refine AOps.step rfl (OpJ.fieldAddrV 0 rfl Tryz.underlying42 rfl ti3 (by decide) rfl rfl ?_)
        refine AOps.step rfl (OpJ.load rfl Tryz.underlying3 rfl rfl rfl rfl (rfl) ?_)
        refine AOps.step rfl (OpJ.fieldAddrV 1 rfl Tryz.underlying42 rfl ti3 (by decide) rfl rfl ?_)
        refine AOps.step rfl (OpJ.load rfl Tryz.underlying3 rfl rfl rfl rfl (rfl) ?_)
        refine AOps.step rfl (OpJ.fieldAddrV 2 rfl Tryz.underlying42 rfl ti25 (by decide) rfl rfl ?_)
        refine AOps.step rfl (OpJ.load rfl Tryz.underlying25 rfl rfl rfl rfl (rfl) ?_)
        refine AOps.step rfl (OpJ.callM (us := [_, _, _]) rfl rfl rfl rfl (by first | rfl | exact bytesC_scal _ | exact bookC_scal _ | exact krsC_scal _ | simp [bytesC_scal]) rfl (book_KeepE gs a A.1 k.client k.seq k.err x hx) (fun v0 c0 hc0 hR => ?_))
        obtain ⟨rfl, rfl⟩ := hR
        refine kn2 fun f2 h2 ef eh => ?_
        simp only [pt, List.length_cons, List.length_nil, List.cons_append, List.nil_append, List.set_cons_zero, List.set_cons_succ, wr, Nat.reduceAdd, Nat.reduceMul, Nat.zero_add, Nat.add_zero, List.append_nil, up] at ef eh
        subst ef eh
        refine AOps.step rfl (OpJ.assign rfl rfl ?_)
        refine AOps.done (thenA.go ?_)
        refine AWP.trim [(0, _), (1, _), (5, _), (6, _), (7, _), (8, _), (9, _)] ⟨rfl, rfl, rfl, rfl, rfl, rfl, rfl, trivial⟩ ?_
        refine AWP.seq ?_
        refine AWP.region rfl ?_
        refine AOps.step rfl (OpJ.fieldAddrV 0 rfl Tryz.underlying42 rfl ti3 (by decide) rfl rfl ?_)
        refine AOps.step rfl (OpJ.load rfl Tryz.underlying3 rfl rfl rfl rfl (rfl) ?_)
        refine AOps.step rfl (OpJ.move rfl rfl ?_)
        refine AOps.step rfl (OpJ.binI rfl rfl rfl rfl ?_)
        refine AOps.step rfl (OpJ.move rfl rfl ?_)
        refine AOps.doG rfl rfl rfl (by simp [q1]) (OpJ.move rfl rfl ?_)
        refine AOps.doG rfl rfl rfl (by simp [q1]) (OpJ.fieldAddrV 0 rfl Tryz.underlying42 rfl ti3 (by decide) rfl rfl ?_)
        refine AOps.doG rfl rfl rfl (by simp [q1]) (OpJ.load rfl Tryz.underlying3 rfl rfl rfl rfl (rfl) ?_)
        refine AOps.doG rfl rfl rfl (by simp [q1]) (OpJ.fieldAddrV 1 rfl Tryz.underlying42 rfl ti3 (by decide) rfl rfl ?_)
        refine AOps.doG rfl rfl rfl (by simp [q1]) (OpJ.load rfl Tryz.underlying3 rfl rfl rfl rfl (rfl) ?_)
        refine AOps.doG rfl rfl rfl (by simp [q1]) (OpJ.fieldAddrV 2 rfl Tryz.underlying42 rfl ti25 (by decide) rfl rfl ?_)
        refine AOps.doG rfl rfl rfl (by simp [q1]) (OpJ.load rfl Tryz.underlying25 rfl rfl rfl rfl (rfl) ?_)
        refine AOps.doG rfl rfl rfl (by simp [q1]) (OpJ.callM (us := [_, _, _]) rfl rfl rfl rfl (by first | rfl | exact bytesC_scal _ | exact bookC_scal _ | exact krsC_scal _ | simp [bytesC_scal]) rfl (book_KeepE gs b A.2.1 k.client k.seq k.err x (hy q1)) (fun v0 c0 hc0 hR => ?_))
        obtain ⟨rfl, rfl⟩ := hR
        refine kn2 fun f2 h2 ef eh => ?_
        simp only [pt, List.length_cons, List.length_nil, List.cons_append, List.nil_append, List.set_cons_zero, List.set_cons_succ, wr, Nat.reduceAdd, Nat.reduceMul, Nat.zero_add, Nat.add_zero, List.append_nil, up] at ef eh
        subst ef eh
        refine AOps.doG rfl rfl rfl (by simp [q1]) (OpJ.move rfl rfl ?_)
        refine AOps.doG rfl rfl rfl (by simp [q1]) (OpJ.neB rfl Tryz.underlying4 rfl rfl ?_)
        refine AOps.step rfl (OpJ.pickT rfl rfl (by simp [q1]) rfl ?_)
        refine AOps.done (thenA.go ?_)
        refine AWP.trim [(0, _), (1, _), (5, _), (6, _), (7, _), (54, _)] ⟨rfl, rfl, rfl, rfl, rfl, rfl, trivial⟩ ?_
        refine AWP.condF rfl (by simp) ?_
        refine AWP.skip (inBlockA.go (thenA.go ?_))
        refine AWP.trim [(0, _), (1, _), (5, _), (6, _), (7, _)] ⟨rfl, rfl, rfl, rfl, rfl, trivial⟩ ?_
        refine AWP.region rfl ?_
        refine AOps.step rfl (OpJ.move rfl rfl ?_)
        refine AOps.step rfl (OpJ.addI rfl rfl rfl (⟨by omega, by omega⟩) ?_)
        refine AOps.step rfl (OpJ.assign rfl rfl ?_)
        refine AOps.done (thenA.go ?_)
        refine ⟨l0.length - (i + 1), [(0, FZ 3 l0.length (krsC l0)), (1, .int .i64 d), (5, .pointer (some ⟨0, 0, none⟩)), (6, .pointer (some ⟨1, 0, none⟩)), (7, .int .i64 (i + 1 : Nat))], [⟨bookC (keepS a k.client k.seq k.err), .w, 1⟩, ⟨bookC (keepS b k.client k.seq k.err), .w, 1⟩], by omega, Wk.ofC [some (0, 0), some (1, 0)] ⟨⟨_, rfl, BE.same rfl (bookC_scal _)⟩, ⟨_, rfl, BE.same rfl (bookC_scal _)⟩, trivial⟩ rfl rfl ⟨⟨_, rfl, .same rfl⟩, ⟨_, rfl, .same rfl⟩, ⟨_, rfl, RV.ptrK rfl⟩, ⟨_, rfl, RV.ptrK rfl⟩, ⟨_, rfl, ?_⟩, trivial⟩, i + 1, _, _, rfl, by subst q1; exact A.same, by omega, rfl, rfl⟩
        exact RV.same rfl
      · skip
        refine AWP.skip (thenA.go ?_)
        refine AWP.trim [(0, _), (1, _), (5, _), (6, _), (7, _)] ⟨rfl, rfl, rfl, rfl, rfl, trivial⟩ ?_
        refine AWP.seq ?_
        refine AWP.block ?_
        refine AWP.seq ?_
        refine AWP.region rfl ?_
        refine AOps.step rfl (OpJ.move rfl rfl ?_)
        refine AOps.step rfl (OpJ.move rfl rfl ?_)
        refine AOps.step rfl (OpJ.indexFZ (.int .i64 k.client :: .int .i64 k.seq :: .int .i64 k.err :: krsC (l0.drop (i + 1))) rfl Tryz.underlying38 ti42 rfl rfl (by omega) (by omega) (krsC_cut hk hdr) ?_)
        refine AOps.step rfl (OpJ.loadAggPZ (us := [.int .i64 k.client, .int .i64 k.seq, .int .i64 k.err]) rfl Tryz.underlying42 rfl ti42 rfl (rfl) (rfl) (rfl) ?_)
        refine AOps.step rfl (OpJ.alloc 1 rfl ti42 rfl rfl (kn2 fun f2 h2 ef eh => ?_))
        simp only [pt, List.length_cons, List.length_nil, List.cons_append, List.nil_append, List.set_cons_zero, List.set_cons_succ, wr, Nat.reduceAdd, Nat.reduceMul, Nat.zero_add, Nat.add_zero] at ef eh
        subst ef eh
        refine AOps.step rfl (OpJ.store (vs := [_, _, _]) rfl ti42 rfl rfl rfl rfl (rfl) rfl rfl (Nat.le_of_ble_eq_true rfl) (kn2 fun f2 h2 ef eh => ?_))
        simp only [pt, List.length_cons, List.length_nil, List.cons_append, List.nil_append, List.set_cons_zero, List.set_cons_succ, wr, Nat.reduceAdd, Nat.reduceMul, Nat.zero_add, Nat.add_zero] at ef eh
        subst ef eh
        refine AOps.done (thenA.go ?_)
        refine AWP.trim [(0, _), (1, _), (5, _), (6, _), (7, _), (8, _)] ⟨rfl, rfl, rfl, rfl, rfl, rfl, trivial⟩ ?_
        refine AWP.seq ?_
        refine AWP.region rfl ?_
        refine AOps.step rfl (OpJ.move rfl rfl ?_)
        refine AOps.step rfl (OpJ.fieldAddrV 0 rfl Tryz.underlying42 rfl ti3 (by decide) rfl rfl ?_)
        refine AOps.step rfl (OpJ.load rfl Tryz.underlying3 rfl rfl rfl rfl (rfl) ?_)
        refine AOps.step rfl (OpJ.fieldAddrV 1 rfl Tryz.underlying42 rfl ti3 (by decide) rfl rfl ?_)
        refine AOps.step rfl (OpJ.load rfl Tryz.underlying3 rfl rfl rfl rfl (rfl) ?_)
        refine AOps.step rfl (OpJ.fieldAddrV 2 rfl Tryz.underlying42 rfl ti25 (by decide) rfl rfl ?_)
        refine AOps.step rfl (OpJ.load rfl Tryz.underlying25 rfl rfl rfl rfl (rfl) ?_)
        refine AOps.step rfl (OpJ.callM (us := [_, _, _]) rfl rfl rfl rfl (by first | rfl | exact bytesC_scal _ | exact bookC_scal _ | exact krsC_scal _ | simp [bytesC_scal]) rfl (book_KeepE gs a A.1 k.client k.seq k.err x hx) (fun v0 c0 hc0 hR => ?_))
        obtain ⟨rfl, rfl⟩ := hR
        refine kn2 fun f2 h2 ef eh => ?_
        simp only [pt, List.length_cons, List.length_nil, List.cons_append, List.nil_append, List.set_cons_zero, List.set_cons_succ, wr, Nat.reduceAdd, Nat.reduceMul, Nat.zero_add, Nat.add_zero, List.append_nil, up] at ef eh
        subst ef eh
        refine AOps.step rfl (OpJ.assign rfl rfl ?_)
        refine AOps.done (thenA.go ?_)
        refine AWP.trim [(0, _), (1, _), (5, _), (6, _), (7, _), (8, _), (9, _)] ⟨rfl, rfl, rfl, rfl, rfl, rfl, rfl, trivial⟩ ?_
        refine AWP.seq ?_
        refine AWP.region rfl ?_
        refine AOps.step rfl (OpJ.fieldAddrV 0 rfl Tryz.underlying42 rfl ti3 (by decide) rfl rfl ?_)
        refine AOps.step rfl (OpJ.load rfl Tryz.underlying3 rfl rfl rfl rfl (rfl) ?_)
        refine AOps.step rfl (OpJ.move rfl rfl ?_)
        refine AOps.step rfl (OpJ.binI rfl rfl rfl rfl ?_)
        refine AOps.step rfl (OpJ.move rfl rfl ?_)
        refine AOps.skipG rfl rfl rfl (by simp [q1]) ?_
        refine AOps.skipG rfl rfl rfl (by simp [q1]) ?_
        refine AOps.skipG rfl rfl rfl (by simp [q1]) ?_
        refine AOps.skipG rfl rfl rfl (by simp [q1]) ?_
        refine AOps.skipG rfl rfl rfl (by simp [q1]) ?_
        refine AOps.skipG rfl rfl rfl (by simp [q1]) ?_
        refine AOps.skipG rfl rfl rfl (by simp [q1]) ?_
        refine AOps.skipG rfl rfl rfl (by simp [q1]) ?_
        refine AOps.skipG rfl rfl rfl (by simp [q1]) ?_
        refine AOps.skipG rfl rfl rfl (by simp [q1]) ?_
        refine AOps.step rfl (OpJ.pickF rfl rfl (by simp [q1]) rfl ?_)
        refine AOps.done (thenA.go ?_)
        refine AWP.trim [(0, _), (1, _), (5, _), (6, _), (7, _), (54, _)] ⟨rfl, rfl, rfl, rfl, rfl, rfl, trivial⟩ ?_
        refine AWP.condF rfl rfl ?_
        refine AWP.skip (inBlockA.go (thenA.go ?_))
        refine AWP.trim [(0, _), (1, _), (5, _), (6, _), (7, _)] ⟨rfl, rfl, rfl, rfl, rfl, trivial⟩ ?_
        refine AWP.region rfl ?_
        refine AOps.step rfl (OpJ.move rfl rfl ?_)
        refine AOps.step rfl (OpJ.addI rfl rfl rfl (⟨by omega, by omega⟩) ?_)
        refine AOps.step rfl (OpJ.assign rfl rfl ?_)
        refine AOps.done (thenA.go ?_)
        refine ⟨l0.length - (i + 1), [(0, FZ 3 l0.length (krsC l0)), (1, .int .i64 d), (5, .pointer (some ⟨0, 0, none⟩)), (6, .pointer (some ⟨1, 0, none⟩)), (7, .int .i64 (i + 1 : Nat))], [⟨bookC (keepS a k.client k.seq k.err), .w, 1⟩, ⟨bookC b, .w, 1⟩], by omega, Wk.ofC [some (0, 0), some (1, 0)] ⟨⟨_, rfl, BE.same rfl (bookC_scal _)⟩, ⟨_, rfl, BE.same rfl (bookC_scal _)⟩, trivial⟩ rfl rfl ⟨⟨_, rfl, .same rfl⟩, ⟨_, rfl, .same rfl⟩, ⟨_, rfl, RV.ptrK rfl⟩, ⟨_, rfl, RV.ptrK rfl⟩, ⟨_, rfl, ?_⟩, trivial⟩, i + 1, _, _, rfl, A.other q1, by omega, rfl, rfl⟩
        exact RV.same rfl
    · simp at h24
      obtain ⟨n, hn⟩ : ∃ n, lastS a d = n := ⟨_, rfl⟩
      have hn2 : lastS b d = n := A.last.symm.trans hn
      obtain ⟨e, he⟩ : ∃ e, askS a d n = (false, e) := ⟨(askS a d n).2, by
        have := ask_last a d
        rw [hn] at this
        rw [← this]⟩
      have he2 : askS b d n = (false, e) := (A.ask n).symm.trans he
      refine AWP.exit (thenA.exit (thenA.exit (inBlockA.here (thenA.go ?_))))
      refine AWP.trim [(1, _), (5, _), (6, _)] ⟨rfl, rfl, rfl, trivial⟩ ?_
      refine AWP.seq ?_
      refine AWP.region rfl ?_
      refine AOps.step rfl (OpJ.move rfl rfl ?_)
      refine AOps.step rfl (OpJ.move rfl rfl ?_)
      refine AOps.step rfl (OpJ.move rfl rfl ?_)
      refine AOps.step rfl (OpJ.move rfl rfl ?_)
      refine AOps.step rfl (OpJ.callM (us := [_]) rfl rfl rfl rfl (by first | rfl | exact bytesC_scal _ | exact bookC_scal _ | exact krsC_scal _ | simp [bytesC_scal]) rfl (book_LastE gs a A.1 d n hn) (fun v0 c0 hc0 hR => ?_))
      obtain ⟨rfl, rfl⟩ := hR
      refine kn2 fun f2 h2 ef eh => ?_
      simp only [pt, List.length_cons, List.length_nil, List.cons_append, List.nil_append, List.set_cons_zero, List.set_cons_succ, wr, Nat.reduceAdd, Nat.reduceMul, Nat.zero_add, Nat.add_zero, List.append_nil, up] at ef eh
      subst ef eh
      refine AOps.step rfl (OpJ.callM (us := [_, _]) rfl rfl rfl rfl (by first | rfl | exact bytesC_scal _ | exact bookC_scal _ | exact krsC_scal _ | simp [bytesC_scal]) rfl (book_AskE gs a A.1 d n false e he) (fun v0 c0 hc0 hR => ?_))
      obtain ⟨rfl, rfl⟩ := hR
      refine kn2 fun f2 h2 ef eh => ?_
      simp only [pt, List.length_cons, List.length_nil, List.cons_append, List.nil_append, List.set_cons_zero, List.set_cons_succ, wr, Nat.reduceAdd, Nat.reduceMul, Nat.zero_add, Nat.add_zero, List.append_nil, up] at ef eh
      subst ef eh
      refine AOps.step rfl (OpJ.move rfl rfl ?_)
      refine AOps.step rfl (OpJ.extract rfl rfl rfl ?_)
      refine AOps.step rfl (OpJ.extract rfl rfl rfl ?_)
      refine AOps.step rfl (OpJ.assign rfl rfl ?_)
      refine AOps.step rfl (OpJ.assign rfl rfl ?_)
      refine AOps.done (thenA.go ?_)
      refine AWP.trim [(1, _), (5, _), (6, _), (10, _), (11, _)] ⟨rfl, rfl, rfl, rfl, rfl, trivial⟩ ?_
      refine AWP.seq ?_
      refine AWP.region rfl ?_
      refine AOps.step rfl (OpJ.move rfl rfl ?_)
      refine AOps.step rfl (OpJ.move rfl rfl ?_)
      refine AOps.step rfl (OpJ.move rfl rfl ?_)
      refine AOps.step rfl (OpJ.move rfl rfl ?_)
      refine AOps.step rfl (OpJ.callM (us := [_]) rfl rfl rfl rfl (by first | rfl | exact bytesC_scal _ | exact bookC_scal _ | exact krsC_scal _ | simp [bytesC_scal]) rfl (book_LastE gs b A.2.1 d n hn2) (fun v0 c0 hc0 hR => ?_))
      obtain ⟨rfl, rfl⟩ := hR
      refine kn2 fun f2 h2 ef eh => ?_
      simp only [pt, List.length_cons, List.length_nil, List.cons_append, List.nil_append, List.set_cons_zero, List.set_cons_succ, wr, Nat.reduceAdd, Nat.reduceMul, Nat.zero_add, Nat.add_zero, List.append_nil, up] at ef eh
      subst ef eh
      refine AOps.step rfl (OpJ.callM (us := [_, _]) rfl rfl rfl rfl (by first | rfl | exact bytesC_scal _ | exact bookC_scal _ | exact krsC_scal _ | simp [bytesC_scal]) rfl (book_AskE gs b A.2.1 d n false e he2) (fun v0 c0 hc0 hR => ?_))
      obtain ⟨rfl, rfl⟩ := hR
      refine kn2 fun f2 h2 ef eh => ?_
      simp only [pt, List.length_cons, List.length_nil, List.cons_append, List.nil_append, List.set_cons_zero, List.set_cons_succ, wr, Nat.reduceAdd, Nat.reduceMul, Nat.zero_add, Nat.add_zero, List.append_nil, up] at ef eh
      subst ef eh
      refine AOps.step rfl (OpJ.move rfl rfl ?_)
      refine AOps.step rfl (OpJ.extract rfl rfl rfl ?_)
      refine AOps.step rfl (OpJ.extract rfl rfl rfl ?_)
      refine AOps.step rfl (OpJ.assign rfl rfl ?_)
      refine AOps.step rfl (OpJ.assign rfl rfl ?_)
      refine AOps.done (thenA.go ?_)
      refine AWP.trim [(1, _), (5, _), (6, _), (10, _), (11, _), (12, _), (13, _)] ⟨rfl, rfl, rfl, rfl, rfl, rfl, rfl, trivial⟩ ?_
      refine AWP.seq ?_
      refine AWP.region rfl ?_
      refine AOps.step rfl (OpJ.move rfl rfl ?_)
      refine AOps.step rfl (OpJ.move rfl rfl ?_)
      refine AOps.step rfl (OpJ.callM (us := [_]) rfl rfl rfl rfl (by first | rfl | exact bytesC_scal _ | exact bookC_scal _ | exact krsC_scal _ | simp [bytesC_scal]) rfl (book_LastE gs a A.1 d n hn) (fun v0 c0 hc0 hR => ?_))
      obtain ⟨rfl, rfl⟩ := hR
      refine kn2 fun f2 h2 ef eh => ?_
      simp only [pt, List.length_cons, List.length_nil, List.cons_append, List.nil_append, List.set_cons_zero, List.set_cons_succ, wr, Nat.reduceAdd, Nat.reduceMul, Nat.zero_add, Nat.add_zero, List.append_nil, up] at ef eh
      subst ef eh
      refine AOps.step rfl (OpJ.move rfl rfl ?_)
      refine AOps.step rfl (OpJ.move rfl rfl ?_)
      refine AOps.step rfl (OpJ.callM (us := [_]) rfl rfl rfl rfl (by first | rfl | exact bytesC_scal _ | exact bookC_scal _ | exact krsC_scal _ | simp [bytesC_scal]) rfl (book_LastE gs b A.2.1 d n hn2) (fun v0 c0 hc0 hR => ?_))
      obtain ⟨rfl, rfl⟩ := hR
      refine kn2 fun f2 h2 ef eh => ?_
      simp only [pt, List.length_cons, List.length_nil, List.cons_append, List.nil_append, List.set_cons_zero, List.set_cons_succ, wr, Nat.reduceAdd, Nat.reduceMul, Nat.zero_add, Nat.add_zero, List.append_nil, up] at ef eh
      subst ef eh
      refine AOps.step rfl (OpJ.binI rfl rfl rfl rfl ?_)
      refine AOps.step rfl (OpJ.move rfl rfl ?_)
      refine AOps.doG rfl rfl rfl (by simp) (OpJ.move rfl rfl ?_)
      refine AOps.doG rfl rfl rfl (by simp) (OpJ.move rfl rfl ?_)
      refine AOps.doG rfl rfl rfl (by simp) (OpJ.eqB rfl Tryz.underlying4 rfl rfl ?_)
      refine AOps.step rfl (OpJ.pickT rfl rfl (by simp) rfl ?_)
      refine AOps.step rfl (OpJ.move rfl rfl ?_)
      refine AOps.doG rfl rfl rfl (rfl) (OpJ.move rfl rfl ?_)
      refine AOps.doG rfl rfl rfl (rfl) (OpJ.move rfl rfl ?_)
      refine AOps.doG rfl rfl rfl (rfl) (OpJ.binI rfl rfl rfl rfl ?_)
      refine AOps.step rfl (OpJ.pickT rfl rfl (rfl) rfl ?_)
      refine AOps.step rfl (OpJ.move rfl rfl ?_)
      refine AOps.doG rfl rfl rfl (by simp) (OpJ.move rfl rfl ?_)
      refine AOps.doG rfl rfl rfl (by simp) (OpJ.not rfl rfl ?_)
      refine AOps.step rfl (OpJ.pickT rfl rfl (by simp) rfl ?_)
      refine AOps.step rfl (OpJ.assign rfl rfl ?_)
      refine AOps.done (thenA.go ?_)
      refine AWP.trim [(4, _)] ⟨rfl, trivial⟩ ?_
      refine AWP.ret ?_
      refine bodyA.ret1 (h2 := []) [] (.tmp rfl) trivial rfl rfl (okS.rv rfl) ⟨_, rfl, ⟨rfl, rfl⟩⟩
end Go.J.Tryz.LC
