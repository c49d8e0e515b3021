/- Walks through functions of the program. No condition. -/
import Derived.Test.YthknbhghkcdepaaGreatDoorJPNum
import Derived.Test.YthknbhghkcdepaaGreatDoorJPBook
import Derived.Test.YthknbhghkcdepaaGreatDoorProg
set_option maxHeartbeats 4000000
set_option linter.unusedVariables false
set_option linter.unusedSimpArgs false
set_option maxRecDepth 4000
namespace Go.J.Tryz
open Go.Proofs
theorem ti3 : TI Tryz.prog 3 ((Value.int IntKind.i64 0)) 1 8 := by unfold TI; kernel_rfl
theorem ti25 : TI Tryz.prog 25 ((Value.int IntKind.i64 0)) 1 8 := by unfold TI; kernel_rfl
theorem ti42 : TI Tryz.prog 42 ((Value.agg #[Value.int IntKind.i64 0, Value.int IntKind.i64 0, Value.int IntKind.i64 0])) 3 24 := by unfold TI; kernel_rfl
theorem ti97 : TI Tryz.prog 97 ((Value.agg #[Value.int IntKind.i64 0, Value.int IntKind.i64 0])) 2 16 := by unfold TI; kernel_rfl
theorem ti98 : TI Tryz.prog 98 ((Value.agg #[Value.int IntKind.i64 0, Value.int IntKind.i64 0, Value.int IntKind.i64 0, Value.int IntKind.i64 0, Value.int IntKind.i64 0, Value.int IntKind.i64 0, Value.int IntKind.i64 0, Value.int IntKind.i64 0, Value.int IntKind.i64 0, Value.int IntKind.i64 0, Value.int IntKind.i64 0, Value.int IntKind.i64 0, Value.int IntKind.i64 0, Value.int IntKind.i64 0, Value.int IntKind.i64 0, Value.int IntKind.i64 0])) 16 128 := by unfold TI; kernel_rfl
theorem ti100 : TI Tryz.prog 100 ((Value.agg #[Value.int IntKind.i64 0, Value.int IntKind.i64 0, Value.int IntKind.i64 0, Value.int IntKind.i64 0, Value.int IntKind.i64 0, Value.int IntKind.i64 0, Value.int IntKind.i64 0, Value.int IntKind.i64 0, Value.int IntKind.i64 0, Value.int IntKind.i64 0, Value.int IntKind.i64 0, Value.int IntKind.i64 0, Value.int IntKind.i64 0, Value.int IntKind.i64 0, Value.int IntKind.i64 0, Value.int IntKind.i64 0])) 16 128 := by unfold TI; kernel_rfl
theorem pl42 : ∀ w, ((#[{ name := "Client", type := 3, offset := 0, embedded := false, tag := "", pkgPath := "", byteOffset := 0 }, { name := "Seq", type := 3, offset := 1, embedded := false, tag := "", pkgPath := "", byteOffset := 8 }, { name := "Err", type := 25, offset := 2, embedded := false, tag := "", pkgPath := "", byteOffset := 16 }] : Array Field).mapM (m := Sem) fun f => do pure (f.offset, ← Go.sizeOf f.type)).run Tryz.prog w = .ok ([(0, 1), (1, 1), (2, 1)] : List (Nat × Nat)).toArray w := by
  intro w
  simp [Tryz.sizeOf25, Tryz.sizeOf3]
theorem pl97 : ∀ w, ((#[{ name := "seq", type := 3, offset := 0, embedded := false, tag := "", pkgPath := "joist/session", byteOffset := 0 }, { name := "err", type := 25, offset := 1, embedded := false, tag := "", pkgPath := "joist/session", byteOffset := 8 }] : Array Field).mapM (m := Sem) fun f => do pure (f.offset, ← Go.sizeOf f.type)).run Tryz.prog w = .ok ([(0, 1), (1, 1)] : List (Nat × Nat)).toArray w := by
  intro w
  simp [Tryz.sizeOf25, Tryz.sizeOf3]
theorem pl100 : ∀ w, ((#[{ name := "clients", type := 98, offset := 0, embedded := false, tag := "", pkgPath := "joist/session", byteOffset := 0 }] : Array Field).mapM (m := Sem) fun f => do pure (f.offset, ← Go.sizeOf f.type)).run Tryz.prog w = .ok ([(0, 16)] : List (Nat × Nat)).toArray w := by
  intro w
  simp [Tryz.sizeOf98]
theorem name14 : (Tryz.f14.name == "runtime.NumGoroutine") = false := by kernel_rfl
theorem name15 : (Tryz.f15.name == "runtime.NumGoroutine") = false := by kernel_rfl
theorem name16 : (Tryz.f16.name == "runtime.NumGoroutine") = false := by kernel_rfl
theorem name17 : (Tryz.f17.name == "runtime.NumGoroutine") = false := by kernel_rfl
theorem name18 : (Tryz.f18.name == "runtime.NumGoroutine") = false := by kernel_rfl
theorem name19 : (Tryz.f19.name == "runtime.NumGoroutine") = false := by kernel_rfl
theorem name49 : (Tryz.f49.name == "runtime.NumGoroutine") = false := by kernel_rfl
theorem name50 : (Tryz.f50.name == "runtime.NumGoroutine") = false := by kernel_rfl
theorem name70 : (Tryz.f70.name == "runtime.NumGoroutine") = false := by kernel_rfl

theorem session_within (gs : List (Nat × Obj)) (n t : Int) : Pure Tryz.prog gs 70 [.s (.int .i64 n), .s (.int .i64 t)] (rS (.bool (decide (0 ≤ n ∧ n ≤ t)))) := by
  refine ⟨Sh.rS (fun _ => .same rfl), fun vs hv => ?_⟩
  match vs, hv with
  | [_, _], ⟨rfl, rfl, _⟩ =>
  show Spec _ _ _ _ [] (fun o h2 => ∃ new, h2 = ([] : List Blk) ++ new ∧ (rS (.bool (decide (0 ≤ n ∧ n ≤ t)))) 0 o new)
  refine Spec.mk 0 Tryz.func70 rfl name70 Tryz.ntmps70 Tryz.results70 rfl rfl ?_
  refine AWP.seq ?_
  refine AWP.region rfl ?_
  refine AOps.step rfl (OpJ.assign rfl rfl ?_)
  refine AOps.done (thenA.go ?_)
  refine AWP.trim [(0, _), (1, _)] ⟨rfl, rfl, trivial⟩ ?_
  refine AWP.seq ?_
  refine AWP.region rfl ?_
  refine AOps.step rfl (OpJ.move rfl rfl ?_)
  refine AOps.step rfl (OpJ.binI rfl rfl rfl rfl ?_)
  refine AOps.step rfl (OpJ.move rfl rfl ?_)
  refine AOps.split (t := 7) (rfl : lk _ 7 = _) (fun g7 => ?_) (fun g7 => ?_)
  · have k7 := g7; simp at k7
    refine AOps.doG rfl rfl rfl g7 (OpJ.move rfl rfl ?_)
    refine AOps.doG rfl rfl rfl g7 (OpJ.move rfl rfl ?_)
    refine AOps.doG rfl rfl rfl g7 (OpJ.binI rfl rfl rfl rfl ?_)
    refine AOps.step rfl (OpJ.pickT rfl rfl g7 rfl ?_)
    refine AOps.step rfl (OpJ.assign rfl rfl ?_)
    refine AOps.done (thenA.go ?_)
    refine AWP.trim [(4, _)] ⟨rfl, trivial⟩ ?_
    refine AWP.ret ?_
    refine bodyA.ret1 (h2 := []) [] (.tmp rfl) trivial rfl rfl (okS.rv rfl) ⟨_, rfl, ?_⟩
    exact ⟨by simp [k7], rfl⟩
  · have k7 := g7; simp at k7
    refine AOps.skipG rfl rfl rfl g7 ?_
    refine AOps.skipG rfl rfl rfl g7 ?_
    refine AOps.skipG rfl rfl rfl g7 ?_
    refine AOps.step rfl (OpJ.pickF rfl rfl g7 rfl ?_)
    refine AOps.step rfl (OpJ.assign rfl rfl ?_)
    refine AOps.done (thenA.go ?_)
    refine AWP.trim [(4, _)] ⟨rfl, trivial⟩ ?_
    refine AWP.ret ?_
    refine bodyA.ret1 (h2 := []) [] (.tmp rfl) trivial rfl rfl (okS.rv rfl) ⟨_, rfl, ?_⟩
    exact ⟨by simp [show ¬ 0 ≤ n by omega], rfl⟩
theorem session_New (gs : List (Nat × Obj))  : Pure Tryz.prog gs 14 [] (rNew (bookC (List.replicate 8 ⟨0, 0⟩))) := by
  refine ⟨Sh.rNew (bookC_scal _), fun vs hv => ?_⟩
  match vs, hv with
  | [], _ =>
  show Spec _ _ _ _ [] (fun o h2 => ∃ new, h2 = ([] : List Blk) ++ new ∧ (rNew (bookC (List.replicate 8 ⟨0, 0⟩))) 0 o new)
  refine Spec.mk 0 Tryz.func14 rfl name14 Tryz.ntmps14 Tryz.results14 rfl rfl ?_
  refine AWP.seq ?_
  refine AWP.region rfl ?_
  refine AOps.step rfl (OpJ.assign rfl rfl ?_)
  refine AOps.done (thenA.go ?_)
  refine AWP.trim [] trivial ?_
  refine AWP.seq ?_
  refine AWP.region rfl ?_
  refine AOps.step rfl (OpJ.buildL (vs := [_, _, _, _, _, _, _, _, _, _, _, _, _, _, _, _]) [(0, 16)] rfl Tryz.underlying100 ti100 rfl pl100 rfl rfl rfl ?_)
  refine AOps.step rfl (OpJ.box (vs := [_, _, _, _, _, _, _, _, _, _, _, _, _, _, _, _]) 1 rfl rfl rfl rfl (kn2 fun f2 h2 ef eh => ?_))
  simp only [pt, List.length_cons, List.length_nil, List.cons_append, List.nil_append, List.set_cons_zero, List.set_cons_succ, wr, Nat.reduceAdd, Nat.reduceMul, Nat.zero_add, Nat.add_zero] at ef eh
  subst ef eh
  refine AOps.step rfl (OpJ.assign rfl rfl ?_)
  refine AOps.done (thenA.go ?_)
  refine AWP.trim [(0, _)] ⟨rfl, trivial⟩ ?_
  refine AWP.ret ?_
  refine bodyA.ret1 (h2 := [_]) (v2 := .pointer (some ⟨0, 0, none⟩)) [some (0, 0)] (.tmp rfl) ⟨⟨_, rfl, BE.same rfl (by first | rfl | exact bytesC_scal _ | exact bookC_scal _ | exact krsC_scal _ | simp [bytesC_scal])⟩, trivial⟩ rfl rfl (RV.ptrK rfl) ⟨_, rfl, ⟨rfl, rfl⟩⟩
theorem book_of_in (gs : List (Nat × Obj)) (b : List Kp) (hb : b.length = 8) (c : Int) (hc : 0 ≤ c ∧ c ≤ 7) : Meth Tryz.prog gs 49 [.int .i64 c] (bookC b) 1 (fun v c2 => c2 = bookC b ∧ v = .pointer (some ⟨0, c.toNat * 2, none⟩)) := by
  unfold Meth
  refine Spec.mk 1 Tryz.func49 rfl name49 Tryz.ntmps49 Tryz.results49 rfl rfl ?_
  refine AWP.seq ?_
  refine AWP.region rfl ?_
  refine AOps.step rfl (OpJ.assign rfl rfl ?_)
  refine AOps.done (thenA.go ?_)
  refine AWP.trim [(0, _), (1, _)] ⟨rfl, rfl, trivial⟩ ?_
  refine AWP.seq ?_
  refine AWP.seq ?_
  refine AWP.region rfl ?_
  refine AOps.step rfl (OpJ.move rfl rfl ?_)
  refine AOps.step rfl (OpJ.callP (us := [_, _]) rfl rfl rfl (session_within gs c 7) ⟨⟨rfl, rfl⟩, ⟨rfl, rfl⟩, trivial⟩ (fun v0 new hR => ?_) (fun v0 new hR => nomatch hR.1))
  obtain ⟨ho, rfl⟩ := hR
  cases ho
  refine kn2 fun f2 h2 ef eh => ?_
  simp only [pt, List.length_cons, List.length_nil, List.cons_append, List.nil_append, List.set_cons_zero, List.set_cons_succ, wr, Nat.reduceAdd, Nat.reduceMul, Nat.zero_add, Nat.add_zero, List.append_nil] at ef eh
  subst ef eh
  refine AOps.step rfl (OpJ.not rfl rfl ?_)
  refine AOps.done (thenA.go ?_)
  refine AWP.trim [(0, _), (1, _), (7, _)] ⟨rfl, rfl, rfl, trivial⟩ ?_
  refine AWP.condF rfl (by simp [hc]) ?_
  refine AWP.skip (thenA.go ?_)
  refine AWP.trim [(0, _), (1, _)] ⟨rfl, rfl, trivial⟩ ?_
  refine AWP.seq ?_
  refine AWP.region rfl ?_
  refine AOps.step rfl (OpJ.move rfl rfl ?_)
  refine AOps.step rfl (OpJ.move rfl rfl ?_)
  refine AOps.step rfl (OpJ.nilCheck rfl rfl ?_)
  refine AOps.step rfl (OpJ.fieldAddrV 0 rfl Tryz.underlying100 rfl ti98 (by decide) rfl rfl ?_)
  refine AOps.step rfl (OpJ.indexArr (c.toNat * 2) rfl Tryz.underlying98 ti97 rfl rfl (by omega) (by omega) (by omega) ?_)
  refine AOps.step rfl (OpJ.assign rfl rfl ?_)
  refine AOps.done (thenA.go ?_)
  refine AWP.trim [(4, _)] ⟨rfl, trivial⟩ ?_
  refine AWP.ret ?_
  refine bodyA.ret1 (h2 := [_]) (v2 := .pointer (some ⟨0, c.toNat * 2, none⟩)) [some (0, 0)] (.tmp rfl) ⟨⟨_, rfl, BE.same rfl (by first | rfl | exact bytesC_scal _ | exact bookC_scal _ | exact krsC_scal _ | simp [bytesC_scal])⟩, trivial⟩ rfl rfl (RV.ptrK rfl) ⟨_, _, rfl, rfl, (by first | rfl | exact bytesC_scal _ | exact bookC_scal _ | exact krsC_scal _ | simp [bytesC_scal]), okR.p, ⟨rfl, rfl⟩⟩
theorem book_of_out (gs : List (Nat × Obj)) (b : List Kp) (hb : b.length = 8) (c : Int) (hc : ¬ (0 ≤ c ∧ c ≤ 7)) : Meth Tryz.prog gs 49 [.int .i64 c] (bookC b) 1 (fun v c2 => c2 = bookC b ∧ v = .pointer none) := by
  unfold Meth
  refine Spec.mk 1 Tryz.func49 rfl name49 Tryz.ntmps49 Tryz.results49 rfl rfl ?_
  refine AWP.seq ?_
  refine AWP.region rfl ?_
  refine AOps.step rfl (OpJ.assign rfl rfl ?_)
  refine AOps.done (thenA.go ?_)
  refine AWP.trim [(0, _), (1, _)] ⟨rfl, rfl, trivial⟩ ?_
  refine AWP.seq ?_
  refine AWP.seq ?_
  refine AWP.region rfl ?_
  refine AOps.step rfl (OpJ.move rfl rfl ?_)
  refine AOps.step rfl (OpJ.callP (us := [_, _]) rfl rfl rfl (session_within gs c 7) ⟨⟨rfl, rfl⟩, ⟨rfl, rfl⟩, trivial⟩ (fun v0 new hR => ?_) (fun v0 new hR => nomatch hR.1))
  obtain ⟨ho, rfl⟩ := hR
  cases ho
  refine kn2 fun f2 h2 ef eh => ?_
  simp only [pt, List.length_cons, List.length_nil, List.cons_append, List.nil_append, List.set_cons_zero, List.set_cons_succ, wr, Nat.reduceAdd, Nat.reduceMul, Nat.zero_add, Nat.add_zero, List.append_nil] at ef eh
  subst ef eh
  refine AOps.step rfl (OpJ.not rfl rfl ?_)
  refine AOps.done (thenA.go ?_)
  refine AWP.trim [(0, _), (1, _), (7, _)] ⟨rfl, rfl, rfl, trivial⟩ ?_
  refine AWP.condT rfl (by simp [hc]) ?_
  refine AWP.seq ?_
  refine AWP.region rfl ?_
  refine AOps.step rfl (OpJ.assign rfl rfl ?_)
  refine AOps.done (thenA.go ?_)
  refine AWP.trim [(4, _)] ⟨rfl, trivial⟩ ?_
  refine AWP.ret (thenA.ret ?_)
  refine bodyA.ret1 (h2 := [_]) [some (0, 0)] (.tmp rfl) ⟨⟨_, rfl, BE.same rfl (by first | rfl | exact bytesC_scal _ | exact bookC_scal _ | exact krsC_scal _ | simp [bytesC_scal])⟩, trivial⟩ rfl rfl (okS.rv rfl) ⟨_, _, rfl, rfl, (by first | rfl | exact bytesC_scal _ | exact bookC_scal _ | exact krsC_scal _ | simp [bytesC_scal]), okR.s rfl, ⟨rfl, rfl⟩⟩
theorem book_Ask_out (gs : List (Nat × Obj)) (b : List Kp) (hb : b.length = 8) (c : Int) (hc : ¬ (0 ≤ c ∧ c ≤ 7)) (s : Int) : Meth Tryz.prog gs 15 [.int .i64 c, .int .i64 s] (bookC b) 1 (fun v c2 => c2 = bookC b ∧ v = .tuple #[.bool (askS b c s).1, .int .i64 (askS b c s).2]) := by
  unfold Meth
  refine Spec.mk 1 Tryz.func15 rfl name15 Tryz.ntmps15 Tryz.results15 rfl rfl ?_
  refine AWP.seq ?_
  refine AWP.region rfl ?_
  refine AOps.step rfl (OpJ.assign rfl rfl ?_)
  refine AOps.step rfl (OpJ.assign rfl rfl ?_)
  refine AOps.done (thenA.go ?_)
  refine AWP.trim [(0, _), (1, _), (2, _)] ⟨rfl, rfl, rfl, trivial⟩ ?_
  refine AWP.seq ?_
  refine AWP.region rfl ?_
  refine AOps.step rfl (OpJ.move rfl rfl ?_)
  refine AOps.step rfl (OpJ.move rfl rfl ?_)
  refine AOps.step rfl (OpJ.callM (us := [_]) rfl rfl rfl rfl (by first | rfl | exact bytesC_scal _ | exact bookC_scal _ | exact krsC_scal _ | simp [bytesC_scal]) rfl (book_of_out gs b hb c hc) (fun v0 c0 hc0 hR => ?_))
  obtain ⟨rfl, rfl⟩ := hR
  refine kn2 fun f2 h2 ef eh => ?_
  simp only [pt, List.length_cons, List.length_nil, List.cons_append, List.nil_append, List.set_cons_zero, List.set_cons_succ, wr, Nat.reduceAdd, Nat.reduceMul, Nat.zero_add, Nat.add_zero, List.append_nil, up] at ef eh
  subst ef eh
  refine AOps.step rfl (OpJ.assign rfl rfl ?_)
  refine AOps.done (thenA.go ?_)
  refine AWP.trim [(2, _), (8, _)] ⟨rfl, rfl, trivial⟩ ?_
  refine AWP.seq ?_
  refine AWP.block ?_
  refine AWP.seq ?_
  refine AWP.region rfl ?_
  refine AOps.step rfl (OpJ.move rfl rfl ?_)
  refine AOps.step rfl (OpJ.eqNilP rfl Tryz.underlying101 rfl rfl ?_)
  refine AOps.step rfl (OpJ.move rfl rfl ?_)
  refine AOps.skipG rfl rfl rfl (rfl) ?_
  refine AOps.skipG rfl rfl rfl (rfl) ?_
  refine AOps.step rfl (OpJ.pickT rfl rfl (rfl) rfl ?_)
  refine AOps.step rfl (OpJ.move rfl rfl ?_)
  refine AOps.skipG rfl rfl rfl rfl ?_
  refine AOps.skipG rfl rfl rfl rfl ?_
  refine AOps.step rfl (OpJ.pickT rfl rfl rfl rfl ?_)
  refine AOps.step rfl (OpJ.assign rfl rfl ?_)
  refine AOps.done (thenA.go ?_)
  refine AWP.trim [(2, _), (8, _), (12, _)] ⟨rfl, rfl, rfl, trivial⟩ ?_
  refine AWP.condT rfl rfl ?_
  refine AWP.seq ?_
  refine AWP.region rfl ?_
  refine AOps.step rfl (OpJ.assign rfl rfl ?_)
  refine AOps.step rfl (OpJ.assign rfl rfl ?_)
  refine AOps.done (thenA.go ?_)
  refine AWP.trim [(6, _), (7, _)] ⟨rfl, rfl, trivial⟩ ?_
  refine AWP.ret (inBlockA.ret (thenA.ret ?_))
  refine bodyA.ret (h2 := [_]) (v2 := .tuple #[.bool false, .int .i64 10]) [some (0, 0)] (.cons (.tmp rfl) (.cons (.tmp rfl) .nil)) ⟨⟨_, rfl, BE.same rfl (by first | rfl | exact bytesC_scal _ | exact bookC_scal _ | exact krsC_scal _ | simp [bytesC_scal])⟩, trivial⟩ rfl rfl (RV.tupleL (RVL.same rfl)) ⟨_, _, rfl, rfl, (by first | rfl | exact bytesC_scal _ | exact bookC_scal _ | exact krsC_scal _ | simp [bytesC_scal]), okR.t rfl, ⟨rfl, by rw [askS, if_pos (by omega)]⟩⟩
theorem book_Ask_in (gs : List (Nat × Obj)) (b : List Kp) (hb : b.length = 8) (c : Int) (hc : 0 ≤ c ∧ c ≤ 7) (s : Int) (k : Kp) (hk : b[c.toNat]? = some k) : Meth Tryz.prog gs 15 [.int .i64 c, .int .i64 s] (bookC b) 1 (fun v c2 => c2 = bookC b ∧ v = .tuple #[.bool (askS b c s).1, .int .i64 (askS b c s).2]) := by
  unfold Meth
  refine Spec.mk 1 Tryz.func15 rfl name15 Tryz.ntmps15 Tryz.results15 rfl rfl ?_
  refine AWP.seq ?_
  refine AWP.region rfl ?_
  refine AOps.step rfl (OpJ.assign rfl rfl ?_)
  refine AOps.step rfl (OpJ.assign rfl rfl ?_)
  refine AOps.done (thenA.go ?_)
  refine AWP.trim [(0, _), (1, _), (2, _)] ⟨rfl, rfl, rfl, trivial⟩ ?_
  refine AWP.seq ?_
  refine AWP.region rfl ?_
  refine AOps.step rfl (OpJ.move rfl rfl ?_)
  refine AOps.step rfl (OpJ.move rfl rfl ?_)
  refine AOps.step rfl (OpJ.callM (us := [_]) rfl rfl rfl rfl (by first | rfl | exact bytesC_scal _ | exact bookC_scal _ | exact krsC_scal _ | simp [bytesC_scal]) rfl (book_of_in gs b hb c hc) (fun v0 c0 hc0 hR => ?_))
  obtain ⟨rfl, rfl⟩ := hR
  refine kn2 fun f2 h2 ef eh => ?_
  simp only [pt, List.length_cons, List.length_nil, List.cons_append, List.nil_append, List.set_cons_zero, List.set_cons_succ, wr, Nat.reduceAdd, Nat.reduceMul, Nat.zero_add, Nat.add_zero, List.append_nil, up] at ef eh
  subst ef eh
  refine AOps.step rfl (OpJ.assign rfl rfl ?_)
  refine AOps.done (thenA.go ?_)
  refine AWP.trim [(2, _), (8, _)] ⟨rfl, rfl, trivial⟩ ?_
  refine AWP.seq ?_
  refine AWP.block ?_
  refine AWP.seq ?_
  refine AWP.region rfl ?_
  refine AOps.step rfl (OpJ.move rfl rfl ?_)
  refine AOps.step rfl (OpJ.eqNilP rfl Tryz.underlying101 rfl rfl ?_)
  refine AOps.step rfl (OpJ.move rfl rfl ?_)
  refine AOps.doG rfl rfl rfl (rfl) (OpJ.move rfl rfl ?_)
  refine AOps.doG rfl rfl rfl (rfl) (OpJ.binI rfl rfl rfl rfl ?_)
  refine AOps.step rfl (OpJ.pickF rfl rfl (rfl) rfl ?_)
  refine AOps.step rfl (OpJ.move rfl rfl ?_)
  refine AOps.split (t := 19) (rfl : lk _ 19 = _) (fun g19 => ?_) (fun g19 => ?_)
  · have k19 := g19; simp at k19
    refine AOps.skipG rfl rfl rfl g19 ?_
    refine AOps.skipG rfl rfl rfl g19 ?_
    refine AOps.step rfl (OpJ.pickT rfl rfl g19 rfl ?_)
    refine AOps.step rfl (OpJ.assign rfl rfl ?_)
    refine AOps.done (thenA.go ?_)
    refine AWP.trim [(2, _), (8, _), (12, _)] ⟨rfl, rfl, rfl, trivial⟩ ?_
    refine AWP.condT rfl rfl ?_
    refine AWP.seq ?_
    refine AWP.region rfl ?_
    refine AOps.step rfl (OpJ.assign rfl rfl ?_)
    refine AOps.step rfl (OpJ.assign rfl rfl ?_)
    refine AOps.done (thenA.go ?_)
    refine AWP.trim [(6, _), (7, _)] ⟨rfl, rfl, trivial⟩ ?_
    refine AWP.ret (inBlockA.ret (thenA.ret ?_))
    refine bodyA.ret (h2 := [_]) (v2 := .tuple #[.bool false, .int .i64 10]) [some (0, 0)] (.cons (.tmp rfl) (.cons (.tmp rfl) .nil)) ⟨⟨_, rfl, BE.same rfl (by first | rfl | exact bytesC_scal _ | exact bookC_scal _ | exact krsC_scal _ | simp [bytesC_scal])⟩, trivial⟩ rfl rfl (RV.tupleL (RVL.same rfl)) ⟨_, _, rfl, rfl, (by first | rfl | exact bytesC_scal _ | exact bookC_scal _ | exact krsC_scal _ | simp [bytesC_scal]), okR.t rfl, ⟨rfl, by rw [askS, if_pos (by omega)]⟩⟩
  · have k19 := g19; simp at k19
    refine AOps.doG rfl rfl rfl g19 (OpJ.move rfl rfl ?_)
    refine AOps.doG rfl rfl rfl g19 (OpJ.binI rfl rfl rfl rfl ?_)
    refine AOps.step rfl (OpJ.pickF rfl rfl g19 rfl ?_)
    refine AOps.step rfl (OpJ.assign rfl rfl ?_)
    refine AOps.done (thenA.go ?_)
    refine AWP.trim [(2, _), (8, _), (12, _)] ⟨rfl, rfl, rfl, trivial⟩ ?_
    refine AWP.cond rfl (fun h12 => ?_) (fun h12 => ?_)
    · simp at h12
      refine AWP.seq ?_
      refine AWP.region rfl ?_
      refine AOps.step rfl (OpJ.assign rfl rfl ?_)
      refine AOps.step rfl (OpJ.assign rfl rfl ?_)
      refine AOps.done (thenA.go ?_)
      refine AWP.trim [(6, _), (7, _)] ⟨rfl, rfl, trivial⟩ ?_
      refine AWP.ret (inBlockA.ret (thenA.ret ?_))
      refine bodyA.ret (h2 := [_]) (v2 := .tuple #[.bool false, .int .i64 10]) [some (0, 0)] (.cons (.tmp rfl) (.cons (.tmp rfl) .nil)) ⟨⟨_, rfl, BE.same rfl (by first | rfl | exact bytesC_scal _ | exact bookC_scal _ | exact krsC_scal _ | simp [bytesC_scal])⟩, trivial⟩ rfl rfl (RV.tupleL (RVL.same rfl)) ⟨_, _, rfl, rfl, (by first | rfl | exact bytesC_scal _ | exact bookC_scal _ | exact krsC_scal _ | simp [bytesC_scal]), okR.t rfl, ⟨rfl, by rw [askS, if_pos (by omega)]⟩⟩
    · simp at h12
      refine AWP.seq ?_
      refine AWP.region rfl ?_
      refine AOps.step rfl (OpJ.move rfl rfl ?_)
      refine AOps.step rfl (OpJ.move rfl rfl ?_)
      refine AOps.step rfl (OpJ.nilCheck rfl rfl ?_)
      refine AOps.step rfl (OpJ.fieldAddrV (c.toNat * 2) rfl Tryz.underlying97 rfl ti3 (by decide) rfl rfl ?_)
      refine AOps.step rfl (OpJ.load (v := .int .i64 k.seq) rfl Tryz.underlying3 rfl rfl rfl rfl (bookC_seq b _ k hk) ?_)
      refine AOps.step rfl (OpJ.binI rfl rfl rfl rfl ?_)
      refine AOps.step rfl (OpJ.assign rfl rfl ?_)
      refine AOps.done (thenA.go ?_)
      refine AWP.trim [(2, _), (8, _), (23, _)] ⟨rfl, rfl, rfl, trivial⟩ ?_
      refine AWP.cond rfl (fun h23 => ?_) (fun h23 => ?_)
      · simp at h23
        refine AWP.seq ?_
        refine AWP.region rfl ?_
        refine AOps.step rfl (OpJ.assign rfl rfl ?_)
        refine AOps.step rfl (OpJ.assign rfl rfl ?_)
        refine AOps.done (thenA.go ?_)
        refine AWP.trim [(6, _), (7, _)] ⟨rfl, rfl, trivial⟩ ?_
        refine AWP.ret (inBlockA.ret (thenA.ret ?_))
        refine bodyA.ret (h2 := [_]) (v2 := .tuple #[.bool true, .int .i64 0]) [some (0, 0)] (.cons (.tmp rfl) (.cons (.tmp rfl) .nil)) ⟨⟨_, rfl, BE.same rfl (by first | rfl | exact bytesC_scal _ | exact bookC_scal _ | exact krsC_scal _ | simp [bytesC_scal])⟩, trivial⟩ rfl rfl (RV.tupleL (RVL.same rfl)) ⟨_, _, rfl, rfl, (by first | rfl | exact bytesC_scal _ | exact bookC_scal _ | exact krsC_scal _ | simp [bytesC_scal]), okR.t rfl, ⟨rfl, by rw [askS, if_neg (by omega), hk]; simp only; rw [if_pos h23]⟩⟩
      · simp at h23
        refine AWP.seq ?_
        refine AWP.region rfl ?_
        refine AOps.step rfl (OpJ.move rfl rfl ?_)
        refine AOps.step rfl (OpJ.move rfl rfl ?_)
        refine AOps.step rfl (OpJ.nilCheck rfl rfl ?_)
        refine AOps.step rfl (OpJ.fieldAddrV (c.toNat * 2) rfl Tryz.underlying97 rfl ti3 (by decide) rfl rfl ?_)
        refine AOps.step rfl (OpJ.load (v := .int .i64 k.seq) rfl Tryz.underlying3 rfl rfl rfl rfl (bookC_seq b _ k hk) ?_)
        refine AOps.step rfl (OpJ.binI rfl rfl rfl rfl ?_)
        refine AOps.step rfl (OpJ.assign rfl rfl ?_)
        refine AOps.done (thenA.go ?_)
        refine AWP.trim [(8, _), (30, _)] ⟨rfl, rfl, trivial⟩ ?_
        refine AWP.cond rfl (fun h30 => ?_) (fun h30 => ?_)
        · simp at h30
          refine AWP.seq ?_
          refine AWP.trim [(8, _), (30, _)] ⟨rfl, rfl, trivial⟩ ?_
          refine AWP.drawn [0, 1, 2, 3, 4, 5] [4, 0, 1, 2, 3, 5] [0, 1, 2, 3, 4, 5] [0, 1, 2, 3, 4, 5] rfl rfl rfl rfl rfl (by decide) ?_
          refine DJ.val _ rfl rfl (OkV.plain rfl (fun F hF K Kp kk => OpJ.move rfl (hF.ev rfl) kk)) ?_
          refine DJ.val _ rfl rfl (OkV.plain rfl (fun F hF K Kp kk => OpJ.nilCheck rfl (hF.ev rfl) kk)) ?_
          refine DJ.val _ rfl rfl (OkV.plain rfl (fun F hF K Kp kk => OpJ.fieldAddrV (c.toNat * 2 + 1) rfl Tryz.underlying97 rfl ti25 (by decide) (hF.ev rfl) rfl kk)) ?_
          refine DJ.val _ rfl rfl (OkV.plain rfl (fun F hF K Kp kk => OpJ.load (v := .int .i64 k.err) rfl Tryz.underlying25 rfl (hF.ev rfl) rfl rfl (bookC_err b _ k hk) kk)) ?_
          refine DJ.val _ rfl rfl (OkV.plain rfl (fun F hF K Kp kk => OpJ.assign rfl (hF.ev rfl) kk)) ?_
          refine DJ.val _ rfl rfl (OkV.plain rfl (fun F hF K Kp kk => OpJ.assign rfl (hF.ev rfl) kk)) ?_
          refine DJ.done (fun F hF => ?_)
          refine (thenA.sup hF ?_)
          refine AWP.trim [(6, _), (7, _)] ⟨rfl, rfl, trivial⟩ ?_
          refine AWP.ret (inBlockA.ret (thenA.ret ?_))
          refine bodyA.ret (h2 := [_]) (v2 := .tuple #[.bool false, .int .i64 k.err]) [some (0, 0)] (.cons (.tmp rfl) (.cons (.tmp rfl) .nil)) ⟨⟨_, rfl, BE.same rfl (by first | rfl | exact bytesC_scal _ | exact bookC_scal _ | exact krsC_scal _ | simp [bytesC_scal])⟩, trivial⟩ rfl rfl (RV.tupleL (RVL.same rfl)) ⟨_, _, rfl, rfl, (by first | rfl | exact bytesC_scal _ | exact bookC_scal _ | exact krsC_scal _ | simp [bytesC_scal]), okR.t rfl, ⟨rfl, by rw [askS, if_neg (by omega), hk]; simp only; rw [if_neg (by omega), if_pos h30]⟩⟩
        · simp at h30
          refine AWP.skip (inBlockA.go (thenA.go ?_))
          refine AWP.trim [] trivial ?_
          refine AWP.seq ?_
          refine AWP.region rfl ?_
          refine AOps.step rfl (OpJ.assign rfl rfl ?_)
          refine AOps.step rfl (OpJ.assign rfl rfl ?_)
          refine AOps.done (thenA.go ?_)
          refine AWP.trim [(6, _), (7, _)] ⟨rfl, rfl, trivial⟩ ?_
          refine AWP.ret ?_
          refine bodyA.ret (h2 := [_]) (v2 := .tuple #[.bool false, .int .i64 19]) [some (0, 0)] (.cons (.tmp rfl) (.cons (.tmp rfl) .nil)) ⟨⟨_, rfl, BE.same rfl (by first | rfl | exact bytesC_scal _ | exact bookC_scal _ | exact krsC_scal _ | simp [bytesC_scal])⟩, trivial⟩ rfl rfl (RV.tupleL (RVL.same rfl)) ⟨_, _, rfl, rfl, (by first | rfl | exact bytesC_scal _ | exact bookC_scal _ | exact krsC_scal _ | simp [bytesC_scal]), okR.t rfl, ⟨rfl, by rw [askS, if_neg (by omega), hk]; simp only; rw [if_neg (by omega), if_neg (by omega)]⟩⟩
theorem book_Keep_out (gs : List (Nat × Obj)) (b : List Kp) (hb : b.length = 8) (c : Int) (hc : ¬ (0 ≤ c ∧ c ≤ 7)) (s e : Int) : Meth Tryz.prog gs 17 [.int .i64 c, .int .i64 s, .int .i64 e] (bookC b) 1 (fun v c2 => c2 = bookC (keepS b c s e) ∧ v = .bool (askS b c s).1) := by
  unfold Meth
  refine Spec.mk 1 Tryz.func17 rfl name17 Tryz.ntmps17 Tryz.results17 rfl rfl ?_
  refine AWP.seq ?_
  refine AWP.region rfl ?_
  refine AOps.step rfl (OpJ.assign rfl rfl ?_)
  refine AOps.done (thenA.go ?_)
  refine AWP.trim [(0, _), (1, _), (2, _), (3, _)] ⟨rfl, rfl, rfl, rfl, trivial⟩ ?_
  refine AWP.seq ?_
  refine AWP.region rfl ?_
  refine AOps.step rfl (OpJ.move rfl rfl ?_)
  refine AOps.step rfl (OpJ.move rfl rfl ?_)
  refine AOps.step rfl (OpJ.move rfl rfl ?_)
  refine AOps.step rfl (OpJ.callM (us := [_, _]) rfl rfl rfl rfl (by first | rfl | exact bytesC_scal _ | exact bookC_scal _ | exact krsC_scal _ | simp [bytesC_scal]) rfl (book_Ask_out gs b hb c hc s) (fun v0 c0 hc0 hR => ?_))
  obtain ⟨rfl, rfl⟩ := hR
  refine kn2 fun f2 h2 ef eh => ?_
  simp only [pt, List.length_cons, List.length_nil, List.cons_append, List.nil_append, List.set_cons_zero, List.set_cons_succ, wr, Nat.reduceAdd, Nat.reduceMul, Nat.zero_add, Nat.add_zero, List.append_nil, up] at ef eh
  subst ef eh
  refine AOps.step rfl (OpJ.move rfl rfl ?_)
  refine AOps.step rfl (OpJ.extract rfl rfl rfl ?_)
  refine AOps.step rfl (OpJ.extract rfl rfl rfl ?_)
  refine AOps.step rfl (OpJ.assign rfl rfl ?_)
  refine AOps.step rfl (OpJ.assign rfl rfl ?_)
  refine AOps.done (thenA.go ?_)
  refine AWP.trim [(0, _), (1, _), (2, _), (3, _), (9, _)] ⟨rfl, rfl, rfl, rfl, rfl, trivial⟩ ?_
  refine AWP.seq ?_
  refine AWP.seq ?_
  refine AWP.region rfl ?_
  refine AOps.step rfl (OpJ.move rfl rfl ?_)
  refine AOps.done (thenA.go ?_)
  refine AWP.trim [(0, _), (1, _), (2, _), (3, _), (9, _), (18, _)] ⟨rfl, rfl, rfl, rfl, rfl, rfl, trivial⟩ ?_
  refine AWP.condF rfl (by rw [askS, if_pos (by omega)]) ?_
  refine AWP.skip (thenA.go ?_)
  refine AWP.trim [(9, _)] ⟨rfl, trivial⟩ ?_
  refine AWP.seq ?_
  refine AWP.region rfl ?_
  refine AOps.step rfl (OpJ.move rfl rfl ?_)
  refine AOps.step rfl (OpJ.assign rfl rfl ?_)
  refine AOps.done (thenA.go ?_)
  refine AWP.trim [(8, _)] ⟨rfl, trivial⟩ ?_
  refine AWP.ret ?_
  refine bodyA.ret1 (h2 := [_]) [some (0, 0)] (.tmp rfl) ⟨⟨_, rfl, BE.same rfl (by first | rfl | exact bytesC_scal _ | exact bookC_scal _ | exact krsC_scal _ | simp [bytesC_scal])⟩, trivial⟩ rfl rfl (okS.rv rfl) ⟨_, _, rfl, rfl, (by first | rfl | exact bytesC_scal _ | exact bookC_scal _ | exact krsC_scal _ | simp [bytesC_scal]), okR.s rfl, ⟨by rw [keepS, if_neg (by rw [askS, if_pos (by omega)]; simp)], rfl⟩⟩
theorem book_Keep_in (gs : List (Nat × Obj)) (b : List Kp) (hb : b.length = 8) (c : Int) (hc : 0 ≤ c ∧ c ≤ 7) (s e : Int) (k : Kp) (hk : b[c.toNat]? = some k) : Meth Tryz.prog gs 17 [.int .i64 c, .int .i64 s, .int .i64 e] (bookC b) 1 (fun v c2 => c2 = bookC (keepS b c s e) ∧ v = .bool (askS b c s).1) := by
  unfold Meth
  refine Spec.mk 1 Tryz.func17 rfl name17 Tryz.ntmps17 Tryz.results17 rfl rfl ?_
  refine AWP.seq ?_
  refine AWP.region rfl ?_
  refine AOps.step rfl (OpJ.assign rfl rfl ?_)
  refine AOps.done (thenA.go ?_)
  refine AWP.trim [(0, _), (1, _), (2, _), (3, _)] ⟨rfl, rfl, rfl, rfl, trivial⟩ ?_
  refine AWP.seq ?_
  refine AWP.region rfl ?_
  refine AOps.step rfl (OpJ.move rfl rfl ?_)
  refine AOps.step rfl (OpJ.move rfl rfl ?_)
  refine AOps.step rfl (OpJ.move rfl rfl ?_)
  refine AOps.step rfl (OpJ.callM (us := [_, _]) rfl rfl rfl rfl (by first | rfl | exact bytesC_scal _ | exact bookC_scal _ | exact krsC_scal _ | simp [bytesC_scal]) rfl (book_Ask_in gs b hb c hc s k hk) (fun v0 c0 hc0 hR => ?_))
  obtain ⟨rfl, rfl⟩ := hR
  refine kn2 fun f2 h2 ef eh => ?_
  simp only [pt, List.length_cons, List.length_nil, List.cons_append, List.nil_append, List.set_cons_zero, List.set_cons_succ, wr, Nat.reduceAdd, Nat.reduceMul, Nat.zero_add, Nat.add_zero, List.append_nil, up] at ef eh
  subst ef eh
  refine AOps.step rfl (OpJ.move rfl rfl ?_)
  refine AOps.step rfl (OpJ.extract rfl rfl rfl ?_)
  refine AOps.step rfl (OpJ.extract rfl rfl rfl ?_)
  refine AOps.step rfl (OpJ.assign rfl rfl ?_)
  refine AOps.step rfl (OpJ.assign rfl rfl ?_)
  refine AOps.done (thenA.go ?_)
  refine AWP.trim [(0, _), (1, _), (2, _), (3, _), (9, _)] ⟨rfl, rfl, rfl, rfl, rfl, trivial⟩ ?_
  refine AWP.seq ?_
  refine AWP.seq ?_
  refine AWP.region rfl ?_
  refine AOps.step rfl (OpJ.move rfl rfl ?_)
  refine AOps.done (thenA.go ?_)
  refine AWP.trim [(0, _), (1, _), (2, _), (3, _), (9, _), (18, _)] ⟨rfl, rfl, rfl, rfl, rfl, rfl, trivial⟩ ?_
  refine AWP.cond rfl (fun h18 => ?_) (fun h18 => ?_)
  · skip
    refine AWP.region rfl ?_
    refine AOps.step rfl (OpJ.move rfl rfl ?_)
    refine AOps.step rfl (OpJ.move rfl rfl ?_)
    refine AOps.step rfl (OpJ.callM (us := [_]) rfl rfl rfl rfl (by first | rfl | exact bytesC_scal _ | exact bookC_scal _ | exact krsC_scal _ | simp [bytesC_scal]) rfl (book_of_in gs b hb c hc) (fun v0 c0 hc0 hR => ?_))
    obtain ⟨rfl, rfl⟩ := hR
    refine kn2 fun f2 h2 ef eh => ?_
    simp only [pt, List.length_cons, List.length_nil, List.cons_append, List.nil_append, List.set_cons_zero, List.set_cons_succ, wr, Nat.reduceAdd, Nat.reduceMul, Nat.zero_add, Nat.add_zero, List.append_nil, up] at ef eh
    subst ef eh
    refine AOps.step rfl (OpJ.move rfl rfl ?_)
    refine AOps.step rfl (OpJ.move rfl rfl ?_)
    refine AOps.step rfl (OpJ.buildL (vs := [_, _]) [(0, 1), (1, 1)] rfl Tryz.underlying97 ti97 rfl pl97 rfl rfl rfl ?_)
    refine AOps.step rfl (OpJ.nilCheck rfl rfl ?_)
    refine AOps.step rfl (OpJ.store (vs := [_, _]) rfl ti97 rfl rfl rfl rfl (rfl) rfl rfl (by rw [bookC_length]; omega) (kn2 fun f2 h2 ef eh => ?_))
    simp only [pt, List.length_cons, List.length_nil, List.cons_append, List.nil_append, List.set_cons_zero, List.set_cons_succ, wr, Nat.reduceAdd, Nat.reduceMul, Nat.zero_add, Nat.add_zero] at ef eh
    subst ef eh
    rw [bookC_set b c.toNat _ _ (by omega)]
    refine AOps.done (thenA.go ?_)
    refine AWP.trim [(9, _)] ⟨rfl, trivial⟩ ?_
    refine AWP.seq ?_
    refine AWP.region rfl ?_
    refine AOps.step rfl (OpJ.move rfl rfl ?_)
    refine AOps.step rfl (OpJ.assign rfl rfl ?_)
    refine AOps.done (thenA.go ?_)
    refine AWP.trim [(8, _)] ⟨rfl, trivial⟩ ?_
    refine AWP.ret ?_
    refine bodyA.ret1 (h2 := [_]) [some (0, 0)] (.tmp rfl) ⟨⟨_, rfl, BE.same rfl (by first | rfl | exact bytesC_scal _ | exact bookC_scal _ | exact krsC_scal _ | simp [bytesC_scal])⟩, trivial⟩ rfl rfl (okS.rv rfl) ⟨_, _, rfl, rfl, (by first | rfl | exact bytesC_scal _ | exact bookC_scal _ | exact krsC_scal _ | simp [bytesC_scal]), okR.s rfl, ⟨by rw [keepS, if_pos h18], rfl⟩⟩
  · skip
    refine AWP.skip (thenA.go ?_)
    refine AWP.trim [(9, _)] ⟨rfl, trivial⟩ ?_
    refine AWP.seq ?_
    refine AWP.region rfl ?_
    refine AOps.step rfl (OpJ.move rfl rfl ?_)
    refine AOps.step rfl (OpJ.assign rfl rfl ?_)
    refine AOps.done (thenA.go ?_)
    refine AWP.trim [(8, _)] ⟨rfl, trivial⟩ ?_
    refine AWP.ret ?_
    refine bodyA.ret1 (h2 := [_]) [some (0, 0)] (.tmp rfl) ⟨⟨_, rfl, BE.same rfl (by first | rfl | exact bytesC_scal _ | exact bookC_scal _ | exact krsC_scal _ | simp [bytesC_scal])⟩, trivial⟩ rfl rfl (okS.rv rfl) ⟨_, _, rfl, rfl, (by first | rfl | exact bytesC_scal _ | exact bookC_scal _ | exact krsC_scal _ | simp [bytesC_scal]), okR.s rfl, ⟨by rw [keepS, if_neg (by simp [h18])], rfl⟩⟩
theorem book_Last_out (gs : List (Nat × Obj)) (b : List Kp) (hb : b.length = 8) (c : Int) (hc : ¬ (0 ≤ c ∧ c ≤ 7)) : Meth Tryz.prog gs 18 [.int .i64 c] (bookC b) 1 (fun v c2 => c2 = bookC b ∧ v = .int .i64 (lastS b c)) := by
  unfold Meth
  refine Spec.mk 1 Tryz.func18 rfl name18 Tryz.ntmps18 Tryz.results18 rfl rfl ?_
  refine AWP.seq ?_
  refine AWP.region rfl ?_
  refine AOps.step rfl (OpJ.assign rfl rfl ?_)
  refine AOps.done (thenA.go ?_)
  refine AWP.trim [(0, _), (1, _)] ⟨rfl, rfl, trivial⟩ ?_
  refine AWP.seq ?_
  refine AWP.region rfl ?_
  refine AOps.step rfl (OpJ.move rfl rfl ?_)
  refine AOps.step rfl (OpJ.move rfl rfl ?_)
  refine AOps.step rfl (OpJ.callM (us := [_]) rfl rfl rfl rfl (by first | rfl | exact bytesC_scal _ | exact bookC_scal _ | exact krsC_scal _ | simp [bytesC_scal]) rfl (book_of_out gs b hb c hc) (fun v0 c0 hc0 hR => ?_))
  obtain ⟨rfl, rfl⟩ := hR
  refine kn2 fun f2 h2 ef eh => ?_
  simp only [pt, List.length_cons, List.length_nil, List.cons_append, List.nil_append, List.set_cons_zero, List.set_cons_succ, wr, Nat.reduceAdd, Nat.reduceMul, Nat.zero_add, Nat.add_zero, List.append_nil, up] at ef eh
  subst ef eh
  refine AOps.step rfl (OpJ.assign rfl rfl ?_)
  refine AOps.done (thenA.go ?_)
  refine AWP.trim [(5, _)] ⟨rfl, trivial⟩ ?_
  refine AWP.seq ?_
  refine AWP.seq ?_
  refine AWP.region rfl ?_
  refine AOps.step rfl (OpJ.move rfl rfl ?_)
  refine AOps.step rfl (OpJ.eqNilP rfl Tryz.underlying101 rfl rfl ?_)
  refine AOps.done (thenA.go ?_)
  refine AWP.trim [(5, _), (10, _)] ⟨rfl, rfl, trivial⟩ ?_
  refine AWP.condT rfl (rfl) ?_
  refine AWP.seq ?_
  refine AWP.region rfl ?_
  refine AOps.step rfl (OpJ.assign rfl rfl ?_)
  refine AOps.done (thenA.go ?_)
  refine AWP.trim [(4, _)] ⟨rfl, trivial⟩ ?_
  refine AWP.ret (thenA.ret ?_)
  refine bodyA.ret1 (h2 := [_]) (v2 := .int .i64 0) [some (0, 0)] (.tmp rfl) ⟨⟨_, rfl, BE.same rfl (by first | rfl | exact bytesC_scal _ | exact bookC_scal _ | exact krsC_scal _ | simp [bytesC_scal])⟩, trivial⟩ rfl rfl (okS.rv rfl) ⟨_, _, rfl, rfl, (by first | rfl | exact bytesC_scal _ | exact bookC_scal _ | exact krsC_scal _ | simp [bytesC_scal]), okR.s rfl, ⟨rfl, by rw [lastS, if_pos (by omega)]⟩⟩
theorem book_Last_in (gs : List (Nat × Obj)) (b : List Kp) (hb : b.length = 8) (c : Int) (hc : 0 ≤ c ∧ c ≤ 7) (k : Kp) (hk : b[c.toNat]? = some k) : Meth Tryz.prog gs 18 [.int .i64 c] (bookC b) 1 (fun v c2 => c2 = bookC b ∧ v = .int .i64 (lastS b c)) := by
  unfold Meth
  refine Spec.mk 1 Tryz.func18 rfl name18 Tryz.ntmps18 Tryz.results18 rfl rfl ?_
  refine AWP.seq ?_
  refine AWP.region rfl ?_
  refine AOps.step rfl (OpJ.assign rfl rfl ?_)
  refine AOps.done (thenA.go ?_)
  refine AWP.trim [(0, _), (1, _)] ⟨rfl, rfl, trivial⟩ ?_
  refine AWP.seq ?_
  refine AWP.region rfl ?_
  refine AOps.step rfl (OpJ.move rfl rfl ?_)
  refine AOps.step rfl (OpJ.move rfl rfl ?_)
  refine AOps.step rfl (OpJ.callM (us := [_]) rfl rfl rfl rfl (by first | rfl | exact bytesC_scal _ | exact bookC_scal _ | exact krsC_scal _ | simp [bytesC_scal]) rfl (book_of_in gs b hb c hc) (fun v0 c0 hc0 hR => ?_))
  obtain ⟨rfl, rfl⟩ := hR
  refine kn2 fun f2 h2 ef eh => ?_
  simp only [pt, List.length_cons, List.length_nil, List.cons_append, List.nil_append, List.set_cons_zero, List.set_cons_succ, wr, Nat.reduceAdd, Nat.reduceMul, Nat.zero_add, Nat.add_zero, List.append_nil, up] at ef eh
  subst ef eh
  refine AOps.step rfl (OpJ.assign rfl rfl ?_)
  refine AOps.done (thenA.go ?_)
  refine AWP.trim [(5, _)] ⟨rfl, trivial⟩ ?_
  refine AWP.seq ?_
  refine AWP.seq ?_
  refine AWP.region rfl ?_
  refine AOps.step rfl (OpJ.move rfl rfl ?_)
  refine AOps.step rfl (OpJ.eqNilP rfl Tryz.underlying101 rfl rfl ?_)
  refine AOps.done (thenA.go ?_)
  refine AWP.trim [(5, _), (10, _)] ⟨rfl, rfl, trivial⟩ ?_
  refine AWP.condF rfl (rfl) ?_
  refine AWP.skip (thenA.go ?_)
  refine AWP.trim [(5, _)] ⟨rfl, trivial⟩ ?_
  refine AWP.seq ?_
  refine AWP.region rfl ?_
  refine AOps.step rfl (OpJ.move rfl rfl ?_)
  refine AOps.step rfl (OpJ.nilCheck rfl rfl ?_)
  refine AOps.step rfl (OpJ.fieldAddrV (c.toNat * 2) rfl Tryz.underlying97 rfl ti3 (by decide) rfl rfl ?_)
  refine AOps.step rfl (OpJ.load (v := .int .i64 k.seq) rfl Tryz.underlying3 rfl rfl rfl rfl (bookC_seq b _ k hk) ?_)
  refine AOps.step rfl (OpJ.assign rfl rfl ?_)
  refine AOps.done (thenA.go ?_)
  refine AWP.trim [(4, _)] ⟨rfl, trivial⟩ ?_
  refine AWP.ret ?_
  refine bodyA.ret1 (h2 := [_]) (v2 := .int .i64 k.seq) [some (0, 0)] (.tmp rfl) ⟨⟨_, rfl, BE.same rfl (by first | rfl | exact bytesC_scal _ | exact bookC_scal _ | exact krsC_scal _ | simp [bytesC_scal])⟩, trivial⟩ rfl rfl (okS.rv rfl) ⟨_, _, rfl, rfl, (by first | rfl | exact bytesC_scal _ | exact bookC_scal _ | exact krsC_scal _ | simp [bytesC_scal]), okR.s rfl, ⟨rfl, by rw [lastS, if_neg (by omega), hk]⟩⟩
theorem ref_last (gs : List (Nat × Obj)) (l : List KR) (hl : l.length < 2 ^ 40) (c : Int) : Pure Tryz.prog gs 50 [.w 3 l.length (krsC l), .s (.int .i64 c)] (rS (krV (lastR l c))) := by
  refine ⟨Sh.rS (fun _ => okS.ru rfl), fun vs hv => ?_⟩
  match vs, hv with
  | [_, _], ⟨⟨c0, rfl, hc0⟩, rfl, _⟩ =>
  show Spec _ _ _ _ [⟨(krsC l), .r, 3⟩] (fun o h2 => ∃ new, h2 = ([⟨(krsC l), .r, 3⟩] : List Blk) ++ new ∧ (rS (krV (lastR l c))) 1 o new)
  refine Spec.mk 1 Tryz.func50 rfl name50 Tryz.ntmps50 Tryz.results50 rfl rfl ?_
  refine AWP.seq ?_
  refine AWP.region rfl ?_
  refine AOps.step rfl (OpJ.alloc 1 rfl ti42 rfl rfl (kn2 fun f2 h2 ef eh => ?_))
  simp only [pt, List.length_cons, List.length_nil, List.cons_append, List.nil_append, List.set_cons_zero, List.set_cons_succ, wr, Nat.reduceAdd, Nat.reduceMul, Nat.zero_add, Nat.add_zero] at ef eh
  subst ef eh
  refine AOps.done (thenA.go ?_)
  refine AWP.trim [(0, _), (1, _), (4, _)] ⟨rfl, rfl, rfl, trivial⟩ ?_
  refine AWP.seq ?_
  refine AWP.region rfl ?_
  refine AOps.step rfl (OpJ.buildL (vs := [_, _, _]) [(0, 1), (1, 1), (2, 1)] rfl Tryz.underlying42 ti42 rfl pl42 rfl rfl rfl ?_)
  refine AOps.step rfl (OpJ.alloc 1 rfl ti42 rfl rfl (kn2 fun f2 h2 ef eh => ?_))
  simp only [pt, List.length_cons, List.length_nil, List.cons_append, List.nil_append, List.set_cons_zero, List.set_cons_succ, wr, Nat.reduceAdd, Nat.reduceMul, Nat.zero_add, Nat.add_zero] at ef eh
  subst ef eh
  refine AOps.step rfl (OpJ.store (vs := [_, _, _]) rfl ti42 rfl rfl rfl rfl (rfl) rfl rfl (Nat.le_of_ble_eq_true rfl) (kn2 fun f2 h2 ef eh => ?_))
  simp only [pt, List.length_cons, List.length_nil, List.cons_append, List.nil_append, List.set_cons_zero, List.set_cons_succ, wr, Nat.reduceAdd, Nat.reduceMul, Nat.zero_add, Nat.add_zero] at ef eh
  subst ef eh
  refine AOps.done (thenA.go ?_)
  refine AWP.trim [(0, _), (1, _), (4, _), (5, _)] ⟨rfl, rfl, rfl, rfl, trivial⟩ ?_
  refine AWP.seq ?_
  refine AWP.seq ?_
  refine AWP.region rfl ?_
  refine AOps.step rfl (OpJ.assign rfl rfl ?_)
  refine AOps.done (thenA.go ?_)
  refine AWP.trim [(0, _), (1, _), (4, _), (5, _), (6, _)] ⟨rfl, rfl, rfl, rfl, rfl, trivial⟩ ?_
  refine AWP.block ?_
  refine AWP.trim [(0, _), (1, _), (4, _), (5, _), (6, _)] ⟨rfl, rfl, rfl, rfl, rfl, trivial⟩ ?_
  refine AWP.loop (fun m f h => ∃ (i : Nat) (best : KR), m = l.length - i ∧ lastF c best (l.drop i) = lastR l c ∧ i ≤ l.length ∧ f = [(0, .slice (some ⟨0, 0, none⟩) l.length c0), (1, .int .i64 c), (4, .pointer (some ⟨1, 0, none⟩)), (5, .pointer (some ⟨2, 0, none⟩)), (6, .int .i64 i)] ∧ h = [⟨krsC l, .r, 3⟩, ⟨[.int .i64 0, .int .i64 0, .int .i64 0], .w, 1⟩, ⟨krC best, .w, 1⟩]) _ ⟨0, ⟨0, 0, 0⟩, rfl, rfl, by simp, rfl, rfl⟩ ?_
  rintro m _ _ ⟨i, best, hm, h1, h2, rfl, rfl⟩
  refine AWP.seq ?_
  refine AWP.seq ?_
  refine AWP.region rfl ?_
  refine AOps.step rfl (OpJ.move rfl rfl ?_)
  refine AOps.step rfl (OpJ.move rfl rfl ?_)
  refine AOps.step rfl (OpJ.lenSl rfl Tryz.underlying38 rfl ?_)
  refine AOps.step rfl (OpJ.binI rfl rfl rfl rfl ?_)
  refine AOps.done (thenA.go ?_)
  refine AWP.trim [(0, _), (1, _), (4, _), (5, _), (6, _), (11, _)] ⟨rfl, rfl, rfl, rfl, rfl, rfl, trivial⟩ ?_
  refine AWP.cond rfl (fun h11 => ?_) (fun h11 => ?_)
  · simp at h11
    obtain ⟨k, hk, hdr⟩ := split_kr (b := l) (i := i) (by omega)
    refine AWP.skip (thenA.go ?_)
    refine AWP.trim [(0, _), (1, _), (4, _), (5, _), (6, _)] ⟨rfl, rfl, rfl, rfl, rfl, trivial⟩ ?_
    refine AWP.seq ?_
    refine AWP.block ?_
    refine AWP.seq ?_
    refine AWP.trim [(0, _), (1, _), (4, _), (5, _), (6, _)] ⟨rfl, rfl, rfl, rfl, rfl, trivial⟩ ?_
    refine AWP.drawn [0, 1, 2, 3, 4, 5, 6, 7, 8, 9, 10, 11, 12, 13, 14, 15, 16] [0, 1, 2, 3, 4, 5, 6, 7, 8, 9, 10, 11, 12, 13, 14, 15, 16] [0, 1, 2, 3, 4, 5, 6, 7, 8, 9, 10, 11, 12, 13, 14, 15, 16] [0, 1, 2, 3, 4, 5, 6, 7, 8, 9, 10, 11, 12, 13, 14, 15, 16] rfl rfl rfl rfl rfl (by decide) ?_
    refine DJ.val _ rfl rfl (OkV.plain rfl (fun F hF K Kp kk => OpJ.move rfl (hF.ev rfl) kk)) ?_
    refine DJ.val _ rfl rfl (OkV.plain rfl (fun F hF K Kp kk => OpJ.move rfl (hF.ev rfl) kk)) ?_
    refine DJ.val _ rfl rfl (OkV.plain rfl (fun F hF K Kp kk => OpJ.indexAddrV (i * 3) rfl Tryz.underlying38 ti42 (hF.ev rfl) (hF.ev rfl) (by omega) (by omega) (by omega) kk)) ?_
    refine DJ.val _ rfl rfl (OkV.plain rfl (fun F hF K Kp kk => OpJ.fieldAddrV (i * 3) rfl Tryz.underlying42 rfl ti3 (by decide) (hF.ev rfl) rfl kk)) ?_
    refine DJ.val _ rfl rfl (OkV.plain rfl (fun F hF K Kp kk => OpJ.load (v := .int .i64 k.client) rfl Tryz.underlying3 rfl (hF.ev rfl) rfl rfl (krsC_client l _ k hk) kk)) ?_
    refine DJ.val _ rfl rfl (OkV.plain rfl (fun F hF K Kp kk => OpJ.move rfl (hF.ev rfl) kk)) ?_
    refine DJ.val _ rfl rfl (OkV.plain rfl (fun F hF K Kp kk => OpJ.binI rfl (hF.ev rfl) (hF.ev rfl) rfl kk)) ?_
    refine DJ.val _ rfl rfl (OkV.plain rfl (fun F hF K Kp kk => OpJ.move rfl (hF.ev rfl) kk)) ?_
    refine DJ.split (t := 21) (rfl : lk _ 21 = _) (fun g21 => ?_) (fun g21 => ?_)
    · have k21 := g21; simp at k21
      refine DJ.val _ rfl rfl (OkV.doG rfl rfl rfl g21 (fun F hF K Kp kk => OpJ.move rfl (hF.ev rfl) kk)) ?_
      refine DJ.val _ rfl rfl (OkV.doG rfl rfl rfl g21 (fun F hF K Kp kk => OpJ.move rfl (hF.ev rfl) kk)) ?_
      refine DJ.val _ rfl rfl (OkV.doG rfl rfl rfl g21 (fun F hF K Kp kk => OpJ.indexAddrV (i * 3) rfl Tryz.underlying38 ti42 (hF.ev rfl) (hF.ev rfl) (by omega) (by omega) (by omega) kk)) ?_
      refine DJ.val _ rfl rfl (OkV.doG rfl rfl rfl g21 (fun F hF K Kp kk => OpJ.fieldAddrV (i * 3 + 1) rfl Tryz.underlying42 rfl ti3 (by decide) (hF.ev rfl) rfl kk)) ?_
      refine DJ.val _ rfl rfl (OkV.doG rfl rfl rfl g21 (fun F hF K Kp kk => OpJ.load (v := .int .i64 k.seq) rfl Tryz.underlying3 rfl (hF.ev rfl) rfl rfl (krsC_seq l _ k hk) kk)) ?_
      refine DJ.val _ rfl rfl (OkV.doG rfl rfl rfl g21 (fun F hF K Kp kk => OpJ.fieldAddrV 1 rfl Tryz.underlying42 rfl ti3 (by decide) (hF.ev rfl) rfl kk)) ?_
      refine DJ.val _ rfl rfl (OkV.doG rfl rfl rfl g21 (fun F hF K Kp kk => OpJ.load rfl Tryz.underlying3 rfl (hF.ev rfl) rfl rfl (rfl) kk)) ?_
      refine DJ.val _ rfl rfl (OkV.doG rfl rfl rfl g21 (fun F hF K Kp kk => OpJ.binI rfl (hF.ev rfl) (hF.ev rfl) rfl kk)) ?_
      refine DJ.val _ rfl rfl (OkV.plain rfl (fun F hF K Kp kk => OpJ.pickT rfl (hF.ev rfl) g21 (hF.ev rfl) kk)) ?_
      refine DJ.done (fun F hF => ?_)
      refine (thenA.sup hF ?_)
      refine AWP.trim [(0, _), (1, _), (4, _), (5, _), (6, _), (30, _)] ⟨rfl, rfl, rfl, rfl, rfl, rfl, trivial⟩ ?_
      refine AWP.cond rfl (fun h30 => ?_) (fun h30 => ?_)
      · simp at h30
        refine AWP.region rfl ?_
        refine AOps.step rfl (OpJ.move rfl rfl ?_)
        refine AOps.step rfl (OpJ.move rfl rfl ?_)
        refine AOps.step rfl (OpJ.indexAddrV (i * 3) rfl Tryz.underlying38 ti42 rfl rfl (by omega) (by omega) (by omega) ?_)
        refine AOps.step rfl (OpJ.loadAgg (vs := krC k) rfl Tryz.underlying42 rfl ti42 rfl rfl rfl (krsC_take l _ k hk) (rfl) ?_)
        refine AOps.step rfl (OpJ.store (vs := [_, _, _]) rfl ti42 rfl rfl rfl rfl (rfl) rfl rfl (Nat.le_of_ble_eq_true rfl) (kn2 fun f2 h2 ef eh => ?_))
        simp only [pt, List.length_cons, List.length_nil, List.cons_append, List.nil_append, List.set_cons_zero, List.set_cons_succ, wr, Nat.reduceAdd, Nat.reduceMul, Nat.zero_add, Nat.add_zero] at ef eh
        subst ef eh
        refine AOps.done (inBlockA.go (thenA.go ?_))
        refine AWP.trim [(0, _), (1, _), (4, _), (5, _), (6, _)] ⟨rfl, rfl, rfl, rfl, rfl, trivial⟩ ?_
        refine AWP.region rfl ?_
        refine AOps.step rfl (OpJ.move rfl rfl ?_)
        refine AOps.step rfl (OpJ.addI rfl rfl rfl (⟨by omega, by omega⟩) ?_)
        refine AOps.step rfl (OpJ.assign rfl rfl ?_)
        refine AOps.done (thenA.go ?_)
        refine ⟨l.length - (i + 1), [(0, .slice (some ⟨0, 0, none⟩) l.length c0), (1, .int .i64 c), (4, .pointer (some ⟨1, 0, none⟩)), (5, .pointer (some ⟨2, 0, none⟩)), (6, .int .i64 (i + 1 : Nat))], _, by omega, Wk.fr ⟨rfl, rfl, rfl, rfl, rfl, trivial⟩, i + 1, k, rfl, ?_, by omega, rfl, rfl⟩
        rw [← h1, hdr, lastF, if_pos ⟨k21, h30⟩]
      · simp at h30
        refine AWP.skip (inBlockA.go (thenA.go ?_))
        refine AWP.trim [(0, _), (1, _), (4, _), (5, _), (6, _)] ⟨rfl, rfl, rfl, rfl, rfl, trivial⟩ ?_
        refine AWP.region rfl ?_
        refine AOps.step rfl (OpJ.move rfl rfl ?_)
        refine AOps.step rfl (OpJ.addI rfl rfl rfl (⟨by omega, by omega⟩) ?_)
        refine AOps.step rfl (OpJ.assign rfl rfl ?_)
        refine AOps.done (thenA.go ?_)
        refine ⟨l.length - (i + 1), [(0, .slice (some ⟨0, 0, none⟩) l.length c0), (1, .int .i64 c), (4, .pointer (some ⟨1, 0, none⟩)), (5, .pointer (some ⟨2, 0, none⟩)), (6, .int .i64 (i + 1 : Nat))], _, by omega, Wk.fr ⟨rfl, rfl, rfl, rfl, rfl, trivial⟩, i + 1, best, rfl, ?_, by omega, rfl, rfl⟩
        rw [← h1, hdr, lastF, if_neg (by omega)]
    · have k21 := g21; simp at k21
      refine DJ.val _ rfl rfl (OkV.skipG rfl rfl rfl g21) ?_
      refine DJ.val _ rfl rfl (OkV.skipG rfl rfl rfl g21) ?_
      refine DJ.val _ rfl rfl (OkV.skipG rfl rfl rfl g21) ?_
      refine DJ.val _ rfl rfl (OkV.skipG rfl rfl rfl g21) ?_
      refine DJ.val _ rfl rfl (OkV.skipG rfl rfl rfl g21) ?_
      refine DJ.val _ rfl rfl (OkV.skipG rfl rfl rfl g21) ?_
      refine DJ.val _ rfl rfl (OkV.skipG rfl rfl rfl g21) ?_
      refine DJ.val _ rfl rfl (OkV.skipG rfl rfl rfl g21) ?_
      refine DJ.val _ rfl rfl (OkV.plain rfl (fun F hF K Kp kk => OpJ.pickF rfl (hF.ev rfl) g21 (hF.ev rfl) kk)) ?_
      refine DJ.done (fun F hF => ?_)
      refine (thenA.sup hF ?_)
      refine AWP.trim [(0, _), (1, _), (4, _), (5, _), (6, _), (30, _)] ⟨rfl, rfl, rfl, rfl, rfl, rfl, trivial⟩ ?_
      refine AWP.condF rfl rfl ?_
      refine AWP.skip (inBlockA.go (thenA.go ?_))
      refine AWP.trim [(0, _), (1, _), (4, _), (5, _), (6, _)] ⟨rfl, rfl, rfl, rfl, rfl, trivial⟩ ?_
      refine AWP.region rfl ?_
      refine AOps.step rfl (OpJ.move rfl rfl ?_)
      refine AOps.step rfl (OpJ.addI rfl rfl rfl (⟨by omega, by omega⟩) ?_)
      refine AOps.step rfl (OpJ.assign rfl rfl ?_)
      refine AOps.done (thenA.go ?_)
      refine ⟨l.length - (i + 1), [(0, .slice (some ⟨0, 0, none⟩) l.length c0), (1, .int .i64 c), (4, .pointer (some ⟨1, 0, none⟩)), (5, .pointer (some ⟨2, 0, none⟩)), (6, .int .i64 (i + 1 : Nat))], _, by omega, Wk.fr ⟨rfl, rfl, rfl, rfl, rfl, trivial⟩, i + 1, best, rfl, ?_, by omega, rfl, rfl⟩
      rw [← h1, hdr, lastF, if_neg (by omega)]
  · simp at h11
    refine AWP.exit (thenA.exit (thenA.exit (inBlockA.here (thenA.go ?_))))
    refine AWP.trim [(4, _), (5, _)] ⟨rfl, rfl, trivial⟩ ?_
    refine AWP.seq ?_
    refine AWP.region rfl ?_
    refine AOps.step rfl (OpJ.loadAgg (vs := [_, _, _]) rfl Tryz.underlying42 rfl ti42 rfl rfl rfl (rfl) (rfl) ?_)
    refine AOps.step rfl (OpJ.store (vs := [_, _, _]) rfl ti42 rfl rfl rfl rfl (rfl) rfl rfl (Nat.le_of_ble_eq_true rfl) (kn2 fun f2 h2 ef eh => ?_))
    simp only [pt, List.length_cons, List.length_nil, List.cons_append, List.nil_append, List.set_cons_zero, List.set_cons_succ, wr, Nat.reduceAdd, Nat.reduceMul, Nat.zero_add, Nat.add_zero] at ef eh
    subst ef eh
    refine AOps.done (thenA.go ?_)
    refine AWP.trim [(4, _)] ⟨rfl, trivial⟩ ?_
    refine AWP.ret ?_
    refine bodyA.ret1 (h2 := [_]) [some (0, 0)] (.agg (vs := [_, _, _]) rfl Tryz.underlying42 rfl ti42 rfl rfl rfl rfl) ⟨⟨_, rfl, BE.same rfl (by first | rfl | exact bytesC_scal _ | exact bookC_scal _ | exact krsC_scal _ | simp [bytesC_scal])⟩, trivial⟩ rfl rfl (okS.rv rfl) ⟨_, rfl, ?_⟩
    have : best = lastR l c := by rw [← h1, List.drop_eq_nil_of_le (by omega)]; rfl
    subst this; exact ⟨rfl, rfl⟩
theorem ref_Last (gs : List (Nat × Obj)) (l : List KR) (hl : l.length < 2 ^ 40) (c : Int) : Pure Tryz.prog gs 19 [.w 3 l.length (krsC l), .s (.int .i64 c)] (rS (.int .i64 (lastR l c).seq)) := by
  refine ⟨Sh.rS (fun _ => okS.ru rfl), fun vs hv => ?_⟩
  match vs, hv with
  | [_, _], ⟨⟨c0, rfl, hc0⟩, rfl, _⟩ =>
  show Spec _ _ _ _ [⟨(krsC l), .r, 3⟩] (fun o h2 => ∃ new, h2 = ([⟨(krsC l), .r, 3⟩] : List Blk) ++ new ∧ (rS (.int .i64 (lastR l c).seq)) 1 o new)
  refine Spec.mk 1 Tryz.func19 rfl name19 Tryz.ntmps19 Tryz.results19 rfl rfl ?_
  refine AWP.seq ?_
  refine AWP.region rfl ?_
  refine AOps.step rfl (OpJ.assign rfl rfl ?_)
  refine AOps.done (thenA.go ?_)
  refine AWP.trim [(0, _), (1, _)] ⟨rfl, rfl, trivial⟩ ?_
  refine AWP.seq ?_
  refine AWP.region rfl ?_
  refine AOps.step rfl (OpJ.move rfl rfl ?_)
  refine AOps.step rfl (OpJ.move rfl rfl ?_)
  refine AOps.step rfl (OpJ.callP (us := [_, _]) rfl rfl rfl (ref_last gs l hl c) ⟨isSl.krs rfl rfl, ⟨rfl, rfl⟩, trivial⟩ (fun v0 new hR => ?_) (fun v0 new hR => nomatch hR.1))
  obtain ⟨ho, rfl⟩ := hR
  cases ho
  refine kn2 fun f2 h2 ef eh => ?_
  simp only [pt, List.length_cons, List.length_nil, List.cons_append, List.nil_append, List.set_cons_zero, List.set_cons_succ, wr, Nat.reduceAdd, Nat.reduceMul, Nat.zero_add, Nat.add_zero, List.append_nil] at ef eh
  subst ef eh
  refine AOps.step rfl (OpJ.field rfl Tryz.underlying42 rfl rfl Tryz.underlying3 rfl rfl rfl ?_)
  refine AOps.step rfl (OpJ.assign rfl rfl ?_)
  refine AOps.done (thenA.go ?_)
  refine AWP.trim [(4, _)] ⟨rfl, trivial⟩ ?_
  refine AWP.ret ?_
  refine bodyA.ret1 (h2 := [_]) [some (0, 0)] (.tmp rfl) ⟨⟨_, rfl, BE.same rfl (by first | rfl | exact bytesC_scal _ | exact bookC_scal _ | exact krsC_scal _ | simp [bytesC_scal])⟩, trivial⟩ rfl rfl (okS.rv rfl) ⟨_, rfl, ⟨rfl, rfl⟩⟩
theorem ref_Ask (gs : List (Nat × Obj)) (l : List KR) (hl : l.length < 2 ^ 40) (c s : Int) : Pure Tryz.prog gs 16 [.w 3 l.length (krsC l), .s (.int .i64 c), .s (.int .i64 s)] (rS (.tuple #[.bool (askR l c s).1, .int .i64 (askR l c s).2])) := by
  refine ⟨Sh.rS (fun _ => RU.tupleL (RUs.same rfl)), fun vs hv => ?_⟩
  match vs, hv with
  | [_, _, _], ⟨⟨c0, rfl, hc0⟩, rfl, rfl, _⟩ =>
  show Spec _ _ _ _ [⟨(krsC l), .r, 3⟩] (fun o h2 => ∃ new, h2 = ([⟨(krsC l), .r, 3⟩] : List Blk) ++ new ∧ (rS (.tuple #[.bool (askR l c s).1, .int .i64 (askR l c s).2])) 1 o new)
  refine Spec.mk 1 Tryz.func16 rfl name16 Tryz.ntmps16 Tryz.results16 rfl rfl ?_
  refine AWP.seq ?_
  refine AWP.region rfl ?_
  refine AOps.step rfl (OpJ.assign rfl rfl ?_)
  refine AOps.step rfl (OpJ.assign rfl rfl ?_)
  refine AOps.done (thenA.go ?_)
  refine AWP.trim [(0, _), (1, _), (2, _)] ⟨rfl, rfl, rfl, trivial⟩ ?_
  refine AWP.seq ?_
  refine AWP.seq ?_
  refine AWP.region rfl ?_
  refine AOps.step rfl (OpJ.move rfl rfl ?_)
  refine AOps.step rfl (OpJ.binI rfl rfl rfl rfl ?_)
  refine AOps.step rfl (OpJ.move rfl rfl ?_)
  refine AOps.split (t := 11) (rfl : lk _ 11 = _) (fun g11 => ?_) (fun g11 => ?_)
  · have k11 := g11; simp at k11
    refine AOps.skipG rfl rfl rfl g11 ?_
    refine AOps.skipG rfl rfl rfl g11 ?_
    refine AOps.step rfl (OpJ.pickT rfl rfl g11 rfl ?_)
    refine AOps.step rfl (OpJ.move rfl rfl ?_)
    refine AOps.skipG rfl rfl rfl rfl ?_
    refine AOps.skipG rfl rfl rfl rfl ?_
    refine AOps.step rfl (OpJ.pickT rfl rfl rfl rfl ?_)
    refine AOps.step rfl (OpJ.move rfl rfl ?_)
    refine AOps.skipG rfl rfl rfl rfl ?_
    refine AOps.skipG rfl rfl rfl rfl ?_
    refine AOps.step rfl (OpJ.pickT rfl rfl rfl rfl ?_)
    refine AOps.done (thenA.go ?_)
    refine AWP.trim [(0, _), (1, _), (2, _), (22, _)] ⟨rfl, rfl, rfl, rfl, trivial⟩ ?_
    refine AWP.condT rfl rfl ?_
    refine AWP.seq ?_
    refine AWP.region rfl ?_
    refine AOps.step rfl (OpJ.assign rfl rfl ?_)
    refine AOps.step rfl (OpJ.assign rfl rfl ?_)
    refine AOps.done (thenA.go ?_)
    refine AWP.trim [(6, _), (7, _)] ⟨rfl, rfl, trivial⟩ ?_
    refine AWP.ret (thenA.ret ?_)
    refine bodyA.ret (h2 := [_]) (v2 := .tuple #[.bool false, .int .i64 10]) [some (0, 0)] (.cons (.tmp rfl) (.cons (.tmp rfl) .nil)) ⟨⟨_, rfl, BE.same rfl (by first | rfl | exact bytesC_scal _ | exact bookC_scal _ | exact krsC_scal _ | simp [bytesC_scal])⟩, trivial⟩ rfl rfl (RV.tupleL (RVL.same rfl)) ⟨_, rfl, ⟨by rw [askR, if_pos (by omega)], rfl⟩⟩
  · have k11 := g11; simp at k11
    refine AOps.doG rfl rfl rfl g11 (OpJ.move rfl rfl ?_)
    refine AOps.doG rfl rfl rfl g11 (OpJ.binI rfl rfl rfl rfl ?_)
    refine AOps.step rfl (OpJ.pickF rfl rfl g11 rfl ?_)
    refine AOps.step rfl (OpJ.move rfl rfl ?_)
    refine AOps.split (t := 15) (rfl : lk _ 15 = _) (fun g15 => ?_) (fun g15 => ?_)
    · have k15 := g15; simp at k15
      refine AOps.skipG rfl rfl rfl g15 ?_
      refine AOps.skipG rfl rfl rfl g15 ?_
      refine AOps.step rfl (OpJ.pickT rfl rfl g15 rfl ?_)
      refine AOps.step rfl (OpJ.move rfl rfl ?_)
      refine AOps.skipG rfl rfl rfl rfl ?_
      refine AOps.skipG rfl rfl rfl rfl ?_
      refine AOps.step rfl (OpJ.pickT rfl rfl rfl rfl ?_)
      refine AOps.done (thenA.go ?_)
      refine AWP.trim [(0, _), (1, _), (2, _), (22, _)] ⟨rfl, rfl, rfl, rfl, trivial⟩ ?_
      refine AWP.condT rfl rfl ?_
      refine AWP.seq ?_
      refine AWP.region rfl ?_
      refine AOps.step rfl (OpJ.assign rfl rfl ?_)
      refine AOps.step rfl (OpJ.assign rfl rfl ?_)
      refine AOps.done (thenA.go ?_)
      refine AWP.trim [(6, _), (7, _)] ⟨rfl, rfl, trivial⟩ ?_
      refine AWP.ret (thenA.ret ?_)
      refine bodyA.ret (h2 := [_]) (v2 := .tuple #[.bool false, .int .i64 10]) [some (0, 0)] (.cons (.tmp rfl) (.cons (.tmp rfl) .nil)) ⟨⟨_, rfl, BE.same rfl (by first | rfl | exact bytesC_scal _ | exact bookC_scal _ | exact krsC_scal _ | simp [bytesC_scal])⟩, trivial⟩ rfl rfl (RV.tupleL (RVL.same rfl)) ⟨_, rfl, ⟨by rw [askR, if_pos (by omega)], rfl⟩⟩
    · have k15 := g15; simp at k15
      refine AOps.doG rfl rfl rfl g15 (OpJ.move rfl rfl ?_)
      refine AOps.doG rfl rfl rfl g15 (OpJ.binI rfl rfl rfl rfl ?_)
      refine AOps.step rfl (OpJ.pickF rfl rfl g15 rfl ?_)
      refine AOps.step rfl (OpJ.move rfl rfl ?_)
      refine AOps.split (t := 19) (rfl : lk _ 19 = _) (fun g19 => ?_) (fun g19 => ?_)
      · have k19 := g19; simp at k19
        refine AOps.skipG rfl rfl rfl g19 ?_
        refine AOps.skipG rfl rfl rfl g19 ?_
        refine AOps.step rfl (OpJ.pickT rfl rfl g19 rfl ?_)
        refine AOps.done (thenA.go ?_)
        refine AWP.trim [(0, _), (1, _), (2, _), (22, _)] ⟨rfl, rfl, rfl, rfl, trivial⟩ ?_
        refine AWP.condT rfl rfl ?_
        refine AWP.seq ?_
        refine AWP.region rfl ?_
        refine AOps.step rfl (OpJ.assign rfl rfl ?_)
        refine AOps.step rfl (OpJ.assign rfl rfl ?_)
        refine AOps.done (thenA.go ?_)
        refine AWP.trim [(6, _), (7, _)] ⟨rfl, rfl, trivial⟩ ?_
        refine AWP.ret (thenA.ret ?_)
        refine bodyA.ret (h2 := [_]) (v2 := .tuple #[.bool false, .int .i64 10]) [some (0, 0)] (.cons (.tmp rfl) (.cons (.tmp rfl) .nil)) ⟨⟨_, rfl, BE.same rfl (by first | rfl | exact bytesC_scal _ | exact bookC_scal _ | exact krsC_scal _ | simp [bytesC_scal])⟩, trivial⟩ rfl rfl (RV.tupleL (RVL.same rfl)) ⟨_, rfl, ⟨by rw [askR, if_pos (by omega)], rfl⟩⟩
      · have k19 := g19; simp at k19
        refine AOps.doG rfl rfl rfl g19 (OpJ.move rfl rfl ?_)
        refine AOps.doG rfl rfl rfl g19 (OpJ.binI rfl rfl rfl rfl ?_)
        refine AOps.step rfl (OpJ.pickF rfl rfl g19 rfl ?_)
        refine AOps.done (thenA.go ?_)
        refine AWP.trim [(0, _), (1, _), (2, _), (22, _)] ⟨rfl, rfl, rfl, rfl, trivial⟩ ?_
        refine AWP.cond rfl (fun h22 => ?_) (fun h22 => ?_)
        · simp at h22
          refine AWP.seq ?_
          refine AWP.region rfl ?_
          refine AOps.step rfl (OpJ.assign rfl rfl ?_)
          refine AOps.step rfl (OpJ.assign rfl rfl ?_)
          refine AOps.done (thenA.go ?_)
          refine AWP.trim [(6, _), (7, _)] ⟨rfl, rfl, trivial⟩ ?_
          refine AWP.ret (thenA.ret ?_)
          refine bodyA.ret (h2 := [_]) (v2 := .tuple #[.bool false, .int .i64 10]) [some (0, 0)] (.cons (.tmp rfl) (.cons (.tmp rfl) .nil)) ⟨⟨_, rfl, BE.same rfl (by first | rfl | exact bytesC_scal _ | exact bookC_scal _ | exact krsC_scal _ | simp [bytesC_scal])⟩, trivial⟩ rfl rfl (RV.tupleL (RVL.same rfl)) ⟨_, rfl, ⟨by rw [askR, if_pos (by omega)], rfl⟩⟩
        · simp at h22
          refine AWP.skip (thenA.go ?_)
          refine AWP.trim [(0, _), (1, _), (2, _)] ⟨rfl, rfl, rfl, trivial⟩ ?_
          refine AWP.seq ?_
          refine AWP.region rfl ?_
          refine AOps.step rfl (OpJ.move rfl rfl ?_)
          refine AOps.step rfl (OpJ.move rfl rfl ?_)
          refine AOps.step rfl (OpJ.callP (us := [_, _]) rfl rfl rfl (ref_last gs l hl c) ⟨isSl.krs rfl rfl, ⟨rfl, rfl⟩, trivial⟩ (fun v0 new hR => ?_) (fun v0 new hR => nomatch hR.1))
          obtain ⟨ho, rfl⟩ := hR
          cases ho
          refine kn2 fun f2 h2 ef eh => ?_
          simp only [pt, List.length_cons, List.length_nil, List.cons_append, List.nil_append, List.set_cons_zero, List.set_cons_succ, wr, Nat.reduceAdd, Nat.reduceMul, Nat.zero_add, Nat.add_zero, List.append_nil] at ef eh
          subst ef eh
          refine AOps.step rfl (OpJ.alloc 1 rfl ti42 rfl rfl (kn2 fun f2 h2 ef eh => ?_))
          simp only [pt, List.length_cons, List.length_nil, List.cons_append, List.nil_append, List.set_cons_zero, List.set_cons_succ, wr, Nat.reduceAdd, Nat.reduceMul, Nat.zero_add, Nat.add_zero] at ef eh
          subst ef eh
          refine AOps.step rfl (OpJ.store (vs := [_, _, _]) rfl ti42 rfl rfl rfl rfl (rfl) rfl rfl (Nat.le_of_ble_eq_true rfl) (kn2 fun f2 h2 ef eh => ?_))
          simp only [pt, List.length_cons, List.length_nil, List.cons_append, List.nil_append, List.set_cons_zero, List.set_cons_succ, wr, Nat.reduceAdd, Nat.reduceMul, Nat.zero_add, Nat.add_zero] at ef eh
          subst ef eh
          refine AOps.done (thenA.go ?_)
          refine AWP.trim [(2, _), (8, _)] ⟨rfl, rfl, trivial⟩ ?_
          refine AWP.seq ?_
          refine AWP.seq ?_
          refine AWP.region rfl ?_
          refine AOps.step rfl (OpJ.move rfl rfl ?_)
          refine AOps.step rfl (OpJ.fieldAddrV 1 rfl Tryz.underlying42 rfl ti3 (by decide) rfl rfl ?_)
          refine AOps.step rfl (OpJ.load rfl Tryz.underlying3 rfl rfl rfl rfl (rfl) ?_)
          refine AOps.step rfl (OpJ.binI rfl rfl rfl rfl ?_)
          refine AOps.done (thenA.go ?_)
          refine AWP.trim [(2, _), (8, _), (29, _)] ⟨rfl, rfl, rfl, trivial⟩ ?_
          refine AWP.cond rfl (fun h29 => ?_) (fun h29 => ?_)
          · simp at h29
            refine AWP.seq ?_
            refine AWP.region rfl ?_
            refine AOps.step rfl (OpJ.assign rfl rfl ?_)
            refine AOps.step rfl (OpJ.assign rfl rfl ?_)
            refine AOps.done (thenA.go ?_)
            refine AWP.trim [(6, _), (7, _)] ⟨rfl, rfl, trivial⟩ ?_
            refine AWP.ret (thenA.ret ?_)
            refine bodyA.ret (h2 := [_]) (v2 := .tuple #[.bool true, .int .i64 0]) [some (0, 0)] (.cons (.tmp rfl) (.cons (.tmp rfl) .nil)) ⟨⟨_, rfl, BE.same rfl (by first | rfl | exact bytesC_scal _ | exact bookC_scal _ | exact krsC_scal _ | simp [bytesC_scal])⟩, trivial⟩ rfl rfl (RV.tupleL (RVL.same rfl)) ⟨_, rfl, ⟨by rw [askR, if_neg (by omega), if_pos h29], rfl⟩⟩
          · simp at h29
            refine AWP.skip (thenA.go ?_)
            refine AWP.trim [(2, _), (8, _)] ⟨rfl, rfl, trivial⟩ ?_
            refine AWP.seq ?_
            refine AWP.seq ?_
            refine AWP.region rfl ?_
            refine AOps.step rfl (OpJ.move rfl rfl ?_)
            refine AOps.step rfl (OpJ.fieldAddrV 1 rfl Tryz.underlying42 rfl ti3 (by decide) rfl rfl ?_)
            refine AOps.step rfl (OpJ.load rfl Tryz.underlying3 rfl rfl rfl rfl (rfl) ?_)
            refine AOps.step rfl (OpJ.binI rfl rfl rfl rfl ?_)
            refine AOps.done (thenA.go ?_)
            refine AWP.trim [(8, _), (33, _)] ⟨rfl, rfl, trivial⟩ ?_
            refine AWP.cond rfl (fun h33 => ?_) (fun h33 => ?_)
            · simp at h33
              refine AWP.seq ?_
              refine AWP.trim [(8, _), (33, _)] ⟨rfl, rfl, trivial⟩ ?_
              refine AWP.drawn [0, 1, 2, 3] [2, 0, 1, 3] [0, 1, 2, 3] [0, 1, 2, 3] rfl rfl rfl rfl rfl (by decide) ?_
              refine DJ.val _ rfl rfl (OkV.plain rfl (fun F hF K Kp kk => OpJ.fieldAddrV 2 rfl Tryz.underlying42 rfl ti25 (by decide) (hF.ev rfl) rfl kk)) ?_
              refine DJ.val _ rfl rfl (OkV.plain rfl (fun F hF K Kp kk => OpJ.load rfl Tryz.underlying25 rfl (hF.ev rfl) rfl rfl (rfl) kk)) ?_
              refine DJ.val _ rfl rfl (OkV.plain rfl (fun F hF K Kp kk => OpJ.assign rfl (hF.ev rfl) kk)) ?_
              refine DJ.val _ rfl rfl (OkV.plain rfl (fun F hF K Kp kk => OpJ.assign rfl (hF.ev rfl) kk)) ?_
              refine DJ.done (fun F hF => ?_)
              refine (thenA.sup hF ?_)
              refine AWP.trim [(6, _), (7, _)] ⟨rfl, rfl, trivial⟩ ?_
              refine AWP.ret (thenA.ret ?_)
              refine bodyA.ret (h2 := [_]) (v2 := .tuple #[.bool false, .int .i64 (lastR l c).err]) [some (0, 0)] (.cons (.tmp rfl) (.cons (.tmp rfl) .nil)) ⟨⟨_, rfl, BE.same rfl (by first | rfl | exact bytesC_scal _ | exact bookC_scal _ | exact krsC_scal _ | simp [bytesC_scal])⟩, trivial⟩ rfl rfl (RV.tupleL (RVL.same rfl)) ⟨_, rfl, ⟨by rw [askR, if_neg (by omega), if_neg (by omega), if_pos h33], rfl⟩⟩
            · simp at h33
              refine AWP.skip (thenA.go ?_)
              refine AWP.trim [] trivial ?_
              refine AWP.seq ?_
              refine AWP.region rfl ?_
              refine AOps.step rfl (OpJ.assign rfl rfl ?_)
              refine AOps.step rfl (OpJ.assign rfl rfl ?_)
              refine AOps.done (thenA.go ?_)
              refine AWP.trim [(6, _), (7, _)] ⟨rfl, rfl, trivial⟩ ?_
              refine AWP.ret ?_
              refine bodyA.ret (h2 := [_]) (v2 := .tuple #[.bool false, .int .i64 19]) [some (0, 0)] (.cons (.tmp rfl) (.cons (.tmp rfl) .nil)) ⟨⟨_, rfl, BE.same rfl (by first | rfl | exact bytesC_scal _ | exact bookC_scal _ | exact krsC_scal _ | simp [bytesC_scal])⟩, trivial⟩ rfl rfl (RV.tupleL (RVL.same rfl)) ⟨_, rfl, ⟨by rw [askR, if_neg (by omega), if_neg (by omega), if_neg (by omega)], rfl⟩⟩
end Go.J.Tryz
