/- Walks through functions of the program. No condition. -/
import Derived.Test.YthknbhghkcdepaaGreatDoorWSess
import Derived.Test.YthknbhghkcdepaaGreatDoorXA
import Derived.Test.YthknbhghkcdepaaGreatDoorXB
import Derived.Test.YthknbhghkcdepaaGreatDoorJPLaw20
import Derived.Test.YthknbhghkcdepaaGreatDoorJFOps
import Derived.Test.YthknbhghkcdepaaGreatDoorProg
set_option maxHeartbeats 4000000
set_option linter.unusedVariables false
set_option linter.unusedSimpArgs false
set_option maxRecDepth 4000
namespace Go.J.Tryz.LB
open Go.Proofs
theorem ti3 : TI Tryz.prog 3 ((Value.int IntKind.i64 0)) 1 8 := by unfold TI; kernel_rfl
theorem ti25 : TI Tryz.prog 25 ((Value.int IntKind.i64 0)) 1 8 := by unfold TI; kernel_rfl
theorem ti42 : TI Tryz.prog 42 ((Value.agg #[Value.int IntKind.i64 0, Value.int IntKind.i64 0, Value.int IntKind.i64 0])) 3 24 := by unfold TI; kernel_rfl
theorem name5 : (Tryz.f5.name == "runtime.NumGoroutine") = false := by kernel_rfl

set_option maxHeartbeats 4000000 in
theorem law_Once (gs : List (Nat × Obj)) (l0 : List KR) : Pure Tryz.prog gs 5 [.s (FZ 3 l0.length (krsC l0))] (rS (.bool true)) := by
  refine ⟨Sh.rS (fun _ => .same rfl), fun vs hv => ?_⟩
  match vs, hv with
  | [_], ⟨rfl, _⟩ =>
  show Spec _ _ _ _ [] (fun o h2 => ∃ new, h2 = ([] : List Blk) ++ new ∧ (rS (.bool true)) 0 o new)
  refine Spec.mk 0 Tryz.func5 rfl name5 Tryz.ntmps5 Tryz.results5 rfl rfl ?_
  refine AWP.seq ?_
  refine AWP.region rfl ?_
  refine AOps.step rfl (OpJ.assign rfl rfl ?_)
  refine AOps.done (thenA.go ?_)
  refine AWP.trim [(0, _)] ⟨rfl, trivial⟩ ?_
  refine AWP.seq ?_
  refine AWP.seq ?_
  refine AWP.region rfl ?_
  refine AOps.step rfl (OpJ.callP (us := []) rfl rfl rfl (alive_pure gs) trivial (fun v0 new hR => ?_) (fun v0 new hR => nomatch hR.1))
  obtain ⟨ho, rfl⟩ := hR
  cases ho
  refine kn2 fun f2 h2 ef eh => ?_
  simp only [pt, List.length_cons, List.length_nil, List.cons_append, List.nil_append, List.set_cons_zero, List.set_cons_succ, wr, Nat.reduceAdd, Nat.reduceMul, Nat.zero_add, Nat.add_zero, List.append_nil] at ef eh
  subst ef eh
  refine AOps.step rfl (OpJ.not rfl rfl ?_)
  refine AOps.done (thenA.go ?_)
  refine AWP.trim [(0, _), (12, _)] ⟨rfl, rfl, trivial⟩ ?_
  refine AWP.condF rfl (rfl) ?_
  refine AWP.skip (thenA.go ?_)
  refine AWP.trim [(0, _)] ⟨rfl, trivial⟩ ?_
  refine AWP.seq ?_
  refine AWP.seq ?_
  refine AWP.region rfl ?_
  refine AOps.step rfl (OpJ.move rfl rfl ?_)
  refine AOps.step rfl (OpJ.lenFZ rfl Tryz.underlying38 rfl ?_)
  refine AOps.step rfl (OpJ.binI rfl rfl rfl rfl ?_)
  refine AOps.done (thenA.go ?_)
  refine AWP.trim [(0, _), (15, _)] ⟨rfl, rfl, trivial⟩ ?_
  refine AWP.cond rfl (fun h15 => ?_) (fun h15 => ?_)
  · simp at h15
    refine AWP.seq ?_
    refine AWP.region rfl ?_
    refine AOps.step rfl (OpJ.assign rfl rfl ?_)
    refine AOps.done (thenA.go ?_)
    refine AWP.trim [(2, _)] ⟨rfl, trivial⟩ ?_
    refine AWP.ret (thenA.ret ?_)
    refine bodyA.ret1 (h2 := []) [] (.tmp rfl) trivial rfl rfl (okS.rv rfl) ⟨_, rfl, ⟨rfl, rfl⟩⟩
  · simp at h15
    refine AWP.skip (thenA.go ?_)
    refine AWP.trim [(0, _)] ⟨rfl, trivial⟩ ?_
    refine AWP.seq ?_
    refine AWP.region rfl ?_
    refine AOps.step rfl (OpJ.callP (us := []) rfl rfl rfl (session_New gs) trivial (fun v0 new hR => ?_) (fun v0 new hR => nomatch hR.1))
    obtain ⟨ho, rfl⟩ := hR
    cases ho
    refine kn2 fun f2 h2 ef eh => ?_
    simp only [pt, List.length_cons, List.length_nil, List.cons_append, List.nil_append, List.set_cons_zero, List.set_cons_succ, wr, Nat.reduceAdd, Nat.reduceMul, Nat.zero_add, Nat.add_zero, List.append_nil] at ef eh
    subst ef eh
    refine AOps.step rfl (OpJ.assign rfl rfl ?_)
    refine AOps.done (thenA.go ?_)
    refine AWP.trim [(0, _), (3, _)] ⟨rfl, rfl, trivial⟩ ?_
    refine AWP.seq ?_
    refine AWP.seq ?_
    refine AWP.region rfl ?_
    refine AOps.step rfl (OpJ.assign rfl rfl ?_)
    refine AOps.done (thenA.go ?_)
    refine AWP.trim [(0, _), (3, _), (4, _)] ⟨rfl, rfl, rfl, trivial⟩ ?_
    refine AWP.block ?_
    refine AWP.trim [(0, _), (3, _), (4, _)] ⟨rfl, rfl, rfl, trivial⟩ ?_
    refine AWP.loop (fun m f h => ∃ (i : Nat) (b : List Kp), m = l0.length - i ∧ Book b ∧ i ≤ l0.length ∧ f = [(0, FZ 3 l0.length (krsC l0)), (3, .pointer (some ⟨0, 0, none⟩)), (4, .int .i64 i)] ∧ h = [⟨bookC b, .w, 1⟩]) _ ⟨0, List.replicate 8 ⟨0, 0⟩, rfl, Book.init, by simp, rfl, rfl⟩ ?_
    rintro m _ _ ⟨i, b, hm, B, h3, rfl, rfl⟩
    refine AWP.seq ?_
    refine AWP.seq ?_
    refine AWP.region rfl ?_
    refine AOps.step rfl (OpJ.move rfl rfl ?_)
    refine AOps.step rfl (OpJ.move rfl rfl ?_)
    refine AOps.step rfl (OpJ.lenFZ rfl Tryz.underlying38 rfl ?_)
    refine AOps.step rfl (OpJ.binI rfl rfl rfl rfl ?_)
    refine AOps.done (thenA.go ?_)
    refine AWP.trim [(0, _), (3, _), (4, _), (20, _)] ⟨rfl, rfl, rfl, rfl, trivial⟩ ?_
    refine AWP.cond rfl (fun h20 => ?_) (fun h20 => ?_)
    · simp at h20
      obtain ⟨k, hk, hdr⟩ := split_kr (b := l0) (i := i) (by omega)
      obtain ⟨n, hn⟩ : ∃ n, lastS b k.client = n := ⟨_, rfl⟩
      obtain ⟨a, e, hS⟩ : ∃ a e, askS b k.client k.seq = (a, e) := ⟨_, _, rfl⟩
      have hi := askS_iff B k.client k.seq
      rw [hS, hn] at hi
      have hK : (askS b k.client k.seq).1 = a := by rw [hS]
      have B2 : Book (keepS b k.client k.seq k.err) := B.keep _ _ _
      obtain ⟨e2, n2, hS2, hn2, H⟩ : ∃ e2 n2, askS (keepS b k.client k.seq k.err) k.client k.seq = (false, e2) ∧ lastS (keepS b k.client k.seq k.err) k.client = n2 ∧
          ((a = true ∧ e = 0 ∧ e2 = k.err ∧ n2 = k.seq ∧ 0 ≤ k.client ∧ k.client < 8 ∧ n < k.seq ∧ k.seq ≤ 1099511627776) ∨ (a = false ∧ e2 = e ∧ n2 = n ∧ k.client < 0) ∨ (a = false ∧ e2 = e ∧ n2 = n ∧ 0 ≤ k.client ∧ 8 ≤ k.client) ∨
           (a = false ∧ e2 = e ∧ n2 = n ∧ 0 ≤ k.client ∧ k.client < 8 ∧ k.seq ≤ n) ∨ (a = false ∧ e2 = e ∧ n2 = n ∧ 0 ≤ k.client ∧ k.client < 8 ∧ n < k.seq ∧ 1099511627776 < k.seq)) := by
        cases a with
        | true =>
          have h1 : (askS b k.client k.seq).1 = true := by rw [hS]
          have h2 := ask_kept B (e := k.err) h1
          have h3 := askS_err h1
          rw [hS] at h3
          have h4 := hi.1 rfl
          exact ⟨_, _, h2.1, h2.2, .inl ⟨rfl, h3, rfl, rfl, h4.1, h4.2.1, h4.2.2.1, h4.2.2.2⟩⟩
        | false =>
          have h1 : (askS b k.client k.seq).1 = false := by rw [hS]
          rw [ask_not h1]
          refine ⟨_, _, hS, hn, .inr ?_⟩
          have h4 : ¬ (0 ≤ k.client ∧ k.client < 8 ∧ n < k.seq ∧ k.seq ≤ 1099511627776) := fun h => by cases hi.2 h
          simp only [true_and]
          omega
      rcases H with ⟨rfl, rfl, rfl, rfl, q1, q2, q3, q4⟩ | ⟨rfl, rfl, rfl, q1⟩ | ⟨rfl, rfl, rfl, q1, q2⟩ | ⟨rfl, rfl, rfl, q1, q2, q3⟩ | ⟨rfl, rfl, rfl, q1, q2, q3, q4⟩
      · skip
        refine AWP.skip (thenA.go ?_)
        refine AWP.trim [(0, _), (3, _), (4, _)] ⟨rfl, rfl, rfl, trivial⟩ ?_
        refine AWP.seq ?_
        refine AWP.block ?_
        refine AWP.seq ?_
        refine AWP.region rfl ?_
        refine AOps.step rfl (OpJ.move rfl rfl ?_)
        refine AOps.step rfl (OpJ.move rfl rfl ?_)
        refine AOps.step rfl (OpJ.indexFZ (.int .i64 k.client :: .int .i64 k.seq :: .int .i64 k.err :: krsC (l0.drop (i + 1))) rfl Tryz.underlying38 ti42 rfl rfl (by omega) (by omega) (krsC_cut hk hdr) ?_)
        refine AOps.step rfl (OpJ.loadAggPZ (us := [.int .i64 k.client, .int .i64 k.seq, .int .i64 k.err]) rfl Tryz.underlying42 rfl ti42 rfl (rfl) (rfl) (rfl) ?_)
        refine AOps.step rfl (OpJ.alloc 1 rfl ti42 rfl rfl (kn2 fun f2 h2 ef eh => ?_))
        simp only [pt, List.length_cons, List.length_nil, List.cons_append, List.nil_append, List.set_cons_zero, List.set_cons_succ, wr, Nat.reduceAdd, Nat.reduceMul, Nat.zero_add, Nat.add_zero] at ef eh
        subst ef eh
        refine AOps.step rfl (OpJ.store (vs := [_, _, _]) rfl ti42 rfl rfl rfl rfl (rfl) rfl rfl (Nat.le_of_ble_eq_true rfl) (kn2 fun f2 h2 ef eh => ?_))
        simp only [pt, List.length_cons, List.length_nil, List.cons_append, List.nil_append, List.set_cons_zero, List.set_cons_succ, wr, Nat.reduceAdd, Nat.reduceMul, Nat.zero_add, Nat.add_zero] at ef eh
        subst ef eh
        refine AOps.done (thenA.go ?_)
        refine AWP.trim [(0, _), (3, _), (4, _), (5, _)] ⟨rfl, rfl, rfl, rfl, trivial⟩ ?_
        refine AWP.seq ?_
        refine AWP.region rfl ?_
        refine AOps.step rfl (OpJ.move rfl rfl ?_)
        refine AOps.step rfl (OpJ.fieldAddrV 0 rfl Tryz.underlying42 rfl ti3 (by decide) rfl rfl ?_)
        refine AOps.step rfl (OpJ.load rfl Tryz.underlying3 rfl rfl rfl rfl (rfl) ?_)
        refine AOps.step rfl (OpJ.callM (us := [_]) rfl rfl rfl rfl (by first | rfl | exact bytesC_scal _ | exact bookC_scal _ | exact krsC_scal _ | simp [bytesC_scal]) rfl (book_LastE gs b B.len k.client _ hn) (fun v0 c0 hc0 hR => ?_))
        obtain ⟨rfl, rfl⟩ := hR
        refine kn2 fun f2 h2 ef eh => ?_
        simp only [pt, List.length_cons, List.length_nil, List.cons_append, List.nil_append, List.set_cons_zero, List.set_cons_succ, wr, Nat.reduceAdd, Nat.reduceMul, Nat.zero_add, Nat.add_zero, List.append_nil, up] at ef eh
        subst ef eh
        refine AOps.step rfl (OpJ.assign rfl rfl ?_)
        refine AOps.done (thenA.go ?_)
        refine AWP.trim [(0, _), (3, _), (4, _), (5, _), (6, _)] ⟨rfl, rfl, rfl, rfl, rfl, trivial⟩ ?_
        refine AWP.seq ?_
        refine AWP.region rfl ?_
        refine AOps.step rfl (OpJ.move rfl rfl ?_)
        refine AOps.step rfl (OpJ.fieldAddrV 0 rfl Tryz.underlying42 rfl ti3 (by decide) rfl rfl ?_)
        refine AOps.step rfl (OpJ.load rfl Tryz.underlying3 rfl rfl rfl rfl (rfl) ?_)
        refine AOps.step rfl (OpJ.fieldAddrV 1 rfl Tryz.underlying42 rfl ti3 (by decide) rfl rfl ?_)
        refine AOps.step rfl (OpJ.load rfl Tryz.underlying3 rfl rfl rfl rfl (rfl) ?_)
        refine AOps.step rfl (OpJ.callM (us := [_, _]) rfl rfl rfl rfl (by first | rfl | exact bytesC_scal _ | exact bookC_scal _ | exact krsC_scal _ | simp [bytesC_scal]) rfl (book_AskE gs b B.len k.client k.seq _ _ hS) (fun v0 c0 hc0 hR => ?_))
        obtain ⟨rfl, rfl⟩ := hR
        refine kn2 fun f2 h2 ef eh => ?_
        simp only [pt, List.length_cons, List.length_nil, List.cons_append, List.nil_append, List.set_cons_zero, List.set_cons_succ, wr, Nat.reduceAdd, Nat.reduceMul, Nat.zero_add, Nat.add_zero, List.append_nil, up] at ef eh
        subst ef eh
        refine AOps.step rfl (OpJ.move rfl rfl ?_)
        refine AOps.step rfl (OpJ.extract rfl rfl rfl ?_)
        refine AOps.step rfl (OpJ.extract rfl rfl rfl ?_)
        refine AOps.step rfl (OpJ.assign rfl rfl ?_)
        refine AOps.step rfl (OpJ.assign rfl rfl ?_)
        refine AOps.done (thenA.go ?_)
        refine AWP.trim [(0, _), (3, _), (4, _), (5, _), (6, _), (7, _), (8, _)] ⟨rfl, rfl, rfl, rfl, rfl, rfl, rfl, trivial⟩ ?_
        refine AWP.seq ?_
        refine AWP.seq ?_
        refine AWP.region rfl ?_
        refine AOps.step rfl (OpJ.move rfl rfl ?_)
        refine AOps.step rfl (OpJ.fieldAddrV 0 rfl Tryz.underlying42 rfl ti3 (by decide) rfl rfl ?_)
        refine AOps.step rfl (OpJ.load rfl Tryz.underlying3 rfl rfl rfl rfl (rfl) ?_)
        refine AOps.step rfl (OpJ.binI rfl rfl rfl rfl ?_)
        refine AOps.step rfl (OpJ.move rfl rfl ?_)
        refine AOps.doG rfl rfl rfl (by simp; omega) (OpJ.fieldAddrV 0 rfl Tryz.underlying42 rfl ti3 (by decide) rfl rfl ?_)
        refine AOps.doG rfl rfl rfl (by simp; omega) (OpJ.load rfl Tryz.underlying3 rfl rfl rfl rfl (rfl) ?_)
        refine AOps.doG rfl rfl rfl (by simp; omega) (OpJ.binI rfl rfl rfl rfl ?_)
        refine AOps.step rfl (OpJ.pickT rfl rfl (by simp; omega) rfl ?_)
        refine AOps.step rfl (OpJ.move rfl rfl ?_)
        refine AOps.doG rfl rfl rfl (by simp; omega) (OpJ.fieldAddrV 1 rfl Tryz.underlying42 rfl ti3 (by decide) rfl rfl ?_)
        refine AOps.doG rfl rfl rfl (by simp; omega) (OpJ.load rfl Tryz.underlying3 rfl rfl rfl rfl (rfl) ?_)
        refine AOps.doG rfl rfl rfl (by simp; omega) (OpJ.move rfl rfl ?_)
        refine AOps.doG rfl rfl rfl (by simp; omega) (OpJ.binI rfl rfl rfl rfl ?_)
        refine AOps.step rfl (OpJ.pickT rfl rfl (by simp; omega) rfl ?_)
        refine AOps.step rfl (OpJ.move rfl rfl ?_)
        refine AOps.doG rfl rfl rfl (by simp; omega) (OpJ.fieldAddrV 1 rfl Tryz.underlying42 rfl ti3 (by decide) rfl rfl ?_)
        refine AOps.doG rfl rfl rfl (by simp; omega) (OpJ.load rfl Tryz.underlying3 rfl rfl rfl rfl (rfl) ?_)
        refine AOps.doG rfl rfl rfl (by simp; omega) (OpJ.binI rfl rfl rfl rfl ?_)
        refine AOps.step rfl (OpJ.pickT rfl rfl (by simp; omega) rfl ?_)
        refine AOps.step rfl (OpJ.neB rfl Tryz.underlying4 rfl rfl ?_)
        refine AOps.step rfl (OpJ.move rfl rfl ?_)
        refine AOps.doG rfl rfl rfl (by simp; omega) (OpJ.move rfl rfl ?_)
        refine AOps.doG rfl rfl rfl (by simp; omega) (OpJ.move rfl rfl ?_)
        refine AOps.doG rfl rfl rfl (rfl) (OpJ.move rfl rfl ?_)
        refine AOps.doG rfl rfl rfl (rfl) (OpJ.binI rfl rfl rfl rfl ?_)
        refine AOps.doG rfl rfl rfl (by simp; omega) (OpJ.pickT rfl rfl (rfl) rfl ?_)
        refine AOps.step rfl (OpJ.pickF rfl rfl (by simp; omega) rfl ?_)
        refine AOps.done (thenA.go ?_)
        refine AWP.trim [(0, _), (3, _), (4, _), (5, _), (6, _), (7, _), (8, _), (67, _)] ⟨rfl, rfl, rfl, rfl, rfl, rfl, rfl, rfl, trivial⟩ ?_
        refine AWP.condF rfl (rfl) ?_
        refine AWP.skip (thenA.go ?_)
        refine AWP.trim [(0, _), (3, _), (4, _), (5, _), (6, _), (7, _), (8, _)] ⟨rfl, rfl, rfl, rfl, rfl, rfl, rfl, trivial⟩ ?_
        refine AWP.seq ?_
        refine AWP.seq ?_
        refine AWP.region rfl ?_
        refine AOps.step rfl (OpJ.move rfl rfl ?_)
        refine AOps.step rfl (OpJ.fieldAddrV 0 rfl Tryz.underlying42 rfl ti3 (by decide) rfl rfl ?_)
        refine AOps.step rfl (OpJ.load rfl Tryz.underlying3 rfl rfl rfl rfl (rfl) ?_)
        refine AOps.step rfl (OpJ.fieldAddrV 1 rfl Tryz.underlying42 rfl ti3 (by decide) rfl rfl ?_)
        refine AOps.step rfl (OpJ.load rfl Tryz.underlying3 rfl rfl rfl rfl (rfl) ?_)
        refine AOps.step rfl (OpJ.fieldAddrV 2 rfl Tryz.underlying42 rfl ti25 (by decide) rfl rfl ?_)
        refine AOps.step rfl (OpJ.load rfl Tryz.underlying25 rfl rfl rfl rfl (rfl) ?_)
        refine AOps.step rfl (OpJ.callM (us := [_, _, _]) rfl rfl rfl rfl (by first | rfl | exact bytesC_scal _ | exact bookC_scal _ | exact krsC_scal _ | simp [bytesC_scal]) rfl (book_KeepE gs b B.len k.client k.seq k.err _ hK) (fun v0 c0 hc0 hR => ?_))
        obtain ⟨rfl, rfl⟩ := hR
        refine kn2 fun f2 h2 ef eh => ?_
        simp only [pt, List.length_cons, List.length_nil, List.cons_append, List.nil_append, List.set_cons_zero, List.set_cons_succ, wr, Nat.reduceAdd, Nat.reduceMul, Nat.zero_add, Nat.add_zero, List.append_nil, up] at ef eh
        subst ef eh
        refine AOps.step rfl (OpJ.move rfl rfl ?_)
        refine AOps.step rfl (OpJ.neB rfl Tryz.underlying4 rfl rfl ?_)
        refine AOps.done (thenA.go ?_)
        refine AWP.trim [(0, _), (3, _), (4, _), (5, _), (6, _), (7, _), (8, _), (77, _)] ⟨rfl, rfl, rfl, rfl, rfl, rfl, rfl, rfl, trivial⟩ ?_
        refine AWP.condF rfl (rfl) ?_
        refine AWP.skip (thenA.go ?_)
        refine AWP.trim [(0, _), (3, _), (4, _), (5, _), (6, _), (7, _), (8, _)] ⟨rfl, rfl, rfl, rfl, rfl, rfl, rfl, trivial⟩ ?_
        refine AWP.seq ?_
        refine AWP.region rfl ?_
        refine AOps.step rfl (OpJ.move rfl rfl ?_)
        refine AOps.step rfl (OpJ.fieldAddrV 0 rfl Tryz.underlying42 rfl ti3 (by decide) rfl rfl ?_)
        refine AOps.step rfl (OpJ.load rfl Tryz.underlying3 rfl rfl rfl rfl (rfl) ?_)
        refine AOps.step rfl (OpJ.fieldAddrV 1 rfl Tryz.underlying42 rfl ti3 (by decide) rfl rfl ?_)
        refine AOps.step rfl (OpJ.load rfl Tryz.underlying3 rfl rfl rfl rfl (rfl) ?_)
        refine AOps.step rfl (OpJ.callM (us := [_, _]) rfl rfl rfl rfl (by first | rfl | exact bytesC_scal _ | exact bookC_scal _ | exact krsC_scal _ | simp [bytesC_scal]) rfl (book_AskE gs _ B2.len k.client k.seq _ _ hS2) (fun v0 c0 hc0 hR => ?_))
        obtain ⟨rfl, rfl⟩ := hR
        refine kn2 fun f2 h2 ef eh => ?_
        simp only [pt, List.length_cons, List.length_nil, List.cons_append, List.nil_append, List.set_cons_zero, List.set_cons_succ, wr, Nat.reduceAdd, Nat.reduceMul, Nat.zero_add, Nat.add_zero, List.append_nil, up] at ef eh
        subst ef eh
        refine AOps.step rfl (OpJ.move rfl rfl ?_)
        refine AOps.step rfl (OpJ.extract rfl rfl rfl ?_)
        refine AOps.step rfl (OpJ.extract rfl rfl rfl ?_)
        refine AOps.step rfl (OpJ.assign rfl rfl ?_)
        refine AOps.step rfl (OpJ.assign rfl rfl ?_)
        refine AOps.done (thenA.go ?_)
        refine AWP.trim [(0, _), (3, _), (4, _), (5, _), (6, _), (7, _), (8, _), (9, _), (10, _)] ⟨rfl, rfl, rfl, rfl, rfl, rfl, rfl, rfl, rfl, trivial⟩ ?_
        refine AWP.seq ?_
        refine AWP.trim [(0, _), (3, _), (4, _), (5, _), (6, _), (7, _), (8, _), (9, _), (10, _)] ⟨rfl, rfl, rfl, rfl, rfl, rfl, rfl, rfl, rfl, trivial⟩ ?_
        refine AWP.drawn [0, 1, 2, 3, 4, 5, 6, 7, 8, 9, 10, 11, 12, 13, 14, 15, 16, 17, 18, 19, 20, 21, 22, 23, 24, 25, 26, 27, 28, 29, 30, 31, 32, 33, 34, 35] [0, 1, 2, 3, 4, 5, 6, 7, 8, 9, 10, 11, 12, 13, 14, 15, 16, 17, 18, 19, 20, 21, 22, 23, 24, 25, 26, 27, 28, 29, 30, 31, 32, 33, 34, 35] [0, 1, 2, 3, 4, 5, 6, 7, 8, 9, 10, 11, 12, 13, 14, 15, 16, 17, 18, 19, 20, 21, 22, 23, 24, 25, 26, 27, 28, 29, 30, 31, 32, 33, 34, 35] [0, 1, 2, 3, 4, 5, 6, 7, 8, 9, 10, 11, 13, 14, 12, 15, 16, 17, 18, 19, 20, 21, 22, 23, 24, 25, 26, 27, 28, 29, 31, 30, 32, 33, 34, 35] rfl rfl rfl rfl rfl (by decide) ?_
        refine DJ.val _ rfl rfl (OkV.plain rfl (fun F hF K Kp kk => OpJ.move rfl (hF.ev rfl) kk)) ?_
        refine DJ.val _ rfl rfl (OkV.plain rfl (fun F hF K Kp kk => OpJ.move rfl (hF.ev rfl) kk)) ?_
        refine DJ.val _ rfl rfl (OkV.doG rfl rfl rfl (rfl) (fun F hF K Kp kk => OpJ.move rfl (hF.ev rfl) kk)) ?_
        refine DJ.val _ rfl rfl (OkV.doG rfl rfl rfl (rfl) (fun F hF K Kp kk => OpJ.move rfl (hF.ev rfl) kk)) ?_
        refine DJ.val _ rfl rfl (OkV.doG rfl rfl rfl (rfl) (fun F hF K Kp kk => OpJ.move rfl (hF.ev rfl) kk)) ?_
        refine DJ.val _ rfl rfl (OkV.doG rfl rfl rfl (rfl) (fun F hF K Kp kk => OpJ.fieldAddrV 2 rfl Tryz.underlying42 rfl ti25 (by decide) (hF.ev rfl) rfl kk)) ?_
        refine DJ.val _ rfl rfl (OkV.doG rfl rfl rfl (rfl) (fun F hF K Kp kk => OpJ.load rfl Tryz.underlying25 rfl (hF.ev rfl) rfl rfl (rfl) kk)) ?_
        refine DJ.val _ rfl rfl (OkV.doG rfl rfl rfl (rfl) (fun F hF K Kp kk => OpJ.binI rfl (hF.ev rfl) (hF.ev rfl) rfl kk)) ?_
        refine DJ.val _ rfl rfl (OkV.doG rfl rfl rfl (rfl) (fun F hF K Kp kk => OpJ.move rfl (hF.ev rfl) kk)) ?_
        refine DJ.val _ rfl rfl (OkV.doG rfl rfl rfl (by simp) (fun F hF K Kp kk => OpJ.move rfl (hF.ev rfl) kk)) ?_
        refine DJ.val _ rfl rfl (OkV.doG rfl rfl rfl (by simp) (fun F hF K Kp kk => OpJ.fieldAddrV 0 rfl Tryz.underlying42 rfl ti3 (by decide) (hF.ev rfl) rfl kk)) ?_
        refine DJ.val _ rfl rfl (OkV.doG rfl rfl rfl (by simp) (fun F hF K Kp kk => OpJ.load rfl Tryz.underlying3 rfl (hF.ev rfl) rfl rfl (rfl) kk)) ?_
        refine DJ.val _ rfl rfl (OkV.doG rfl rfl rfl (by simp) (fun F hF K Kp kk => OpJ.fieldAddrV 1 rfl Tryz.underlying42 rfl ti3 (by decide) (hF.ev rfl) rfl kk)) ?_
        refine DJ.val _ rfl rfl (OkV.doG rfl rfl rfl (by simp) (fun F hF K Kp kk => OpJ.load rfl Tryz.underlying3 rfl (hF.ev rfl) rfl rfl (rfl) kk)) ?_
        refine DJ.eff rfl rfl rfl ⟨_, rfl, congrArg (fun z => some (Value.bool z)) (by simp)⟩ (fun F hF => OpJ.callM (us := [_]) rfl (hF.ev rfl) (hF.evs rfl) rfl (by first | rfl | exact bytesC_scal _ | exact bookC_scal _ | exact krsC_scal _ | simp [bytesC_scal]) rfl (book_LastE gs _ B2.len k.client _ hn2) (fun v0 c0 hc0 hR => by
          obtain ⟨rfl, rfl⟩ := hR
          refine ⟨_, rfl, ⟨⟨_, rfl, OkV.doG rfl rfl rfl (by simp) (fun F hF K Kp kk => OpJ.load rfl Tryz.underlying3 rfl (hF.ev rfl) rfl rfl (rfl) kk)⟩, ⟨_, rfl, OkV.doG rfl rfl rfl (by simp) (fun F hF K Kp kk => OpJ.fieldAddrV 1 rfl Tryz.underlying42 rfl ti3 (by decide) (hF.ev rfl) rfl kk)⟩, ⟨_, rfl, OkV.doG rfl rfl rfl (by simp) (fun F hF K Kp kk => OpJ.fieldAddrV 0 rfl Tryz.underlying42 rfl ti3 (by decide) (hF.ev rfl) rfl kk)⟩, ⟨_, rfl, OkV.doG rfl rfl rfl (rfl) (fun F hF K Kp kk => OpJ.binI rfl (hF.ev rfl) (hF.ev rfl) rfl kk)⟩, ⟨_, rfl, OkV.doG rfl rfl rfl (rfl) (fun F hF K Kp kk => OpJ.load rfl Tryz.underlying25 rfl (hF.ev rfl) rfl rfl (rfl) kk)⟩, ⟨_, rfl, OkV.doG rfl rfl rfl (rfl) (fun F hF K Kp kk => OpJ.fieldAddrV 2 rfl Tryz.underlying42 rfl ti25 (by decide) (hF.ev rfl) rfl kk)⟩, ⟨_, rfl, OkV.doG rfl rfl rfl (rfl) (fun F hF K Kp kk => OpJ.move rfl (hF.ev rfl) kk)⟩, ⟨_, rfl, OkV.doG rfl rfl rfl (rfl) (fun F hF K Kp kk => OpJ.move rfl (hF.ev rfl) kk)⟩, ⟨_, rfl, OkV.doG rfl rfl rfl (rfl) (fun F hF K Kp kk => OpJ.move rfl (hF.ev rfl) kk)⟩, ⟨_, rfl, OkV.plain rfl (fun F hF K Kp kk => OpJ.move rfl (hF.ev rfl) kk)⟩, ⟨_, rfl, OkV.plain rfl (fun F hF K Kp kk => OpJ.move rfl (hF.ev rfl) kk)⟩, trivial⟩, DJ.norm fun f2 h2 ef eh => ?_⟩
          simp only [pt, List.length_cons, List.length_nil, List.cons_append, List.nil_append, List.set_cons_zero, List.set_cons_succ, wr, Nat.reduceAdd, Nat.reduceMul, Nat.zero_add, Nat.add_zero, List.append_nil, up] at ef eh
          subst ef eh
          refine DJ.val _ rfl rfl (OkV.doG rfl rfl rfl (by simp) (fun F hF K Kp kk => OpJ.binI rfl (hF.ev rfl) (hF.ev rfl) rfl kk)) ?_
          refine DJ.val _ rfl rfl (OkV.doG rfl rfl rfl (rfl) (fun F hF K Kp kk => OpJ.pickF rfl (hF.ev rfl) (by simp) (hF.ev rfl) kk)) ?_
          refine DJ.val _ rfl rfl (OkV.doG rfl rfl rfl (rfl) (fun F hF K Kp kk => OpJ.pickT rfl (hF.ev rfl) (rfl) (hF.ev rfl) kk)) ?_
          refine DJ.val _ rfl rfl (OkV.plain rfl (fun F hF K Kp kk => OpJ.pickF rfl (hF.ev rfl) (rfl) (hF.ev rfl) kk)) ?_
          refine DJ.val _ rfl rfl (OkV.plain rfl (fun F hF K Kp kk => OpJ.move rfl (hF.ev rfl) kk)) ?_
          refine DJ.val _ rfl rfl (OkV.doG rfl rfl rfl (by simp) (fun F hF K Kp kk => OpJ.move rfl (hF.ev rfl) kk)) ?_
          refine DJ.val _ rfl rfl (OkV.doG rfl rfl rfl (by simp) (fun F hF K Kp kk => OpJ.not rfl (hF.ev rfl) kk)) ?_
          refine DJ.val _ rfl rfl (OkV.doG rfl rfl rfl (by simp) (fun F hF K Kp kk => OpJ.move rfl (hF.ev rfl) kk)) ?_
          refine DJ.val _ rfl rfl (OkV.skipG rfl rfl rfl (rfl)) ?_
          refine DJ.val _ rfl rfl (OkV.skipG rfl rfl rfl (rfl)) ?_
          refine DJ.val _ rfl rfl (OkV.skipG rfl rfl rfl (rfl)) ?_
          refine DJ.val _ rfl rfl (OkV.skipG rfl rfl rfl (rfl)) ?_
          refine DJ.val _ rfl rfl (OkV.skipU rfl rfl rfl) ?_
          refine DJ.val _ rfl rfl (OkV.skipU rfl rfl rfl) ?_
          refine DJ.val _ rfl rfl (OkV.skipU rfl rfl rfl) ?_
          refine DJ.val _ rfl rfl (OkV.skipU rfl rfl rfl) ?_
          refine DJ.val _ rfl rfl (OkV.skipU rfl rfl rfl) ?_
          refine DJ.val _ rfl rfl (OkV.skipU rfl rfl rfl) ?_
          refine DJ.val _ rfl rfl (OkV.skipG rfl rfl rfl (rfl)) ?_
          refine DJ.val _ rfl rfl (OkV.doG rfl rfl rfl (by simp) (fun F hF K Kp kk => OpJ.pickF rfl (hF.ev rfl) (rfl) (hF.ev rfl) kk)) ?_
          refine DJ.val _ rfl rfl (OkV.plain rfl (fun F hF K Kp kk => OpJ.pickF rfl (hF.ev rfl) (by simp) (hF.ev rfl) kk)) ?_
          refine DJ.done (fun F hF => ?_)
          refine (thenA.sup hF ?_)
          refine AWP.trim [(0, _), (3, _), (4, _), (122, _)] ⟨rfl, rfl, rfl, rfl, trivial⟩ ?_
          refine AWP.condF rfl rfl ?_
          refine AWP.skip (inBlockA.go (thenA.go ?_))
          refine AWP.trim [(0, _), (3, _), (4, _)] ⟨rfl, rfl, rfl, trivial⟩ ?_
          refine AWP.region rfl ?_
          refine AOps.step rfl (OpJ.move rfl rfl ?_)
          refine AOps.step rfl (OpJ.addI rfl rfl rfl (⟨by omega, by omega⟩) ?_)
          refine AOps.step rfl (OpJ.assign rfl rfl ?_)
          refine AOps.done (thenA.go ?_)
          refine ⟨l0.length - (i + 1), [(0, FZ 3 l0.length (krsC l0)), (3, .pointer (some ⟨0, 0, none⟩)), (4, .int .i64 (i + 1 : Nat))], [⟨bookC (keepS b k.client k.seq k.err), .w, 1⟩], by omega, Wk.ofC [some (0, 0)] ⟨⟨_, rfl, BE.same rfl (bookC_scal _)⟩, trivial⟩ rfl rfl ⟨⟨_, rfl, .same rfl⟩, ⟨_, rfl, RV.ptrK rfl⟩, ⟨_, rfl, ?_⟩, trivial⟩, i + 1, _, rfl, B2, by omega, rfl, rfl⟩
          exact RV.same rfl))
      · skip
        refine AWP.skip (thenA.go ?_)
        refine AWP.trim [(0, _), (3, _), (4, _)] ⟨rfl, rfl, rfl, trivial⟩ ?_
        refine AWP.seq ?_
        refine AWP.block ?_
        refine AWP.seq ?_
        refine AWP.region rfl ?_
        refine AOps.step rfl (OpJ.move rfl rfl ?_)
        refine AOps.step rfl (OpJ.move rfl rfl ?_)
        refine AOps.step rfl (OpJ.indexFZ (.int .i64 k.client :: .int .i64 k.seq :: .int .i64 k.err :: krsC (l0.drop (i + 1))) rfl Tryz.underlying38 ti42 rfl rfl (by omega) (by omega) (krsC_cut hk hdr) ?_)
        refine AOps.step rfl (OpJ.loadAggPZ (us := [.int .i64 k.client, .int .i64 k.seq, .int .i64 k.err]) rfl Tryz.underlying42 rfl ti42 rfl (rfl) (rfl) (rfl) ?_)
        refine AOps.step rfl (OpJ.alloc 1 rfl ti42 rfl rfl (kn2 fun f2 h2 ef eh => ?_))
        simp only [pt, List.length_cons, List.length_nil, List.cons_append, List.nil_append, List.set_cons_zero, List.set_cons_succ, wr, Nat.reduceAdd, Nat.reduceMul, Nat.zero_add, Nat.add_zero] at ef eh
        subst ef eh
        refine AOps.step rfl (OpJ.store (vs := [_, _, _]) rfl ti42 rfl rfl rfl rfl (rfl) rfl rfl (Nat.le_of_ble_eq_true rfl) (kn2 fun f2 h2 ef eh => ?_))
        simp only [pt, List.length_cons, List.length_nil, List.cons_append, List.nil_append, List.set_cons_zero, List.set_cons_succ, wr, Nat.reduceAdd, Nat.reduceMul, Nat.zero_add, Nat.add_zero] at ef eh
        subst ef eh
        refine AOps.done (thenA.go ?_)
        refine AWP.trim [(0, _), (3, _), (4, _), (5, _)] ⟨rfl, rfl, rfl, rfl, trivial⟩ ?_
        refine AWP.seq ?_
        refine AWP.region rfl ?_
        refine AOps.step rfl (OpJ.move rfl rfl ?_)
        refine AOps.step rfl (OpJ.fieldAddrV 0 rfl Tryz.underlying42 rfl ti3 (by decide) rfl rfl ?_)
        refine AOps.step rfl (OpJ.load rfl Tryz.underlying3 rfl rfl rfl rfl (rfl) ?_)
        refine AOps.step rfl (OpJ.callM (us := [_]) rfl rfl rfl rfl (by first | rfl | exact bytesC_scal _ | exact bookC_scal _ | exact krsC_scal _ | simp [bytesC_scal]) rfl (book_LastE gs b B.len k.client _ hn) (fun v0 c0 hc0 hR => ?_))
        obtain ⟨rfl, rfl⟩ := hR
        refine kn2 fun f2 h2 ef eh => ?_
        simp only [pt, List.length_cons, List.length_nil, List.cons_append, List.nil_append, List.set_cons_zero, List.set_cons_succ, wr, Nat.reduceAdd, Nat.reduceMul, Nat.zero_add, Nat.add_zero, List.append_nil, up] at ef eh
        subst ef eh
        refine AOps.step rfl (OpJ.assign rfl rfl ?_)
        refine AOps.done (thenA.go ?_)
        refine AWP.trim [(0, _), (3, _), (4, _), (5, _), (6, _)] ⟨rfl, rfl, rfl, rfl, rfl, trivial⟩ ?_
        refine AWP.seq ?_
        refine AWP.region rfl ?_
        refine AOps.step rfl (OpJ.move rfl rfl ?_)
        refine AOps.step rfl (OpJ.fieldAddrV 0 rfl Tryz.underlying42 rfl ti3 (by decide) rfl rfl ?_)
        refine AOps.step rfl (OpJ.load rfl Tryz.underlying3 rfl rfl rfl rfl (rfl) ?_)
        refine AOps.step rfl (OpJ.fieldAddrV 1 rfl Tryz.underlying42 rfl ti3 (by decide) rfl rfl ?_)
        refine AOps.step rfl (OpJ.load rfl Tryz.underlying3 rfl rfl rfl rfl (rfl) ?_)
        refine AOps.step rfl (OpJ.callM (us := [_, _]) rfl rfl rfl rfl (by first | rfl | exact bytesC_scal _ | exact bookC_scal _ | exact krsC_scal _ | simp [bytesC_scal]) rfl (book_AskE gs b B.len k.client k.seq _ _ hS) (fun v0 c0 hc0 hR => ?_))
        obtain ⟨rfl, rfl⟩ := hR
        refine kn2 fun f2 h2 ef eh => ?_
        simp only [pt, List.length_cons, List.length_nil, List.cons_append, List.nil_append, List.set_cons_zero, List.set_cons_succ, wr, Nat.reduceAdd, Nat.reduceMul, Nat.zero_add, Nat.add_zero, List.append_nil, up] at ef eh
        subst ef eh
        refine AOps.step rfl (OpJ.move rfl rfl ?_)
        refine AOps.step rfl (OpJ.extract rfl rfl rfl ?_)
        refine AOps.step rfl (OpJ.extract rfl rfl rfl ?_)
        refine AOps.step rfl (OpJ.assign rfl rfl ?_)
        refine AOps.step rfl (OpJ.assign rfl rfl ?_)
        refine AOps.done (thenA.go ?_)
        refine AWP.trim [(0, _), (3, _), (4, _), (5, _), (6, _), (7, _), (8, _)] ⟨rfl, rfl, rfl, rfl, rfl, rfl, rfl, trivial⟩ ?_
        refine AWP.seq ?_
        refine AWP.seq ?_
        refine AWP.region rfl ?_
        refine AOps.step rfl (OpJ.move rfl rfl ?_)
        refine AOps.step rfl (OpJ.fieldAddrV 0 rfl Tryz.underlying42 rfl ti3 (by decide) rfl rfl ?_)
        refine AOps.step rfl (OpJ.load rfl Tryz.underlying3 rfl rfl rfl rfl (rfl) ?_)
        refine AOps.step rfl (OpJ.binI rfl rfl rfl rfl ?_)
        refine AOps.step rfl (OpJ.move rfl rfl ?_)
        refine AOps.skipG rfl rfl rfl (by simp; omega) ?_
        refine AOps.skipG rfl rfl rfl (by simp; omega) ?_
        refine AOps.skipG rfl rfl rfl (by simp; omega) ?_
        refine AOps.step rfl (OpJ.pickF rfl rfl (by simp; omega) rfl ?_)
        refine AOps.step rfl (OpJ.move rfl rfl ?_)
        refine AOps.skipG rfl rfl rfl rfl ?_
        refine AOps.skipG rfl rfl rfl rfl ?_
        refine AOps.skipG rfl rfl rfl rfl ?_
        refine AOps.skipG rfl rfl rfl rfl ?_
        refine AOps.step rfl (OpJ.pickF rfl rfl rfl rfl ?_)
        refine AOps.step rfl (OpJ.move rfl rfl ?_)
        refine AOps.skipG rfl rfl rfl rfl ?_
        refine AOps.skipG rfl rfl rfl rfl ?_
        refine AOps.skipG rfl rfl rfl rfl ?_
        refine AOps.step rfl (OpJ.pickF rfl rfl rfl rfl ?_)
        refine AOps.step rfl (OpJ.neB rfl Tryz.underlying4 rfl rfl ?_)
        refine AOps.step rfl (OpJ.move rfl rfl ?_)
        refine AOps.doG rfl rfl rfl (rfl) (OpJ.move rfl rfl ?_)
        refine AOps.doG rfl rfl rfl (rfl) (OpJ.move rfl rfl ?_)
        refine AOps.skipG rfl rfl rfl (rfl) ?_
        refine AOps.skipG rfl rfl rfl (rfl) ?_
        refine AOps.doG rfl rfl rfl (rfl) (OpJ.pickF rfl rfl (rfl) rfl ?_)
        refine AOps.step rfl (OpJ.pickF rfl rfl (rfl) rfl ?_)
        refine AOps.done (thenA.go ?_)
        refine AWP.trim [(0, _), (3, _), (4, _), (5, _), (6, _), (7, _), (8, _), (67, _)] ⟨rfl, rfl, rfl, rfl, rfl, rfl, rfl, rfl, trivial⟩ ?_
        refine AWP.condF rfl rfl ?_
        refine AWP.skip (thenA.go ?_)
        refine AWP.trim [(0, _), (3, _), (4, _), (5, _), (6, _), (7, _), (8, _)] ⟨rfl, rfl, rfl, rfl, rfl, rfl, rfl, trivial⟩ ?_
        refine AWP.seq ?_
        refine AWP.seq ?_
        refine AWP.region rfl ?_
        refine AOps.step rfl (OpJ.move rfl rfl ?_)
        refine AOps.step rfl (OpJ.fieldAddrV 0 rfl Tryz.underlying42 rfl ti3 (by decide) rfl rfl ?_)
        refine AOps.step rfl (OpJ.load rfl Tryz.underlying3 rfl rfl rfl rfl (rfl) ?_)
        refine AOps.step rfl (OpJ.fieldAddrV 1 rfl Tryz.underlying42 rfl ti3 (by decide) rfl rfl ?_)
        refine AOps.step rfl (OpJ.load rfl Tryz.underlying3 rfl rfl rfl rfl (rfl) ?_)
        refine AOps.step rfl (OpJ.fieldAddrV 2 rfl Tryz.underlying42 rfl ti25 (by decide) rfl rfl ?_)
        refine AOps.step rfl (OpJ.load rfl Tryz.underlying25 rfl rfl rfl rfl (rfl) ?_)
        refine AOps.step rfl (OpJ.callM (us := [_, _, _]) rfl rfl rfl rfl (by first | rfl | exact bytesC_scal _ | exact bookC_scal _ | exact krsC_scal _ | simp [bytesC_scal]) rfl (book_KeepE gs b B.len k.client k.seq k.err _ hK) (fun v0 c0 hc0 hR => ?_))
        obtain ⟨rfl, rfl⟩ := hR
        refine kn2 fun f2 h2 ef eh => ?_
        simp only [pt, List.length_cons, List.length_nil, List.cons_append, List.nil_append, List.set_cons_zero, List.set_cons_succ, wr, Nat.reduceAdd, Nat.reduceMul, Nat.zero_add, Nat.add_zero, List.append_nil, up] at ef eh
        subst ef eh
        refine AOps.step rfl (OpJ.move rfl rfl ?_)
        refine AOps.step rfl (OpJ.neB rfl Tryz.underlying4 rfl rfl ?_)
        refine AOps.done (thenA.go ?_)
        refine AWP.trim [(0, _), (3, _), (4, _), (5, _), (6, _), (7, _), (8, _), (77, _)] ⟨rfl, rfl, rfl, rfl, rfl, rfl, rfl, rfl, trivial⟩ ?_
        refine AWP.condF rfl (rfl) ?_
        refine AWP.skip (thenA.go ?_)
        refine AWP.trim [(0, _), (3, _), (4, _), (5, _), (6, _), (7, _), (8, _)] ⟨rfl, rfl, rfl, rfl, rfl, rfl, rfl, trivial⟩ ?_
        refine AWP.seq ?_
        refine AWP.region rfl ?_
        refine AOps.step rfl (OpJ.move rfl rfl ?_)
        refine AOps.step rfl (OpJ.fieldAddrV 0 rfl Tryz.underlying42 rfl ti3 (by decide) rfl rfl ?_)
        refine AOps.step rfl (OpJ.load rfl Tryz.underlying3 rfl rfl rfl rfl (rfl) ?_)
        refine AOps.step rfl (OpJ.fieldAddrV 1 rfl Tryz.underlying42 rfl ti3 (by decide) rfl rfl ?_)
        refine AOps.step rfl (OpJ.load rfl Tryz.underlying3 rfl rfl rfl rfl (rfl) ?_)
        refine AOps.step rfl (OpJ.callM (us := [_, _]) rfl rfl rfl rfl (by first | rfl | exact bytesC_scal _ | exact bookC_scal _ | exact krsC_scal _ | simp [bytesC_scal]) rfl (book_AskE gs _ B2.len k.client k.seq _ _ hS2) (fun v0 c0 hc0 hR => ?_))
        obtain ⟨rfl, rfl⟩ := hR
        refine kn2 fun f2 h2 ef eh => ?_
        simp only [pt, List.length_cons, List.length_nil, List.cons_append, List.nil_append, List.set_cons_zero, List.set_cons_succ, wr, Nat.reduceAdd, Nat.reduceMul, Nat.zero_add, Nat.add_zero, List.append_nil, up] at ef eh
        subst ef eh
        refine AOps.step rfl (OpJ.move rfl rfl ?_)
        refine AOps.step rfl (OpJ.extract rfl rfl rfl ?_)
        refine AOps.step rfl (OpJ.extract rfl rfl rfl ?_)
        refine AOps.step rfl (OpJ.assign rfl rfl ?_)
        refine AOps.step rfl (OpJ.assign rfl rfl ?_)
        refine AOps.done (thenA.go ?_)
        refine AWP.trim [(0, _), (3, _), (4, _), (5, _), (6, _), (7, _), (8, _), (9, _), (10, _)] ⟨rfl, rfl, rfl, rfl, rfl, rfl, rfl, rfl, rfl, trivial⟩ ?_
        refine AWP.seq ?_
        refine AWP.trim [(0, _), (3, _), (4, _), (5, _), (6, _), (7, _), (8, _), (9, _), (10, _)] ⟨rfl, rfl, rfl, rfl, rfl, rfl, rfl, rfl, rfl, trivial⟩ ?_
        refine AWP.drawn [0, 1, 2, 3, 4, 5, 6, 7, 8, 9, 10, 11, 12, 13, 14, 15, 16, 17, 18, 19, 20, 21, 22, 23, 24, 25, 26, 27, 28, 29, 30, 31, 32, 33, 34, 35] [0, 1, 2, 3, 4, 5, 6, 7, 8, 9, 10, 11, 12, 13, 14, 15, 16, 17, 18, 19, 20, 21, 22, 23, 24, 25, 26, 27, 28, 29, 30, 31, 32, 33, 34, 35] [0, 1, 2, 3, 4, 5, 6, 7, 8, 9, 10, 11, 12, 13, 14, 15, 16, 17, 18, 19, 20, 21, 22, 23, 24, 25, 26, 27, 28, 29, 30, 31, 32, 33, 34, 35] [0, 1, 2, 3, 4, 5, 6, 7, 8, 9, 10, 11, 13, 14, 12, 15, 16, 17, 18, 19, 20, 21, 22, 23, 24, 25, 26, 27, 28, 29, 31, 30, 32, 33, 34, 35] rfl rfl rfl rfl rfl (by decide) ?_
        refine DJ.val _ rfl rfl (OkV.plain rfl (fun F hF K Kp kk => OpJ.move rfl (hF.ev rfl) kk)) ?_
        refine DJ.val _ rfl rfl (OkV.plain rfl (fun F hF K Kp kk => OpJ.move rfl (hF.ev rfl) kk)) ?_
        refine DJ.val _ rfl rfl (OkV.doG rfl rfl rfl (rfl) (fun F hF K Kp kk => OpJ.move rfl (hF.ev rfl) kk)) ?_
        refine DJ.val _ rfl rfl (OkV.doG rfl rfl rfl (rfl) (fun F hF K Kp kk => OpJ.move rfl (hF.ev rfl) kk)) ?_
        refine DJ.val _ rfl rfl (OkV.skipG rfl rfl rfl (rfl)) ?_
        refine DJ.val _ rfl rfl (OkV.skipG rfl rfl rfl (rfl)) ?_
        refine DJ.val _ rfl rfl (OkV.skipG rfl rfl rfl (rfl)) ?_
        refine DJ.val _ rfl rfl (OkV.skipG rfl rfl rfl (rfl)) ?_
        refine DJ.val _ rfl rfl (OkV.skipG rfl rfl rfl (rfl)) ?_
        refine DJ.val _ rfl rfl (OkV.skipU rfl rfl rfl) ?_
        refine DJ.val _ rfl rfl (OkV.skipU rfl rfl rfl) ?_
        refine DJ.val _ rfl rfl (OkV.skipU rfl rfl rfl) ?_
        refine DJ.val _ rfl rfl (OkV.skipU rfl rfl rfl) ?_
        refine DJ.val _ rfl rfl (OkV.skipU rfl rfl rfl) ?_
        refine DJ.val _ rfl rfl (OkV.skipU rfl rfl rfl) ?_
        refine DJ.val _ rfl rfl (OkV.skipU rfl rfl rfl) ?_
        refine DJ.val _ rfl rfl (OkV.skipG rfl rfl rfl (rfl)) ?_
        refine DJ.val _ rfl rfl (OkV.doG rfl rfl rfl (rfl) (fun F hF K Kp kk => OpJ.pickF rfl (hF.ev rfl) (rfl) (hF.ev rfl) kk)) ?_
        refine DJ.val _ rfl rfl (OkV.plain rfl (fun F hF K Kp kk => OpJ.pickF rfl (hF.ev rfl) (rfl) (hF.ev rfl) kk)) ?_
        refine DJ.val _ rfl rfl (OkV.plain rfl (fun F hF K Kp kk => OpJ.move rfl (hF.ev rfl) kk)) ?_
        refine DJ.val _ rfl rfl (OkV.doG rfl rfl rfl rfl (fun F hF K Kp kk => OpJ.move rfl (hF.ev rfl) kk)) ?_
        refine DJ.val _ rfl rfl (OkV.doG rfl rfl rfl rfl (fun F hF K Kp kk => OpJ.not rfl (hF.ev rfl) kk)) ?_
        refine DJ.val _ rfl rfl (OkV.doG rfl rfl rfl rfl (fun F hF K Kp kk => OpJ.move rfl (hF.ev rfl) kk)) ?_
        refine DJ.val _ rfl rfl (OkV.doG rfl rfl rfl (rfl) (fun F hF K Kp kk => OpJ.move rfl (hF.ev rfl) kk)) ?_
        refine DJ.val _ rfl rfl (OkV.doG rfl rfl rfl (rfl) (fun F hF K Kp kk => OpJ.move rfl (hF.ev rfl) kk)) ?_
        refine DJ.val _ rfl rfl (OkV.doG rfl rfl rfl (rfl) (fun F hF K Kp kk => OpJ.binI rfl (hF.ev rfl) (hF.ev rfl) rfl kk)) ?_
        refine DJ.val _ rfl rfl (OkV.doG rfl rfl rfl (rfl) (fun F hF K Kp kk => OpJ.move rfl (hF.ev rfl) kk)) ?_
        refine DJ.val _ rfl rfl (OkV.doG rfl rfl rfl (by simp) (fun F hF K Kp kk => OpJ.move rfl (hF.ev rfl) kk)) ?_
        refine DJ.val _ rfl rfl (OkV.doG rfl rfl rfl (by simp) (fun F hF K Kp kk => OpJ.fieldAddrV 0 rfl Tryz.underlying42 rfl ti3 (by decide) (hF.ev rfl) rfl kk)) ?_
        refine DJ.val _ rfl rfl (OkV.doG rfl rfl rfl (by simp) (fun F hF K Kp kk => OpJ.load rfl Tryz.underlying3 rfl (hF.ev rfl) rfl rfl (rfl) kk)) ?_
        refine DJ.val _ rfl rfl (OkV.doG rfl rfl rfl (by simp) (fun F hF K Kp kk => OpJ.move rfl (hF.ev rfl) kk)) ?_
        refine DJ.eff rfl rfl rfl ⟨_, rfl, congrArg (fun z => some (Value.bool z)) (by simp)⟩ (fun F hF => OpJ.callM (us := [_]) rfl (hF.ev rfl) (hF.evs rfl) rfl (by first | rfl | exact bytesC_scal _ | exact bookC_scal _ | exact krsC_scal _ | simp [bytesC_scal]) rfl (book_LastE gs _ B2.len k.client _ hn2) (fun v0 c0 hc0 hR => by
          obtain ⟨rfl, rfl⟩ := hR
          refine ⟨_, rfl, ⟨⟨_, rfl, OkV.doG rfl rfl rfl (by simp) (fun F hF K Kp kk => OpJ.move rfl (hF.ev rfl) kk)⟩, ⟨_, rfl, OkV.doG rfl rfl rfl (by simp) (fun F hF K Kp kk => OpJ.fieldAddrV 0 rfl Tryz.underlying42 rfl ti3 (by decide) (hF.ev rfl) rfl kk)⟩, ⟨_, rfl, OkV.doG rfl rfl rfl (rfl) (fun F hF K Kp kk => OpJ.binI rfl (hF.ev rfl) (hF.ev rfl) rfl kk)⟩, ⟨_, rfl, OkV.doG rfl rfl rfl (rfl) (fun F hF K Kp kk => OpJ.move rfl (hF.ev rfl) kk)⟩, ⟨_, rfl, OkV.doG rfl rfl rfl (rfl) (fun F hF K Kp kk => OpJ.move rfl (hF.ev rfl) kk)⟩, ⟨_, rfl, OkV.doG rfl rfl rfl rfl (fun F hF K Kp kk => OpJ.move rfl (hF.ev rfl) kk)⟩, ⟨_, rfl, OkV.doG rfl rfl rfl rfl (fun F hF K Kp kk => OpJ.not rfl (hF.ev rfl) kk)⟩, ⟨_, rfl, OkV.doG rfl rfl rfl rfl (fun F hF K Kp kk => OpJ.move rfl (hF.ev rfl) kk)⟩, ⟨_, rfl, OkV.plain rfl (fun F hF K Kp kk => OpJ.move rfl (hF.ev rfl) kk)⟩, ⟨_, rfl, OkV.plain rfl (fun F hF K Kp kk => OpJ.pickF rfl (hF.ev rfl) (rfl) (hF.ev rfl) kk)⟩, ⟨_, rfl, OkV.doG rfl rfl rfl (rfl) (fun F hF K Kp kk => OpJ.pickF rfl (hF.ev rfl) (rfl) (hF.ev rfl) kk)⟩, ⟨_, rfl, OkV.skipG rfl rfl rfl (rfl)⟩, ⟨_, rfl, OkV.skipU rfl rfl rfl⟩, ⟨_, rfl, OkV.skipU rfl rfl rfl⟩, ⟨_, rfl, OkV.skipU rfl rfl rfl⟩, ⟨_, rfl, OkV.skipU rfl rfl rfl⟩, ⟨_, rfl, OkV.skipU rfl rfl rfl⟩, ⟨_, rfl, OkV.skipU rfl rfl rfl⟩, ⟨_, rfl, OkV.skipU rfl rfl rfl⟩, ⟨_, rfl, OkV.skipG rfl rfl rfl (rfl)⟩, ⟨_, rfl, OkV.skipG rfl rfl rfl (rfl)⟩, ⟨_, rfl, OkV.skipG rfl rfl rfl (rfl)⟩, ⟨_, rfl, OkV.skipG rfl rfl rfl (rfl)⟩, ⟨_, rfl, OkV.skipG rfl rfl rfl (rfl)⟩, ⟨_, rfl, OkV.doG rfl rfl rfl (rfl) (fun F hF K Kp kk => OpJ.move rfl (hF.ev rfl) kk)⟩, ⟨_, rfl, OkV.doG rfl rfl rfl (rfl) (fun F hF K Kp kk => OpJ.move rfl (hF.ev rfl) kk)⟩, ⟨_, rfl, OkV.plain rfl (fun F hF K Kp kk => OpJ.move rfl (hF.ev rfl) kk)⟩, ⟨_, rfl, OkV.plain rfl (fun F hF K Kp kk => OpJ.move rfl (hF.ev rfl) kk)⟩, trivial⟩, DJ.norm fun f2 h2 ef eh => ?_⟩
          simp only [pt, List.length_cons, List.length_nil, List.cons_append, List.nil_append, List.set_cons_zero, List.set_cons_succ, wr, Nat.reduceAdd, Nat.reduceMul, Nat.zero_add, Nat.add_zero, List.append_nil, up] at ef eh
          subst ef eh
          refine DJ.val _ rfl rfl (OkV.doG rfl rfl rfl (by simp) (fun F hF K Kp kk => OpJ.binI rfl (hF.ev rfl) (hF.ev rfl) rfl kk)) ?_
          refine DJ.val _ rfl rfl (OkV.doG rfl rfl rfl (rfl) (fun F hF K Kp kk => OpJ.pickF rfl (hF.ev rfl) (by simp) (hF.ev rfl) kk)) ?_
          refine DJ.val _ rfl rfl (OkV.doG rfl rfl rfl rfl (fun F hF K Kp kk => OpJ.pickT rfl (hF.ev rfl) (rfl) (hF.ev rfl) kk)) ?_
          refine DJ.val _ rfl rfl (OkV.plain rfl (fun F hF K Kp kk => OpJ.pickF rfl (hF.ev rfl) rfl (hF.ev rfl) kk)) ?_
          refine DJ.done (fun F hF => ?_)
          refine (thenA.sup hF ?_)
          refine AWP.trim [(0, _), (3, _), (4, _), (122, _)] ⟨rfl, rfl, rfl, rfl, trivial⟩ ?_
          refine AWP.condF rfl (by simp) ?_
          refine AWP.skip (inBlockA.go (thenA.go ?_))
          refine AWP.trim [(0, _), (3, _), (4, _)] ⟨rfl, rfl, rfl, trivial⟩ ?_
          refine AWP.region rfl ?_
          refine AOps.step rfl (OpJ.move rfl rfl ?_)
          refine AOps.step rfl (OpJ.addI rfl rfl rfl (⟨by omega, by omega⟩) ?_)
          refine AOps.step rfl (OpJ.assign rfl rfl ?_)
          refine AOps.done (thenA.go ?_)
          refine ⟨l0.length - (i + 1), [(0, FZ 3 l0.length (krsC l0)), (3, .pointer (some ⟨0, 0, none⟩)), (4, .int .i64 (i + 1 : Nat))], [⟨bookC (keepS b k.client k.seq k.err), .w, 1⟩], by omega, Wk.ofC [some (0, 0)] ⟨⟨_, rfl, BE.same rfl (bookC_scal _)⟩, trivial⟩ rfl rfl ⟨⟨_, rfl, .same rfl⟩, ⟨_, rfl, RV.ptrK rfl⟩, ⟨_, rfl, ?_⟩, trivial⟩, i + 1, _, rfl, B2, by omega, rfl, rfl⟩
          exact RV.same rfl))
      · skip
        refine AWP.skip (thenA.go ?_)
        refine AWP.trim [(0, _), (3, _), (4, _)] ⟨rfl, rfl, rfl, trivial⟩ ?_
        refine AWP.seq ?_
        refine AWP.block ?_
        refine AWP.seq ?_
        refine AWP.region rfl ?_
        refine AOps.step rfl (OpJ.move rfl rfl ?_)
        refine AOps.step rfl (OpJ.move rfl rfl ?_)
        refine AOps.step rfl (OpJ.indexFZ (.int .i64 k.client :: .int .i64 k.seq :: .int .i64 k.err :: krsC (l0.drop (i + 1))) rfl Tryz.underlying38 ti42 rfl rfl (by omega) (by omega) (krsC_cut hk hdr) ?_)
        refine AOps.step rfl (OpJ.loadAggPZ (us := [.int .i64 k.client, .int .i64 k.seq, .int .i64 k.err]) rfl Tryz.underlying42 rfl ti42 rfl (rfl) (rfl) (rfl) ?_)
        refine AOps.step rfl (OpJ.alloc 1 rfl ti42 rfl rfl (kn2 fun f2 h2 ef eh => ?_))
        simp only [pt, List.length_cons, List.length_nil, List.cons_append, List.nil_append, List.set_cons_zero, List.set_cons_succ, wr, Nat.reduceAdd, Nat.reduceMul, Nat.zero_add, Nat.add_zero] at ef eh
        subst ef eh
        refine AOps.step rfl (OpJ.store (vs := [_, _, _]) rfl ti42 rfl rfl rfl rfl (rfl) rfl rfl (Nat.le_of_ble_eq_true rfl) (kn2 fun f2 h2 ef eh => ?_))
        simp only [pt, List.length_cons, List.length_nil, List.cons_append, List.nil_append, List.set_cons_zero, List.set_cons_succ, wr, Nat.reduceAdd, Nat.reduceMul, Nat.zero_add, Nat.add_zero] at ef eh
        subst ef eh
        refine AOps.done (thenA.go ?_)
        refine AWP.trim [(0, _), (3, _), (4, _), (5, _)] ⟨rfl, rfl, rfl, rfl, trivial⟩ ?_
        refine AWP.seq ?_
        refine AWP.region rfl ?_
        refine AOps.step rfl (OpJ.move rfl rfl ?_)
        refine AOps.step rfl (OpJ.fieldAddrV 0 rfl Tryz.underlying42 rfl ti3 (by decide) rfl rfl ?_)
        refine AOps.step rfl (OpJ.load rfl Tryz.underlying3 rfl rfl rfl rfl (rfl) ?_)
        refine AOps.step rfl (OpJ.callM (us := [_]) rfl rfl rfl rfl (by first | rfl | exact bytesC_scal _ | exact bookC_scal _ | exact krsC_scal _ | simp [bytesC_scal]) rfl (book_LastE gs b B.len k.client _ hn) (fun v0 c0 hc0 hR => ?_))
        obtain ⟨rfl, rfl⟩ := hR
        refine kn2 fun f2 h2 ef eh => ?_
        simp only [pt, List.length_cons, List.length_nil, List.cons_append, List.nil_append, List.set_cons_zero, List.set_cons_succ, wr, Nat.reduceAdd, Nat.reduceMul, Nat.zero_add, Nat.add_zero, List.append_nil, up] at ef eh
        subst ef eh
        refine AOps.step rfl (OpJ.assign rfl rfl ?_)
        refine AOps.done (thenA.go ?_)
        refine AWP.trim [(0, _), (3, _), (4, _), (5, _), (6, _)] ⟨rfl, rfl, rfl, rfl, rfl, trivial⟩ ?_
        refine AWP.seq ?_
        refine AWP.region rfl ?_
        refine AOps.step rfl (OpJ.move rfl rfl ?_)
        refine AOps.step rfl (OpJ.fieldAddrV 0 rfl Tryz.underlying42 rfl ti3 (by decide) rfl rfl ?_)
        refine AOps.step rfl (OpJ.load rfl Tryz.underlying3 rfl rfl rfl rfl (rfl) ?_)
        refine AOps.step rfl (OpJ.fieldAddrV 1 rfl Tryz.underlying42 rfl ti3 (by decide) rfl rfl ?_)
        refine AOps.step rfl (OpJ.load rfl Tryz.underlying3 rfl rfl rfl rfl (rfl) ?_)
        refine AOps.step rfl (OpJ.callM (us := [_, _]) rfl rfl rfl rfl (by first | rfl | exact bytesC_scal _ | exact bookC_scal _ | exact krsC_scal _ | simp [bytesC_scal]) rfl (book_AskE gs b B.len k.client k.seq _ _ hS) (fun v0 c0 hc0 hR => ?_))
        obtain ⟨rfl, rfl⟩ := hR
        refine kn2 fun f2 h2 ef eh => ?_
        simp only [pt, List.length_cons, List.length_nil, List.cons_append, List.nil_append, List.set_cons_zero, List.set_cons_succ, wr, Nat.reduceAdd, Nat.reduceMul, Nat.zero_add, Nat.add_zero, List.append_nil, up] at ef eh
        subst ef eh
        refine AOps.step rfl (OpJ.move rfl rfl ?_)
        refine AOps.step rfl (OpJ.extract rfl rfl rfl ?_)
        refine AOps.step rfl (OpJ.extract rfl rfl rfl ?_)
        refine AOps.step rfl (OpJ.assign rfl rfl ?_)
        refine AOps.step rfl (OpJ.assign rfl rfl ?_)
        refine AOps.done (thenA.go ?_)
        refine AWP.trim [(0, _), (3, _), (4, _), (5, _), (6, _), (7, _), (8, _)] ⟨rfl, rfl, rfl, rfl, rfl, rfl, rfl, trivial⟩ ?_
        refine AWP.seq ?_
        refine AWP.seq ?_
        refine AWP.region rfl ?_
        refine AOps.step rfl (OpJ.move rfl rfl ?_)
        refine AOps.step rfl (OpJ.fieldAddrV 0 rfl Tryz.underlying42 rfl ti3 (by decide) rfl rfl ?_)
        refine AOps.step rfl (OpJ.load rfl Tryz.underlying3 rfl rfl rfl rfl (rfl) ?_)
        refine AOps.step rfl (OpJ.binI rfl rfl rfl rfl ?_)
        refine AOps.step rfl (OpJ.move rfl rfl ?_)
        refine AOps.doG rfl rfl rfl (by simp; omega) (OpJ.fieldAddrV 0 rfl Tryz.underlying42 rfl ti3 (by decide) rfl rfl ?_)
        refine AOps.doG rfl rfl rfl (by simp; omega) (OpJ.load rfl Tryz.underlying3 rfl rfl rfl rfl (rfl) ?_)
        refine AOps.doG rfl rfl rfl (by simp; omega) (OpJ.binI rfl rfl rfl rfl ?_)
        refine AOps.step rfl (OpJ.pickT rfl rfl (by simp; omega) rfl ?_)
        refine AOps.step rfl (OpJ.move rfl rfl ?_)
        refine AOps.skipG rfl rfl rfl (by simp; omega) ?_
        refine AOps.skipG rfl rfl rfl (by simp; omega) ?_
        refine AOps.skipG rfl rfl rfl (by simp; omega) ?_
        refine AOps.skipG rfl rfl rfl (by simp; omega) ?_
        refine AOps.step rfl (OpJ.pickF rfl rfl (by simp; omega) rfl ?_)
        refine AOps.step rfl (OpJ.move rfl rfl ?_)
        refine AOps.skipG rfl rfl rfl rfl ?_
        refine AOps.skipG rfl rfl rfl rfl ?_
        refine AOps.skipG rfl rfl rfl rfl ?_
        refine AOps.step rfl (OpJ.pickF rfl rfl rfl rfl ?_)
        refine AOps.step rfl (OpJ.neB rfl Tryz.underlying4 rfl rfl ?_)
        refine AOps.step rfl (OpJ.move rfl rfl ?_)
        refine AOps.doG rfl rfl rfl (rfl) (OpJ.move rfl rfl ?_)
        refine AOps.doG rfl rfl rfl (rfl) (OpJ.move rfl rfl ?_)
        refine AOps.skipG rfl rfl rfl (rfl) ?_
        refine AOps.skipG rfl rfl rfl (rfl) ?_
        refine AOps.doG rfl rfl rfl (rfl) (OpJ.pickF rfl rfl (rfl) rfl ?_)
        refine AOps.step rfl (OpJ.pickF rfl rfl (rfl) rfl ?_)
        refine AOps.done (thenA.go ?_)
        refine AWP.trim [(0, _), (3, _), (4, _), (5, _), (6, _), (7, _), (8, _), (67, _)] ⟨rfl, rfl, rfl, rfl, rfl, rfl, rfl, rfl, trivial⟩ ?_
        refine AWP.condF rfl rfl ?_
        refine AWP.skip (thenA.go ?_)
        refine AWP.trim [(0, _), (3, _), (4, _), (5, _), (6, _), (7, _), (8, _)] ⟨rfl, rfl, rfl, rfl, rfl, rfl, rfl, trivial⟩ ?_
        refine AWP.seq ?_
        refine AWP.seq ?_
        refine AWP.region rfl ?_
        refine AOps.step rfl (OpJ.move rfl rfl ?_)
        refine AOps.step rfl (OpJ.fieldAddrV 0 rfl Tryz.underlying42 rfl ti3 (by decide) rfl rfl ?_)
        refine AOps.step rfl (OpJ.load rfl Tryz.underlying3 rfl rfl rfl rfl (rfl) ?_)
        refine AOps.step rfl (OpJ.fieldAddrV 1 rfl Tryz.underlying42 rfl ti3 (by decide) rfl rfl ?_)
        refine AOps.step rfl (OpJ.load rfl Tryz.underlying3 rfl rfl rfl rfl (rfl) ?_)
        refine AOps.step rfl (OpJ.fieldAddrV 2 rfl Tryz.underlying42 rfl ti25 (by decide) rfl rfl ?_)
        refine AOps.step rfl (OpJ.load rfl Tryz.underlying25 rfl rfl rfl rfl (rfl) ?_)
        refine AOps.step rfl (OpJ.callM (us := [_, _, _]) rfl rfl rfl rfl (by first | rfl | exact bytesC_scal _ | exact bookC_scal _ | exact krsC_scal _ | simp [bytesC_scal]) rfl (book_KeepE gs b B.len k.client k.seq k.err _ hK) (fun v0 c0 hc0 hR => ?_))
        obtain ⟨rfl, rfl⟩ := hR
        refine kn2 fun f2 h2 ef eh => ?_
        simp only [pt, List.length_cons, List.length_nil, List.cons_append, List.nil_append, List.set_cons_zero, List.set_cons_succ, wr, Nat.reduceAdd, Nat.reduceMul, Nat.zero_add, Nat.add_zero, List.append_nil, up] at ef eh
        subst ef eh
        refine AOps.step rfl (OpJ.move rfl rfl ?_)
        refine AOps.step rfl (OpJ.neB rfl Tryz.underlying4 rfl rfl ?_)
        refine AOps.done (thenA.go ?_)
        refine AWP.trim [(0, _), (3, _), (4, _), (5, _), (6, _), (7, _), (8, _), (77, _)] ⟨rfl, rfl, rfl, rfl, rfl, rfl, rfl, rfl, trivial⟩ ?_
        refine AWP.condF rfl (rfl) ?_
        refine AWP.skip (thenA.go ?_)
        refine AWP.trim [(0, _), (3, _), (4, _), (5, _), (6, _), (7, _), (8, _)] ⟨rfl, rfl, rfl, rfl, rfl, rfl, rfl, trivial⟩ ?_
        refine AWP.seq ?_
        refine AWP.region rfl ?_
        refine AOps.step rfl (OpJ.move rfl rfl ?_)
        refine AOps.step rfl (OpJ.fieldAddrV 0 rfl Tryz.underlying42 rfl ti3 (by decide) rfl rfl ?_)
        refine AOps.step rfl (OpJ.load rfl Tryz.underlying3 rfl rfl rfl rfl (rfl) ?_)
        refine AOps.step rfl (OpJ.fieldAddrV 1 rfl Tryz.underlying42 rfl ti3 (by decide) rfl rfl ?_)
        refine AOps.step rfl (OpJ.load rfl Tryz.underlying3 rfl rfl rfl rfl (rfl) ?_)
        refine AOps.step rfl (OpJ.callM (us := [_, _]) rfl rfl rfl rfl (by first | rfl | exact bytesC_scal _ | exact bookC_scal _ | exact krsC_scal _ | simp [bytesC_scal]) rfl (book_AskE gs _ B2.len k.client k.seq _ _ hS2) (fun v0 c0 hc0 hR => ?_))
        obtain ⟨rfl, rfl⟩ := hR
        refine kn2 fun f2 h2 ef eh => ?_
        simp only [pt, List.length_cons, List.length_nil, List.cons_append, List.nil_append, List.set_cons_zero, List.set_cons_succ, wr, Nat.reduceAdd, Nat.reduceMul, Nat.zero_add, Nat.add_zero, List.append_nil, up] at ef eh
        subst ef eh
        refine AOps.step rfl (OpJ.move rfl rfl ?_)
        refine AOps.step rfl (OpJ.extract rfl rfl rfl ?_)
        refine AOps.step rfl (OpJ.extract rfl rfl rfl ?_)
        refine AOps.step rfl (OpJ.assign rfl rfl ?_)
        refine AOps.step rfl (OpJ.assign rfl rfl ?_)
        refine AOps.done (thenA.go ?_)
        refine AWP.trim [(0, _), (3, _), (4, _), (5, _), (6, _), (7, _), (8, _), (9, _), (10, _)] ⟨rfl, rfl, rfl, rfl, rfl, rfl, rfl, rfl, rfl, trivial⟩ ?_
        refine AWP.seq ?_
        refine AWP.trim [(0, _), (3, _), (4, _), (5, _), (6, _), (7, _), (8, _), (9, _), (10, _)] ⟨rfl, rfl, rfl, rfl, rfl, rfl, rfl, rfl, rfl, trivial⟩ ?_
        refine AWP.drawn [0, 1, 2, 3, 4, 5, 6, 7, 8, 9, 10, 11, 12, 13, 14, 15, 16, 17, 18, 19, 20, 21, 22, 23, 24, 25, 26, 27, 28, 29, 30, 31, 32, 33, 34, 35] [0, 1, 2, 3, 4, 5, 6, 7, 8, 9, 10, 11, 12, 13, 14, 15, 16, 17, 18, 19, 20, 21, 22, 23, 24, 25, 26, 27, 28, 29, 30, 31, 32, 33, 34, 35] [0, 1, 2, 3, 4, 5, 6, 7, 8, 9, 10, 11, 12, 13, 14, 15, 16, 17, 18, 19, 20, 21, 22, 23, 24, 25, 26, 27, 28, 29, 30, 31, 32, 33, 34, 35] [0, 1, 2, 3, 4, 5, 6, 7, 8, 9, 10, 11, 13, 14, 12, 15, 16, 17, 18, 19, 20, 21, 22, 23, 24, 25, 26, 27, 28, 29, 31, 30, 32, 33, 34, 35] rfl rfl rfl rfl rfl (by decide) ?_
        refine DJ.val _ rfl rfl (OkV.plain rfl (fun F hF K Kp kk => OpJ.move rfl (hF.ev rfl) kk)) ?_
        refine DJ.val _ rfl rfl (OkV.plain rfl (fun F hF K Kp kk => OpJ.move rfl (hF.ev rfl) kk)) ?_
        refine DJ.val _ rfl rfl (OkV.doG rfl rfl rfl (rfl) (fun F hF K Kp kk => OpJ.move rfl (hF.ev rfl) kk)) ?_
        refine DJ.val _ rfl rfl (OkV.doG rfl rfl rfl (rfl) (fun F hF K Kp kk => OpJ.move rfl (hF.ev rfl) kk)) ?_
        refine DJ.val _ rfl rfl (OkV.skipG rfl rfl rfl (rfl)) ?_
        refine DJ.val _ rfl rfl (OkV.skipG rfl rfl rfl (rfl)) ?_
        refine DJ.val _ rfl rfl (OkV.skipG rfl rfl rfl (rfl)) ?_
        refine DJ.val _ rfl rfl (OkV.skipG rfl rfl rfl (rfl)) ?_
        refine DJ.val _ rfl rfl (OkV.skipG rfl rfl rfl (rfl)) ?_
        refine DJ.val _ rfl rfl (OkV.skipU rfl rfl rfl) ?_
        refine DJ.val _ rfl rfl (OkV.skipU rfl rfl rfl) ?_
        refine DJ.val _ rfl rfl (OkV.skipU rfl rfl rfl) ?_
        refine DJ.val _ rfl rfl (OkV.skipU rfl rfl rfl) ?_
        refine DJ.val _ rfl rfl (OkV.skipU rfl rfl rfl) ?_
        refine DJ.val _ rfl rfl (OkV.skipU rfl rfl rfl) ?_
        refine DJ.val _ rfl rfl (OkV.skipU rfl rfl rfl) ?_
        refine DJ.val _ rfl rfl (OkV.skipG rfl rfl rfl (rfl)) ?_
        refine DJ.val _ rfl rfl (OkV.doG rfl rfl rfl (rfl) (fun F hF K Kp kk => OpJ.pickF rfl (hF.ev rfl) (rfl) (hF.ev rfl) kk)) ?_
        refine DJ.val _ rfl rfl (OkV.plain rfl (fun F hF K Kp kk => OpJ.pickF rfl (hF.ev rfl) (rfl) (hF.ev rfl) kk)) ?_
        refine DJ.val _ rfl rfl (OkV.plain rfl (fun F hF K Kp kk => OpJ.move rfl (hF.ev rfl) kk)) ?_
        refine DJ.val _ rfl rfl (OkV.doG rfl rfl rfl rfl (fun F hF K Kp kk => OpJ.move rfl (hF.ev rfl) kk)) ?_
        refine DJ.val _ rfl rfl (OkV.doG rfl rfl rfl rfl (fun F hF K Kp kk => OpJ.not rfl (hF.ev rfl) kk)) ?_
        refine DJ.val _ rfl rfl (OkV.doG rfl rfl rfl rfl (fun F hF K Kp kk => OpJ.move rfl (hF.ev rfl) kk)) ?_
        refine DJ.val _ rfl rfl (OkV.doG rfl rfl rfl (rfl) (fun F hF K Kp kk => OpJ.move rfl (hF.ev rfl) kk)) ?_
        refine DJ.val _ rfl rfl (OkV.doG rfl rfl rfl (rfl) (fun F hF K Kp kk => OpJ.move rfl (hF.ev rfl) kk)) ?_
        refine DJ.val _ rfl rfl (OkV.doG rfl rfl rfl (rfl) (fun F hF K Kp kk => OpJ.binI rfl (hF.ev rfl) (hF.ev rfl) rfl kk)) ?_
        refine DJ.val _ rfl rfl (OkV.doG rfl rfl rfl (rfl) (fun F hF K Kp kk => OpJ.move rfl (hF.ev rfl) kk)) ?_
        refine DJ.val _ rfl rfl (OkV.doG rfl rfl rfl (by simp) (fun F hF K Kp kk => OpJ.move rfl (hF.ev rfl) kk)) ?_
        refine DJ.val _ rfl rfl (OkV.doG rfl rfl rfl (by simp) (fun F hF K Kp kk => OpJ.fieldAddrV 0 rfl Tryz.underlying42 rfl ti3 (by decide) (hF.ev rfl) rfl kk)) ?_
        refine DJ.val _ rfl rfl (OkV.doG rfl rfl rfl (by simp) (fun F hF K Kp kk => OpJ.load rfl Tryz.underlying3 rfl (hF.ev rfl) rfl rfl (rfl) kk)) ?_
        refine DJ.val _ rfl rfl (OkV.doG rfl rfl rfl (by simp) (fun F hF K Kp kk => OpJ.move rfl (hF.ev rfl) kk)) ?_
        refine DJ.eff rfl rfl rfl ⟨_, rfl, congrArg (fun z => some (Value.bool z)) (by simp)⟩ (fun F hF => OpJ.callM (us := [_]) rfl (hF.ev rfl) (hF.evs rfl) rfl (by first | rfl | exact bytesC_scal _ | exact bookC_scal _ | exact krsC_scal _ | simp [bytesC_scal]) rfl (book_LastE gs _ B2.len k.client _ hn2) (fun v0 c0 hc0 hR => by
          obtain ⟨rfl, rfl⟩ := hR
          refine ⟨_, rfl, ⟨⟨_, rfl, OkV.doG rfl rfl rfl (by simp) (fun F hF K Kp kk => OpJ.move rfl (hF.ev rfl) kk)⟩, ⟨_, rfl, OkV.doG rfl rfl rfl (by simp) (fun F hF K Kp kk => OpJ.fieldAddrV 0 rfl Tryz.underlying42 rfl ti3 (by decide) (hF.ev rfl) rfl kk)⟩, ⟨_, rfl, OkV.doG rfl rfl rfl (rfl) (fun F hF K Kp kk => OpJ.binI rfl (hF.ev rfl) (hF.ev rfl) rfl kk)⟩, ⟨_, rfl, OkV.doG rfl rfl rfl (rfl) (fun F hF K Kp kk => OpJ.move rfl (hF.ev rfl) kk)⟩, ⟨_, rfl, OkV.doG rfl rfl rfl (rfl) (fun F hF K Kp kk => OpJ.move rfl (hF.ev rfl) kk)⟩, ⟨_, rfl, OkV.doG rfl rfl rfl rfl (fun F hF K Kp kk => OpJ.move rfl (hF.ev rfl) kk)⟩, ⟨_, rfl, OkV.doG rfl rfl rfl rfl (fun F hF K Kp kk => OpJ.not rfl (hF.ev rfl) kk)⟩, ⟨_, rfl, OkV.doG rfl rfl rfl rfl (fun F hF K Kp kk => OpJ.move rfl (hF.ev rfl) kk)⟩, ⟨_, rfl, OkV.plain rfl (fun F hF K Kp kk => OpJ.move rfl (hF.ev rfl) kk)⟩, ⟨_, rfl, OkV.plain rfl (fun F hF K Kp kk => OpJ.pickF rfl (hF.ev rfl) (rfl) (hF.ev rfl) kk)⟩, ⟨_, rfl, OkV.doG rfl rfl rfl (rfl) (fun F hF K Kp kk => OpJ.pickF rfl (hF.ev rfl) (rfl) (hF.ev rfl) kk)⟩, ⟨_, rfl, OkV.skipG rfl rfl rfl (rfl)⟩, ⟨_, rfl, OkV.skipU rfl rfl rfl⟩, ⟨_, rfl, OkV.skipU rfl rfl rfl⟩, ⟨_, rfl, OkV.skipU rfl rfl rfl⟩, ⟨_, rfl, OkV.skipU rfl rfl rfl⟩, ⟨_, rfl, OkV.skipU rfl rfl rfl⟩, ⟨_, rfl, OkV.skipU rfl rfl rfl⟩, ⟨_, rfl, OkV.skipU rfl rfl rfl⟩, ⟨_, rfl, OkV.skipG rfl rfl rfl (rfl)⟩, ⟨_, rfl, OkV.skipG rfl rfl rfl (rfl)⟩, ⟨_, rfl, OkV.skipG rfl rfl rfl (rfl)⟩, ⟨_, rfl, OkV.skipG rfl rfl rfl (rfl)⟩, ⟨_, rfl, OkV.skipG rfl rfl rfl (rfl)⟩, ⟨_, rfl, OkV.doG rfl rfl rfl (rfl) (fun F hF K Kp kk => OpJ.move rfl (hF.ev rfl) kk)⟩, ⟨_, rfl, OkV.doG rfl rfl rfl (rfl) (fun F hF K Kp kk => OpJ.move rfl (hF.ev rfl) kk)⟩, ⟨_, rfl, OkV.plain rfl (fun F hF K Kp kk => OpJ.move rfl (hF.ev rfl) kk)⟩, ⟨_, rfl, OkV.plain rfl (fun F hF K Kp kk => OpJ.move rfl (hF.ev rfl) kk)⟩, trivial⟩, DJ.norm fun f2 h2 ef eh => ?_⟩
          simp only [pt, List.length_cons, List.length_nil, List.cons_append, List.nil_append, List.set_cons_zero, List.set_cons_succ, wr, Nat.reduceAdd, Nat.reduceMul, Nat.zero_add, Nat.add_zero, List.append_nil, up] at ef eh
          subst ef eh
          refine DJ.val _ rfl rfl (OkV.doG rfl rfl rfl (by simp) (fun F hF K Kp kk => OpJ.binI rfl (hF.ev rfl) (hF.ev rfl) rfl kk)) ?_
          refine DJ.val _ rfl rfl (OkV.doG rfl rfl rfl (rfl) (fun F hF K Kp kk => OpJ.pickF rfl (hF.ev rfl) (by simp) (hF.ev rfl) kk)) ?_
          refine DJ.val _ rfl rfl (OkV.doG rfl rfl rfl rfl (fun F hF K Kp kk => OpJ.pickT rfl (hF.ev rfl) (rfl) (hF.ev rfl) kk)) ?_
          refine DJ.val _ rfl rfl (OkV.plain rfl (fun F hF K Kp kk => OpJ.pickF rfl (hF.ev rfl) rfl (hF.ev rfl) kk)) ?_
          refine DJ.done (fun F hF => ?_)
          refine (thenA.sup hF ?_)
          refine AWP.trim [(0, _), (3, _), (4, _), (122, _)] ⟨rfl, rfl, rfl, rfl, trivial⟩ ?_
          refine AWP.condF rfl (by simp) ?_
          refine AWP.skip (inBlockA.go (thenA.go ?_))
          refine AWP.trim [(0, _), (3, _), (4, _)] ⟨rfl, rfl, rfl, trivial⟩ ?_
          refine AWP.region rfl ?_
          refine AOps.step rfl (OpJ.move rfl rfl ?_)
          refine AOps.step rfl (OpJ.addI rfl rfl rfl (⟨by omega, by omega⟩) ?_)
          refine AOps.step rfl (OpJ.assign rfl rfl ?_)
          refine AOps.done (thenA.go ?_)
          refine ⟨l0.length - (i + 1), [(0, FZ 3 l0.length (krsC l0)), (3, .pointer (some ⟨0, 0, none⟩)), (4, .int .i64 (i + 1 : Nat))], [⟨bookC (keepS b k.client k.seq k.err), .w, 1⟩], by omega, Wk.ofC [some (0, 0)] ⟨⟨_, rfl, BE.same rfl (bookC_scal _)⟩, trivial⟩ rfl rfl ⟨⟨_, rfl, .same rfl⟩, ⟨_, rfl, RV.ptrK rfl⟩, ⟨_, rfl, ?_⟩, trivial⟩, i + 1, _, rfl, B2, by omega, rfl, rfl⟩
          exact RV.same rfl))
      · skip
        refine AWP.skip (thenA.go ?_)
        refine AWP.trim [(0, _), (3, _), (4, _)] ⟨rfl, rfl, rfl, trivial⟩ ?_
        refine AWP.seq ?_
        refine AWP.block ?_
        refine AWP.seq ?_
        refine AWP.region rfl ?_
        refine AOps.step rfl (OpJ.move rfl rfl ?_)
        refine AOps.step rfl (OpJ.move rfl rfl ?_)
        refine AOps.step rfl (OpJ.indexFZ (.int .i64 k.client :: .int .i64 k.seq :: .int .i64 k.err :: krsC (l0.drop (i + 1))) rfl Tryz.underlying38 ti42 rfl rfl (by omega) (by omega) (krsC_cut hk hdr) ?_)
        refine AOps.step rfl (OpJ.loadAggPZ (us := [.int .i64 k.client, .int .i64 k.seq, .int .i64 k.err]) rfl Tryz.underlying42 rfl ti42 rfl (rfl) (rfl) (rfl) ?_)
        refine AOps.step rfl (OpJ.alloc 1 rfl ti42 rfl rfl (kn2 fun f2 h2 ef eh => ?_))
        simp only [pt, List.length_cons, List.length_nil, List.cons_append, List.nil_append, List.set_cons_zero, List.set_cons_succ, wr, Nat.reduceAdd, Nat.reduceMul, Nat.zero_add, Nat.add_zero] at ef eh
        subst ef eh
        refine AOps.step rfl (OpJ.store (vs := [_, _, _]) rfl ti42 rfl rfl rfl rfl (rfl) rfl rfl (Nat.le_of_ble_eq_true rfl) (kn2 fun f2 h2 ef eh => ?_))
        simp only [pt, List.length_cons, List.length_nil, List.cons_append, List.nil_append, List.set_cons_zero, List.set_cons_succ, wr, Nat.reduceAdd, Nat.reduceMul, Nat.zero_add, Nat.add_zero] at ef eh
        subst ef eh
        refine AOps.done (thenA.go ?_)
        refine AWP.trim [(0, _), (3, _), (4, _), (5, _)] ⟨rfl, rfl, rfl, rfl, trivial⟩ ?_
        refine AWP.seq ?_
        refine AWP.region rfl ?_
        refine AOps.step rfl (OpJ.move rfl rfl ?_)
        refine AOps.step rfl (OpJ.fieldAddrV 0 rfl Tryz.underlying42 rfl ti3 (by decide) rfl rfl ?_)
        refine AOps.step rfl (OpJ.load rfl Tryz.underlying3 rfl rfl rfl rfl (rfl) ?_)
        refine AOps.step rfl (OpJ.callM (us := [_]) rfl rfl rfl rfl (by first | rfl | exact bytesC_scal _ | exact bookC_scal _ | exact krsC_scal _ | simp [bytesC_scal]) rfl (book_LastE gs b B.len k.client _ hn) (fun v0 c0 hc0 hR => ?_))
        obtain ⟨rfl, rfl⟩ := hR
        refine kn2 fun f2 h2 ef eh => ?_
        simp only [pt, List.length_cons, List.length_nil, List.cons_append, List.nil_append, List.set_cons_zero, List.set_cons_succ, wr, Nat.reduceAdd, Nat.reduceMul, Nat.zero_add, Nat.add_zero, List.append_nil, up] at ef eh
        subst ef eh
        refine AOps.step rfl (OpJ.assign rfl rfl ?_)
        refine AOps.done (thenA.go ?_)
        refine AWP.trim [(0, _), (3, _), (4, _), (5, _), (6, _)] ⟨rfl, rfl, rfl, rfl, rfl, trivial⟩ ?_
        refine AWP.seq ?_
        refine AWP.region rfl ?_
        refine AOps.step rfl (OpJ.move rfl rfl ?_)
        refine AOps.step rfl (OpJ.fieldAddrV 0 rfl Tryz.underlying42 rfl ti3 (by decide) rfl rfl ?_)
        refine AOps.step rfl (OpJ.load rfl Tryz.underlying3 rfl rfl rfl rfl (rfl) ?_)
        refine AOps.step rfl (OpJ.fieldAddrV 1 rfl Tryz.underlying42 rfl ti3 (by decide) rfl rfl ?_)
        refine AOps.step rfl (OpJ.load rfl Tryz.underlying3 rfl rfl rfl rfl (rfl) ?_)
        refine AOps.step rfl (OpJ.callM (us := [_, _]) rfl rfl rfl rfl (by first | rfl | exact bytesC_scal _ | exact bookC_scal _ | exact krsC_scal _ | simp [bytesC_scal]) rfl (book_AskE gs b B.len k.client k.seq _ _ hS) (fun v0 c0 hc0 hR => ?_))
        obtain ⟨rfl, rfl⟩ := hR
        refine kn2 fun f2 h2 ef eh => ?_
        simp only [pt, List.length_cons, List.length_nil, List.cons_append, List.nil_append, List.set_cons_zero, List.set_cons_succ, wr, Nat.reduceAdd, Nat.reduceMul, Nat.zero_add, Nat.add_zero, List.append_nil, up] at ef eh
        subst ef eh
        refine AOps.step rfl (OpJ.move rfl rfl ?_)
        refine AOps.step rfl (OpJ.extract rfl rfl rfl ?_)
        refine AOps.step rfl (OpJ.extract rfl rfl rfl ?_)
        refine AOps.step rfl (OpJ.assign rfl rfl ?_)
        refine AOps.step rfl (OpJ.assign rfl rfl ?_)
        refine AOps.done (thenA.go ?_)
        refine AWP.trim [(0, _), (3, _), (4, _), (5, _), (6, _), (7, _), (8, _)] ⟨rfl, rfl, rfl, rfl, rfl, rfl, rfl, trivial⟩ ?_
        refine AWP.seq ?_
        refine AWP.seq ?_
        refine AWP.region rfl ?_
        refine AOps.step rfl (OpJ.move rfl rfl ?_)
        refine AOps.step rfl (OpJ.fieldAddrV 0 rfl Tryz.underlying42 rfl ti3 (by decide) rfl rfl ?_)
        refine AOps.step rfl (OpJ.load rfl Tryz.underlying3 rfl rfl rfl rfl (rfl) ?_)
        refine AOps.step rfl (OpJ.binI rfl rfl rfl rfl ?_)
        refine AOps.step rfl (OpJ.move rfl rfl ?_)
        refine AOps.doG rfl rfl rfl (by simp; omega) (OpJ.fieldAddrV 0 rfl Tryz.underlying42 rfl ti3 (by decide) rfl rfl ?_)
        refine AOps.doG rfl rfl rfl (by simp; omega) (OpJ.load rfl Tryz.underlying3 rfl rfl rfl rfl (rfl) ?_)
        refine AOps.doG rfl rfl rfl (by simp; omega) (OpJ.binI rfl rfl rfl rfl ?_)
        refine AOps.step rfl (OpJ.pickT rfl rfl (by simp; omega) rfl ?_)
        refine AOps.step rfl (OpJ.move rfl rfl ?_)
        refine AOps.doG rfl rfl rfl (by simp; omega) (OpJ.fieldAddrV 1 rfl Tryz.underlying42 rfl ti3 (by decide) rfl rfl ?_)
        refine AOps.doG rfl rfl rfl (by simp; omega) (OpJ.load rfl Tryz.underlying3 rfl rfl rfl rfl (rfl) ?_)
        refine AOps.doG rfl rfl rfl (by simp; omega) (OpJ.move rfl rfl ?_)
        refine AOps.doG rfl rfl rfl (by simp; omega) (OpJ.binI rfl rfl rfl rfl ?_)
        refine AOps.step rfl (OpJ.pickT rfl rfl (by simp; omega) rfl ?_)
        refine AOps.step rfl (OpJ.move rfl rfl ?_)
        refine AOps.skipG rfl rfl rfl (by simp; omega) ?_
        refine AOps.skipG rfl rfl rfl (by simp; omega) ?_
        refine AOps.skipG rfl rfl rfl (by simp; omega) ?_
        refine AOps.step rfl (OpJ.pickF rfl rfl (by simp; omega) rfl ?_)
        refine AOps.step rfl (OpJ.neB rfl Tryz.underlying4 rfl rfl ?_)
        refine AOps.step rfl (OpJ.move rfl rfl ?_)
        refine AOps.doG rfl rfl rfl (rfl) (OpJ.move rfl rfl ?_)
        refine AOps.doG rfl rfl rfl (rfl) (OpJ.move rfl rfl ?_)
        refine AOps.skipG rfl rfl rfl (rfl) ?_
        refine AOps.skipG rfl rfl rfl (rfl) ?_
        refine AOps.doG rfl rfl rfl (rfl) (OpJ.pickF rfl rfl (rfl) rfl ?_)
        refine AOps.step rfl (OpJ.pickF rfl rfl (rfl) rfl ?_)
        refine AOps.done (thenA.go ?_)
        refine AWP.trim [(0, _), (3, _), (4, _), (5, _), (6, _), (7, _), (8, _), (67, _)] ⟨rfl, rfl, rfl, rfl, rfl, rfl, rfl, rfl, trivial⟩ ?_
        refine AWP.condF rfl rfl ?_
        refine AWP.skip (thenA.go ?_)
        refine AWP.trim [(0, _), (3, _), (4, _), (5, _), (6, _), (7, _), (8, _)] ⟨rfl, rfl, rfl, rfl, rfl, rfl, rfl, trivial⟩ ?_
        refine AWP.seq ?_
        refine AWP.seq ?_
        refine AWP.region rfl ?_
        refine AOps.step rfl (OpJ.move rfl rfl ?_)
        refine AOps.step rfl (OpJ.fieldAddrV 0 rfl Tryz.underlying42 rfl ti3 (by decide) rfl rfl ?_)
        refine AOps.step rfl (OpJ.load rfl Tryz.underlying3 rfl rfl rfl rfl (rfl) ?_)
        refine AOps.step rfl (OpJ.fieldAddrV 1 rfl Tryz.underlying42 rfl ti3 (by decide) rfl rfl ?_)
        refine AOps.step rfl (OpJ.load rfl Tryz.underlying3 rfl rfl rfl rfl (rfl) ?_)
        refine AOps.step rfl (OpJ.fieldAddrV 2 rfl Tryz.underlying42 rfl ti25 (by decide) rfl rfl ?_)
        refine AOps.step rfl (OpJ.load rfl Tryz.underlying25 rfl rfl rfl rfl (rfl) ?_)
        refine AOps.step rfl (OpJ.callM (us := [_, _, _]) rfl rfl rfl rfl (by first | rfl | exact bytesC_scal _ | exact bookC_scal _ | exact krsC_scal _ | simp [bytesC_scal]) rfl (book_KeepE gs b B.len k.client k.seq k.err _ hK) (fun v0 c0 hc0 hR => ?_))
        obtain ⟨rfl, rfl⟩ := hR
        refine kn2 fun f2 h2 ef eh => ?_
        simp only [pt, List.length_cons, List.length_nil, List.cons_append, List.nil_append, List.set_cons_zero, List.set_cons_succ, wr, Nat.reduceAdd, Nat.reduceMul, Nat.zero_add, Nat.add_zero, List.append_nil, up] at ef eh
        subst ef eh
        refine AOps.step rfl (OpJ.move rfl rfl ?_)
        refine AOps.step rfl (OpJ.neB rfl Tryz.underlying4 rfl rfl ?_)
        refine AOps.done (thenA.go ?_)
        refine AWP.trim [(0, _), (3, _), (4, _), (5, _), (6, _), (7, _), (8, _), (77, _)] ⟨rfl, rfl, rfl, rfl, rfl, rfl, rfl, rfl, trivial⟩ ?_
        refine AWP.condF rfl (rfl) ?_
        refine AWP.skip (thenA.go ?_)
        refine AWP.trim [(0, _), (3, _), (4, _), (5, _), (6, _), (7, _), (8, _)] ⟨rfl, rfl, rfl, rfl, rfl, rfl, rfl, trivial⟩ ?_
        refine AWP.seq ?_
        refine AWP.region rfl ?_
        refine AOps.step rfl (OpJ.move rfl rfl ?_)
        refine AOps.step rfl (OpJ.fieldAddrV 0 rfl Tryz.underlying42 rfl ti3 (by decide) rfl rfl ?_)
        refine AOps.step rfl (OpJ.load rfl Tryz.underlying3 rfl rfl rfl rfl (rfl) ?_)
        refine AOps.step rfl (OpJ.fieldAddrV 1 rfl Tryz.underlying42 rfl ti3 (by decide) rfl rfl ?_)
        refine AOps.step rfl (OpJ.load rfl Tryz.underlying3 rfl rfl rfl rfl (rfl) ?_)
        refine AOps.step rfl (OpJ.callM (us := [_, _]) rfl rfl rfl rfl (by first | rfl | exact bytesC_scal _ | exact bookC_scal _ | exact krsC_scal _ | simp [bytesC_scal]) rfl (book_AskE gs _ B2.len k.client k.seq _ _ hS2) (fun v0 c0 hc0 hR => ?_))
        obtain ⟨rfl, rfl⟩ := hR
        refine kn2 fun f2 h2 ef eh => ?_
        simp only [pt, List.length_cons, List.length_nil, List.cons_append, List.nil_append, List.set_cons_zero, List.set_cons_succ, wr, Nat.reduceAdd, Nat.reduceMul, Nat.zero_add, Nat.add_zero, List.append_nil, up] at ef eh
        subst ef eh
        refine AOps.step rfl (OpJ.move rfl rfl ?_)
        refine AOps.step rfl (OpJ.extract rfl rfl rfl ?_)
        refine AOps.step rfl (OpJ.extract rfl rfl rfl ?_)
        refine AOps.step rfl (OpJ.assign rfl rfl ?_)
        refine AOps.step rfl (OpJ.assign rfl rfl ?_)
        refine AOps.done (thenA.go ?_)
        refine AWP.trim [(0, _), (3, _), (4, _), (5, _), (6, _), (7, _), (8, _), (9, _), (10, _)] ⟨rfl, rfl, rfl, rfl, rfl, rfl, rfl, rfl, rfl, trivial⟩ ?_
        refine AWP.seq ?_
        refine AWP.trim [(0, _), (3, _), (4, _), (5, _), (6, _), (7, _), (8, _), (9, _), (10, _)] ⟨rfl, rfl, rfl, rfl, rfl, rfl, rfl, rfl, rfl, trivial⟩ ?_
        refine AWP.drawn [0, 1, 2, 3, 4, 5, 6, 7, 8, 9, 10, 11, 12, 13, 14, 15, 16, 17, 18, 19, 20, 21, 22, 23, 24, 25, 26, 27, 28, 29, 30, 31, 32, 33, 34, 35] [0, 1, 2, 3, 4, 5, 6, 7, 8, 9, 10, 11, 12, 13, 14, 15, 16, 17, 18, 19, 20, 21, 22, 23, 24, 25, 26, 27, 28, 29, 30, 31, 32, 33, 34, 35] [0, 1, 2, 3, 4, 5, 6, 7, 8, 9, 10, 11, 12, 13, 14, 15, 16, 17, 18, 19, 20, 21, 22, 23, 24, 25, 26, 27, 28, 29, 30, 31, 32, 33, 34, 35] [0, 1, 2, 3, 4, 5, 6, 7, 8, 9, 10, 11, 13, 14, 12, 15, 16, 17, 18, 19, 20, 21, 22, 23, 24, 25, 26, 27, 28, 29, 31, 30, 32, 33, 34, 35] rfl rfl rfl rfl rfl (by decide) ?_
        refine DJ.val _ rfl rfl (OkV.plain rfl (fun F hF K Kp kk => OpJ.move rfl (hF.ev rfl) kk)) ?_
        refine DJ.val _ rfl rfl (OkV.plain rfl (fun F hF K Kp kk => OpJ.move rfl (hF.ev rfl) kk)) ?_
        refine DJ.val _ rfl rfl (OkV.doG rfl rfl rfl (rfl) (fun F hF K Kp kk => OpJ.move rfl (hF.ev rfl) kk)) ?_
        refine DJ.val _ rfl rfl (OkV.doG rfl rfl rfl (rfl) (fun F hF K Kp kk => OpJ.move rfl (hF.ev rfl) kk)) ?_
        refine DJ.val _ rfl rfl (OkV.skipG rfl rfl rfl (rfl)) ?_
        refine DJ.val _ rfl rfl (OkV.skipG rfl rfl rfl (rfl)) ?_
        refine DJ.val _ rfl rfl (OkV.skipG rfl rfl rfl (rfl)) ?_
        refine DJ.val _ rfl rfl (OkV.skipG rfl rfl rfl (rfl)) ?_
        refine DJ.val _ rfl rfl (OkV.skipG rfl rfl rfl (rfl)) ?_
        refine DJ.val _ rfl rfl (OkV.skipU rfl rfl rfl) ?_
        refine DJ.val _ rfl rfl (OkV.skipU rfl rfl rfl) ?_
        refine DJ.val _ rfl rfl (OkV.skipU rfl rfl rfl) ?_
        refine DJ.val _ rfl rfl (OkV.skipU rfl rfl rfl) ?_
        refine DJ.val _ rfl rfl (OkV.skipU rfl rfl rfl) ?_
        refine DJ.val _ rfl rfl (OkV.skipU rfl rfl rfl) ?_
        refine DJ.val _ rfl rfl (OkV.skipU rfl rfl rfl) ?_
        refine DJ.val _ rfl rfl (OkV.skipG rfl rfl rfl (rfl)) ?_
        refine DJ.val _ rfl rfl (OkV.doG rfl rfl rfl (rfl) (fun F hF K Kp kk => OpJ.pickF rfl (hF.ev rfl) (rfl) (hF.ev rfl) kk)) ?_
        refine DJ.val _ rfl rfl (OkV.plain rfl (fun F hF K Kp kk => OpJ.pickF rfl (hF.ev rfl) (rfl) (hF.ev rfl) kk)) ?_
        refine DJ.val _ rfl rfl (OkV.plain rfl (fun F hF K Kp kk => OpJ.move rfl (hF.ev rfl) kk)) ?_
        refine DJ.val _ rfl rfl (OkV.doG rfl rfl rfl rfl (fun F hF K Kp kk => OpJ.move rfl (hF.ev rfl) kk)) ?_
        refine DJ.val _ rfl rfl (OkV.doG rfl rfl rfl rfl (fun F hF K Kp kk => OpJ.not rfl (hF.ev rfl) kk)) ?_
        refine DJ.val _ rfl rfl (OkV.doG rfl rfl rfl rfl (fun F hF K Kp kk => OpJ.move rfl (hF.ev rfl) kk)) ?_
        refine DJ.val _ rfl rfl (OkV.doG rfl rfl rfl (rfl) (fun F hF K Kp kk => OpJ.move rfl (hF.ev rfl) kk)) ?_
        refine DJ.val _ rfl rfl (OkV.doG rfl rfl rfl (rfl) (fun F hF K Kp kk => OpJ.move rfl (hF.ev rfl) kk)) ?_
        refine DJ.val _ rfl rfl (OkV.doG rfl rfl rfl (rfl) (fun F hF K Kp kk => OpJ.binI rfl (hF.ev rfl) (hF.ev rfl) rfl kk)) ?_
        refine DJ.val _ rfl rfl (OkV.doG rfl rfl rfl (rfl) (fun F hF K Kp kk => OpJ.move rfl (hF.ev rfl) kk)) ?_
        refine DJ.val _ rfl rfl (OkV.doG rfl rfl rfl (by simp) (fun F hF K Kp kk => OpJ.move rfl (hF.ev rfl) kk)) ?_
        refine DJ.val _ rfl rfl (OkV.doG rfl rfl rfl (by simp) (fun F hF K Kp kk => OpJ.fieldAddrV 0 rfl Tryz.underlying42 rfl ti3 (by decide) (hF.ev rfl) rfl kk)) ?_
        refine DJ.val _ rfl rfl (OkV.doG rfl rfl rfl (by simp) (fun F hF K Kp kk => OpJ.load rfl Tryz.underlying3 rfl (hF.ev rfl) rfl rfl (rfl) kk)) ?_
        refine DJ.val _ rfl rfl (OkV.doG rfl rfl rfl (by simp) (fun F hF K Kp kk => OpJ.move rfl (hF.ev rfl) kk)) ?_
        refine DJ.eff rfl rfl rfl ⟨_, rfl, congrArg (fun z => some (Value.bool z)) (by simp)⟩ (fun F hF => OpJ.callM (us := [_]) rfl (hF.ev rfl) (hF.evs rfl) rfl (by first | rfl | exact bytesC_scal _ | exact bookC_scal _ | exact krsC_scal _ | simp [bytesC_scal]) rfl (book_LastE gs _ B2.len k.client _ hn2) (fun v0 c0 hc0 hR => by
          obtain ⟨rfl, rfl⟩ := hR
          refine ⟨_, rfl, ⟨⟨_, rfl, OkV.doG rfl rfl rfl (by simp) (fun F hF K Kp kk => OpJ.move rfl (hF.ev rfl) kk)⟩, ⟨_, rfl, OkV.doG rfl rfl rfl (by simp) (fun F hF K Kp kk => OpJ.fieldAddrV 0 rfl Tryz.underlying42 rfl ti3 (by decide) (hF.ev rfl) rfl kk)⟩, ⟨_, rfl, OkV.doG rfl rfl rfl (rfl) (fun F hF K Kp kk => OpJ.binI rfl (hF.ev rfl) (hF.ev rfl) rfl kk)⟩, ⟨_, rfl, OkV.doG rfl rfl rfl (rfl) (fun F hF K Kp kk => OpJ.move rfl (hF.ev rfl) kk)⟩, ⟨_, rfl, OkV.doG rfl rfl rfl (rfl) (fun F hF K Kp kk => OpJ.move rfl (hF.ev rfl) kk)⟩, ⟨_, rfl, OkV.doG rfl rfl rfl rfl (fun F hF K Kp kk => OpJ.move rfl (hF.ev rfl) kk)⟩, ⟨_, rfl, OkV.doG rfl rfl rfl rfl (fun F hF K Kp kk => OpJ.not rfl (hF.ev rfl) kk)⟩, ⟨_, rfl, OkV.doG rfl rfl rfl rfl (fun F hF K Kp kk => OpJ.move rfl (hF.ev rfl) kk)⟩, ⟨_, rfl, OkV.plain rfl (fun F hF K Kp kk => OpJ.move rfl (hF.ev rfl) kk)⟩, ⟨_, rfl, OkV.plain rfl (fun F hF K Kp kk => OpJ.pickF rfl (hF.ev rfl) (rfl) (hF.ev rfl) kk)⟩, ⟨_, rfl, OkV.doG rfl rfl rfl (rfl) (fun F hF K Kp kk => OpJ.pickF rfl (hF.ev rfl) (rfl) (hF.ev rfl) kk)⟩, ⟨_, rfl, OkV.skipG rfl rfl rfl (rfl)⟩, ⟨_, rfl, OkV.skipU rfl rfl rfl⟩, ⟨_, rfl, OkV.skipU rfl rfl rfl⟩, ⟨_, rfl, OkV.skipU rfl rfl rfl⟩, ⟨_, rfl, OkV.skipU rfl rfl rfl⟩, ⟨_, rfl, OkV.skipU rfl rfl rfl⟩, ⟨_, rfl, OkV.skipU rfl rfl rfl⟩, ⟨_, rfl, OkV.skipU rfl rfl rfl⟩, ⟨_, rfl, OkV.skipG rfl rfl rfl (rfl)⟩, ⟨_, rfl, OkV.skipG rfl rfl rfl (rfl)⟩, ⟨_, rfl, OkV.skipG rfl rfl rfl (rfl)⟩, ⟨_, rfl, OkV.skipG rfl rfl rfl (rfl)⟩, ⟨_, rfl, OkV.skipG rfl rfl rfl (rfl)⟩, ⟨_, rfl, OkV.doG rfl rfl rfl (rfl) (fun F hF K Kp kk => OpJ.move rfl (hF.ev rfl) kk)⟩, ⟨_, rfl, OkV.doG rfl rfl rfl (rfl) (fun F hF K Kp kk => OpJ.move rfl (hF.ev rfl) kk)⟩, ⟨_, rfl, OkV.plain rfl (fun F hF K Kp kk => OpJ.move rfl (hF.ev rfl) kk)⟩, ⟨_, rfl, OkV.plain rfl (fun F hF K Kp kk => OpJ.move rfl (hF.ev rfl) kk)⟩, trivial⟩, DJ.norm fun f2 h2 ef eh => ?_⟩
          simp only [pt, List.length_cons, List.length_nil, List.cons_append, List.nil_append, List.set_cons_zero, List.set_cons_succ, wr, Nat.reduceAdd, Nat.reduceMul, Nat.zero_add, Nat.add_zero, List.append_nil, up] at ef eh
          subst ef eh
          refine DJ.val _ rfl rfl (OkV.doG rfl rfl rfl (by simp) (fun F hF K Kp kk => OpJ.binI rfl (hF.ev rfl) (hF.ev rfl) rfl kk)) ?_
          refine DJ.val _ rfl rfl (OkV.doG rfl rfl rfl (rfl) (fun F hF K Kp kk => OpJ.pickF rfl (hF.ev rfl) (by simp) (hF.ev rfl) kk)) ?_
          refine DJ.val _ rfl rfl (OkV.doG rfl rfl rfl rfl (fun F hF K Kp kk => OpJ.pickT rfl (hF.ev rfl) (rfl) (hF.ev rfl) kk)) ?_
          refine DJ.val _ rfl rfl (OkV.plain rfl (fun F hF K Kp kk => OpJ.pickF rfl (hF.ev rfl) rfl (hF.ev rfl) kk)) ?_
          refine DJ.done (fun F hF => ?_)
          refine (thenA.sup hF ?_)
          refine AWP.trim [(0, _), (3, _), (4, _), (122, _)] ⟨rfl, rfl, rfl, rfl, trivial⟩ ?_
          refine AWP.condF rfl (by simp) ?_
          refine AWP.skip (inBlockA.go (thenA.go ?_))
          refine AWP.trim [(0, _), (3, _), (4, _)] ⟨rfl, rfl, rfl, trivial⟩ ?_
          refine AWP.region rfl ?_
          refine AOps.step rfl (OpJ.move rfl rfl ?_)
          refine AOps.step rfl (OpJ.addI rfl rfl rfl (⟨by omega, by omega⟩) ?_)
          refine AOps.step rfl (OpJ.assign rfl rfl ?_)
          refine AOps.done (thenA.go ?_)
          refine ⟨l0.length - (i + 1), [(0, FZ 3 l0.length (krsC l0)), (3, .pointer (some ⟨0, 0, none⟩)), (4, .int .i64 (i + 1 : Nat))], [⟨bookC (keepS b k.client k.seq k.err), .w, 1⟩], by omega, Wk.ofC [some (0, 0)] ⟨⟨_, rfl, BE.same rfl (bookC_scal _)⟩, trivial⟩ rfl rfl ⟨⟨_, rfl, .same rfl⟩, ⟨_, rfl, RV.ptrK rfl⟩, ⟨_, rfl, ?_⟩, trivial⟩, i + 1, _, rfl, B2, by omega, rfl, rfl⟩
          exact RV.same rfl))
      · skip
        refine AWP.skip (thenA.go ?_)
        refine AWP.trim [(0, _), (3, _), (4, _)] ⟨rfl, rfl, rfl, trivial⟩ ?_
        refine AWP.seq ?_
        refine AWP.block ?_
        refine AWP.seq ?_
        refine AWP.region rfl ?_
        refine AOps.step rfl (OpJ.move rfl rfl ?_)
        refine AOps.step rfl (OpJ.move rfl rfl ?_)
        refine AOps.step rfl (OpJ.indexFZ (.int .i64 k.client :: .int .i64 k.seq :: .int .i64 k.err :: krsC (l0.drop (i + 1))) rfl Tryz.underlying38 ti42 rfl rfl (by omega) (by omega) (krsC_cut hk hdr) ?_)
        refine AOps.step rfl (OpJ.loadAggPZ (us := [.int .i64 k.client, .int .i64 k.seq, .int .i64 k.err]) rfl Tryz.underlying42 rfl ti42 rfl (rfl) (rfl) (rfl) ?_)
        refine AOps.step rfl (OpJ.alloc 1 rfl ti42 rfl rfl (kn2 fun f2 h2 ef eh => ?_))
        simp only [pt, List.length_cons, List.length_nil, List.cons_append, List.nil_append, List.set_cons_zero, List.set_cons_succ, wr, Nat.reduceAdd, Nat.reduceMul, Nat.zero_add, Nat.add_zero] at ef eh
        subst ef eh
        refine AOps.step rfl (OpJ.store (vs := [_, _, _]) rfl ti42 rfl rfl rfl rfl (rfl) rfl rfl (Nat.le_of_ble_eq_true rfl) (kn2 fun f2 h2 ef eh => ?_))
        simp only [pt, List.length_cons, List.length_nil, List.cons_append, List.nil_append, List.set_cons_zero, List.set_cons_succ, wr, Nat.reduceAdd, Nat.reduceMul, Nat.zero_add, Nat.add_zero] at ef eh
        subst ef eh
        refine AOps.done (thenA.go ?_)
        refine AWP.trim [(0, _), (3, _), (4, _), (5, _)] ⟨rfl, rfl, rfl, rfl, trivial⟩ ?_
        refine AWP.seq ?_
        refine AWP.region rfl ?_
        refine AOps.step rfl (OpJ.move rfl rfl ?_)
        refine AOps.step rfl (OpJ.fieldAddrV 0 rfl Tryz.underlying42 rfl ti3 (by decide) rfl rfl ?_)
        refine AOps.step rfl (OpJ.load rfl Tryz.underlying3 rfl rfl rfl rfl (rfl) ?_)
        refine AOps.step rfl (OpJ.callM (us := [_]) rfl rfl rfl rfl (by first | rfl | exact bytesC_scal _ | exact bookC_scal _ | exact krsC_scal _ | simp [bytesC_scal]) rfl (book_LastE gs b B.len k.client _ hn) (fun v0 c0 hc0 hR => ?_))
        obtain ⟨rfl, rfl⟩ := hR
        refine kn2 fun f2 h2 ef eh => ?_
        simp only [pt, List.length_cons, List.length_nil, List.cons_append, List.nil_append, List.set_cons_zero, List.set_cons_succ, wr, Nat.reduceAdd, Nat.reduceMul, Nat.zero_add, Nat.add_zero, List.append_nil, up] at ef eh
        subst ef eh
        refine AOps.step rfl (OpJ.assign rfl rfl ?_)
        refine AOps.done (thenA.go ?_)
        refine AWP.trim [(0, _), (3, _), (4, _), (5, _), (6, _)] ⟨rfl, rfl, rfl, rfl, rfl, trivial⟩ ?_
        refine AWP.seq ?_
        refine AWP.region rfl ?_
        refine AOps.step rfl (OpJ.move rfl rfl ?_)
        refine AOps.step rfl (OpJ.fieldAddrV 0 rfl Tryz.underlying42 rfl ti3 (by decide) rfl rfl ?_)
        refine AOps.step rfl (OpJ.load rfl Tryz.underlying3 rfl rfl rfl rfl (rfl) ?_)
        refine AOps.step rfl (OpJ.fieldAddrV 1 rfl Tryz.underlying42 rfl ti3 (by decide) rfl rfl ?_)
        refine AOps.step rfl (OpJ.load rfl Tryz.underlying3 rfl rfl rfl rfl (rfl) ?_)
        refine AOps.step rfl (OpJ.callM (us := [_, _]) rfl rfl rfl rfl (by first | rfl | exact bytesC_scal _ | exact bookC_scal _ | exact krsC_scal _ | simp [bytesC_scal]) rfl (book_AskE gs b B.len k.client k.seq _ _ hS) (fun v0 c0 hc0 hR => ?_))
        obtain ⟨rfl, rfl⟩ := hR
        refine kn2 fun f2 h2 ef eh => ?_
        simp only [pt, List.length_cons, List.length_nil, List.cons_append, List.nil_append, List.set_cons_zero, List.set_cons_succ, wr, Nat.reduceAdd, Nat.reduceMul, Nat.zero_add, Nat.add_zero, List.append_nil, up] at ef eh
        subst ef eh
        refine AOps.step rfl (OpJ.move rfl rfl ?_)
        refine AOps.step rfl (OpJ.extract rfl rfl rfl ?_)
        refine AOps.step rfl (OpJ.extract rfl rfl rfl ?_)
        refine AOps.step rfl (OpJ.assign rfl rfl ?_)
        refine AOps.step rfl (OpJ.assign rfl rfl ?_)
        refine AOps.done (thenA.go ?_)
        refine AWP.trim [(0, _), (3, _), (4, _), (5, _), (6, _), (7, _), (8, _)] ⟨rfl, rfl, rfl, rfl, rfl, rfl, rfl, trivial⟩ ?_
        refine AWP.seq ?_
        refine AWP.seq ?_
        refine AWP.region rfl ?_
        refine AOps.step rfl (OpJ.move rfl rfl ?_)
        refine AOps.step rfl (OpJ.fieldAddrV 0 rfl Tryz.underlying42 rfl ti3 (by decide) rfl rfl ?_)
        refine AOps.step rfl (OpJ.load rfl Tryz.underlying3 rfl rfl rfl rfl (rfl) ?_)
        refine AOps.step rfl (OpJ.binI rfl rfl rfl rfl ?_)
        refine AOps.step rfl (OpJ.move rfl rfl ?_)
        refine AOps.doG rfl rfl rfl (by simp; omega) (OpJ.fieldAddrV 0 rfl Tryz.underlying42 rfl ti3 (by decide) rfl rfl ?_)
        refine AOps.doG rfl rfl rfl (by simp; omega) (OpJ.load rfl Tryz.underlying3 rfl rfl rfl rfl (rfl) ?_)
        refine AOps.doG rfl rfl rfl (by simp; omega) (OpJ.binI rfl rfl rfl rfl ?_)
        refine AOps.step rfl (OpJ.pickT rfl rfl (by simp; omega) rfl ?_)
        refine AOps.step rfl (OpJ.move rfl rfl ?_)
        refine AOps.doG rfl rfl rfl (by simp; omega) (OpJ.fieldAddrV 1 rfl Tryz.underlying42 rfl ti3 (by decide) rfl rfl ?_)
        refine AOps.doG rfl rfl rfl (by simp; omega) (OpJ.load rfl Tryz.underlying3 rfl rfl rfl rfl (rfl) ?_)
        refine AOps.doG rfl rfl rfl (by simp; omega) (OpJ.move rfl rfl ?_)
        refine AOps.doG rfl rfl rfl (by simp; omega) (OpJ.binI rfl rfl rfl rfl ?_)
        refine AOps.step rfl (OpJ.pickT rfl rfl (by simp; omega) rfl ?_)
        refine AOps.step rfl (OpJ.move rfl rfl ?_)
        refine AOps.doG rfl rfl rfl (by simp; omega) (OpJ.fieldAddrV 1 rfl Tryz.underlying42 rfl ti3 (by decide) rfl rfl ?_)
        refine AOps.doG rfl rfl rfl (by simp; omega) (OpJ.load rfl Tryz.underlying3 rfl rfl rfl rfl (rfl) ?_)
        refine AOps.doG rfl rfl rfl (by simp; omega) (OpJ.binI rfl rfl rfl rfl ?_)
        refine AOps.step rfl (OpJ.pickT rfl rfl (by simp; omega) rfl ?_)
        refine AOps.step rfl (OpJ.neB rfl Tryz.underlying4 rfl rfl ?_)
        refine AOps.step rfl (OpJ.move rfl rfl ?_)
        refine AOps.doG rfl rfl rfl (by simp; omega) (OpJ.move rfl rfl ?_)
        refine AOps.doG rfl rfl rfl (by simp; omega) (OpJ.move rfl rfl ?_)
        refine AOps.skipG rfl rfl rfl (rfl) ?_
        refine AOps.skipG rfl rfl rfl (rfl) ?_
        refine AOps.doG rfl rfl rfl (by simp; omega) (OpJ.pickF rfl rfl (rfl) rfl ?_)
        refine AOps.step rfl (OpJ.pickF rfl rfl (by simp; omega) rfl ?_)
        refine AOps.done (thenA.go ?_)
        refine AWP.trim [(0, _), (3, _), (4, _), (5, _), (6, _), (7, _), (8, _), (67, _)] ⟨rfl, rfl, rfl, rfl, rfl, rfl, rfl, rfl, trivial⟩ ?_
        refine AWP.condF rfl rfl ?_
        refine AWP.skip (thenA.go ?_)
        refine AWP.trim [(0, _), (3, _), (4, _), (5, _), (6, _), (7, _), (8, _)] ⟨rfl, rfl, rfl, rfl, rfl, rfl, rfl, trivial⟩ ?_
        refine AWP.seq ?_
        refine AWP.seq ?_
        refine AWP.region rfl ?_
        refine AOps.step rfl (OpJ.move rfl rfl ?_)
        refine AOps.step rfl (OpJ.fieldAddrV 0 rfl Tryz.underlying42 rfl ti3 (by decide) rfl rfl ?_)
        refine AOps.step rfl (OpJ.load rfl Tryz.underlying3 rfl rfl rfl rfl (rfl) ?_)
        refine AOps.step rfl (OpJ.fieldAddrV 1 rfl Tryz.underlying42 rfl ti3 (by decide) rfl rfl ?_)
        refine AOps.step rfl (OpJ.load rfl Tryz.underlying3 rfl rfl rfl rfl (rfl) ?_)
        refine AOps.step rfl (OpJ.fieldAddrV 2 rfl Tryz.underlying42 rfl ti25 (by decide) rfl rfl ?_)
        refine AOps.step rfl (OpJ.load rfl Tryz.underlying25 rfl rfl rfl rfl (rfl) ?_)
        refine AOps.step rfl (OpJ.callM (us := [_, _, _]) rfl rfl rfl rfl (by first | rfl | exact bytesC_scal _ | exact bookC_scal _ | exact krsC_scal _ | simp [bytesC_scal]) rfl (book_KeepE gs b B.len k.client k.seq k.err _ hK) (fun v0 c0 hc0 hR => ?_))
        obtain ⟨rfl, rfl⟩ := hR
        refine kn2 fun f2 h2 ef eh => ?_
        simp only [pt, List.length_cons, List.length_nil, List.cons_append, List.nil_append, List.set_cons_zero, List.set_cons_succ, wr, Nat.reduceAdd, Nat.reduceMul, Nat.zero_add, Nat.add_zero, List.append_nil, up] at ef eh
        subst ef eh
        refine AOps.step rfl (OpJ.move rfl rfl ?_)
        refine AOps.step rfl (OpJ.neB rfl Tryz.underlying4 rfl rfl ?_)
        refine AOps.done (thenA.go ?_)
        refine AWP.trim [(0, _), (3, _), (4, _), (5, _), (6, _), (7, _), (8, _), (77, _)] ⟨rfl, rfl, rfl, rfl, rfl, rfl, rfl, rfl, trivial⟩ ?_
        refine AWP.condF rfl (rfl) ?_
        refine AWP.skip (thenA.go ?_)
        refine AWP.trim [(0, _), (3, _), (4, _), (5, _), (6, _), (7, _), (8, _)] ⟨rfl, rfl, rfl, rfl, rfl, rfl, rfl, trivial⟩ ?_
        refine AWP.seq ?_
        refine AWP.region rfl ?_
        refine AOps.step rfl (OpJ.move rfl rfl ?_)
        refine AOps.step rfl (OpJ.fieldAddrV 0 rfl Tryz.underlying42 rfl ti3 (by decide) rfl rfl ?_)
        refine AOps.step rfl (OpJ.load rfl Tryz.underlying3 rfl rfl rfl rfl (rfl) ?_)
        refine AOps.step rfl (OpJ.fieldAddrV 1 rfl Tryz.underlying42 rfl ti3 (by decide) rfl rfl ?_)
        refine AOps.step rfl (OpJ.load rfl Tryz.underlying3 rfl rfl rfl rfl (rfl) ?_)
        refine AOps.step rfl (OpJ.callM (us := [_, _]) rfl rfl rfl rfl (by first | rfl | exact bytesC_scal _ | exact bookC_scal _ | exact krsC_scal _ | simp [bytesC_scal]) rfl (book_AskE gs _ B2.len k.client k.seq _ _ hS2) (fun v0 c0 hc0 hR => ?_))
        obtain ⟨rfl, rfl⟩ := hR
        refine kn2 fun f2 h2 ef eh => ?_
        simp only [pt, List.length_cons, List.length_nil, List.cons_append, List.nil_append, List.set_cons_zero, List.set_cons_succ, wr, Nat.reduceAdd, Nat.reduceMul, Nat.zero_add, Nat.add_zero, List.append_nil, up] at ef eh
        subst ef eh
        refine AOps.step rfl (OpJ.move rfl rfl ?_)
        refine AOps.step rfl (OpJ.extract rfl rfl rfl ?_)
        refine AOps.step rfl (OpJ.extract rfl rfl rfl ?_)
        refine AOps.step rfl (OpJ.assign rfl rfl ?_)
        refine AOps.step rfl (OpJ.assign rfl rfl ?_)
        refine AOps.done (thenA.go ?_)
        refine AWP.trim [(0, _), (3, _), (4, _), (5, _), (6, _), (7, _), (8, _), (9, _), (10, _)] ⟨rfl, rfl, rfl, rfl, rfl, rfl, rfl, rfl, rfl, trivial⟩ ?_
        refine AWP.seq ?_
        refine AWP.trim [(0, _), (3, _), (4, _), (5, _), (6, _), (7, _), (8, _), (9, _), (10, _)] ⟨rfl, rfl, rfl, rfl, rfl, rfl, rfl, rfl, rfl, trivial⟩ ?_
        refine AWP.drawn [0, 1, 2, 3, 4, 5, 6, 7, 8, 9, 10, 11, 12, 13, 14, 15, 16, 17, 18, 19, 20, 21, 22, 23, 24, 25, 26, 27, 28, 29, 30, 31, 32, 33, 34, 35] [0, 1, 2, 3, 4, 5, 6, 7, 8, 9, 10, 11, 12, 13, 14, 15, 16, 17, 18, 19, 20, 21, 22, 23, 24, 25, 26, 27, 28, 29, 30, 31, 32, 33, 34, 35] [0, 1, 2, 3, 4, 5, 6, 7, 8, 9, 10, 11, 12, 13, 14, 15, 16, 17, 18, 19, 20, 21, 22, 23, 24, 25, 26, 27, 28, 29, 30, 31, 32, 33, 34, 35] [0, 1, 2, 3, 4, 5, 6, 7, 8, 9, 10, 11, 13, 14, 12, 15, 16, 17, 18, 19, 20, 21, 22, 23, 24, 25, 26, 27, 28, 29, 31, 30, 32, 33, 34, 35] rfl rfl rfl rfl rfl (by decide) ?_
        refine DJ.val _ rfl rfl (OkV.plain rfl (fun F hF K Kp kk => OpJ.move rfl (hF.ev rfl) kk)) ?_
        refine DJ.val _ rfl rfl (OkV.plain rfl (fun F hF K Kp kk => OpJ.move rfl (hF.ev rfl) kk)) ?_
        refine DJ.val _ rfl rfl (OkV.doG rfl rfl rfl (rfl) (fun F hF K Kp kk => OpJ.move rfl (hF.ev rfl) kk)) ?_
        refine DJ.val _ rfl rfl (OkV.doG rfl rfl rfl (rfl) (fun F hF K Kp kk => OpJ.move rfl (hF.ev rfl) kk)) ?_
        refine DJ.val _ rfl rfl (OkV.skipG rfl rfl rfl (rfl)) ?_
        refine DJ.val _ rfl rfl (OkV.skipG rfl rfl rfl (rfl)) ?_
        refine DJ.val _ rfl rfl (OkV.skipG rfl rfl rfl (rfl)) ?_
        refine DJ.val _ rfl rfl (OkV.skipG rfl rfl rfl (rfl)) ?_
        refine DJ.val _ rfl rfl (OkV.skipG rfl rfl rfl (rfl)) ?_
        refine DJ.val _ rfl rfl (OkV.skipU rfl rfl rfl) ?_
        refine DJ.val _ rfl rfl (OkV.skipU rfl rfl rfl) ?_
        refine DJ.val _ rfl rfl (OkV.skipU rfl rfl rfl) ?_
        refine DJ.val _ rfl rfl (OkV.skipU rfl rfl rfl) ?_
        refine DJ.val _ rfl rfl (OkV.skipU rfl rfl rfl) ?_
        refine DJ.val _ rfl rfl (OkV.skipU rfl rfl rfl) ?_
        refine DJ.val _ rfl rfl (OkV.skipU rfl rfl rfl) ?_
        refine DJ.val _ rfl rfl (OkV.skipG rfl rfl rfl (rfl)) ?_
        refine DJ.val _ rfl rfl (OkV.doG rfl rfl rfl (rfl) (fun F hF K Kp kk => OpJ.pickF rfl (hF.ev rfl) (rfl) (hF.ev rfl) kk)) ?_
        refine DJ.val _ rfl rfl (OkV.plain rfl (fun F hF K Kp kk => OpJ.pickF rfl (hF.ev rfl) (rfl) (hF.ev rfl) kk)) ?_
        refine DJ.val _ rfl rfl (OkV.plain rfl (fun F hF K Kp kk => OpJ.move rfl (hF.ev rfl) kk)) ?_
        refine DJ.val _ rfl rfl (OkV.doG rfl rfl rfl rfl (fun F hF K Kp kk => OpJ.move rfl (hF.ev rfl) kk)) ?_
        refine DJ.val _ rfl rfl (OkV.doG rfl rfl rfl rfl (fun F hF K Kp kk => OpJ.not rfl (hF.ev rfl) kk)) ?_
        refine DJ.val _ rfl rfl (OkV.doG rfl rfl rfl rfl (fun F hF K Kp kk => OpJ.move rfl (hF.ev rfl) kk)) ?_
        refine DJ.val _ rfl rfl (OkV.doG rfl rfl rfl (rfl) (fun F hF K Kp kk => OpJ.move rfl (hF.ev rfl) kk)) ?_
        refine DJ.val _ rfl rfl (OkV.doG rfl rfl rfl (rfl) (fun F hF K Kp kk => OpJ.move rfl (hF.ev rfl) kk)) ?_
        refine DJ.val _ rfl rfl (OkV.doG rfl rfl rfl (rfl) (fun F hF K Kp kk => OpJ.binI rfl (hF.ev rfl) (hF.ev rfl) rfl kk)) ?_
        refine DJ.val _ rfl rfl (OkV.doG rfl rfl rfl (rfl) (fun F hF K Kp kk => OpJ.move rfl (hF.ev rfl) kk)) ?_
        refine DJ.val _ rfl rfl (OkV.doG rfl rfl rfl (by simp) (fun F hF K Kp kk => OpJ.move rfl (hF.ev rfl) kk)) ?_
        refine DJ.val _ rfl rfl (OkV.doG rfl rfl rfl (by simp) (fun F hF K Kp kk => OpJ.fieldAddrV 0 rfl Tryz.underlying42 rfl ti3 (by decide) (hF.ev rfl) rfl kk)) ?_
        refine DJ.val _ rfl rfl (OkV.doG rfl rfl rfl (by simp) (fun F hF K Kp kk => OpJ.load rfl Tryz.underlying3 rfl (hF.ev rfl) rfl rfl (rfl) kk)) ?_
        refine DJ.val _ rfl rfl (OkV.doG rfl rfl rfl (by simp) (fun F hF K Kp kk => OpJ.move rfl (hF.ev rfl) kk)) ?_
        refine DJ.eff rfl rfl rfl ⟨_, rfl, congrArg (fun z => some (Value.bool z)) (by simp)⟩ (fun F hF => OpJ.callM (us := [_]) rfl (hF.ev rfl) (hF.evs rfl) rfl (by first | rfl | exact bytesC_scal _ | exact bookC_scal _ | exact krsC_scal _ | simp [bytesC_scal]) rfl (book_LastE gs _ B2.len k.client _ hn2) (fun v0 c0 hc0 hR => by
          obtain ⟨rfl, rfl⟩ := hR
          refine ⟨_, rfl, ⟨⟨_, rfl, OkV.doG rfl rfl rfl (by simp) (fun F hF K Kp kk => OpJ.move rfl (hF.ev rfl) kk)⟩, ⟨_, rfl, OkV.doG rfl rfl rfl (by simp) (fun F hF K Kp kk => OpJ.fieldAddrV 0 rfl Tryz.underlying42 rfl ti3 (by decide) (hF.ev rfl) rfl kk)⟩, ⟨_, rfl, OkV.doG rfl rfl rfl (rfl) (fun F hF K Kp kk => OpJ.binI rfl (hF.ev rfl) (hF.ev rfl) rfl kk)⟩, ⟨_, rfl, OkV.doG rfl rfl rfl (rfl) (fun F hF K Kp kk => OpJ.move rfl (hF.ev rfl) kk)⟩, ⟨_, rfl, OkV.doG rfl rfl rfl (rfl) (fun F hF K Kp kk => OpJ.move rfl (hF.ev rfl) kk)⟩, ⟨_, rfl, OkV.doG rfl rfl rfl rfl (fun F hF K Kp kk => OpJ.move rfl (hF.ev rfl) kk)⟩, ⟨_, rfl, OkV.doG rfl rfl rfl rfl (fun F hF K Kp kk => OpJ.not rfl (hF.ev rfl) kk)⟩, ⟨_, rfl, OkV.doG rfl rfl rfl rfl (fun F hF K Kp kk => OpJ.move rfl (hF.ev rfl) kk)⟩, ⟨_, rfl, OkV.plain rfl (fun F hF K Kp kk => OpJ.move rfl (hF.ev rfl) kk)⟩, ⟨_, rfl, OkV.plain rfl (fun F hF K Kp kk => OpJ.pickF rfl (hF.ev rfl) (rfl) (hF.ev rfl) kk)⟩, ⟨_, rfl, OkV.doG rfl rfl rfl (rfl) (fun F hF K Kp kk => OpJ.pickF rfl (hF.ev rfl) (rfl) (hF.ev rfl) kk)⟩, ⟨_, rfl, OkV.skipG rfl rfl rfl (rfl)⟩, ⟨_, rfl, OkV.skipU rfl rfl rfl⟩, ⟨_, rfl, OkV.skipU rfl rfl rfl⟩, ⟨_, rfl, OkV.skipU rfl rfl rfl⟩, ⟨_, rfl, OkV.skipU rfl rfl rfl⟩, ⟨_, rfl, OkV.skipU rfl rfl rfl⟩, ⟨_, rfl, OkV.skipU rfl rfl rfl⟩, ⟨_, rfl, OkV.skipU rfl rfl rfl⟩, ⟨_, rfl, OkV.skipG rfl rfl rfl (rfl)⟩, ⟨_, rfl, OkV.skipG rfl rfl rfl (rfl)⟩, ⟨_, rfl, OkV.skipG rfl rfl rfl (rfl)⟩, ⟨_, rfl, OkV.skipG rfl rfl rfl (rfl)⟩, ⟨_, rfl, OkV.skipG rfl rfl rfl (rfl)⟩, ⟨_, rfl, OkV.doG rfl rfl rfl (rfl) (fun F hF K Kp kk => OpJ.move rfl (hF.ev rfl) kk)⟩, ⟨_, rfl, OkV.doG rfl rfl rfl (rfl) (fun F hF K Kp kk => OpJ.move rfl (hF.ev rfl) kk)⟩, ⟨_, rfl, OkV.plain rfl (fun F hF K Kp kk => OpJ.move rfl (hF.ev rfl) kk)⟩, ⟨_, rfl, OkV.plain rfl (fun F hF K Kp kk => OpJ.move rfl (hF.ev rfl) kk)⟩, trivial⟩, DJ.norm fun f2 h2 ef eh => ?_⟩
          simp only [pt, List.length_cons, List.length_nil, List.cons_append, List.nil_append, List.set_cons_zero, List.set_cons_succ, wr, Nat.reduceAdd, Nat.reduceMul, Nat.zero_add, Nat.add_zero, List.append_nil, up] at ef eh
          subst ef eh
          refine DJ.val _ rfl rfl (OkV.doG rfl rfl rfl (by simp) (fun F hF K Kp kk => OpJ.binI rfl (hF.ev rfl) (hF.ev rfl) rfl kk)) ?_
          refine DJ.val _ rfl rfl (OkV.doG rfl rfl rfl (rfl) (fun F hF K Kp kk => OpJ.pickF rfl (hF.ev rfl) (by simp) (hF.ev rfl) kk)) ?_
          refine DJ.val _ rfl rfl (OkV.doG rfl rfl rfl rfl (fun F hF K Kp kk => OpJ.pickT rfl (hF.ev rfl) (rfl) (hF.ev rfl) kk)) ?_
          refine DJ.val _ rfl rfl (OkV.plain rfl (fun F hF K Kp kk => OpJ.pickF rfl (hF.ev rfl) rfl (hF.ev rfl) kk)) ?_
          refine DJ.done (fun F hF => ?_)
          refine (thenA.sup hF ?_)
          refine AWP.trim [(0, _), (3, _), (4, _), (122, _)] ⟨rfl, rfl, rfl, rfl, trivial⟩ ?_
          refine AWP.condF rfl (by simp) ?_
          refine AWP.skip (inBlockA.go (thenA.go ?_))
          refine AWP.trim [(0, _), (3, _), (4, _)] ⟨rfl, rfl, rfl, trivial⟩ ?_
          refine AWP.region rfl ?_
          refine AOps.step rfl (OpJ.move rfl rfl ?_)
          refine AOps.step rfl (OpJ.addI rfl rfl rfl (⟨by omega, by omega⟩) ?_)
          refine AOps.step rfl (OpJ.assign rfl rfl ?_)
          refine AOps.done (thenA.go ?_)
          refine ⟨l0.length - (i + 1), [(0, FZ 3 l0.length (krsC l0)), (3, .pointer (some ⟨0, 0, none⟩)), (4, .int .i64 (i + 1 : Nat))], [⟨bookC (keepS b k.client k.seq k.err), .w, 1⟩], by omega, Wk.ofC [some (0, 0)] ⟨⟨_, rfl, BE.same rfl (bookC_scal _)⟩, trivial⟩ rfl rfl ⟨⟨_, rfl, .same rfl⟩, ⟨_, rfl, RV.ptrK rfl⟩, ⟨_, rfl, ?_⟩, trivial⟩, i + 1, _, rfl, B2, by omega, rfl, rfl⟩
          exact RV.same rfl))
    · simp at h20
      refine AWP.exit (thenA.exit (thenA.exit (inBlockA.here (thenA.go ?_))))
      refine AWP.trim [] trivial ?_
      refine AWP.seq ?_
      refine AWP.region rfl ?_
      refine AOps.step rfl (OpJ.assign rfl rfl ?_)
      refine AOps.done (thenA.go ?_)
      refine AWP.trim [(2, _)] ⟨rfl, trivial⟩ ?_
      refine AWP.ret ?_
      refine bodyA.ret1 (h2 := []) [] (.tmp rfl) trivial rfl rfl (okS.rv rfl) ⟨_, rfl, ⟨rfl, rfl⟩⟩
end Go.J.Tryz.LB
