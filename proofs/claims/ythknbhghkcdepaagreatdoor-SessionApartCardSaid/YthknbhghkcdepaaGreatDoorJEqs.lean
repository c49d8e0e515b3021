/- The program logic J, part 18: structs compared, arrays' elements. No condition. -/
import Derived.Test.YthknbhghkcdepaaGreatDoorJDraw
import Derived.Laws.StructEq
set_option maxHeartbeats 4000000
set_option linter.unusedVariables false
set_option linter.unusedSimpArgs false
namespace Go.J
theorem VR.okS_eq {σ : St} {v v' : Value} (h : VR σ v v') (hs : v.cells.toList.all Go.J.scal = true) : v' = v := by
  cases h with
  | @agg xs ys hl hh =>
    congr 1
    apply Array.ext_getElem?
    intro i
    by_cases hi : i < xs.size
    · have h1 : xs[i]? = some xs[i] := Array.getElem?_eq_getElem hi
      have h2 : ys[i]? = some (ys[i]'(by omega)) := Array.getElem?_eq_getElem (by omega)
      rw [h1, h2]
      have := (hh i _ _ h1 h2).scal_eq (List.all_eq_true.1 hs _ (by simp [Value.cells]))
      rw [this]
    · rw [Array.getElem?_eq_none (by omega), Array.getElem?_eq_none (by omega)]
  | poison v => simp [Value.cells, Go.J.scal] at hs
  | un => simp [Value.cells, Go.J.scal] at hs
  | tuple hl hh => simp [Value.cells, Go.J.scal] at hs
  | bool b => rfl
  | int k n => rfl
  | float k n => rfl
  | string s => rfl
  | ptr0 => rfl
  | sl0 => rfl
  | map0 => rfl
  | nilFunc => rfl
  | nilIface => rfl
  | ptr h => simp [Value.cells, Go.J.scal] at hs
  | sl h hn hc => simp [Value.cells, Go.J.scal] at hs
  | slz => simp [Value.cells, Go.J.scal] at hs
  | map h => simp [Value.cells, Go.J.scal] at hs
  | iface h => simp [Value.cells, Go.J.scal] at hs
  | fz h => simp [Value.cells, Go.J.scal] at hs
  | pz h => simp [Value.cells, Go.J.scal] at hs
  | func hm hl h hl2 h2 =>
    refine VR.scal_eq (σ := σ) (.func hm hl h hl2 h2) ?_
    simpa [Value.cells] using hs
section
variable {P : Program} {gs : List (Nat × Obj)} {m N : Nat} {K : AFr → List Blk → Prop} {Kp : Value → AFr → List Blk → Prop} {f : AFr} {h : List Blk} {o : Oper}
theorem OpJ.eqAgg {t t' : TypeId} {x y : Operand} {a b : Array Value} {r : Bool} (ho : o.op = .binOp .eql t x y t') (hx : ev f x = some (.agg a)) (hy : ev f y = some (.agg b)) (ha : a.toList.all scal = true) (hb : b.toList.all scal = true)
    (hm : P.eqGuardType P.depth t = false) (he : ∀ w, (Op.equalIn 10000 t (.agg a) (.agg b)).run P w = .ok r w) (kk : K (pt f o.dst (.bool r)) h) : OpJ P gs m N o K Kp f h := by
  refine OpJ.val (fun σ ac w F S => ⟨.bool r, ?_, .bool _⟩) kk
  have ex := (F.ev hx).okS_eq ha
  have ey := (F.ev hy).okS_eq hb
  simp only [execOp, ho, ex, ey, Sem.run_bind, run_eqGuard_agg w .eql t x y a b hm, Result.andThen_ok, run_eql_struct, he, Sem.run_pure]
theorem OpJ.neAgg {t t' : TypeId} {x y : Operand} {a b : Array Value} {r : Bool} (ho : o.op = .binOp .neq t x y t') (hx : ev f x = some (.agg a)) (hy : ev f y = some (.agg b)) (ha : a.toList.all scal = true) (hb : b.toList.all scal = true)
    (hm : P.eqGuardType P.depth t = false) (he : ∀ w, (Op.equalIn 10000 t (.agg a) (.agg b)).run P w = .ok r w) (kk : K (pt f o.dst (.bool (!r))) h) : OpJ P gs m N o K Kp f h := by
  refine OpJ.val (fun σ ac w F S => ⟨.bool (!r), ?_, .bool _⟩) kk
  have ex := (F.ev hx).okS_eq ha
  have ey := (F.ev hy).okS_eq hb
  simp only [execOp, ho, ex, ey, Sem.run_bind, run_eqGuard_agg w .neq t x y a b hm, Result.andThen_ok, run_neq_struct, he, Sem.run_pure]
theorem OpJ.indexArr (p : Nat) {t e : TypeId} {x y : Operand} {i q n sz : Nat} {k : IntKind} {j : Int} {ze : Value} {be : Nat} (ho : o.op = .indexAddr t x y) (ht : P.underlying t = some (.array n e)) (hi : TI P e ze sz be)
    (hx : ev f x = some (.pointer (some ⟨i, q, none⟩))) (hy : ev f y = some (.int k j)) (h0 : 0 ≤ j) (h1 : j < n) (e1 : q + j.toNat * sz = p) (kk : K (pt f o.dst (.pointer (some ⟨i, p, none⟩))) h) : OpJ P gs m N o K Kp f h := by
  subst e1
  refine OpJ.val (fun σ ac w F S => ?_) kk
  have ey := (F.ev hy).scal_eq rfl
  have hr := F.ev hx
  generalize hu : ac.eval x = u at hr
  cases hr with
  | @ptr _ _ l hl =>
    refine ⟨.pointer (some ⟨l.b, l.o + q + j.toNat * sz, none⟩), ?_, by rw [Nat.add_assoc]; exact .ptr hl⟩
    simp [execOp, ho, hu, ey, Instr.indexAt, asIntOf, run_underlying ht, h0, h1, hi.sizeOf, add_plain, Instr.sureAddr]
/-- A field of one cell, of a struct's value. -/
theorem OpJ.field {t tf : TypeId} {d : TypeDesc} {fs : Array Field} {fd : Field} {x : Operand} {j : Nat} {xs : Array Value} {v : Value} (ho : o.op = .field t x j) (ht : P.underlying t = some (.struct fs)) (hf : fs[j]? = some fd) (hft : fd.type = tf) (hd : P.underlying tf = some d) (ha : aggD d = false)
    (hx : ev f x = some (.agg xs)) (hv : xs.toList[fd.offset]? = some v) (kk : K (pt f o.dst v) h) : OpJ P gs m N o K Kp f h := by
  refine OpJ.val (fun σ ac w F S => ?_) kk
  have hr := F.ev hx
  generalize hu : ac.eval x = u at hr
  cases hr with
  | @agg _ ys hl hh =>
    have hv' : xs[fd.offset]? = some v := by simpa using hv
    have hlt := (Array.getElem?_eq_some_iff.1 hv').1
    have hy : ys[fd.offset]? = some (ys[fd.offset]'(by omega)) := Array.getElem?_eq_getElem (by omega)
    refine ⟨ys[fd.offset]'(by omega), ?_, hh _ _ _ hv' hy⟩
    subst hft
    simp [execOp, ho, hu, Instr.field, run_underlying ht, hf, part, run_isAgg hd, ha, asAgg, hy]
end
end Go.J
