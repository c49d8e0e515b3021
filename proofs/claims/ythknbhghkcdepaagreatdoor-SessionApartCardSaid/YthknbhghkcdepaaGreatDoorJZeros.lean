/- The program logic J, part 22: append of zeros (make's elements). No condition. -/
import Derived.Test.YthknbhghkcdepaaGreatDoorJFOps
set_option maxHeartbeats 4000000
set_option linter.unusedVariables false
set_option linter.unusedSimpArgs false
namespace Go.J
section
variable {P : Program} {gs : List (Nat × Obj)} {m N : Nat} {K : AFr → List Blk → Prop} {Kp : Value → AFr → List Blk → Prop} {f : AFr} {h : List Blk} {o : Oper} {C : Cx} {σ : St} {w : World}

theorem run_append_zeros {t t2 e ty : TypeId} {k2 : IntKind} {z : Value} {sz bz : Nat} {k : Nat} (ht : P.underlying t = some (.slice e)) (ht2 : P.underlying t2 = some (.int k2)) (ti : TI P e z sz bz)
    (hk : 0 < k) (hbig : k * bz ≤ 140737488355328) (hb0 : 0 < bz) (hs0 : sz ≠ 0) :
    ∃ c' d, k ≤ c' ∧ (Builtin.append_ #[t, t2] ty #[.slice none 0 0, .int .i64 k]).run P w = .ok (.slice (some ⟨w.heap.size, 0, none⟩) k c') { w with drawn := d, heap := w.heap.push (.cells (Builtin.zeroCells z.cells k ++ Builtin.zeroCells z.cells (c' - k)) e) } := by
  obtain ⟨i, hi, hbz, hsz, hzz⟩ := ti.tinfo w
  have hnk : k ≤ 140737488355328 := Nat.le_trans (Nat.le_mul_of_pos_right _ hb0) hbig
  have hcap := nextslicecap_le k 0 hk
  have hc2 : Builtin.nextslicecap k 0 * bz ≤ 281474976710656 := by
    have := Nat.mul_le_mul_right bz hcap
    rw [Nat.mul_assoc] at this
    omega
  have hmx : IntKind.i64.max = 9223372036854775807 := by decide
  generalize hq : (Question.cut (.appendCap k 0 e) (w.tape w.drawn (.appendCap k 0 e))) = c'
  have hle : k ≤ c' := by rw [← hq]; simp [Question.cut]
  have hzr := ti.zero { w with drawn := w.drawn + 1 }
  have hw : IntKind.i64.wrap (k : Int) = k := wrap64 (by omega)
  refine ⟨c', w.drawn + 1, hle, ?_⟩
  unfold Builtin.append_
  simp only [List.getElem?_toArray, List.getElem?_cons_zero, List.getElem?_cons_succ, Sem.run_bind, run_underlying ht, Result.andThen_ok, ti.sizeOf, run_underlying ht2, Sem.run_pure]
  have ha : (asIntOf (.int .i64 (k : Int))).run P w = .ok (.i64, (k : Int)) w := by simp [asIntOf]
  simp [choose, Sem.run, Question.forced, askRoom, hmx, asInt, ha, hw, Result.andThen]
  rw [if_neg (by omega)]
  simp only [hi, Result.andThen, hbz]
  rw [if_neg (by
    have := Int.ofNat_le.2 hbig
    simp only [Int.natCast_mul] at this
    omega)]
  rw [if_neg (by omega), if_neg (by omega)]
  rw [if_neg (by omega)]
  have hi2 : (typeInfo e).run P w.drew = .ok i w.drew := by
    obtain ⟨j, hj, _⟩ := ti.info
    simp [typeInfo, hj] at hi ⊢
    exact hi
  have hf : (Builtin.firstCells sz 0 (.slice none 0 0)).run P w.drew = .ok #[] w.drew := by simp [Builtin.firstCells]
  have hz2 : (zeroValue e).run P w.drew = .ok z w.drew := hzr
  simp only [hi2, hf, hz2, hq]
  rw [if_neg (fun h0 => by rcases Nat.mul_eq_zero.1 h0 with h | h <;> omega)]
  simp only [run_newRow, hz2]
  simp [hz2]
  exact ⟨rfl, rfl, rfl⟩
end
end Go.J
