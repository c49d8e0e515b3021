/- The program logic J, part 21: operations on values told by their cells. No condition. -/
import Derived.Test.YthknbhghkcdepaaGreatDoorJFroz
set_option maxHeartbeats 4000000
set_option linter.unusedVariables false
set_option linter.unusedSimpArgs false
namespace Go.J
section
variable {P : Program} {gs : List (Nat × Obj)} {m N : Nat} {K : AFr → List Blk → Prop} {Kp : Value → AFr → List Blk → Prop} {f : AFr} {h : List Blk} {o : Oper} {C : Cx} {σ : St} {w : World}

theorem VR.fz_form {es n : Nat} {vs : List Value} {v' : Value} (h : VR σ (FZ es n vs) v') : ∃ a c, v' = .slice a n c ∧ n ≤ c ∧ (0 < n → a.isSome = true) := by
  rcases h.fz_inv.fz_inv with ⟨b, o, c, vs', cs, rfl, hn, _⟩ | ⟨a, c, rfl, rfl, _⟩
  · exact ⟨_, _, rfl, hn, fun _ => rfl⟩
  · exact ⟨_, _, rfl, Nat.zero_le _, fun h => by omega⟩
theorem OpJ.lenFZ {t : TypeId} {e : TypeId} {x : Operand} {es n : Nat} {vs : List Value} (ho : o.op = .call { callee := .builtin .len, args := #[x], argTypes := #[t] }) (ht : P.underlying t = some (.slice e)) (hx : ev f x = some (FZ es n vs))
    (kk : K (pt f o.dst (.int .i64 n)) h) : OpJ P gs m N o K Kp f h := by
  refine OpJ.val (fun σ ac w F S => ?_) kk
  obtain ⟨a, c, ex, _⟩ := (F.ev hx).fz_form
  exact ⟨.int .i64 n, by simp [execOp, ho, resolve, invoke, builtin, ex, Builtin.len_, run_underlying ht, goInt], .int _ _⟩
/-- The memory behind a frozen block. -/
theorem Sim.zcell (S : Sim gs σ h w) {b : Nat} {cs : Array Value} (hb : (b, cs) ∈ σ.z) {q : Nat} {v : Value} (hv : cs[q]? = some v) : w.cell? ⟨b, q, none⟩ = some v := by
  obtain ⟨t, fr, hw⟩ := S.frz _ hb
  simp only at hw
  simp [World.cell?, hw, hv]
theorem OpJ.indexFZ {t e : TypeId} {x y : Operand} {es n : Nat} {vs : List Value} {k : IntKind} {j : Int} {ze : Value} {be : Nat} (us : List Value) (ho : o.op = .indexAddr t x y) (ht : P.underlying t = some (.slice e)) (hi : TI P e ze es be)
    (hx : ev f x = some (FZ es n vs)) (hy : ev f y = some (.int k j)) (h0 : 0 ≤ j) (h1 : j < n) (hu : vs.drop (j.toNat * es) = us) (kk : K (pt f o.dst (PZ us)) h) : OpJ P gs m N o K Kp f h := by
  subst hu
  refine OpJ.val (fun σ ac w F S => ?_) kk
  have ey := (F.ev hy).scal_eq rfl
  have hr := F.ev hx
  rcases hr.fz_inv.fz_inv with ⟨b, q, c, vs', cs, ex, hn, hz, hl, hl', hc, hzr⟩ | ⟨a, c, _, hn, _⟩
  · refine ⟨.pointer (some ⟨b, q + j.toNat * es, none⟩), ?_, .pz (.pz (vs' := vs'.drop (j.toNat * es)) hz (by simp [hl']) (fun i v hv => ?_) (fun i x y hx hy => ?_))⟩
    · simp [execOp, ho, ex, ey, Instr.indexAt, asIntOf, run_underlying ht, h0, h1, hi.sizeOf, add_plain]
    · rw [List.getElem?_drop] at hv
      rw [Nat.add_assoc]; exact hc _ v hv
    · rw [List.getElem?_drop] at hx hy
      exact hzr _ x y hx hy
  · omega
theorem OpJ.loadPZ {t : TypeId} {d : TypeDesc} {x : Operand} {v : Value} {r : List Value} (ho : o.op = .load t x) (ht : P.underlying t = some d) (hd : aggD d = false) (hx : ev f x = some (PZ (v :: r))) (hv : zb v = true) (kk : K (pt f o.dst v) h) : OpJ P gs m N o K Kp f h := by
  refine OpJ.val (fun σ ac w F S => ?_) kk
  obtain ⟨b, q, vs', cs, ex, hz, hl', hc, hzr⟩ := (F.ev hx).pz_inv.pz_inv
  cases vs' with
  | nil => simp at hl'
  | cons u us =>
    have h0 := hc 0 u (by simp)
    have hm := S.zcell hz h0
    refine ⟨u, ?_, ZR.vr hv (hzr 0 v u (by simp) (by simp))⟩
    simp only [Nat.add_zero] at hm
    simp [execOp, ho, ex, Instr.loadAt, Instr.sureAddr, loadVar, run_isAgg ht, hd, hm]
theorem OpJ.loadAggPZ {t : TypeId} {d : TypeDesc} {x : Operand} {sz bz : Nat} {z : Value} {vs us : List Value} (ho : o.op = .load t x) (ht : P.underlying t = some d) (hd : aggD d = true) (hi : TI P t z sz bz) (hx : ev f x = some (PZ vs)) (hu : vs.take sz = us) (hn : us.length = sz) (hzb : us.all zb = true)
    (kk : K (pt f o.dst (.agg us.toArray)) h) : OpJ P gs m N o K Kp f h := by
  refine OpJ.val (fun σ ac w F S => ?_) kk
  obtain ⟨b, q, vs', cs, ex, hz, hl', hc, hzr⟩ := (F.ev hx).pz_inv.pz_inv
  have hlen : (vs'.take sz).length = sz := by
    have : (vs.take sz).length = sz := by rw [hu, hn]
    rw [List.length_take] at this ⊢
    omega
  have hrun := run_loads (P := P) (w := w) (b := b) (o := q) (vc := vs'.take sz) (fun j v hv => by
    rw [List.getElem?_take] at hv
    split at hv
    · exact S.zcell hz (hc j v hv)
    · cases hv)
  rw [hlen] at hrun
  refine ⟨.agg (vs'.take sz).toArray, ?_, .agg (by simp only [List.size_toArray]; omega) (fun i x y hx hy => ?_)⟩
  · simp [execOp, ho, ex, Instr.loadAt, Instr.sureAddr, loadVar, run_isAgg ht, hd, hi.sizeOf, hrun]
  · have hx' : us[i]? = some x := by simpa using hx
    have hy' : (vs'.take sz)[i]? = some y := by simpa using hy
    refine ZR.vr (List.all_eq_true.1 hzb x (List.mem_of_getElem? hx')) ?_
    rw [← hu, List.getElem?_take] at hx'
    rw [List.getElem?_take] at hy'
    split at hx'
    · rw [if_pos ‹_›] at hy'; exact hzr i x y hx' hy'
    · cases hx'
theorem OpJ.fieldPZ {t : TypeId} {fs : Array Field} {fd : Field} {x : Operand} {j sz : Nat} {zf : Value} {bf : Nat} {vs : List Value} (us : List Value) (ho : o.op = .fieldAddr t x j) (ht : P.underlying t = some (.struct fs)) (hf : fs[j]? = some fd) (hi : TI P fd.type zf sz bf) (hz : sz ≠ 0)
    (hx : ev f x = some (PZ vs)) (hu : vs.drop fd.offset = us) (kk : K (pt f o.dst (PZ us)) h) : OpJ P gs m N o K Kp f h := by
  subst hu
  refine OpJ.val (fun σ ac w F S => ?_) kk
  obtain ⟨b, q, vs', cs, ex, hz', hl', hc, hzr⟩ := (F.ev hx).pz_inv.pz_inv
  refine ⟨.pointer (some ⟨b, q + fd.offset, none⟩), ?_, .pz (.pz (vs' := vs'.drop fd.offset) hz' (by simp [hl']) (fun i v hv => ?_) (fun i x y hx hy => ?_))⟩
  · simp [execOp, ho, ex, Instr.fieldAt, run_underlying ht, hf, Instr.sureAddr, fieldPlace, hi.sizeOf, hz, add_plain]
  · rw [List.getElem?_drop] at hv
    rw [Nat.add_assoc]; exact hc _ v hv
  · rw [List.getElem?_drop] at hx hy
    exact hzr _ x y hx hy
theorem Src.fz {x : Operand} {sz k : Nat} {ys : List Value} (hx : ev f x = some (FZ sz k ys)) (hl : ys.length = k * sz) (hz : ys.all zb = true) : Src P gs N f h x sz k ys := by
  refine ⟨hl, fun σ w a S F => ⟨all_one0 (all_scal_one hz), ?_, fun j hj => ?_⟩⟩
  · obtain ⟨b, c, ex, _⟩ := (F.ev hx).fz_form
    simp [ex, Builtin.lenOf]
  · rcases (F.ev hx).fz_inv.fz_inv with ⟨b, q, c, vs', cs, ex, hn, hzz, hl2, hl', hc, hzr⟩ | ⟨b, c, ex, rfl, rfl⟩
    · have hjs : j * sz ≤ k * sz := Nat.mul_le_mul_right _ hj
      refine ⟨vs'.take (j * sz), by rw [List.length_take]; omega, fun i v hv hlt => ?_, fun d => ?_⟩
      · have hlt2 : i < vs'.length := by have := (List.getElem?_eq_some_iff.1 hv).1; omega
        refine ⟨vs'[i], by rw [List.getElem?_take, if_pos hlt]; exact List.getElem?_eq_getElem hlt2, ZR.vr (List.all_eq_true.1 hz v (List.mem_of_getElem? hv)) (hzr i v _ hv (List.getElem?_eq_getElem hlt2))⟩
      · have hr := run_loads (P := P) (w := { w with drawn := d }) (b := b) (o := q) (vc := vs'.take (j * sz)) (fun i v hv => by
          rw [List.getElem?_take] at hv
          split at hv
          · exact (S.draw d).zcell hzz (hc i v hv)
          · cases hv)
        have hlen : (vs'.take (j * sz)).length = j * sz := by rw [List.length_take]; omega
        rw [hlen] at hr
        rw [ex]
        simp only [Builtin.firstCells]
        exact hr
    · obtain rfl : j = 0 := by omega
      exact ⟨[], by simp, fun i v hv => by simp at hv, fun d => by rw [ex]; cases b <;> simp [Builtin.firstCells, loadCells, loadCellsFrom]⟩
theorem OpJ.sliceFZ {t e : TypeId} {x : Operand} {lo hi mx : Option Operand} {es n bz : Nat} {z : Value} {vs : List Value} (l r n' : Nat) (us : List Value) (ho : o.op = .slice t x lo hi mx) (ht : P.underlying t = some (.slice e)) (ti : TI P e z es bz)
    (hx : ev f x = some (FZ es n vs)) (hlo : bnd f lo 0 l) (hhi : bnd f hi n r) (hmx : mx = none ∨ ∃ y u, mx = some y ∧ (∃ k, ev f y = some (.int k ((u : Nat) : Int))) ∧ r ≤ u ∧ u ≤ n) (hmh : mx.isSome = true → hi.isSome = true) (h1 : l ≤ r) (h2 : r ≤ n)
    (hn' : r - l = n') (hl : vs.length = n * es) (hus : (vs.drop (l * es)).take (n' * es) = us) (kk : K (pt f o.dst (FZ es n' us)) h) : OpJ P gs m N o K Kp f h := by
  subst hn' hus
  refine OpJ.val (fun τ ac w F S => ?_) kk
  have run : ∀ (a : Option Addr) (c : Nat), n ≤ c → (ac.eval x = .slice a n c) → ∃ u, r ≤ u ∧ u ≤ c ∧ (execOp ac.eval o).run P w = .ok (.value (.slice (if u = l then a else a.map (·.add (l * es))) (r - l) (u - l))) w := by
    intro a c hnc ha
    rcases hmx with rfl | ⟨y3, u, rfl, hmx, hru, hun⟩
    · have hbs : (Instr.sliceBounds true n c (lo.map ac.eval) (hi.map ac.eval) ((none : Option Operand).map ac.eval)).run P w = .ok (l, r, c) w := by
        unfold Instr.sliceBounds
        cases hi with
        | none =>
          simp only [bnd] at hhi; subst hhi
          cases lo with
          | none => simp only [bnd] at hlo; subst hlo; simp
          | some y => simp [bnd_run F hlo r _ h1]
        | some y2 =>
          cases lo with
          | none => simp only [bnd] at hlo; subst hlo; simp [bnd_run F hhi c _ (show r ≤ c by omega)]
          | some y => simp [bnd_run F hlo r _ h1, bnd_run F hhi c _ (show r ≤ c by omega)]
      refine ⟨c, by omega, Nat.le_refl _, ?_⟩
      simp only [Option.map_none] at hbs
      simp [execOp, ho, Instr.sliceAt, run_underlying ht, Instr.slice, ha, hbs, ti.sizeOf]
    · have hbs : (Instr.sliceBounds true n c (lo.map ac.eval) (hi.map ac.eval) ((some y3 : Option Operand).map ac.eval)).run P w = .ok (l, r, u) w := by
        unfold Instr.sliceBounds
        cases hi with
        | none => simp at hmh
        | some y2 =>
          cases lo with
          | none => simp only [bnd] at hlo; subst hlo; simp [bnd_run F hmx c _ (show u ≤ c by omega), bnd_run F hhi u _ hru]
          | some y => simp [bnd_run F hmx c _ (show u ≤ c by omega), bnd_run F hlo r _ h1, bnd_run F hhi u _ hru]
      refine ⟨u, hru, by omega, ?_⟩
      simp only [Option.map_some] at hbs
      simp [execOp, ho, Instr.sliceAt, run_underlying ht, Instr.slice, ha, hbs, ti.sizeOf]
  rcases (F.ev hx).fz_inv.fz_inv with ⟨b, q, c, vs', cs, ex, hn, hz, hl2, hl', hc, hzr⟩ | ⟨a, c, ex, rfl, rfl⟩
  · obtain ⟨u, hu1, hu2, hrun⟩ := run _ c hn ex
    refine ⟨_, hrun, .fz ?_⟩
    by_cases e1 : r = l
    · have e2 : r - l = 0 := by omega
      rw [e2]
      simp only [Nat.zero_mul, List.take_zero]
      exact .fz0
    · rw [if_neg (by omega)]
      simp only [Option.map_some, add_plain]
      have hle : (r - l) * es + l * es ≤ n * es := by rw [← Nat.add_mul]; exact Nat.mul_le_mul_right _ (by omega)
      refine .fz (vs' := (vs'.drop (l * es)).take ((r - l) * es)) hz (by simp; omega) (by simp [hl']) (fun i v hv => ?_) (fun i x y hx hy => ?_) (by omega)
      · rw [List.getElem?_take] at hv
        split at hv
        · rw [List.getElem?_drop] at hv; rw [Nat.add_assoc]; exact hc _ v hv
        · cases hv
      · rw [List.getElem?_take] at hx hy
        split at hx
        · rw [if_pos ‹_›] at hy
          rw [List.getElem?_drop] at hx hy
          exact hzr _ x y hx hy
        · cases hx
  · obtain ⟨u, hu1, hu2, hrun⟩ := run a c (Nat.zero_le _) ex
    refine ⟨_, hrun, .fz ?_⟩
    have e2 : r - l = 0 := by omega
    rw [e2]
    simp only [Nat.zero_mul, List.drop_nil, List.take_nil]
    exact .fz0
theorem OpJ.toTextFZ {t s e : TypeId} {x : Operand} {n : Nat} {l : List UInt8} (ho : o.op = .convert s t x) (hs : P.underlying s = some (.slice e)) (he : P.underlying e = some (.int .u8)) (ht : P.underlying t = some .string)
    (hx : ev f x = some (FZ 1 n (bytesC l))) (hn : l.length = n) (kk : K (pt f o.dst (.string ⟨l.toArray⟩)) h) : OpJ P gs m N o K Kp f h := by
  subst hn
  refine OpJ.val (fun τ a w F S => ⟨.string ⟨l.toArray⟩, ?_, .string _⟩) kk
  rcases (F.ev hx).fz_inv.fz_inv with ⟨b, q, c, vs', cs, ex, hn, hz, hl2, hl', hc, hzr⟩ | ⟨b, c, ex, hn, hv⟩
  · have hlen : vs'.length = l.length := by rw [hl', bytesC_length]
    have hrun := run_convert_bytes_arg w s e hs he b q l.length c (l.map fun b => (b.toNat : Int)) (by simp) (fun j hj => by
      have h1 : (bytesC l)[j]? = some (.int .u8 (l[j].toNat : Nat)) := by rw [bytesC_get, List.getElem?_eq_getElem hj]; rfl
      have h2 : vs'[j]? = some (vs'[j]'(by omega)) := List.getElem?_eq_getElem _
      have h3 := hzr j _ _ h1 h2
      have h4 : vs'[j]'(by omega) = .int .u8 (l[j].toNat : Nat) := by
        generalize vs'[j]'(by omega) = y at h3
        have := (ZR.vr (σ := τ) (v := .int .u8 (l[j].toNat : Nat)) rfl h3).scal_eq rfl
        exact this
      rw [h4] at h2
      rw [S.zcell hz (hc j _ h2)]
      simp [hj]) t ht
    rw [strOfNums_bytes] at hrun
    simp [execOp, ho, ex, hrun]
  · have hl0 : l = [] := by
      cases l with
      | nil => rfl
      | cons a l => simp [bytesC] at hv
    subst hl0
    cases b with
    | none =>
      have := run_convert_bytes_nil (P := P) w s e hs he 0 c t ht
      simp only [execOp, ho, ex, Sem.run_bind, this, Result.andThen_ok, Sem.run_pure]
      rfl
    | some b =>
      simp [execOp, ho, ex, convert, run_underlying hs, run_underlying he, run_underlying ht, Conv.bytesToString, loadCells, loadCellsFrom]
      rfl
/-- A slice with elements isn't nil. -/
theorem OpJ.eqNilFZ {t t' e : TypeId} {x y : Operand} {es n : Nat} {vs : List Value} (ho : o.op = .binOp .eql t x y t') (ht : P.underlying t = some (.slice e)) (hx : ev f x = some (FZ es n vs)) (hy : ev f y = some (.slice none 0 0))
    (kk : ∀ q : Bool, (0 < n → q = false) → K (pt f o.dst (.bool q)) h) : OpJ P gs m N o K Kp f h := by
  intro hd C σ w a next Qe hC I F hnx hp
  obtain ⟨b', c, ex, _, hb⟩ := (F.ev hx).fz_form
  have ey := (F.ev hy).scal_eq rfl
  have run : (execOp a.eval o).run P w = .ok (.value (.bool b'.isNone)) w := by simp [execOp, ho, ex, ey, eqGuard, Lib.run_eql_slice_nil w t e b' n c 0 0 ht]
  unfold Oper.wp
  rw [run]
  exact hnx σ _ _ _ w I (F.put (.bool _) hd) (kk _ (fun h0 => by have := hb h0; cases b' <;> simp_all))
theorem OpJ.neNilFZ {t t' e : TypeId} {x y : Operand} {es n : Nat} {vs : List Value} (ho : o.op = .binOp .neq t x y t') (ht : P.underlying t = some (.slice e)) (hx : ev f x = some (FZ es n vs)) (hy : ev f y = some (.slice none 0 0))
    (kk : ∀ q : Bool, (0 < n → q = true) → K (pt f o.dst (.bool q)) h) : OpJ P gs m N o K Kp f h := by
  intro hd C σ w a next Qe hC I F hnx hp
  obtain ⟨b', c, ex, _, hb⟩ := (F.ev hx).fz_form
  have ey := (F.ev hy).scal_eq rfl
  have run : (execOp a.eval o).run P w = .ok (.value (.bool (!b'.isNone))) w := by
    simp only [execOp, ho, ex, ey, eqGuard, Sem.run_bind, Sem.run_pure, Result.andThen_ok]
    simp [Go.run_neq_slice_nil_any w t e b' n c 0 0 ht]
  unfold Oper.wp
  rw [run]
  exact hnx σ _ _ _ w I (F.put (.bool _) hd) (kk _ (fun h0 => by have := hb h0; cases b' <;> simp_all))
/-- New bytes, told as a value. -/
theorem Pure.fz {g : FuncId} {ds : List Arg} {l : List UInt8} (h0 : locHeap ds = []) (hP : Pure P gs g ds (rB l)) : Pure P gs g ds (rS (FZ 1 l.length (bytesC l))) := by
  refine ⟨Sh.rS (fun _ => .same rfl), fun vs hv => ?_⟩
  have := hP.2 vs hv
  rw [h0] at this ⊢
  refine Spec.wk this ?_ ?_
  · rintro v h' ⟨new, rfl, c, hc, ho, rfl⟩
    cases ho
    refine ⟨FZ 1 l.length (bytesC l), [], Wk.trans (Wk.freeze (i := 0) (t := 0) (es := 1) (n := l.length) (c := c) (cells := bytesC l) rfl rfl (bytesC_scal l) (by simp [bytesC_length]) (by decide)) (Wk.ofC [] trivial rfl rfl ⟨⟨_, rfl, .same rfl⟩, trivial⟩), [], rfl, rfl, rfl⟩
  · rintro v h' ⟨new, rfl, c, hc, ho, rfl⟩
    cases ho
/-- Bytes told as a value, appended to a slice of ours. -/
theorem OpJ.appendF {t t2 e : TypeId} {d2 : TypeDesc} {x y : Operand} {i c n : Nat} {l k : List UInt8} (ho : o.op = .call { callee := .builtin .append, args := #[x, y], argTypes := #[t, t2] })
    (ht : P.underlying t = some (.slice e)) (ht2 : P.underlying t2 = some d2) (hd2 : notInt d2 = true) (ti : TI P e (.int .u8 0) 1 1)
    (hx : ev f x = some (.slice (some ⟨i, 0, none⟩) l.length c)) (hb : h[i]? = some ⟨bytesC l, .w, 1⟩) (hy : ev f y = some (FZ 1 n (bytesC k))) (hn : n = k.length) (hbig : l.length + k.length ≤ 140737488355328)
    (kk : ∀ c', (l ++ k).length ≤ c' → K (pt f o.dst (.slice (some ⟨h.length, 0, none⟩) (l ++ k).length c')) (h.set i ⟨[], .d, 1⟩ ++ [⟨bytesC (l ++ k), .w, 1⟩])) : OpJ P gs m N o K Kp f h := by
  subst hn
  refine OpJ.append (xs := bytesC l) ho ht ht2 hd2 ti rfl hx hb rfl rfl (by simp [List.take_of_length_le, bytesC_length]) (by simp [bytesC_length]) (Src.fz hy (by simp [bytesC_length]) (bytesC_scal k)) (bytesC_one k) (by omega) (by omega) ?_
  intro c' hc
  have := kk c' (by simpa using hc)
  simpa [bytesC_append] using this
end
end Go.J
