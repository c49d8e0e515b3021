/- The program logic J, part 8: slices cut, made, appended to, copied; bytes and texts. No condition. -/
import Derived.Test.YthknbhghkcdepaaGreatDoorJSlices
set_option maxHeartbeats 4000000
set_option linter.unusedVariables false
set_option linter.unusedSimpArgs false
namespace Go.J
section
variable {P : Program} {gs : List (Nat × Obj)} {m N : Nat} {K : AFr → List Blk → Prop} {Kp : Value → AFr → List Blk → Prop} {f : AFr} {h : List Blk} {o : Oper} {C : Cx} {σ : St} {w : World}

/-! #### cuts -/
def bnd (f : AFr) (y : Option Operand) (dflt : Nat) (n : Nat) : Prop := match y with
  | none => n = dflt
  | some x => ∃ k, ev f x = some (.int k n)
theorem bnd_run {τ : St} {a : Act} (F : FR τ N f a) {x : Operand} {n : Nat} (hb : ∃ k, ev f x = some (.int k n)) (y : Nat) (code : BoundsCode) (hle : n ≤ y) : (Instr.sliceBound (a.eval x) y code).run P w = .ok n w := by
  obtain ⟨k, hk⟩ := hb
  have := (F.ev hk).scal_eq rfl
  rw [this]
  simp [Instr.sliceBound, asIntOf]
  omega
/-- A cut of a slice: from lo to hi, up to the place mx. -/
theorem OpJ.slice {t e : TypeId} {x : Operand} {lo hi mx : Option Operand} {i q n c l r u sz bz : Nat} {z : Value} {B : Blk} (ho : o.op = .slice t x lo hi mx) (ht : P.underlying t = some (.slice e)) (ti : TI P e z sz bz)
    (hx : ev f x = some (.slice (some ⟨i, q, none⟩) n c)) (hb : h[i]? = some B) (hm : live B = true) (hes : B.es = sz)
    (hlo : bnd f lo 0 l) (hhi : bnd f hi n r) (hmx : bnd f mx c u) (hmh : mx.isSome = true → hi.isSome = true) (h1 : l ≤ r) (h2 : r ≤ u) (h3 : u ≤ c)
    (kk : K (pt f o.dst (.slice (some ⟨i, q + l * sz, none⟩) (r - l) (u - l))) h) : OpJ P gs m N o K Kp f h := by
  refine OpJ.val (fun τ ac w F S => ?_) kk
  have hr := F.ev hx
  obtain ⟨ll, hll, hle, _⟩ := S.live i B hb (live_md hm)
  have run : ∀ (a : Option Addr) (c2 : Nat), c ≤ c2 → (ac.eval x = .slice a n c2) → ∃ u2, u ≤ u2 ∧ u2 ≤ c2 ∧ (execOp ac.eval o).run P w = .ok (.value (.slice (if u2 = l then a else a.map (·.add (l * sz))) (r - l) (u2 - l))) w := by
    intro a c2 hcc ha
    have hbs : ∃ u2, u ≤ u2 ∧ u2 ≤ c2 ∧ (Instr.sliceBounds true n c2 (lo.map ac.eval) (hi.map ac.eval) (mx.map ac.eval)).run P w = .ok (l, r, u2) w := by
      unfold Instr.sliceBounds
      cases mx with
      | none =>
        simp only [bnd] at hmx; subst hmx
        refine ⟨c2, hcc, Nat.le_refl _, ?_⟩
        cases hi with
        | none =>
          simp only [bnd] at hhi; subst hhi
          cases lo with
          | none => simp only [bnd] at hlo; subst hlo; simp
          | some y => simp [bnd_run F hlo r _ h1]
        | some y2 =>
          have h2' : r ≤ c2 := by omega
          cases lo with
          | none => simp only [bnd] at hlo; subst hlo; simp [bnd_run F hhi c2 _ h2']
          | some y => simp [bnd_run F hlo r _ h1, bnd_run F hhi c2 _ h2']
      | some y3 =>
        refine ⟨u, Nat.le_refl _, by omega, ?_⟩
        have h3' : u ≤ c2 := by omega
        cases hi with
        | none => simp at hmh
        | some y2 =>
          cases lo with
          | none => simp only [bnd] at hlo; subst hlo; simp [bnd_run F hmx c2 _ h3', bnd_run F hhi u _ h2]
          | some y => simp [bnd_run F hmx c2 _ h3', bnd_run F hlo r _ h1, bnd_run F hhi u _ h2]
    obtain ⟨u2, a1, a2, hbs⟩ := hbs
    exact ⟨u2, a1, a2, by simp [execOp, ho, Instr.sliceAt, run_underlying ht, Instr.slice, ha, hbs, ti.sizeOf]⟩
  generalize hu : ac.eval x = v' at hr
  cases hr with
  | @sl _ _ _ _ c0 l0 hl hn hcc hc =>
    obtain ⟨u2, b1, b2, hrun⟩ := run _ c0 hcc hu
    refine ⟨_, hrun, ?_⟩
    rw [hl] at hll
    obtain rfl := Option.some.inj hll
    by_cases e1 : u2 = l
    · rw [if_pos e1]
      have a1 : r - l = 0 := by omega
      have a2 : u - l = 0 := by omega
      have a3 : u2 - l = 0 := by omega
      rw [a1, a2, a3]
      exact .slz
    · rw [if_neg e1]
      simp only [Option.map_some, add_plain, Nat.add_assoc]
      have he := hle.trans hes
      rw [he] at hc
      refine VR.sl hl (by omega) (by omega) ?_
      rw [he]
      have : (u2 - l) * sz = u2 * sz - l * sz := Nat.sub_mul ..
      have : l * sz ≤ u2 * sz := Nat.mul_le_mul_right _ (by omega)
      have : u2 * sz ≤ c0 * sz := Nat.mul_le_mul_right _ b2
      omega
  | slz =>
    obtain ⟨u2, b1, b2, hrun⟩ := run _ _ (Nat.le_refl _) hu
    refine ⟨_, hrun, ?_⟩
    have a1 : u2 = l := by omega
    have a2 : r - l = 0 := by omega
    have a3 : u2 - l = 0 := by omega
    have a4 : u - l = 0 := by omega
    rw [if_pos a1, a2, a3, a4]
    exact .slz
theorem OpJ.sliceNil {t e : TypeId} {x : Operand} {lo hi mx : Option Operand} {sz bz : Nat} {z : Value} (ho : o.op = .slice t x lo hi mx) (ht : P.underlying t = some (.slice e)) (ti : TI P e z sz bz)
    (hx : ev f x = some (.slice none 0 0)) (hlo : bnd f lo 0 0) (hhi : bnd f hi 0 0) (hmx : bnd f mx 0 0) (hmh : mx.isSome = true → hi.isSome = true)
    (kk : K (pt f o.dst (.slice none 0 0)) h) : OpJ P gs m N o K Kp f h := by
  refine OpJ.val (fun τ ac w F S => ⟨.slice none 0 0, ?_, .sl0⟩) kk
  have ha := (F.ev hx).scal_eq rfl
  have hbs : (Instr.sliceBounds true 0 0 (lo.map ac.eval) (hi.map ac.eval) (mx.map ac.eval)).run P w = .ok (0, 0, 0) w := by
    unfold Instr.sliceBounds
    cases mx with
    | none =>
      cases hi with
      | none =>
        cases lo with
        | none => simp
        | some y => simp [bnd_run F hlo 0 _ (Nat.le_refl _)]
      | some y2 =>
        cases lo with
        | none => simp [bnd_run F hhi 0 _ (Nat.le_refl _)]
        | some y => simp [bnd_run F hlo 0 _ (Nat.le_refl _), bnd_run F hhi 0 _ (Nat.le_refl _)]
    | some y3 =>
      cases hi with
      | none => simp at hmh
      | some y2 =>
        cases lo with
        | none => simp [bnd_run F hmx 0 _ (Nat.le_refl _), bnd_run F hhi 0 _ (Nat.le_refl _)]
        | some y => simp [bnd_run F hmx 0 _ (Nat.le_refl _), bnd_run F hlo 0 _ (Nat.le_refl _), bnd_run F hhi 0 _ (Nat.le_refl _)]
  simp [execOp, ho, Instr.sliceAt, run_underlying ht, Instr.slice, ha, hbs, ti.sizeOf]
theorem OpJ.sliceS {t : TypeId} {x : Operand} {lo hi : Option Operand} {s : ByteArray} {l r : Nat} (ho : o.op = .slice t x lo hi none) (ht : P.underlying t = some .string)
    (hx : ev f x = some (.string s)) (hlo : bnd f lo 0 l) (hhi : bnd f hi s.size r) (h1 : l ≤ r) (h2 : r ≤ s.size)
    (kk : K (pt f o.dst (.string (s.extract l r))) h) : OpJ P gs m N o K Kp f h := by
  refine OpJ.val (fun τ ac w F S => ⟨.string (s.extract l r), ?_, .string _⟩) kk
  have ha := (F.ev hx).scal_eq rfl
  have hbs : (Instr.sliceBounds false s.size s.size (lo.map ac.eval) (hi.map ac.eval) none).run P w = .ok (l, r, s.size) w := by
    unfold Instr.sliceBounds
    cases hi with
    | none =>
      simp only [bnd] at hhi; subst hhi
      cases lo with
      | none => simp only [bnd] at hlo; subst hlo; simp
      | some y => simp [bnd_run F hlo _ _ h1]
    | some y2 =>
      cases lo with
      | none => simp only [bnd] at hlo; subst hlo; simp [bnd_run F hhi _ _ h2]
      | some y => simp [bnd_run F hlo _ _ h1, bnd_run F hhi _ _ h2]
  simp [execOp, ho, Instr.sliceAt, run_underlying ht, Instr.slice, ha, hbs]

/-! #### what is appended or copied -/
theorem Sim.one0s (S : Sim gs σ h w) {i : Nat} {B : Blk} (hb : h[i]? = some B) (hd : B.md = .d → False) : ∀ v ∈ B.cells, one0 v = true := by
  obtain ⟨l, _, _, ⟨_, h0⟩ | ⟨_, _, _, _, _, _, _, _, h1⟩⟩ := S.live i B hb hd
  · rw [h0]; intro v hv; cases hv
  · exact h1
structure Src (P : Program) (gs : List (Nat × Obj)) (N : Nat) (f : AFr) (h : List Blk) (x : Operand) (sz k : Nat) (ys : List Value) : Prop where
  len : ys.length = k * sz
  run : ∀ (σ : St) (w : World) (a : Act), Sim gs σ h w → FR σ N f a → (∀ v ∈ ys, one0 v = true) ∧ (Builtin.lenOf (a.eval x)).run P w = .ok k w ∧
    ∀ j, j ≤ k → ∃ yc : List Value, yc.length = j * sz ∧ (∀ (q : Nat) (v : Value), ys[q]? = some v → q < j * sz → ∃ v', yc[q]? = some v' ∧ VR σ v v') ∧ ∀ d, (Builtin.firstCells sz j (a.eval x)).run P { w with drawn := d } = .ok yc.toArray { w with drawn := d }
theorem Src.nil {x : Operand} {sz : Nat} (hx : ev f x = some (.slice none 0 0)) : Src P gs N f h x sz 0 [] := by
  refine ⟨by simp, fun σ w a S F => ?_⟩
  have ha := (F.ev hx).scal_eq rfl
  refine ⟨(fun v hv => nomatch hv), by simp [ha, Builtin.lenOf], fun j hj => ?_⟩
  obtain rfl : j = 0 := by omega
  exact ⟨[], by simp, fun q v hq => by simp at hq, fun d => by simp [ha, Builtin.firstCells]⟩
theorem Src.sl {x : Operand} {i q n c sz : Nat} {B : Blk} {ys : List Value} (hx : ev f x = some (.slice (some ⟨i, q, none⟩) n c)) (hb : h[i]? = some B) (hm : live B = true) (hys : (B.cells.drop q).take (n * sz) = ys) (hlen : ys.length = n * sz) : Src P gs N f h x sz n ys := by
  refine ⟨hlen, fun σ w a S F => ?_⟩
  have hr := F.ev hx
  refine ⟨fun v hv => ?_, ?_, ?_⟩
  · rw [← hys] at hv
    exact S.one0s hb (live_md hm) v (List.mem_of_mem_drop (List.mem_of_mem_take hv))
  · obtain ⟨b', c1, ha, _⟩ := hr.slice_form
    simp [ha, Builtin.lenOf]
  · intro j hj
    generalize hu : a.eval x = v' at hr
    cases hr with
    | @sl _ _ _ _ c1 l hl hn hcc hc =>
      have hjs : j * sz ≤ n * sz := Nat.mul_le_mul_right _ hj
      obtain ⟨vc, a1, a2, a3⟩ := S.cells (n := j * sz) (vs := ys.take (j * sz)) hl hb (live_md hm) (by rw [← hys, List.take_take, Nat.min_eq_left hjs]) (by rw [List.length_take]; omega)
      refine ⟨vc, a1, fun r v hv hlt => a2 r v (by rw [List.getElem?_take, if_pos hlt]; exact hv), fun d => ?_⟩
      have hr := run_loads (P := P) (w := { w with drawn := d }) (b := l.b) (o := l.o + q) (vc := vc) a3
      rw [a1] at hr
      simp only [Builtin.firstCells]
      exact hr
    | slz =>
      obtain rfl : j = 0 := by omega
      exact ⟨[], by simp, fun r v hv hlt => by omega, fun d => by rename_i bb; cases bb <;> simp [Builtin.firstCells, loadCells, loadCellsFrom]⟩
theorem Src.str {x : Operand} {s : ByteArray} (hx : ev f x = some (.string s)) : Src P gs N f h x 1 s.data.toList.length (bytesC s.data.toList) := by
  refine ⟨by simp [bytesC], fun σ w a S F => ?_⟩
  have ha := (F.ev hx).scal_eq rfl
  refine ⟨all_one0 (bytesC_one _), by simp [ha, Builtin.lenOf], fun j hj => ?_⟩
  refine ⟨(bytesC s.data.toList).take j, by rw [List.length_take, bytesC_length]; omega, fun q v hq hlt => ⟨v, by rw [List.getElem?_take, if_pos (by omega)]; exact hq, ?_⟩, fun d => ?_⟩
  · simp only [bytesC, List.getElem?_map, Option.map_eq_some_iff] at hq
    obtain ⟨b, _, rfl⟩ := hq
    exact .int _ _
  · simp only [ha, Builtin.firstCells]
    have : ((s.extract 0 j).data.map fun b => Value.int .u8 b.toNat) = ((bytesC s.data.toList).take j).toArray := by
      apply Array.ext'
      simp [bytesC, ByteArray.data_extract, ← List.map_take]
      intro b _
      rfl
    rw [this]
    rfl

/-! #### a cell more, behind the ones that are told -/
theorem Inv.snocs : ∀ (vs vc : List Value) (k : Nat) {h : List Blk} {w : World} {i q : Nat} {B : Blk} {l : Loc}, Inv gs C σ h w → h[i]? = some B → σ.l[i]? = some l → B.md = .w → q + k = B.cells.length → l.o + B.cells.length + vs.length ≤ l.s →
    vc.length = vs.length → (∀ (j : Nat) (v : Value), vs[j]? = some v → ∃ v', vc[j]? = some v' ∧ VR σ v v') → (∀ v ∈ vs, isOne v = true) →
    ∃ w', (storeCells ⟨l.b, l.o + q, none⟩ vc k).run P w = .ok () w' ∧ Inv gs C σ (h.set i { B with cells := B.cells ++ vs }) w'
  | [], vc, k, h, w, i, q, B, l, I, hb, hl, hm, hk, hq, hlen, hr, h1 => by
    obtain rfl : vc = [] := List.eq_nil_of_length_eq_zero (by simpa using hlen)
    refine ⟨w, by simp [storeCells], ?_⟩
    have : h.set i { B with cells := B.cells ++ [] } = h := by
      apply List.ext_getElem?
      intro j
      by_cases e : i = j
      · subst e; rw [List.getElem?_set_self (List.getElem?_eq_some_iff.1 hb).1, hb]; simp
      · rw [List.getElem?_set_ne e]
    rw [this]; exact I
  | v :: vs, vc, k, h, w, i, q, B, l, I, hb, hl, hm, hk, hq, hlen, hr, h1 => by
    cases vc with
    | nil => simp at hlen
    | cons u vc =>
      simp only [List.length_cons] at hq hlen
      obtain ⟨u', hu, hvu⟩ := hr 0 v (by simp)
      simp at hu; subst hu
      have h1v := h1 v (List.mem_cons_self ..)
      obtain ⟨hf, v0, hc⟩ := I.frozen hb hl hm (l.o + B.cells.length) (by omega)
      have I2 := I.snoc hb hl hm (by omega) hvu (isOne_one0 h1v)
      have hb2 : (h.set i { B with cells := B.cells ++ [v] })[i]? = some { B with cells := B.cells ++ [v] } := List.getElem?_set_self (List.getElem?_eq_some_iff.1 hb).1
      obtain ⟨w', hrun, I3⟩ := Inv.snocs vs vc (k + 1) (q := q) I2 hb2 hl hm (by simp; omega) (by simp; omega) (by omega) (fun j x hx => by have := hr (j + 1) x (by simpa using hx); simpa using this) (fun v hv => h1 v (List.mem_cons_of_mem _ hv))
      refine ⟨w', ?_, ?_⟩
      · simp only [storeCells, Sem.run_bind, add_plain, Nat.add_assoc, hk]
        rw [run_store_cell (hvu.one h1v) hc hf]
        simpa [Nat.add_assoc] using hrun
      · rw [List.set_set] at I3
        simpa using I3

theorem nextslicecap_le (n c : Nat) (h : c < n) : Builtin.nextslicecap n c ≤ 2 * n := by
  unfold Builtin.nextslicecap
  split
  · omega
  · split
    · omega
    · have step : ∀ r c, c ≤ 2 * n → 256 ≤ c → Builtin.growBy n r c ≤ 2 * n := by
        intro r
        induction r with
        | zero => intro c hc _; simpa [Builtin.growBy] using hc
        | succ r ih =>
          intro c hc h6
          simp only [Builtin.growBy]
          split
          · exact hc
          · exact ih _ (by omega) (by omega)
      exact step 4 c (by omega) (by omega)

theorem zeroCells_size (z : Array Value) (n : Nat) : (Builtin.zeroCells z n).size = n * z.size := by simp [Builtin.zeroCells]

def notInt : TypeDesc → Bool
  | .int _ => false
  | _ => true
/-- What an append that finds no room does. -/
theorem run_append_grows {t t2 e ty : TypeId} {d2 : TypeDesc} {z : Value} {sz bz : Nat} {base : Option Addr} {n c k : Nat} {x : Value} (ht : P.underlying t = some (.slice e)) (ht2 : P.underlying t2 = some d2) (hd2 : notInt d2 = true) (ti : TI P e z sz bz)
    (hroom : c < n + k) (hbig : (n + k) * bz ≤ 140737488355328) (hb0 : 0 < bz) (hlen : (Builtin.lenOf x).run P w = .ok k w) (old new : List Value)
    (hold : ∀ d, (Builtin.firstCells sz n (.slice base n c)).run P { w with drawn := d } = .ok old.toArray { w with drawn := d }) (hnew : ∀ d, (Builtin.firstCells sz k x).run P { w with drawn := d } = .ok new.toArray { w with drawn := d }) :
    ∃ c' d, n + k ≤ c' ∧ (Builtin.append_ #[t, t2] ty #[.slice base n c, x]).run P w = .ok (.slice (some ⟨w.heap.size, 0, none⟩) (n + k) c') { w with drawn := d, heap := w.heap.push (.cells (old.toArray ++ new.toArray ++ Builtin.zeroCells z.cells (c' - (n + k))) e) } := by
  obtain ⟨i, hi, hbz, hsz, hzz⟩ := ti.tinfo w
  have hnk : n + k ≤ 140737488355328 := Nat.le_trans (Nat.le_mul_of_pos_right _ hb0) hbig
  have hcap := nextslicecap_le (n + k) c hroom
  have hc2 : Builtin.nextslicecap (n + k) c * bz ≤ 281474976710656 := by
    have := Nat.mul_le_mul_right bz hcap
    rw [Nat.mul_assoc] at this
    omega
  have hmx : IntKind.i64.max = 9223372036854775807 := by decide
  generalize hq : (Question.cut (.appendCap (n + k) c e) (w.tape w.drawn (.appendCap (n + k) c e))) = c'
  have hle : n + k ≤ c' := by rw [← hq]; simp [Question.cut]
  have hti : ∀ d, (typeInfo e).run P { w with drawn := d } = .ok i { w with drawn := d } := fun d => by
    obtain ⟨i', hi', _⟩ := ti.tinfo { w with drawn := d }
    obtain ⟨j, hj, _⟩ := ti.info
    simp [typeInfo, hj] at hi hi' ⊢
    exact hi
  refine ⟨c', w.drawn + 1, hle, ?_⟩
  have hzr := ti.zero { w with drawn := w.drawn + 1 }
  have ho := hold (w.drawn + 1)
  have hn := hnew (w.drawn + 1)
  unfold Builtin.append_
  cases d2 <;> first | (simp [notInt] at hd2; done) | skip
  all_goals
    simp only [List.getElem?_toArray, List.getElem?_cons_zero, List.getElem?_cons_succ, Sem.run_bind, run_underlying ht, Result.andThen_ok, ti.sizeOf, run_underlying ht2, Sem.run_pure]
    simp [choose, Sem.run, Question.forced, askRoom, hmx]
    rw [hlen]
    simp only [Result.andThen_ok]
    rw [if_neg (by omega), hi]
    simp only [Result.andThen_ok]
    rw [if_neg (by omega), hi]
    simp only [Result.andThen_ok, hbz]
    rw [if_neg (by omega)]
    have hi2 : (typeInfo e).run P w.drew = .ok i w.drew := hti (w.drawn + 1)
    have ho2 : (Builtin.firstCells sz n (.slice base n c)).run P w.drew = .ok old.toArray w.drew := ho
    have hn2 : (Builtin.firstCells sz k x).run P w.drew = .ok new.toArray w.drew := hn
    have hz2 : (zeroValue e).run P w.drew = .ok z w.drew := hzr
    simp only [hi2, Result.andThen_ok, ho2, hn2, hz2, hq, run_newRow]
    have e1 : old.toArray ++ (new.toArray ++ Builtin.zeroCells z.cells (c' - (n + k))) = (old ++ new).toArray ++ Builtin.zeroCells z.cells (c' - (n + k)) := by rw [← Array.append_assoc]; simp
    rw [e1]
    rfl

/-- Append to a slice of ours: the block dies, another one has all of it. -/
theorem OpJ.append {t t2 e : TypeId} {d2 : TypeDesc} {z : Value} {sz bz : Nat} {x y : Operand} {i q n c k : Nat} {B : Blk} {ys xs : List Value} (ho : o.op = .call { callee := .builtin .append, args := #[x, y], argTypes := #[t, t2] })
    (ht : P.underlying t = some (.slice e)) (ht2 : P.underlying t2 = some d2) (hd2 : notInt d2 = true) (ti : TI P e z sz bz) (hzs : z.cells.size = sz)
    (hx : ev f x = some (.slice (some ⟨i, q, none⟩) n c)) (hb : h[i]? = some B) (hm : B.md = .w) (hes : B.es = sz) (hxs : (B.cells.drop q).take (n * sz) = xs) (hq : q + n * sz ≤ B.cells.length) (hy : Src P gs N f h y sz k ys) (hy1 : ys.all isOne = true)
    (hbig : (n + k) * bz ≤ 140737488355328) (hb0 : 0 < bz)
    (kk : ∀ c', n + k ≤ c' → K (pt f o.dst (.slice (some ⟨h.length, 0, none⟩) (n + k) c')) (h.set i ⟨[], .d, sz⟩ ++ [⟨xs ++ ys, .w, sz⟩])) : OpJ P gs m N o K Kp f h := by
  intro hd C σ w a next Qe hC I F hnx hp
  have S := I.sim
  have hv := F.ev hx
  have hxl : xs.length = n * sz := by rw [← hxs, List.length_take, List.length_drop]; omega
  obtain ⟨l, hl, he0, _⟩ := S.live i B hb (live_w hm)
  obtain ⟨_, hyl, hyr⟩ := hy.run σ w a S F
  have hyo : ∀ v ∈ ys, isOne v = true := List.all_eq_true.1 hy1
  have sx : Src P gs N f h x sz n xs := Src.sl hx hb (by simp [live, hm]) hxs hxl
  obtain ⟨hxo, _, hxr⟩ := sx.run σ w a S F
  obtain ⟨new, hn1, hn2, hn3⟩ := hyr k (Nat.le_refl _)
  obtain ⟨old, ho1, ho2, ho3⟩ := hxr n (Nat.le_refl _)
  have hyk := hy.len
  obtain ⟨b', c2, hb', hc2, _⟩ := hv.slice_form
  have hop : execOp a.eval o = (do pure (.value (← Builtin.append_ #[t, t2] o.type #[a.eval x, a.eval y]))) := by
    simp [execOp, ho, resolve, invoke, builtin]
  have hln : ∀ (m : Loc), (σ ++ ([m] : List Loc)).l[h.length]? = some m := fun m => by rw [St.app_l, getElem?_snoc, if_pos S.len.symm]
  have hkl : (h.set i ⟨[], .d, sz⟩).length = h.length := by simp
  have fin : ∀ (A : Option Addr) (c' : Nat) (m : Loc) (w' : World), n + k ≤ c' → (Builtin.append_ #[t, t2] o.type #[a.eval x, a.eval y]).run P w = .ok (.slice A (n + k) c') w' →
      Inv gs C (σ ++ ([m] : List Loc)) (h.set i ⟨[], .d, sz⟩ ++ [⟨xs ++ ys, .w, sz⟩]) w' → VR (σ ++ ([m] : List Loc)) (.slice (some ⟨h.length, 0, none⟩) (n + k) c') (.slice A (n + k) c') → o.wp P a w next Qe := by
    intro A c' m w' hle hrun I2 hvr
    unfold Oper.wp
    have : (execOp a.eval o).run P w = .ok (.value (.slice A (n + k) c')) w' := by rw [hop]; simp only [Sem.run_bind, hrun, Result.andThen_ok, Sem.run_pure]
    rw [this]
    exact hnx _ _ _ _ _ I2 ((F.ext (Ext.app _ _)).put hvr hd) (kk c' hle)
  by_cases hroom : n + k ≤ c2
  · have hrun : ∀ (A : Option Addr) (w' : World), a.eval x = .slice A n c2 → (match A with | some a => storeCells (a.add (n * sz)) new | none => pure ()).run P w = .ok () w' → (Builtin.append_ #[t, t2] o.type #[a.eval x, a.eval y]).run P w = .ok (.slice A (n + k) c2) w' := by
      intro A w' hA hst
      have hn3' : (Builtin.firstCells sz k (a.eval y)).run P w = .ok new.toArray w := hn3 w.drawn
      unfold Builtin.append_
      cases d2 <;> first | (simp [notInt] at hd2; done) | skip
      all_goals
        simp only [List.getElem?_toArray, List.getElem?_cons_zero, List.getElem?_cons_succ, Sem.run_bind, run_underlying ht, Result.andThen_ok, ti.sizeOf, run_underlying ht2, Sem.run_pure, hA]
        simp
        rw [hyl]
        simp only [Result.andThen_ok]
        rw [if_pos hroom, hn3']
        simp only [Result.andThen_ok]
        cases A with
        | none => simp at hst; simp [hst]
        | some A => simp at hst; simp [hst]
    have Itr := I.trunc (n := q + n * sz) hb (live_w hm)
    have hbt : (h.set i { B with cells := B.cells.take (q + n * sz) })[i]? = some { B with cells := B.cells.take (q + n * sz) } := List.getElem?_set_self (List.getElem?_eq_some_iff.1 hb).1
    have htk : (B.cells.take (q + n * sz)).drop q = xs := by rw [← hxs, List.drop_take]; congr 1; omega
    have hlenT : (B.cells.take (q + n * sz)).length = q + n * sz := by rw [List.length_take]; omega
    have inplace : ∀ (vc : List Value), vc.length = ys.length → (∀ (j : Nat) (v : Value), ys[j]? = some v → ∃ v', vc[j]? = some v' ∧ VR σ v v') → l.o + (q + n * sz) + ys.length ≤ l.s →
        ∃ w', (storeCells ⟨l.b, l.o + (q + n * sz), none⟩ vc).run P w = .ok () w' ∧ Inv gs C (σ ++ ([⟨l.b, l.o + q, l.s, l.e⟩] : List Loc)) (h.set i ⟨[], .d, sz⟩ ++ [⟨xs ++ ys, .w, sz⟩]) w' := by
      intro vc hvl hvr hfit
      obtain ⟨w', hst, I2⟩ := Inv.snocs (P := P) ys vc 0 (q := q + n * sz) Itr hbt hl hm (by simp only [hlenT]; omega) (by simp only [hlenT]; omega) hvl hvr hyo
      have hb2 : ((h.set i { B with cells := B.cells.take (q + n * sz) }).set i { B with cells := B.cells.take (q + n * sz) ++ ys })[i]? = some { B with cells := B.cells.take (q + n * sz) ++ ys } := List.getElem?_set_self (by simpa using (List.getElem?_eq_some_iff.1 hb).1)
      have I3 := I2.move (o := q) hb2 hl hm (by simp only [List.length_append, hlenT]; omega)
      have e1 : (B.cells.take (q + n * sz) ++ ys).drop q = xs ++ ys := by rw [List.drop_append_of_le_length (by omega), htk]
      simp only [e1, List.set_set, hes] at I3
      exact ⟨w', hst, I3⟩
    generalize hu : a.eval x = u at hv
    cases hv with
    | @sl _ _ _ _ c3 l1 hl1 hnc hcc hc =>
      have e3 : c3 = c2 := by rw [hu] at hb'; simp at hb'; exact hb'.2
      subst e3
      rw [hl] at hl1
      obtain rfl := Option.some.inj hl1
      rw [he0, hes] at hc
      have hnk : (n + k) * sz ≤ c3 * sz := Nat.mul_le_mul_right _ hroom
      rw [Nat.add_mul] at hnk
      obtain ⟨w', hst, I3⟩ := inplace new (by omega) (fun j v hj => hn2 j v hj (by have := (List.getElem?_eq_some_iff.1 hj).1; omega)) (by omega)
      refine fin _ c3 ⟨l.b, l.o + q, l.s, l.e⟩ w' hroom (hrun _ w' hu (by simpa [add_plain, Nat.add_assoc] using hst)) I3 ?_
      have := VR.sl (σ := σ ++ ([⟨l.b, l.o + q, l.s, l.e⟩] : List Loc)) (i := h.length) (o := 0) (n := n + k) (c := c3) (hln _) hroom (Nat.le_refl _) (by simp only [he0, hes]; omega)
      simpa using this
    | @slz _ _ av =>
      have e3 : 0 = c2 := by rw [hu] at hb'; simp at hb'; exact hb'.2
      subst e3
      have hk0 : k = 0 := by omega
      subst hk0
      have hy0 : ys = [] := List.eq_nil_of_length_eq_zero (by omega)
      have hnw0 : new = [] := List.eq_nil_of_length_eq_zero (by omega)
      subst hy0 hnw0
      have I3 := Itr.move (o := q) hbt hl hm (by simp only [hlenT]; omega)
      simp only [htk, List.set_set, hes] at I3
      exact fin av 0 ⟨l.b, l.o + q, l.s, l.e⟩ w (by omega) (hrun av w hu (by cases av <;> simp [storeCells])) (by simpa using I3) .slz
  · obtain ⟨c', d, hle, hrun⟩ := run_append_grows (P := P) (w := w) (ty := o.type) (base := b') (x := a.eval y) ht ht2 hd2 ti (show c2 < n + k by omega) hbig hb0 hyl old new (fun d => by have := ho3 d; rwa [hb'] at this) hn3
    have Ik := (I.kill hb).draw d
    rw [hes] at Ik
    have hcs : (old.toArray ++ new.toArray ++ Builtin.zeroCells z.cells (c' - (n + k))).size = c' * sz := by
      simp only [Array.size_append, List.size_toArray, zeroCells_size, hzs, ho1, hn1]
      rw [← Nat.add_mul, ← Nat.add_mul]
      congr 1; omega
    have I2 := Ik.push (old.toArray ++ new.toArray ++ Builtin.zeroCells z.cells (c' - (n + k))) e (xs ++ ys) sz (by rw [hcs, List.length_append, hxl, hyk, ← Nat.add_mul]; exact Nat.mul_le_mul_right _ hle) (fun j v hj => by
      by_cases h1 : j < xs.length
      · rw [List.getElem?_append_left h1] at hj
        obtain ⟨v', a1, a2⟩ := ho2 j v hj (by omega)
        refine ⟨v', ?_, a2⟩
        rw [Array.getElem?_append_left (by simp; omega), Array.getElem?_append_left (by simp; omega)]
        simpa using a1
      · rw [List.getElem?_append_right (by omega)] at hj
        have h2 := (List.getElem?_eq_some_iff.1 hj).1
        obtain ⟨v', a1, a2⟩ := hn2 _ v hj (by omega)
        refine ⟨v', ?_, a2⟩
        rw [Array.getElem?_append_left (by simp; omega), Array.getElem?_append_right (by simp; omega)]
        simp only [List.size_toArray, List.getElem?_toArray, ho1, ← hxl]
        exact a1) (fun v hv => (List.mem_append.1 hv).elim (hxo v) (fun h => isOne_one0 (hyo v h)))
    refine fin _ c' _ _ hle (by rw [hb']; exact hrun) I2 ?_
    have := VR.sl (σ := σ ++ ([⟨w.heap.size, 0, (old.toArray ++ new.toArray ++ Builtin.zeroCells z.cells (c' - (n + k))).size, sz⟩] : List Loc)) (i := h.length) (o := 0) (n := n + k) (c := c') (hln _) hle (Nat.le_refl _) (by simp only [hcs]; omega)
    simpa using this

/-- Append to nil. -/
theorem OpJ.appendNil {t t2 e : TypeId} {d2 : TypeDesc} {z : Value} {sz bz : Nat} {x y : Operand} {k : Nat} {ys : List Value} (ho : o.op = .call { callee := .builtin .append, args := #[x, y], argTypes := #[t, t2] })
    (ht : P.underlying t = some (.slice e)) (ht2 : P.underlying t2 = some d2) (hd2 : notInt d2 = true) (ti : TI P e z sz bz) (hzs : z.cells.size = sz)
    (hx : ev f x = some (.slice none 0 0)) (hy : Src P gs N f h y sz k ys) (hk : 0 < k) (hbig : k * bz ≤ 140737488355328) (hb0 : 0 < bz)
    (kk : ∀ c', k ≤ c' → K (pt f o.dst (.slice (some ⟨h.length, 0, none⟩) k c')) (h ++ [⟨ys, .w, sz⟩])) : OpJ P gs m N o K Kp f h := by
  intro hd C σ w a next Qe hC I F hnx hp
  have S := I.sim
  have hxv := (F.ev hx).scal_eq rfl
  obtain ⟨hyo, hyl, hyr⟩ := hy.run σ w a S F
  obtain ⟨new, hn1, hn2, hn3⟩ := hyr k (Nat.le_refl _)
  have hyk := hy.len
  have hop : execOp a.eval o = (do pure (.value (← Builtin.append_ #[t, t2] o.type #[a.eval x, a.eval y]))) := by
    simp [execOp, ho, resolve, invoke, builtin]
  obtain ⟨c', d, hle, hrun⟩ := run_append_grows (P := P) (w := w) (ty := o.type) (base := none) (n := 0) (c := 0) (x := a.eval y) ht ht2 hd2 ti (show 0 < 0 + k by omega) (by simpa using hbig) hb0 hyl [] new (fun d => by simp [Builtin.firstCells]) hn3
  simp only [Nat.zero_add] at hle hrun
  have hcs : ((#[] : Array Value) ++ new.toArray ++ Builtin.zeroCells z.cells (c' - k)).size = c' * sz := by
    simp only [Array.size_append, List.size_toArray, zeroCells_size, hzs, hn1, List.size_toArray, List.length_nil, Nat.zero_add]
    rw [← Nat.add_mul]
    congr 1; omega
  have I2 := (I.draw d).push ((#[] : Array Value) ++ new.toArray ++ Builtin.zeroCells z.cells (c' - k)) e ys sz (by rw [hcs, hyk]; exact Nat.mul_le_mul_right _ hle) (fun j v hj => by
    have h2 := (List.getElem?_eq_some_iff.1 hj).1
    obtain ⟨v', a1, a2⟩ := hn2 _ v hj (by omega)
    refine ⟨v', ?_, a2⟩
    rw [Array.getElem?_append_left (by simp; omega), Array.getElem?_append_right (by simp)]
    simpa using a1) hyo
  unfold Oper.wp
  have : (execOp a.eval o).run P w = .ok (.value (.slice (some ⟨w.heap.size, 0, none⟩) k c')) { w with drawn := d, heap := w.heap.push (.cells ((#[] : Array Value) ++ new.toArray ++ Builtin.zeroCells z.cells (c' - k)) e) } := by
    rw [hop, hxv]; simp only [Sem.run_bind, hrun, Result.andThen_ok, Sem.run_pure]
  rw [this]
  refine hnx _ _ _ _ _ I2 ((F.ext (Ext.app _ _)).put ?_ hd) (kk c' hle)
  have := VR.sl (σ := σ ++ ([⟨w.heap.size, 0, ((#[] : Array Value) ++ new.toArray ++ Builtin.zeroCells z.cells (c' - k)).size, sz⟩] : List Loc)) (i := h.length) (o := 0) (n := k) (c := c') (by rw [St.app_l, getElem?_snoc, if_pos S.len.symm]) hle (Nat.le_refl _) (by simp only [hcs]; omega)
  simpa using this
theorem OpJ.appendNil0 {t t2 e : TypeId} {d2 : TypeDesc} {z : Value} {sz bz : Nat} {x y : Operand} (ho : o.op = .call { callee := .builtin .append, args := #[x, y], argTypes := #[t, t2] })
    (ht : P.underlying t = some (.slice e)) (ht2 : P.underlying t2 = some d2) (hd2 : notInt d2 = true) (ti : TI P e z sz bz)
    (hx : ev f x = some (.slice none 0 0)) (hy : ∀ N, Src P gs N f h y sz 0 []) (kk : K (pt f o.dst (.slice none 0 0)) h) : OpJ P gs m N o K Kp f h := by
  intro hd C σ w a next Qe hC I F hnx hp
  have hxv := (F.ev hx).scal_eq rfl
  obtain ⟨hyo, hyl, hyr⟩ := (hy N).run σ w a I.sim F
  obtain ⟨new, hn1, hn2, hn3⟩ := hyr 0 (Nat.le_refl _)
  have hn3' : (Builtin.firstCells sz 0 (a.eval y)).run P w = .ok new.toArray w := hn3 w.drawn
  unfold Oper.wp
  have : (execOp a.eval o).run P w = .ok (.value (.slice none 0 0)) w := by
    simp only [execOp, ho, resolve, invoke, builtin, List.map_toArray, List.map_cons, List.map_nil, hxv, Sem.run_bind, Sem.run_pure, Result.andThen_ok]
    unfold Builtin.append_
    cases d2 <;> first | (simp [notInt] at hd2; done) | skip
    all_goals
      simp only [List.getElem?_toArray, List.getElem?_cons_zero, List.getElem?_cons_succ, Sem.run_bind, run_underlying ht, Result.andThen_ok, ti.sizeOf, run_underlying ht2, Sem.run_pure]
      simp
      rw [hyl]
      simp only [Result.andThen_ok]
      simp [hn3']
  rw [this]
  exact hnx σ _ _ _ w I (F.put .sl0 hd) kk
end
end Go.J
