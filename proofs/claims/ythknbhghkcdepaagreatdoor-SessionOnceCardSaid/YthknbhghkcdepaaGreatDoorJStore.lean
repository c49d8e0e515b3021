/- The program logic J, part 6: loads, stores, new blocks. No condition. -/
import Derived.Test.YthknbhghkcdepaaGreatDoorJOps
set_option maxHeartbeats 4000000
set_option linter.unusedVariables false
set_option linter.unusedSimpArgs false
namespace Go.J

def live (B : Blk) : Bool := match B.md with
  | .d => false
  | _ => true
theorem live_md {B : Blk} (h : live B = true) : B.md = .d → False := fun e => by simp [live, e] at h
theorem live_w {B : Blk} (h : B.md = .w) : B.md = .d → False := fun e => by rw [h] at e; cases e

section
variable {P : Program} {gs : List (Nat × Obj)} {m N : Nat} {K : AFr → List Blk → Prop} {Kp : Value → AFr → List Blk → Prop} {f : AFr} {h : List Blk} {o : Oper} {C : Cx} {σ : St} {w : World}

theorem run_load_cell {a : Addr} {v : Value} (hv : w.cell? a = some v) : (Go.load a).run P w = .ok v w := by
  simp [Go.load, Sem.run, hv]

theorem OpJ.load {t : TypeId} {d : TypeDesc} {x : Operand} {i q : Nat} {B : Blk} {v : Value} (ho : o.op = .load t x) (ht : P.underlying t = some d) (hd : aggD d = false) (hx : ev f x = some (.pointer (some ⟨i, q, none⟩)))
    (hb : h[i]? = some B) (hm : live B = true) (hv : B.cells[q]? = some v) (kk : K (pt f o.dst v) h) : OpJ P gs m N o K Kp f h := by
  refine OpJ.val (fun σ ac w F S => ?_) kk
  have hr := F.ev hx
  generalize hu : ac.eval x = u at hr
  cases hr with
  | @ptr _ _ l hl =>
    obtain ⟨v', h1, h2⟩ := S.read hl hb (live_md hm) hv
    exact ⟨v', by simp [execOp, ho, hu, Instr.loadAt, Instr.sureAddr, loadVar, run_isAgg ht, hd, h1], h2⟩

theorem exists_list {α β : Type} (R : α → β → Prop) : ∀ (xs : List α), (∀ x ∈ xs, ∃ y, R x y) → ∃ ys : List β, ys.length = xs.length ∧ ∀ (j : Nat) (x : α), xs[j]? = some x → ∃ y, ys[j]? = some y ∧ R x y
  | [], _ => ⟨[], rfl, fun j x h => by simp at h⟩
  | x :: xs, h => by
    obtain ⟨y, hy⟩ := h x (List.mem_cons_self ..)
    obtain ⟨ys, h1, h2⟩ := exists_list R xs (fun z hz => h z (List.mem_cons_of_mem _ hz))
    refine ⟨y :: ys, by simp [h1], fun j z hz => ?_⟩
    cases j with
    | zero => simp at hz; subst hz; exact ⟨y, by simp, hy⟩
    | succ j => simp at hz; simpa using h2 j z hz

/-- Some cells of a block, as the machine has them. -/
theorem Sim.cells (S : Sim gs σ h w) {i q n : Nat} {B : Blk} {l : Loc} {vs : List Value} (hl : σ.l[i]? = some l) (hb : h[i]? = some B) (hm : B.md = .d → False) (hvs : (B.cells.drop q).take n = vs) (hn : vs.length = n) :
    ∃ vc : List Value, vc.length = n ∧ (∀ (j : Nat) (v : Value), vs[j]? = some v → ∃ v', vc[j]? = some v' ∧ VR σ v v') ∧ (∀ (j : Nat) (v : Value), vc[j]? = some v → w.cell? ⟨l.b, l.o + q + j, none⟩ = some v) := by
  obtain ⟨vc, h1, h2⟩ := exists_list (fun (p : Value × Nat) v' => w.cell? ⟨l.b, l.o + q + p.2, none⟩ = some v' ∧ VR σ p.1 v') vs.zipIdx (by
    rintro ⟨v, j⟩ hp
    have hv := List.mem_zipIdx' hp
    obtain ⟨hj, hv⟩ := hv
    have hv2 : vs[j]? = some v := by rw [List.getElem?_eq_getElem hj, hv]
    rw [← hvs, List.getElem?_take, if_pos (by omega), List.getElem?_drop] at hv2
    obtain ⟨v', h1, h2⟩ := S.read hl hb hm hv2
    exact ⟨v', by rw [← h1]; simp only [Nat.add_assoc], h2⟩)
  have hlen : vc.length = vs.length := by simpa using h1
  refine ⟨vc, by omega, fun j v hv => ?_, fun j v hv => ?_⟩
  · obtain ⟨y, hy, _, hr⟩ := h2 j (v, j) (by simp [List.getElem?_zipIdx, hv])
    exact ⟨y, hy, hr⟩
  · have hj := (List.getElem?_eq_some_iff.1 hv).1
    obtain ⟨y, hy, hc, _⟩ := h2 j (vs[j]'(by omega), j) (by simp [List.getElem?_zipIdx, List.getElem?_eq_getElem (show j < vs.length by omega)])
    rw [hv] at hy
    obtain rfl := Option.some.inj hy
    exact hc

theorem run_loads {b o : Nat} {vc : List Value} (hc : ∀ (j : Nat) (v : Value), vc[j]? = some v → w.cell? ⟨b, o + j, none⟩ = some v) : (loadCells ⟨b, o, none⟩ vc.length).run P w = .ok vc.toArray w :=
  run_loadCells_list (P := P) w ⟨b, o, none⟩ vc (fun j v hv => by rw [add_plain]; exact hc j v hv)

theorem OpJ.loadAgg {t : TypeId} {d : TypeDesc} {x : Operand} {i q sz bz : Nat} {z : Value} {B : Blk} {vs : List Value} (ho : o.op = .load t x) (ht : P.underlying t = some d) (hd : aggD d = true) (hi : TI P t z sz bz)
    (hx : ev f x = some (.pointer (some ⟨i, q, none⟩))) (hb : h[i]? = some B) (hm : live B = true) (hvs : (B.cells.drop q).take sz = vs) (hn : vs.length = sz) (kk : K (pt f o.dst (.agg vs.toArray)) h) : OpJ P gs m N o K Kp f h := by
  refine OpJ.val (fun σ ac w F S => ?_) kk
  have hr := F.ev hx
  generalize hu : ac.eval x = u at hr
  cases hr with
  | @ptr _ _ l hl =>
    obtain ⟨vc, h1, h2, h3⟩ := S.cells hl hb (live_md hm) hvs hn
    refine ⟨.agg vc.toArray, ?_, .agg (by simp; omega) ?_⟩
    · simp [execOp, ho, hu, Instr.loadAt, Instr.sureAddr, loadVar, run_isAgg ht, hd, hi.sizeOf, ← h1, run_loads h3]
    · intro j a b ha hb
      obtain ⟨v', hv, hr⟩ := h2 j a (by simpa using ha)
      have : b = v' := by
        have hb' : vc[j]? = some b := by simpa using hb
        rw [hv] at hb'; exact (Option.some.inj hb').symm
      rw [this]; exact hr

/-- Cells written from a place on. -/
def wr : List Value → Nat → List Value → List Value
  | cs, _, [] => cs
  | cs, q, v :: vs => wr (cs.set q v) (q + 1) vs
theorem wr_length : ∀ (vs cs : List Value) (q : Nat), (wr cs q vs).length = cs.length
  | [], _, _ => rfl
  | v :: vs, cs, q => by rw [wr, wr_length vs]; simp

theorem run_store_cell {a : Addr} {v v0 : Value} (h1 : isOne v = true) (hv : w.cell? a = some v0) (hf : w.frozen? a = false) : (Go.store a v).run P w = .ok () (w.setCell a v) := by
  cases v <;> first | (simp [isOne] at h1; done) | simp [Go.store, Sem.run, hv, hf]

theorem Inv.frozen (I : Inv gs C σ h w) {i : Nat} {B : Blk} {l : Loc} (hb : h[i]? = some B) (hl : σ.l[i]? = some l) (hm : B.md = .w) (q : Nat) (hq : q < l.s) : w.frozen? ⟨l.b, q, none⟩ = false ∧ ∃ v, w.cell? ⟨l.b, q, none⟩ = some v := by
  obtain ⟨c, t, fr, hw, hs, _, _, hf, _⟩ := I.sim.real hl hb (live_w hm) (.inl (by omega))
  exact ⟨hf hm q (by omega), c[q]'(by omega), by simp [World.cell?, hw, show q < c.size by omega]⟩

/-- Stores into cells that are told. -/
theorem Inv.stores : ∀ (vs vc : List Value) (k : Nat) {h : List Blk} {w : World} {i q : Nat} {B : Blk} {l : Loc}, Inv gs C σ h w → h[i]? = some B → σ.l[i]? = some l → B.md = .w → q + k + vs.length ≤ B.cells.length →
    vc.length = vs.length → (∀ (j : Nat) (v : Value), vs[j]? = some v → ∃ v', vc[j]? = some v' ∧ VR σ v v') → vs.all isOne = true →
    ∃ w', (storeCells ⟨l.b, l.o + q, none⟩ vc k).run P w = .ok () w' ∧ Inv gs C σ (h.set i { B with cells := wr B.cells (q + k) vs }) w'
  | [], vc, k, h, w, i, q, B, l, I, hb, hl, hm, hq, hlen, hr, h1 => by
    obtain rfl : vc = [] := List.eq_nil_of_length_eq_zero (by simpa using hlen)
    refine ⟨w, by simp [storeCells], ?_⟩
    have : h.set i { B with cells := wr B.cells (q + k) [] } = h := by
      apply List.ext_getElem?
      intro j
      by_cases e : i = j
      · subst e; rw [List.getElem?_set_self (List.getElem?_eq_some_iff.1 hb).1, hb]; rfl
      · rw [List.getElem?_set_ne e]
    rw [this]; exact I
  | v :: vs, vc, k, h, w, i, q, B, l, I, hb, hl, hm, hq, hlen, hr, h1 => by
    cases vc with
    | nil => simp at hlen
    | cons u vc =>
      simp only [List.length_cons] at hq hlen
      simp only [List.all_cons, Bool.and_eq_true] at h1
      obtain ⟨u', hu, hvu⟩ := hr 0 v (by simp)
      simp at hu; subst hu
      obtain ⟨c, t, fr, hw, hs, hle, _⟩ := I.sim.real hl hb (live_w hm) (.inr (fun e => by rw [e] at hq; simp at hq))
      obtain ⟨hf, v0, hc⟩ := I.frozen hb hl hm (l.o + (q + k)) (by omega)
      have I2 := I.store (j := q + k) hb hl hm (by omega) hvu (isOne_one0 h1.1)
      have hb2 : (h.set i { B with cells := B.cells.set (q + k) v })[i]? = some { B with cells := B.cells.set (q + k) v } := List.getElem?_set_self (List.getElem?_eq_some_iff.1 hb).1
      obtain ⟨w', hrun, I3⟩ := Inv.stores vs vc (k + 1) (q := q) I2 hb2 hl hm (by simp; omega) (by omega) (fun j x hx => by have := hr (j + 1) x (by simpa using hx); simpa using this) h1.2
      refine ⟨w', ?_, ?_⟩
      · simp only [storeCells, Sem.run_bind, add_plain, Nat.add_assoc]
        rw [run_store_cell (hvu.one h1.1) hc hf]
        simpa [Nat.add_assoc] using hrun
      · rw [List.set_set] at I3
        simpa [wr, Nat.add_assoc] using I3

theorem VR.cells {σ : St} {v v' : Value} (hr : VR σ v v') (h1 : v.cells.toList.all isOne = true) : v'.cells.toList.length = v.cells.toList.length ∧ ∀ (j : Nat) (x : Value), v.cells.toList[j]? = some x → ∃ y, v'.cells.toList[j]? = some y ∧ VR σ x y := by
  cases hr with
  | @agg xs ys hl hh =>
    refine ⟨by simp [Value.cells, hl], fun j x hx => ?_⟩
    have hx' : xs[j]? = some x := by simpa [Value.cells] using hx
    have hj : j < ys.size := by have := (Array.getElem?_eq_some_iff.1 hx').1; omega
    exact ⟨ys[j], by simp [Value.cells, hj], hh j x _ hx' (by simp [hj])⟩
  | poison v => simp [Value.cells, isOne] at h1
  | un => simp [Value.cells, isOne] at h1
  | tuple hl hh => simp [Value.cells, isOne] at h1
  | fz h =>
    have hk := h
    rcases h.fz_inv with ⟨_, _, _, _, _, rfl, _⟩ | ⟨_, _, rfl, _⟩ <;>
    · refine ⟨rfl, fun j x hx => ?_⟩
      cases j with
      | zero => simp [Value.cells] at hx; subst hx; exact ⟨_, by simp [Value.cells], .fz hk⟩
      | succ j => simp [Value.cells] at hx
  | pz h =>
    have hk := h
    obtain ⟨_, _, _, _, rfl, _⟩ := h.pz_inv
    refine ⟨rfl, fun j x hx => ?_⟩
    cases j with
    | zero => simp [Value.cells] at hx; subst hx; exact ⟨_, by simp [Value.cells], .pz hk⟩
    | succ j => simp [Value.cells] at hx
  | _ =>
    refine ⟨rfl, fun j x hx => ?_⟩
    cases j with
    | zero =>
      simp [Value.cells] at hx
      subst hx
      refine ⟨_, by simp [Value.cells]; rfl, ?_⟩
      first | exact .bool _ | exact .int _ _ | exact .float _ _ | exact .string _ | exact .ptr0 | (apply VR.ptr; assumption) | exact .sl0 | (apply VR.sl <;> assumption) | exact .slz | exact .map0 | (apply VR.map; assumption) | exact .nilFunc | (apply VR.func <;> assumption) | exact .nilIface | (apply VR.iface; assumption)
    | succ j => simp [Value.cells] at hx

theorem OpJ.store {t : TypeId} {x y : Operand} {i q sz bz : Nat} {z : Value} {B : Blk} {v : Value} {vs : List Value} (ho : o.op = .store t x y) (hi : TI P t z sz bz) (hx : ev f x = some (.pointer (some ⟨i, q, none⟩))) (hy : ev f y = some v)
    (hvs : v.cells.toList = vs) (hn : vs.length = sz) (h1 : vs.all isOne = true) (hb : h[i]? = some B) (hm : B.md = .w) (hq : q + sz ≤ B.cells.length)
    (kk : K (pt f o.dst (.tuple #[])) (h.set i { B with cells := wr B.cells q vs })) : OpJ P gs m N o K Kp f h := by
  intro hd C σ w a next Qe hC I F hnx hp
  have hr := F.ev hx
  generalize hu : a.eval x = u at hr
  cases hr with
  | @ptr _ _ l hl =>
    have hv := F.ev hy
    obtain ⟨hlen, hrel⟩ := hv.cells (by rw [hvs]; exact h1)
    rw [hvs] at hlen hrel
    obtain ⟨w', hrun, I2⟩ := Inv.stores (P := P) vs (a.eval y).cells.toList 0 (q := q) I hb hl hm (by omega) hlen hrel h1
    unfold Oper.wp
    have hsz : (a.eval y).cells.size = sz := by rw [← Array.length_toList, hlen, hn]
    have : (execOp a.eval o).run P w = .ok .skip w' := by
      simp [execOp, ho, hu, Instr.storeAt, Instr.sureAddr, storeVar, hi.sizeOf, hsz, hrun]
    rw [this]
    exact hnx σ _ _ _ w' (by simpa using I2) (F.put (.poison _) hd) kk

/-- A new block, out of a value's cells. -/
theorem run_newRow (t : TypeId) (c : Array Value) : (newRow t c).run P w = .ok ⟨w.heap.size, 0, none⟩ { w with heap := w.heap.push (.cells c t) } := by
  simp [newRow, newObj, Sem.run]
theorem OpJ.box {t : TypeId} {x : Operand} {v : Value} {vs : List Value} (e : Nat) (ho : o.op = .box t x) (hx : ev f x = some v) (hvs : v.cells.toList = vs) (h1 : vs.all isOne = true)
    (kk : K (pt f o.dst (.pointer (some ⟨h.length, 0, none⟩))) (h ++ [⟨vs, .w, e⟩])) : OpJ P gs m N o K Kp f h := by
  intro hd C σ w a next Qe hC I F hnx hp
  have hv := F.ev hx
  obtain ⟨hlen, hrel⟩ := hv.cells (by rw [hvs]; exact h1)
  rw [hvs] at hlen hrel
  have I2 := I.push (a.eval x).cells t vs e (by rw [← Array.length_toList]; omega) (fun j u hu => by simpa using hrel j u hu) (all_one0 h1)
  unfold Oper.wp
  have : (execOp a.eval o).run P w = .ok (.value (.pointer (some ⟨w.heap.size, 0, none⟩))) { w with heap := w.heap.push (.cells (a.eval x).cells t) } := by
    simp [execOp, ho, Instr.box, newVar, run_newRow]
  rw [this]
  refine hnx _ _ _ _ _ I2 ((F.ext (Ext.app _ _)).put ?_ hd) kk
  have := VR.ptr (σ := σ ++ ([⟨w.heap.size, 0, (a.eval x).cells.size, e⟩] : List Loc)) (i := h.length) (o := 0) (l := ⟨w.heap.size, 0, (a.eval x).cells.size, e⟩) (by rw [St.app_l, getElem?_snoc, if_pos I.sim.len.symm])
  simpa using this
theorem OpJ.alloc {t : TypeId} {z : Value} {sz bz : Nat} {vs : List Value} (e : Nat) (ho : o.op = .alloc t) (hi : TI P t z sz bz) (hvs : z.cells.toList = vs) (h1 : vs.all scal = true)
    (kk : K (pt f o.dst (.pointer (some ⟨h.length, 0, none⟩))) (h ++ [⟨vs, .w, e⟩])) : OpJ P gs m N o K Kp f h := by
  intro hd C σ w a next Qe hC I F hnx hp
  have hone : ∀ v ∈ vs, isOne v = true := by
    intro v hv
    have := List.all_eq_true.1 h1 v hv
    cases v <;> first | rfl | (simp [scal] at this)
  have hsz : z.cells.size = vs.length := by rw [← hvs]; simp
  have I2 := I.push z.cells t vs e (by omega) (fun j u hu => ⟨u, by rw [← Array.getElem?_toList, hvs]; exact hu, VR.scal (List.all_eq_true.1 h1 u (List.mem_of_getElem? hu))⟩) (fun v hv => isOne_one0 (hone v hv))
  unfold Oper.wp
  have : (execOp a.eval o).run P w = .ok (.value (.pointer (some ⟨w.heap.size, 0, none⟩))) { w with heap := w.heap.push (.cells z.cells t) } := by
    simp [execOp, ho, Instr.alloc, newVar, run_newRow, hi.zero]
  rw [this]
  refine hnx _ _ _ _ _ I2 ((F.ext (Ext.app _ _)).put ?_ hd) kk
  have := VR.ptr (σ := σ ++ ([⟨w.heap.size, 0, z.cells.size, e⟩] : List Loc)) (i := h.length) (o := 0) (l := ⟨w.heap.size, 0, z.cells.size, e⟩) (by rw [St.app_l, getElem?_snoc, if_pos I.sim.len.symm])
  simpa using this
end
end Go.J
