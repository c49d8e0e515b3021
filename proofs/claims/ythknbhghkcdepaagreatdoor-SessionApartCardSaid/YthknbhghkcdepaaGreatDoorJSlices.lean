/- The program logic J, part 7: parts and slices: built, cut, appended to, copied, turned into texts. No condition. -/
import Derived.Test.YthknbhghkcdepaaGreatDoorJStore
set_option maxHeartbeats 4000000
set_option linter.unusedVariables false
set_option linter.unusedSimpArgs false
namespace Go.J

/-- A byte as a value; bytes as cells. -/
def bv (b : UInt8) : Value := .int .u8 (b.toNat : Int)
def bytesC (l : List UInt8) : List Value := l.map bv
theorem bytesC_length (l : List UInt8) : (bytesC l).length = l.length := by simp [bytesC]
theorem bytesC_get (l : List UInt8) (i : Nat) : (bytesC l)[i]? = l[i]?.map bv := by simp [bytesC]
theorem bytesC_append (a b : List UInt8) : bytesC (a ++ b) = bytesC a ++ bytesC b := by simp [bytesC]
theorem bytesC_one (l : List UInt8) : (bytesC l).all isOne = true := by simp [bytesC, bv, isOne]

section
variable {P : Program} {gs : List (Nat × Obj)} {m N : Nat} {K : AFr → List Blk → Prop} {Kp : Value → AFr → List Blk → Prop} {f : AFr} {h : List Blk} {o : Oper} {C : Cx} {σ : St} {w : World}

theorem isOne_of_scal {v : Value} (h : scal v = true) : isOne v = true := by cases v <;> first | rfl | (simp [scal] at h)
theorem evs {σ : St} {a : Act} (F : FR σ N f a) {xs : List Operand} {vs : List Value} (h : xs.map (ev f) = vs.map some) : xs.length = vs.length ∧ ∀ (i : Nat) (v : Value), vs[i]? = some v → ∃ x, xs[i]? = some x ∧ VR σ v (a.eval x) := by
  have hl : xs.length = vs.length := by simpa using congrArg List.length h
  refine ⟨hl, fun i v hv => ?_⟩
  have h1 : (xs.map (ev f))[i]? = some (some v) := by rw [h]; simpa using hv
  simp only [List.getElem?_map, Option.map_eq_some_iff] at h1
  obtain ⟨x, hx, hx2⟩ := h1
  exact ⟨x, hx, F.ev hx2⟩

/-! #### literals of structs -/
def partsA (f : AFr) : List (Nat × Operand) → Option (List (Nat × Value))
  | [] => some []
  | (i, x) :: r => match ev f x, partsA f r with
    | some v, some l => some ((i, v) :: l)
    | _, _ => none
theorem fold_set {τ : St} : ∀ (vs vs' : List Value) (k off : Nat) (cs cs' : Array Value), vs.length = vs'.length → (∀ (j : Nat) x y, vs[j]? = some x → vs'[j]? = some y → VR τ x y) → cs.size = cs'.size → (∀ (j : Nat) x y, cs[j]? = some x → cs'[j]? = some y → VR τ x y) →
    ((vs.zipIdx k).foldl (fun cs (c, j) => cs.setIfInBounds (off + j) c) cs).size = cs.size ∧ ((vs'.zipIdx k).foldl (fun cs (c, j) => cs.setIfInBounds (off + j) c) cs').size = cs'.size ∧
    ∀ (j : Nat) x y, ((vs.zipIdx k).foldl (fun cs (c, j) => cs.setIfInBounds (off + j) c) cs)[j]? = some x → ((vs'.zipIdx k).foldl (fun cs (c, j) => cs.setIfInBounds (off + j) c) cs')[j]? = some y → VR τ x y
  | [], [], _, _, cs, cs', _, _, hs, hr => ⟨rfl, rfl, hr⟩
  | [], _ :: _, _, _, _, _, h, _, _, _ => by simp at h
  | _ :: _, [], _, _, _, _, h, _, _, _ => by simp at h
  | v :: vs, v' :: vs', k, off, cs, cs', hl, hv, hs, hr => by
    simp only [List.zipIdx_cons, List.foldl_cons]
    have := fold_set vs vs' (k + 1) off (cs.setIfInBounds (off + k) v) (cs'.setIfInBounds (off + k) v') (by simpa using hl) (fun j x y hx hy => hv (j + 1) x y (by simpa using hx) (by simpa using hy)) (by simpa using hs) (by
      intro j x y hx hy
      by_cases e : off + k = j
      · subst e
        have h1 := (Array.getElem?_eq_some_iff.1 hx).1
        simp at h1
        rw [Array.getElem?_setIfInBounds_self_of_lt (by omega)] at hx
        rw [Array.getElem?_setIfInBounds_self_of_lt (by omega)] at hy
        obtain rfl := Option.some.inj hx
        obtain rfl := Option.some.inj hy
        exact hv 0 _ _ (by simp) (by simp)
      · rw [Array.getElem?_setIfInBounds_ne e] at hx hy
        exact hr j x y hx hy)
    simpa using this
theorem VR.cellsA {σ : St} {v v' : Value} (hr : VR σ v v') (h1 : v.cells.toList.all isOne = true) : v'.cells.size = v.cells.size ∧ ∀ (j : Nat) (x y : Value), v.cells.toList[j]? = some x → v'.cells.toList[j]? = some y → VR σ x y := by
  obtain ⟨a, b⟩ := hr.cells h1
  refine ⟨by simpa using a, fun j x y hx hy => ?_⟩
  obtain ⟨z, hz, hzr⟩ := b j x hx
  rw [hz] at hy
  obtain rfl := Option.some.inj hy
  exact hzr
theorem fill_rel {place : Nat → Option (Nat × Nat)} : ∀ (ps ps' : List (Nat × Value)) (cs cs' r : Array Value), ps.length = ps'.length → (∀ (j : Nat) p p', ps[j]? = some p → ps'[j]? = some p' → p.1 = p'.1 ∧ VR σ p.2 p'.2 ∧ p.2.cells.toList.all isOne = true) → cs.size = cs'.size → (∀ (j : Nat) x y, cs[j]? = some x → cs'[j]? = some y → VR σ x y) →
    Instr.fill place cs ps = some r → ∃ r', Instr.fill place cs' ps' = some r' ∧ r.size = r'.size ∧ ∀ (j : Nat) x y, r[j]? = some x → r'[j]? = some y → VR σ x y
  | [], [], cs, cs', r, _, _, hs, hr, he => by
    simp [Instr.fill] at he; subst he
    exact ⟨cs', by simp [Instr.fill], hs, hr⟩
  | [], _ :: _, _, _, _, h, _, _, _, _ => by simp at h
  | _ :: _, [], _, _, _, h, _, _, _, _ => by simp at h
  | (i, v) :: ps, (i', v') :: ps', cs, cs', r, hl, hp, hs, hr, he => by
    obtain ⟨h1, h2, h3⟩ := hp 0 (i, v) (i', v') (by simp) (by simp)
    simp only at h1 h2 h3
    subst h1
    obtain ⟨c1, c2⟩ := h2.cellsA h3
    simp only [Instr.fill] at he ⊢
    cases hpl : place i with
    | none => simp [hpl] at he
    | some q =>
      obtain ⟨off, size⟩ := q
      simp only [hpl] at he ⊢
      split at he
      · cases he
      · rename_i hc
        rw [if_neg (by rw [c1, ← hs]; exact hc)]
        have key := fold_set (τ := σ) v.cells.toList v'.cells.toList 0 off cs cs' (by simp [c1]) c2 hs hr
        simp only [← Array.foldl_toList, Array.toList_zipIdx] at he ⊢
        exact fill_rel ps ps' _ _ r (by simpa using hl) (fun j p p' hp1 hp2 => hp (j + 1) p p' (by simpa using hp1) (by simpa using hp2)) (by rw [key.1, key.2.1, hs]) key.2.2 he
theorem partsA_rel {τ : St} {a : Act} (F : FR τ N f a) : ∀ (ps : List (Nat × Operand)) (l : List (Nat × Value)), partsA f ps = some l → l.length = (ps.map fun p => (p.1, a.eval p.2)).length ∧ ∀ (j : Nat) p p', l[j]? = some p → (ps.map fun p => (p.1, a.eval p.2))[j]? = some p' → p.1 = p'.1 ∧ VR τ p.2 p'.2
  | [], l, h => by simp [partsA] at h; subst h; exact ⟨rfl, fun j p p' h => by simp at h⟩
  | (i, x) :: r, l, h => by
    simp only [partsA] at h
    split at h
    · rename_i v l' hv hl'
      obtain rfl := Option.some.inj h
      obtain ⟨h1, h2⟩ := partsA_rel F r l' hl'
      refine ⟨by simp [h1], fun j p p' hp hp' => ?_⟩
      cases j with
      | zero => simp at hp hp'; subst hp hp'; exact ⟨rfl, F.ev hv⟩
      | succ j => exact h2 j p p' (by simpa using hp) (by simpa using hp')
    · cases h
theorem scalAll {cs : Array Value} (h : cs.toList.all scal = true) (j : Nat) (x y : Value) (hx : cs[j]? = some x) (hy : cs[j]? = some y) : VR σ x y := by
  rw [hx] at hy
  obtain rfl := Option.some.inj hy
  exact VR.scal (List.all_eq_true.1 h x (by simpa using Array.mem_of_getElem? hx))
theorem OpJ.build {t : TypeId} {ps : Array (Nat × Operand)} {fs : Array Field} {pl : Array (Nat × Nat)} {z : Value} {sz bz : Nat} {l : List (Nat × Value)} {r : Array Value} (ho : o.op = .build t ps) (ht : P.underlying t = some (.struct fs)) (hi : TI P t z sz bz)
    (hz : z.cells.toList.all scal = true) (hpl : ∀ w, (fs.mapM (m := Sem) fun f => do pure (f.offset, ← Go.sizeOf f.type)).run P w = .ok pl w) (hl : partsA f ps.toList = some l) (hone : l.all (fun p => p.2.cells.toList.all isOne) = true) (hr : Instr.fill (pl[·]?) z.cells l = some r)
    (kk : K (pt f o.dst (.agg r)) h) : OpJ P gs m N o K Kp f h := by
  refine OpJ.val (fun τ ac w F S => ?_) kk
  obtain ⟨a1, a2⟩ := partsA_rel F ps.toList l hl
  obtain ⟨r', h1, h2, h3⟩ := fill_rel (σ := τ) (place := (pl[·]?)) l (ps.toList.map fun p => (p.1, ac.eval p.2)) z.cells z.cells r a1 (fun j p p' hp hp' => by
    obtain ⟨b1, b2⟩ := a2 j p p' hp hp'
    exact ⟨b1, b2, List.all_eq_true.1 hone p (List.mem_of_getElem? hp)⟩) rfl (fun j x y hx hy => scalAll hz j x y hx hy) hr
  refine ⟨.agg r', ?_, .agg h2 h3⟩
  have hpl' := hpl w
  simp only [execOp, ho, Instr.build, Sem.run_bind, hi.zero, Result.andThen_ok, run_underlying ht]
  rw [hpl']
  simp [h1]

/-! #### literals of slices -/
theorem range_map_rel {z : Value} (n : Nat) (hz : z.cells.toList.all scal = true) (j : Nat) (x y : Value) (hx : ((Array.range n).map (z.cells[· % z.cells.size]!))[j]? = some x) (hy : ((Array.range n).map (z.cells[· % z.cells.size]!))[j]? = some y) (hne : z.cells.size ≠ 0) : VR σ x y ∧ isOne x = true := by
  rw [hx] at hy
  obtain rfl := Option.some.inj hy
  rw [Array.getElem?_map] at hx
  obtain ⟨k, _, rfl⟩ := Option.map_eq_some_iff.1 hx
  have hlt : k % z.cells.size < z.cells.size := Nat.mod_lt _ (by omega)
  have hs : scal z.cells[k % z.cells.size]! = true := by
    rw [getElem!_pos z.cells _ hlt]
    exact List.all_eq_true.1 hz _ (by simp)
  exact ⟨VR.scal hs, isOne_of_scal hs⟩
theorem OpJ.buildSlice {t e : TypeId} {n : Nat} {ps : Array (Nat × Operand)} {z : Value} {sz bz : Nat} {l : List (Nat × Value)} {r : Array Value} {vs : List Value} (ho : o.op = .buildSlice t n ps) (ht : P.underlying t = some (.slice e)) (hi : TI P e z sz bz) (hzs : z.cells.size = sz) (hs0 : sz ≠ 0)
    (hz : z.cells.toList.all scal = true) (hsm : n * sz ≤ 16777216) (hl : partsA f ps.toList = some l) (hone : l.all (fun p => p.2.cells.toList.all isOne) = true)
    (hr : Instr.fill (fun i => some (i * sz, sz)) (if n * sz = 0 then #[] else (Array.range (n * sz)).map (z.cells[· % z.cells.size]!)) l = some r) (hvs : r.toList = vs) (hlen : vs.length = n * sz) (h1 : vs.all isOne = true)
    (kk : K (pt f o.dst (.slice (some ⟨h.length, 0, none⟩) n n)) (h ++ [⟨vs, .w, sz⟩])) : OpJ P gs m N o K Kp f h := by
  intro hd C σ w a next Qe hC I F hnx hp
  obtain ⟨a1, a2⟩ := partsA_rel F ps.toList l hl
  have hone' : ∀ (j : Nat) p p', l[j]? = some p → (ps.toList.map fun p => (p.1, a.eval p.2))[j]? = some p' → p.1 = p'.1 ∧ VR σ p.2 p'.2 ∧ p.2.cells.toList.all isOne = true := fun j p p' hp hp' => by
    obtain ⟨b1, b2⟩ := a2 j p p' hp hp'
    exact ⟨b1, b2, List.all_eq_true.1 hone p (List.mem_of_getElem? hp)⟩
  obtain ⟨r', e1, e2, e3⟩ := fill_rel (σ := σ) (place := fun i => some (i * sz, sz)) l (ps.toList.map fun p => (p.1, a.eval p.2)) _ (if n * sz = 0 then #[] else (Array.range (n * sz)).map (z.cells[· % z.cells.size]!)) r a1 hone' rfl (by
    intro j x y hx hy
    split at hx
    · simp at hx
    · rename_i hne
      rw [if_neg hne] at hy
      exact (range_map_rel (n * sz) hz j x y hx hy (by omega)).1) hr
  have hrs : r.size = vs.length := by rw [← hvs]; simp
  have I2 := I.push r' e vs sz (by omega) (fun j u hu => by
    have hj := (List.getElem?_eq_some_iff.1 hu).1
    have : r[j]? = some u := by rw [← Array.getElem?_toList, hvs]; exact hu
    exact ⟨r'[j]'(by omega), by simp [show j < r'.size by omega], e3 j u _ this (by simp [show j < r'.size by omega])⟩) (all_one0 h1)
  unfold Oper.wp
  have hrun : (execOp a.eval o).run P w = .ok (.value (.slice (some ⟨w.heap.size, 0, none⟩) n n)) { w with heap := w.heap.push (.cells r' e) } := by
    simp only [execOp, ho, Instr.buildSlice, Sem.run_bind, run_underlying ht, Result.andThen_ok, hi.sizeOf]
    rw [if_neg (by omega)]
    by_cases h0 : n * sz = 0
    · rw [if_pos h0] at e1
      have e2 : (Array.range 0).map (fun x => (#[] : Array Value)[x % (#[] : Array Value).size]!) = #[] := by simp
      rw [if_pos h0]
      simp only [Sem.run_pure, Result.andThen_ok, h0, e2, Array.toList_map, e1, Sem.run_bind, run_newRow]
    · rw [if_neg h0] at e1
      have hi' := hi.zero w
      rw [if_neg h0]
      simp only [Sem.run_bind, Sem.run_pure, Result.andThen_ok, hi', Array.toList_map, e1, run_newRow]
  rw [hrun]
  refine hnx _ _ _ _ _ I2 ((F.ext (Ext.app _ _)).put ?_ hd) kk
  have := VR.sl (σ := σ ++ ([⟨w.heap.size, 0, r'.size, sz⟩] : List Loc)) (i := h.length) (o := 0) (n := n) (c := n) (l := ⟨w.heap.size, 0, r'.size, sz⟩) (by rw [St.app_l, getElem?_snoc, if_pos I.sim.len.symm]) (Nat.le_refl _) (Nat.le_refl _) (by simp; omega)
  simpa using this
/-! #### the same, told in lists -/
def fillS (place : Nat → Option (Nat × Nat)) (cells : List Value) : List (Nat × Value) → Option (List Value)
  | [] => some cells
  | (i, v) :: rest => match place i with
    | none => none
    | some (off, size) => if (Nat.beq v.cells.toList.length size && Nat.ble (off + v.cells.toList.length) cells.length) = true then fillS place (wr cells off v.cells.toList) rest else none
theorem fold_wr : ∀ (vs : List Value) (k off : Nat) (cs : List Value), (vs.zipIdx k).foldl (fun (cs : Array Value) (c, j) => cs.setIfInBounds (off + j) c) cs.toArray = (wr cs (off + k) vs).toArray
  | [], k, off, cs => rfl
  | v :: vs, k, off, cs => by
    simp only [List.zipIdx_cons, List.foldl_cons, wr, List.setIfInBounds_toArray]
    exact fold_wr vs (k + 1) off _
theorem fill_eq : ∀ (l : List (Nat × Value)) (place : Nat → Option (Nat × Nat)) (cells vs : List Value), fillS place cells l = some vs → Instr.fill place cells.toArray l = some vs.toArray
  | [], place, cells, vs, h => by simp [fillS] at h; subst h; rfl
  | (i, v) :: rest, place, cells, vs, h => by
    simp only [fillS] at h
    simp only [Instr.fill]
    cases hp : place i with
    | none => simp [hp] at h
    | some p =>
      obtain ⟨off, size⟩ := p
      simp only [hp] at h
      split at h
      · rename_i hc
        simp only [Bool.and_eq_true, Nat.beq_eq, Nat.ble_eq] at hc
        have e : v.cells.zipIdx.foldl (fun (cs : Array Value) (c, j) => cs.setIfInBounds (off + j) c) cells.toArray = (wr cells off v.cells.toList).toArray := by
          have := fold_wr v.cells.toList 0 off cells
          rw [Nat.add_zero] at this
          rw [← this, ← Array.foldl_toList]
          simp
        simp only []
        rw [if_neg (by simp at hc ⊢; omega), e]
        exact fill_eq rest place _ vs h
      · cases h
theorem range_cycle (zl : List Value) (hz : zl ≠ []) : ∀ n, (List.range (n * zl.length)).map (fun i => zl[i % zl.length]!) = (List.replicate n zl).flatten
  | 0 => by simp
  | n + 1 => by
    have hpos : 0 < zl.length := List.length_pos_iff.2 hz
    rw [List.replicate_succ, List.flatten_cons, ← range_cycle zl hz n, show (n + 1) * zl.length = zl.length + n * zl.length by rw [Nat.add_mul]; omega, List.range_add, List.map_append, List.map_map]
    congr 1
    · apply List.ext_getElem (by simp)
      intro i h1 h2
      simp at h1
      simp [Nat.mod_eq_of_lt h1, h1]
    · apply List.map_congr_left
      intro i _
      simp [Nat.add_mod]
theorem OpJ.buildL {t : TypeId} {ps : Array (Nat × Operand)} {fs : Array Field} {z : Value} {sz bz : Nat} {l : List (Nat × Value)} {vs : List Value} (pl : List (Nat × Nat)) (ho : o.op = .build t ps) (ht : P.underlying t = some (.struct fs)) (hi : TI P t z sz bz)
    (hz : z.cells.toList.all scal = true) (hpl : ∀ w, (fs.mapM (m := Sem) fun f => do pure (f.offset, ← Go.sizeOf f.type)).run P w = .ok pl.toArray w) (hl : partsA f ps.toList = some l) (hone : l.all (fun p => p.2.cells.toList.all isOne) = true) (hr : fillS (pl[·]?) z.cells.toList l = some vs)
    (kk : K (pt f o.dst (.agg vs.toArray)) h) : OpJ P gs m N o K Kp f h := by
  refine OpJ.build (r := vs.toArray) ho ht hi hz hpl hl hone ?_ kk
  have := fill_eq l (pl[·]?) z.cells.toList vs hr
  simpa using this
theorem OpJ.buildSliceL {t e : TypeId} {n : Nat} {ps : Array (Nat × Operand)} {z : Value} {sz bz : Nat} {l : List (Nat × Value)} {vs : List Value} (ho : o.op = .buildSlice t n ps) (ht : P.underlying t = some (.slice e)) (hi : TI P e z sz bz) (hzs : Nat.beq z.cells.toList.length sz = true) (hs0 : Nat.blt 0 sz = true)
    (hz : z.cells.toList.all scal = true) (hsm : Nat.ble (n * sz) 16777216 = true) (hl : partsA f ps.toList = some l) (hone : l.all (fun p => p.2.cells.toList.all isOne) = true)
    (hr : fillS (fun i => some (i * sz, sz)) (List.replicate n z.cells.toList).flatten l = some vs) (hlen : Nat.beq vs.length (n * sz) = true) (h1 : vs.all isOne = true)
    (kk : K (pt f o.dst (.slice (some ⟨h.length, 0, none⟩) n n)) (h ++ [⟨vs, .w, sz⟩])) : OpJ P gs m N o K Kp f h := by
  have hsz := Nat.eq_of_beq_eq_true hzs
  have h0 : 0 < sz := Nat.lt_of_succ_le (by simpa [Nat.blt] using hs0)
  refine OpJ.buildSlice (r := vs.toArray) ho ht hi (by simpa using hsz) (by omega) hz (by simpa using hsm) hl hone ?_ rfl (Nat.eq_of_beq_eq_true hlen) h1 kk
  have := fill_eq l (fun i => some (i * sz, sz)) _ vs hr
  rw [← this]
  congr 1
  split
  · rename_i e
    have : n = 0 := by rcases Nat.mul_eq_zero.1 e with e | e <;> omega
    subst this; rfl
  · rw [← range_cycle z.cells.toList (by intro e; rw [e] at hsz; simp at hsz; omega) n, hsz]
    rw [← List.map_toArray]
    have : (List.range (n * sz)).toArray = Array.range (n * sz) := by simp
    rw [this]
    have : z.cells.size = sz := by simpa using hsz
    rw [this]
    apply Array.map_congr_left
    intro i _
    simp [Array.getElem!_eq_getD]
end
end Go.J
