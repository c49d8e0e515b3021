/- The program logic J, part 9: copies, made slices, bytes and texts, least and greatest. No condition. -/
import Derived.Test.YthknbhghkcdepaaGreatDoorJAppend
set_option maxHeartbeats 4000000
set_option linter.unusedVariables false
set_option linter.unusedSimpArgs false
namespace Go.J
section
variable {P : Program} {gs : List (Nat × Obj)} {m N : Nat} {K : AFr → List Blk → Prop} {Kp : Value → AFr → List Blk → Prop} {f : AFr} {h : List Blk} {o : Oper} {C : Cx} {σ : St} {w : World}

/-- copy into a slice of ours: as many as fit. -/
theorem OpJ.copy {t t2 e : TypeId} {z : Value} {sz bz : Nat} {x y : Operand} {i q n c k r : Nat} {B : Blk} {ys : List Value} (ho : o.op = .call { callee := .builtin .copy, args := #[x, y], argTypes := #[t, t2] })
    (ht : P.underlying t = some (.slice e)) (ti : TI P e z sz bz) (hx : ev f x = some (.slice (some ⟨i, q, none⟩) n c)) (hb : h[i]? = some B) (hm : B.md = .w) (hq : q + n * sz ≤ B.cells.length)
    (hy : Src P gs N f h y sz k ys) (hy1 : (ys.take (r * sz)).all isOne = true) (hr : r = min k n) (kk : K (pt f o.dst (.int .i64 r)) (h.set i { B with cells := wr B.cells q (ys.take (r * sz)) })) : OpJ P gs m N o K Kp f h := by
  intro hd C σ w a next Qe hC I F hnx hp
  have S := I.sim
  have hv := F.ev hx
  obtain ⟨l, hl⟩ := S.loc hb
  obtain ⟨hyo, hyl, hyr⟩ := hy.run σ w a S F
  have hyk := hy.len
  obtain ⟨new, hn1, hn2, hn3⟩ := hyr r (by omega)
  have hn3' : (Builtin.firstCells sz r (a.eval y)).run P w = .ok new.toArray w := hn3 w.drawn
  have hrk : r * sz ≤ k * sz := Nat.mul_le_mul_right _ (by omega)
  have hrn : r * sz ≤ n * sz := Nat.mul_le_mul_right _ (by omega)
  have htl : (ys.take (r * sz)).length = r * sz := by rw [List.length_take]; omega
  generalize hu : a.eval x = u at hv
  have hop : ∀ (A : Option Addr) (c2 : Nat) (w' : World), u = .slice A n c2 → (match A with | some a => storeCells a new | none => pure ()).run P w = .ok () w' → (execOp a.eval o).run P w = .ok (.value (.int .i64 r)) w' := by
    intro A c2 w' hA hst
    simp only [execOp, ho, resolve, invoke, builtin, List.map_toArray, List.map_cons, List.map_nil, hu, Sem.run_bind, Sem.run_pure, Result.andThen_ok, hA]
    unfold Builtin.copy_
    simp only [List.getElem?_toArray, List.getElem?_cons_zero, List.getElem?_cons_succ, Sem.run_bind, run_underlying ht, Result.andThen_ok, ti.sizeOf, Sem.run_pure]
    rw [hyl]
    have : Nat.min k n = r := hr.symm
    simp only [Result.andThen_ok, this, hn3']
    cases A with
    | none => simp at hst; simp [hst, goInt]
    | some A => simp at hst; simp [hst, goInt]
  cases hv with
  | @sl _ _ _ _ c2 l1 hl1 hnc hcc hc =>
    rw [hl] at hl1
    obtain rfl := Option.some.inj hl1
    obtain ⟨w', hst, I2⟩ := Inv.stores (P := P) (ys.take (r * sz)) new 0 (q := q) I hb hl hm (by omega) (by omega) (fun j v hj => by
      have h1 := (List.getElem?_eq_some_iff.1 hj).1
      rw [List.getElem?_take] at hj
      split at hj
      · exact hn2 j v hj (by omega)
      · cases hj) hy1
    unfold Oper.wp
    rw [hop _ _ w' rfl (by simpa using hst)]
    exact hnx σ _ _ _ w' (by simpa using I2) (F.put (.int _ _) hd) kk
  | @slz _ _ av =>
    have hr0 : r = 0 := by omega
    subst hr0
    obtain rfl : new = [] := List.eq_nil_of_length_eq_zero (by omega)
    have e1 : h.set i { B with cells := wr B.cells q (ys.take (0 * sz)) } = h := by
      simp only [Nat.zero_mul, List.take_zero, wr]
      apply List.ext_getElem?
      intro j
      by_cases e : i = j
      · subst e; rw [List.getElem?_set_self (List.getElem?_eq_some_iff.1 hb).1, hb]
      · rw [List.getElem?_set_ne e]
    rw [e1] at kk
    unfold Oper.wp
    rw [hop _ _ w rfl (by cases av <;> simp [storeCells])]
    exact hnx σ _ _ _ w I (F.put (.int _ _) hd) kk

theorem run_askRoom (n : Nat) : (askRoom n).run P w = .ok () w := by
  unfold askRoom
  split <;> rfl
theorem modify_push {α : Type} (xs : Array α) (o : α) (g : α → α) : (xs.push o).modify xs.size g = xs.push (g o) := by
  apply Array.ext_getElem?
  intro j
  rw [Array.getElem?_modify, Array.getElem?_push, Array.getElem?_push]
  by_cases hj : xs.size = j
  · subst hj; simp
  · rw [if_neg hj, if_neg (fun e => hj e.symm), if_neg (fun e => hj e.symm)]
/-- make([]T, n, c), T's zero value being one cell again and again. -/
theorem OpJ.makeSlice {t e : TypeId} {z u : Value} {sz bz : Nat} {x y : Operand} {k k' : IntKind} {n c : Nat} (ho : o.op = .makeSlice t x y) (ht : P.underlying t = some (.slice e)) (ti : TI P e z sz bz) (hzs : z.cells = (List.replicate sz u).toArray) (hs0 : sz ≠ 0) (hu : scal u = true)
    (hx : ev f x = some (.int k n)) (hy : ev f y = some (.int k' c)) (hnc : n ≤ c) (hbig : c * bz ≤ 281474976710656) (hc63 : c ≤ 9223372036854775807)
    (kk : K (pt f o.dst (.slice (some ⟨h.length, 0, none⟩) n c)) (h ++ [⟨List.replicate (c * sz) u, .w, sz⟩])) : OpJ P gs m N o K Kp f h := by
  intro hd C σ w a next Qe hC I F hnx hp
  have ex := (F.ev hx).scal_eq rfl
  have ey := (F.ev hy).scal_eq rfl
  obtain ⟨i, hi, hbz, hsz, hzz⟩ := ti.tinfo w
  have wn : IntKind.i64.wrap (n : Int) = n := by simp [IntKind.wrap, IntKind.bits, IntKind.signed]; omega
  have wc : IntKind.i64.wrap (c : Int) = c := by simp [IntKind.wrap, IntKind.bits, IntKind.signed]; omega
  have hz0 := ti.zero w
  have hzsz : z.cells.size = sz := by rw [hzs]; simp
  have hcells : (Array.range (c * sz)).map (fun i => z.cells[i % z.cells.size]!) = (List.replicate (c * sz) u).toArray := by
    apply Array.ext'
    apply List.ext_getElem?
    intro j
    simp only [Array.toList_map, List.getElem?_map, Array.toList_range]
    by_cases hj : j < c * sz
    · rw [List.getElem?_range hj]
      have hlt : j % z.cells.size < z.cells.size := Nat.mod_lt _ (by omega)
      have hg : z.cells[j % z.cells.size]? = some u := by
        rw [hzsz] at hlt ⊢
        rw [hzs, List.getElem?_toArray, List.getElem?_replicate, if_pos hlt]
      simp only [Option.map_some]
      rw [getElem!_pos z.cells _ hlt, List.getElem?_replicate, if_pos hj]
      rw [Array.getElem?_eq_getElem hlt] at hg
      exact hg
    · rw [List.getElem?_eq_none (by simpa using hj)]
      simp [List.getElem?_replicate, hj]
  have run : (execOp a.eval o).run P w = .ok (.value (.slice (some ⟨w.heap.size, 0, none⟩) n c)) { w with heap := w.heap.push (.cells (List.replicate (c * sz) u).toArray e) } := by
    simp only [execOp, ho, Instr.makeSlice, Sem.run_bind, run_underlying ht, Result.andThen_ok, ex, ey, asInt, asIntOf, Sem.run_pure, hi, hbz, wn, wc, ti.sizeOf, askRoom]
    have h1 : ¬ ((c : Int) < 0) := by omega
    have h2 : ¬ ((bz : Int) * (c : Int) > 2 ^ 48) := by
      have h1 : ((c * bz : Nat) : Int) ≤ 281474976710656 := Int.ofNat_le.2 hbig
      have e : ((bz : Int) * (c : Int)) = ((c * bz : Nat) : Int) := by rw [Int.natCast_mul]; exact Int.mul_comm _ _
      have e2 : (2 : Int) ^ 48 = 281474976710656 := by decide
      rw [e, e2]
      omega
    have h3 : ¬ ((n : Int) < 0) := by omega
    have h4 : ¬ ((n : Int) > (c : Int)) := by omega
    simp only [h1, h2, h3, h4, decide_false, Bool.or_self, Bool.false_eq_true, if_false, Int.toNat_natCast]
    have hask : (if c * bz > roomBytes then mark Mark.noRoom else (pure () : Sem Unit)).run P w = .ok () w := run_askRoom (P := P) (w := w) (c * bz)
    simp only [Sem.run_bind]
    rw [hask]
    simp only [Result.andThen_ok, ti.sizeOf]
    by_cases h0 : c * sz = 0
    · rw [if_pos h0]
      have e0 : Array.range 0 = #[] := rfl
      simp only [Sem.run_bind, Sem.run_pure, Result.andThen_ok, h0, run_newRow, e0]
      simp
    · rw [if_neg h0]
      simp only [Sem.run_bind, hz0, Result.andThen_ok, Sem.run_pure, run_newRow, hcells]
  have I2 := I.push (List.replicate (c * sz) u).toArray e (List.replicate (c * sz) u) sz (by simp) (fun j v hj => ⟨v, by rw [List.getElem?_toArray]; exact hj, by
      have := List.mem_of_getElem? hj
      rw [List.mem_replicate] at this
      rw [this.2]; exact VR.scal hu⟩) (fun v hv => by rw [List.mem_replicate] at hv; rw [hv.2]; exact isOne_one0 (isOne_of_scal hu))
  unfold Oper.wp
  rw [run]
  refine hnx _ _ _ _ _ I2 ((F.ext (Ext.app _ _)).put ?_ hd) kk
  have := VR.sl (σ := σ ++ ([⟨w.heap.size, 0, (List.replicate (c * sz) u).toArray.size, sz⟩] : List Loc)) (i := h.length) (o := 0) (n := n) (c := c) (by rw [St.app_l, getElem?_snoc, if_pos I.sim.len.symm]) hnc (Nat.le_refl _) (by simp)
  simpa using this

/-! #### bytes and texts -/
theorem OpJ.toBytes {t s e : TypeId} {ds : TypeDesc} {x : Operand} {a : ByteArray} (ho : o.op = .convert s t x) (hs : P.underlying s = some ds) (ht : P.underlying t = some (.slice e)) (he : P.underlying e = some (.int .u8)) (hx : ev f x = some (.string a))
    (kk : ∀ c, a.data.toList.length ≤ c → K (pt f o.dst (.slice (some ⟨h.length, 0, none⟩) a.data.toList.length c)) (h ++ [⟨bytesC a.data.toList, .w, 1⟩])) : OpJ P gs m N o K Kp f h := by
  intro hd C σ w ac next Qe hC I F hnx hp
  have ex := (F.ev hx).scal_eq rfl
  have hsz : a.size = a.data.toList.length := by simp
  generalize hq : (Question.cut (.appendCap a.size 0 e) (w.tape w.drawn (.appendCap a.size 0 e))) = c'
  have hle : a.size ≤ c' := by rw [← hq]; simp [Question.cut]
  have hcs : ((a.data.map fun b => Value.int .u8 b.toNat) ++ Array.replicate (c' - a.size) (Value.int .u8 0)).size = c' := by
    have : a.data.size = a.size := rfl
    simp [this]; omega
  have run : (execOp ac.eval o).run P w = .ok (.value (.slice (some ⟨w.heap.size, 0, none⟩) a.size c')) { w with drawn := w.drawn + 1, heap := w.heap.push (.cells ((a.data.map fun b => Value.int .u8 b.toNat) ++ Array.replicate (c' - a.size) (Value.int .u8 0)) e (c', c' + 1)) } := by
    have hm : ∀ (W : World) (c : Array Value), (markStringish ⟨W.heap.size, 0, none⟩).run P { W with heap := W.heap.push (.cells c e) } = .ok () { W with heap := W.heap.push (.cells c e (c.size, c.size + 1)) } := by
      intro W c
      have r1 : ∀ (r : Nat) (W : World), (shape r).run P W = .ok (W.shape? r) W := fun _ _ => rfl
      have r2 : ∀ (a : Addr) (n : Nat) (W : World), (freeze a n).run P W = .ok () (W.freeze a n) := fun _ _ _ => rfl
      simp only [markStringish, Sem.run_bind, r1, Result.andThen_ok]
      have r3 : World.shape? { W with heap := W.heap.push (.cells c e) } W.heap.size = some (e, c.size) := by simp [World.shape?]
      rw [r3]
      simp only [r2, World.freeze]
      rw [if_neg (by omega), modify_push]
      simp
    have hch : ∀ (q : Question) (W : World), q.forced = false → (choose q).run P W = .ok (q.cut (W.tape W.drawn q)) { W with drawn := W.drawn + 1 } := by
      intro q W hf
      simp only [choose, Sem.run, hf]
      rfl
    simp only [execOp, ho, ex, convert, Sem.run_bind, run_underlying hs, run_underlying ht, Result.andThen_ok, run_underlying he, Conv.stringToBytes, hch _ _ (show (Question.appendCap a.size 0 e).forced = false from rfl), hq, run_newRow, Sem.run_pure]
    have := hm { w with drawn := w.drawn + 1 } ((a.data.map fun b => Value.int .u8 b.toNat) ++ Array.replicate (c' - a.size) (Value.int .u8 0))
    rw [hcs] at this
    simp only [this, Result.andThen_ok]
  have I2 := (I.draw (w.drawn + 1)).pushF ((a.data.map fun b => Value.int .u8 b.toNat) ++ Array.replicate (c' - a.size) (Value.int .u8 0)) e (c', c' + 1) (fun q hq => by rw [hcs] at hq; omega) (bytesC a.data.toList) 1 (by rw [hcs, bytesC_length]; omega) (fun j v hj => by
    rw [bytesC_get] at hj
    obtain ⟨b, hb, rfl⟩ := Option.map_eq_some_iff.1 hj
    have hlt := (List.getElem?_eq_some_iff.1 hb).1
    refine ⟨bv b, ?_, .int _ _⟩
    rw [Array.getElem?_append_left (by simpa using hlt), Array.getElem?_map]
    have : a.data[j]? = some b := by simpa using hb
    rw [this]; rfl) (fun v hv => isOne_one0 (List.all_eq_true.1 (bytesC_one _) v hv))
  unfold Oper.wp
  rw [run]
  refine hnx _ _ _ _ _ I2 ((F.ext (Ext.app _ _)).put ?_ hd) (kk c' (by omega))
  have := VR.sl (σ := σ ++ ([⟨w.heap.size, 0, ((a.data.map fun b => Value.int .u8 b.toNat) ++ Array.replicate (c' - a.size) (Value.int .u8 0)).size, 1⟩] : List Loc)) (i := h.length) (o := 0) (n := a.data.toList.length) (c := c') (by rw [St.app_l, getElem?_snoc, if_pos I.sim.len.symm]) (by omega) (Nat.le_refl _) (by simp only [hcs]; omega)
  rw [hsz]
  simpa using this

theorem strOfNums_bytes (l : List UInt8) : strOfNums (l.map fun b => (b.toNat : Int)) = ⟨l.toArray⟩ := by
  unfold strOfNums
  congr 1
  rw [List.map_map]
  have : (fun n : Int => UInt8.ofNat n.toNat) ∘ (fun b : UInt8 => (b.toNat : Int)) = id := by funext b; simp
  rw [this, List.map_id]
theorem OpJ.toText {t s e : TypeId} {x : Operand} {i q n c : Nat} {B : Blk} {l : List UInt8} (ho : o.op = .convert s t x) (hs : P.underlying s = some (.slice e)) (he : P.underlying e = some (.int .u8)) (ht : P.underlying t = some .string)
    (hx : ev f x = some (.slice (some ⟨i, q, none⟩) n c)) (hn : l.length = n) (hb : h[i]? = some B) (hm : live B = true) (hl : (B.cells.drop q).take n = bytesC l) (kk : K (pt f o.dst (.string ⟨l.toArray⟩)) h) : OpJ P gs m N o K Kp f h := by
  refine OpJ.val (fun τ a w F S => ⟨.string ⟨l.toArray⟩, ?_, .string _⟩) kk
  have hr := F.ev hx
  generalize hu : a.eval x = v' at hr
  have hrun : ∀ (b o' c : Nat), (∀ j, j < l.length → w.cell? ⟨b, o' + j, none⟩ = some (.int .u8 ((l.map fun b => (b.toNat : Int)).getD j 0))) → (convert s t (.slice (some ⟨b, o', none⟩) l.length c)).run P w = .ok (.string ⟨l.toArray⟩) w := by
    intro b o' c hc
    rw [← strOfNums_bytes]
    exact run_convert_bytes_arg w s e hs he b o' l.length c (l.map fun b => (b.toNat : Int)) (by simp) hc t ht
  cases hr with
  | @sl _ _ _ _ c0 m0 hl0 hnc hc0 hcc =>
    subst hn
    obtain ⟨vc, a1, a2, a3⟩ := S.cells hl0 hb (live_md hm) hl (bytesC_length l)
    have := hrun m0.b (m0.o + q) c0 (fun j hj => by
      obtain ⟨v', b1, b2⟩ := a2 j (bv l[j]) (by rw [bytesC_get, List.getElem?_eq_getElem hj]; rfl)
      have b3 := b2.scal_eq rfl
      subst b3
      rw [a3 j _ b1]
      simp [bv, hj])
    simp [execOp, ho, hu, this]
  | @slz _ _ av =>
    obtain rfl : l = [] := List.eq_nil_of_length_eq_zero hn
    cases av with
    | none =>
      have := run_convert_bytes_nil (P := P) w s e hs he 0 0 t ht
      simp only [execOp, ho, hu, Sem.run_bind, this, Result.andThen_ok, Sem.run_pure]
      rfl
    | some av =>
      simp [execOp, ho, hu, convert, run_underlying hs, run_underlying he, run_underlying ht, Conv.bytesToString, loadCells, loadCellsFrom]
      rfl
theorem OpJ.toTextNil {t s e : TypeId} {x : Operand} (ho : o.op = .convert s t x) (hs : P.underlying s = some (.slice e)) (he : P.underlying e = some (.int .u8)) (ht : P.underlying t = some .string)
    (hx : ev f x = some (.slice none 0 0)) (kk : K (pt f o.dst (.string ⟨#[]⟩)) h) : OpJ P gs m N o K Kp f h := by
  refine OpJ.val (fun τ a w F S => ⟨.string ⟨#[]⟩, ?_, .string _⟩) kk
  have hu := (F.ev hx).scal_eq rfl
  have := run_convert_bytes_nil (P := P) w s e hs he 0 0 t ht
  simp only [execOp, ho, hu, Sem.run_bind, this, Result.andThen_ok, Sem.run_pure]
  rfl

/-! #### least and greatest -/
theorem OpJ.min2 {x y : Operand} {ts : Array TypeId} {k k' : IntKind} {a b : Int} (ho : o.op = .call { callee := .builtin .min, args := #[x, y], argTypes := ts }) (hx : ev f x = some (.int k a)) (hy : ev f y = some (.int k' b))
    (kk : K (pt f o.dst (.int k (if b < a then b else a))) h) : OpJ P gs m N o K Kp f h := by
  refine OpJ.val (fun τ ac w F S => ?_) kk
  have ex := (F.ev hx).scal_eq rfl
  have ey := (F.ev hy).scal_eq rfl
  exact ⟨_, by simp [execOp, ho, resolve, invoke, builtin, Builtin.min_, Builtin.min2, ex, ey], .int _ _⟩
theorem OpJ.max2 {x y : Operand} {ts : Array TypeId} {k k' : IntKind} {a b : Int} (ho : o.op = .call { callee := .builtin .max, args := #[x, y], argTypes := ts }) (hx : ev f x = some (.int k a)) (hy : ev f y = some (.int k' b))
    (kk : K (pt f o.dst (.int k (if a < b then b else a))) h) : OpJ P gs m N o K Kp f h := by
  refine OpJ.val (fun τ ac w F S => ?_) kk
  have ex := (F.ev hx).scal_eq rfl
  have ey := (F.ev hy).scal_eq rfl
  exact ⟨_, by simp [execOp, ho, resolve, invoke, builtin, Builtin.max_, Builtin.max2, ex, ey], .int _ _⟩
theorem OpJ.capSl {t e : TypeId} {x : Operand} {b : Option Addr} {n c : Nat} (ho : o.op = .call { callee := .builtin .cap, args := #[x], argTypes := #[t] }) (ht : P.underlying t = some (.slice e)) (hx : ev f x = some (.slice b n c))
    (kk : ∀ c', c ≤ c' → (b = none → c' = c) → K (pt f o.dst (.int .i64 c')) h) : OpJ P gs m N o K Kp f h := by
  intro hd C σ w a next Qe hC I F hnx hp
  obtain ⟨b', c1, ex, hc1, hb, hb0⟩ := (F.ev hx).slice_form
  unfold Oper.wp
  have : (execOp a.eval o).run P w = .ok (.value (.int .i64 c1)) w := by simp [execOp, ho, resolve, invoke, builtin, ex, Builtin.cap_, run_underlying ht, goInt]
  rw [this]
  exact hnx σ _ h _ w I (F.put (.int _ _) hd) (kk c1 hc1 hb0)
end
end Go.J
