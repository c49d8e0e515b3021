/- The program logic J, part 13: the rules as a walk uses them. No condition. -/
import Derived.Test.YthknbhghkcdepaaGreatDoorJCallJ
set_option maxHeartbeats 4000000
set_option linter.unusedVariables false
set_option linter.unusedSimpArgs false
namespace Go.J
section
variable {P : Program} {gs : List (Nat × Obj)} {m N : Nat} {Q : APost} {f f2 : AFr} {h h2 : List Blk} {all os : List Oper} {o : Oper} {K : AFr → List Blk → Prop} {Kp : Value → AFr → List Blk → Prop}

theorem AOps.step (hg : o.guard = none) (k : OpJ P gs m N o (AOps P gs m N Q all os) (fun v f h => Q (.panic v) f h) f h) : AOps P gs m N Q all (o :: os) f h := by
  simp only [AOps, hg]; exact k
theorem AOps.done (k : Q .normal f h) : AOps P gs m N Q all [] f h := k
/-- A guarded operation: whether it is done. -/
theorem AOps.guard {j t : Nat} {b x : Bool} (hg : o.guard = some (j, b)) (ht : (all[j]?).bind (·.dst) = some t) (hx : lk f t = some (.bool x))
    (h1 : x = b → OpJ P gs m N o (AOps P gs m N Q all os) (fun v f h => Q (.panic v) f h) f h) (h2 : x = !b → AOps P gs m N Q all os (pt f o.dst UN) h) : AOps P gs m N Q all (o :: os) f h := by
  simp only [AOps, hg]
  refine .inl ⟨t, x, ht, hx, h1, fun e => h2 ?_⟩
  cases x <;> cases b <;> simp_all
theorem AOps.doG {j t : Nat} {b x : Bool} (hg : o.guard = some (j, b)) (ht : (all[j]?).bind (·.dst) = some t) (hx : lk f t = some (.bool x)) (e : x = b)
    (h1 : OpJ P gs m N o (AOps P gs m N Q all os) (fun v f h => Q (.panic v) f h) f h) : AOps P gs m N Q all (o :: os) f h := by
  simp only [AOps, hg]
  exact .inl ⟨t, x, ht, hx, fun _ => h1, fun n => (n e).elim⟩
theorem AOps.skipG {j t : Nat} {b x : Bool} (hg : o.guard = some (j, b)) (ht : (all[j]?).bind (·.dst) = some t) (hx : lk f t = some (.bool x)) (e : x = !b)
    (h2 : AOps P gs m N Q all os (pt f o.dst UN) h) : AOps P gs m N Q all (o :: os) f h := by
  simp only [AOps, hg]
  refine .inl ⟨t, x, ht, hx, fun n => ?_, fun _ => h2⟩
  subst n; cases x <;> simp at e

theorem AOps.skipU {j t : Nat} {b : Bool} (hg : o.guard = some (j, b)) (ht : (all[j]?).bind (·.dst) = some t) (hx : lk f t = some UN)
    (h2 : AOps P gs m N Q all os (pt f o.dst UN) h) : AOps P gs m N Q all (o :: os) f h := by
  simp only [AOps, hg]
  exact .inr ⟨t, ht, hx, h2⟩
/-- Whether what follows under a guard is done: both ways. -/
theorem AOps.split {t : Nat} {x : Bool} (hx : lk f t = some (.bool x)) (h1 : x = true → AOps P gs m N Q all os f h) (h2 : x = false → AOps P gs m N Q all os f h) : AOps P gs m N Q all os f h := by
  cases x with
  | true => exact h1 rfl
  | false => exact h2 rfl

theorem thenA.go {next : AFr → List Blk → Prop} (k : next f h) : thenA next Q .normal f h := k
theorem thenA.ret {next : AFr → List Blk → Prop} (k : Q .ret f h) : thenA next Q .ret f h := k
theorem thenA.exit {next : AFr → List Blk → Prop} {i : Nat} (k : Q (.exit i) f h) : thenA next Q (.exit i) f h := k
theorem thenA.panic {next : AFr → List Blk → Prop} {v : Value} (k : Q (.panic v) f h) : thenA next Q (.panic v) f h := k
theorem inBlockA.go {i : Nat} (k : Q .normal f h) : inBlockA i Q .normal f h := k
theorem inBlockA.ret {i : Nat} (k : Q .ret f h) : inBlockA i Q .ret f h := k
theorem inBlockA.panic {i : Nat} {v : Value} (k : Q (.panic v) f h) : inBlockA i Q (.panic v) f h := k
theorem inBlockA.here {i : Nat} (k : Q .normal f h) : inBlockA i Q (.exit i) f h := by simp only [inBlockA, if_true]; exact k
theorem inBlockA.out {i j : Nat} (e : (j == i) = false) (k : Q (.exit j) f h) : inBlockA i Q (.exit j) f h := by
  simp only [inBlockA]; rw [if_neg (by simpa using e)]; exact k

/-! #### frames and heaps told weaker -/
def SubF (f : AFr) : AFr → Prop
  | [] => True
  | (t, v) :: r => lk f t = some v ∧ SubF f r
theorem SubF.lk {f : AFr} : ∀ {g : AFr}, SubF f g → ∀ (t : Nat) (v : Value), Go.J.lk g t = some v → Go.J.lk f t = some v
  | [], _, t, v, h => by simp [Go.J.lk] at h
  | (s, u) :: r, hs, t, v, h => by
    simp only [Go.J.lk] at h
    split at h
    · rename_i e; subst e
      obtain rfl := Option.some.inj h
      exact hs.1
    · exact hs.2.lk t v h
theorem Wk.fr (hs : SubF f f2) : Wk gs m N f h f2 h := fun C σ w a _ I F => ⟨σ, I, F.size, F.defers, fun t v ht => F.val t v (hs.lk t v ht)⟩
theorem AWP.trim {c : Code} (f2 : AFr) (hs : SubF f f2) (k : AWP P gs m N c Q f2 h) : AWP P gs m N c Q f h := AWP.wk (Wk.fr hs) k
theorem OpJ.wk (w : Wk gs m N f h f2 h2) (k : OpJ P gs m N o K Kp f2 h2) : OpJ P gs m N o K Kp f h := by
  intro hd C σ w' a next Qe hC I F
  obtain ⟨τ, I2, F2⟩ := w C σ w' a hC I F
  exact k hd C τ w' a next Qe hC I2 F2
/-- A nil slice told as one without room. -/
theorem Wk.ghost (md : Md) (e t : Nat) (hx : lk f t = some (.slice none 0 0)) : Wk gs m N f h ((t, .slice (some ⟨h.length, 0, none⟩) 0 0) :: f) (h ++ [⟨[], md, e⟩]) := by
  intro C σ w a _ I F
  refine ⟨_, I.ghost md e, F.size, F.defers, fun s v hs => ?_⟩
  simp only [lk] at hs
  split at hs
  · rename_i e; subst e
    obtain rfl := Option.some.inj hs
    obtain ⟨v', h1, h2⟩ := F.val _ _ hx
    have h3 := h2.scal_eq rfl
    subst h3
    exact ⟨_, h1, .slz⟩
  · obtain ⟨v', h1, h2⟩ := F.val s v hs
    exact ⟨v', h1, h2.ext (Ext.app _ _)⟩
/-- One block told otherwise: as read-only, as dead, or by fewer cells. -/
theorem Wk.less {i : Nat} {B B' : Blk} (hb : h[i]? = some B) (hd : B'.md = .d ∨ (B'.md = B.md ∧ B'.es = B.es ∧ (∃ n, B'.cells = B.cells.take n))) : Wk gs m N f h f (h.set i B') :=
  fun C σ w a _ I F => ⟨σ, I.less hb hd, F⟩

/-- A join: wherever code comes to its end, it is told alike. -/
theorem AWP.cut {c d : Code} (J : AFr → List Blk → Prop) (k : AWP P gs m N c (thenA (fun f h => ∃ f2 h2, Wk gs m N f h f2 h2 ∧ J f2 h2) Q) f h) (r : ∀ f h, J f h → AWP P gs m N d Q f h) : AWP P gs m N (.seq c d) Q f h := by
  refine AWP.seq (k.mono ?_)
  intro e f h q
  cases e with
  | normal => obtain ⟨f2, h2, w, j⟩ := q; exact AWP.wk w (r _ _ j)
  | exit i => exact q
  | goto l => exact q
  | ret => exact q
  | panic v => exact q

theorem Spec.mk (m : Nat) {g N : Nat} {fn : Func} {c : Code} {vs : List Value} {hl : List Blk} {rs : Array ResultVar} {R : Out → List Blk → Prop} (hf : P.funcs[g]? = some fn) (hb : fn.body = some c) (hn : (fn.name == "runtime.NumGoroutine") = false) (hN : fn.ntmps = N) (hr : fn.results = rs) (hm : hl.length = m)
    (hl' : Nat.ble vs.length N = true) (k : AWP P gs m N c (bodyA P gs m rs.toList R) (argF 0 vs) hl) : Spec P gs g vs hl R := by
  subst hN hr hm
  exact Spec.of_body hf hb hn (Nat.le_of_ble_eq_true hl') k

/-! #### numbers -/
theorem wrap_id {a : Int} (h1 : -9223372036854775808 ≤ a) (h2 : a ≤ 9223372036854775807) : IntKind.i64.wrap a = a := by
  simp [IntKind.wrap, IntKind.bits, IntKind.signed] at *
  omega
theorem OpJ.addI {t t' : TypeId} {x y : Operand} {a b : Int} (ho : o.op = .binOp .add t x y t') (hx : ev f x = some (.int .i64 a)) (hy : ev f y = some (.int .i64 b)) (h1 : -9223372036854775808 ≤ a + b ∧ a + b ≤ 9223372036854775807)
    (kk : K (pt f o.dst (.int .i64 (a + b))) h) : OpJ P gs m N o K Kp f h :=
  OpJ.binI ho hx hy (by simp only [intBin, wrap_id h1.1 h1.2]) kk
theorem OpJ.subI {t t' : TypeId} {x y : Operand} {a b : Int} (ho : o.op = .binOp .sub t x y t') (hx : ev f x = some (.int .i64 a)) (hy : ev f y = some (.int .i64 b)) (h1 : -9223372036854775808 ≤ a - b ∧ a - b ≤ 9223372036854775807)
    (kk : K (pt f o.dst (.int .i64 (a - b))) h) : OpJ P gs m N o K Kp f h :=
  OpJ.binI ho hx hy (by simp only [intBin, wrap_id h1.1 h1.2]) kk
theorem OpJ.mulI {t t' : TypeId} {x y : Operand} {a b : Int} (ho : o.op = .binOp .mul t x y t') (hx : ev f x = some (.int .i64 a)) (hy : ev f y = some (.int .i64 b)) (h1 : -9223372036854775808 ≤ a * b ∧ a * b ≤ 9223372036854775807)
    (kk : K (pt f o.dst (.int .i64 (a * b))) h) : OpJ P gs m N o K Kp f h :=
  OpJ.binI ho hx hy (by simp only [intBin, wrap_id h1.1 h1.2]) kk
/-- A number's operation, what it gives told by the walk. -/
theorem OpJ.binV (v : Value) {op : BinOp} {t t' : TypeId} {x y : Operand} {k : IntKind} {a b : Int} (ho : o.op = .binOp op t x y t') (hx : ev f x = some (.int k a)) (hy : ev f y = some (.int k b)) (hv : intBin op k a b = some v)
    (kk : K (pt f o.dst v) h) : OpJ P gs m N o K Kp f h := OpJ.binI ho hx hy hv kk
theorem AWP.condP {p : Prop} [Decidable p] {c : Operand} {x y : Code} (hc : ev f c = some (.bool (decide p))) (ht : p → AWP P gs m N x Q f h) (hf : ¬p → AWP P gs m N y Q f h) : AWP P gs m N (.cond c x y) Q f h :=
  AWP.cond hc (fun e => ht (of_decide_eq_true e)) (fun e => hf (of_decide_eq_false e))
theorem AWP.condT {c : Operand} {x y : Code} {t : Bool} (hc : ev f c = some (.bool t)) (e : t = true) (ht : AWP P gs m N x Q f h) : AWP P gs m N (.cond c x y) Q f h :=
  AWP.cond hc (fun _ => ht) (fun n => by rw [e] at n; cases n)
theorem AWP.condF {c : Operand} {x y : Code} {t : Bool} (hc : ev f c = some (.bool t)) (e : t = false) (hf : AWP P gs m N y Q f h) : AWP P gs m N (.cond c x y) Q f h :=
  AWP.cond hc (fun n => by rw [e] at n; cases n) (fun _ => hf)
theorem OpJ.pickT {c x y : Operand} {t : Bool} {v : Value} (ho : o.op = .pick c x y) (hc : ev f c = some (.bool t)) (e : t = true) (hx : ev f x = some v) (k : K (pt f o.dst v) h) : OpJ P gs m N o K Kp f h := by
  subst e
  exact OpJ.pick (v := v) ho hc (fun _ => hx) (fun n => by cases n) k
theorem OpJ.pickF {c x y : Operand} {t : Bool} {v : Value} (ho : o.op = .pick c x y) (hc : ev f c = some (.bool t)) (e : t = false) (hy : ev f y = some v) (k : K (pt f o.dst v) h) : OpJ P gs m N o K Kp f h := by
  subst e
  exact OpJ.pick (u := v) ho hc (fun n => by cases n) (fun _ => hy) k

/-! #### bytes -/
theorem bytesC_drop (a : List UInt8) (n : Nat) : (bytesC a).drop n = bytesC (a.drop n) := by simp [bytesC, List.map_drop]
theorem bytesC_take (a : List UInt8) (n : Nat) : (bytesC a).take n = bytesC (a.take n) := by simp [bytesC, List.map_take]
theorem bytesC_scal (l : List UInt8) : (bytesC l).all zb = true := List.all_eq_true.2 fun v hv => by
  simp only [bytesC, List.mem_map] at hv
  obtain ⟨b, _, rfl⟩ := hv; rfl
/-- The bytes of a slice. -/
def isB (h : List Blk) (v : Value) (l : List UInt8) : Prop := (v = .slice none 0 0 ∧ l = []) ∨
  ∃ (i q c : Nat) (B : Blk), v = .slice (some ⟨i, q, none⟩) l.length c ∧ h[i]? = some B ∧ live B = true ∧ B.es = 1 ∧ (B.cells.drop q).take l.length = bytesC l
theorem Src.bytes {x : Operand} {v : Value} {l : List UInt8} (hx : ev f x = some v) (hv : isB h v l) : Src P gs N f h x 1 l.length (bytesC l) := by
  rcases hv with ⟨rfl, rfl⟩ | ⟨i, q, c, B, rfl, hb, hm, he, hl⟩
  · exact Src.nil hx
  · exact Src.sl hx hb hm (by simpa using hl) (by simp [bytesC_length])
/-- Bytes appended to a slice of ours. -/
theorem OpJ.appendB {t t2 e : TypeId} {d2 : TypeDesc} {x y : Operand} {i c : Nat} {l k : List UInt8} {v : Value} (ho : o.op = .call { callee := .builtin .append, args := #[x, y], argTypes := #[t, t2] })
    (ht : P.underlying t = some (.slice e)) (ht2 : P.underlying t2 = some d2) (hd2 : notInt d2 = true) (ti : TI P e (.int .u8 0) 1 1)
    (hx : ev f x = some (.slice (some ⟨i, 0, none⟩) l.length c)) (hb : h[i]? = some ⟨bytesC l, .w, 1⟩) (hy : ev f y = some v) (hv : isB h v k) (hbig : l.length + k.length ≤ 140737488355328)
    (kk : ∀ c', (l ++ k).length ≤ c' → K (pt f o.dst (.slice (some ⟨h.length, 0, none⟩) (l ++ k).length c')) (h.set i ⟨[], .d, 1⟩ ++ [⟨bytesC (l ++ k), .w, 1⟩])) : OpJ P gs m N o K Kp f h := by
  refine OpJ.append (xs := bytesC l) ho ht ht2 hd2 ti rfl hx hb rfl rfl (by simp [List.take_of_length_le, bytesC_length]) (by simp [bytesC_length]) (Src.bytes hy hv) (bytesC_one k) (by omega) (by omega) ?_
  intro c' hc
  have := kk c' (by simpa using hc)
  simpa [bytesC_append] using this
theorem OpJ.appendBNil {t t2 e : TypeId} {d2 : TypeDesc} {x y : Operand} {k : List UInt8} {v : Value} (ho : o.op = .call { callee := .builtin .append, args := #[x, y], argTypes := #[t, t2] })
    (ht : P.underlying t = some (.slice e)) (ht2 : P.underlying t2 = some d2) (hd2 : notInt d2 = true) (ti : TI P e (.int .u8 0) 1 1)
    (hx : ev f x = some (.slice none 0 0)) (hy : ev f y = some v) (hv : isB h v k) (hk : k ≠ []) (hbig : k.length ≤ 140737488355328)
    (kk : ∀ c', k.length ≤ c' → K (pt f o.dst (.slice (some ⟨h.length, 0, none⟩) k.length c')) (h ++ [⟨bytesC k, .w, 1⟩])) : OpJ P gs m N o K Kp f h :=
  OpJ.appendNil ho ht ht2 hd2 ti rfl hx (Src.bytes hy hv) (List.length_pos_iff.2 hk) (by omega) (by omega) kk
end
end Go.J
