/- The program logic J, part 5: the rules of single operations. No condition. -/
import Derived.Test.YthknbhghkcdepaaGreatDoorJRegion
import Derived.Laws.Entries
import Derived.Laws.Cells
import Derived.Laws.Pointers
import Derived.Laws.Slices
import Derived.WalkSpells
set_option maxHeartbeats 4000000
set_option linter.unusedVariables false
set_option linter.unusedSimpArgs false
namespace Go.J

/-- What is told of a type: its zero value, its cells, its bytes. -/
def TI (P : Program) (t : TypeId) (z : Value) (sz bytes : Nat) : Prop := (P.info? t).map (fun i => (i.zero, i.size, i.bytes)) = some (some z, sz, bytes)
def aggD : TypeDesc → Bool
  | .struct _ | .array _ _ => true
  | _ => false

section
variable {P : Program} {gs : List (Nat × Obj)} {m N : Nat} {K : AFr → List Blk → Prop} {Kp : Value → AFr → List Blk → Prop} {f : AFr} {h : List Blk} {o : Oper}

theorem TI.info {t : TypeId} {z : Value} {sz by_ : Nat} (h : TI P t z sz by_) : ∃ i, P.info? t = some i ∧ i.zero = some z ∧ i.size = sz ∧ i.bytes = by_ := by
  unfold TI at h
  cases hi : P.info? t with
  | none => simp [hi] at h
  | some i => simp [hi] at h; exact ⟨i, rfl, h.1, h.2.1, h.2.2⟩
theorem TI.sizeOf {t : TypeId} {z : Value} {sz by_ : Nat} (h : TI P t z sz by_) (w : World) : (sizeOf t).run P w = .ok sz w := by
  obtain ⟨i, hi, _, h2, _⟩ := h.info
  simp [Go.sizeOf, typeInfo, hi, h2]
theorem TI.zero {t : TypeId} {z : Value} {sz by_ : Nat} (h : TI P t z sz by_) (w : World) : (zeroValue t).run P w = .ok z w := by
  obtain ⟨i, hi, h1, _, _⟩ := h.info
  simp [Go.zeroValue, typeInfo, hi, h1]
theorem TI.tinfo {t : TypeId} {z : Value} {sz by_ : Nat} (h : TI P t z sz by_) (w : World) : ∃ i, (typeInfo t).run P w = .ok i w ∧ i.bytes = by_ ∧ i.size = sz ∧ i.zero = some z := by
  obtain ⟨i, hi, h1, h2, h3⟩ := h.info
  exact ⟨i, by simp [typeInfo, hi], h3, h2, h1⟩
theorem run_isAgg {t : TypeId} {d : TypeDesc} (h : P.underlying t = some d) (w : World) : (isAgg t).run P w = .ok (aggD d) w := by
  cases d <;> simp [isAgg, run_underlying h, aggD]

/-- An operation that turns no memory. -/
theorem OpJ.val {v : Value} (hrun : ∀ (σ : St) (a : Act) (w : World), FR σ N f a → Sim gs σ h w → ∃ v', (execOp a.eval o).run P w = .ok (.value v') w ∧ VR σ v v') (k : K (pt f o.dst v) h) : OpJ P gs m N o K Kp f h := by
  intro hd C σ w a next Qe hC I F hn hp
  obtain ⟨v', hr, hv⟩ := hrun σ a w F I.sim
  unfold Oper.wp
  rw [hr]
  exact hn σ _ h _ w I (F.put hv hd) k

theorem OpJ.move {x : Operand} {v : Value} (ho : o.op = .move x) (hx : ev f x = some v) (k : K (pt f o.dst v) h) : OpJ P gs m N o K Kp f h :=
  OpJ.val (fun σ a w F S => ⟨a.eval x, by simp [execOp, ho], F.ev hx⟩) k
theorem OpJ.assign {x : Operand} {v : Value} (ho : o.op = .assign x) (hx : ev f x = some v) (k : K (pt f o.dst v) h) : OpJ P gs m N o K Kp f h :=
  OpJ.val (fun σ a w F S => ⟨a.eval x, by simp [execOp, ho], F.ev hx⟩) k
theorem OpJ.pick {c x y : Operand} {t : Bool} {u v : Value} (ho : o.op = .pick c x y) (hc : ev f c = some (.bool t)) (hx : t = true → ev f x = some u) (hy : t = false → ev f y = some v) (k : K (pt f o.dst (if t then u else v)) h) : OpJ P gs m N o K Kp f h := by
  refine OpJ.val (fun σ a w F S => ⟨if t then a.eval x else a.eval y, ?_, ?_⟩) k
  · have he : a.eval c = .bool t := (F.ev hc).scal_eq rfl
    simp [execOp, ho, he, asBool]
  · cases t
    · exact F.ev (hy rfl)
    · exact F.ev (hx rfl)

/-! #### numbers, bools, texts -/
def intBin : BinOp → IntKind → Int → Int → Option Value
  | .add, k, a, b => some (.int k (k.wrap (a + b)))
  | .sub, k, a, b => some (.int k (k.wrap (a - b)))
  | .mul, k, a, b => some (.int k (k.wrap (a * b)))
  | .and, k, a, b => some (.int k (bits .and k a b))
  | .or, k, a, b => some (.int k (bits .or k a b))
  | .xor, k, a, b => some (.int k (bits .xor k a b))
  | .andNot, k, a, b => some (.int k (bits .andNot k a b))
  | .eql, _, a, b => some (.bool (a == b))
  | .neq, _, a, b => some (.bool (a != b))
  | .lss, _, a, b => some (.bool (decide (a < b)))
  | .leq, _, a, b => some (.bool (decide (a ≤ b)))
  | .gtr, _, a, b => some (.bool (decide (a > b)))
  | .geq, _, a, b => some (.bool (decide (a ≥ b)))
  | _, _, _, _ => none
theorem OpJ.binI {op : BinOp} {t t' : TypeId} {x y : Operand} {k : IntKind} {a b : Int} {v : Value} (ho : o.op = .binOp op t x y t') (hx : ev f x = some (.int k a)) (hy : ev f y = some (.int k b)) (hv : intBin op k a b = some v)
    (kk : K (pt f o.dst v) h) : OpJ P gs m N o K Kp f h := by
  refine OpJ.val (fun σ ac w F S => ?_) kk
  have ex := (F.ev hx).scal_eq rfl
  have ey := (F.ev hy).scal_eq rfl
  have hsc : scal v = true := by cases op <;> simp [intBin] at hv <;> subst hv <;> rfl
  refine ⟨v, ?_, VR.scal hsc⟩
  cases op <;> simp [intBin] at hv <;> subst hv <;> simp [execOp, ho, ex, ey, eqGuard, binOp, Op.intArith, Op.intBits, Op.intCmp, bits]
theorem OpJ.quo {t t' : TypeId} {x y : Operand} {k : IntKind} {a b : Int} (ho : o.op = .binOp .quo t x y t') (hx : ev f x = some (.int k a)) (hy : ev f y = some (.int k b)) (hb : b ≠ 0)
    (kk : K (pt f o.dst (.int k (k.wrap (a.tdiv b)))) h) : OpJ P gs m N o K Kp f h := by
  refine OpJ.val (fun σ ac w F S => ?_) kk
  have ex := (F.ev hx).scal_eq rfl
  have ey := (F.ev hy).scal_eq rfl
  refine ⟨_, ?_, .int _ _⟩
  simp [execOp, ho, ex, ey, eqGuard, binOp, Op.intDiv, hb]
theorem OpJ.rem {t t' : TypeId} {x y : Operand} {k : IntKind} {a b : Int} (ho : o.op = .binOp .rem t x y t') (hx : ev f x = some (.int k a)) (hy : ev f y = some (.int k b)) (hb : b ≠ 0)
    (kk : K (pt f o.dst (.int k (a.tmod b))) h) : OpJ P gs m N o K Kp f h := by
  refine OpJ.val (fun σ ac w F S => ?_) kk
  have ex := (F.ev hx).scal_eq rfl
  have ey := (F.ev hy).scal_eq rfl
  refine ⟨_, ?_, .int _ _⟩
  simp [execOp, ho, ex, ey, eqGuard, binOp, Op.intDiv, hb]
theorem OpJ.shl {t t' : TypeId} {x y : Operand} {k k' : IntKind} {a b : Int} (ho : o.op = .binOp .shl t x y t') (hx : ev f x = some (.int k a)) (hy : ev f y = some (.int k' b)) (hb : 0 ≤ b)
    (kk : K (pt f o.dst (.int k (k.wrap (a * 2 ^ (min b.toNat k.bits))))) h) : OpJ P gs m N o K Kp f h := by
  refine OpJ.val (fun σ ac w F S => ?_) kk
  have ex := (F.ev hx).scal_eq rfl
  have ey := (F.ev hy).scal_eq rfl
  refine ⟨_, ?_, .int _ _⟩
  have hb' : ¬ b < 0 := by omega
  simp [execOp, ho, ex, ey, eqGuard, binOp, Op.shift, hb']
theorem OpJ.shr {t t' : TypeId} {x y : Operand} {k k' : IntKind} {a b : Int} (ho : o.op = .binOp .shr t x y t') (hx : ev f x = some (.int k a)) (hy : ev f y = some (.int k' b)) (hb : 0 ≤ b)
    (kk : K (pt f o.dst (.int k (a.fdiv (2 ^ (min b.toNat k.bits))))) h) : OpJ P gs m N o K Kp f h := by
  refine OpJ.val (fun σ ac w F S => ?_) kk
  have ex := (F.ev hx).scal_eq rfl
  have ey := (F.ev hy).scal_eq rfl
  refine ⟨_, ?_, .int _ _⟩
  have hb' : ¬ b < 0 := by omega
  simp [execOp, ho, ex, ey, eqGuard, binOp, Op.shift, hb']
def strBin : BinOp → ByteArray → ByteArray → Option Value
  | .eql, a, b => some (.bool (a.toList == b.toList))
  | .neq, a, b => some (.bool (!(a.toList == b.toList)))
  | .lss, a, b => some (.bool (Op.bytesLess a.toList b.toList))
  | .leq, a, b => some (.bool (Op.bytesLess a.toList b.toList || a.toList == b.toList))
  | .gtr, a, b => some (.bool (!(Op.bytesLess a.toList b.toList || a.toList == b.toList)))
  | .geq, a, b => some (.bool (!(Op.bytesLess a.toList b.toList)))
  | _, _, _ => none
theorem OpJ.binS {op : BinOp} {t t' : TypeId} {x y : Operand} {a b : ByteArray} {v : Value} (ho : o.op = .binOp op t x y t') (hx : ev f x = some (.string a)) (hy : ev f y = some (.string b)) (hv : strBin op a b = some v)
    (kk : K (pt f o.dst v) h) : OpJ P gs m N o K Kp f h := by
  refine OpJ.val (fun σ ac w F S => ?_) kk
  have ex := (F.ev hx).scal_eq rfl
  have ey := (F.ev hy).scal_eq rfl
  have hsc : scal v = true := by cases op <;> simp [strBin] at hv <;> subst hv <;> rfl
  refine ⟨v, ?_, VR.scal hsc⟩
  cases op <;> simp [strBin] at hv <;> subst hv <;> simp [execOp, ho, ex, ey, eqGuard, binOp, Op.stringOp]
theorem OpJ.addS {t t' : TypeId} {x y : Operand} {a b : ByteArray} (ho : o.op = .binOp .add t x y t') (hx : ev f x = some (.string a)) (hy : ev f y = some (.string b)) (hl : a.size + b.size ≤ 9223372036854775807)
    (kk : K (pt f o.dst (.string (a ++ b))) h) : OpJ P gs m N o K Kp f h := by
  refine OpJ.val (fun σ ac w F S => ?_) kk
  have ex := (F.ev hx).scal_eq rfl
  have ey := (F.ev hy).scal_eq rfl
  refine ⟨_, ?_, .string _⟩
  have hb' : ¬ (((a.size + b.size : Nat) : Int) > IntKind.i64.max) := by
    have : IntKind.i64.max = 9223372036854775807 := by decide
    omega
  simp only [execOp, ho, ex, ey, eqGuard, binOp, Op.stringOp]
  simp only [Sem.run_bind, Sem.run_pure, Result.andThen_ok]
  simp
  omega
theorem run_equalIn_bool (w : World) (d : Nat) (t : TypeId) (a b : Bool) (h : P.underlying t = some .bool) : (Op.equalIn (d + 1) t (.bool a) (.bool b)).run P w = .ok (a == b) w := by
  simp [Op.equalIn, run_underlying h]
theorem OpJ.eqB {t t' : TypeId} {x y : Operand} {a b : Bool} (ho : o.op = .binOp .eql t x y t') (ht : P.underlying t = some .bool) (hx : ev f x = some (.bool a)) (hy : ev f y = some (.bool b))
    (kk : K (pt f o.dst (.bool (a == b))) h) : OpJ P gs m N o K Kp f h := by
  refine OpJ.val (fun σ ac w F S => ?_) kk
  have ex := (F.ev hx).scal_eq rfl
  have ey := (F.ev hy).scal_eq rfl
  refine ⟨_, ?_, .bool _⟩
  simp [execOp, ho, ex, ey, eqGuard, binOp, Op.equal, Op.maxDepth, run_equalIn_bool w 9999 t a b ht]
theorem OpJ.neB {t t' : TypeId} {x y : Operand} {a b : Bool} (ho : o.op = .binOp .neq t x y t') (ht : P.underlying t = some .bool) (hx : ev f x = some (.bool a)) (hy : ev f y = some (.bool b))
    (kk : K (pt f o.dst (.bool (!(a == b)))) h) : OpJ P gs m N o K Kp f h := by
  refine OpJ.val (fun σ ac w F S => ?_) kk
  have ex := (F.ev hx).scal_eq rfl
  have ey := (F.ev hy).scal_eq rfl
  refine ⟨_, ?_, .bool _⟩
  simp [execOp, ho, ex, ey, eqGuard, binOp, Op.equal, Op.maxDepth, run_equalIn_bool w 9999 t a b ht]
theorem OpJ.not {t : TypeId} {x : Operand} {b : Bool} (ho : o.op = .unOp .not t x) (hx : ev f x = some (.bool b)) (kk : K (pt f o.dst (.bool (!b))) h) : OpJ P gs m N o K Kp f h := by
  refine OpJ.val (fun σ ac w F S => ?_) kk
  have ex := (F.ev hx).scal_eq rfl
  exact ⟨_, by simp [execOp, ho, ex, Op.unary], .bool _⟩
theorem OpJ.neg {t : TypeId} {x : Operand} {k : IntKind} {a : Int} (ho : o.op = .unOp .neg t x) (hx : ev f x = some (.int k a)) (kk : K (pt f o.dst (.int k (k.wrap (0 - a)))) h) : OpJ P gs m N o K Kp f h := by
  refine OpJ.val (fun σ ac w F S => ?_) kk
  have ex := (F.ev hx).scal_eq rfl
  exact ⟨_, by simp [execOp, ho, ex, Op.unary, Op.intArith], .int _ _⟩
theorem OpJ.xorU {t : TypeId} {x : Operand} {k : IntKind} {a : Int} (ho : o.op = .unOp .xor t x) (hx : ev f x = some (.int k a)) (kk : K (pt f o.dst (.int k (bits .xor k (if k.signed then -1 else k.max) a))) h) : OpJ P gs m N o K Kp f h := by
  refine OpJ.val (fun σ ac w F S => ?_) kk
  have ex := (F.ev hx).scal_eq rfl
  exact ⟨_, by simp [execOp, ho, ex, Op.unary, Op.intBits, bits], .int _ _⟩
theorem OpJ.convI {s d : TypeId} {ds : TypeDesc} {x : Operand} {k k' : IntKind} {a : Int} (ho : o.op = .convert s d x) (hs : P.underlying s = some ds) (hd : P.underlying d = some (.int k')) (hx : ev f x = some (.int k a))
    (kk : K (pt f o.dst (.int k' (k'.wrap a))) h) : OpJ P gs m N o K Kp f h := by
  refine OpJ.val (fun σ ac w F S => ?_) kk
  have ex := (F.ev hx).scal_eq rfl
  exact ⟨_, by simp [execOp, ho, ex, convert, run_underlying hs, run_underlying hd, Conv.intToInt], .int _ _⟩
theorem OpJ.convS {s d : TypeId} {ds : TypeDesc} {x : Operand} {a : ByteArray} (ho : o.op = .convert s d x) (hs : P.underlying s = some ds) (hd : P.underlying d = some .string) (hx : ev f x = some (.string a))
    (kk : K (pt f o.dst (.string a)) h) : OpJ P gs m N o K Kp f h := by
  refine OpJ.val (fun σ ac w F S => ?_) kk
  have ex := (F.ev hx).scal_eq rfl
  exact ⟨_, by simp [execOp, ho, ex, convert, run_underlying hs, run_underlying hd], .string _⟩

/-! #### nil -/
theorem VR.slice_form {σ : St} {b : Option Addr} {n c : Nat} {v' : Value} (hv : VR σ (.slice b n c) v') : ∃ b' c', v' = .slice b' n c' ∧ c ≤ c' ∧ (b = none ∨ 0 < c → b'.isNone = b.isNone) ∧ (b = none → c' = c) := by
  cases hv with
  | sl0 => exact ⟨none, _, rfl, Nat.le_refl _, fun _ => rfl, fun _ => rfl⟩
  | sl h _ hcc _ => exact ⟨_, _, rfl, hcc, fun _ => rfl, fun h => by cases h⟩
  | slz => exact ⟨_, _, rfl, Nat.le_refl _, fun h => by rcases h with h | h <;> simp at h, fun h => by cases h⟩
theorem VR.ptr_form {σ : St} {b : Option Addr} {v' : Value} (hv : VR σ (.pointer b) v') : ∃ b', v' = .pointer b' ∧ b'.isNone = b.isNone := by
  cases hv with
  | ptr0 => exact ⟨none, rfl, rfl⟩
  | ptr h => exact ⟨_, rfl, rfl⟩
theorem OpJ.eqNilS {t t' e : TypeId} {x y : Operand} {b : Option Addr} {n c : Nat} (ho : o.op = .binOp .eql t x y t') (ht : P.underlying t = some (.slice e)) (hx : ev f x = some (.slice b n c)) (hy : ev f y = some (.slice none 0 0)) (hn : b = none ∨ 0 < c)
    (kk : K (pt f o.dst (.bool b.isNone)) h) : OpJ P gs m N o K Kp f h := by
  refine OpJ.val (fun σ ac w F S => ?_) kk
  obtain ⟨b', c1, ex, hc1, hb, _⟩ := (F.ev hx).slice_form
  have ey := (F.ev hy).scal_eq rfl
  refine ⟨.bool b'.isNone, ?_, by rw [hb hn]; exact .bool _⟩
  simp [execOp, ho, ex, ey, eqGuard, Lib.run_eql_slice_nil w t e b' n c1 0 0 ht]
theorem OpJ.neNilS {t t' e : TypeId} {x y : Operand} {b : Option Addr} {n c : Nat} (ho : o.op = .binOp .neq t x y t') (ht : P.underlying t = some (.slice e)) (hx : ev f x = some (.slice b n c)) (hy : ev f y = some (.slice none 0 0)) (hn : b = none ∨ 0 < c)
    (kk : K (pt f o.dst (.bool (!b.isNone))) h) : OpJ P gs m N o K Kp f h := by
  refine OpJ.val (fun σ ac w F S => ?_) kk
  obtain ⟨b', c1, ex, hc1, hb, _⟩ := (F.ev hx).slice_form
  have ey := (F.ev hy).scal_eq rfl
  refine ⟨.bool (!b'.isNone), ?_, by rw [hb hn]; exact .bool _⟩
  simp only [execOp, ho, ex, ey, eqGuard, Sem.run_bind, Sem.run_pure, Result.andThen_ok]
  simp [Go.run_neq_slice_nil_any w t e b' n c1 0 0 ht]
theorem run_equalIn_ptr_nil (w : World) (d : Nat) (t e : TypeId) (p : Option Addr) (h : P.underlying t = some (.pointer e)) : (Op.equalIn (d + 1) t (.pointer p) (.pointer none)).run P w = .ok p.isNone w := by
  cases p <;> simp [Op.equalIn, run_underlying h]
theorem OpJ.eqNilP {t t' e : TypeId} {x y : Operand} {b : Option Addr} (ho : o.op = .binOp .eql t x y t') (ht : P.underlying t = some (.pointer e)) (hx : ev f x = some (.pointer b)) (hy : ev f y = some (.pointer none))
    (kk : K (pt f o.dst (.bool b.isNone)) h) : OpJ P gs m N o K Kp f h := by
  refine OpJ.val (fun σ ac w F S => ?_) kk
  obtain ⟨b', ex, hb⟩ := (F.ev hx).ptr_form
  have ey := (F.ev hy).scal_eq rfl
  refine ⟨.bool b'.isNone, ?_, by rw [hb]; exact .bool _⟩
  simp [execOp, ho, ex, ey, eqGuard, binOp, Op.equal, Op.maxDepth, run_equalIn_ptr_nil w 9999 t e b' ht]
theorem OpJ.neNilP {t t' e : TypeId} {x y : Operand} {b : Option Addr} (ho : o.op = .binOp .neq t x y t') (ht : P.underlying t = some (.pointer e)) (hx : ev f x = some (.pointer b)) (hy : ev f y = some (.pointer none))
    (kk : K (pt f o.dst (.bool (!b.isNone))) h) : OpJ P gs m N o K Kp f h := by
  refine OpJ.val (fun σ ac w F S => ?_) kk
  obtain ⟨b', ex, hb⟩ := (F.ev hx).ptr_form
  have ey := (F.ev hy).scal_eq rfl
  refine ⟨.bool (!b'.isNone), ?_, by rw [hb]; exact .bool _⟩
  simp [execOp, ho, ex, ey, eqGuard, binOp, Op.equal, Op.maxDepth, run_equalIn_ptr_nil w 9999 t e b' ht]
theorem OpJ.nilCheck {x : Operand} {a : Addr} (ho : o.op = .nilCheck x) (hx : ev f x = some (.pointer (some a))) (kk : K (pt f o.dst (.pointer (some a))) h) : OpJ P gs m N o K Kp f h := by
  refine OpJ.val (fun σ ac w F S => ?_) kk
  obtain ⟨b', ex, hb⟩ := (F.ev hx).ptr_form
  cases b' with
  | none => simp at hb
  | some b' => exact ⟨.pointer (some b'), by simp [execOp, ho, ex], by rw [← ex]; exact F.ev hx⟩

/-! #### parts of values -/
theorem OpJ.extract {x : Operand} {i : Nat} {vs : Array Value} {v : Value} (ho : o.op = .extract x i) (hx : ev f x = some (.tuple vs)) (hi : vs[i]? = some v) (kk : K (pt f o.dst v) h) : OpJ P gs m N o K Kp f h := by
  refine OpJ.val (fun σ ac w F S => ?_) kk
  have hr := F.ev hx
  generalize hu : ac.eval x = u at hr
  cases hr with
  | poison u => simp at hi
  | @tuple _ ys hl hh =>
    have hlt : i < ys.size := by
      have := (Array.getElem?_eq_some_iff.1 hi).1
      omega
    refine ⟨ys[i], ?_, hh i v _ hi (by simp [hlt])⟩
    simp [execOp, ho, hu, Instr.extract, hlt]
theorem OpJ.makeFunc {fn : Fn} {xs ys : Array Operand} (us vs : List Value) (hmk : isMark fn = false) (ho : o.op = .makeFunc fn xs ys) (hu : xs.toList.map (ev f) = us.map some) (hv : ys.toList.map (ev f) = vs.map some)
    (kk : K (pt f o.dst (.func fn us.toArray vs.toArray)) h) : OpJ P gs m N o K Kp f h := by
  refine OpJ.val (fun σ ac w F S => ?_) kk
  have rel : ∀ (xs : Array Operand) (us : List Value), xs.toList.map (ev f) = us.map some → us.toArray.size = (xs.map ac.eval).size ∧ ∀ (i : Nat) x y, us.toArray[i]? = some x → (xs.map ac.eval)[i]? = some y → VR σ x y := by
    intro xs us hu
    have hl : xs.size = us.length := by simpa using congrArg List.length hu
    refine ⟨by simp [hl], fun i x y hx hy => ?_⟩
    have h1 : (xs.toList.map (ev f))[i]? = some (some x) := by rw [hu]; simpa using hx
    simp only [List.getElem?_map, Option.map_eq_some_iff] at h1
    obtain ⟨z, hz, hz2⟩ := h1
    have h2 : xs[i]? = some z := by simpa using hz
    rw [Array.getElem?_map, h2] at hy
    obtain rfl := Option.some.inj hy
    exact F.ev hz2
  obtain ⟨a1, a2⟩ := rel xs us hu
  obtain ⟨b1, b2⟩ := rel ys vs hv
  exact ⟨_, by simp [execOp, ho, Instr.makeFunc], .func hmk a1 a2 b1 b2⟩
theorem OpJ.makeInterface {t : TypeId} {d : TypeDesc} {x : Operand} {v : Value} (ho : o.op = .makeInterface t x) (ht : P.underlying t = some d) (hd : (match d with | .interface _ => false | _ => true) = true) (hx : ev f x = some v)
    (kk : K (pt f o.dst (.iface t v)) h) : OpJ P gs m N o K Kp f h := by
  refine OpJ.val (fun σ ac w F S => ?_) kk
  refine ⟨.iface t (ac.eval x), ?_, .iface (F.ev hx)⟩
  cases d <;> first | (cases hd; done) | simp [execOp, ho, Instr.makeInterface, run_underlying ht]

/-! #### addresses -/
theorem add_plain (b o n : Nat) : (⟨b, o, none⟩ : Addr).add n = ⟨b, o + n, none⟩ := by
  unfold Addr.add
  split
  · subst_vars; rfl
  · rfl
theorem OpJ.fieldAddr {t tf : TypeId} {fs : Array Field} {fd : Field} {x : Operand} {j i q sz : Nat} {zf : Value} {bf : Nat} (ho : o.op = .fieldAddr t x j) (ht : P.underlying t = some (.struct fs)) (hf : fs[j]? = some fd) (hi : TI P fd.type zf sz bf) (hz : sz ≠ 0)
    (hx : ev f x = some (.pointer (some ⟨i, q, none⟩))) (kk : K (pt f o.dst (.pointer (some ⟨i, q + fd.offset, none⟩))) h) : OpJ P gs m N o K Kp f h := by
  refine OpJ.val (fun σ ac w F S => ?_) kk
  have hr := F.ev hx
  generalize hu : ac.eval x = u at hr
  cases hr with
  | @ptr _ _ l hl =>
    refine ⟨.pointer (some ⟨l.b, l.o + q + fd.offset, none⟩), ?_, by rw [Nat.add_assoc]; exact .ptr hl⟩
    simp [execOp, ho, hu, Instr.fieldAt, run_underlying ht, hf, Instr.sureAddr, fieldPlace, hi.sizeOf, hz, add_plain]
theorem OpJ.indexAddr {t e : TypeId} {x y : Operand} {i q n c sz : Nat} {k : IntKind} {j : Int} {ze : Value} {be : Nat} (ho : o.op = .indexAddr t x y) (ht : P.underlying t = some (.slice e)) (hi : TI P e ze sz be)
    (hx : ev f x = some (.slice (some ⟨i, q, none⟩) n c)) (hy : ev f y = some (.int k j)) (h0 : 0 ≤ j) (h1 : j < n) (kk : K (pt f o.dst (.pointer (some ⟨i, q + j.toNat * sz, none⟩))) h) : OpJ P gs m N o K Kp f h := by
  refine OpJ.val (fun σ ac w F S => ?_) kk
  have ey := (F.ev hy).scal_eq rfl
  have hr := F.ev hx
  generalize hu : ac.eval x = u at hr
  cases hr with
  | @sl _ _ _ _ c1 l hl hn hcc hc =>
    refine ⟨.pointer (some ⟨l.b, l.o + q + j.toNat * sz, none⟩), ?_, by rw [Nat.add_assoc]; exact .ptr hl⟩
    simp [execOp, ho, hu, ey, Instr.indexAt, asIntOf, run_underlying ht, h0, h1, hi.sizeOf, add_plain]
  | slz => omega
theorem OpJ.indexS {t : TypeId} {x y : Operand} {s : ByteArray} {k : IntKind} {j : Int} {b : UInt8} (ho : o.op = .index t x y) (ht : P.underlying t = some .string) (hx : ev f x = some (.string s)) (hy : ev f y = some (.int k j)) (h0 : 0 ≤ j) (hb : s.data.toList[j.toNat]? = some b)
    (kk : K (pt f o.dst (.int .u8 b.toNat)) h) : OpJ P gs m N o K Kp f h := by
  refine OpJ.val (fun σ ac w F S => ?_) kk
  have ex := (F.ev hx).scal_eq rfl
  have ey := (F.ev hy).scal_eq rfl
  have hg : s[j.toNat]? = some b := by
    have hlt := (List.getElem?_eq_some_iff.1 hb).1
    have hlt' : j.toNat < s.size := by simpa using hlt
    rw [getElem?_pos s j.toNat hlt']
    have := (List.getElem?_eq_some_iff.1 hb).2
    rw [← this]
    simp [ByteArray.getElem_eq_getElem_data]
  exact ⟨_, by simp [execOp, ho, ex, ey, Instr.index, asIntOf, run_underlying ht, h0, hg], .int _ _⟩

/-! #### lengths -/
theorem OpJ.lenSl {t : TypeId} {e : TypeId} {x : Operand} {b : Option Addr} {n c : Nat} (ho : o.op = .call { callee := .builtin .len, args := #[x], argTypes := #[t] }) (ht : P.underlying t = some (.slice e)) (hx : ev f x = some (.slice b n c))
    (kk : K (pt f o.dst (.int .i64 n)) h) : OpJ P gs m N o K Kp f h := by
  refine OpJ.val (fun σ ac w F S => ?_) kk
  obtain ⟨b', c1, ex, hc1, hb, _⟩ := (F.ev hx).slice_form
  exact ⟨.int .i64 n, by simp [execOp, ho, resolve, invoke, builtin, ex, Builtin.len_, run_underlying ht, goInt], .int _ _⟩
theorem OpJ.lenS {t : TypeId} {x : Operand} {s : ByteArray} (ho : o.op = .call { callee := .builtin .len, args := #[x], argTypes := #[t] }) (ht : P.underlying t = some .string) (hx : ev f x = some (.string s))
    (kk : K (pt f o.dst (.int .i64 s.size)) h) : OpJ P gs m N o K Kp f h := by
  refine OpJ.val (fun σ ac w F S => ?_) kk
  have ex := (F.ev hx).scal_eq rfl
  exact ⟨.int .i64 s.size, by simp [execOp, ho, resolve, invoke, builtin, ex, Builtin.len_, run_underlying ht, goInt], .int _ _⟩
end
end Go.J
