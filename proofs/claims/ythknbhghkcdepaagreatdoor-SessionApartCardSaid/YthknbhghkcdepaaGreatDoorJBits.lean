/- The program logic J, part 16: bits of numbers. No condition. -/
import Derived.Test.YthknbhghkcdepaaGreatDoorJEnds
set_option maxHeartbeats 4000000
set_option linter.unusedVariables false
set_option linter.unusedSimpArgs false
namespace Go.J

theorem ofInt_nat (n a : Nat) : BitVec.ofInt n (a : Int) = BitVec.ofNat n a := by
  apply BitVec.eq_of_toNat_eq
  simp
theorem wrap_nat {k : IntKind} {a : Nat} (h : a < 2 ^ (if k.signed then k.bits - 1 else k.bits)) : k.wrap (a : Int) = a := by
  cases k <;> simp [IntKind.wrap, IntKind.bits, IntKind.signed] at * <;> omega
theorem bitsAnd {k : IntKind} {a b : Nat} (ha : a < 2 ^ k.bits) (hb : b < 2 ^ (if k.signed then k.bits - 1 else k.bits)) : bits .and k (a : Int) (b : Int) = ((a &&& b : Nat) : Int) := by
  have h1 : b < 2 ^ k.bits := Nat.lt_of_lt_of_le hb (Nat.pow_le_pow_right (by omega) (by split <;> omega))
  simp only [bits, ofInt_nat, BitVec.toNat_and, BitVec.toNat_ofNat, Nat.mod_eq_of_lt ha, Nat.mod_eq_of_lt h1]
  exact wrap_nat (Nat.lt_of_le_of_lt Nat.and_le_right hb)
theorem bitsOr {k : IntKind} {a b : Nat} (ha : a < 2 ^ (if k.signed then k.bits - 1 else k.bits)) (hb : b < 2 ^ (if k.signed then k.bits - 1 else k.bits)) : bits .or k (a : Int) (b : Int) = ((a ||| b : Nat) : Int) := by
  have h0 : a < 2 ^ k.bits := Nat.lt_of_lt_of_le ha (Nat.pow_le_pow_right (by omega) (by split <;> omega))
  have h1 : b < 2 ^ k.bits := Nat.lt_of_lt_of_le hb (Nat.pow_le_pow_right (by omega) (by split <;> omega))
  simp only [bits, ofInt_nat, BitVec.toNat_or, BitVec.toNat_ofNat, Nat.mod_eq_of_lt h0, Nat.mod_eq_of_lt h1]
  exact wrap_nat (Nat.or_lt_two_pow ha hb)
theorem bitsXor {k : IntKind} {a b : Nat} (ha : a < 2 ^ (if k.signed then k.bits - 1 else k.bits)) (hb : b < 2 ^ (if k.signed then k.bits - 1 else k.bits)) : bits .xor k (a : Int) (b : Int) = ((a ^^^ b : Nat) : Int) := by
  have h0 : a < 2 ^ k.bits := Nat.lt_of_lt_of_le ha (Nat.pow_le_pow_right (by omega) (by split <;> omega))
  have h1 : b < 2 ^ k.bits := Nat.lt_of_lt_of_le hb (Nat.pow_le_pow_right (by omega) (by split <;> omega))
  simp only [bits, ofInt_nat, BitVec.toNat_xor, BitVec.toNat_ofNat, Nat.mod_eq_of_lt h0, Nat.mod_eq_of_lt h1]
  exact wrap_nat (Nat.xor_lt_two_pow ha hb)
theorem and127 {k : IntKind} {a : Nat} (ha : a < 2 ^ k.bits) : intBin .and k (a : Int) 127 = some (.int k ((a % 128 : Nat) : Int)) := by
  have := bitsAnd (k := k) (b := 127) ha (by cases k <;> decide)
  have e : a &&& 127 = a % 128 := Nat.and_two_pow_sub_one_eq_mod a 7
  rw [e] at this
  simpa [intBin] using this
theorem or128 {k : IntKind} {a : Nat} (ha : a < 128) (hk : 8 ≤ (if k.signed then k.bits - 1 else k.bits)) : intBin .or k (a : Int) 128 = some (.int k ((a + 128 : Nat) : Int)) := by
  have h2 : 2 ^ 8 ≤ 2 ^ (if k.signed then k.bits - 1 else k.bits) := Nat.pow_le_pow_right (by omega) hk
  have := bitsOr (k := k) (a := a) (b := 128) (by omega) (by omega)
  have e : a ||| 128 = a + 128 := by
    have := Nat.two_pow_add_eq_or_of_lt (i := 7) (b := a) ha 1
    rw [Nat.or_comm]
    simp at this
    omega
  rw [e] at this
  simpa [intBin] using this
/-- A number told as another kind's, the value told by the walk. -/
theorem OpJ.convV {P : Program} {gs : List (Nat × Obj)} {m N : Nat} {K : AFr → List Blk → Prop} {Kp : Value → AFr → List Blk → Prop} {f : AFr} {h : List Blk} {o : Oper} (b : Int) {s d : TypeId} {ds : TypeDesc} {x : Operand} {k k' : IntKind} {a : Int} (ho : o.op = .convert s d x) (hs : P.underlying s = some ds) (hd : P.underlying d = some (.int k')) (hx : ev f x = some (.int k a))
    (hv : k'.wrap a = b) (kk : K (pt f o.dst (.int k' b)) h) : OpJ P gs m N o K Kp f h := by
  subst hv; exact OpJ.convI ho hs hd hx kk
theorem u8_nat {a : Nat} : IntKind.u8.wrap (a : Int) = ((UInt8.ofNat a).toNat : Int) := by
  simp [IntKind.wrap, IntKind.bits, IntKind.signed]
theorem fdiv_nat (a d : Nat) : (a : Int).fdiv (d : Int) = ((a / d : Nat) : Int) := by
  rw [Int.fdiv_eq_ediv_of_nonneg _ (by omega)]; simp
theorem shr_nat {a s n : Nat} (h : s ≤ n) : (a : Int).fdiv (2 ^ (min s n)) = ((a / 2 ^ s : Nat) : Int) := by
  rw [Nat.min_eq_left h]
  have := fdiv_nat a (2 ^ s)
  simpa using this
theorem OpJ.shrV {P : Program} {gs : List (Nat × Obj)} {m N : Nat} {K : AFr → List Blk → Prop} {Kp : Value → AFr → List Blk → Prop} {f : AFr} {h : List Blk} {o : Oper} (v : Int) {t t' : TypeId} {x y : Operand} {k k' : IntKind} {a b : Int} (ho : o.op = .binOp .shr t x y t') (hx : ev f x = some (.int k a)) (hy : ev f y = some (.int k' b)) (hb : 0 ≤ b)
    (hv : a.fdiv (2 ^ (min b.toNat k.bits)) = v) (kk : K (pt f o.dst (.int k v)) h) : OpJ P gs m N o K Kp f h := by
  subst hv; exact OpJ.shr ho hx hy hb kk
theorem OpJ.shlV {P : Program} {gs : List (Nat × Obj)} {m N : Nat} {K : AFr → List Blk → Prop} {Kp : Value → AFr → List Blk → Prop} {f : AFr} {h : List Blk} {o : Oper} (v : Int) {t t' : TypeId} {x y : Operand} {k k' : IntKind} {a b : Int} (ho : o.op = .binOp .shl t x y t') (hx : ev f x = some (.int k a)) (hy : ev f y = some (.int k' b)) (hb : 0 ≤ b)
    (hv : k.wrap (a * 2 ^ (min b.toNat k.bits)) = v) (kk : K (pt f o.dst (.int k v)) h) : OpJ P gs m N o K Kp f h := by
  subst hv; exact OpJ.shl ho hx hy hb kk
theorem OpJ.quoV {P : Program} {gs : List (Nat × Obj)} {m N : Nat} {K : AFr → List Blk → Prop} {Kp : Value → AFr → List Blk → Prop} {f : AFr} {h : List Blk} {o : Oper} (v : Int) {t t' : TypeId} {x y : Operand} {k : IntKind} {a b : Int} (ho : o.op = .binOp .quo t x y t') (hx : ev f x = some (.int k a)) (hy : ev f y = some (.int k b)) (hb : b ≠ 0)
    (hv : k.wrap (a.tdiv b) = v) (kk : K (pt f o.dst (.int k v)) h) : OpJ P gs m N o K Kp f h := by
  subst hv; exact OpJ.quo ho hx hy hb kk
theorem OpJ.remV {P : Program} {gs : List (Nat × Obj)} {m N : Nat} {K : AFr → List Blk → Prop} {Kp : Value → AFr → List Blk → Prop} {f : AFr} {h : List Blk} {o : Oper} (v : Int) {t t' : TypeId} {x y : Operand} {k : IntKind} {a b : Int} (ho : o.op = .binOp .rem t x y t') (hx : ev f x = some (.int k a)) (hy : ev f y = some (.int k b)) (hb : b ≠ 0)
    (hv : a.tmod b = v) (kk : K (pt f o.dst (.int k v)) h) : OpJ P gs m N o K Kp f h := by
  subst hv; exact OpJ.rem ho hx hy hb kk
theorem wrap64 {a : Nat} (h : a < 9223372036854775808) : IntKind.i64.wrap (a : Int) = a := wrap_nat (by simpa [IntKind.signed, IntKind.bits] using h)
theorem quo_nat {a b : Nat} (h : a < 9223372036854775808) : IntKind.i64.wrap ((a : Int).tdiv (b : Int)) = ((a / b : Nat) : Int) := by
  have : (a : Int).tdiv (b : Int) = ((a / b : Nat) : Int) := by simp [Int.ofNat_tdiv]
  rw [this]; exact wrap64 (Nat.lt_of_le_of_lt (Nat.div_le_self ..) h)
theorem rem_nat {a b : Nat} : (a : Int).tmod (b : Int) = ((a % b : Nat) : Int) := by simp [Int.natCast_emod, Int.tmod_eq_emod_of_nonneg]
theorem and128 {k : IntKind} {a : Nat} (ha : a < 256) (hk : 8 ≤ (if k.signed then k.bits - 1 else k.bits)) : intBin .and k (a : Int) 128 = some (.int k ((a / 128 * 128 : Nat) : Int)) := by
  have h2 : 2 ^ 8 ≤ 2 ^ (if k.signed then k.bits - 1 else k.bits) := Nat.pow_le_pow_right (by omega) hk
  have h3 : 2 ^ 8 ≤ 2 ^ k.bits := Nat.pow_le_pow_right (by omega) (by split at hk <;> omega)
  have := bitsAnd (k := k) (a := a) (b := 128) (by omega) (by omega)
  have e : a &&& 128 = a / 128 * 128 := by
    have e1 : a &&& (127 + 128) = a := by
      have := Nat.and_two_pow_sub_one_eq_mod a 8
      simp at this
      rw [this]; exact Nat.mod_eq_of_lt ha
    have e2 : a &&& 127 = a % 128 := Nat.and_two_pow_sub_one_eq_mod a 7
    have e3 : (127 + 128 : Nat) = 127 ||| 128 := by decide
    have e4 : (a &&& 127) ||| (a &&& 128) = a := by rw [← Nat.and_or_distrib_left, ← e3]; exact e1
    have e5 : (a &&& 127) &&& (a &&& 128) = 0 := by
      rw [Nat.and_assoc, ← Nat.and_assoc 127, Nat.and_comm 127 a, Nat.and_assoc a 127]
      have : (127 &&& 128 : Nat) = 0 := by decide
      rw [this]; simp
    have e6 : (a &&& 128) % 128 = 0 := by
      have := Nat.and_two_pow_sub_one_eq_mod (a &&& 128) 7
      simp only [Nat.reducePow, Nat.reduceSub] at this
      rw [← this, Nat.and_assoc]
      have : (128 &&& 127 : Nat) = 0 := by decide
      rw [this]; simp
    obtain ⟨q, hq⟩ := Nat.dvd_of_mod_eq_zero e6
    have e7 := Nat.two_pow_add_eq_or_of_lt (i := 7) (b := a % 128) (by omega) q
    rw [e2, hq, Nat.or_comm] at e4
    simp only [Nat.reducePow] at e7
    omega
  rw [e] at this
  simpa [intBin] using this
theorem pow7 (i : Nat) : (2 : Nat) ^ (7 * i) = 128 ^ i := by rw [Nat.pow_mul]
theorem shl7 {x i : Nat} (h : x * 128 ^ i < 9223372036854775808) (hi : i ≤ 8) : IntKind.i64.wrap ((x : Int) * 2 ^ (min (7 * (i : Int)).toNat IntKind.i64.bits)) = ((x * 128 ^ i : Nat) : Int) := by
  have e1 : min (7 * (i : Int)).toNat IntKind.i64.bits = 7 * i := by simp [IntKind.bits]; omega
  rw [e1]
  have e2 : (x : Int) * 2 ^ (7 * i) = ((x * 128 ^ i : Nat) : Int) := by rw [← pow7]; simp
  rw [e2]
  exact wrap64 h
theorem or7 {a x i : Nat} (ha : a < 128 ^ i) (hx : x < 128) (hi : i ≤ 8) : intBin .or .i64 (a : Int) ((x * 128 ^ i : Nat) : Int) = some (.int .i64 ((a + x * 128 ^ i : Nat) : Int)) := by
  have h9 : 128 ^ i ≤ 128 ^ 8 := Nat.pow_le_pow_right (by omega) hi
  have hx2 : x * 128 ^ i ≤ 127 * 128 ^ 8 := Nat.mul_le_mul (by omega) h9
  have := bitsOr (k := .i64) (a := a) (b := x * 128 ^ i) (by simp [IntKind.signed, IntKind.bits]; omega) (by simp [IntKind.signed, IntKind.bits]; omega)
  have e : a ||| x * 128 ^ i = a + x * 128 ^ i := by
    have := Nat.two_pow_add_eq_or_of_lt (i := 7 * i) (b := a) (by rw [pow7]; exact ha) x
    rw [pow7, Nat.mul_comm] at this
    rw [Nat.or_comm]; omega
  rw [e] at this
  simpa [intBin] using this
section
variable {P : Program} {gs : List (Nat × Obj)} {m N : Nat} {K : AFr → List Blk → Prop} {Kp : Value → AFr → List Blk → Prop} {f : AFr} {h : List Blk} {o : Oper}
theorem OpJ.min2V (v : Int) {x y : Operand} {ts : Array TypeId} {k k' : IntKind} {a b : Int} (ho : o.op = .call { callee := .builtin .min, args := #[x, y], argTypes := ts }) (hx : ev f x = some (.int k a)) (hy : ev f y = some (.int k' b))
    (hv : (if b < a then b else a) = v) (kk : K (pt f o.dst (.int k v)) h) : OpJ P gs m N o K Kp f h := by subst hv; exact OpJ.min2 ho hx hy kk
theorem OpJ.max2V (v : Int) {x y : Operand} {ts : Array TypeId} {k k' : IntKind} {a b : Int} (ho : o.op = .call { callee := .builtin .max, args := #[x, y], argTypes := ts }) (hx : ev f x = some (.int k a)) (hy : ev f y = some (.int k' b))
    (hv : (if a < b then b else a) = v) (kk : K (pt f o.dst (.int k v)) h) : OpJ P gs m N o K Kp f h := by subst hv; exact OpJ.max2 ho hx hy kk
theorem OpJ.sliceV (l r u q' n' c' : Nat) {t e : TypeId} {x : Operand} {lo hi mx : Option Operand} {i q n c sz bz : Nat} {z : Value} {B : Blk} (ho : o.op = .slice t x lo hi mx) (ht : P.underlying t = some (.slice e)) (ti : TI P e z sz bz)
    (hx : ev f x = some (.slice (some ⟨i, q, none⟩) n c)) (hb : h[i]? = some B) (hm : live B = true) (hes : B.es = sz)
    (hlo : bnd f lo 0 l) (hhi : bnd f hi n r) (hmx : bnd f mx c u) (hmh : mx.isSome = true → hi.isSome = true) (h1 : l ≤ r) (h2 : r ≤ u) (h3 : u ≤ c) (e1 : q + l * sz = q') (e2 : r - l = n') (e3 : u - l = c')
    (kk : K (pt f o.dst (.slice (some ⟨i, q', none⟩) n' c')) h) : OpJ P gs m N o K Kp f h := by subst e1 e2 e3; exact OpJ.slice ho ht ti hx hb hm hes hlo hhi hmx hmh h1 h2 h3 kk
theorem OpJ.indexAddrV (p : Nat) {t e : TypeId} {x y : Operand} {i q n c sz : Nat} {k : IntKind} {j : Int} {ze : Value} {be : Nat} (ho : o.op = .indexAddr t x y) (ht : P.underlying t = some (.slice e)) (hi : TI P e ze sz be)
    (hx : ev f x = some (.slice (some ⟨i, q, none⟩) n c)) (hy : ev f y = some (.int k j)) (h0 : 0 ≤ j) (h1 : j < n) (e1 : q + j.toNat * sz = p) (kk : K (pt f o.dst (.pointer (some ⟨i, p, none⟩))) h) : OpJ P gs m N o K Kp f h := by
  subst e1; exact OpJ.indexAddr ho ht hi hx hy h0 h1 kk
/-- Whether a slice is nil, where that may not be known. -/
theorem OpJ.eqNilQ {t t' e : TypeId} {x y : Operand} {b : Option Addr} {n c : Nat} (ho : o.op = .binOp .eql t x y t') (ht : P.underlying t = some (.slice e)) (hx : ev f x = some (.slice b n c)) (hy : ev f y = some (.slice none 0 0))
    (kk : ∀ q : Bool, (b = none ∨ 0 < c → q = b.isNone) → K (pt f o.dst (.bool q)) h) : OpJ P gs m N o K Kp f h := by
  intro hd C σ w a next Qe hC I F hnx hp
  obtain ⟨b', c1, ex, hc1, hb, _⟩ := (F.ev hx).slice_form
  have ey := (F.ev hy).scal_eq rfl
  have run : (execOp a.eval o).run P w = .ok (.value (.bool b'.isNone)) w := by simp [execOp, ho, ex, ey, eqGuard, Lib.run_eql_slice_nil w t e b' n c1 0 0 ht]
  unfold Oper.wp
  rw [run]
  exact hnx σ _ _ _ w I (F.put (.bool _) hd) (kk _ hb)
theorem pow_i8 (i : Nat) (h : i ≤ 8) : ∀ {x : Nat}, x < 128 → x * 128 ^ i < 9223372036854775808 := by
  intro x hx
  have h9 : 128 ^ i ≤ 128 ^ 8 := Nat.pow_le_pow_right (by omega) h
  have : x * 128 ^ i ≤ 127 * 128 ^ 8 := Nat.mul_le_mul (by omega) h9
  omega
theorem isSl.bytes {l : List UInt8} {n i q c : Nat} {B : Blk} (hn : n = l.length) (hb : h[i]? = some B) (hm : live B = true) (he : B.es = 1) (hq : q ≤ B.cells.length) (hl : (B.cells.drop q).take l.length = bytesC l) : isSl h (.slice (some ⟨i, q, none⟩) n c) 1 l.length (bytesC l) := by
  subst hn
  exact ⟨bytesC_scal l, .inr ⟨i, q, c, B, rfl, hb, hm, he, hq, by simpa using hl, by simp [bytesC_length]⟩⟩
theorem bodyA.ghost {rs : List ResultVar} {R : Out → List Blk → Prop} (md : Md) (e : Nat) {t : Nat} (hrs : rs = [.tmp t]) (hx : lk f t = some (.slice none 0 0)) (k : bodyA P gs m rs R .ret ((t, .slice (some ⟨h.length, 0, none⟩) 0 0) :: f) (h ++ [⟨[], md, e⟩])) : bodyA P gs m rs R .ret f h := by
  obtain ⟨vs, v2, h2, a, b, c⟩ := k
  subst hrs
  cases a with
  | cons a1 a2 =>
    cases a2
    cases a1 with
    | tmp hv =>
      simp only [lk, if_true, Option.some.injEq] at hv
      subst hv
      exact ⟨[.slice none 0 0], v2, h2, .cons (.tmp hx) .nil, Wk.trans (Wk.trans (Wk.ghost md e 0 rfl) (Wk.fr (f2 := [(0, _)]) ⟨rfl, trivial⟩)) b, c⟩
theorem OpJ.fieldAddrV (p : Nat) {t : TypeId} {fs : Array Field} {fd : Field} {x : Operand} {j i q sz : Nat} {zf : Value} {bf : Nat} (ho : o.op = .fieldAddr t x j) (ht : P.underlying t = some (.struct fs)) (hf : fs[j]? = some fd) (hi : TI P fd.type zf sz bf) (hz : sz ≠ 0)
    (hx : ev f x = some (.pointer (some ⟨i, q, none⟩))) (e : q + fd.offset = p) (kk : K (pt f o.dst (.pointer (some ⟨i, p, none⟩))) h) : OpJ P gs m N o K Kp f h := by
  subst e; exact OpJ.fieldAddr (tf := 0) ho ht hf hi hz hx kk
end
end Go.J
