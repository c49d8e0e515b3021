/- The program logic J, part 23: an interpreter over told frames and heaps: single operations, and that it is right. No condition. -/
import Derived.Test.YthknbhghkcdepaaGreatDoorJDraw
import Derived.Test.YthknbhghkcdepaaGreatDoorJEqs
import Derived.Test.YthknbhghkcdepaaGreatDoorJFOps
import Derived.Test.YthknbhghkcdepaaGreatDoorJZeros
set_option maxHeartbeats 4000000
set_option linter.unusedVariables false
set_option linter.unusedSimpArgs false
namespace Go.J

/-! ### Computations that touch no memory -/
def pureRun {α : Type} (P : Program) : Sem α → Option α
  | .pure a => some a
  | .program k => pureRun P (k P)
  | .mark _ k => pureRun P k
  | _ => none
theorem pureRun_run {α : Type} {P : Program} : ∀ {s : Sem α} {a : α}, pureRun P s = some a → ∀ w, s.run P w = .ok a w := by
  intro s
  induction s with
  | pure b => intro a h w; simp [pureRun] at h; subst h; rfl
  | program k ih => intro a h w; simp only [pureRun] at h; simp only [Sem.run]; exact ih P h w
  | mark m k ih => intro a h w; simp only [pureRun] at h; simp only [Sem.run]; exact ih h w
  | _ => intro a h; simp [pureRun] at h

/-! ### Operations as the interpreter has them -/
inductive KO where
  | mv (x : Operand)
  | pick (c a b : Operand)
  | nilck (x : Operand)
  | bin (op : BinOp) (t : TypeId) (x y : Operand) (t' ty : TypeId)
  | gen (o : Op) (ty : TypeId)
  | conv (k : IntKind) (x : Operand)
  | not (x : Operand)
  | eqB (neg : Bool) (x y : Operand)
  | lenS (x : Operand)
  | idxS (x y : Operand)
  | eqn (neg sl : Bool) (x : Operand)
  | toB (x : Operand)
  | toT (x : Operand)
  | alloc (vs : List Value)
  | box (x : Operand)
  | load (x : Operand)
  | loadA (sz : Nat) (x : Operand)
  | store (sz : Nat) (x y : Operand)
  | fld (off : Nat) (x : Operand)
  | idx (arr : Option Nat) (sz : Nat) (x y : Operand)
  | cut (sz : Nat) (x : Operand) (lo hi mx : Option Operand)
  | bld (z : List Value) (pl : List (Nat × Nat)) (ps : List (Nat × Operand))
  | bls (sz : Nat) (z : List Value) (n : Nat) (ps : List (Nat × Operand))
  | ext (x : Operand) (i : Nat)
  | len (x : Operand)
  | cap0 (x : Operand)
  | app (sz bz : Nat) (x y : Operand)
  | appZ (sz bz : Nat) (z : List Value) (x y : Operand)
  | part (off : Nat) (x : Operand)
  | mkf (fn : Fn) (xs ys : List Operand)
  | call (fx : Operand) (as : List Operand)
  | bad
structure KOp where
  dst : Option Nat
  g : Option (Nat × Bool)
  op : KO

/-! #### out of the program's text -/
def tinf (P : Program) (t : TypeId) : Option (Value × Nat × Nat) := match P.info? t with
  | some i => match i.zero with
    | some z => some (z, i.size, i.bytes)
    | none => none
  | none => none
theorem tinf_TI {P : Program} {t : TypeId} {z : Value} {sz bz : Nat} (h : tinf P t = some (z, sz, bz)) : TI P t z sz bz := by
  unfold tinf at h; unfold TI
  cases hi : P.info? t with
  | none => simp [hi] at h
  | some i =>
    simp only [hi] at h
    cases hz : i.zero with
    | none => simp [hz] at h
    | some z' => simp [hz] at h; simp [hz, h]

def isNil : Operand → Bool
  | .const (.slice none 0 0) | .const (.pointer none) => true
  | _ => false
def cmpBin (P : Program) (op : BinOp) (t : TypeId) (x y : Operand) (t' ty : TypeId) : KO :=
  match op, P.underlying t with
  | .eql, some (.slice _) => match y with
    | .const (.slice none 0 0) => .eqn false true x
    | _ => .gen (.binOp op t x y t') ty
  | .neq, some (.slice _) => match y with
    | .const (.slice none 0 0) => .eqn true true x
    | _ => .gen (.binOp op t x y t') ty
  | .eql, some (.pointer _) => match y with
    | .const (.pointer none) => .eqn false false x
    | _ => .gen (.binOp op t x y t') ty
  | .neq, some (.pointer _) => match y with
    | .const (.pointer none) => .eqn true false x
    | _ => .gen (.binOp op t x y t') ty
  | .eql, some .bool => .eqB false x y
  | .neq, some .bool => .eqB true x y
  | _, _ => .bin op t x y t' ty
def cmpConv (P : Program) (o : Oper) (s d : TypeId) (x : Operand) : Option KO :=
  match P.underlying s, P.underlying d with
  | some .string, some (.slice e) => match P.underlying e with
    | some (.int .u8) => some (.toB x)
    | _ => none
  | some (.slice e), some .string => match P.underlying e with
    | some (.int .u8) => some (.toT x)
    | _ => none
  | some (.slice _), _ => none
  | some _, some (.int k) => some (.conv k x)
  | _, _ => some (.gen o.op o.type)
def cmpAddr (P : Program) (t : TypeId) (x y : Operand) : Option KO :=
  match P.underlying t with
  | some (.slice e) => match tinf P e with
    | some (_, sz, _) => some (.idx none sz x y)
    | none => none
  | some (.array n e) => match tinf P e with
    | some (_, sz, _) => some (.idx (some n) sz x y)
    | none => none
  | _ => none
def cmpFld (P : Program) (t : TypeId) (x : Operand) (j : Nat) : Option KO :=
  match P.underlying t with
  | some (.struct fs) => match fs[j]? with
    | some fd => match tinf P fd.type with
      | some (_, sz, _) => if sz = 0 then none else some (.fld fd.offset x)
      | none => none
    | none => none
  | _ => none
def cmpPart (P : Program) (t : TypeId) (x : Operand) (j : Nat) : Option KO :=
  match P.underlying t with
  | some (.struct fs) => match fs[j]? with
    | some fd => match P.underlying fd.type with
      | some d => if aggD d then none else some (.part fd.offset x)
      | none => none
    | none => none
  | _ => none
def cmpBld (P : Program) (t : TypeId) (ps : Array (Nat × Operand)) : Option KO :=
  match P.underlying t with
  | some (.struct fs) => match tinf P t with
    | some (z, _, _) => if z.cells.toList.all scal then match pureRun P (fs.mapM (m := Sem) fun f => do pure (f.offset, ← Go.sizeOf f.type)) with
      | some pl => some (.bld z.cells.toList pl.toList ps.toList)
      | none => none
      else none
    | none => none
  | _ => none
def cmpBls (P : Program) (t : TypeId) (n : Nat) (ps : Array (Nat × Operand)) : Option KO :=
  match P.underlying t with
  | some (.slice e) => match tinf P e with
    | some (z, sz, _) => if z.cells.toList.all scal && Nat.beq z.cells.toList.length sz && Nat.blt 0 sz && Nat.ble (n * sz) 16777216 then some (.bls sz z.cells.toList n ps.toList) else none
    | none => none
  | _ => none
def cmpCall (P : Program) (o : Oper) (c : Call) : Option KO :=
  match c.callee with
  | .value fx => some (.call fx c.args.toList)
  | .builtin .len => match c.args.toList, c.argTypes.toList with
    | [x], [t] => match P.underlying t with
      | some (.slice _) => some (.len x)
      | some .string => some (.lenS x)
      | _ => none
    | _, _ => none
  | .builtin .cap => match c.args.toList, c.argTypes.toList with
    | [x], [t] => match P.underlying t with
      | some (.slice _) => some (.cap0 x)
      | _ => none
    | _, _ => none
  | .builtin .min | .builtin .max => some (.gen o.op o.type)
  | .builtin .append => match c.args.toList, c.argTypes.toList with
    | [x, y], [t, t2] => match P.underlying t, P.underlying t2 with
      | some (.slice e), some d2 => match tinf P e with
        | some (z, sz, bz) => if Nat.beq z.cells.size sz && Nat.blt 0 bz && Nat.blt 0 sz then
            (match d2 with
            | .int _ => if z.cells.toList.all scal then some (.appZ sz bz z.cells.toList x y) else none
            | _ => some (.app sz bz x y)) else none
        | none => none
      | _, _ => none
    | _, _ => none
  | _ => none
def cmpO (P : Program) (o : Oper) : Option KO :=
  match o.op with
  | .move x | .assign x => some (.mv x)
  | .pick c a b => some (.pick c a b)
  | .nilCheck x => some (.nilck x)
  | .binOp op t x y t' => some (cmpBin P op t x y t' o.type)
  | .unOp u _ x => match u with
    | .not => some (.not x)
    | _ => some (.gen o.op o.type)
  | .convert s d x => cmpConv P o s d x
  | .alloc t => match tinf P t with
    | some (z, _, _) => if z.cells.toList.all scal then some (.alloc z.cells.toList) else none
    | none => none
  | .box _ x => some (.box x)
  | .load t x => match P.underlying t with
    | some d => if aggD d then match tinf P t with
      | some (_, sz, _) => some (.loadA sz x)
      | none => none
      else some (.load x)
    | none => none
  | .store t x y => match tinf P t with
    | some (_, sz, _) => some (.store sz x y)
    | none => none
  | .fieldAddr t x j => cmpFld P t x j
  | .indexAddr t x y => cmpAddr P t x y
  | .index t x y => match P.underlying t with
    | some .string => some (.idxS x y)
    | _ => some (.gen o.op o.type)
  | .slice t x lo hi mx => match P.underlying t with
    | some (.slice e) => match tinf P e with
      | some (_, sz, _) => if mx.isSome && !hi.isSome then none else some (.cut sz x lo hi mx)
      | none => none
    | some .string => some (.gen o.op o.type)
    | _ => none
  | .build t ps => cmpBld P t ps
  | .buildSlice t n ps => cmpBls P t n ps
  | .extract x i => some (.ext x i)
  | .field t x j => cmpPart P t x j
  | .makeFunc fn xs ys => if isMark fn then none else some (.mkf fn xs.toList ys.toList)
  | .call c => cmpCall P o c
  | _ => none

/-! #### one step -/
/-- What a slot holds, looked up the quick way. -/
def lkB : AFr → Nat → Option Value
  | [], _ => none
  | (d, v) :: r, t => match Nat.beq t d with
    | true => some v
    | false => lkB r t
theorem lkB_eq : ∀ (f : AFr) (t : Nat), lkB f t = lk f t
  | [], t => rfl
  | (d, v) :: r, t => by
    simp only [lkB, lk]
    split
    · rename_i h; rw [if_pos (Nat.eq_of_beq_eq_true h)]
    · rename_i h
      rw [if_neg (by intro e; subst e; simp at h)]
      exact lkB_eq r t
def scalB : Value → Bool
  | .bool _ | .int _ _ | .string _ | .nilFunc | .nilIface => true
  | .pointer none => true
  | v => scal v
theorem scalB_eq (v : Value) : scalB v = scal v := by
  unfold scalB
  split <;> rfl
def evB (f : AFr) : Operand → Option Value
  | .tmp t => lkB f t
  | .const v => match scalB v with
    | true => some v
    | false => none
  | .func g => some (.func (.func g) #[] #[])
  | .global _ => none
theorem evB_eq (f : AFr) (x : Operand) : evB f x = ev f x := by
  cases x with
  | tmp t => exact lkB_eq f t
  | const v => simp only [evB, ev, scalB_eq]; cases scal v <;> rfl
  | func g => rfl
  | global g => rfl
def partsB (f : AFr) : List (Nat × Operand) → Option (List (Nat × Value))
  | [] => some []
  | (i, x) :: r => match evB f x, partsB f r with
    | some v, some l => some ((i, v) :: l)
    | _, _ => none
theorem partsB_eq (f : AFr) : ∀ (l : List (Nat × Operand)), partsB f l = partsA f l
  | [] => rfl
  | (i, x) :: r => by simp only [partsB, partsA, evB_eq, partsB_eq f r]; rfl
def okV (v : Value) : Bool := v.cells.toList.all scal
def evs1 (f : AFr) : List Operand → Option (List Value)
  | [] => some []
  | x :: xs => match evB f x, evs1 f xs with
    | some v, some vs => some (v :: vs)
    | _, _ => none
def rhoF (f : AFr) (x : Operand) : Value := (evB f x).getD undef
def genOps : Op → List Operand
  | .binOp _ _ x y _ => [x, y]
  | .unOp _ _ x => [x]
  | .convert _ _ x => [x]
  | .index _ x y => [x, y]
  | .slice _ x lo hi none => x :: (lo.toList ++ hi.toList)
  | .call ⟨.builtin .len, as, _⟩ | .call ⟨.builtin .min, as, _⟩ | .call ⟨.builtin .max, as, _⟩ => as.toList
  | _ => []
def genOk : Op → Bool
  | .binOp .. | .unOp .. | .convert .. | .index .. | .slice _ _ _ _ none | .call ⟨.builtin .len, _, _⟩ | .call ⟨.builtin .min, _, _⟩ | .call ⟨.builtin .max, _, _⟩ => true
  | _ => false
def opOf (op : Op) (ty : TypeId) : Oper := ⟨none, op, ty, "", #[], none⟩
def genV (P : Program) (op : Op) (ty : TypeId) (f : AFr) : Option Value :=
  if genOk op && (genOps op).all (fun x => match evB f x with | some v => okV v | none => false) then
    match pureRun P (execOp (rhoF f) (opOf op ty)) with
    | some (.value v) => if okV v then some v else none
    | _ => none
  else none
def intBin2 : BinOp → IntKind → Int → Int → Option Value
  | .quo, k, a, b => match b with
    | .ofNat 0 => none
    | b => some (.int k (k.wrap (a.tdiv b)))
  | .rem, k, a, b => match b with
    | .ofNat 0 => none
    | b => some (.int k (a.tmod b))
  | op, k, a, b => intBin op k a b
def shBin : BinOp → IntKind → Int → Nat → Option Value
  | .shl, k, a, n => some (.int k (k.wrap (a * 2 ^ (min n k.bits))))
  | .shr, k, a, n => some (.int k (a.fdiv (2 ^ (min n k.bits))))
  | _, _, _, _ => none
def binV (P : Program) (op : BinOp) (t : TypeId) (x y : Operand) (t' ty : TypeId) (f : AFr) : Option Value :=
  match evB f x, evB f y with
  | some (.int k a), some (.int k' b) => match (match b with | .ofNat n => shBin op k a n | _ => none) with
    | some v => some v
    | none => if k = k' then match intBin2 op k a b with
      | some v => some v
      | none => genV P (.binOp op t x y t') ty f
      else genV P (.binOp op t x y t') ty f
  | some (.string a), some (.string b) => match strBin op a b with
    | some v => some v
    | none => genV P (.binOp op t x y t') ty f
  | _, _ => genV P (.binOp op t x y t') ty f
def natOf (f : AFr) (dflt : Nat) : Option Operand → Option Nat
  | none => some dflt
  | some x => match evB f x with
    | some (.int _ (.ofNat n)) => some n
    | _ => none
/-- What an append or a copy takes its elements from. -/
def srcW (h : List Blk) (sz : Nat) (v : Value) : Option (Nat × List Value) :=
  match v with
  | .slice none 0 0 => some (0, [])
  | .slice (some ⟨i, q, none⟩) n _ => match h[i]? with
    | some B => if live B && Nat.beq ((B.cells.drop q).take (n * sz)).length (n * sz) then some (n, (B.cells.drop q).take (n * sz)) else none
    | none => none
  | .string s => if Nat.beq sz 1 then some (s.data.toList.length, bytesC s.data.toList) else none
  | .func (.method "fz") ⟨[.int .i64 (.ofNat es), .int .i64 (.ofNat n)]⟩ vs => if Nat.beq es sz && vs.toList.all zb && Nat.beq vs.toList.length (n * sz) then some (n, vs.toList) else none
  | _ => none
def srcV (f : AFr) (h : List Blk) (sz : Nat) (y : Operand) : Option (Nat × List Value) :=
  match evB f y with
  | some v => srcW h sz v
  | none => none
def readB (h : List Blk) (i q sz : Nat) : Option (List Value) := match h[i]? with
  | some B => if live B && Nat.beq ((B.cells.drop q).take sz).length sz then some ((B.cells.drop q).take sz) else none
  | none => none
def isWr (B : Blk) : Bool := match B.md with
  | .w => true
  | _ => false
abbrev Res := Option (Value × Option (List Blk))
def vl (v : Value) : Res := some (v, none)
def appV (f : AFr) (h : List Blk) (sz bz : Nat) (x : Operand) (k : Nat) (ys : List Value) : Res :=
  match evB f x with
  | some (.slice none 0 0) => if k = 0 then vl (.slice none 0 0) else if Nat.ble (k * bz) 140737488355328 then some (.slice (some ⟨h.length, 0, none⟩) k k, some (h ++ [⟨ys, .w, sz⟩])) else none
  | some (.slice (some ⟨i, q, none⟩) n _) => match h[i]? with
    | some B => if isWr B && Nat.beq B.es sz && Nat.ble (q + n * sz) B.cells.length && ys.all isOne && Nat.ble ((n + k) * bz) 140737488355328 then
        some (.slice (some ⟨h.length, 0, none⟩) (n + k) (n + k), some (h.set i ⟨[], .d, sz⟩ ++ [⟨(B.cells.drop q).take (n * sz) ++ ys, .w, sz⟩])) else none
    | none => none
  | _ => none
def bytesOf : List Value → Option (List UInt8)
  | [] => some []
  | .int .u8 (.ofNat n) :: r => if Nat.blt n 256 then match bytesOf r with
    | some l => some (UInt8.ofNat n :: l)
    | none => none
      else none
  | _ => none
def sMv (f : AFr) (h : List Blk) (x : Operand) : Res :=
  match evB f x with
    | some v => vl v
    | none => none
def sPick (f : AFr) (h : List Blk) (c a b : Operand) : Res :=
  match evB f c with
    | some (.bool true) => (match evB f a with | some v => vl v | none => none)
    | some (.bool false) => (match evB f b with | some v => vl v | none => none)
    | _ => none
def sNilck (f : AFr) (h : List Blk) (x : Operand) : Res :=
  match evB f x with
    | some (.pointer (some a)) => vl (.pointer (some a))
    | _ => none
def sBin (P : Program) (f : AFr) (h : List Blk) (op : BinOp) (t : TypeId) (x y : Operand) (t' ty : TypeId) : Res :=
  match binV P op t x y t' ty f with
    | some v => vl v
    | none => none
def sGen (P : Program) (f : AFr) (h : List Blk) (o : Op) (ty : TypeId) : Res :=
  match genV P o ty f with
    | some v => vl v
    | none => none
def sConv (f : AFr) (h : List Blk) (k : IntKind) (x : Operand) : Res :=
  match evB f x with
    | some (.int _ a) => vl (.int k (k.wrap a))
    | _ => none
def sNot (f : AFr) (h : List Blk) (x : Operand) : Res :=
  match evB f x with
    | some (.bool b) => vl (.bool (!b))
    | _ => none
def sEqB (f : AFr) (h : List Blk) (neg : Bool) (x y : Operand) : Res :=
  match evB f x, evB f y with
    | some (.bool a), some (.bool b) => vl (.bool (match neg with | true => !(a == b) | false => a == b))
    | _, _ => none
def sLenS (f : AFr) (h : List Blk) (x : Operand) : Res :=
  match evB f x with
    | some (.string s) => vl (.int .i64 s.size)
    | _ => none
def sIdxS (f : AFr) (h : List Blk) (x y : Operand) : Res :=
  match evB f x, evB f y with
    | some (.string s), some (.int _ (.ofNat j)) => match s.data.toList[j]? with
      | some b => vl (.int .u8 b.toNat)
      | none => none
    | _, _ => none
def sEqn (f : AFr) (h : List Blk) (neg sl : Bool) (x : Operand) : Res :=
  match sl, evB f x with
    | true, some (.slice none 0 0) => vl (.bool (!neg))
    | true, some (.slice (some _) _ c) => if c = 0 then none else vl (.bool neg)
    | false, some (.pointer none) => vl (.bool (!neg))
    | false, some (.pointer (some _)) => vl (.bool neg)
    | _, _ => none
def sToB (f : AFr) (h : List Blk) (x : Operand) : Res :=
  match evB f x with
    | some (.string s) => some (.slice (some ⟨h.length, 0, none⟩) s.data.toList.length s.data.toList.length, some (h ++ [⟨bytesC s.data.toList, .w, 1⟩]))
    | _ => none
def sToT (f : AFr) (h : List Blk) (x : Operand) : Res :=
  match evB f x with
    | some (.slice none 0 0) => vl (.string ⟨#[]⟩)
    | some (.slice (some ⟨i, q, none⟩) n _) => match readB h i q n with
      | some vs => match bytesOf vs with
        | some l => vl (.string ⟨l.toArray⟩)
        | none => none
      | none => none
    | some (.func (.method "fz") ⟨[.int .i64 (.ofNat 1), .int .i64 (.ofNat n)]⟩ vs) => match bytesOf vs.toList with
      | some l => if Nat.beq l.length n then vl (.string ⟨l.toArray⟩) else none
      | none => none
    | _ => none
def sAlloc (f : AFr) (h : List Blk) (vs : List Value) : Res :=
  some (.pointer (some ⟨h.length, 0, none⟩), some (h ++ [⟨vs, .w, 1⟩]))
def sBox (f : AFr) (h : List Blk) (x : Operand) : Res :=
  match evB f x with
    | some v => if v.cells.toList.all isOne then some (.pointer (some ⟨h.length, 0, none⟩), some (h ++ [⟨v.cells.toList, .w, 1⟩])) else none
    | none => none
def sLoad (f : AFr) (h : List Blk) (x : Operand) : Res :=
  match evB f x with
    | some (.pointer (some ⟨i, q, none⟩)) => match h[i]? with
      | some B => if live B then (match B.cells[q]? with | some v => vl v | none => none) else none
      | none => none
    | some (.func (.method "pz") ⟨[.bool true]⟩ vs) => match vs.toList with
      | v :: _ => if zb v then vl v else none
      | [] => none
    | _ => none
def sLoadA (f : AFr) (h : List Blk) (sz : Nat) (x : Operand) : Res :=
  match evB f x with
    | some (.pointer (some ⟨i, q, none⟩)) => match readB h i q sz with
      | some vs => vl (.agg vs.toArray)
      | none => none
    | some (.func (.method "pz") ⟨[.bool true]⟩ vs) => if Nat.beq (vs.toList.take sz).length sz && (vs.toList.take sz).all zb then vl (.agg (vs.toList.take sz).toArray) else none
    | _ => none
def sStore (f : AFr) (h : List Blk) (sz : Nat) (x y : Operand) : Res :=
  match evB f x, evB f y with
    | some (.pointer (some ⟨i, q, none⟩)), some v => match h[i]? with
      | some B => if isWr B && Nat.beq v.cells.toList.length sz && v.cells.toList.all isOne && Nat.ble (q + sz) B.cells.length then some (.tuple #[], some (h.set i { B with cells := wr B.cells q v.cells.toList })) else none
      | none => none
    | _, _ => none
def sFld (f : AFr) (h : List Blk) (off : Nat) (x : Operand) : Res :=
  match evB f x with
    | some (.pointer (some ⟨i, q, none⟩)) => vl (.pointer (some ⟨i, q + off, none⟩))
    | some (.func (.method "pz") ⟨[.bool true]⟩ vs) => vl (PZ (vs.toList.drop off))
    | _ => none
def sIdx (f : AFr) (h : List Blk) (sz : Nat) (x y : Operand) : Res :=
  match evB f x, evB f y with
    | some (.slice (some ⟨i, q, none⟩) n _), some (.int _ (.ofNat j)) => if j < n then vl (.pointer (some ⟨i, q + j * sz, none⟩)) else none
    | some (.func (.method "fz") ⟨[.int .i64 (.ofNat es), .int .i64 (.ofNat n)]⟩ vs), some (.int _ (.ofNat j)) => if j < n then if Nat.beq es sz then vl (PZ (vs.toList.drop (j * es))) else none else none
    | _, _ => none
def sIdxA (f : AFr) (h : List Blk) (n sz : Nat) (x y : Operand) : Res :=
  match evB f x, evB f y with
    | some (.pointer (some ⟨i, q, none⟩)), some (.int _ (.ofNat j)) => if j < n then vl (.pointer (some ⟨i, q + j * sz, none⟩)) else none
    | _, _ => none
def sCut (f : AFr) (h : List Blk) (sz : Nat) (x : Operand) (lo hi mx : Option Operand) : Res :=
  match evB f x with
    | some (.slice none 0 0) => match natOf f 0 lo, natOf f 0 hi, natOf f 0 mx with
      | some 0, some 0, some 0 => vl (.slice none 0 0)
      | _, _, _ => none
    | some (.slice (some ⟨i, q, none⟩) n c) => match natOf f 0 lo, natOf f n hi, natOf f c mx with
      | some l, some r, some u => if l ≤ r ∧ r ≤ u ∧ u ≤ c then (match h[i]? with
        | some B => if live B && Nat.beq B.es sz then vl (.slice (some ⟨i, q + l * sz, none⟩) (r - l) (u - l)) else none
        | none => none) else none
      | _, _, _ => none
    | some (.func (.method "fz") ⟨[.int .i64 (.ofNat es), .int .i64 (.ofNat n)]⟩ vs) => match natOf f 0 lo, natOf f n hi, natOf f n mx with
      | some l, some r, some u => if l ≤ r ∧ r ≤ u ∧ u ≤ n then (if Nat.beq es sz && Nat.beq vs.toList.length (n * es) then vl (FZ es (r - l) ((vs.toList.drop (l * es)).take ((r - l) * es))) else none) else none
      | _, _, _ => none
    | _ => none
def sBld (f : AFr) (h : List Blk) (z : List Value) (pl : List (Nat × Nat)) (ps : List (Nat × Operand)) : Res :=
  match partsB f ps with
    | some l => if l.all (fun p => p.2.cells.toList.all isOne) then match fillS (pl[·]?) z l with
      | some vs => vl (.agg vs.toArray)
      | none => none
      else none
    | none => none
def sBls (f : AFr) (h : List Blk) (sz : Nat) (z : List Value) (n : Nat) (ps : List (Nat × Operand)) : Res :=
  match partsB f ps with
    | some l => if l.all (fun p => p.2.cells.toList.all isOne) then match fillS (fun i => some (i * sz, sz)) (List.replicate n z).flatten l with
      | some vs => if Nat.beq vs.length (n * sz) && vs.all isOne then some (.slice (some ⟨h.length, 0, none⟩) n n, some (h ++ [⟨vs, .w, sz⟩])) else none
      | none => none
      else none
    | none => none
def sExt (f : AFr) (h : List Blk) (x : Operand) (i : Nat) : Res :=
  match evB f x with
    | some (.tuple vs) => match vs.toList[i]? with
      | some v => vl v
      | none => none
    | _ => none
def sLen (f : AFr) (h : List Blk) (x : Operand) : Res :=
  match evB f x with
    | some (.slice _ n _) => vl (.int .i64 n)
    | some (.func (.method "fz") ⟨[.int .i64 (.ofNat es), .int .i64 (.ofNat n)]⟩ vs) => vl (.int .i64 n)
    | _ => none
def sCap0 (f : AFr) (h : List Blk) (x : Operand) : Res :=
  match evB f x with
    | some (.slice none n c) => vl (.int .i64 c)
    | _ => none
def sApp (f : AFr) (h : List Blk) (sz bz : Nat) (x y : Operand) : Res :=
  match srcV f h sz y with
    | some (k, ys) => appV f h sz bz x k ys
    | none => none
def sAppZ (f : AFr) (h : List Blk) (sz bz : Nat) (z : List Value) (x y : Operand) : Res :=
  match evB f x, evB f y with
    | some (.slice none 0 0), some (.int .i64 (.ofNat k)) => if Nat.blt 0 k && Nat.ble (k * bz) 140737488355328 then some (.slice (some ⟨h.length, 0, none⟩) k k, some (h ++ [⟨(List.replicate k z).flatten, .w, sz⟩])) else none
    | _, _ => none
def sPart (f : AFr) (h : List Blk) (off : Nat) (x : Operand) : Res :=
  match evB f x with
    | some (.agg xs) => match xs.toList[off]? with
      | some v => vl v
      | none => none
    | _ => none
def sMkf (f : AFr) (h : List Blk) (fn : Fn) (xs ys : List Operand) : Res :=
  match evs1 f xs, evs1 f ys with
    | some us, some vs => vl (.func fn us.toArray vs.toArray)
    | _, _ => none
def stepK (P : Program) (f : AFr) (h : List Blk) : KO → Res
  | .mv x => sMv f h x
  | .pick c a b => sPick f h c a b
  | .nilck x => sNilck f h x
  | .bin op t x y t' ty => sBin P f h op t x y t' ty
  | .gen o ty => sGen P f h o ty
  | .conv k x => sConv f h k x
  | .not x => sNot f h x
  | .eqB neg x y => sEqB f h neg x y
  | .lenS x => sLenS f h x
  | .idxS x y => sIdxS f h x y
  | .eqn neg sl x => sEqn f h neg sl x
  | .toB x => sToB f h x
  | .toT x => sToT f h x
  | .alloc vs => sAlloc f h vs
  | .box x => sBox f h x
  | .load x => sLoad f h x
  | .loadA sz x => sLoadA f h sz x
  | .store sz x y => sStore f h sz x y
  | .fld off x => sFld f h off x
  | .idx none sz x y => sIdx f h sz x y
  | .idx (some n) sz x y => sIdxA f h n sz x y
  | .cut sz x lo hi mx => sCut f h sz x lo hi mx
  | .bld z pl ps => sBld f h z pl ps
  | .bls sz z n ps => sBls f h sz z n ps
  | .ext x i => sExt f h x i
  | .len x => sLen f h x
  | .cap0 x => sCap0 f h x
  | .app sz bz x y => sApp f h sz bz x y
  | .appZ sz bz z x y => sAppZ f h sz bz z x y
  | .part off x => sPart f h off x
  | .mkf fn xs ys => sMkf f h fn xs ys
  | .call _ _ => none
  | .bad  => none
end Go.J
