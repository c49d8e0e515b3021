/- The program logic J, part 1: abstract heaps, how they stand for the machine's memory, and what keeps that. No condition. -/
import Derived.Calls
import Derived.Deep.LoopGhost
set_option maxHeartbeats 4000000
set_option linter.unusedVariables false
set_option linter.unusedSimpArgs false
namespace Go.J

/-- Where an abstract block lies: block, first cell, cells of the block, cells of an element. -/
structure Loc where
  b : Nat
  o : Nat
  s : Nat
  e : Nat

inductive Md where
  | w | r | d

/-- An abstract block. -/
structure Blk where
  cells : List Value
  md : Md
  es : Nat

def isOne : Value → Bool
  | .agg _ | .tuple _ | .chan _ => false
  | _ => true

/-- Where blocks lie, and machine blocks that nobody writes any more, with what they hold. -/
structure St where
  l : List Loc
  z : List (Nat × Array Value)
instance : HAppend St (List Loc) St := ⟨fun s x => ⟨s.l ++ x, s.z⟩⟩
@[simp] theorem St.app_l (σ : St) (x : List Loc) : (σ ++ x).l = σ.l ++ x := rfl
@[simp] theorem St.app_z (σ : St) (x : List Loc) : (σ ++ x).z = σ.z := rfl

/-- Functions that stand for none. -/
def isMark : Fn → Bool
  | .method s => s == "fz" || s == "pz"
  | _ => false
/-- Values without addresses. -/
def scal : Value → Bool
  | .bool _ | .int _ _ | .float _ _ | .string _ | .pointer none | .slice none 0 0 | .map none | .nilFunc | .nilIface => true
  | .func fn ⟨[]⟩ ⟨[]⟩ => !isMark fn
  | _ => false
/-- A slice told by its cells: n elements of es cells; it stands for a slice into memory that nobody writes any more. -/
def FZ (es n : Nat) (vs : List Value) : Value := .func (.method "fz") #[.int .i64 es, .int .i64 n] vs.toArray
/-- A pointer told by the cells that lie from there on. -/
def PZ (vs : List Value) : Value := .func (.method "pz") #[.bool true] vs.toArray

/-- Values that are told without any number of a block. -/
inductive ZR (ζ : List (Nat × Array Value)) : Value → Value → Prop
  | s {v : Value} (h : scal v = true) : ZR ζ v v
  | fz {b o es n c : Nat} {vs vs' : List Value} {cs : Array Value} (hb : (b, cs) ∈ ζ) (hl : vs.length = n * es) (hl' : vs'.length = vs.length) (hc : ∀ (j : Nat) (v : Value), vs'[j]? = some v → cs[o + j]? = some v) (hr : ∀ (i : Nat) x y, vs[i]? = some x → vs'[i]? = some y → ZR ζ x y) (hn : n ≤ c) : ZR ζ (FZ es n vs) (.slice (some ⟨b, o, none⟩) n c)
  | fz0 {es c : Nat} {a : Option Addr} : ZR ζ (FZ es 0 []) (.slice a 0 c)
  | pz {b o : Nat} {vs vs' : List Value} {cs : Array Value} (hb : (b, cs) ∈ ζ) (hl' : vs'.length = vs.length) (hc : ∀ (j : Nat) (v : Value), vs'[j]? = some v → cs[o + j]? = some v) (hr : ∀ (i : Nat) x y, vs[i]? = some x → vs'[i]? = some y → ZR ζ x y) : ZR ζ (PZ vs) (.pointer (some ⟨b, o, none⟩))
theorem ZR.mono {ζ ζ' : List (Nat × Array Value)} (hs : ∀ p ∈ ζ, p ∈ ζ') {v v' : Value} (h : ZR ζ v v') : ZR ζ' v v' := by
  induction h with
  | s h => exact .s h
  | fz hb hl hl' hc _ hn ih => exact .fz (hs _ hb) hl hl' hc ih hn
  | fz0 => exact .fz0
  | pz hb hl' hc _ ih => exact .pz (hs _ hb) hl' hc ih

/-- What an operation that was left out leaves. -/
def UN : Value := .chan none
/-- An abstract value stands for a value of the machine. -/
inductive VR (σ : St) : Value → Value → Prop
  | poison (v : Value) : VR σ (.tuple #[]) v
  | un : VR σ (.chan none) (.tuple #[])
  | bool (b : Bool) : VR σ (.bool b) (.bool b)
  | int (k : IntKind) (n : Int) : VR σ (.int k n) (.int k n)
  | float (k : FloatKind) (n : Nat) : VR σ (.float k n) (.float k n)
  | string (s : ByteArray) : VR σ (.string s) (.string s)
  | ptr0 : VR σ (.pointer none) (.pointer none)
  | ptr {i o : Nat} {l : Loc} (h : σ.l[i]? = some l) : VR σ (.pointer (some ⟨i, o, none⟩)) (.pointer (some ⟨l.b, l.o + o, none⟩))
  | sl0 : VR σ (.slice none 0 0) (.slice none 0 0)
  | sl {i o n c c' : Nat} {l : Loc} (h : σ.l[i]? = some l) (hn : n ≤ c) (hcc : c ≤ c') (hc : l.o + o + c' * l.e ≤ l.s) : VR σ (.slice (some ⟨i, o, none⟩) n c) (.slice (some ⟨l.b, l.o + o, none⟩) n c')
  | slz {i o : Nat} {b : Option Addr} : VR σ (.slice (some ⟨i, o, none⟩) 0 0) (.slice b 0 0)
  | map0 : VR σ (.map none) (.map none)
  | map {i : Nat} {l : Loc} (h : σ.l[i]? = some l) : VR σ (.map (some i)) (.map (some l.b))
  | nilFunc : VR σ .nilFunc .nilFunc
  | func {fn : Fn} {xs ys xs' ys' : Array Value} (hm : isMark fn = false) (hl : xs.size = xs'.size) (h : ∀ (i : Nat) x y, xs[i]? = some x → xs'[i]? = some y → VR σ x y) (hl2 : ys.size = ys'.size) (h2 : ∀ (i : Nat) x y, ys[i]? = some x → ys'[i]? = some y → VR σ x y) : VR σ (.func fn xs ys) (.func fn xs' ys')
  | nilIface : VR σ .nilIface .nilIface
  | iface {t : TypeId} {v v' : Value} (h : VR σ v v') : VR σ (.iface t v) (.iface t v')
  | agg {xs ys : Array Value} (hl : xs.size = ys.size) (h : ∀ (i : Nat) x y, xs[i]? = some x → ys[i]? = some y → VR σ x y) : VR σ (.agg xs) (.agg ys)
  | tuple {xs ys : Array Value} (hl : xs.size = ys.size) (h : ∀ (i : Nat) x y, xs[i]? = some x → ys[i]? = some y → VR σ x y) : VR σ (.tuple xs) (.tuple ys)
  | fz {es n : Nat} {vs : List Value} {v' : Value} (h : ZR σ.z (FZ es n vs) v') : VR σ (.func (.method "fz") #[.int .i64 es, .int .i64 n] vs.toArray) v'
  | pz {vs : List Value} {v' : Value} (h : ZR σ.z (PZ vs) v') : VR σ (.func (.method "pz") #[.bool true] vs.toArray) v'

/-- More is told of blocks. -/
structure Ext (σ τ : St) : Prop where
  loc : ∀ (i : Nat) (l : Loc), σ.l[i]? = some l → τ.l[i]? = some l
  z : ∀ p ∈ σ.z, p ∈ τ.z
theorem Ext.refl (σ : St) : Ext σ σ := ⟨fun _ _ h => h, fun _ h => h⟩
theorem Ext.trans {a b c : St} (h : Ext a b) (k : Ext b c) : Ext a c := ⟨fun i l e => k.loc i l (h.loc i l e), fun p e => k.z p (h.z p e)⟩
theorem Ext.app (σ : St) (τ : List Loc) : Ext σ (σ ++ τ) := ⟨fun i l h => by
  rw [St.app_l, List.getElem?_append_left (List.getElem?_eq_some_iff.1 h).1]; exact h, fun _ h => h⟩

theorem VR.ext {σ τ : St} (he : Ext σ τ) {v v' : Value} (h : VR σ v v') : VR τ v v' := by
  induction h with
  | poison v => exact .poison v
  | un => exact .un
  | bool b => exact .bool b
  | int k n => exact .int k n
  | float k n => exact .float k n
  | string s => exact .string s
  | ptr0 => exact .ptr0
  | ptr h => exact .ptr (he.loc _ _ h)
  | sl0 => exact .sl0
  | sl h hn hcc hc => exact .sl (he.loc _ _ h) hn hcc hc
  | slz => exact .slz
  | map0 => exact .map0
  | map h => exact .map (he.loc _ _ h)
  | nilFunc => exact .nilFunc
  | func hm hl _ hl2 _ ih ih2 => exact .func hm hl ih hl2 ih2
  | nilIface => exact .nilIface
  | iface _ ih => exact .iface ih
  | agg hl _ ih => exact .agg hl ih
  | tuple hl _ ih => exact .tuple hl ih
  | fz h => exact .fz (h.mono he.z)
  | pz h => exact .pz (h.mono he.z)

theorem FZ_scal {es n : Nat} {vs : List Value} : scal (FZ es n vs) = false := rfl
theorem PZ_scal {vs : List Value} : scal (PZ vs) = false := rfl
theorem FZ_inj {es n es' n' : Nat} {vs vs' : List Value} (h : FZ es n vs = FZ es' n' vs') : es = es' ∧ n = n' ∧ vs = vs' := by
  simp only [FZ, Value.func.injEq] at h
  obtain ⟨_, h2, h3⟩ := h
  simp at h2 h3
  exact ⟨by omega, by omega, h3⟩
theorem PZ_inj {vs vs' : List Value} (h : PZ vs = PZ vs') : vs = vs' := by
  simp only [PZ, Value.func.injEq] at h
  simpa using h.2.2
/-- What stands behind a slice told by its cells. -/
theorem ZR.fz_inv {ζ : List (Nat × Array Value)} {es n : Nat} {vs : List Value} {v' : Value} (h : ZR ζ (FZ es n vs) v') :
    (∃ (b o c : Nat) (vs' : List Value) (cs : Array Value), v' = .slice (some ⟨b, o, none⟩) n c ∧ n ≤ c ∧ (b, cs) ∈ ζ ∧ vs.length = n * es ∧ vs'.length = vs.length ∧ (∀ (j : Nat) (v : Value), vs'[j]? = some v → cs[o + j]? = some v) ∧ (∀ (i : Nat) x y, vs[i]? = some x → vs'[i]? = some y → ZR ζ x y)) ∨
    (∃ (a : Option Addr) (c : Nat), v' = .slice a 0 c ∧ n = 0 ∧ vs = []) := by
  generalize hf : FZ es n vs = u at h
  cases h with
  | s h => rw [← hf, FZ_scal] at h; cases h
  | @fz b o es' n' c vs1 vs' cs hb hl hl' hc hr hn =>
    obtain ⟨rfl, rfl, rfl⟩ := FZ_inj hf
    exact .inl ⟨b, o, c, vs', cs, rfl, hn, hb, hl, hl', hc, hr⟩
  | @fz0 es' c a =>
    obtain ⟨rfl, rfl, rfl⟩ := FZ_inj hf
    exact .inr ⟨a, c, rfl, rfl, rfl⟩
  | pz => simp [FZ, PZ] at hf
theorem ZR.pz_inv {ζ : List (Nat × Array Value)} {vs : List Value} {v' : Value} (h : ZR ζ (PZ vs) v') :
    ∃ (b o : Nat) (vs' : List Value) (cs : Array Value), v' = .pointer (some ⟨b, o, none⟩) ∧ (b, cs) ∈ ζ ∧ vs'.length = vs.length ∧ (∀ (j : Nat) (v : Value), vs'[j]? = some v → cs[o + j]? = some v) ∧ (∀ (i : Nat) x y, vs[i]? = some x → vs'[i]? = some y → ZR ζ x y) := by
  generalize hf : PZ vs = u at h
  cases h with
  | s h => rw [← hf, PZ_scal] at h; cases h
  | fz => simp [FZ, PZ] at hf
  | fz0 => simp [FZ, PZ] at hf
  | @pz b o vs1 vs' cs hb hl' hc hr =>
    obtain rfl := PZ_inj hf
    exact ⟨b, o, vs', cs, rfl, hb, hl', hc, hr⟩
theorem VR.one {σ : St} {v v' : Value} (h : VR σ v v') (h1 : isOne v = true) : isOne v' = true := by
  cases h <;> first | rfl | (simp [isOne] at h1; done) | skip
  case fz h =>
    rcases h.fz_inv with ⟨_, _, _, _, _, rfl, _⟩ | ⟨_, _, rfl, _⟩ <;> rfl
  case pz h =>
    obtain ⟨_, _, _, _, rfl, _⟩ := h.pz_inv
    rfl

theorem VR.fz_inv {σ : St} {es n : Nat} {vs : List Value} {v' : Value} (h : VR σ (FZ es n vs) v') : ZR σ.z (FZ es n vs) v' := by
  generalize hf : FZ es n vs = u at h
  cases h with
  | fz h => exact h
  | pz h => simp [FZ] at hf
  | func hm => simp only [FZ, Value.func.injEq] at hf; rw [← hf.1] at hm; simp [isMark] at hm
  | _ => simp [FZ] at hf
theorem VR.pz_inv {σ : St} {vs : List Value} {v' : Value} (h : VR σ (PZ vs) v') : ZR σ.z (PZ vs) v' := by
  generalize hf : PZ vs = u at h
  cases h with
  | pz h => exact h
  | fz h => simp [PZ] at hf
  | func hm => simp only [PZ, Value.func.injEq] at hf; rw [← hf.1] at hm; simp [isMark] at hm
  | _ => simp [PZ] at hf

/-- Values told without any number of a block. -/
def zb : Value → Bool
  | .func (.method s) ⟨[.int .i64 (.ofNat _), .int .i64 (.ofNat _)]⟩ _ => s == "fz"
  | .func (.method s) ⟨[.bool true]⟩ _ => s == "pz"
  | v => scal v
theorem zb_of_scal {v : Value} (h : scal v = true) : zb v = true := by
  unfold zb
  split
  · simp [scal] at h
  · simp [scal] at h
  · exact h
theorem zb_FZ {es n : Nat} {vs : List Value} : zb (FZ es n vs) = true := rfl
theorem zb_PZ {vs : List Value} : zb (PZ vs) = true := rfl
theorem zb_cases {v : Value} (h : zb v = true) : scal v = true ∨ (∃ es n vs, v = FZ es n vs) ∨ ∃ vs, v = PZ vs := by
  unfold zb at h
  split at h
  · rename_i s a b ys
    refine .inr (.inl ⟨a, b, ys.toList, ?_⟩)
    have : s = "fz" := by simpa using h
    subst this; rfl
  · rename_i s ys
    refine .inr (.inr ⟨ys.toList, ?_⟩)
    have : s = "pz" := by simpa using h
    subst this; rfl
  · exact .inl h
theorem zb_one {v : Value} (h : zb v = true) : isOne v = true := by
  rcases zb_cases h with h | ⟨es, n, vs, rfl⟩ | ⟨vs, rfl⟩
  · cases v <;> first | rfl | (simp [scal] at h)
  · rfl
  · rfl
/-- Cells that may be told: one cell each, or nothing told of it. -/
def one0 : Value → Bool
  | .agg _ | .chan _ => false
  | .tuple a => a.isEmpty
  | _ => true
theorem isOne_one0 {v : Value} (h : isOne v = true) : one0 v = true := by cases v <;> first | rfl | (simp [isOne] at h)
theorem all_one0 {vs : List Value} (h : vs.all isOne = true) : ∀ v ∈ vs, one0 v = true := fun v hv => isOne_one0 (List.all_eq_true.1 h v hv)

/-- What a block tells of the memory. -/
def Real (σ : St) (w : World) (B : Blk) (l : Loc) : Prop := ∃ (c : Array Value) (t : TypeId) (fr : Nat × Nat), w.heap[l.b]? = some (.cells c t fr) ∧ c.size = l.s ∧ l.o + B.cells.length ≤ l.s ∧
    (∀ (j : Nat) (v : Value), B.cells[j]? = some v → ∃ v', c[l.o + j]? = some v' ∧ VR σ v v') ∧ (B.md = .w → ∀ q : Nat, q < c.size → w.frozen? ⟨l.b, q, none⟩ = false) ∧ (∀ v ∈ B.cells, one0 v = true)

/-- The memory is as the abstract heap tells; gs: blocks that nobody writes. A block without any room (s = 0) lies nowhere. -/
structure Sim (gs : List (Nat × Obj)) (σ : St) (h : List Blk) (w : World) : Prop where
  len : σ.l.length = h.length
  live : ∀ (i : Nat) (B : Blk), h[i]? = some B → (B.md = .d → False) → ∃ l : Loc, σ.l[i]? = some l ∧ l.e = B.es ∧ ((l.s = 0 ∧ B.cells = []) ∨ Real σ w B l)
  apart : ∀ (i j : Nat) (B D : Blk) (l m : Loc), i ≠ j → h[i]? = some B → h[j]? = some D → B.md = .w → (D.md = .d → False) → σ.l[i]? = some l → σ.l[j]? = some m → 0 < l.s → 0 < m.s → l.b ≠ m.b
  glob : ∀ p ∈ gs, w.heap[p.1]? = some p.2
  frz : ∀ p ∈ σ.z, ∃ (t : TypeId) (fr : Nat × Nat), w.heap[p.1]? = some (.cells p.2 t fr)
  frzw : ∀ p ∈ σ.z, ∀ (i : Nat) (B : Blk) (l : Loc), h[i]? = some B → B.md = .w → σ.l[i]? = some l → 0 < l.s → l.b ≠ p.1
  globw : ∀ p ∈ gs, ∀ (i : Nat) (B : Blk) (l : Loc), h[i]? = some B → B.md = .w → σ.l[i]? = some l → 0 < l.s → l.b ≠ p.1

/-- A frame: what slots hold, the newest first. -/
abbrev AFr := List (Nat × Value)
def lk : AFr → Nat → Option Value
  | [], _ => none
  | (d, v) :: r, t => if t = d then some v else lk r t
def pt (f : AFr) : Option Nat → Value → AFr
  | some d, v => (d, v) :: f
  | none, _ => f
structure FR (σ : St) (N : Nat) (f : AFr) (a : Act) : Prop where
  size : a.tmps.size = N
  defers : a.defers = []
  val : ∀ (t : Nat) (v : Value), lk f t = some v → ∃ v', a.tmps[t]? = some v' ∧ VR σ v v'

/-- What surrounds a call: the world at its begin, which of its blocks may be written, where the blocks handed over lie. -/
structure Cx where
  w0 : World
  own : Nat → Prop
  σ0 : St
structure Inv (gs : List (Nat × Obj)) (C : Cx) (σ : St) (h : List Blk) (w : World) : Prop where
  sim : Sim gs σ h w
  pre : Ext C.σ0 σ
  size : C.w0.heap.size ≤ w.heap.size
  keep : ∀ b : Nat, b < C.w0.heap.size → ¬ C.own b → w.heap[b]? = C.w0.heap[b]?
  mine : ∀ (i : Nat) (B : Blk) (l : Loc), h[i]? = some B → B.md = .w → σ.l[i]? = some l → 0 < l.s → C.own l.b ∨ C.w0.heap.size ≤ l.b
  zown : ∀ p ∈ σ.z, p ∈ C.σ0.z ∨ C.own p.1 ∨ C.w0.heap.size ≤ p.1
  os : w.os = C.w0.os
  out : w.output = C.w0.output
  tape : w.tape = C.w0.tape

/-! ### Lists -/
theorem getElem?_snoc {α : Type} (l : List α) (x : α) (i : Nat) : (l ++ [x])[i]? = if i = l.length then some x else l[i]? := by
  rw [List.getElem?_append]
  split
  · rename_i h; rw [if_neg (by omega)]
  · rename_i h
    by_cases e : i = l.length
    · subst e; simp
    · rw [if_neg e, List.getElem?_eq_none (by simp; omega), List.getElem?_eq_none (by omega)]

/-! ### Reading -/
section
variable {gs : List (Nat × Obj)} {C : Cx} {σ τ : St} {h : List Blk} {w : World}

theorem Sim.loc (S : Sim gs σ h w) {i : Nat} {B : Blk} (hb : h[i]? = some B) : ∃ l, σ.l[i]? = some l := by
  have := (List.getElem?_eq_some_iff.1 hb).1
  exact ⟨σ.l[i]'(by have := S.len; omega), List.getElem?_eq_getElem _⟩

/-- A block with cells, or with room, is in the memory. -/
theorem Sim.real (S : Sim gs σ h w) {i : Nat} {B : Blk} {l : Loc} (hl : σ.l[i]? = some l) (hb : h[i]? = some B) (hd : B.md = .d → False) (hr : 0 < l.s ∨ B.cells ≠ []) : Real σ w B l := by
  obtain ⟨l', hl', _, h⟩ := S.live i B hb hd
  obtain rfl : l = l' := by rw [hl] at hl'; exact Option.some.inj hl'
  rcases h with ⟨h1, h2⟩ | h
  · rcases hr with hr | hr
    · omega
    · exact (hr h2).elim
  · exact h
theorem ne_nil_of_get {α : Type} {xs : List α} {j : Nat} {x : α} (h : xs[j]? = some x) : xs ≠ [] := by rintro rfl; simp at h
theorem Sim.read (S : Sim gs σ h w) {i j : Nat} {B : Blk} {v : Value} {l : Loc} (hl : σ.l[i]? = some l) (hb : h[i]? = some B) (hd : B.md = .d → False) (hv : B.cells[j]? = some v) :
    ∃ v', w.cell? ⟨l.b, l.o + j, none⟩ = some v' ∧ VR σ v v' := by
  obtain ⟨c, t, fr, hw, _, _, hc, _, h1⟩ := S.real hl hb hd (.inr (ne_nil_of_get hv))
  obtain ⟨v', hv', hr⟩ := hc j v hv
  exact ⟨v', by simp [World.cell?, hw, hv'], hr⟩

theorem Sim.draw (S : Sim gs σ h w) (n : Nat) : Sim gs σ h { w with drawn := n } := ⟨S.len, S.live, S.apart, S.glob, S.frz, S.frzw, S.globw⟩
theorem Inv.draw (I : Inv gs C σ h w) (n : Nat) : Inv gs C σ h { w with drawn := n } := ⟨I.sim.draw n, I.pre, I.size, I.keep, I.mine, I.zown, I.os, I.out, I.tape⟩
end
end Go.J
