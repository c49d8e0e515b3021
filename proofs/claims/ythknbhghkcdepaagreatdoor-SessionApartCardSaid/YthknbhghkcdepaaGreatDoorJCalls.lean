/- The program logic J, part 10: blocks renamed; what a function does (Spec), out of its body, and at a call. No condition. -/
import Derived.Test.YthknbhghkcdepaaGreatDoorJMore
set_option maxHeartbeats 4000000
set_option linter.unusedVariables false
set_option linter.unusedSimpArgs false
namespace Go.J

/-- A renaming of blocks: for each number the other one, and a place; none: a block without room. -/
abbrev Rn := List (Option (Nat × Nat))

/-- A value by some numbers of blocks, and the same one by others: ρ tells of each number the other one, and a place. -/
inductive RV (ρ : Rn) : Value → Value → Prop
  | same {v : Value} (h : zb v = true) : RV ρ v v
  | poison (v : Value) : RV ρ (.tuple #[]) v
  | ptr {k x i o : Nat} (h : ρ[k]? = some (some (i, o))) : RV ρ (.pointer (some ⟨k, x, none⟩)) (.pointer (some ⟨i, o + x, none⟩))
  | sl {k x i o n c : Nat} (h : ρ[k]? = some (some (i, o))) : RV ρ (.slice (some ⟨k, x, none⟩) n c) (.slice (some ⟨i, o + x, none⟩) n c)
  | slz {k x : Nat} : RV ρ (.slice (some ⟨k, x, none⟩) 0 0) (.slice none 0 0)
  | func {fn : Fn} {xs ys xs' ys' : Array Value} (hm : isMark fn = false) (hl : xs.size = xs'.size) (h : ∀ (i : Nat) x y, xs[i]? = some x → xs'[i]? = some y → RV ρ x y) (hl2 : ys.size = ys'.size) (h2 : ∀ (i : Nat) x y, ys[i]? = some x → ys'[i]? = some y → RV ρ x y) : RV ρ (.func fn xs ys) (.func fn xs' ys')
  | iface {t : TypeId} {v v' : Value} (h : RV ρ v v') : RV ρ (.iface t v) (.iface t v')
  | agg {xs ys : Array Value} (hl : xs.size = ys.size) (h : ∀ (i : Nat) x y, xs[i]? = some x → ys[i]? = some y → RV ρ x y) : RV ρ (.agg xs) (.agg ys)
  | tuple {xs ys : Array Value} (hl : xs.size = ys.size) (h : ∀ (i : Nat) x y, xs[i]? = some x → ys[i]? = some y → RV ρ x y) : RV ρ (.tuple xs) (.tuple ys)

/-- τ tells of the numbers what σ tells of the others. -/
structure LocOK (σ τ : St) (ρ : Rn) : Prop where
  loc : ∀ (k i o : Nat), ρ[k]? = some (some (i, o)) → ∃ l, σ.l[i]? = some l ∧ τ.l[k]? = some ⟨l.b, l.o + o, l.s, l.e⟩
  z : σ.z = τ.z

theorem VR.zmove {σ τ : St} (hz : σ.z = τ.z) {v v' : Value} (h : zb v = true) (hv : VR σ v v') : VR τ v v' := by
  rcases zb_cases h with h | ⟨es, n, vs, rfl⟩ | ⟨vs, rfl⟩
  · rw [hv.scal_eq h]; exact VR.scal h
  · exact .fz (by rw [← hz]; exact hv.fz_inv)
  · exact .pz (by rw [← hz]; exact hv.pz_inv)
theorem VR.down {σ τ : St} {ρ : Rn} (L : LocOK σ τ ρ) {v u : Value} (hr : RV ρ v u) : ∀ {v' : Value}, VR σ u v' → VR τ v v' := by
  induction hr with
  | same h => intro v' hv; exact hv.zmove L.z h
  | poison v => intro v' hv; exact .poison _
  | @ptr k x i o h =>
    intro v' hv
    cases hv with
    | ptr hl =>
      obtain ⟨l, h1, h2⟩ := L.loc _ _ _ h
      rw [hl] at h1; obtain rfl := Option.some.inj h1
      have := VR.ptr (o := x) h2
      simp only [Nat.add_assoc] at this
      exact this
  | @sl k x i o n c h =>
    intro v' hv
    cases hv with
    | sl hl hn hcc hc =>
      obtain ⟨l, h1, h2⟩ := L.loc _ _ _ h
      rw [hl] at h1; obtain rfl := Option.some.inj h1
      have := VR.sl (o := x) h2 hn hcc (by simp only; omega)
      simp only [Nat.add_assoc] at this
      exact this
    | slz => exact .slz
  | slz =>
    intro v' hv
    cases hv with
    | sl0 => exact .slz
  | func hm hl _ hl2 _ ih ih2 =>
    intro v' hv
    cases hv with
    | fz h => simp [isMark] at hm
    | pz h => simp [isMark] at hm
    | func _ a b c d =>
      refine .func hm (hl.trans a) (fun i x y hx hy => ?_) (hl2.trans c) (fun i x y hx hy => ?_)
      · have hi := (Array.getElem?_eq_some_iff.1 hx).1
        exact ih i x _ hx (Array.getElem?_eq_getElem (by omega)) (b i _ y (Array.getElem?_eq_getElem (by omega)) hy)
      · have hi := (Array.getElem?_eq_some_iff.1 hx).1
        exact ih2 i x _ hx (Array.getElem?_eq_getElem (by omega)) (d i _ y (Array.getElem?_eq_getElem (by omega)) hy)
  | iface _ ih =>
    intro v' hv
    cases hv with
    | iface h => exact .iface (ih h)
  | agg hl _ ih =>
    intro v' hv
    cases hv with
    | agg a b =>
      refine .agg (hl.trans a) (fun i x y hx hy => ?_)
      have hi := (Array.getElem?_eq_some_iff.1 hx).1
      exact ih i x _ hx (Array.getElem?_eq_getElem (by omega)) (b i _ y (Array.getElem?_eq_getElem (by omega)) hy)
  | @tuple xs ys hl _ ih =>
    intro v' hv
    cases hv with
    | poison v =>
      have : xs = #[] := Array.eq_empty_of_size_eq_zero (by simpa using hl)
      rw [this]; exact .poison _
    | tuple a b =>
      refine .tuple (hl.trans a) (fun i x y hx hy => ?_)
      have hi := (Array.getElem?_eq_some_iff.1 hx).1
      exact ih i x _ hx (Array.getElem?_eq_getElem (by omega)) (b i _ y (Array.getElem?_eq_getElem (by omega)) hy)

/-- A renaming back: nothing poisoned is told as something. -/
def noPoison : Value → Bool
  | .tuple ⟨[]⟩ => false
  | _ => true
inductive RU (ρ : Rn) : Value → Value → Prop
  | same {v : Value} (h : zb v = true) : RU ρ v v
  | unit : RU ρ (.tuple #[]) (.tuple #[])
  | ptr {k x i o : Nat} (h : ρ[k]? = some (some (i, o))) : RU ρ (.pointer (some ⟨k, x, none⟩)) (.pointer (some ⟨i, o + x, none⟩))
  | sl {k x i o n c : Nat} (h : ρ[k]? = some (some (i, o))) : RU ρ (.slice (some ⟨k, x, none⟩) n c) (.slice (some ⟨i, o + x, none⟩) n c)
  | func {fn : Fn} {xs ys xs' ys' : Array Value} (hm : isMark fn = false) (hl : xs.size = xs'.size) (h : ∀ (i : Nat) x y, xs[i]? = some x → xs'[i]? = some y → RU ρ x y) (hl2 : ys.size = ys'.size) (h2 : ∀ (i : Nat) x y, ys[i]? = some x → ys'[i]? = some y → RU ρ x y) : RU ρ (.func fn xs ys) (.func fn xs' ys')
  | iface {t : TypeId} {v v' : Value} (h : RU ρ v v') : RU ρ (.iface t v) (.iface t v')
  | agg {xs ys : Array Value} (hl : xs.size = ys.size) (h : ∀ (i : Nat) x y, xs[i]? = some x → ys[i]? = some y → RU ρ x y) : RU ρ (.agg xs) (.agg ys)
  | tuple {xs ys : Array Value} (hl : xs.size = ys.size) (h : ∀ (i : Nat) x y, xs[i]? = some x → ys[i]? = some y → RU ρ x y) : RU ρ (.tuple xs) (.tuple ys)
theorem VR.up {σ τ : St} {ρ : Rn} (L : LocOK σ τ ρ) {v u : Value} (hr : RU ρ v u) : ∀ {v' : Value}, VR τ v v' → VR σ u v' := by
  induction hr with
  | same h => intro v' hv; exact hv.zmove L.z.symm h
  | unit => intro v' hv; exact .poison _
  | @ptr k x i o h =>
    intro v' hv
    cases hv with
    | ptr hl =>
      obtain ⟨l, h1, h2⟩ := L.loc _ _ _ h
      rw [hl] at h2; obtain rfl := Option.some.inj h2
      have := VR.ptr (o := o + x) h1
      simp only [← Nat.add_assoc] at this
      exact this
  | @sl k x i o n c h =>
    intro v' hv
    cases hv with
    | sl hl hn hcc hc =>
      obtain ⟨l, h1, h2⟩ := L.loc _ _ _ h
      rw [hl] at h2; obtain rfl := Option.some.inj h2
      have := VR.sl (o := o + x) h1 hn hcc (by simp only at hc; rw [← Nat.add_assoc]; exact hc)
      simp only [← Nat.add_assoc] at this
      exact this
    | slz => exact .slz
  | func hm hl _ hl2 _ ih ih2 =>
    intro v' hv
    cases hv with
    | fz h => simp [isMark] at hm
    | pz h => simp [isMark] at hm
    | func _ a b c d =>
      refine .func hm (hl.symm.trans a) (fun i x y hx hy => ?_) (hl2.symm.trans c) (fun i x y hx hy => ?_)
      · have hi := (Array.getElem?_eq_some_iff.1 hx).1
        exact ih i _ x (Array.getElem?_eq_getElem (by omega)) hx (b i _ y (Array.getElem?_eq_getElem (by omega)) hy)
      · have hi := (Array.getElem?_eq_some_iff.1 hx).1
        exact ih2 i _ x (Array.getElem?_eq_getElem (by omega)) hx (d i _ y (Array.getElem?_eq_getElem (by omega)) hy)
  | iface _ ih =>
    intro v' hv
    cases hv with
    | iface h => exact .iface (ih h)
  | agg hl _ ih =>
    intro v' hv
    cases hv with
    | agg a b =>
      refine .agg (hl.symm.trans a) (fun i x y hx hy => ?_)
      have hi := (Array.getElem?_eq_some_iff.1 hx).1
      exact ih i _ x (Array.getElem?_eq_getElem (by omega)) hx (b i _ y (Array.getElem?_eq_getElem (by omega)) hy)
  | @tuple xs ys hl _ ih =>
    intro v' hv
    cases hv with
    | poison v =>
      have : ys = #[] := Array.eq_empty_of_size_eq_zero (by simpa using hl.symm)
      rw [this]; exact .poison _
    | tuple a b =>
      refine .tuple (hl.symm.trans a) (fun i x y hx hy => ?_)
      have hi := (Array.getElem?_eq_some_iff.1 hx).1
      exact ih i _ x (Array.getElem?_eq_getElem (by omega)) hx (b i _ y (Array.getElem?_eq_getElem (by omega)) hy)

/-- Cells by some numbers stand at the head of cells by others. -/
def CR (ρ : Rn) (xs ys : List Value) : Prop := xs.length ≤ ys.length ∧ ∀ (j : Nat) (v : Value), xs[j]? = some v → ∃ u, ys[j]? = some u ∧ RV ρ v u
theorem CR.nil {ρ : Rn} {ys : List Value} : CR ρ [] ys := ⟨by simp, fun j v h => by simp at h⟩
theorem CR.cons {ρ : Rn} {x y : Value} {xs ys : List Value} (h : RV ρ x y) (t : CR ρ xs ys) : CR ρ (x :: xs) (y :: ys) := by
  refine ⟨by simpa using t.1, fun j v hj => ?_⟩
  cases j with
  | zero => simp at hj; subst hj; exact ⟨y, by simp, h⟩
  | succ j => simpa using t.2 j v (by simpa using hj)
theorem CR.same {ρ : Rn} {xs ys : List Value} (h : xs.all zb = true) : CR ρ xs (xs ++ ys) := by
  refine ⟨by simp, fun j v hj => ⟨v, ?_, .same (List.all_eq_true.1 h v (List.mem_of_getElem? hj))⟩⟩
  rw [List.getElem?_append_left (List.getElem?_eq_some_iff.1 hj).1]; exact hj
theorem CR.same' {ρ : Rn} {xs : List Value} (h : xs.all zb = true) : CR ρ xs xs := by simpa using CR.same (ρ := ρ) (ys := []) h

/-- A block by some numbers lies in one by others, from a place on. -/
def BE (ρ : Rn) (D B : Blk) (o : Nat) : Prop :=
  D.md = .d ∨ (live B = true ∧ D.es = B.es ∧ o ≤ B.cells.length ∧ CR ρ D.cells (B.cells.drop o) ∧ (D.md = .w → B.md = .w) ∧ D.cells.all one0 = true)
/-- A heap by some numbers lies in one by others. -/
structure Emb (ρ : Rn) (hl h : List Blk) : Prop where
  len : ρ.length = hl.length
  blk : ∀ (k i o : Nat) (D : Blk), ρ[k]? = some (some (i, o)) → hl[k]? = some D → ∃ B, h[i]? = some B ∧ BE ρ D B o
  one : ∀ (k k' i o o' : Nat) (D D' : Blk), k ≠ k' → ρ[k]? = some (some (i, o)) → ρ[k']? = some (some (i, o')) → hl[k]? = some D → hl[k']? = some D' → D.md = .w → D'.md = .d
  gho : ∀ (k : Nat) (D : Blk), ρ[k]? = some none → hl[k]? = some D → D.cells = []

section
variable {P : Program} {gs : List (Nat × Obj)} {m N : Nat} {f f2 : AFr} {h h2 hl : List Blk} {C : Cx} {σ : St} {w : World} {ρ : Rn}

/-- Where the blocks of the smaller heap lie. -/
def sub1 (σ : St) (e : Nat) : Option (Nat × Nat) → Loc
  | some p => match σ.l[p.1]? with
    | some l => ⟨l.b, l.o + p.2, l.s, l.e⟩
    | none => ⟨0, 0, 0, e⟩
  | none => ⟨0, 0, 0, e⟩
def subL (σ : St) : Rn → List Blk → List Loc
  | p :: ρ, D :: hl => sub1 σ D.es p :: subL σ ρ hl
  | _, _ => []
def sub (σ : St) (ρ : Rn) (hl : List Blk) : St := ⟨subL σ ρ hl, σ.z⟩
theorem sub_length : ∀ (ρ : Rn) (hl : List Blk), ρ.length = hl.length → (sub σ ρ hl).l.length = hl.length
  | [], [], _ => rfl
  | p :: ρ, D :: hl, h => by
    have := sub_length ρ hl (by simpa using h)
    simp only [sub, subL, List.length_cons] at *; rw [this]
  | [], _ :: _, h => by simp at h
  | _ :: _, [], h => by simp at h
theorem sub_get : ∀ (ρ : Rn) (hl : List Blk) (k : Nat) (p : Option (Nat × Nat)) (D : Blk), ρ[k]? = some p → hl[k]? = some D → (sub σ ρ hl).l[k]? = some (sub1 σ D.es p)
  | [], _, k, p, D, h, _ => by simp at h
  | _ :: _, [], k, p, D, _, h => by simp at h
  | q :: ρ, E :: hl, 0, p, D, h, h' => by simp at h h'; subst h h'; simp [sub, subL]
  | q :: ρ, E :: hl, k + 1, p, D, h, h' => by
    have := sub_get ρ hl k p D (by simpa using h) (by simpa using h')
    simpa [sub, subL] using this
theorem Emb.loc (E : Emb ρ hl h) (S : Sim gs σ h w) : LocOK σ (sub σ ρ hl) ρ := by
  refine ⟨fun k i o hk => ?_, rfl⟩
  have hlt := (List.getElem?_eq_some_iff.1 hk).1
  have hD : hl[k]? = some (hl[k]'(by have := E.len; omega)) := List.getElem?_eq_getElem _
  obtain ⟨B, hB, _⟩ := E.blk k i o _ hk hD
  obtain ⟨l, hl'⟩ := S.loc hB
  exact ⟨l, hl', by rw [sub_get ρ hl k _ _ hk hD]; simp [sub1, hl']⟩
theorem Emb.sim (E : Emb ρ hl h) (S : Sim gs σ h w) : Sim gs (sub σ ρ hl) hl w := by
  have L := E.loc S
  have get : ∀ (k : Nat) (D : Blk), hl[k]? = some D → ρ[k]? = some none ∨ ∃ i o, ρ[k]? = some (some (i, o)) := by
    intro k D hD
    have hlt := (List.getElem?_eq_some_iff.1 hD).1
    have e1 : ρ[k]? = some (ρ[k]'(by have := E.len; omega)) := List.getElem?_eq_getElem _
    cases hx : ρ[k]'(by have := E.len; omega) with
    | none => exact .inl (by rw [e1, hx])
    | some p => exact .inr ⟨p.1, p.2, by rw [e1, hx]⟩
  have big : ∀ (k : Nat) (D : Blk) (l : Loc), hl[k]? = some D → (sub σ ρ hl).l[k]? = some l → 0 < l.s → ∃ i o, ρ[k]? = some (some (i, o)) := by
    intro k D l hD hk hs
    rcases get k D hD with e | e
    · rw [sub_get ρ hl k _ D e hD] at hk
      obtain rfl := Option.some.inj hk
      simp [sub1] at hs
    · exact e
  refine ⟨sub_length ρ hl E.len, ?_, ?_, S.glob, S.frz, ?_, ?_⟩
  · intro k D hD hd
    rcases get k D hD with e | ⟨i, o, hk⟩
    · exact ⟨_, sub_get ρ hl k _ D e hD, rfl, .inl ⟨rfl, E.gho k D e hD⟩⟩
    obtain ⟨B, hB, he⟩ := E.blk k i o D hk hD
    obtain ⟨l, h1, h2⟩ := L.loc k i o hk
    rcases he with he | ⟨b1, b2, b3, b4, b5, b6⟩
    · exact (hd he).elim
    · obtain ⟨l', c1, c4, c0⟩ := S.live i B hB (live_md b1)
      rw [h1] at c1; obtain rfl := Option.some.inj c1
      have hlen := b4.1
      rw [List.length_drop] at hlen
      refine ⟨_, h2, c4.trans b2.symm, ?_⟩
      rcases c0 with ⟨z1, z2⟩ | ⟨c, t, fr, c2, c3, c5, c6, c7, c8⟩
      · exact .inl ⟨z1, List.eq_nil_of_length_eq_zero (by rw [z2] at hlen; simp at hlen; simp [hlen])⟩
      refine .inr ⟨c, t, fr, c2, c3, by simp only; omega, ?_, fun e => c7 (b5 e), by simpa using b6⟩
      intro j v hj
      obtain ⟨u, hu, hr⟩ := b4.2 j v hj
      rw [List.getElem?_drop] at hu
      obtain ⟨v', hv', hvr⟩ := c6 _ u hu
      exact ⟨v', by rw [← hv']; congr 1; simp only; omega, VR.down L hr hvr⟩
  · intro k k' D D' l l' hne hD hD' hw hd hk hk' hls hls'
    obtain ⟨i, o, e1⟩ := big k D l hD hk hls
    obtain ⟨i', o', e2⟩ := big k' D' l' hD' hk' hls'
    obtain ⟨m1, a1, a2⟩ := L.loc k i o e1
    obtain ⟨m2, a3, a4⟩ := L.loc k' i' o' e2
    rw [hk] at a2; obtain rfl := Option.some.inj a2
    rw [hk'] at a4; obtain rfl := Option.some.inj a4
    obtain ⟨B, hB, he⟩ := E.blk k i o D e1 hD
    obtain ⟨B', hB', he'⟩ := E.blk k' i' o' D' e2 hD'
    have hii : i ≠ i' := by
      rintro rfl
      exact hd (E.one k k' i o o' D D' hne e1 e2 hD hD' hw)
    rcases he with he | ⟨_, _, _, _, b5, _⟩
    · rw [hw] at he; cases he
    · rcases he' with he' | ⟨b1', _⟩
      · exact (hd he').elim
      · exact S.apart i i' B B' m1 m2 hii hB hB' (b5 hw) (live_md b1') a1 a3 hls hls'
  · intro p hp k D l hD hw hk hls
    obtain ⟨i, o, e1⟩ := big k D l hD hk hls
    obtain ⟨m1, a1, a2⟩ := L.loc k i o e1
    rw [hk] at a2; obtain rfl := Option.some.inj a2
    obtain ⟨B, hB, he⟩ := E.blk k i o D e1 hD
    rcases he with he | ⟨_, _, _, _, b5, _⟩
    · rw [hw] at he; cases he
    · exact S.frzw p hp i B m1 hB (b5 hw) a1 hls
  · intro p hp k D l hD hw hk hls
    obtain ⟨i, o, e1⟩ := big k D l hD hk hls
    obtain ⟨m1, a1, a2⟩ := L.loc k i o e1
    rw [hk] at a2; obtain rfl := Option.some.inj a2
    obtain ⟨B, hB, he⟩ := E.blk k i o D e1 hD
    rcases he with he | ⟨_, _, _, _, b5, _⟩
    · rw [hw] at he; cases he
    · exact S.globw p hp i B m1 hB (b5 hw) a1 hls

/-- Less is told, by other numbers; the first m blocks keep theirs. -/
theorem Wk.of (E : Emb ρ h2 h) (hpre : ∀ i, i < m → ρ[i]? = some (some (i, 0))) (hf : ∀ (t : Nat) (v : Value), lk f2 t = some v → ∃ u, lk f t = some u ∧ RV ρ v u) : Wk gs m N f h f2 h2 := by
  intro C σ w a hC I F
  have L := E.loc I.sim
  refine ⟨sub σ ρ h2, ⟨E.sim I.sim, ⟨?_, I.pre.z⟩, I.size, I.keep, ?_, I.zown, I.os, I.out, I.tape⟩, ⟨F.size, F.defers, ?_⟩⟩
  · intro i l hl
    have hi := (List.getElem?_eq_some_iff.1 hl).1
    obtain ⟨l', a1, a2⟩ := L.loc i i 0 (hpre i (by omega))
    rw [I.pre.loc i l hl] at a1
    obtain rfl := Option.some.inj a1
    simpa using a2
  · intro k D l hD hw hk hls
    have hlt := (List.getElem?_eq_some_iff.1 hD).1
    have e1 : ρ[k]? = some (ρ[k]'(by have := E.len; omega)) := List.getElem?_eq_getElem _
    cases hx : ρ[k]'(by have := E.len; omega) with
    | none =>
      rw [hx] at e1
      rw [sub_get ρ h2 k _ D e1 hD] at hk
      obtain rfl := Option.some.inj hk
      simp [sub1] at hls
    | some p =>
      rw [hx] at e1
      obtain ⟨m1, a1, a2⟩ := L.loc k p.1 p.2 e1
      rw [hk] at a2; have a2 := Option.some.inj a2
      rw [a2] at hls ⊢
      obtain ⟨B, hB, he⟩ := E.blk k p.1 p.2 D e1 hD
      rcases he with he | ⟨_, _, _, _, b5, _⟩
      · rw [hw] at he; cases he
      · exact I.mine _ B m1 hB (b5 hw) a1 hls
  · intro t v ht
    obtain ⟨u, hu, hr⟩ := hf t v ht
    obtain ⟨v', b1, b2⟩ := F.val t u hu
    exact ⟨v', b1, VR.down L hr b2⟩
end
end Go.J
