/- The program logic J, part 3: judgements of code and of functions; renaming of blocks. No condition. -/
import Derived.Test.YthknbhghkcdepaaGreatDoorJMem
set_option maxHeartbeats 4000000
set_option linter.unusedVariables false
set_option linter.unusedSimpArgs false
namespace Go.J

inductive AEx where
  | normal
  | exit (id : Nat)
  | goto (l : Nat)
  | ret
  | panic (v : Value)
inductive ExR (σ : St) : AEx → Exit → Prop
  | normal : ExR σ .normal .normal
  | exit (id : Nat) : ExR σ (.exit id) (.exit id)
  | goto (l : Nat) : ExR σ (.goto l) (.goto l)
  | ret : ExR σ .ret .ret
  | panic {v v' : Value} (h : VR σ v v') : ExR σ (.panic v) (.panic [{ v := v', recovered := false }])

abbrev APost := AEx → AFr → List Blk → Prop

def Post (gs : List (Nat × Obj)) (C : Cx) (N : Nat) (Q : APost) : Exit → Act → World → Prop :=
  fun e a w => ∃ σ f h x, Inv gs C σ h w ∧ FR σ N f a ∧ ExR σ x e ∧ Q x f h

/-- Code, begun in a frame and a heap as told, ends as Q tells; m: so many blocks keep their numbers. -/
def AWP (P : Program) (gs : List (Nat × Obj)) (m N : Nat) (c : Code) (Q : APost) (f : AFr) (h : List Blk) : Prop :=
  ∀ (C : Cx) (σ : St) (w : World) (a : Act), C.σ0.l.length = m → Inv gs C σ h w → FR σ N f a → c.wp P (Post gs C N Q) a w

/-- One way of telling is weaker than another. -/
def Wk (gs : List (Nat × Obj)) (m N : Nat) (f : AFr) (h : List Blk) (f2 : AFr) (h2 : List Blk) : Prop :=
  ∀ (C : Cx) (σ : St) (w : World) (a : Act), C.σ0.l.length = m → Inv gs C σ h w → FR σ N f a → ∃ τ, Inv gs C τ h2 w ∧ FR τ N f2 a

def thenA (next : AFr → List Blk → Prop) (Q : APost) : APost
  | .normal, f, h => next f h
  | .exit i, f, h => Q (.exit i) f h
  | .goto i, f, h => Q (.goto i) f h
  | .ret, f, h => Q .ret f h
  | .panic v, f, h => Q (.panic v) f h
def inBlockA (id : Nat) (Q : APost) : APost
  | .normal, f, h => Q .normal f h
  | .exit i, f, h => if i = id then Q .normal f h else Q (.exit i) f h
  | .goto i, f, h => Q (.goto i) f h
  | .ret, f, h => Q .ret f h
  | .panic v, f, h => Q (.panic v) f h

section
variable {P : Program} {gs : List (Nat × Obj)} {m N : Nat} {Q : APost} {f f2 : AFr} {h h2 : List Blk}

theorem AWP.skip (q : Q .normal f h) : AWP P gs m N .skip Q f h := fun C σ w a hC I F => wp_skip ⟨σ, f, h, .normal, I, F, .normal, q⟩
theorem AWP.label {l : Nat} (q : Q .normal f h) : AWP P gs m N (.label l) Q f h := fun C σ w a hC I F => wp_label ⟨σ, f, h, .normal, I, F, .normal, q⟩
theorem AWP.ret (q : Q .ret f h) : AWP P gs m N .ret Q f h := fun C σ w a hC I F => wp_ret ⟨σ, f, h, .ret, I, F, .ret, q⟩
theorem AWP.exit {id : Nat} (q : Q (.exit id) f h) : AWP P gs m N (.exit id) Q f h := fun C σ w a hC I F => wp_exit ⟨σ, f, h, .exit id, I, F, .exit id, q⟩
theorem AWP.seq {x y : Code} (k : AWP P gs m N x (thenA (fun f h => AWP P gs m N y Q f h) Q) f h) : AWP P gs m N (.seq x y) Q f h := by
  intro C σ w a hC I F
  refine wp_seq (wp_mono (k C σ w a hC I F) ?_)
  rintro e a w ⟨σ, f, h, x, I, F, hx, q⟩
  cases hx with
  | normal => exact q C σ w a hC I F
  | exit id => exact ⟨σ, f, h, _, I, F, .exit id, q⟩
  | goto l => exact ⟨σ, f, h, _, I, F, .goto l, q⟩
  | ret => exact ⟨σ, f, h, _, I, F, .ret, q⟩
  | panic hv => exact ⟨σ, f, h, _, I, F, .panic hv, q⟩
theorem AWP.block {id : Nat} {c : Code} (k : AWP P gs m N c (inBlockA id Q) f h) : AWP P gs m N (.block id c) Q f h := by
  intro C σ w a hC I F
  refine wp_block (wp_mono (k C σ w a hC I F) ?_)
  rintro e a w ⟨σ, f, h, x, I, F, hx, q⟩
  cases hx with
  | normal => exact ⟨σ, f, h, _, I, F, .normal, q⟩
  | exit i =>
    simp only [inBlockA] at q
    simp only [Exit.inBlock]
    split at q
    · rw [if_pos ‹_›]; exact ⟨σ, f, h, _, I, F, .normal, q⟩
    · rw [if_neg ‹_›]; exact ⟨σ, f, h, _, I, F, .exit i, q⟩
  | goto l => exact ⟨σ, f, h, _, I, F, .goto l, q⟩
  | ret => exact ⟨σ, f, h, _, I, F, .ret, q⟩
  | panic hv => exact ⟨σ, f, h, _, I, F, .panic hv, q⟩
theorem AWP.mono {c : Code} {Q' : APost} (k : AWP P gs m N c Q f h) (hq : ∀ e f h, Q e f h → Q' e f h) : AWP P gs m N c Q' f h := by
  intro C σ w a hC I F
  refine wp_mono (k C σ w a hC I F) ?_
  rintro e a w ⟨σ, f, h, x, I, F, hx, q⟩
  exact ⟨σ, f, h, x, I, F, hx, hq _ _ _ q⟩
theorem AWP.wk {c : Code} (hw : Wk gs m N f h f2 h2) (k : AWP P gs m N c Q f2 h2) : AWP P gs m N c Q f h := by
  intro C σ w a hC I F
  obtain ⟨τ, I2, F2⟩ := hw C σ w a hC I F
  exact k C τ w a hC I2 F2
theorem Wk.refl : Wk gs m N f h f h := fun _ σ _ _ _ I F => ⟨σ, I, F⟩
theorem Wk.trans {f3 : AFr} {h3 : List Blk} (a : Wk gs m N f h f2 h2) (b : Wk gs m N f2 h2 f3 h3) : Wk gs m N f h f3 h3 := by
  intro C σ w ac hC I F
  obtain ⟨τ, I2, F2⟩ := a C σ w ac hC I F
  exact b C τ w ac hC I2 F2
/-- A loop: an invariant that bears a number, which each round lowers. -/
theorem AWP.loop {c : Code} (J : Nat → AFr → List Blk → Prop) (n0 : Nat) (h0 : J n0 f h)
    (round : ∀ n f h, J n f h → AWP P gs m N c (thenA (fun f' h' => ∃ n' f2 h2, n' < n ∧ Wk gs m N f' h' f2 h2 ∧ J n' f2 h2) Q) f h) : AWP P gs m N (.loop c) Q f h := by
  intro C σ w a hC I F
  refine wp_loop_ghost (fun n a w => ∃ σ f h, Inv gs C σ h w ∧ FR σ N f a ∧ J n f h) n0 ⟨σ, f, h, I, F, h0⟩ ?_
  rintro n a w ⟨σ, f, h, I, F, hJ⟩
  refine wp_mono (round n f h hJ C σ w a hC I F) ?_
  rintro e a w ⟨σ, f, h, x, I, F, hx, q⟩
  cases hx with
  | normal =>
    obtain ⟨n', f2, h2, hlt, hw, hJ⟩ := q
    obtain ⟨τ, I2, F2⟩ := hw C σ w a hC I F
    exact ⟨n', hlt, τ, f2, h2, I2, F2, hJ⟩
  | exit id => exact ⟨σ, f, h, _, I, F, .exit id, q⟩
  | goto l => exact ⟨σ, f, h, _, I, F, .goto l, q⟩
  | ret => exact ⟨σ, f, h, _, I, F, .ret, q⟩
  | panic hv => exact ⟨σ, f, h, _, I, F, .panic hv, q⟩
end

/-! ### Operands -/
theorem VR.scal {σ : St} {v : Value} (h : scal v = true) : VR σ v v := by
  unfold Go.J.scal at h
  split at h
  case h_1 b => exact .bool b
  case h_2 k n => exact .int k n
  case h_3 k n => exact .float k n
  case h_4 s => exact .string s
  case h_5 => exact .ptr0
  case h_6 => exact .sl0
  case h_7 => exact .map0
  case h_8 => exact .nilFunc
  case h_9 => exact .nilIface
  case h_10 fn => exact .func (by simpa using h) rfl (fun i x y hx => by simp at hx) rfl (fun i x y hx => by simp at hx)
  case h_11 => cases h
theorem VR.scal_eq {σ : St} {v v' : Value} (h : VR σ v v') (hs : Go.J.scal v = true) : v' = v := by
  cases h <;> first | rfl | (simp [Go.J.scal] at hs; done) | skip
  case func fn xs ys xs' ys' hm hl h hl2 h2 =>
    obtain ⟨l1⟩ := xs
    obtain ⟨l2⟩ := ys
    cases l1 with
    | cons _ _ => simp [Go.J.scal] at hs
    | nil =>
      cases l2 with
      | cons _ _ => simp [Go.J.scal] at hs
      | nil =>
        have a1 : xs' = #[] := by apply Array.eq_empty_of_size_eq_zero; simpa using hl.symm
        have a2 : ys' = #[] := by apply Array.eq_empty_of_size_eq_zero; simpa using hl2.symm
        rw [a1, a2]

/-- An operand's value. -/
def ev (f : AFr) : Operand → Option Value
  | .tmp t => lk f t
  | .const v => if scal v then some v else none
  | .func g => some (.func (.func g) #[] #[])
  | .global _ => none
theorem FR.ev {σ : St} {N : Nat} {f : AFr} {a : Act} (F : FR σ N f a) {x : Operand} {v : Value} (h : ev f x = some v) : VR σ v (a.eval x) := by
  cases x with
  | tmp t =>
    obtain ⟨v', hv, hr⟩ := F.val t v h
    have : a.eval (.tmp t) = v' := by simp [Act.eval, Array.getD_eq_getD_getElem?, hv]
    rw [this]; exact hr
  | const u =>
    simp only [Go.J.ev] at h
    split at h
    · rename_i hs
      obtain rfl := Option.some.inj h
      exact VR.scal hs
    · cases h
  | func g =>
    obtain rfl := Option.some.inj h
    exact .func rfl rfl (fun i x y hx => by simp at hx) rfl (fun i x y hx => by simp at hx)
  | global g => cases h
theorem FR.put {σ : St} {N : Nat} {f : AFr} {a : Act} (F : FR σ N f a) {d : Option Nat} {v v' : Value} (hv : VR σ v v') (hd : ∀ t, d = some t → t < N) : FR σ N (pt f d v) (a.put d v') := by
  cases d with
  | none => exact F
  | some t =>
    have hlt := hd t rfl
    refine ⟨by simpa [Act.put] using F.size, by simpa [Act.put] using F.defers, ?_⟩
    intro u x hx
    simp only [pt, lk] at hx
    have hsz := F.size
    split at hx
    · rename_i e; subst e
      obtain rfl := Option.some.inj hx
      exact ⟨v', by simp only [Act.put]; rw [Array.getElem?_setIfInBounds_self_of_lt (by omega)], hv⟩
    · rename_i hne
      obtain ⟨x', h1, h2⟩ := F.val u x hx
      exact ⟨x', by simp only [Act.put]; rw [Array.getElem?_setIfInBounds_ne (fun e => hne e.symm)]; exact h1, h2⟩
theorem FR.ext {σ τ : St} {N : Nat} {f : AFr} {a : Act} (F : FR σ N f a) (he : Ext σ τ) : FR τ N f a :=
  ⟨F.size, F.defers, fun t v h => let ⟨v', h1, h2⟩ := F.val t v h; ⟨v', h1, h2.ext he⟩⟩

section
variable {P : Program} {gs : List (Nat × Obj)} {m N : Nat} {Q : APost} {f f2 : AFr} {h h2 : List Blk}
theorem AWP.cond {c : Operand} {x y : Code} {t : Bool} (hc : ev f c = some (.bool t)) (ht : t = true → AWP P gs m N x Q f h) (hf : t = false → AWP P gs m N y Q f h) : AWP P gs m N (.cond c x y) Q f h := by
  intro C σ w a hC I F
  have he : a.eval c = .bool t := (F.ev hc).scal_eq rfl
  exact wp_cond_split he (fun e => ht e C σ w a hC I F) (fun e => hf e C σ w a hC I F)
end
end Go.J
