/- The program logic J, part 11: what a function does (Spec), out of its body, and at a call. No condition. -/
import Derived.Test.YthknbhghkcdepaaGreatDoorJCalls
set_option maxHeartbeats 4000000
set_option linter.unusedVariables false
set_option linter.unusedSimpArgs false
namespace Go.J

inductive Out where
  | ret (v : Value)
  | panic (v : Value)

def ownB (σ : St) (h : List Blk) (b : Nat) : Prop := ∃ (i : Nat) (B : Blk) (l : Loc), h[i]? = some B ∧ B.md = .w ∧ σ.l[i]? = some l ∧ 0 < l.s ∧ l.b = b

/-- A function called: it is entered, or it answers at once. -/
def CallR (P : Program) (g : FuncId) (args : Array Value) (w : World) (R : Ending → World → Prop) : Prop :=
  match (callFunc g args).run P w with
  | .ok (.value v) w' => R (.returned v) w'
  | .ok (.enter f args') w' => Calls P f args' w' R
  | .ok (.row row args') w' => Rows P row args' w' fun v w'' => R (.returned v) w''
  | .halt (.panic v) w' => R (.panicked [{ v, recovered := false }]) w'
  | _ => False

theorem CallR.mono {P : Program} {g : FuncId} {args : Array Value} {w : World} {R R' : Ending → World → Prop} (h : CallR P g args w R) (hr : ∀ e w', R e w' → R' e w') : CallR P g args w R' := by
  unfold CallR at *
  split at h <;> first | exact hr _ _ h | exact Calls.mono h hr | exact Rows.mono h (fun v w' => hr _ _) | exact h.elim

/-- What is so when a function has ended. -/
def Ends (gs : List (Nat × Obj)) (C : Cx) (R : Out → List Blk → Prop) : Ending → World → Prop
  | .returned v', w' => ∃ τ h' v, Inv gs C τ h' w' ∧ VR τ v v' ∧ R (.ret v) h'
  | .panicked chain, w' => ∃ τ h' v v', chain = [{ v := v', recovered := false }] ∧ Inv gs C τ h' w' ∧ VR τ v v' ∧ R (.panic v) h'
  | .outgrown, _ => False

/-- Arguments that stand for arguments. -/
def VRs (σ : St) (vs vs' : List Value) : Prop := vs.length = vs'.length ∧ ∀ (i : Nat) v v', vs[i]? = some v → vs'[i]? = some v' → VR σ v v'

/-- A function, called with values, its part of the heap as told. -/
def Spec (P : Program) (gs : List (Nat × Obj)) (g : FuncId) (vs : List Value) (hl : List Blk) (R : Out → List Blk → Prop) : Prop :=
  ∀ (σ : St) (w : World) (args : Array Value), Sim gs σ hl w → VRs σ vs args.toList → CallR P g args w (Ends gs ⟨w, ownB σ hl, σ⟩ R)

theorem Spec.mono {P : Program} {gs : List (Nat × Obj)} {g : FuncId} {vs : List Value} {hl : List Blk} {R R' : Out → List Blk → Prop} (h : Spec P gs g vs hl R) (hr : ∀ o h', R o h' → R' o h') : Spec P gs g vs hl R' := by
  intro σ w args hs hv
  refine CallR.mono (h σ w args hs hv) ?_
  intro e w' he
  cases e with
  | returned v => obtain ⟨τ, h', v, a, b, c⟩ := he; exact ⟨τ, h', v, a, b, hr _ _ c⟩
  | panicked ch => obtain ⟨τ, h', v, v', a, b, c, d⟩ := he; exact ⟨τ, h', v, v', a, b, c, hr _ _ d⟩
  | outgrown => exact he

/-- The first slots. -/
def argF : Nat → List Value → AFr
  | _, [] => []
  | k, v :: vs => (k, v) :: argF (k + 1) vs
theorem lk_argF : ∀ (vs : List Value) (k t : Nat) (v : Value), lk (argF k vs) t = some v → k ≤ t ∧ vs[t - k]? = some v
  | [], k, t, v, h => by simp [argF, lk] at h
  | u :: vs, k, t, v, h => by
    simp only [argF, lk] at h
    split at h
    · rename_i e; subst e; exact ⟨Nat.le_refl _, by simpa using h⟩
    · obtain ⟨h1, h2⟩ := lk_argF vs (k + 1) t v h
      refine ⟨by omega, ?_⟩
      have : t - k = (t - (k + 1)) + 1 := by omega
      rw [this]; simpa using h2

inductive ResJ (P : Program) (f : AFr) (h : List Blk) : ResultVar → Value → Prop
  | tmp {t : Nat} {v : Value} (hv : lk f t = some v) : ResJ P f h (.tmp t) v
  | cell {a : Nat} {t : TypeId} {d : TypeDesc} {i q : Nat} {B : Blk} {v : Value} (ha : lk f a = some (.pointer (some ⟨i, q, none⟩))) (ht : P.underlying t = some d) (hd : aggD d = false) (hb : h[i]? = some B) (hm : live B = true) (hv : B.cells[q]? = some v) : ResJ P f h (.cell a t) v
  | agg {a : Nat} {t : TypeId} {d : TypeDesc} {i q sz bz : Nat} {z : Value} {B : Blk} {vs : List Value} (ha : lk f a = some (.pointer (some ⟨i, q, none⟩))) (ht : P.underlying t = some d) (hd : aggD d = true) (hi : TI P t z sz bz)
      (hb : h[i]? = some B) (hm : live B = true) (hvs : (B.cells.drop q).take sz = vs) (hn : vs.length = sz) : ResJ P f h (.cell a t) (.agg vs.toArray)
inductive ResL (P : Program) (f : AFr) (h : List Blk) : List ResultVar → List Value → Prop
  | nil : ResL P f h [] []
  | cons {r : ResultVar} {v : Value} {rs : List ResultVar} {vs : List Value} (a : ResJ P f h r v) (b : ResL P f h rs vs) : ResL P f h (r :: rs) (v :: vs)
def oneOr : List Value → Value
  | [v] => v
  | vs => .tuple vs.toArray

section
variable {P : Program} {gs : List (Nat × Obj)} {N : Nat} {f : AFr} {h : List Blk} {σ : St} {w : World} {C : Cx}

theorem ResJ.run {a : Act} {r : ResultVar} {v : Value} (hr : ResJ P f h r v) (S : Sim gs σ h w) (F : FR σ N f a) :
    ∃ v', ((match r with | .tmp t => pure (a.tmps.getD t undef) | .cell x t => do loadVar t (← asAddr (a.tmps.getD x undef)) : Sem Value)).run P w = .ok v' w ∧ VR σ v v' := by
  cases hr with
  | @tmp t v hv =>
    obtain ⟨v', h1, h2⟩ := F.val t v hv
    exact ⟨v', by simp [Array.getD_eq_getD_getElem?, h1], h2⟩
  | @cell x t d i q B v ha ht hd hb hm hv =>
    obtain ⟨p, h1, h2⟩ := F.val x _ ha
    cases h2 with
    | @ptr _ _ l hl =>
      obtain ⟨v', h3, h4⟩ := S.read hl hb (live_md hm) hv
      exact ⟨v', by simp [Array.getD_eq_getD_getElem?, h1, asAddr, loadVar, run_isAgg ht, hd, h3, Result.andThen], h4⟩
  | @agg x t d i q sz bz z B vs ha ht hd hi hb hm hvs hn =>
    obtain ⟨p, h1, h2⟩ := F.val x _ ha
    cases h2 with
    | @ptr _ _ l hl =>
      obtain ⟨vc, g1, g2, g3⟩ := S.cells hl hb (live_md hm) hvs hn
      refine ⟨.agg vc.toArray, by simp [Array.getD_eq_getD_getElem?, h1, asAddr, loadVar, run_isAgg ht, hd, hi.sizeOf, ← g1, run_loads g3, Result.andThen], .agg (by simp; omega) ?_⟩
      intro j x y ha hb
      obtain ⟨v', hv, hr⟩ := g2 j x (by simpa using ha)
      have : y = v' := by
        have hb' : vc[j]? = some y := by simpa using hb
        rw [hv] at hb'; exact (Option.some.inj hb').symm
      rw [this]; exact hr

theorem ResL.run {a : Act} : ∀ {rs : List ResultVar} {vs : List Value}, ResL P f h rs vs → Sim gs σ h w → FR σ N f a →
    ∃ vs', (rs.mapM fun | .tmp t => pure (a.tmps.getD t undef) | .cell x t => do loadVar t (← asAddr (a.tmps.getD x undef)) : Sem (List Value)).run P w = .ok vs' w ∧ VRs σ vs vs'
  | _, _, .nil, S, F => ⟨[], by simp, rfl, fun i v v' h => by simp at h⟩
  | _, _, .cons (r := r) x y, S, F => by
    obtain ⟨v', h1, h2⟩ := x.run S F
    obtain ⟨vs', h3, h4, h5⟩ := ResL.run y S F
    refine ⟨v' :: vs', ?_, by simp [h4], ?_⟩
    · rw [List.mapM_cons, Sem.run_bind, h1]
      simp only [Sem.run_bind, Result.andThen]
      erw [h3]
      rfl
    · intro i v u hv hu
      cases i with
      | zero => simp at hv hu; subst hv hu; exact h2
      | succ i => exact h5 i v u (by simpa using hv) (by simpa using hu)

theorem VRs.oneOr {vs vs' : List Value} (h : VRs σ vs vs') : VR σ (oneOr vs) (if hs : vs'.toArray.size = 1 then vs'.toArray[0] else .tuple vs'.toArray) := by
  obtain ⟨hl, hv⟩ := h
  match vs, vs', hl, hv with
  | [v], [v'], _, hv => simpa [Go.J.oneOr] using hv 0 v v' (by simp) (by simp)
  | [], [], _, hv => simpa [Go.J.oneOr] using VR.poison _
  | a :: b :: vs, a' :: b' :: vs', hl, hv =>
    simp only [Go.J.oneOr]
    rw [dif_neg (by simp)]
    exact .tuple (by simpa using hl) (fun i x y hx hy => hv i x y (by simpa using hx) (by simpa using hy))

theorem run_results {fn : Func} {a : Act} {vs : List Value} (hr : ResL P f h fn.results.toList vs) (S : Sim gs σ h w) (F : FR σ N f a) : ∃ v', (results fn a.tmps).run P w = .ok v' w ∧ VR σ (oneOr vs) v' := by
  obtain ⟨vs', h1, h2⟩ := hr.run S F
  refine ⟨_, ?_, h2.oneOr⟩
  unfold results
  have h3 : ∀ (X : Sem (List Value)), X.run P w = .ok vs' w → (List.toArray <$> X : Sem (Array Value)).run P w = .ok vs'.toArray w := by
    intro X hX
    show Sem.run P (X >>= fun x => pure x.toArray) w = _
    rw [Sem.run_bind, hX]
    rfl
  rw [Array.mapM_eq_mapM_toList, Sem.run_bind]
  erw [h3 _ h1]
  rfl

/-- What a body must come to. -/
def bodyA (P : Program) (gs : List (Nat × Obj)) (m : Nat) (rs : List ResultVar) (R : Out → List Blk → Prop) : APost
  | .normal, f, h | .ret, f, h => ∃ vs v2 h2, ResL P f h rs vs ∧ Wk gs m 1 [(0, oneOr vs)] h [(0, v2)] h2 ∧ R (.ret v2) h2
  | .panic v, f, h => ∃ v2 h2, Wk gs m 1 [(0, v)] h [(0, v2)] h2 ∧ R (.panic v2) h2
  | _, _, _ => False

theorem Inv.init (S : Sim gs σ h w) : Inv gs ⟨w, ownB σ h, σ⟩ σ h w :=
  ⟨S, Ext.refl σ, Nat.le_refl _, fun _ _ _ => rfl, fun i B l hb hm hl hs => .inl ⟨i, B, l, hb, hm, hl, hs, rfl⟩, fun p hp => .inl hp, rfl, rfl, rfl⟩
theorem FR.one {v v' : Value} (hv : VR σ v v') : FR σ 1 [(0, v)] { tmps := #[v'], defers := [] } := by
  refine ⟨rfl, rfl, fun t x hx => ?_⟩
  simp only [lk] at hx
  split at hx
  · rename_i e; subst e; obtain rfl := Option.some.inj hx; exact ⟨v', rfl, hv⟩
  · cases hx

theorem Spec.of_body {g : FuncId} {fn : Func} {c : Code} {vs : List Value} {hl : List Blk} {R : Out → List Blk → Prop} (hf : P.funcs[g]? = some fn) (hb : fn.body = some c) (hn : (fn.name == "runtime.NumGoroutine") = false)
    (hN : vs.length ≤ fn.ntmps) (k : AWP P gs hl.length fn.ntmps c (bodyA P gs hl.length fn.results.toList R) (argF 0 vs) hl) : Spec P gs g vs hl R := by
  intro σ w args S hv
  have hcall : (callFunc g args).run P w = .ok (.enter g args) w := by
    have hn' : fn.name ≠ "runtime.NumGoroutine" := by simpa using hn
    unfold callFunc
    simp [hf, hn', hb]
  unfold CallR
  rw [hcall]
  have hlen : args.size = vs.length := by have := hv.1; simp at this; omega
  refine calls_of_wp hf hb ?_
  have F : FR σ fn.ntmps (argF 0 vs) { tmps := args ++ Array.replicate (fn.ntmps - args.size) undef, defers := [] } := by
    refine ⟨by simp; omega, rfl, fun t v ht => ?_⟩
    obtain ⟨_, h2⟩ := lk_argF _ _ _ _ ht
    simp only [Nat.sub_zero] at h2
    have hlt := (List.getElem?_eq_some_iff.1 h2).1
    refine ⟨args[t]'(by omega), ?_, hv.2 t v _ h2 (by simp [show t < args.size by omega])⟩
    simp only
    rw [Array.getElem?_append_left (by omega)]
    simp [show t < args.size by omega]
  refine wp_mono (k ⟨w, ownB σ hl, σ⟩ σ w _ S.len (Inv.init S) F) ?_
  rintro e a w' ⟨τ, f, h, x, I, F, hx, q⟩
  have fin : (∃ vs v2 h2, ResL P f h fn.results.toList vs ∧ Wk gs hl.length 1 [(0, oneOr vs)] h [(0, v2)] h2 ∧ R (.ret v2) h2) → a.defers = [] ∧ ∃ v, (results fn a.tmps).run P w' = .ok v w' ∧ Ends gs ⟨w, ownB σ hl, σ⟩ R (.returned v) w' := by
    rintro ⟨us, v2, h2, a1, a2, a3⟩
    obtain ⟨v', b1, b2⟩ := run_results a1 I.sim F
    obtain ⟨τ2, I2, F2⟩ := a2 _ τ w' _ S.len I (FR.one b2)
    obtain ⟨v'', c1, c2⟩ := F2.val 0 v2 rfl
    simp at c1; subst c1
    exact ⟨F.defers, v', b1, τ2, h2, v2, I2, c2, a3⟩
  cases hx with
  | normal => exact fin q
  | ret => exact fin q
  | exit id => exact q.elim
  | goto l => exact q.elim
  | @panic v v' hv =>
    obtain ⟨v2, h2, a2, a3⟩ := q
    obtain ⟨τ2, I2, F2⟩ := a2 _ τ w' _ S.len I (FR.one hv)
    obtain ⟨v'', c1, c2⟩ := F2.val 0 v2 rfl
    simp at c1; subst c1
    exact ⟨F.defers, τ2, h2, v2, v', rfl, I2, c2, a3⟩
end
end Go.J
