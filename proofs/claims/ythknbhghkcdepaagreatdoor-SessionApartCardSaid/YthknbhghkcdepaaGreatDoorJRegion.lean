/- The program logic J, part 4: operations in a region, in the text's order or in a drawn one. No condition. -/
import Derived.Test.YthknbhghkcdepaaGreatDoorJRules
set_option maxHeartbeats 4000000
set_option linter.unusedVariables false
set_option linter.unusedSimpArgs false
namespace Go.J

/-- One operation: it goes on as K tells, or panics as Kp tells. -/
def OpJ (P : Program) (gs : List (Nat × Obj)) (m N : Nat) (o : Oper) (K : AFr → List Blk → Prop) (Kp : Value → AFr → List Blk → Prop) (f : AFr) (h : List Blk) : Prop :=
  (∀ t, o.dst = some t → t < N) →
  ∀ (C : Cx) (σ : St) (w : World) (a : Act) (next : Act → World → Prop) (Qe : Exit → Act → World → Prop), C.σ0.l.length = m → Inv gs C σ h w → FR σ N f a →
    (∀ τ f' h' a' w', Inv gs C τ h' w' → FR τ N f' a' → K f' h' → next a' w') →
    (∀ τ f' h' a' w' v v', Inv gs C τ h' w' → FR τ N f' a' → VR τ v v' → Kp v f' h' → Qe (.panic [{ v := v', recovered := false }]) a' w') →
    o.wp P a w next Qe

/-- Operations one behind the other. -/
def AOps (P : Program) (gs : List (Nat × Obj)) (m N : Nat) (Q : APost) (all : List Oper) : List Oper → AFr → List Blk → Prop
  | [], f, h => Q .normal f h
  | o :: os, f, h =>
    match o.guard with
    | none => OpJ P gs m N o (AOps P gs m N Q all os) (fun v f h => Q (.panic v) f h) f h
    | some (j, b) => (∃ t x, (all[j]?).bind (·.dst) = some t ∧ lk f t = some (.bool x) ∧
        (x = b → OpJ P gs m N o (AOps P gs m N Q all os) (fun v f h => Q (.panic v) f h) f h) ∧ (x ≠ b → AOps P gs m N Q all os (pt f o.dst UN) h)) ∨
        ∃ t, (all[j]?).bind (·.dst) = some t ∧ lk f t = some UN ∧ AOps P gs m N Q all os (pt f o.dst UN) h

def dstOk (N : Nat) (o : Oper) : Bool := match o.dst with
  | some t => Nat.blt t N
  | none => true
def dstsOk (N : Nat) (ops : Array Oper) : Bool := ops.toList.all (dstOk N)

section
variable {P : Program} {gs : List (Nat × Obj)} {m N : Nat} {Q : APost} {f : AFr} {h : List Blk}

theorem dstsOk_get {ops : Array Oper} (hN : dstsOk N ops = true) {i : Nat} {o : Oper} (ho : ops[i]? = some o) (t : Nat) (ht : o.dst = some t) : t < N := by
  have := List.all_eq_true.1 hN o (Array.mem_toList_iff.2 (Array.mem_of_getElem? ho))
  unfold dstOk at this
  rw [ht] at this
  exact Nat.lt_of_succ_le (by simpa [Nat.blt] using this)

theorem AOps.wpOps {ops : Array Oper} (hN : dstsOk N ops = true) {C : Cx} (hC : C.σ0.l.length = m) :
    ∀ (os : List Oper) (l : List Nat), l.map (fun i => ops[i]?) = os.map some → ∀ (f : AFr) (h : List Blk) (σ : St) (a : Act) (w : World), AOps P gs m N Q ops.toList os f h → Inv gs C σ h w → FR σ N f a →
      Go.wpOps P ops (Post gs C N Q) l a w := by
  intro os
  induction os with
  | nil =>
    intro l hl f h σ a w k I F
    cases l with
    | cons i l => simp at hl
    | nil => exact ⟨σ, f, h, .normal, I, F, .normal, k⟩
  | cons o os ih =>
    intro l hl f h σ a w k I F
    cases l with
    | nil => simp at hl
    | cons i l =>
      simp only [List.map_cons, List.cons.injEq] at hl
      obtain ⟨ho, hl⟩ := hl
      simp only [Go.wpOps, ho]
      have hd := dstsOk_get hN ho
      have step : OpJ P gs m N o (AOps P gs m N Q ops.toList os) (fun v f h => Q (.panic v) f h) f h → o.wp P a w (Go.wpOps P ops (Post gs C N Q) l) (Post gs C N Q) := by
        intro hk
        refine hk hd C σ w a _ _ hC I F ?_ ?_
        · intro τ f' h' a' w' I' F' k'
          exact ih l hl f' h' τ a' w' k' I' F'
        · intro τ f' h' a' w' v v' I' F' hv k'
          exact ⟨τ, f', h', .panic v, I', F', .panic hv, k'⟩
      simp only [AOps] at k
      cases hg : o.guard with
      | none =>
        rw [hg] at k
        rw [if_pos (by simp [Region.wanted, hg])]
        exact .inl (step k)
      | some g =>
        obtain ⟨j, b⟩ := g
        rw [hg] at k
        rcases k with ⟨t, x, ht, hx, k1, k2⟩ | ⟨t, ht, hx, k2⟩
        rotate_left
        · obtain ⟨v', hv, hr⟩ := F.val t _ hx
          have hv0 : v' = .tuple #[] := by cases hr; rfl
          subst hv0
          have hj : ((ops[j]?).bind (·.dst)) = some t := by simpa using ht
          have hy : yielded ops a.tmps j = none := by simp [yielded, hj, hv]
          rw [if_neg (by simp [Region.wanted, hg, hy])]
          exact ih l hl _ _ σ _ w k2 I (F.put .un hd)
        obtain ⟨v', hv, hr⟩ := F.val t _ hx
        obtain rfl := hr.scal_eq rfl
        have hj : ((ops[j]?).bind (·.dst)) = some t := by simpa using ht
        have hy : yielded ops a.tmps j = some x := by simp [yielded, hj, hv]
        by_cases e : x = b
        · rw [if_pos (by simp [Region.wanted, hg, hy, e])]
          exact .inl (step (k1 e))
        · rw [if_neg (by simp [Region.wanted, hg, hy, e])]
          exact ih l hl _ _ σ _ w (k2 e) I (F.put .un hd)

theorem map_range_get {α : Type} (xs : Array α) : (List.range xs.size).map (fun i => xs[i]?) = xs.toList.map some := by
  apply List.ext_getElem?
  intro i
  simp only [List.getElem?_map]
  by_cases hi : i < xs.size
  · rw [List.getElem?_range hi]; simp [hi]
  · rw [List.getElem?_eq_none (by simpa using hi), List.getElem?_eq_none (by simpa using hi)]; rfl

theorem AWP.region {id : Nat} {ops : Array Oper} (hN : dstsOk N ops = true) (k : AOps P gs m N Q ops.toList ops.toList f h) : AWP P gs m N (.region id ops false) Q f h := by
  intro C σ w a hC I F
  exact wp_region (AOps.wpOps hN hC ops.toList (List.range ops.size) (map_range_get ops) f h σ a w k I F)

/-- A drawn order: whatever order it is. -/
theorem AWP.region_any {id : Nat} {ops : Array Oper} (hN : dstsOk N ops = true)
    (k : ∀ t, ∃ os : List Oper, (Region.schedule (P.follows .mixedOrders) ops t).map (fun i => ops[i]?) = os.map some ∧ AOps P gs m N Q ops.toList os f h) : AWP P gs m N (.region id ops true) Q f h := by
  intro C σ w a hC I F
  refine wp_region_draw fun t => ?_
  obtain ⟨os, h1, h2⟩ := k t
  exact AOps.wpOps hN hC os _ h1 f h σ a _ h2 (I.draw _) F
end
end Go.J
