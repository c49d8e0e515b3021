/- The program logic J, part 17: regions whose order is drawn. No condition. -/
import Derived.Test.YthknbhghkcdepaaGreatDoorJBits
set_option maxHeartbeats 4000000
set_option linter.unusedVariables false
set_option linter.unusedSimpArgs false
namespace Go.J

/-- The operations that stand ahead of one in every order. -/
def hardE (e : Edge) : Option Nat := match e.ground with
  | .textOnly _ | .gcOnly _ => none
  | _ => some e.on
def deps (ops : List Oper) (x : Nat) : List Nat := match ops[x]? with
  | some o => o.after.toList.filterMap hardE
  | none => []
/-- What is left of an order. -/
def VS (ops : List Oper) : List Nat → List Nat → Prop
  | D, [] => ∀ i, i < ops.length → i ∈ D
  | D, x :: s => x < ops.length ∧ x ∉ D ∧ (∀ d ∈ deps ops x, d ∈ D) ∧ VS ops (x :: D) s

/-! #### orders are such -/
def mdeps (md : Region.Mode) (ops : List Oper) (x : Nat) : List Nat := match ops[x]? with
  | some o => o.after.toList.filterMap fun e => if Region.binds md e then some e.on else none
  | none => []
def acycG (md : Region.Mode) (ops : List Oper) : List Nat → List Nat → Bool
  | _, [] => true
  | seen, i :: r => Nat.blt i ops.length && (mdeps md ops i).all (fun d => seen.contains d) && acycG md ops (i :: seen) r
def acyc (md : Region.Mode) (ops : List Oper) (ord : List Nat) : Bool := acycG md ops [] ord && (List.range ops.length).all (fun i => ord.contains i)

theorem filter_lt {p q : Nat → Bool} : ∀ (l : List Nat), (∀ x ∈ l, q x = true → p x = true) → (∃ i ∈ l, p i = true ∧ q i = false) → (l.filter q).length < (l.filter p).length
  | [], _, h => by obtain ⟨i, hi, _⟩ := h; cases hi
  | x :: l, hs, h => by
    have hle : (l.filter q).length ≤ (l.filter p).length := by
      have : ∀ (l : List Nat), (∀ x ∈ l, q x = true → p x = true) → (l.filter q).length ≤ (l.filter p).length := by
        intro l
        induction l with
        | nil => intro _; simp
        | cons y l ih =>
          intro hs
          have := ih (fun z hz => hs z (List.mem_cons_of_mem _ hz))
          have hy := hs y (List.mem_cons_self ..)
          simp only [List.filter_cons]
          cases hq : q y with
          | true => simp [hy hq]; exact this
          | false =>
            cases hp : p y with
            | true => simp; omega
            | false => simpa using this
      exact this l (fun z hz => hs z (List.mem_cons_of_mem _ hz))
    obtain ⟨i, hi, h1, h2⟩ := h
    simp only [List.filter_cons]
    rcases List.mem_cons.1 hi with rfl | hi
    · simp [h1, h2]; omega
    · have ih := filter_lt l (fun z hz => hs z (List.mem_cons_of_mem _ hz)) ⟨i, hi, h1, h2⟩
      have hx := hs x (List.mem_cons_self ..)
      cases hq : q x with
      | true => simp [hx hq]; exact ih
      | false =>
        cases hp : p x with
        | true => simp; omega
        | false => simpa using ih

theorem acycG_first {md : Region.Mode} {ops : List Oper} (P : Nat → Prop) [DecidablePred P] : ∀ (ord seen : List Nat), acycG md ops seen ord = true → (∀ i ∈ seen, P i) → (∃ i ∈ ord, ¬ P i) → ∃ i ∈ ord, ¬ P i ∧ i < ops.length ∧ ∀ d ∈ mdeps md ops i, P d
  | [], _, _, _, h => by obtain ⟨i, hi, _⟩ := h; cases hi
  | x :: r, seen, h, hs, he => by
    simp only [acycG, Bool.and_eq_true] at h
    by_cases hx : P x
    · obtain ⟨i, hi, hn, h2⟩ := acycG_first P r (x :: seen) h.2 (fun i hi => by rcases List.mem_cons.1 hi with rfl | hi; exact hx; exact hs i hi) (by
        obtain ⟨i, hi, hn⟩ := he
        rcases List.mem_cons.1 hi with rfl | hi
        · exact (hn hx).elim
        · exact ⟨i, hi, hn⟩)
      exact ⟨i, List.mem_cons_of_mem _ hi, hn, h2⟩
    · refine ⟨x, List.mem_cons_self .., hx, Nat.lt_of_succ_le (by simpa [Nat.blt] using h.1.1), fun d hd => hs d ?_⟩
      have := List.all_eq_true.1 h.1.2 d hd
      simpa using this

theorem mdeps_hard {md : Region.Mode} {ops : List Oper} {x d : Nat} (h : d ∈ deps ops x) : d ∈ mdeps md ops x := by
  unfold deps at h
  unfold mdeps
  cases ho : ops[x]? with
  | none => rw [ho] at h; cases h
  | some o =>
    rw [ho] at h
    simp only [List.mem_filterMap] at h ⊢
    obtain ⟨e, he, hd⟩ := h
    refine ⟨e, he, ?_⟩
    unfold hardE at hd
    unfold Region.binds
    cases hg : e.ground <;> simp_all

theorem go_VS {ops : Array Oper} {md : Region.Mode} {ord : List Nat} (hac : acyc md ops.toList ord = true) : ∀ (fuel t : Nat) (listed : Array Bool) (acc D : List Nat), listed.size = ops.size → (∀ i, i < ops.size → (listed.getD i true = true ↔ i ∈ D)) →
    ((List.range ops.size).filter fun i => !listed.getD i true).length ≤ fuel → ∃ s, Region.linearise.go md ops fuel t listed acc = acc.reverse ++ s ∧ VS ops.toList D s := by
  have hall : ∀ i, i < ops.size → i ∈ ord := by
    intro i hi
    simp only [acyc, Bool.and_eq_true] at hac
    have := List.all_eq_true.1 hac.2 i (by simpa using hi)
    simpa using this
  have hg : acycG md ops.toList [] ord = true := by
    simp only [acyc, Bool.and_eq_true] at hac; exact hac.1
  intro fuel
  induction fuel with
  | zero =>
    intro t listed acc D hs hD hf
    refine ⟨[], by simp [Region.linearise.go], fun i hi => ?_⟩
    have hi : i < ops.size := by simpa using hi
    have h0 : ((List.range ops.size).filter fun i => !listed.getD i true) = [] := List.eq_nil_of_length_eq_zero (by omega)
    have := List.filter_eq_nil_iff.1 h0 i (by simpa using hi)
    exact (hD i hi).1 (by simpa using this)
  | succ fuel ih =>
    intro t listed acc D hs hD hf
    simp only [Region.linearise.go]
    generalize hrs : ((List.range ops.size).filter fun i => !listed.getD i true && ((ops[i]?).map (fun o => o.after.all fun e => !Region.binds md e || listed.getD e.on false)).getD false) = rs
    cases hr : rs[t % rs.length]? with
    | none =>
      have hnil : rs = [] := by
        rcases Nat.eq_zero_or_pos rs.length with e | e
        · exact List.eq_nil_of_length_eq_zero e
        · have := List.getElem?_eq_none_iff.1 hr
          have := Nat.mod_lt t e
          omega
      refine ⟨[], by simp, fun i hi => ?_⟩
      have hi : i < ops.size := by simpa using hi
      rcases Classical.em (i ∈ D) with h | h
      · exact h
      · exfalso
        have : DecidablePred (fun i => i ∈ D) := fun i => Classical.propDecidable _
        obtain ⟨j, hj, hn, hlt, hdep⟩ := acycG_first (fun i => i ∈ D) ord [] hg (fun i hi => by cases hi) ⟨i, hall i hi, h⟩
        have hlt : j < ops.size := by simpa using hlt
        have : j ∈ rs := by
          rw [← hrs, List.mem_filter]
          refine ⟨by simpa using hlt, ?_⟩
          simp only [Bool.and_eq_true, Bool.not_eq_true']
          refine ⟨by
            cases hq : listed.getD j true with
            | false => rfl
            | true => exact (hn ((hD j hlt).1 hq)).elim, ?_⟩
          have hoj : ops[j]? = some (ops[j]) := by simp [hlt]
          rw [hoj]
          simp only [Option.map_some, Option.getD_some, Array.all_eq_true_iff_forall_mem]
          intro e he
          cases hb : Region.binds md e with
          | false => simp
          | true =>
            have hm : e.on ∈ mdeps md ops.toList j := by
              unfold mdeps
              have : ops.toList[j]? = some ops[j] := by simp [hlt]
              rw [this]
              simp only [List.mem_filterMap]
              exact ⟨e, by simpa using he, by simp [hb]⟩
            have hin := hdep e.on hm
            have : e.on < ops.size := by
              rcases Nat.lt_or_ge e.on ops.size with h | h
              · exact h
              · exfalso
                -- what is ahead is in the list
                have aux : ∀ (ord seen : List Nat), acycG md ops.toList seen ord = true → (∀ i ∈ seen, i < ops.size) → ∀ i ∈ ord, ∀ d ∈ mdeps md ops.toList i, d < ops.size := by
                  intro ord
                  induction ord with
                  | nil => intro _ _ _ i hi; cases hi
                  | cons x r ihr =>
                    intro seen hgo hse i hi d hd
                    simp only [acycG, Bool.and_eq_true] at hgo
                    rcases List.mem_cons.1 hi with rfl | hi
                    · have := List.all_eq_true.1 hgo.1.2 d hd
                      exact hse d (by simpa using this)
                    · exact ihr (x :: seen) hgo.2 (fun k hk => by
                        rcases List.mem_cons.1 hk with rfl | hk
                        · have := hgo.1.1
                          exact Nat.lt_of_succ_le (by simpa [Nat.blt] using this)
                        · exact hse k hk) i hi d hd
                have := aux ord [] hg (fun i hi => by cases hi) j hj e.on hm
                omega
            have h1 := (hD e.on this).2 hin
            have : listed.getD e.on false = true := by
              rw [Array.getD_eq_getD_getElem?] at h1 ⊢
              have : listed[e.on]? = some (listed[e.on]) := by simp [hs, this]
              rw [this] at h1 ⊢
              simpa using h1
            simp [this]
        rw [hnil] at this; cases this
    | some i =>
      have hi : i ∈ rs := List.mem_of_getElem? hr
      rw [← hrs, List.mem_filter] at hi
      obtain ⟨hlt, hready⟩ := hi
      have hlt : i < ops.size := by simpa using hlt
      simp only [Bool.and_eq_true, Bool.not_eq_true'] at hready
      obtain ⟨hnl, hdep⟩ := hready
      have hnD : i ∉ D := fun h => by rw [(hD i hlt).2 h] at hnl; cases hnl
      have hget : ∀ j, j < ops.size → ((listed.setIfInBounds i true).getD j true = true ↔ j ∈ i :: D) := by
        intro j hj
        rw [Array.getD_eq_getD_getElem?]
        by_cases e : i = j
        · subst e
          rw [Array.getElem?_setIfInBounds_self_of_lt (by omega)]; simp
        · rw [Array.getElem?_setIfInBounds_ne e, ← Array.getD_eq_getD_getElem?, hD j hj]
          exact ⟨fun h => List.mem_cons_of_mem _ h, fun h => (List.mem_cons.1 h).elim (fun h => (e h.symm).elim) id⟩
      obtain ⟨s, h1, h2⟩ := ih (t / rs.length) (listed.setIfInBounds i true) (i :: acc) (i :: D) (by simpa using hs) hget (by
        have := filter_lt (p := fun i => !listed.getD i true) (q := fun j => !(listed.setIfInBounds i true).getD j true) (List.range ops.size) (fun j hj hq => by
          have hj : j < ops.size := by simpa using hj
          have hq : (listed.setIfInBounds i true).getD j true = false := by simpa using hq
          have : ¬ j ∈ i :: D := fun h => by rw [(hget j hj).2 h] at hq; cases hq
          cases hx : listed.getD j true with
          | false => rfl
          | true => exact (this (List.mem_cons_of_mem _ ((hD j hj).1 hx))).elim) ⟨i, by simpa using hlt, by simp [hnl], by simp [(hget i hlt).2 (List.mem_cons_self ..)]⟩
        omega)
      refine ⟨i :: s, by simp [h1], by simpa using hlt, hnD, fun d hd => ?_, h2⟩
      have hm := mdeps_hard (md := md) hd
      unfold mdeps at hm
      have ho : ops.toList[i]? = some ops[i] := by simp [hlt]
      rw [ho] at hm
      simp only [List.mem_filterMap] at hm
      obtain ⟨e, he, hb⟩ := hm
      split at hb
      · rename_i hbe
        obtain rfl := Option.some.inj hb
        have hoj : ops[i]? = some (ops[i]) := by simp [hlt]
        rw [hoj] at hdep
        simp only [Option.map_some, Option.getD_some, Array.all_eq_true_iff_forall_mem] at hdep
        have := hdep e (by simpa using he)
        rw [hbe] at this
        simp only [Bool.not_true, Bool.false_or] at this
        have hlt2 : e.on < ops.size := by
          rcases Nat.lt_or_ge e.on ops.size with h | h
          · exact h
          · rw [Array.getD_eq_getD_getElem?] at this
            have : listed[e.on]? = none := by simp; omega
            simp_all
        refine (hD e.on hlt2).1 ?_
        rw [Array.getD_eq_getD_getElem?] at this ⊢
        have h3 : listed[e.on]? = some (listed[e.on]) := by simp [hs, hlt2]
        rw [h3] at this ⊢
        simpa using this
      · cases hb

theorem linearise_VS {ops : Array Oper} {md : Region.Mode} {ord : List Nat} (hac : acyc md ops.toList ord = true) (t : Nat) : VS ops.toList [] (Region.linearise md ops t) := by
  obtain ⟨s, h1, h2⟩ := go_VS hac ops.size t (Array.replicate ops.size false) [] [] (by simp) (fun i hi => by simp [Array.getD_eq_getD_getElem?, hi]) (by
    refine Nat.le_trans (List.length_filter_le ..) (by simp))
  unfold Region.linearise
  rw [h1]; simpa using h2
theorem schedule_VS {ops : Array Oper} (ot og oa : List Nat) (ht : acyc .text ops.toList ot = true) (hg : acyc .gc ops.toList og = true) (ha : acyc .any ops.toList oa = true) (mx : Bool) (t : Nat) : VS ops.toList [] (Region.schedule mx ops t) := by
  unfold Region.schedule
  split
  · exact linearise_VS ha t
  · split
    · exact linearise_VS ht _
    · exact linearise_VS hg _

/-! #### what an order comes to -/
/-- More is told. -/
def Sup (f F : AFr) : Prop := ∀ (t : Nat) (v : Value), lk f t = some v → lk F t = some v
theorem Sup.refl (f : AFr) : Sup f f := fun _ _ h => h
theorem Sup.trans {f g k : AFr} (a : Sup f g) (b : Sup g k) : Sup f k := fun t v h => b t v (a t v h)
theorem Sup.ev {f F : AFr} (h : Sup f F) {x : Operand} {v : Value} (hx : ev f x = some v) : ev F x = some v := by
  cases x with
  | tmp t => exact h t v hx
  | const u => exact hx
  | func g => exact hx
  | global g => exact hx
theorem Sup.evs {f F : AFr} (h : Sup f F) : ∀ {xs : List Operand} {vs : List Value}, xs.map (Go.J.ev f) = vs.map some → xs.map (Go.J.ev F) = vs.map some
  | [], [], _ => rfl
  | [], _ :: _, e => by simp at e
  | _ :: _, [], e => by simp at e
  | x :: xs, v :: vs, e => by
    simp only [List.map_cons, List.cons.injEq] at e ⊢
    exact ⟨h.ev e.1, h.evs e.2⟩
theorem Sup.parts {f F : AFr} (h : Sup f F) : ∀ {ps : List (Nat × Operand)} {l : List (Nat × Value)}, partsA f ps = some l → partsA F ps = some l
  | [], l, e => e
  | (i, x) :: r, l, e => by
    simp only [partsA] at e ⊢
    split at e
    · rename_i v l' hv hl'
      rw [h.ev hv, h.parts hl']; exact e
    · cases e
theorem Sup.wk {gs : List (Nat × Obj)} {m N : Nat} {f F : AFr} {h : List Blk} (s : Sup f F) : Wk gs m N F h f h := fun C σ w a _ I R => ⟨σ, I, R.size, R.defers, fun t v ht => R.val t v (s t v ht)⟩
/-- An operation gives a value wherever it stands, and leaves the heap. -/
def OkS (P : Program) (gs : List (Nat × Obj)) (m N : Nat) (o : Oper) (v : Value) (f : AFr) (h : List Blk) : Prop :=
  ∀ F, Sup f F → ∀ (K : AFr → List Blk → Prop) (Kp : Value → AFr → List Blk → Prop), K (pt F o.dst v) h → OpJ P gs m N o K Kp F h
theorem OkS.sup {P : Program} {gs : List (Nat × Obj)} {m N : Nat} {o : Oper} {v : Value} {f g : AFr} {h : List Blk} (k : OkS P gs m N o v f h) (s : Sup f g) : OkS P gs m N o v g h := fun F hF => k F (s.trans hF)

/-- The slots that are not surely written yet. -/
def hide (ops : List Oper) (dep : List Nat) : List (Nat × Value) → List Nat
  | [] => []
  | (i, _) :: r => if dep.contains i then hide ops dep r else match (ops[i]?).bind (·.dst) with
    | some d => d :: hide ops dep r
    | none => hide ops dep r
def fewer (hid : List Nat) : AFr → AFr
  | [] => []
  | (t, v) :: r => if hid.contains t then fewer hid r else (t, v) :: fewer hid r
def drop1 (dep : List Nat) : List (Nat × Value) → List (Nat × Value)
  | [] => []
  | (i, v) :: r => if dep.contains i then drop1 dep r else (i, v) :: drop1 dep r
def blocked (ops : List Oper) (rem : List Nat) (y : Nat) : Bool := (deps ops y).any fun d => rem.contains d
def fresh (f : AFr) : Option Nat → Bool
  | some d => (lk f d).isNone
  | none => true
/-- What stands under a guard is done, or left. -/
def gdo (ops : List Oper) (o : Oper) (f : AFr) : Prop := match o.guard with
  | none => True
  | some (j, b) => ∃ t, (ops[j]?).bind (·.dst) = some t ∧ lk f t = some (.bool b)
def gskip (ops : List Oper) (o : Oper) (f : AFr) : Prop := match o.guard with
  | none => False
  | some (j, b) => ∃ t, (ops[j]?).bind (·.dst) = some t ∧ (lk f t = some (.bool (!b)) ∨ lk f t = some UN)
theorem gdo.sup {ops : List Oper} {o : Oper} {f g : AFr} (h : gdo ops o f) (s : Sup f g) : gdo ops o g := by
  unfold gdo at *
  split
  · trivial
  · rename_i hg
    rw [hg] at h
    obtain ⟨t, h1, h2⟩ := h
    exact ⟨t, h1, s _ _ h2⟩
theorem gskip.sup {ops : List Oper} {o : Oper} {f g : AFr} (h : gskip ops o f) (s : Sup f g) : gskip ops o g := by
  unfold gskip at *
  split at h
  · exact h.elim
  · rename_i hg
    obtain ⟨t, h1, h2⟩ := h
    exact ⟨t, h1, h2.imp (s _ _) (s _ _)⟩
def OkV (P : Program) (gs : List (Nat × Obj)) (m N : Nat) (ops : List Oper) (o : Oper) (v : Value) (f : AFr) (h : List Blk) : Prop := (gdo ops o f ∧ OkS P gs m N o v f h) ∨ (gskip ops o f ∧ v = UN)
theorem OkV.sup {P : Program} {gs : List (Nat × Obj)} {m N : Nat} {ops : List Oper} {o : Oper} {v : Value} {f g : AFr} {h : List Blk} (k : OkV P gs m N ops o v f h) (s : Sup f g) : OkV P gs m N ops o v g h :=
  k.elim (fun k => .inl ⟨k.1.sup s, k.2.sup s⟩) (fun k => .inr ⟨k.1.sup s, k.2⟩)
theorem OkV.plain {P : Program} {gs : List (Nat × Obj)} {m N : Nat} {ops : List Oper} {o : Oper} {v : Value} {f : AFr} {h : List Blk} (hg : o.guard = none) (k : OkS P gs m N o v f h) : OkV P gs m N ops o v f h :=
  .inl ⟨by unfold gdo; rw [hg]; trivial, k⟩
theorem OkV.doG {P : Program} {gs : List (Nat × Obj)} {m N : Nat} {ops : List Oper} {o : Oper} {v : Value} {f : AFr} {h : List Blk} {j t : Nat} {b x : Bool} (hg : o.guard = some (j, b)) (ht : (ops[j]?).bind (·.dst) = some t) (hx : lk f t = some (.bool x)) (e : x = b) (k : OkS P gs m N o v f h) : OkV P gs m N ops o v f h :=
  .inl ⟨by unfold gdo; rw [hg]; exact ⟨t, ht, by rw [hx, e]⟩, k⟩
theorem OkV.skipG {P : Program} {gs : List (Nat × Obj)} {m N : Nat} {ops : List Oper} {o : Oper} {f : AFr} {h : List Blk} {j t : Nat} {b x : Bool} (hg : o.guard = some (j, b)) (ht : (ops[j]?).bind (·.dst) = some t) (hx : lk f t = some (.bool x)) (e : x = !b) : OkV P gs m N ops o UN f h :=
  .inr ⟨by unfold gskip; rw [hg]; exact ⟨t, ht, .inl (by rw [hx, e])⟩, rfl⟩
theorem OkV.skipU {P : Program} {gs : List (Nat × Obj)} {m N : Nat} {ops : List Oper} {o : Oper} {f : AFr} {h : List Blk} {j t : Nat} {b : Bool} (hg : o.guard = some (j, b)) (ht : (ops[j]?).bind (·.dst) = some t) (hx : lk f t = some UN) : OkV P gs m N ops o UN f h :=
  .inr ⟨by unfold gskip; rw [hg]; exact ⟨t, ht, .inr hx⟩, rfl⟩
theorem AOps.stepDo {P : Program} {gs : List (Nat × Obj)} {m N : Nat} {Q : APost} {all os : List Oper} {o : Oper} {F : AFr} {h : List Blk} (hg : gdo all o F) (k : OpJ P gs m N o (AOps P gs m N Q all os) (fun v f h => Q (.panic v) f h) F h) : AOps P gs m N Q all (o :: os) F h := by
  unfold gdo at hg
  simp only [AOps]
  split at hg
  · rename_i hn; rw [hn]; exact k
  · rename_i j b hn
    rw [hn]
    obtain ⟨t, h1, h2⟩ := hg
    exact .inl ⟨t, b, h1, h2, fun _ => k, fun e => (e rfl).elim⟩
theorem AOps.stepV {P : Program} {gs : List (Nat × Obj)} {m N : Nat} {Q : APost} {all os : List Oper} {o : Oper} {v : Value} {F : AFr} {h : List Blk} (hv : OkV P gs m N all o v F h) (k : AOps P gs m N Q all os (pt F o.dst v) h) : AOps P gs m N Q all (o :: os) F h := by
  rcases hv with ⟨hg, hk⟩ | ⟨hg, rfl⟩
  · exact AOps.stepDo hg (hk F (Sup.refl F) _ _ k)
  · unfold gskip at hg
    simp only [AOps]
    split at hg
    · exact hg.elim
    · rename_i j b hn
      rw [hn]
      obtain ⟨t, h1, h2⟩ := hg
      rcases h2 with h2 | h2
      · exact .inl ⟨t, !b, h1, h2, fun e => by cases b <;> simp at e, fun _ => k⟩
      · exact .inr ⟨t, h1, h2, k⟩
def allOk (P : Program) (gs : List (Nat × Obj)) (m N : Nat) (ops : List Oper) (f : AFr) (h : List Blk) (pend : List (Nat × Value)) : List (Nat × Value) → Prop
  | [] => True
  | (i, v) :: r => (∃ o, ops[i]? = some o ∧ OkV P gs m N ops o v (fewer (hide ops (deps ops i) pend) f) h) ∧ allOk P gs m N ops f h pend r

/-- The walk in one order: an operation that gives a value (it may be done later, too), or one that turns the heap. -/
def DJ (P : Program) (gs : List (Nat × Obj)) (m N : Nat) (ops : List Oper) (Q : APost) : List Nat → List (Nat × Value) → AFr → List Blk → Prop
  | [], pend, f, h => ∀ F, Sup f F → Q .normal F h
  | i :: rem, pend, f, h => ∃ o, ops[i]? = some o ∧ fresh f o.dst = true ∧
    ((∃ v, OkV P gs m N ops o v (fewer (hide ops (deps ops i) pend) f) h ∧ DJ P gs m N ops Q rem ((i, v) :: pend) (pt f o.dst v) h) ∨
     (rem.all (blocked ops (i :: rem)) = true ∧ gdo ops o (fewer (hide ops (deps ops i) pend) f) ∧ ∀ F, Sup (fewer (hide ops (deps ops i) pend) f) F →
        OpJ P gs m N o (fun f' h' => ∃ v, f' = pt F o.dst v ∧ allOk P gs m N ops (pt f o.dst v) h' (drop1 (deps ops i) pend) (drop1 (deps ops i) pend) ∧ DJ P gs m N ops Q rem (drop1 (deps ops i) pend) (pt f o.dst v) h') (fun v f h => Q (.panic v) f h) F h))

/-- How far an order has come, to the walk. -/
structure At (P : Program) (gs : List (Nat × Obj)) (m N : Nat) (ops : List Oper) (D rem : List Nat) (pend : List (Nat × Value)) (f F : AFr) (h : List Blk) : Prop where
  all : ∀ i, i < ops.length → i ∈ rem ∨ i ∈ D ∨ ∃ v, (i, v) ∈ pend
  nD : ∀ i ∈ rem, i ∉ D
  nd : List.Nodup rem
  val : ∀ (t : Nat) (v : Value), lk f t = some v → lk F t = some v ∨ ∃ p ∈ pend, p.1 ∉ D ∧ (ops[p.1]?).bind (·.dst) = some t
  ok : ∀ p ∈ pend, p.1 ∉ D → ∃ o, ops[p.1]? = some o ∧ OkV P gs m N ops o p.2 (fewer (hide ops (deps ops p.1) pend) f) h
  dst : ∀ p ∈ pend, ∀ d, (ops[p.1]?).bind (·.dst) = some d → lk f d = some p.2
  nr : ∀ p ∈ pend, p.1 ∉ rem

theorem fewer_lk {hid : List Nat} : ∀ {f : AFr} {t : Nat} {v : Value}, lk (fewer hid f) t = some v → t ∉ hid ∧ lk f t = some v
  | [], t, v, h => by simp [fewer, lk] at h
  | (s, u) :: r, t, v, h => by
    simp only [fewer] at h
    split at h
    · rename_i hs
      obtain ⟨h1, h2⟩ := fewer_lk h
      refine ⟨h1, ?_⟩
      simp only [lk]
      rw [if_neg (fun e => h1 (by subst e; simpa using hs))]
      exact h2
    · rename_i hs
      simp only [lk] at h
      split at h
      · rename_i e; subst e
        exact ⟨by simpa using hs, by simpa [lk] using h⟩
      · rename_i e
        obtain ⟨h1, h2⟩ := fewer_lk h
        exact ⟨h1, by simp only [lk, if_neg e]; exact h2⟩
theorem lk_fewer {hid : List Nat} : ∀ {f : AFr} {t : Nat} {v : Value}, t ∉ hid → lk f t = some v → lk (fewer hid f) t = some v
  | [], t, v, _, h => by simp [lk] at h
  | (s, u) :: r, t, v, hn, h => by
    simp only [fewer, lk] at *
    split at h
    · rename_i e; subst e
      rw [if_neg (by simpa using hn)]
      simpa [lk] using h
    · rename_i e
      split
      · exact lk_fewer hn h
      · simp only [lk, if_neg e]; exact lk_fewer hn h
theorem mem_hide {ops : List Oper} {dep : List Nat} {t : Nat} : ∀ {pend : List (Nat × Value)}, t ∈ hide ops dep pend ↔ ∃ p ∈ pend, p.1 ∉ dep ∧ (ops[p.1]?).bind (·.dst) = some t
  | [] => by simp [hide]
  | (i, v) :: r => by
    simp only [hide]
    split
    · rename_i hc
      have hc : i ∈ dep := by simpa using hc
      rw [mem_hide (pend := r)]
      simp [hc]
    · rename_i hc
      have hc : i ∉ dep := by simpa using hc
      cases ho : (ops[i]?).bind (·.dst) with
      | none => rw [mem_hide (pend := r)]; simp [ho]
      | some d =>
        simp only [List.mem_cons, mem_hide (pend := r)]
        simp [hc, ho, eq_comm]
theorem mem_drop1 {dep : List Nat} {p : Nat × Value} : ∀ {pend : List (Nat × Value)}, p ∈ drop1 dep pend ↔ p ∈ pend ∧ p.1 ∉ dep
  | [] => by simp [drop1]
  | (i, v) :: r => by
    simp only [drop1]
    split
    · rename_i hc
      have hc : i ∈ dep := by simpa using hc
      rw [mem_drop1 (pend := r)]
      constructor
      · rintro ⟨a, b⟩; exact ⟨List.mem_cons_of_mem _ a, b⟩
      · rintro ⟨a, b⟩
        rcases List.mem_cons.1 a with rfl | a
        · exact (b hc).elim
        · exact ⟨a, b⟩
    · rename_i hc
      have hc : i ∉ dep := by simpa using hc
      simp only [List.mem_cons, mem_drop1 (pend := r)]
      constructor
      · rintro (rfl | ⟨a, b⟩)
        · exact ⟨.inl rfl, hc⟩
        · exact ⟨.inr a, b⟩
      · rintro ⟨rfl | a, b⟩
        · exact .inl rfl
        · exact .inr ⟨a, b⟩
theorem allOk_mem {P : Program} {gs : List (Nat × Obj)} {m N : Nat} {ops : List Oper} {f : AFr} {h : List Blk} {pend : List (Nat × Value)} : ∀ {l : List (Nat × Value)}, allOk P gs m N ops f h pend l → ∀ p ∈ l, ∃ o, ops[p.1]? = some o ∧ OkV P gs m N ops o p.2 (fewer (hide ops (deps ops p.1) pend) f) h
  | [], _, p, hp => by cases hp
  | (i, v) :: r, hh, p, hp => by
    rcases List.mem_cons.1 hp with rfl | hp
    · exact hh.1
    · exact allOk_mem hh.2 p hp

section
variable {P : Program} {gs : List (Nat × Obj)} {m N : Nat} {ops : List Oper} {Q : APost} {D rem : List Nat} {pend : List (Nat × Value)} {f F : AFr} {h : List Blk}
/-- What is known surely where an operation is done. -/
theorem At.sup (A : At P gs m N ops D rem pend f F h) {x : Nat} (hdep : ∀ d ∈ deps ops x, d ∈ D) : Sup (fewer (hide ops (deps ops x) pend) f) F := by
  intro t v ht
  obtain ⟨h1, h2⟩ := fewer_lk ht
  rcases A.val t v h2 with h3 | ⟨p, hp, hpD, hd⟩
  · exact h3
  · exact (h1 (mem_hide.2 ⟨p, hp, fun hc => hpD (hdep _ hc), hd⟩)).elim
theorem lk_pt_ne {f : AFr} {d : Option Nat} {v : Value} {t : Nat} (h : d ≠ some t) : lk (pt f d v) t = lk f t := by
  cases d with
  | none => rfl
  | some d => simp only [pt, lk]; rw [if_neg (fun e => h (by rw [e]))]
theorem lk_pt_eq {f : AFr} {v : Value} {t : Nat} : lk (pt f (some t) v) t = some v := by simp [pt, lk]
theorem fresh_ne {f : AFr} {d : Option Nat} {t : Nat} {v : Value} (hf : fresh f d = true) (ht : lk f t = some v) : d ≠ some t := by
  rintro rfl
  simp [fresh, ht] at hf

/-- A pending operation is done. -/
theorem At.run1 (A : At P gs m N ops D rem pend f F h) {x : Nat} {v : Value} {o : Oper} (hx : (x, v) ∈ pend) (ho : ops[x]? = some o) : At P gs m N ops (x :: D) rem pend f (pt F o.dst v) h := by
  have hdst : (ops[x]?).bind (·.dst) = o.dst := by rw [ho]; rfl
  refine ⟨fun i hi => ?_, fun i hi => ?_, A.nd, fun t u ht => ?_, fun p hp hpD => A.ok p hp (fun h => hpD (List.mem_cons_of_mem _ h)), A.dst, A.nr⟩
  · rcases A.all i hi with h | h | h
    · exact .inl h
    · exact .inr (.inl (List.mem_cons_of_mem _ h))
    · exact .inr (.inr h)
  · intro hm
    rcases List.mem_cons.1 hm with rfl | hm
    · exact A.nr _ hx hi
    · exact A.nD i hi hm
  · by_cases e : o.dst = some t
    · have := A.dst _ hx t (by rw [hdst, e])
      rw [ht] at this
      obtain rfl := Option.some.inj this
      rw [e]; exact .inl lk_pt_eq
    · rw [lk_pt_ne e]
      rcases A.val t u ht with h | ⟨p, hp, hpD, hd⟩
      · exact .inl h
      · refine .inr ⟨p, hp, fun hm => ?_, hd⟩
        rcases List.mem_cons.1 hm with e2 | hm
        · rw [e2, hdst] at hd; exact e hd
        · exact hpD hm

theorem DJ.run : ∀ (s D rem : List Nat) (pend : List (Nat × Value)) (f F : AFr) (h : List Blk), VS ops D s → DJ P gs m N ops Q rem pend f h → At P gs m N ops D rem pend f F h → AOps P gs m N Q ops (s.filterMap fun i => ops[i]?) F h := by
  intro s
  induction s with
  | nil =>
    intro D rem pend f F h hs hD A
    have lt : ∀ i o, ops[i]? = some o → i < ops.length := fun i o h => (List.getElem?_eq_some_iff.1 h).1
    cases rem with
    | nil =>
      refine hD F (fun t v ht => ?_)
      rcases A.val t v ht with h | ⟨p, hp, hpD, hd⟩
      · exact h
      · cases ho : ops[p.1]? with
        | none => rw [ho] at hd; cases hd
        | some o => exact (hpD (hs _ (lt _ _ ho))).elim
    | cons i rem =>
      obtain ⟨o, ho, _⟩ := hD
      exact (A.nD i (List.mem_cons_self ..) (hs i (lt _ _ ho))).elim
  | cons x s ih =>
    intro D rem pend f F h hs hD A
    obtain ⟨hlt, hxD, hdep, hs⟩ := hs
    have hox : ops[x]? = some (ops[x]) := List.getElem?_eq_getElem hlt
    have pending : ∀ (rem : List Nat) (pend : List (Nat × Value)) (f : AFr), DJ P gs m N ops Q rem pend f h → At P gs m N ops D rem pend f F h → (∃ v, (x, v) ∈ pend) → AOps P gs m N Q ops ((x :: s).filterMap fun i => ops[i]?) F h := by
      rintro rem pend f hD A ⟨v, hv⟩
      obtain ⟨o, ho, hok⟩ := A.ok _ hv hxD
      simp only [List.filterMap_cons, ho]
      refine AOps.stepV (hok.sup (A.sup hdep)) ?_
      exact ih _ _ _ _ _ _ hs hD (A.run1 hv ho)
    have inner : ∀ (rem : List Nat) (pend : List (Nat × Value)) (f : AFr), DJ P gs m N ops Q rem pend f h → At P gs m N ops D rem pend f F h → AOps P gs m N Q ops ((x :: s).filterMap fun i => ops[i]?) F h := by
      intro rem
      induction rem with
      | nil =>
        intro pend f hD A
        rcases A.all x hlt with e | e | e
        · cases e
        · exact (hxD e).elim
        · exact pending _ _ _ hD A e
      | cons i rem ihr =>
        intro pend f hD A
        rcases A.all x hlt with e | e | e
        · obtain ⟨o, ho, hf, hcase⟩ := hD
          have hiD := A.nD i (List.mem_cons_self ..)
          have hnd := List.nodup_cons.1 A.nd
          have hdst : (ops[i]?).bind (·.dst) = o.dst := by rw [ho]; rfl
          rcases hcase with ⟨v, hok, hD⟩ | ⟨hb, hg, hk⟩
          · refine ihr _ _ hD ?_
            have grow : ∀ (dep : List Nat), Sup (fewer (hide ops dep pend) f) (fewer (hide ops dep ((i, v) :: pend)) (pt f o.dst v)) := by
              intro dep t u ht
              obtain ⟨h1, h2⟩ := fewer_lk ht
              have hne := fresh_ne hf h2
              refine lk_fewer (fun hm => ?_) (by rw [lk_pt_ne hne]; exact h2)
              obtain ⟨p, hp, hpd, hd⟩ := mem_hide.1 hm
              rcases List.mem_cons.1 hp with rfl | hp
              · rw [hdst] at hd; exact hne hd
              · exact h1 (mem_hide.2 ⟨p, hp, hpd, hd⟩)
            refine ⟨fun j hj => ?_, fun j hj => A.nD j (List.mem_cons_of_mem _ hj), hnd.2, fun t u ht => ?_, fun p hp hpD => ?_, fun p hp d hd => ?_, fun p hp => ?_⟩
            · rcases A.all j hj with h | h | ⟨w, h⟩
              · rcases List.mem_cons.1 h with rfl | h
                · exact .inr (.inr ⟨v, List.mem_cons_self ..⟩)
                · exact .inl h
              · exact .inr (.inl h)
              · exact .inr (.inr ⟨w, List.mem_cons_of_mem _ h⟩)
            · by_cases e : o.dst = some t
              · exact .inr ⟨(i, v), List.mem_cons_self .., hiD, by rw [hdst, e]⟩
              · rw [lk_pt_ne e] at ht
                rcases A.val t u ht with h | ⟨p, hp, hpD, hd⟩
                · exact .inl h
                · exact .inr ⟨p, List.mem_cons_of_mem _ hp, hpD, hd⟩
            · rcases List.mem_cons.1 hp with rfl | hp
              · exact ⟨o, ho, hok.sup (grow _)⟩
              · obtain ⟨o', ho', hok'⟩ := A.ok p hp hpD
                exact ⟨o', ho', hok'.sup (grow _)⟩
            · rcases List.mem_cons.1 hp with rfl | hp
              · rw [hdst] at hd; rw [hd]; exact lk_pt_eq
              · have := A.dst p hp d hd
                rw [lk_pt_ne (fresh_ne hf this)]; exact this
            · rcases List.mem_cons.1 hp with rfl | hp
              · exact hnd.1
              · exact fun h => A.nr p hp (List.mem_cons_of_mem _ h)
          · have hxi : x = i := by
              rcases List.mem_cons.1 e with rfl | e
              · rfl
              · have := List.all_eq_true.1 hb x e
                simp only [blocked, List.any_eq_true] at this
                obtain ⟨d, hd, hc⟩ := this
                have hc : d ∈ i :: rem := by simpa using hc
                exact (A.nD d hc (hdep d hd)).elim
            subst hxi
            simp only [List.filterMap_cons, ho]
            refine AOps.stepDo (hg.sup (A.sup hdep)) ?_
            have hop := hk F (A.sup hdep)
            intro hd C σ w a next Qe hC I FR hnx hp
            refine hop hd C σ w a next Qe hC I FR ?_ hp
            rintro τ f' h' a' w' I' F' ⟨v, rfl, hall, hDJ⟩
            refine hnx τ _ h' a' w' I' F' (ih _ _ _ _ _ _ hs hDJ ?_)
            refine ⟨fun j hj => ?_, fun j hj hm => ?_, hnd.2, fun t u ht => ?_, fun p hp hpD => ?_, fun p hp d hd => ?_, fun p hp => ?_⟩
            · rcases A.all j hj with h | h | ⟨w, h⟩
              · rcases List.mem_cons.1 h with rfl | h
                · exact .inr (.inl (List.mem_cons_self ..))
                · exact .inl h
              · exact .inr (.inl (List.mem_cons_of_mem _ h))
              · by_cases e : j ∈ deps ops x
                · exact .inr (.inl (List.mem_cons_of_mem _ (hdep j e)))
                · exact .inr (.inr ⟨w, mem_drop1.2 ⟨h, e⟩⟩)
            · rcases List.mem_cons.1 hm with rfl | hm
              · exact hnd.1 hj
              · exact A.nD j (List.mem_cons_of_mem _ hj) hm
            · by_cases e : o.dst = some t
              · rw [e] at ht ⊢
                rw [lk_pt_eq] at ht
                obtain rfl := Option.some.inj ht
                exact .inl lk_pt_eq
              · rw [lk_pt_ne e] at ht ⊢
                rcases A.val t u ht with h | ⟨p, hp, hpD, hd⟩
                · exact .inl h
                · refine .inr ⟨p, mem_drop1.2 ⟨hp, fun hc => hpD (hdep _ hc)⟩, fun hm => ?_, hd⟩
                  rcases List.mem_cons.1 hm with e2 | hm
                  · exact A.nr p hp (by rw [e2]; exact List.mem_cons_self ..)
                  · exact hpD hm
            · exact allOk_mem hall p hp
            · have hp0 := (mem_drop1.1 hp).1
              have := A.dst p hp0 d hd
              rw [lk_pt_ne (fresh_ne hf this)]; exact this
            · have hp0 := (mem_drop1.1 hp).1
              exact fun h => A.nr p hp0 (List.mem_cons_of_mem _ h)
        · exact (hxD e).elim
        · exact pending _ _ _ hD A e
    exact inner rem pend f hD A

theorem VS.lt : ∀ (s D : List Nat), VS ops D s → ∀ i ∈ s, i < ops.length
  | [], _, _, i, hi => by cases hi
  | x :: s, D, hs, i, hi => by
    rcases List.mem_cons.1 hi with rfl | hi
    · exact hs.1
    · exact VS.lt s _ hs.2.2.2 i hi
theorem filterMap_some : ∀ (s : List Nat), (∀ i ∈ s, i < ops.length) → s.map (fun i => ops[i]?) = (s.filterMap fun i => ops[i]?).map some
  | [], _ => rfl
  | x :: s, h => by
    have hx := h x (List.mem_cons_self ..)
    have : ops[x]? = some ops[x] := List.getElem?_eq_getElem hx
    simp only [List.map_cons, List.filterMap_cons, this]
    rw [filterMap_some s (fun i hi => h i (List.mem_cons_of_mem _ hi))]

/-- A region whose order is drawn, walked in one order. -/
theorem AWP.drawn {id : Nat} {ops : Array Oper} (ot og oa co : List Nat) (hN : dstsOk N ops = true) (ht : acyc .text ops.toList ot = true) (hg : acyc .gc ops.toList og = true) (ha : acyc .any ops.toList oa = true)
    (hco : (List.range ops.size).all (fun i => co.contains i) = true) (hcd : List.Nodup co) (k : DJ P gs m N ops.toList Q co [] f h) : AWP P gs m N (.region id ops true) Q f h := by
  refine AWP.region_any hN (fun t => ?_)
  have hv := schedule_VS ot og oa ht hg ha (P.follows .mixedOrders) t
  refine ⟨(Region.schedule (P.follows .mixedOrders) ops t).filterMap fun i => ops.toList[i]?, ?_, ?_⟩
  · have := filterMap_some (ops := ops.toList) _ (VS.lt _ _ hv)
    rw [← this]; simp
  · refine DJ.run _ [] co [] f f h hv k ⟨fun i hi => .inl ?_, (fun i _ h => nomatch h), hcd, fun t v h => .inl h, (fun p hp => nomatch hp), (fun p hp => nomatch hp), (fun p hp => nomatch hp)⟩
    have hi : i < ops.size := by simpa using hi
    have := List.all_eq_true.1 hco i (by simpa using hi)
    simpa using this
theorem DJ.done {f : AFr} {h : List Blk} (q : ∀ F, Sup f F → Q .normal F h) : DJ P gs m N ops Q [] pend f h := q
theorem DJ.val {i : Nat} {o : Oper} (v : Value) (ho : ops[i]? = some o) (hf : fresh f o.dst = true) (ok : OkV P gs m N ops o v (fewer (hide ops (deps ops i) pend) f) h) (k : DJ P gs m N ops Q rem ((i, v) :: pend) (pt f o.dst v) h) : DJ P gs m N ops Q (i :: rem) pend f h :=
  ⟨o, ho, hf, .inl ⟨v, ok, k⟩⟩
theorem DJ.eff {i : Nat} {o : Oper} (ho : ops[i]? = some o) (hf : fresh f o.dst = true) (hb : rem.all (blocked ops (i :: rem)) = true) (hg : gdo ops o (fewer (hide ops (deps ops i) pend) f))
    (k : ∀ F, Sup (fewer (hide ops (deps ops i) pend) f) F → OpJ P gs m N o (fun f' h' => ∃ v, f' = pt F o.dst v ∧ allOk P gs m N ops (pt f o.dst v) h' (drop1 (deps ops i) pend) (drop1 (deps ops i) pend) ∧ DJ P gs m N ops Q rem (drop1 (deps ops i) pend) (pt f o.dst v) h') (fun v f h => Q (.panic v) f h) F h) : DJ P gs m N ops Q (i :: rem) pend f h :=
  ⟨o, ho, hf, .inr ⟨hb, hg, k⟩⟩
theorem DJ.split {t : Nat} {x : Bool} (hx : lk f t = some (.bool x)) (h1 : x = true → DJ P gs m N ops Q rem pend f h) (h2 : x = false → DJ P gs m N ops Q rem pend f h) : DJ P gs m N ops Q rem pend f h := by
  cases x with
  | true => exact h1 rfl
  | false => exact h2 rfl
/-- What follows a region, told of a frame of which less is told. -/
theorem thenA.sup {c : Code} {F : AFr} (s : Sup f F) (k : AWP P gs m N c Q f h) : thenA (fun f h => AWP P gs m N c Q f h) Q .normal F h := AWP.wk s.wk k
theorem DJ.norm (k : ∀ f2 h2, f2 = f → h2 = h → DJ P gs m N ops Q rem pend f2 h2) : DJ P gs m N ops Q rem pend f h := k _ _ rfl rfl
end
end Go.J
