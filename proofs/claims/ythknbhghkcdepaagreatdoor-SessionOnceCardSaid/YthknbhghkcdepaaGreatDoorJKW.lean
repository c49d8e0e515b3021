/- The program logic J, part 29: code as the interpreter has it, walked step by step. No condition. -/
import Derived.Test.YthknbhghkcdepaaGreatDoorJRunF
set_option maxHeartbeats 4000000
set_option linter.unusedVariables false
set_option linter.unusedSimpArgs false
namespace Go.J

/-- Code whose form is k, begun in a frame and a heap as told, ends as Q tells. -/
def KW (P : Program) (gs : List (Nat × Obj)) (m N : Nat) (hs : Hints) (k : KC) (Q : APost) (f : AFr) (h : List Blk) : Prop :=
  ∀ c, cmpC P N hs c = some k → AWP P gs m N c Q f h
/-- Operations whose forms are ks. -/
def KO1 (P : Program) (gs : List (Nat × Obj)) (m N : Nat) (ks : List KOp) (Q : APost) (f : AFr) (h : List Blk) : Prop :=
  ∀ all os, cmpOps P all os = some ks → AOps P gs m N Q all os f h

section
variable {P : Program} {gs : List (Nat × Obj)} {m N : Nat} {hs : Hints} {f F f2 : AFr} {h h' h2 : List Blk} {Q : APost} {call : CallF}

theorem cmpC_reg {id : Nat} {ops : Array Oper} {draw : Bool} {k : KC} (e : cmpC P N hs (.region id ops draw) = some k) : (∃ ks dp co, k = .drw ks dp co) ∨ ∃ ks, k = .reg ks := by
  simp only [cmpC] at e
  split at e
  · split at e
    · unfold cmpDrw at e
      split at e
      · split at e
        · exact .inl ⟨_, _, _, (Option.some.inj e).symm⟩
        · cases e
      · cases e
    · cases e
  · split at e
    · split at e
      · exact .inr ⟨_, (Option.some.inj e).symm⟩
      · cases e
    · cases e
theorem cmpC_reg_draw {id : Nat} {ops : Array Oper} {ks : List KOp} (e : cmpC P N hs (.region id ops true) = some (.reg ks)) : False := by
  simp only [cmpC] at e
  rw [if_pos trivial] at e
  split at e
  · unfold cmpDrw at e
    split at e
    · split at e <;> cases e
    · cases e
  · cases e
theorem KW.skip (q : Q .normal f h) : KW P gs m N hs .skip Q f h := by
  intro c e
  cases c with
  | skip => exact AWP.skip q
  | label l => exact AWP.label q
  | region id ops draw => rcases cmpC_reg e with ⟨_, _, _, h1⟩ | ⟨_, h1⟩ <;> cases h1
  | seq a b => simp only [cmpC] at e; split at e <;> cases e
  | cond x a b => simp only [cmpC] at e; split at e <;> cases e
  | block i a => simp only [cmpC] at e; split at e <;> cases e
  | loop a => simp only [cmpC] at e; split at e <;> cases e
  | _ => simp [cmpC] at e
theorem KW.ret (q : Q .ret f h) : KW P gs m N hs .ret Q f h := by
  intro c e
  cases c with
  | ret => exact AWP.ret q
  | region id ops draw => rcases cmpC_reg e with ⟨_, _, _, h1⟩ | ⟨_, h1⟩ <;> cases h1
  | seq a b => simp only [cmpC] at e; split at e <;> cases e
  | cond x a b => simp only [cmpC] at e; split at e <;> cases e
  | block i a => simp only [cmpC] at e; split at e <;> cases e
  | loop a => simp only [cmpC] at e; split at e <;> cases e
  | _ => simp [cmpC] at e
theorem KW.exit {i : Nat} (q : Q (.exit i) f h) : KW P gs m N hs (.exit i) Q f h := by
  intro c e
  cases c with
  | exit j => simp only [cmpC, Option.some.injEq, KC.exit.injEq] at e; subst e; exact AWP.exit q
  | region id ops draw => rcases cmpC_reg e with ⟨_, _, _, h1⟩ | ⟨_, h1⟩ <;> cases h1
  | seq a b => simp only [cmpC] at e; split at e <;> cases e
  | cond x a b => simp only [cmpC] at e; split at e <;> cases e
  | block i a => simp only [cmpC] at e; split at e <;> cases e
  | loop a => simp only [cmpC] at e; split at e <;> cases e
  | _ => simp [cmpC] at e
theorem KW.seq {a b : KC} (k : KW P gs m N hs a (thenA (fun f h => KW P gs m N hs b Q f h) Q) f h) : KW P gs m N hs (.seq a b) Q f h := by
  intro c e
  cases c with
  | seq x y =>
    simp only [cmpC] at e
    split at e
    · rename_i kx ky hx hy
      simp only [Option.some.injEq, KC.seq.injEq] at e
      obtain ⟨rfl, rfl⟩ := e
      refine AWP.seq ((k x hx).mono ?_)
      intro ex f h q
      cases ex with
      | normal => exact q y hy
      | exit i => exact q
      | goto l => exact q
      | ret => exact q
      | panic v => exact q
    · cases e
  | region id ops draw => rcases cmpC_reg e with ⟨_, _, _, h1⟩ | ⟨_, h1⟩ <;> cases h1
  | cond x a b => simp only [cmpC] at e; split at e <;> cases e
  | block i a => simp only [cmpC] at e; split at e <;> cases e
  | loop a => simp only [cmpC] at e; split at e <;> cases e
  | _ => simp [cmpC] at e
theorem KW.cond {a b : KC} {x : Operand} {t : Bool} (hx : ev f x = some (.bool t)) (ht : t = true → KW P gs m N hs a Q f h) (hf : t = false → KW P gs m N hs b Q f h) : KW P gs m N hs (.cond x a b) Q f h := by
  intro c e
  cases c with
  | cond y u v =>
    simp only [cmpC] at e
    split at e
    · rename_i ku kv hu hv
      simp only [Option.some.injEq, KC.cond.injEq] at e
      obtain ⟨rfl, rfl, rfl⟩ := e
      exact AWP.cond hx (fun ht' => ht ht' u hu) (fun hf' => hf hf' v hv)
    · cases e
  | region id ops draw => rcases cmpC_reg e with ⟨_, _, _, h1⟩ | ⟨_, h1⟩ <;> cases h1
  | seq a b => simp only [cmpC] at e; split at e <;> cases e
  | block i a => simp only [cmpC] at e; split at e <;> cases e
  | loop a => simp only [cmpC] at e; split at e <;> cases e
  | _ => simp [cmpC] at e
theorem KW.blk {a : KC} {i : Nat} (k : KW P gs m N hs a (inBlockA i Q) f h) : KW P gs m N hs (.blk i a) Q f h := by
  intro c e
  cases c with
  | block j u =>
    simp only [cmpC] at e
    split at e
    · rename_i ku hu
      simp only [Option.some.injEq, KC.blk.injEq] at e
      obtain ⟨rfl, rfl⟩ := e
      exact AWP.block (k u hu)
    · cases e
  | region id ops draw => rcases cmpC_reg e with ⟨_, _, _, h1⟩ | ⟨_, h1⟩ <;> cases h1
  | seq a b => simp only [cmpC] at e; split at e <;> cases e
  | cond x a b => simp only [cmpC] at e; split at e <;> cases e
  | loop a => simp only [cmpC] at e; split at e <;> cases e
  | _ => simp [cmpC] at e
theorem KW.loop {a : KC} (J : Nat → AFr → List Blk → Prop) (n0 : Nat) (h0 : J n0 f h)
    (round : ∀ n f h, J n f h → KW P gs m N hs a (thenA (fun f' h' => ∃ n' f2 h2, n' < n ∧ Wk gs m N f' h' f2 h2 ∧ J n' f2 h2) Q) f h) : KW P gs m N hs (.loop a) Q f h := by
  intro c e
  cases c with
  | loop u =>
    simp only [cmpC] at e
    split at e
    · rename_i ku hu
      simp only [Option.some.injEq, KC.loop.injEq] at e
      obtain rfl := e
      exact AWP.loop J n0 h0 (fun n f h j => round n f h j u hu)
    · cases e
  | region id ops draw => rcases cmpC_reg e with ⟨_, _, _, h1⟩ | ⟨_, h1⟩ <;> cases h1
  | seq a b => simp only [cmpC] at e; split at e <;> cases e
  | cond x a b => simp only [cmpC] at e; split at e <;> cases e
  | block i a => simp only [cmpC] at e; split at e <;> cases e
  | _ => simp [cmpC] at e
theorem KW.wk {k : KC} (w : Wk gs m N f h f2 h2) (q : KW P gs m N hs k Q f2 h2) : KW P gs m N hs k Q f h := fun c e => AWP.wk w (q c e)
theorem KW.supp {k : KC} (s : Sup f F) (q : KW P gs m N hs k Q f h) : KW P gs m N hs k Q F h := fun c e => AWP.supp s (q c e)
theorem KW.mono {k : KC} {Q' : APost} (q : KW P gs m N hs k Q f h) (hq : ∀ e f h, Q e f h → Q' e f h) : KW P gs m N hs k Q' f h := fun c e => (q c e).mono hq
/-- A region, operation by operation. -/
theorem KW.ops {ks : List KOp} (k : KO1 P gs m N ks Q f h) : KW P gs m N hs (.reg ks) Q f h := by
  intro c e
  cases c with
  | region id ops draw =>
    simp only [cmpC] at e
    split at e
    · rename_i hd
      subst hd
      rcases cmpC_reg (P := P) (N := N) (hs := hs) (id := id) (ops := ops) (draw := true) (by simp only [cmpC]; exact e) with ⟨_, _, _, h1⟩ | ⟨_, h1⟩
      · cases h1
      · exact (cmpC_reg_draw (P := P) (N := N) (hs := hs) (id := id) (ops := ops) (by simp only [cmpC]; exact e)).elim
    · rename_i hd
      obtain rfl : draw = false := by simpa using hd
      split at e
      · rename_i hN
        split at e
        · rename_i ks' hk
          simp only [Option.some.injEq, KC.reg.injEq] at e
          subst e
          exact AWP.region hN (k _ _ hk)
        · cases e
      · cases e
  | seq a b => simp only [cmpC] at e; split at e <;> cases e
  | cond x a b => simp only [cmpC] at e; split at e <;> cases e
  | block i a => simp only [cmpC] at e; split at e <;> cases e
  | loop a => simp only [cmpC] at e; split at e <;> cases e
  | _ => simp [cmpC] at e
/-- Code that the interpreter runs. -/
theorem KW.run (hc : CallOk P gs call) {k : KC} (n : Nat) {e : AEx} {f' : AFr} (er : runC P call n k f h = some (e, f', h')) (q : ∀ F', Sup f' F' → Q e F' h') : KW P gs m N hs k Q f h :=
  fun c ec => runC_ok hc n ec er q

theorem KO1.nil (q : Q .normal f h) : KO1 P gs m N [] Q f h := by
  intro all os e
  cases os with
  | nil => exact AOps.done q
  | cons o os => simp only [cmpOps] at e; split at e <;> cases e
theorem KO1.cons_inv {k : KOp} {ks : List KOp} {all os : List Oper} (e : cmpOps P all os = some (k :: ks)) : ∃ o os', os = o :: os' ∧ cmpOp P all o = some k ∧ cmpOps P all os' = some ks := by
  cases os with
  | nil => simp [cmpOps] at e
  | cons o os =>
    simp only [cmpOps] at e
    split at e
    · rename_i k' ks' h1 h2
      simp only [Option.some.injEq, List.cons.injEq] at e
      obtain ⟨rfl, rfl⟩ := e
      exact ⟨o, os, rfl, h1, h2⟩
    · cases e
/-- One operation that the interpreter does. -/
theorem KO1.step (hc : CallOk P gs call) {k : KOp} {ks : List KOp} {v : Value} {r : Option (List Blk)} (hg : gdK f k.g = some true) (hst : stepC P call f h k.op = some (v, r)) (q : KO1 P gs m N ks Q (pt f k.dst v) (r.getD h)) : KO1 P gs m N (k :: ks) Q f h := by
  intro all os e
  obtain ⟨o, os', rfl, h1, h2⟩ := KO1.cons_inv e
  obtain ⟨c1, c2, _⟩ := cmpOp_some h1
  refine AOps.stepDo (gdK_true h1 hg (Sup.refl f)) (stepC_ok hc c1 hst (Sup.refl f) ?_)
  rw [← c2]
  exact q all os' h2
theorem KO1.skip {k : KOp} {ks : List KOp} (hg : gdK f k.g = some false) (q : KO1 P gs m N ks Q (pt f k.dst UN) h) : KO1 P gs m N (k :: ks) Q f h := by
  intro all os e
  obtain ⟨o, os', rfl, h1, h2⟩ := KO1.cons_inv e
  obtain ⟨c1, c2, _⟩ := cmpOp_some h1
  refine AOps.stepV (v := UN) (.inr ⟨gdK_false h1 hg (Sup.refl f), rfl⟩) ?_
  rw [← c2]
  exact q all os' h2
theorem cmpO_eqn {o : Oper} {neg sl : Bool} {x : Operand} (e : cmpO P o = some (.eqn neg sl x)) : ∃ t t', o.op = .binOp (if neg then .neq else .eql) t x (.const (if sl then .slice none 0 0 else .pointer none)) t' ∧ (if sl then ∃ el, P.underlying t = some (.slice el) else ∃ el, P.underlying t = some (.pointer el)) := by
  unfold cmpO at e
  split at e
  all_goals first
    | (cases e; done)
    | (rename_i op t y z t' ho
       simp only [Option.some.injEq] at e
       unfold cmpBin at e
       split at e
       · rename_i el ht
         split at e
         · simp only [KO.eqn.injEq] at e; obtain ⟨rfl, rfl, rfl⟩ := e; exact ⟨t, t', ho, el, ht⟩
         · cases e
       · rename_i el ht
         split at e
         · simp only [KO.eqn.injEq] at e; obtain ⟨rfl, rfl, rfl⟩ := e; exact ⟨t, t', ho, el, ht⟩
         · cases e
       · rename_i el ht
         split at e
         · simp only [KO.eqn.injEq] at e; obtain ⟨rfl, rfl, rfl⟩ := e; exact ⟨t, t', ho, el, ht⟩
         · cases e
       · rename_i el ht
         split at e
         · simp only [KO.eqn.injEq] at e; obtain ⟨rfl, rfl, rfl⟩ := e; exact ⟨t, t', ho, el, ht⟩
         · cases e
       · cases e
       · cases e
       · cases e)
    | (exfalso; revert e; (try unfold cmpConv); (try unfold cmpFld); (try unfold cmpAddr); (try unfold cmpBld); (try unfold cmpBls); (try unfold cmpPart); (try unfold cmpCall); (repeat' split) <;> simp)
/-- A slice compared with nil, of which it is not known. -/
theorem KO1.eqnQ {k : KOp} {ks : List KOp} {x : Operand} {b : Option Addr} {n c : Nat} (hop : k.op = .eqn false true x) (hg : gdK f k.g = some true) (hx : ev f x = some (.slice b n c) ∨ ∃ es vs, ev f x = some (FZ es n vs))
    (q : ∀ t : Bool, (0 < n → t = false) → KO1 P gs m N ks Q (pt f k.dst (.bool t)) h) : KO1 P gs m N (k :: ks) Q f h := by
  intro all os e
  obtain ⟨o, os', rfl, h1, h2⟩ := KO1.cons_inv e
  obtain ⟨c1, c2, _⟩ := cmpOp_some h1
  have c3 : cmpO P o = some (.eqn false true x) := by
    rw [hop] at c1
    unfold cmpO1 at c1
    split at c1
    · rename_i k' hk; rw [hk, c1]
    · cases c1
  obtain ⟨t, t', ho, el, ht⟩ := cmpO_eqn c3
  refine AOps.stepDo (gdK_true h1 hg (Sup.refl f)) ?_
  rw [c2] at q
  rcases hx with hx | ⟨es, vs, hx⟩
  · intro hd C σ w a next Qe hC I F hnx hp
    have hr := F.ev hx
    have ey : a.eval (.const (.slice none 0 0)) = .slice none 0 0 := rfl
    have run : ∀ (b' : Option Addr) (c1 : Nat), a.eval x = .slice b' n c1 → (execOp a.eval o).run P w = .ok (.value (.bool b'.isNone)) w := fun b' c1 ex => by
      simp [execOp, ho, ex, ey, eqGuard, Lib.run_eql_slice_nil w t el b' n c1 0 0 ht]
    have key : ∃ (b' : Option Addr) (c1 : Nat), a.eval x = .slice b' n c1 ∧ (0 < n → b'.isNone = false) := by
      generalize hu : a.eval x = u at hr
      cases hr with
      | sl0 => exact ⟨none, 0, rfl, fun h => by omega⟩
      | sl h1 _ _ _ => exact ⟨_, _, rfl, fun _ => rfl⟩
      | slz => exact ⟨_, _, rfl, fun h => by omega⟩
    obtain ⟨b', c1, ex, hb⟩ := key
    unfold Oper.wp
    rw [run b' c1 ex]
    exact hnx σ _ _ _ w I (F.put (.bool _) hd) (q _ hb all os' h2)
  · exact OpJ.eqNilFZ ho ht hx rfl (fun t ht' => q t ht' all os' h2)
end
end Go.J
