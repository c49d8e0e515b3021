/- The program logic J, part 28: the interpreter of functions, and that it is right. No condition. -/
import Derived.Test.YthknbhghkcdepaaGreatDoorJRunT
set_option maxHeartbeats 4000000
set_option linter.unusedVariables false
set_option linter.unusedSimpArgs false
namespace Go.J

inductive KRes where
  | tmp (t : Nat)
  | cell (a : Nat)
  | agg (a sz : Nat)
structure KF where
  body : KC
  N : Nat
  res : List KRes
  pure : Bool

def cmpR (P : Program) : ResultVar → Option KRes
  | .tmp t => some (.tmp t)
  | .cell a t => match P.underlying t with
    | some d => if aggD d then match tinf P t with
        | some (_, sz, _) => some (.agg a sz)
        | none => none
      else some (.cell a)
    | none => none
def cmpRs (P : Program) : List ResultVar → Option (List KRes)
  | [] => some []
  | r :: rs => match cmpR P r, cmpRs P rs with
    | some k, some ks => some (k :: ks)
    | _, _ => none
def cmpFn (P : Program) (hs : Hints) (pure : Bool) (fn : Func) : Option KF :=
  if (fn.name == "runtime.NumGoroutine") then none else match fn.body with
    | some c => match cmpC P fn.ntmps hs c, cmpRs P fn.results.toList with
      | some k, some rs => some ⟨k, fn.ntmps, rs, pure⟩
      | _, _ => none
    | none => none
def cmpF (P : Program) (hs : Hints) (pure : Bool) (g : FuncId) : Option KF := match P.funcs[g]? with
  | some fn => cmpFn P hs pure fn
  | none => none

def resK (f : AFr) (h : List Blk) : KRes → Option Value
  | .tmp t => lkB f t
  | .cell a => match lkB f a with
    | some (.pointer (some ⟨i, q, none⟩)) => match h[i]? with
      | some B => if live B then B.cells[q]? else none
      | none => none
    | _ => none
  | .agg a sz => match lkB f a with
    | some (.pointer (some ⟨i, q, none⟩)) => match readB h i q sz with
      | some vs => some (.agg vs.toArray)
      | none => none
    | _ => none
def resKs (f : AFr) (h : List Blk) : List KRes → Option (List Value)
  | [] => some []
  | r :: rs => match resK f h r, resKs f h rs with
    | some v, some vs => some (v :: vs)
    | _, _ => none
def getF : List (Nat × KF) → Nat → Option KF
  | [], _ => none
  | (i, k) :: l, n => if Nat.beq i n then some k else getF l n
def isEnd : AEx → Bool
  | .normal | .ret => true
  | _ => false
def runF (P : Program) (T : List (Nat × KF)) (ext : CallF) (L : Nat) : Nat → CallF
  | 0 => fun _ _ _ => none
  | n + 1 => fun g vs h => match getF T g with
    | some k => if Nat.ble vs.length k.N then
        match runC P (runF P T ext L n) L k.body (argF 0 vs) (if k.pure then [] else h) with
        | some (e, f', h') => if isEnd e then match resKs f' h' k.res with
            | some rs => if k.pure then (if vs.all zb && zb (oneOr rs) then some (oneOr rs, none) else none) else some (oneOr rs, some h')
            | none => none
            else none
        | none => none
       else none
    | none => ext g vs h

def TOk (P : Program) (T : List (Nat × KF)) : Prop := ∀ g k, getF T g = some k → ∃ hs, cmpF P hs k.pure g = some k
theorem TOk.nil {P : Program} : TOk P [] := fun g k e => by simp [getF] at e
theorem TOk.cons {P : Program} {T : List (Nat × KF)} {i : Nat} {k : KF} (hs : Hints) (e : cmpF P hs k.pure i = some k) (h : TOk P T) : TOk P ((i, k) :: T) := by
  intro g k' e'
  simp only [getF] at e'
  split at e'
  · rename_i hb
    obtain rfl := Option.some.inj e'
    obtain rfl := beqN hb
    exact ⟨hs, e⟩
  · exact h g k' e'
section
variable {P : Program} {gs : List (Nat × Obj)} {m N : Nat} {f F : AFr} {h h' : List Blk} {Q : APost} {call : CallF}

theorem cmpR_ok {r : ResultVar} {k : KRes} {v : Value} (e : cmpR P r = some k) (hr : resK f h k = some v) (s : Sup f F) : ResJ P F h r v := by
  unfold cmpR at e
  split at e
  · obtain rfl := Option.some.inj e
    simp only [resK, lkB_eq] at hr
    exact .tmp (s _ _ hr)
  · rename_i a t
    split at e
    · rename_i d hd
      split at e
      · rename_i hag
        split at e
        · rename_i z sz bz hi
          obtain rfl := Option.some.inj e
          simp only [resK, lkB_eq] at hr
          split at hr
          · rename_i i q ha
            split at hr
            · rename_i vs hrd
              obtain rfl := Option.some.inj hr
              obtain ⟨B, hb, hm, hvs, hlen⟩ := readB_some hrd
              exact .agg (s _ _ ha) hd hag (tinf_TI hi) hb hm hvs hlen
            · cases hr
          · cases hr
        · cases e
      · rename_i hag
        obtain rfl := Option.some.inj e
        simp only [resK, lkB_eq] at hr
        split at hr
        · rename_i i q ha
          split at hr
          · rename_i B hb
            split at hr
            · rename_i hm
              exact .cell (s _ _ ha) hd (by simpa using hag) hb hm hr
            · cases hr
          · cases hr
        · cases hr
    · cases e
theorem cmpRs_ok (s : Sup f F) : ∀ {rs : List ResultVar} {ks : List KRes} {vs : List Value}, cmpRs P rs = some ks → resKs f h ks = some vs → ResL P F h rs vs
  | [], ks, vs, e, hr => by
    simp [cmpRs] at e; subst e
    simp [resKs] at hr; subst hr
    exact .nil
  | r :: rs, ks, vs, e, hr => by
    simp only [cmpRs] at e
    split at e
    · rename_i k ks' hk hks
      obtain rfl := Option.some.inj e
      simp only [resKs] at hr
      split at hr
      · rename_i v vs' hv hvs
        obtain rfl := Option.some.inj hr
        exact .cons (cmpR_ok hk hv s) (cmpRs_ok s hks hvs)
      · cases hr
    · cases e

theorem Wk.drop {v : Value} (hv : zb v = true) : Wk gs 0 1 [(0, v)] h [(0, v)] [] := by
  refine Wk.of (ρ := []) ⟨rfl, (fun k i o D h1 => by simp at h1), (fun k k' i o o' D D' _ h1 => by simp at h1), (fun k D h1 => by simp at h1)⟩ (fun i hi => by omega) ?_
  intro t u ht
  exact ⟨u, ht, by
    simp only [lk] at ht
    split at ht
    · obtain rfl := Option.some.inj ht
      exact .same hv
    · cases ht⟩

/-- What the interpreter tells of a function is what it does. -/
theorem runF_ok {T : List (Nat × KF)} {ext : CallF} {L : Nat} (hT : TOk P T) (hx : CallOk P gs ext) : ∀ n, CallOk P gs (runF P T ext L n)
  | 0 => fun g vs h v r e => by simp [runF] at e
  | n + 1 => fun g vs h v r e => by
    simp only [runF] at e
    split at e
    · rename_i k hk
      obtain ⟨hs, hcf⟩ := hT g k hk
      generalize k.pure = pb at hcf
      unfold cmpF at hcf
      split at hcf
      · rename_i fn hfn
        unfold cmpFn at hcf
        split at hcf
        · cases hcf
        · rename_i hname
          split at hcf
          · rename_i c hb
            split at hcf
            · rename_i kc rs hkc hrs
              obtain rfl := Option.some.inj hcf
              simp only at e
              split at e
              · rename_i hle
                have hle := bleN hle
                split at e
                · rename_i ex f' h' er
                  split at e
                  · rename_i hend
                    split at e
                    · rename_i us hus
                      have fin : ∀ (R : Out → List Blk → Prop) (h0 : List Blk) (v2 : Value) (h2 : List Blk), runC P (runF P T ext L n) L kc (argF 0 vs) h0 = some (ex, f', h') → Wk gs h0.length 1 [(0, oneOr us)] h' [(0, v2)] h2 → R (.ret v2) h2 → Spec P gs g vs h0 R := by
                        intro R h0 v2 h2 er hw hR
                        refine Spec.of_body hfn hb (by simpa using hname) hle (runC_ok (runF_ok hT hx n) L hkc er (fun F' s => ?_))
                        cases ex <;> first | (cases hend; done) | exact ⟨us, v2, h2, cmpRs_ok s hrs hus, hw, hR⟩
                      split at e
                      · rename_i hpure
                        split at e
                        · rename_i hz
                          simp only [Bool.and_eq_true] at hz
                          simp only [Option.some.injEq, Prod.mk.injEq] at e
                          obtain ⟨rfl, rfl⟩ := e
                          rw [if_pos hpure] at er
                          exact ⟨hz.1, hz.2, fin _ [] _ [] er (Wk.drop hz.2) ⟨rfl, rfl⟩⟩
                        · cases e
                      · rename_i hpure
                        simp only [Option.some.injEq, Prod.mk.injEq] at e
                        obtain ⟨rfl, rfl⟩ := e
                        rw [if_neg hpure] at er
                        exact fin _ h _ h' er Wk.refl ⟨rfl, rfl⟩
                    · cases e
                  · cases e
                · cases e
              · cases e
            · cases hcf
          · cases hcf
      · cases hcf
    · exact hx g vs h v r e
end
end Go.J
