/- The program logic J, part 30: slices.Clone, told once for all of its instances. No condition. -/
import Derived.Test.YthknbhghkcdepaaGreatDoorJKW
set_option maxHeartbeats 4000000
set_option linter.unusedVariables false
set_option linter.unusedSimpArgs false
namespace Go.J

/-- The form of slices.Clone. -/
def cloneC (t sz bz : Nat) (z : List Value) : KC :=
  .seq (.reg [⟨some 2, none, .mv (.const (.slice none 0 0))⟩])
  (.seq (.seq (.reg [⟨some 3, none, .mv (.tmp 0)⟩, ⟨some 4, none, .eqn false true (.tmp 3)⟩])
      (.cond (.tmp 4) (.seq (.reg [⟨some 2, none, .mv (.const (.slice none 0 0))⟩]) .ret) .skip))
    (.seq (.reg [⟨some 5, none, .bls sz z 0 []⟩, ⟨some 6, none, .mv (.tmp 0)⟩, ⟨some 7, none, .app sz bz (.tmp 5) (.tmp 6)⟩, ⟨some 2, none, .mv (.tmp 7)⟩]) .ret))
def cloneF (t sz bz : Nat) (z : List Value) : KF := ⟨cloneC t sz bz z, 8, [.tmp 2], false⟩
def noCall : CallF := fun _ _ _ => none
theorem noCall_ok {P : Program} {gs : List (Nat × Obj)} : CallOk P gs noCall := fun g vs h v r e => by simp [noCall] at e
/-- What it answers with. -/
def cloneR (sz bz : Nat) (z : List Value) (v : Value) (h : List Blk) : Res :=
  match v with
  | .slice _ _ _ | .func (.method "fz") ⟨[.int .i64 (.ofNat _), .int .i64 (.ofNat _)]⟩ _ => match srcW h sz v with
    | some (n, ys) => if ys.all isOne && Nat.ble (n * bz) 140737488355328 && Nat.beq ys.length (n * sz) then some (.slice (some ⟨h.length + 1, 0, none⟩) n n, some (h ++ [⟨[], .d, sz⟩, ⟨ys, .w, sz⟩])) else none
    | none => none
  | _ => none
section
variable {P : Program} {gs : List (Nat × Obj)} {m N : Nat} {hs : Hints} {f F f2 : AFr} {h h' h2 : List Blk} {Q : APost}

theorem Wk.nil2 (md1 md2 : Md) (e : Nat) : Wk gs h.length 1 [(0, .slice none 0 0)] h [(0, .slice (some ⟨h.length + 1, 0, none⟩) 0 0)] (h ++ [⟨[], md1, e⟩, ⟨[], md2, e⟩]) := by
  intro C σ w a _ I F
  have I2 := (I.ghost md1 e).ghost md2 e
  refine ⟨_, by simpa using I2, F.size, F.defers, fun s v hs => ?_⟩
  simp only [lk] at hs
  split at hs
  · rename_i e; subst e
    obtain rfl := Option.some.inj hs
    obtain ⟨v', h1, h2⟩ := F.val 0 (.slice none 0 0) rfl
    have h3 := h2.scal_eq rfl
    subst h3
    exact ⟨_, h1, .slz⟩
  · cases hs

theorem clone_ok {g : FuncId} {t sz bz : Nat} {z : List Value} (hf : cmpF P [] false g = some (cloneF t sz bz z)) (hz : z.length = sz) (hs0 : 0 < sz) {v v2 : Value} {h h2 : List Blk} (e : cloneR sz bz z v h = some (v2, some h2)) : Spec P gs g [v] h (fun o h'' => o = .ret v2 ∧ h'' = h2) := by
  unfold cmpF at hf
  split at hf
  · rename_i fn hfn
    unfold cmpFn at hf
    split at hf
    · cases hf
    · rename_i hname
      split at hf
      · rename_i c hb
        split at hf
        · rename_i kc rs hkc hrs
          simp only [cloneF, Option.some.injEq, KF.mk.injEq] at hf
          obtain ⟨rfl, hN, rfl, _⟩ := hf
          refine Spec.of_body hfn hb (by simpa using hname) (by rw [hN]; simp) ?_
          rw [hN] at hkc ⊢
          have key : ∃ n ys, srcW h sz v = some (n, ys) ∧ ys.all isOne = true ∧ n * bz ≤ 140737488355328 ∧ ys.length = n * sz ∧ v2 = .slice (some ⟨h.length + 1, 0, none⟩) n n ∧ h2 = h ++ [⟨[], .d, sz⟩, ⟨ys, .w, sz⟩] ∧ ((∃ b c, v = .slice b n c) ∨ ∃ es vs, v = FZ es n vs) := by
            unfold cloneR at e
            split at e
            · rename_i b n c
              split at e
              · rename_i n' ys hsrc
                obtain rfl := srcW_n hsrc
                split at e
                · rename_i hc
                  simp only [Bool.and_eq_true] at hc
                  simp only [Option.some.injEq, Prod.mk.injEq] at e
                  exact ⟨n', ys, hsrc, hc.1.1, bleN hc.1.2, beqN hc.2, e.1.symm, e.2.symm, .inl ⟨b, c, rfl⟩⟩
                · cases e
              · cases e
            · rename_i es n vs
              split at e
              · rename_i n' ys hsrc
                obtain rfl := srcW_nz hsrc
                split at e
                · rename_i hc
                  simp only [Bool.and_eq_true] at hc
                  simp only [Option.some.injEq, Prod.mk.injEq] at e
                  exact ⟨n', ys, hsrc, hc.1.1, bleN hc.1.2, beqN hc.2, e.1.symm, e.2.symm, .inr ⟨es, vs.toList, by simp [FZ]⟩⟩
                · cases e
              · cases e
            · cases e
          obtain ⟨n, ys, hsrc, hone, hbig, hlen, rfl, rfl, hv⟩ := key
          have main : KW P gs h.length 8 [] (cloneC t sz bz z) (bodyA P gs h.length fn.results.toList fun o h'' => o = .ret (.slice (some ⟨h.length + 1, 0, none⟩) n n) ∧ h'' = h ++ [⟨[], .d, sz⟩, ⟨ys, .w, sz⟩]) (argF 0 [v]) h := by
            have hx : ∀ fr, lk fr 3 = some v → ev fr (.tmp 3) = some v := fun fr h => h
            refine KW.seq (KW.run noCall_ok 1 (e := .normal) rfl (fun F s => ?_))
            refine KW.supp s ?_
            refine KW.seq (KW.seq (KW.ops (KO1.step noCall_ok (v := v) (r := none) rfl rfl ?_)))
            refine KO1.eqnQ (n := n) (b := match v with | .slice b _ _ => b | _ => none) (c := match v with | .slice _ _ c => c | _ => 0) rfl rfl ?_ ?_
            · rcases hv with ⟨b, c, rfl⟩ | ⟨es, vs, rfl⟩
              · exact .inl rfl
              · exact .inr ⟨es, vs, rfl⟩
            intro q hq
            refine KO1.nil (KW.cond (t := q) rfl (fun hqt => ?_) (fun hqf => ?_))
            · have hn0 : n = 0 := by
                rcases Nat.eq_zero_or_pos n with h | h
                · exact h
                · rw [hq h] at hqt; cases hqt
              subst hn0
              have hy0 : ys = [] := List.eq_nil_of_length_eq_zero (by omega)
              subst hy0
              refine KW.seq (KW.run noCall_ok 1 (e := .normal) rfl (fun F s => KW.ret ?_))
              refine ⟨_, _, _, cmpRs_ok s hrs (f := _) (h := h) (vs := [.slice none 0 0]) rfl, Wk.nil2 .d .w sz, ?_⟩
              exact ⟨rfl, rfl⟩
            · refine KW.skip ?_
              have e1 : fillS (fun i => some (i * sz, sz)) (List.replicate 0 z).flatten [] = some [] := rfl
              refine KW.seq (KW.ops ?_)
              refine KO1.step noCall_ok (v := .slice (some ⟨h.length, 0, none⟩) 0 0) (r := some (h ++ [⟨[], .w, sz⟩])) rfl ?_ ?_
              · simp [stepC, stepK, sMv, sPick, sNilck, sBin, sGen, sConv, sNot, sEqB, sLenS, sIdxS, sEqn, sToB, sToT, sAlloc, sBox, sLoad, sLoadA, sStore, sFld, sIdx, sIdxA, sCut, sBld, sBls, sExt, sLen, sCap0, sApp, sAppZ, sPart, sMkf, partsB, fillS]
              refine KO1.step noCall_ok (v := v) (r := none) rfl rfl ?_
              refine KO1.step noCall_ok (v := .slice (some ⟨h.length + 1, 0, none⟩) n n) (r := some (h ++ [⟨[], .d, sz⟩, ⟨ys, .w, sz⟩])) rfl ?_ ?_
              · have h3 := srcW_app (x := [⟨[], .w, sz⟩]) hsrc
                simp [stepC, stepK, sMv, sPick, sNilck, sBin, sGen, sConv, sNot, sEqB, sLenS, sIdxS, sEqn, sToB, sToT, sAlloc, sBox, sLoad, sLoadA, sStore, sFld, sIdx, sIdxA, sCut, sBld, sBls, sExt, sLen, sCap0, sApp, sAppZ, sPart, sMkf, srcV, evB_eq, ev, lk, pt, h3, appV, isWr, hone, hbig]
              refine KO1.step noCall_ok (v := .slice (some ⟨h.length + 1, 0, none⟩) n n) (r := none) rfl rfl ?_
              refine KO1.nil (KW.ret ?_)
              refine ⟨_, _, _, cmpRs_ok (Sup.refl _) hrs (h := h ++ [⟨[], .d, sz⟩, ⟨ys, .w, sz⟩]) (vs := [.slice (some ⟨h.length + 1, 0, none⟩) n n]) rfl, Wk.refl, ?_⟩
              exact ⟨rfl, rfl⟩
          exact main c hkc
        · cases hf
      · cases hf
  · cases hf

/-- Some functions are slices.Clone: number, cells and bytes of an element, its zero value's cells. -/
def cloneExt : List (Nat × Nat × Nat × Nat × List Value) → CallF
  | [], _, _, _ => none
  | (g, t, sz, bz, z) :: l, g', vs, h => if Nat.beq g g' then match vs with
      | [v] => cloneR sz bz z v h
      | _ => none
    else cloneExt l g' vs h
def cloneOk (P : Program) : List (Nat × Nat × Nat × Nat × List Value) → Prop
  | [] => True
  | (g, t, sz, bz, z) :: l => (cmpF P [] false g = some (cloneF t sz bz z) ∧ z.length = sz ∧ 0 < sz) ∧ cloneOk P l
theorem cloneExt_ok : ∀ (l : List (Nat × Nat × Nat × Nat × List Value)), cloneOk P l → CallOk P gs (cloneExt l)
  | [], _ => fun g vs h v r e => by simp [cloneExt] at e
  | (g0, t, sz, bz, z) :: l, hk => fun g vs h v r e => by
    simp only [cloneExt] at e
    split at e
    · rename_i hg
      obtain rfl := beqN hg
      split at e
      · rename_i v0
        cases r with
        | some h' => exact clone_ok hk.1.1 hk.1.2.1 hk.1.2.2 e
        | none =>
          exfalso
          unfold cloneR at e
          split at e
          · split at e
            · split at e <;> simp at e
            · cases e
          · split at e
            · split at e <;> simp at e
            · cases e
          · cases e
      · cases e
    · exact cloneExt_ok l hk.2 g vs h v r e
end
end Go.J
