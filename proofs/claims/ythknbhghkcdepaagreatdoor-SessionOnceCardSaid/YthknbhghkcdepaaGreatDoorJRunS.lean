/- The program logic J, part 26: the interpreter of code and functions is right. No condition. -/
import Derived.Test.YthknbhghkcdepaaGreatDoorJRunC
set_option maxHeartbeats 4000000
set_option linter.unusedVariables false
set_option linter.unusedSimpArgs false
namespace Go.J
/-! ### it is right -/
section
variable {P : Program} {gs : List (Nat × Obj)} {m N : Nat} {K : AFr → List Blk → Prop} {Kp : Value → AFr → List Blk → Prop} {f F : AFr} {h h' : List Blk} {o : Oper} {v : Value} {r : Option (List Blk)} {Q : APost} {call : CallF}

theorem Inv.comp {C : Cx} {σ τ : St} {w w' : World} (I : Inv gs C σ h w) (J : Inv gs ⟨w, ownB σ h, σ⟩ τ h' w') : Inv gs C τ h' w' := by
  refine ⟨J.sim, I.pre.trans J.pre, Nat.le_trans I.size J.size, ?_, ?_, ?_, J.os.trans I.os, J.out.trans I.out, J.tape.trans I.tape⟩
  · intro b hb hn
    refine (J.keep b (Nat.lt_of_lt_of_le hb I.size) ?_).trans (I.keep b hb hn)
    rintro ⟨i, B, l, h1, h2, h3, h4, rfl⟩
    rcases I.mine i B l h1 h2 h3 h4 with h5 | h5
    · exact hn h5
    · omega
  · intro i B l h1 h2 h3 h4
    rcases J.mine i B l h1 h2 h3 h4 with ⟨j, D, l2, a1, a2, a3, a4, a5⟩ | h5
    · have := I.mine j D l2 a1 a2 a3 a4
      rw [a5] at this; exact this
    · exact .inr (Nat.le_trans I.size h5)
  · intro p hp
    rcases J.zown p hp with h5 | ⟨j, D, l2, a1, a2, a3, a4, a5⟩ | h5
    · exact I.zown p h5
    · have := I.mine j D l2 a1 a2 a3 a4
      rw [a5] at this; exact .inr this
    · exact .inr (.inr (Nat.le_trans I.size h5))

/-- A call that is handed the whole heap. -/
theorem OpJ.callId {fx : Operand} {as : Array Operand} {ats : Array TypeId} {g : FuncId} {fs cs us : List Value} {R : Out → List Blk → Prop} (ho : o.op = .call ⟨.value fx, as, ats⟩) (hf : ev f fx = some (.func (.func g) fs.toArray cs.toArray))
    (ha : as.toList.map (ev f) = us.map some) (hS : Spec P gs g (fs ++ us ++ cs) h R)
    (kk : ∀ v h', R (.ret v) h' → K (pt f o.dst v) h') (kp : ∀ v h', R (.panic v) h' → Kp v f h') : OpJ P gs m N o K Kp f h := by
  intro hd C σ w a next Qe hC I F hnx hp
  obtain ⟨hal, har⟩ := evs F ha
  have hfr := F.ev hf
  generalize hfe : a.eval fx = fv at hfr
  cases hfr with
  | @func _ _ _ fs' cs' _ l1 r1 l2 r2 =>
    have hargs : VRs σ (fs ++ us ++ cs) ((fs' ++ as.map a.eval ++ cs' : Array Value)).toList := by
      refine ⟨by simp at l1 l2 ⊢; simp at hal; omega, fun i v v' hv hv' => ?_⟩
      simp only [Array.toList_append, List.getElem?_append] at hv hv'
      simp at l1 l2
      simp at hal
      simp only [List.length_append, Array.length_toList, Array.size_map] at hv hv'
      split at hv
      · split at hv
        · rw [if_pos (by omega), if_pos (by omega)] at hv'
          exact r1 i v v' (by simpa using hv) (by simpa using hv')
        · rw [if_pos (by omega), if_neg (by omega)] at hv'
          obtain ⟨x, hx1, hx2⟩ := har _ v hv
          have : v' = a.eval x := by
            rw [← l1] at hv'
            simp at hv' hx1
            rw [hx1] at hv'
            obtain ⟨y, hy1, hy2⟩ := hv'
            obtain rfl := Option.some.inj hy1
            exact hy2.symm
          rw [this]; exact hx2
      · rw [if_neg (by omega)] at hv'
        refine r2 (i - (fs.length + us.length)) v v' (by simpa using hv) ?_
        have e : i - (fs'.size + as.size) = i - (fs.length + us.length) := by omega
        rw [e] at hv'
        simpa using hv'
    have hspec := hS σ w _ I.sim hargs
    unfold Oper.wp
    have hrun : (execOp a.eval o).run P w = (callFunc g (fs' ++ as.map a.eval ++ cs')).run P w := by
      simp [execOp, ho, resolve, hfe, Deferred.ofValue, invoke]
    rw [hrun]
    have fin : ∀ e w', Ends gs ⟨w, ownB σ h, σ⟩ R e w' → (match e with
      | .returned v => next (a.put o.dst v) w'
      | .panicked chain => Qe (.panic chain) a w'
      | .outgrown => LetsOut Qe) := by
      intro e w' he
      cases e with
      | returned v' =>
        obtain ⟨τ, h', v, J, hv, hR⟩ := he
        exact hnx _ _ _ _ _ (I.comp J) ((F.ext J.pre).put hv hd) (kk v h' hR)
      | panicked chain =>
        obtain ⟨τ, h', v, v', rfl, J, hv, hR⟩ := he
        exact hp _ _ _ _ _ _ _ (I.comp J) (F.ext J.pre) hv (kp v h' hR)
      | outgrown => exact he.elim
    unfold CallR at hspec
    generalize (callFunc g (fs' ++ as.map a.eval ++ cs')).run P w = r at hspec
    match r, hspec with
    | .ok (.value v) w', hspec => exact fin _ _ hspec
    | .ok (.enter g' args') w', hspec =>
      refine Calls.mono hspec ?_
      intro e w'' he
      have := fin e w'' he
      cases e <;> exact this
    | .ok (.row row args') w', hspec => exact Rows.mono hspec (fun v w'' hv => fin _ _ hv)
    | .halt (.panic v) w', hspec => exact fin _ _ hspec

/-- A call of values without addresses that answers with such a one. -/
theorem OpJ.callZ {fx : Operand} {as : Array Operand} {ats : Array TypeId} {g : FuncId} {fs cs us : List Value} (ho : o.op = .call ⟨.value fx, as, ats⟩) (hf : ev f fx = some (.func (.func g) fs.toArray cs.toArray))
    (ha : as.toList.map (ev f) = us.map some) (hS : Spec P gs g (fs ++ us ++ cs) [] (fun o h' => o = .ret v ∧ h' = [])) (hz : (fs ++ us ++ cs).all zb = true) (hv : zb v = true)
    (kk : K (pt f o.dst v) h) : OpJ P gs m N o K Kp f h := by
  refine OpJ.call (ρ := []) ho hf ha hS ⟨rfl, (fun k i o D h1 => by simp at h1), (fun k k' i o o' D D' _ h1 => by simp at h1), (fun k D h1 => by simp at h1)⟩ rfl ?_ ?_ ?_
  · have : ∀ (l : List Value), l.all zb = true → RVL [] l l := by
      intro l
      induction l with
      | nil => intro _; exact .nil
      | cons x l ih =>
        intro hl
        simp only [List.all_cons, Bool.and_eq_true] at hl
        exact .cons (.same hl.1) (ih hl.2)
    exact this _ hz
  · rintro u h' ⟨hu, rfl⟩
    cases hu
    exact After.pure rfl (.same hv) kk
  · rintro u h' ⟨hu, _⟩; cases hu

def CallOk (P : Program) (gs : List (Nat × Obj)) (call : CallF) : Prop := ∀ g vs h v r, call g vs h = some (v, r) →
  match r with
  | some h' => Spec P gs g vs h (fun o h'' => o = .ret v ∧ h'' = h')
  | none => vs.all zb = true ∧ zb v = true ∧ Spec P gs g vs [] (fun o h'' => o = .ret v ∧ h'' = [])

theorem evs1_ev' (s : Sup f F) {xs : List Operand} {vs : List Value} (e : evs1 f xs = some vs) : xs.map (ev F) = vs.map some := s.evs (evs1_ev e)
theorem stepC_ok (hc : CallOk P gs call) {k : KO} (e1 : cmpO1 P o = k) (hs : stepC P call f h k = some (v, r)) (s : Sup f F) (kk : K (pt F o.dst v) (r.getD h)) : OpJ P gs m N o K Kp F h := by
  have e : cmpO P o = some k := by
    unfold cmpO1 at e1
    split at e1
    · rename_i k' hk; rw [hk, e1]
    · subst e1; simp [stepC, stepK, sMv, sPick, sNilck, sBin, sGen, sConv, sNot, sEqB, sLenS, sIdxS, sEqn, sToB, sToT, sAlloc, sBox, sLoad, sLoadA, sStore, sFld, sIdx, sIdxA, sCut, sBld, sBls, sExt, sLen, sCap0, sApp, sAppZ, sPart, sMkf] at hs
  unfold stepC at hs
  simp only [evB_eq] at hs
  split at hs
  · rename_i fx as
    split at hs
    · rename_i g fs cs us hf ha
      obtain ⟨as', ats, ho, has⟩ := cmpO_call e
      subst has
      have h2 := hc _ _ _ _ _ hs
      have hf' : ev F fx = some (.func (.func g) fs.toList.toArray cs.toList.toArray) := by simpa using s.ev hf
      cases r with
      | some h' => exact OpJ.callId ho hf' (evs1_ev' s ha) h2 (by rintro u h3 ⟨hu, rfl⟩; cases hu; exact kk) (by rintro u h3 ⟨hu, _⟩; cases hu)
      | none => exact OpJ.callZ ho hf' (evs1_ev' s ha) h2.2.2 h2.1 h2.2.1 kk
    · cases hs
  · rename_i hnc
    exact cmpO_ok e (fun fx as hk => hnc fx as hk) K Kp f F h v r hs s kk
end
end Go.J
