/- The program logic J, part 24: the interpreter's single operations are right. No condition. -/
import Derived.Test.YthknbhghkcdepaaGreatDoorJRun
set_option maxHeartbeats 4000000
set_option linter.unusedVariables false
set_option linter.unusedSimpArgs false
namespace Go.J
section
variable {P : Program} {gs : List (Nat × Obj)} {m N : Nat} {K : AFr → List Blk → Prop} {Kp : Value → AFr → List Blk → Prop} {f F : AFr} {h h' : List Blk} {o : Oper} {v : Value} {r : Option (List Blk)}

theorem vl_eq {u : Value} (e : vl u = some (v, r)) : v = u ∧ r = none := by
  simp only [vl, Option.some.injEq, Prod.mk.injEq] at e; exact ⟨e.1.symm, e.2.symm⟩

theorem evs1_ev : ∀ {xs : List Operand} {vs : List Value}, evs1 f xs = some vs → xs.map (ev f) = vs.map some
  | [], vs, e => by simp [evs1] at e; subst e; rfl
  | x :: xs, vs, e => by
    simp only [evs1, evB_eq] at e
    split at e
    · rename_i v vs' hv hvs
      obtain rfl := Option.some.inj e
      simp [hv, evs1_ev hvs]
    · cases e

theorem okV_eq {σ : St} {u u' : Value} (h : VR σ u u') (hs : okV u = true) : u' = u := h.okS_eq hs

theorem VR.of_okV {σ : St} {u : Value} (hs : okV u = true) : VR σ u u := by
  unfold okV at hs
  cases u with
  | agg xs =>
    refine .agg rfl (fun i x y hx hy => ?_)
    rw [hx] at hy
    obtain rfl := Option.some.inj hy
    exact VR.scal (List.all_eq_true.1 hs x (by simpa [Value.cells] using Array.mem_of_getElem? hx))
  | _ => exact VR.scal (by simpa [Value.cells] using hs)

theorem mapM_rhoF (ac : Act) (as : Array Operand) (h1 : ∀ x ∈ as.toList, ac.eval x = rhoF f x) : as.map ac.eval = as.map (rhoF f) := by
  apply Array.ext'
  simp only [Array.toList_map]
  exact List.map_congr_left h1

theorem gen_exec {ac : Act} (hg : genOk o.op = true) (h1 : ∀ x ∈ genOps o.op, ac.eval x = rhoF f x) : execOp ac.eval o = execOp (rhoF f) o := by
  unfold execOp
  revert hg h1
  generalize o.op = p
  intro hg h1
  cases p with
  | binOp op t x y t' =>
    have a := h1 x (by simp [genOps]); have b := h1 y (by simp [genOps])
    simp only [a, b]
  | unOp op t x => have a := h1 x (by simp [genOps]); simp only [a]
  | convert s d x => have a := h1 x (by simp [genOps]); simp only [a]
  | index t x y =>
    have a := h1 x (by simp [genOps]); have b := h1 y (by simp [genOps])
    simp only [a, b]
  | slice t x lo hi mx =>
    cases mx with
    | some z => simp [genOk] at hg
    | none =>
      have a := h1 x (by simp [genOps])
      have b : lo.map ac.eval = lo.map (rhoF f) := by
        cases lo with
        | none => rfl
        | some z => simp [h1 z (by simp [genOps])]
      have c : hi.map ac.eval = hi.map (rhoF f) := by
        cases hi with
        | none => rfl
        | some z => simp [h1 z (by simp [genOps])]
      simp only [a, b, c, Option.map_none]
  | call c =>
    obtain ⟨callee, as, ts⟩ := c
    cases callee with
    | value x => simp [genOk] at hg
    | invoke x n => simp [genOk] at hg
    | builtin b =>
      have hm : as.map ac.eval = as.map (rhoF f) := by
        refine mapM_rhoF ac as ?_
        intro x hx
        refine h1 x ?_
        cases b <;> first | (simp [genOk] at hg; done) | (simpa [genOps] using hx)
      simp only [resolve, hm]
  | _ => simp [genOk] at hg

theorem gen_sound (e : genV P o.op o.type f = some v) (s : Sup f F) (k : K (pt F o.dst v) h) : OpJ P gs m N o K Kp F h := by
  unfold genV at e
  simp only [evB_eq] at e
  split at e
  · rename_i hc
    simp only [Bool.and_eq_true] at hc
    split at e
    · rename_i v1 hr
      split at e
      · rename_i hv
        obtain rfl := Option.some.inj e
        refine OpJ.val (fun σ ac w FF S => ⟨v1, ?_, ?_⟩) k
        · have : execOp ac.eval o = execOp (rhoF f) o := gen_exec hc.1 (fun x hx => by
            have := List.all_eq_true.1 hc.2 x hx
            split at this
            · rename_i u hu
              have h2 := okV_eq (FF.ev (s.ev hu)) this
              rw [h2]; simp [rhoF, evB_eq, hu]
            · cases this)
          rw [this]; exact (pureRun_run (s := execOp (rhoF f) (opOf o.op o.type)) hr w)
        · exact VR.of_okV hv
      · cases e
    · cases e
  · cases e

theorem natOf_bnd (s : Sup f F) {d n : Nat} {y : Option Operand} (e : natOf f d y = some n) : bnd F y d n := by
  cases y with
  | none => simp [natOf] at e; simp [bnd, e]
  | some x =>
    simp only [natOf, evB_eq] at e
    split at e
    · rename_i k n' hv
      obtain rfl := Option.some.inj e
      exact ⟨k, s.ev hv⟩
    · cases e

theorem beqN {a b : Nat} (h : Nat.beq a b = true) : a = b := Nat.eq_of_beq_eq_true h
theorem bleN {a b : Nat} (h : Nat.ble a b = true) : a ≤ b := Nat.le_of_ble_eq_true h
theorem bltN {a b : Nat} (h : Nat.blt a b = true) : a < b := Nat.lt_of_succ_le (by simpa [Nat.blt] using h)
theorem isWr_md {B : Blk} (h : isWr B = true) : B.md = .w := by
  unfold isWr at h
  split at h
  · assumption
  · cases h
theorem readB_some {i q sz : Nat} {vs : List Value} (e : readB h i q sz = some vs) : ∃ B, h[i]? = some B ∧ live B = true ∧ (B.cells.drop q).take sz = vs ∧ vs.length = sz := by
  unfold readB at e
  split at e
  · rename_i B hb
    split at e
    · rename_i hc
      simp only [Bool.and_eq_true] at hc
      obtain rfl := Option.some.inj e
      exact ⟨B, hb, hc.1, rfl, beqN hc.2⟩
    · cases e
  · cases e
theorem bytesOf_some : ∀ {vs : List Value} {l : List UInt8}, bytesOf vs = some l → vs = bytesC l
  | [], l, e => by simp [bytesOf] at e; subst e; rfl
  | x :: r, l, e => by
    unfold bytesOf at e
    split at e
    · rename_i hx
      first | cases hx | skip
      all_goals trivial
    · rename_i n r' hx
      simp only [List.cons.injEq] at hx
      obtain ⟨rfl, rfl⟩ := hx
      split at e
      · rename_i hn
        split at e
        · rename_i l' hl
          obtain rfl := Option.some.inj e
          have := bytesOf_some hl
          have hn := bltN hn
          simp [bytesC, bv, this, UInt8.toNat_ofNat, Nat.mod_eq_of_lt hn]
        · cases e
      · cases e
    · cases e

/-- What is right of a step: whatever more is told. -/
def StepOk (P : Program) (gs : List (Nat × Obj)) (m N : Nat) (o : Oper) (k : KO) : Prop :=
  ∀ (K : AFr → List Blk → Prop) (Kp : Value → AFr → List Blk → Prop) (f F : AFr) (h : List Blk) (v : Value) (r : Option (List Blk)), stepK P f h k = some (v, r) → Sup f F → K (pt F o.dst v) (r.getD h) → OpJ P gs m N o K Kp F h

theorem ok_mv {x : Operand} (ho : o.op = .move x ∨ o.op = .assign x) : StepOk P gs m N o (.mv x) := by
  intro K Kp f F h v r e s k
  simp only [stepK, sMv, sPick, sNilck, sBin, sGen, sConv, sNot, sEqB, sLenS, sIdxS, sEqn, sToB, sToT, sAlloc, sBox, sLoad, sLoadA, sStore, sFld, sIdx, sIdxA, sCut, sBld, sBls, sExt, sLen, sCap0, sApp, sAppZ, sPart, sMkf, evB_eq, partsB_eq] at e
  split at e
  · rename_i u hu
    obtain ⟨rfl, rfl⟩ := vl_eq e
    rcases ho with ho | ho
    · exact OpJ.move ho (s.ev hu) k
    · exact OpJ.assign ho (s.ev hu) k
  · cases e
theorem ok_pick {c a b : Operand} (ho : o.op = .pick c a b) : StepOk P gs m N o (.pick c a b) := by
  intro K Kp f F h v r e s k
  simp only [stepK, sMv, sPick, sNilck, sBin, sGen, sConv, sNot, sEqB, sLenS, sIdxS, sEqn, sToB, sToT, sAlloc, sBox, sLoad, sLoadA, sStore, sFld, sIdx, sIdxA, sCut, sBld, sBls, sExt, sLen, sCap0, sApp, sAppZ, sPart, sMkf, evB_eq, partsB_eq] at e
  split at e
  · rename_i hc
    split at e
    · rename_i u hu
      obtain ⟨rfl, rfl⟩ := vl_eq e
      exact OpJ.pick (v := .nilIface) ho (s.ev hc) (fun _ => s.ev hu) (fun n => by cases n) k
    · cases e
  · rename_i hc
    split at e
    · rename_i u hu
      obtain ⟨rfl, rfl⟩ := vl_eq e
      exact OpJ.pick (u := .nilIface) ho (s.ev hc) (fun n => by cases n) (fun _ => s.ev hu) k
    · cases e
  · cases e
theorem ok_nilck {x : Operand} (ho : o.op = .nilCheck x) : StepOk P gs m N o (.nilck x) := by
  intro K Kp f F h v r e s k
  simp only [stepK, sMv, sPick, sNilck, sBin, sGen, sConv, sNot, sEqB, sLenS, sIdxS, sEqn, sToB, sToT, sAlloc, sBox, sLoad, sLoadA, sStore, sFld, sIdx, sIdxA, sCut, sBld, sBls, sExt, sLen, sCap0, sApp, sAppZ, sPart, sMkf, evB_eq, partsB_eq] at e
  split at e
  · rename_i a hu
    obtain ⟨rfl, rfl⟩ := vl_eq e
    exact OpJ.nilCheck ho (s.ev hu) k
  · cases e
theorem ok_gen : StepOk P gs m N o (.gen o.op o.type) := by
  intro K Kp f F h v r e s k
  simp only [stepK, sMv, sPick, sNilck, sBin, sGen, sConv, sNot, sEqB, sLenS, sIdxS, sEqn, sToB, sToT, sAlloc, sBox, sLoad, sLoadA, sStore, sFld, sIdx, sIdxA, sCut, sBld, sBls, sExt, sLen, sCap0, sApp, sAppZ, sPart, sMkf, evB_eq, partsB_eq] at e
  split at e
  · rename_i u hu
    obtain ⟨rfl, rfl⟩ := vl_eq e
    exact gen_sound hu s k
  · cases e
theorem shBin_ok {op : BinOp} {t t' : TypeId} {x y : Operand} {k1 k2 : IntKind} {a : Int} {n : Nat} (ho : o.op = .binOp op t x y t') (hx : ev F x = some (.int k1 a)) (hy : ev F y = some (.int k2 (n : Int))) (hv : shBin op k1 a n = some v) (k : K (pt F o.dst v) h) : OpJ P gs m N o K Kp F h := by
  unfold shBin at hv
  split at hv
  · obtain rfl := Option.some.inj hv
    exact OpJ.shl ho hx hy (by omega) (by simpa using k)
  · obtain rfl := Option.some.inj hv
    exact OpJ.shr ho hx hy (by omega) (by simpa using k)
  · cases hv
theorem ok_bin {op : BinOp} {t t' : TypeId} {x y : Operand} (ho : o.op = .binOp op t x y t') : StepOk P gs m N o (.bin op t x y t' o.type) := by
  intro K Kp f F h v r e s k
  simp only [stepK, sMv, sPick, sNilck, sBin, sGen, sConv, sNot, sEqB, sLenS, sIdxS, sEqn, sToB, sToT, sAlloc, sBox, sLoad, sLoadA, sStore, sFld, sIdx, sIdxA, sCut, sBld, sBls, sExt, sLen, sCap0, sApp, sAppZ, sPart, sMkf, binV, evB_eq, ← ho] at e
  split at e
  · rename_i u hu
    obtain ⟨rfl, rfl⟩ := vl_eq e
    split at hu
    · rename_i k1 a k2 b hx hy
      split at hu
      · rename_i v1 hv
        obtain rfl := Option.some.inj hu
        split at hv
        · exact shBin_ok ho (s.ev hx) (s.ev hy) hv k
        · cases hv
      · split at hu
        · rename_i hk
          subst hk
          split at hu
          · rename_i v1 hv
            obtain rfl := Option.some.inj hu
            unfold intBin2 at hv
            split at hv
            · split at hv
              · cases hv
              · rename_i hb
                obtain rfl := Option.some.inj hv
                exact OpJ.quo ho (s.ev hx) (s.ev hy) (fun e => hb e) k
            · split at hv
              · cases hv
              · rename_i hb
                obtain rfl := Option.some.inj hv
                exact OpJ.rem ho (s.ev hx) (s.ev hy) (fun e => hb e) k
            · exact OpJ.binI ho (s.ev hx) (s.ev hy) hv k
          · exact gen_sound hu s k
        · exact gen_sound hu s k
    · rename_i a b hx hy
      split at hu
      · rename_i v1 hv
        obtain rfl := Option.some.inj hu
        exact OpJ.binS ho (s.ev hx) (s.ev hy) hv k
      · exact gen_sound hu s k
    · exact gen_sound hu s k
  · cases e
theorem ok_conv {s' d : TypeId} {ds : TypeDesc} {x : Operand} {k' : IntKind} (ho : o.op = .convert s' d x) (hs : P.underlying s' = some ds) (hd : P.underlying d = some (.int k')) : StepOk P gs m N o (.conv k' x) := by
  intro K Kp f F h v r e s k
  simp only [stepK, sMv, sPick, sNilck, sBin, sGen, sConv, sNot, sEqB, sLenS, sIdxS, sEqn, sToB, sToT, sAlloc, sBox, sLoad, sLoadA, sStore, sFld, sIdx, sIdxA, sCut, sBld, sBls, sExt, sLen, sCap0, sApp, sAppZ, sPart, sMkf, evB_eq] at e
  split at e
  · rename_i k1 a hx
    obtain ⟨rfl, rfl⟩ := vl_eq e
    exact OpJ.convI ho hs hd (s.ev hx) k
  · cases e
theorem ok_not {t : TypeId} {x : Operand} (ho : o.op = .unOp .not t x) : StepOk P gs m N o (.not x) := by
  intro K Kp f F h v r e s k
  simp only [stepK, sMv, sPick, sNilck, sBin, sGen, sConv, sNot, sEqB, sLenS, sIdxS, sEqn, sToB, sToT, sAlloc, sBox, sLoad, sLoadA, sStore, sFld, sIdx, sIdxA, sCut, sBld, sBls, sExt, sLen, sCap0, sApp, sAppZ, sPart, sMkf, evB_eq] at e
  split at e
  · rename_i b hx
    obtain ⟨rfl, rfl⟩ := vl_eq e
    exact OpJ.not ho (s.ev hx) k
  · cases e
theorem ok_eqB {neg : Bool} {t t' : TypeId} {x y : Operand} (ho : o.op = .binOp (if neg then .neq else .eql) t x y t') (ht : P.underlying t = some .bool) : StepOk P gs m N o (.eqB neg x y) := by
  intro K Kp f F h v r e s k
  simp only [stepK, sMv, sPick, sNilck, sBin, sGen, sConv, sNot, sEqB, sLenS, sIdxS, sEqn, sToB, sToT, sAlloc, sBox, sLoad, sLoadA, sStore, sFld, sIdx, sIdxA, sCut, sBld, sBls, sExt, sLen, sCap0, sApp, sAppZ, sPart, sMkf, evB_eq] at e
  split at e
  · rename_i a b hx hy
    obtain ⟨rfl, rfl⟩ := vl_eq e
    cases neg
    · exact OpJ.eqB ho ht (s.ev hx) (s.ev hy) k
    · exact OpJ.neB ho ht (s.ev hx) (s.ev hy) k
  · cases e
theorem ok_lenS {t : TypeId} {x : Operand} (ho : o.op = .call { callee := .builtin .len, args := #[x], argTypes := #[t] }) (ht : P.underlying t = some .string) : StepOk P gs m N o (.lenS x) := by
  intro K Kp f F h v r e s k
  simp only [stepK, sMv, sPick, sNilck, sBin, sGen, sConv, sNot, sEqB, sLenS, sIdxS, sEqn, sToB, sToT, sAlloc, sBox, sLoad, sLoadA, sStore, sFld, sIdx, sIdxA, sCut, sBld, sBls, sExt, sLen, sCap0, sApp, sAppZ, sPart, sMkf, evB_eq] at e
  split at e
  · rename_i a hx
    obtain ⟨rfl, rfl⟩ := vl_eq e
    exact OpJ.lenS ho ht (s.ev hx) k
  · cases e
theorem ok_idxS {t : TypeId} {x y : Operand} (ho : o.op = .index t x y) (ht : P.underlying t = some .string) : StepOk P gs m N o (.idxS x y) := by
  intro K Kp f F h v r e s k
  simp only [stepK, sMv, sPick, sNilck, sBin, sGen, sConv, sNot, sEqB, sLenS, sIdxS, sEqn, sToB, sToT, sAlloc, sBox, sLoad, sLoadA, sStore, sFld, sIdx, sIdxA, sCut, sBld, sBls, sExt, sLen, sCap0, sApp, sAppZ, sPart, sMkf, evB_eq] at e
  split at e
  · rename_i a k1 j hx hy
    split at e
    · rename_i b hb
      obtain ⟨rfl, rfl⟩ := vl_eq e
      exact OpJ.indexS ho ht (s.ev hx) (s.ev hy) (by simp) (by simpa using hb) k
    · cases e
  · cases e
theorem ok_eqn_sl {neg : Bool} {t t' e : TypeId} {x : Operand} (ho : o.op = .binOp (if neg then .neq else .eql) t x (.const (.slice none 0 0)) t') (ht : P.underlying t = some (.slice e)) : StepOk P gs m N o (.eqn neg true x) := by
  intro K Kp f F h v r e s k
  simp only [stepK, sMv, sPick, sNilck, sBin, sGen, sConv, sNot, sEqB, sLenS, sIdxS, sEqn, sToB, sToT, sAlloc, sBox, sLoad, sLoadA, sStore, sFld, sIdx, sIdxA, sCut, sBld, sBls, sExt, sLen, sCap0, sApp, sAppZ, sPart, sMkf, evB_eq, partsB_eq] at e
  split at e
  · rename_i hx
    obtain ⟨rfl, rfl⟩ := vl_eq e
    cases neg
    · exact OpJ.eqNilS ho ht (s.ev hx) rfl (.inl rfl) k
    · exact OpJ.neNilS ho ht (s.ev hx) rfl (.inl rfl) k
  · rename_i a n c hx
    split at e
    · cases e
    · rename_i hc
      obtain ⟨rfl, rfl⟩ := vl_eq e
      cases neg
      · exact OpJ.eqNilS ho ht (s.ev hx) rfl (.inr (by omega)) k
      · exact OpJ.neNilS ho ht (s.ev hx) rfl (.inr (by omega)) k
  · simp_all
  · simp_all
  · cases e
theorem ok_eqn_p {neg : Bool} {t t' e : TypeId} {x : Operand} (ho : o.op = .binOp (if neg then .neq else .eql) t x (.const (.pointer none)) t') (ht : P.underlying t = some (.pointer e)) : StepOk P gs m N o (.eqn neg false x) := by
  intro K Kp f F h v r e s k
  simp only [stepK, sMv, sPick, sNilck, sBin, sGen, sConv, sNot, sEqB, sLenS, sIdxS, sEqn, sToB, sToT, sAlloc, sBox, sLoad, sLoadA, sStore, sFld, sIdx, sIdxA, sCut, sBld, sBls, sExt, sLen, sCap0, sApp, sAppZ, sPart, sMkf, evB_eq, partsB_eq] at e
  split at e
  · simp_all
  · simp_all
  · rename_i hx
    obtain ⟨rfl, rfl⟩ := vl_eq e
    cases neg
    · exact OpJ.eqNilP ho ht (s.ev hx) rfl k
    · exact OpJ.neNilP ho ht (s.ev hx) rfl k
  · rename_i a hx
    obtain ⟨rfl, rfl⟩ := vl_eq e
    cases neg
    · exact OpJ.eqNilP ho ht (s.ev hx) rfl k
    · exact OpJ.neNilP ho ht (s.ev hx) rfl k
  · cases e
/-- What holds behind an operation, told weaker. -/
theorem OpJ.post {K' : AFr → List Blk → Prop} (hw : ∀ f' h', K' f' h' → ∃ f2 h2, Wk gs m N f' h' f2 h2 ∧ K f2 h2) (k : OpJ P gs m N o K' Kp f h) : OpJ P gs m N o K Kp f h := by
  intro hd C σ w a next Qe hC I FF hnx hp
  refine k hd C σ w a next Qe hC I FF ?_ hp
  intro τ f' h' a' w' I' F' hk
  obtain ⟨f2, h2, wk, hk2⟩ := hw f' h' hk
  obtain ⟨τ2, I2, F2⟩ := wk C τ w' a' hC I' F'
  exact hnx τ2 f2 h2 a' w' I2 F2 hk2
theorem VR.capLe {σ : St} {a : Addr} {n c n0 : Nat} {u : Value} (h1 : n ≤ n0) (h2 : n0 ≤ c) (hv : VR σ (.slice (some a) n c) u) : VR σ (.slice (some a) n n0) u := by
  cases hv with
  | sl hl hn hcc hc => exact .sl hl h1 (Nat.le_trans h2 hcc) hc
  | slz =>
    obtain rfl : n0 = 0 := by omega
    exact .slz
theorem Wk.cap {d : Option Nat} {a : Addr} {n c n0 : Nat} (h1 : n ≤ n0) (h2 : n0 ≤ c) : Wk gs m N (pt f d (.slice (some a) n c)) h (pt f d (.slice (some a) n n0)) h := by
  intro C σ w ac _ I FF
  refine ⟨σ, I, FF.size, FF.defers, fun t v ht => ?_⟩
  cases d with
  | none => exact FF.val t v ht
  | some d =>
    simp only [pt, lk] at ht
    split at ht
    · rename_i e; subst e
      obtain rfl := Option.some.inj ht
      obtain ⟨v', a1, a2⟩ := FF.val t (.slice (some a) n c) (by simp [pt, lk])
      exact ⟨v', a1, a2.capLe h1 h2⟩
    · rename_i e
      exact FF.val t v (by simp only [pt, lk, if_neg e]; exact ht)
/-- A slice of some room, told with the least. -/
theorem OpJ.capped {a : Addr} {n : Nat} (hk : ∀ K', (∀ c, n ≤ c → K' (pt f o.dst (.slice (some a) n c)) h') → OpJ P gs m N o K' Kp f h) (k : K (pt f o.dst (.slice (some a) n n)) h') : OpJ P gs m N o K Kp f h := by
  refine OpJ.post (K' := fun f2 h2 => ∃ c, n ≤ c ∧ f2 = pt f o.dst (.slice (some a) n c) ∧ h2 = h') ?_ (hk _ fun c hc => ⟨c, hc, rfl, rfl⟩)
  rintro f2 h2 ⟨c, hc, rfl, rfl⟩
  exact ⟨_, _, Wk.cap (Nat.le_refl _) hc, k⟩
theorem ok_toB {t s' e : TypeId} {ds : TypeDesc} {x : Operand} (ho : o.op = .convert s' t x) (hs : P.underlying s' = some ds) (ht : P.underlying t = some (.slice e)) (he : P.underlying e = some (.int .u8)) : StepOk P gs m N o (.toB x) := by
  intro K Kp f F h v r e s k
  simp only [stepK, sMv, sPick, sNilck, sBin, sGen, sConv, sNot, sEqB, sLenS, sIdxS, sEqn, sToB, sToT, sAlloc, sBox, sLoad, sLoadA, sStore, sFld, sIdx, sIdxA, sCut, sBld, sBls, sExt, sLen, sCap0, sApp, sAppZ, sPart, sMkf, evB_eq, partsB_eq] at e
  split at e
  · rename_i a hx
    simp only [Option.some.injEq, Prod.mk.injEq] at e
    obtain ⟨rfl, rfl⟩ := e
    exact OpJ.capped (fun K' kk => OpJ.toBytes ho hs ht he (s.ev hx) kk) k
  · cases e
theorem FZ_form {f : AFr} {x : Operand} {es n : Nat} {vs : Array Value} (hx : ev f x = some (.func (.method "fz") ⟨[.int .i64 (.ofNat es), .int .i64 (.ofNat n)]⟩ vs)) : ev f x = some (FZ es n vs.toList) := by
  rw [hx]; simp [FZ]
theorem PZ_form {f : AFr} {x : Operand} {vs : Array Value} (hx : ev f x = some (.func (.method "pz") ⟨[.bool true]⟩ vs)) : ev f x = some (PZ vs.toList) := by
  rw [hx]; simp [PZ]
theorem ok_toT {t s' e : TypeId} {x : Operand} (ho : o.op = .convert s' t x) (hs : P.underlying s' = some (.slice e)) (he : P.underlying e = some (.int .u8)) (ht : P.underlying t = some .string) : StepOk P gs m N o (.toT x) := by
  intro K Kp f F h v r e s k
  simp only [stepK, sMv, sPick, sNilck, sBin, sGen, sConv, sNot, sEqB, sLenS, sIdxS, sEqn, sToB, sToT, sAlloc, sBox, sLoad, sLoadA, sStore, sFld, sIdx, sIdxA, sCut, sBld, sBls, sExt, sLen, sCap0, sApp, sAppZ, sPart, sMkf, evB_eq, partsB_eq] at e
  split at e
  · rename_i hx
    obtain ⟨rfl, rfl⟩ := vl_eq e
    exact OpJ.toTextNil ho hs he ht (s.ev hx) k
  · rename_i i q n c hx
    split at e
    · rename_i vs hr
      split at e
      · rename_i l hl
        obtain ⟨rfl, rfl⟩ := vl_eq e
        obtain ⟨B, hb, hm, hvs, hlen⟩ := readB_some hr
        have := bytesOf_some hl
        subst this
        exact OpJ.toText ho hs he ht (s.ev hx) (by rw [bytesC_length] at hlen; exact hlen) hb hm hvs k
      · cases e
    · cases e
  · rename_i n vs hx
    split at e
    · rename_i l hl
      split at e
      · rename_i hn
        obtain ⟨rfl, rfl⟩ := vl_eq e
        have hx := FZ_form hx
        rw [bytesOf_some hl] at hx
        exact OpJ.toTextFZ ho hs he ht (s.ev hx) (beqN hn) k
      · cases e
    · cases e
  · cases e
theorem ok_alloc {t : TypeId} {z : Value} {sz bz : Nat} (ho : o.op = .alloc t) (hi : TI P t z sz bz) (h1 : z.cells.toList.all scal = true) : StepOk P gs m N o (.alloc z.cells.toList) := by
  intro K Kp f F h v r e s k
  simp only [stepK, sMv, sPick, sNilck, sBin, sGen, sConv, sNot, sEqB, sLenS, sIdxS, sEqn, sToB, sToT, sAlloc, sBox, sLoad, sLoadA, sStore, sFld, sIdx, sIdxA, sCut, sBld, sBls, sExt, sLen, sCap0, sApp, sAppZ, sPart, sMkf, Option.some.injEq, Prod.mk.injEq] at e
  obtain ⟨rfl, rfl⟩ := e
  exact OpJ.alloc 1 ho hi rfl h1 k
theorem ok_box {t : TypeId} {x : Operand} (ho : o.op = .box t x) : StepOk P gs m N o (.box x) := by
  intro K Kp f F h v r e s k
  simp only [stepK, sMv, sPick, sNilck, sBin, sGen, sConv, sNot, sEqB, sLenS, sIdxS, sEqn, sToB, sToT, sAlloc, sBox, sLoad, sLoadA, sStore, sFld, sIdx, sIdxA, sCut, sBld, sBls, sExt, sLen, sCap0, sApp, sAppZ, sPart, sMkf, evB_eq, partsB_eq] at e
  split at e
  · rename_i u hu
    split at e
    · rename_i h1
      simp only [Option.some.injEq, Prod.mk.injEq] at e
      obtain ⟨rfl, rfl⟩ := e
      exact OpJ.box 1 ho (s.ev hu) rfl h1 k
    · cases e
  · cases e
theorem ok_load {t : TypeId} {d : TypeDesc} {x : Operand} (ho : o.op = .load t x) (ht : P.underlying t = some d) (hd : aggD d = false) : StepOk P gs m N o (.load x) := by
  intro K Kp f F h v r e s k
  simp only [stepK, sMv, sPick, sNilck, sBin, sGen, sConv, sNot, sEqB, sLenS, sIdxS, sEqn, sToB, sToT, sAlloc, sBox, sLoad, sLoadA, sStore, sFld, sIdx, sIdxA, sCut, sBld, sBls, sExt, sLen, sCap0, sApp, sAppZ, sPart, sMkf, evB_eq, partsB_eq] at e
  split at e
  · rename_i i q hx
    split at e
    · rename_i B hb
      split at e
      · rename_i hm
        split at e
        · rename_i u hu
          obtain ⟨rfl, rfl⟩ := vl_eq e
          exact OpJ.load ho ht hd (s.ev hx) hb hm hu k
        · cases e
      · cases e
    · cases e
  · rename_i vs hx
    split at e
    · rename_i u us hvs
      split at e
      · rename_i hz
        obtain ⟨rfl, rfl⟩ := vl_eq e
        have hx := PZ_form hx
        rw [hvs] at hx
        exact OpJ.loadPZ ho ht hd (s.ev hx) hz k
      · cases e
    · cases e
  · cases e
theorem ok_loadA {t : TypeId} {d : TypeDesc} {x : Operand} {z : Value} {sz bz : Nat} (ho : o.op = .load t x) (ht : P.underlying t = some d) (hd : aggD d = true) (hi : TI P t z sz bz) : StepOk P gs m N o (.loadA sz x) := by
  intro K Kp f F h v r e s k
  simp only [stepK, sMv, sPick, sNilck, sBin, sGen, sConv, sNot, sEqB, sLenS, sIdxS, sEqn, sToB, sToT, sAlloc, sBox, sLoad, sLoadA, sStore, sFld, sIdx, sIdxA, sCut, sBld, sBls, sExt, sLen, sCap0, sApp, sAppZ, sPart, sMkf, evB_eq, partsB_eq] at e
  split at e
  · rename_i i q hx
    split at e
    · rename_i vs hr
      obtain ⟨rfl, rfl⟩ := vl_eq e
      obtain ⟨B, hb, hm, hvs, hlen⟩ := readB_some hr
      exact OpJ.loadAgg ho ht hd hi (s.ev hx) hb hm hvs hlen k
    · cases e
  · rename_i vs hx
    split at e
    · rename_i hc
      simp only [Bool.and_eq_true] at hc
      obtain ⟨rfl, rfl⟩ := vl_eq e
      exact OpJ.loadAggPZ ho ht hd hi (s.ev (PZ_form hx)) rfl (beqN hc.1) hc.2 k
    · cases e
  · cases e
theorem ok_store {t : TypeId} {x y : Operand} {z : Value} {sz bz : Nat} (ho : o.op = .store t x y) (hi : TI P t z sz bz) : StepOk P gs m N o (.store sz x y) := by
  intro K Kp f F h v r e s k
  simp only [stepK, sMv, sPick, sNilck, sBin, sGen, sConv, sNot, sEqB, sLenS, sIdxS, sEqn, sToB, sToT, sAlloc, sBox, sLoad, sLoadA, sStore, sFld, sIdx, sIdxA, sCut, sBld, sBls, sExt, sLen, sCap0, sApp, sAppZ, sPart, sMkf, evB_eq, partsB_eq] at e
  split at e
  · rename_i i q u hx hy
    split at e
    · rename_i B hb
      split at e
      · rename_i hc
        simp only [Bool.and_eq_true] at hc
        simp only [Option.some.injEq, Prod.mk.injEq] at e
        obtain ⟨rfl, rfl⟩ := e
        exact OpJ.store ho hi (s.ev hx) (s.ev hy) rfl (beqN hc.1.1.2) hc.1.2 hb (isWr_md hc.1.1.1) (bleN hc.2) k
      · cases e
    · cases e
  · cases e
theorem ok_fld {t : TypeId} {fs : Array Field} {fd : Field} {x : Operand} {j sz : Nat} {zf : Value} {bf : Nat} (ho : o.op = .fieldAddr t x j) (ht : P.underlying t = some (.struct fs)) (hf : fs[j]? = some fd) (hi : TI P fd.type zf sz bf) (hz : sz ≠ 0) : StepOk P gs m N o (.fld fd.offset x) := by
  intro K Kp f F h v r e s k
  simp only [stepK, sMv, sPick, sNilck, sBin, sGen, sConv, sNot, sEqB, sLenS, sIdxS, sEqn, sToB, sToT, sAlloc, sBox, sLoad, sLoadA, sStore, sFld, sIdx, sIdxA, sCut, sBld, sBls, sExt, sLen, sCap0, sApp, sAppZ, sPart, sMkf, evB_eq, partsB_eq] at e
  split at e
  · rename_i i q hx
    obtain ⟨rfl, rfl⟩ := vl_eq e
    exact OpJ.fieldAddr (tf := t) ho ht hf hi hz (s.ev hx) k
  · rename_i vs hx
    obtain ⟨rfl, rfl⟩ := vl_eq e
    exact OpJ.fieldPZ _ ho ht hf hi hz (s.ev (PZ_form hx)) rfl k
  · cases e
theorem ok_idx {t e : TypeId} {x y : Operand} {ze : Value} {sz be : Nat} (ho : o.op = .indexAddr t x y) (ht : P.underlying t = some (.slice e)) (hi : TI P e ze sz be) : StepOk P gs m N o (.idx none sz x y) := by
  intro K Kp f F h v r e s k
  simp only [stepK, sMv, sPick, sNilck, sBin, sGen, sConv, sNot, sEqB, sLenS, sIdxS, sEqn, sToB, sToT, sAlloc, sBox, sLoad, sLoadA, sStore, sFld, sIdx, sIdxA, sCut, sBld, sBls, sExt, sLen, sCap0, sApp, sAppZ, sPart, sMkf, evB_eq, partsB_eq] at e
  split at e
  · rename_i i q n c k0 j hx hy
    split at e
    · rename_i hj
      obtain ⟨rfl, rfl⟩ := vl_eq e
      exact OpJ.indexAddr ho ht hi (s.ev hx) (s.ev hy) (by simp) (by simpa using hj) (by simpa using k)
    · cases e
  · rename_i es n vs k0 j hx hy
    split at e
    · rename_i hj
      split at e
      · rename_i he
        obtain rfl := beqN he
        obtain ⟨rfl, rfl⟩ := vl_eq e
        exact OpJ.indexFZ _ ho ht hi (s.ev (FZ_form hx)) (s.ev hy) (by simp) (by simpa using hj) rfl (by simpa using k)
      · cases e
    · cases e
  · cases e
theorem ok_idxA {t e : TypeId} {x y : Operand} {ze : Value} {n sz be : Nat} (ho : o.op = .indexAddr t x y) (ht : P.underlying t = some (.array n e)) (hi : TI P e ze sz be) : StepOk P gs m N o (.idx (some n) sz x y) := by
  intro K Kp f F h v r e s k
  simp only [stepK, sMv, sPick, sNilck, sBin, sGen, sConv, sNot, sEqB, sLenS, sIdxS, sEqn, sToB, sToT, sAlloc, sBox, sLoad, sLoadA, sStore, sFld, sIdx, sIdxA, sCut, sBld, sBls, sExt, sLen, sCap0, sApp, sAppZ, sPart, sMkf, evB_eq, partsB_eq] at e
  split at e
  · rename_i i q k0 j hx hy
    split at e
    · rename_i hj
      obtain ⟨rfl, rfl⟩ := vl_eq e
      exact OpJ.indexArr _ ho ht hi (s.ev hx) (s.ev hy) (by simp) (by simpa using hj) rfl (by simpa using k)
    · cases e
  · cases e
theorem ok_cut {t e : TypeId} {x : Operand} {lo hi mx : Option Operand} {z : Value} {sz bz : Nat} (ho : o.op = .slice t x lo hi mx) (ht : P.underlying t = some (.slice e)) (ti : TI P e z sz bz) (hmh : mx.isSome = true → hi.isSome = true) : StepOk P gs m N o (.cut sz x lo hi mx) := by
  intro K Kp f F h v r e s k
  simp only [stepK, sMv, sPick, sNilck, sBin, sGen, sConv, sNot, sEqB, sLenS, sIdxS, sEqn, sToB, sToT, sAlloc, sBox, sLoad, sLoadA, sStore, sFld, sIdx, sIdxA, sCut, sBld, sBls, sExt, sLen, sCap0, sApp, sAppZ, sPart, sMkf, evB_eq, partsB_eq] at e
  split at e
  · rename_i hx
    split at e
    · rename_i h1 h2 h3
      obtain ⟨rfl, rfl⟩ := vl_eq e
      exact OpJ.sliceNil ho ht ti (s.ev hx) (natOf_bnd s h1) (natOf_bnd s h2) (natOf_bnd s h3) hmh k
    · cases e
  · rename_i i q n c hx
    split at e
    · rename_i l r' u h1 h2 h3
      split at e
      · rename_i hle
        split at e
        · rename_i B hb
          split at e
          · rename_i hc
            simp only [Bool.and_eq_true] at hc
            obtain ⟨rfl, rfl⟩ := vl_eq e
            exact OpJ.slice ho ht ti (s.ev hx) hb hc.1 (beqN hc.2) (natOf_bnd s h1) (natOf_bnd s h2) (natOf_bnd s h3) hmh hle.1 hle.2.1 hle.2.2 k
          · cases e
        · cases e
      · cases e
    · cases e
  · rename_i es n vs hx
    split at e
    · rename_i l r' u h1 h2 h3
      split at e
      · rename_i hle
        split at e
        · rename_i hc
          simp only [Bool.and_eq_true] at hc
          obtain rfl := beqN hc.1
          obtain ⟨rfl, rfl⟩ := vl_eq e
          refine OpJ.sliceFZ l r' _ _ ho ht ti (s.ev (FZ_form hx)) (natOf_bnd s h1) (natOf_bnd s h2) ?_ hmh hle.1 (by omega) rfl (beqN hc.2) rfl k
          cases mx with
          | none => exact .inl rfl
          | some y =>
            obtain ⟨k0, hk⟩ := natOf_bnd s h3
            exact .inr ⟨y, u, rfl, ⟨k0, hk⟩, hle.2.1, hle.2.2⟩
        · cases e
      · cases e
    · cases e
  · cases e
theorem ok_bld {t : TypeId} {ps : Array (Nat × Operand)} {fs : Array Field} {z : Value} {sz bz : Nat} {pl : Array (Nat × Nat)} (ho : o.op = .build t ps) (ht : P.underlying t = some (.struct fs)) (hi : TI P t z sz bz) (hz : z.cells.toList.all scal = true)
    (hpl : ∀ w, (fs.mapM (m := Sem) fun f => do pure (f.offset, ← Go.sizeOf f.type)).run P w = .ok pl w) : StepOk P gs m N o (.bld z.cells.toList pl.toList ps.toList) := by
  intro K Kp f F h v r e s k
  simp only [stepK, sMv, sPick, sNilck, sBin, sGen, sConv, sNot, sEqB, sLenS, sIdxS, sEqn, sToB, sToT, sAlloc, sBox, sLoad, sLoadA, sStore, sFld, sIdx, sIdxA, sCut, sBld, sBls, sExt, sLen, sCap0, sApp, sAppZ, sPart, sMkf, evB_eq, partsB_eq] at e
  split at e
  · rename_i l hl
    split at e
    · rename_i hone
      split at e
      · rename_i vs hr
        obtain ⟨rfl, rfl⟩ := vl_eq e
        exact OpJ.buildL pl.toList ho ht hi hz (by simpa using hpl) (s.parts hl) hone hr k
      · cases e
    · cases e
  · cases e
theorem ok_bls {t e : TypeId} {n : Nat} {ps : Array (Nat × Operand)} {z : Value} {sz bz : Nat} (ho : o.op = .buildSlice t n ps) (ht : P.underlying t = some (.slice e)) (hi : TI P e z sz bz) (hzs : Nat.beq z.cells.toList.length sz = true) (hs0 : Nat.blt 0 sz = true)
    (hz : z.cells.toList.all scal = true) (hsm : Nat.ble (n * sz) 16777216 = true) : StepOk P gs m N o (.bls sz z.cells.toList n ps.toList) := by
  intro K Kp f F h v r e s k
  simp only [stepK, sMv, sPick, sNilck, sBin, sGen, sConv, sNot, sEqB, sLenS, sIdxS, sEqn, sToB, sToT, sAlloc, sBox, sLoad, sLoadA, sStore, sFld, sIdx, sIdxA, sCut, sBld, sBls, sExt, sLen, sCap0, sApp, sAppZ, sPart, sMkf, evB_eq, partsB_eq] at e
  split at e
  · rename_i l hl
    split at e
    · rename_i hone
      split at e
      · rename_i vs hr
        split at e
        · rename_i hc
          simp only [Bool.and_eq_true] at hc
          simp only [Option.some.injEq, Prod.mk.injEq] at e
          obtain ⟨rfl, rfl⟩ := e
          exact OpJ.buildSliceL ho ht hi hzs hs0 hz hsm (s.parts hl) hone hr hc.1 hc.2 k
        · cases e
      · cases e
    · cases e
  · cases e
theorem ok_ext {x : Operand} {i : Nat} (ho : o.op = .extract x i) : StepOk P gs m N o (.ext x i) := by
  intro K Kp f F h v r e s k
  simp only [stepK, sMv, sPick, sNilck, sBin, sGen, sConv, sNot, sEqB, sLenS, sIdxS, sEqn, sToB, sToT, sAlloc, sBox, sLoad, sLoadA, sStore, sFld, sIdx, sIdxA, sCut, sBld, sBls, sExt, sLen, sCap0, sApp, sAppZ, sPart, sMkf, evB_eq, partsB_eq] at e
  split at e
  · rename_i vs hx
    split at e
    · rename_i u hu
      obtain ⟨rfl, rfl⟩ := vl_eq e
      exact OpJ.extract ho (s.ev hx) (by simpa using hu) k
    · cases e
  · cases e
theorem ok_len {t e : TypeId} {x : Operand} (ho : o.op = .call { callee := .builtin .len, args := #[x], argTypes := #[t] }) (ht : P.underlying t = some (.slice e)) : StepOk P gs m N o (.len x) := by
  intro K Kp f F h v r e s k
  simp only [stepK, sMv, sPick, sNilck, sBin, sGen, sConv, sNot, sEqB, sLenS, sIdxS, sEqn, sToB, sToT, sAlloc, sBox, sLoad, sLoadA, sStore, sFld, sIdx, sIdxA, sCut, sBld, sBls, sExt, sLen, sCap0, sApp, sAppZ, sPart, sMkf, evB_eq, partsB_eq] at e
  split at e
  · rename_i b n c hx
    obtain ⟨rfl, rfl⟩ := vl_eq e
    exact OpJ.lenSl ho ht (s.ev hx) k
  · rename_i es n vs hx
    obtain ⟨rfl, rfl⟩ := vl_eq e
    exact OpJ.lenFZ ho ht (s.ev (FZ_form hx)) k
  · cases e
theorem ok_cap0 {t e : TypeId} {x : Operand} (ho : o.op = .call { callee := .builtin .cap, args := #[x], argTypes := #[t] }) (ht : P.underlying t = some (.slice e)) : StepOk P gs m N o (.cap0 x) := by
  intro K Kp f F h v r e s k
  simp only [stepK, sMv, sPick, sNilck, sBin, sGen, sConv, sNot, sEqB, sLenS, sIdxS, sEqn, sToB, sToT, sAlloc, sBox, sLoad, sLoadA, sStore, sFld, sIdx, sIdxA, sCut, sBld, sBls, sExt, sLen, sCap0, sApp, sAppZ, sPart, sMkf, evB_eq, partsB_eq] at e
  split at e
  · rename_i n c hx
    obtain ⟨rfl, rfl⟩ := vl_eq e
    exact OpJ.capSl ho ht (s.ev hx) (fun c' _ he => by rw [he rfl]; exact k)
  · cases e
theorem ok_part {t : TypeId} {d : TypeDesc} {fs : Array Field} {fd : Field} {x : Operand} {j : Nat} (ho : o.op = .field t x j) (ht : P.underlying t = some (.struct fs)) (hf : fs[j]? = some fd) (hd : P.underlying fd.type = some d) (ha : aggD d = false) : StepOk P gs m N o (.part fd.offset x) := by
  intro K Kp f F h v r e s k
  simp only [stepK, sMv, sPick, sNilck, sBin, sGen, sConv, sNot, sEqB, sLenS, sIdxS, sEqn, sToB, sToT, sAlloc, sBox, sLoad, sLoadA, sStore, sFld, sIdx, sIdxA, sCut, sBld, sBls, sExt, sLen, sCap0, sApp, sAppZ, sPart, sMkf, evB_eq, partsB_eq] at e
  split at e
  · rename_i xs hx
    split at e
    · rename_i u hu
      obtain ⟨rfl, rfl⟩ := vl_eq e
      exact OpJ.field ho ht hf rfl hd ha (s.ev hx) hu k
    · cases e
  · cases e
theorem ok_mkf {fn : Fn} {xs ys : Array Operand} (hmk : isMark fn = false) (ho : o.op = .makeFunc fn xs ys) : StepOk P gs m N o (.mkf fn xs.toList ys.toList) := by
  intro K Kp f F h v r e s k
  simp only [stepK, sMv, sPick, sNilck, sBin, sGen, sConv, sNot, sEqB, sLenS, sIdxS, sEqn, sToB, sToT, sAlloc, sBox, sLoad, sLoadA, sStore, sFld, sIdx, sIdxA, sCut, sBld, sBls, sExt, sLen, sCap0, sApp, sAppZ, sPart, sMkf, evB_eq, partsB_eq] at e
  split at e
  · rename_i us vs hu hv
    obtain ⟨rfl, rfl⟩ := vl_eq e
    exact OpJ.makeFunc us vs hmk ho (s.evs (evs1_ev hu)) (s.evs (evs1_ev hv)) k
  · cases e
theorem srcV_some {sz k : Nat} {ys : List Value} {y : Operand} (e0 : srcV f h sz y = some (k, ys)) (s : Sup f F) : Src P gs N F h y sz k ys := by
  unfold srcV at e0
  simp only [evB_eq] at e0
  split at e0
  · rename_i u hy
    have e := e0
    unfold srcW at e
    split at e
    · simp only [Option.some.injEq, Prod.mk.injEq] at e
      obtain ⟨rfl, rfl⟩ := e
      exact Src.nil (s.ev hy)
    · split at e
      · rename_i B hb
        split at e
        · rename_i hc
          simp only [Bool.and_eq_true] at hc
          simp only [Option.some.injEq, Prod.mk.injEq] at e
          obtain ⟨rfl, rfl⟩ := e
          exact Src.sl (s.ev hy) hb hc.1 rfl (beqN hc.2)
        · cases e
      · cases e
    · split at e
      · rename_i hc
        simp only [Option.some.injEq, Prod.mk.injEq] at e
        obtain ⟨rfl, rfl⟩ := e
        obtain rfl := beqN hc
        exact Src.str (s.ev hy)
      · cases e
    · split at e
      · rename_i hc
        simp only [Bool.and_eq_true] at hc
        simp only [Option.some.injEq, Prod.mk.injEq] at e
        obtain ⟨rfl, rfl⟩ := e
        obtain rfl := beqN hc.1.1
        exact Src.fz (s.ev (FZ_form hy)) (beqN hc.2) hc.1.2
      · cases e
    · cases e
  · cases e0
theorem srcW_app {sz : Nat} {v : Value} {r : Nat × List Value} {x : List Blk} (e : srcW h sz v = some r) : srcW (h ++ x) sz v = some r := by
  unfold srcW at e ⊢
  split at e
  · exact e
  · split at e
    · rename_i B hb
      rw [List.getElem?_append_left (List.getElem?_eq_some_iff.1 hb).1, hb]
      exact e
    · cases e
  · exact e
  · exact e
  · cases e
theorem srcW_n {sz n c k : Nat} {b : Option Addr} {ys : List Value} (e : srcW h sz (.slice b n c) = some (k, ys)) : k = n := by
  unfold srcW at e
  split at e
  · rename_i hq; simp at hq e; omega
  · rename_i i q n0 c0 hq
    simp at hq
    split at e
    · split at e
      · simp at e; omega
      · cases e
    · cases e
  · rename_i hq; simp at hq
  · rename_i hq; simp at hq
  · cases e
theorem srcW_nz {sz es n k : Nat} {vs : Array Value} {ys : List Value} (e : srcW h sz (.func (.method "fz") ⟨[.int .i64 (.ofNat es), .int .i64 (.ofNat n)]⟩ vs) = some (k, ys)) : k = n := by
  unfold srcW at e
  split at e
  · rename_i hq; simp at hq
  · rename_i hq; simp at hq
  · rename_i hq; simp at hq
  · rename_i hq; simp at hq; split at e
    · simp at e; omega
    · cases e
  · cases e
theorem ok_app {t t2 e : TypeId} {d2 : TypeDesc} {z : Value} {sz bz : Nat} {x y : Operand} (ho : o.op = .call { callee := .builtin .append, args := #[x, y], argTypes := #[t, t2] })
    (ht : P.underlying t = some (.slice e)) (ht2 : P.underlying t2 = some d2) (hd2 : notInt d2 = true) (ti : TI P e z sz bz) (hzs : z.cells.size = sz) (hb0 : 0 < bz) : StepOk P gs m N o (.app sz bz x y) := by
  intro K Kp f F h v r e s k
  simp only [stepK, sMv, sPick, sNilck, sBin, sGen, sConv, sNot, sEqB, sLenS, sIdxS, sEqn, sToB, sToT, sAlloc, sBox, sLoad, sLoadA, sStore, sFld, sIdx, sIdxA, sCut, sBld, sBls, sExt, sLen, sCap0, sApp, sAppZ, sPart, sMkf, evB_eq, partsB_eq] at e
  split at e
  · rename_i n ys hy
    unfold appV at e
    simp only [evB_eq] at e
    split at e
    · rename_i hx
      split at e
      · rename_i hk
        obtain ⟨rfl, rfl⟩ := vl_eq e
        subst hk
        have hl := (srcV_some (P := P) (gs := gs) (N := N) hy s).len
        obtain rfl : ys = [] := List.eq_nil_of_length_eq_zero (by omega)
        exact OpJ.appendNil0 ho ht ht2 hd2 ti (s.ev hx) (fun N => srcV_some hy s) k
      · rename_i hk
        split at e
        · rename_i hbig
          simp only [Option.some.injEq, Prod.mk.injEq] at e
          obtain ⟨rfl, rfl⟩ := e
          exact OpJ.capped (fun K' kk => OpJ.appendNil ho ht ht2 hd2 ti hzs (s.ev hx) (srcV_some hy s) (by omega) (bleN hbig) hb0 kk) k
        · cases e
    · rename_i i q n' c hx
      split at e
      · rename_i B hb
        split at e
        · rename_i hc
          simp only [Bool.and_eq_true] at hc
          simp only [Option.some.injEq, Prod.mk.injEq] at e
          obtain ⟨rfl, rfl⟩ := e
          exact OpJ.capped (fun K' kk => OpJ.append ho ht ht2 hd2 ti hzs (s.ev hx) hb (isWr_md hc.1.1.1.1) (beqN hc.1.1.1.2) rfl (bleN hc.1.1.2) (srcV_some hy s) hc.1.2 (bleN hc.2) hb0 kk) k
        · cases e
      · cases e
    · cases e
  · cases e
theorem zeroCells_list (z : Array Value) (k : Nat) (hz : z.size ≠ 0) : (Builtin.zeroCells z k).toList = (List.replicate k z.toList).flatten := by
  have hne : z.toList ≠ [] := by intro e; apply hz; simpa using congrArg List.length e
  have := range_cycle z.toList hne k
  rw [← this]
  simp only [Builtin.zeroCells, Array.toList_map, Array.toList_range, Array.length_toList]
  apply List.map_congr_left
  intro i _
  simp [Array.getElem!_eq_getD]
theorem ok_appZ {t t2 e : TypeId} {k2 : IntKind} {z : Value} {sz bz : Nat} {x y : Operand} (ho : o.op = .call { callee := .builtin .append, args := #[x, y], argTypes := #[t, t2] })
    (ht : P.underlying t = some (.slice e)) (ht2 : P.underlying t2 = some (.int k2)) (ti : TI P e z sz bz) (hzs : z.cells.size = sz) (hs0 : 0 < sz) (hb0 : 0 < bz) (hz : z.cells.toList.all scal = true) : StepOk P gs m N o (.appZ sz bz z.cells.toList x y) := by
  intro K Kp f F h v r e s k
  simp only [stepK, sMv, sPick, sNilck, sBin, sGen, sConv, sNot, sEqB, sLenS, sIdxS, sEqn, sToB, sToT, sAlloc, sBox, sLoad, sLoadA, sStore, sFld, sIdx, sIdxA, sCut, sBld, sBls, sExt, sLen, sCap0, sApp, sAppZ, sPart, sMkf, evB_eq, partsB_eq] at e
  split at e
  · rename_i n hx hy
    split at e
    · rename_i hc
      simp only [Bool.and_eq_true] at hc
      simp only [Option.some.injEq, Prod.mk.injEq] at e
      obtain ⟨rfl, rfl⟩ := e
      refine OpJ.capped (fun K' kk => ?_) k
      intro hd C σ w a next Qe hC I FF hnx hp
      have ex := (FF.ev (s.ev hx)).scal_eq rfl
      have ey := (FF.ev (s.ev hy)).scal_eq rfl
      obtain ⟨c', d, hle, hrun⟩ := run_append_zeros (w := w) (ty := o.type) ht ht2 ti (bltN hc.1) (bleN hc.2) hb0 (by omega : sz ≠ 0)
      have h0 : z.cells.size ≠ 0 := by omega
      have hsz : ((Builtin.zeroCells z.cells n ++ Builtin.zeroCells z.cells (c' - n))).size = c' * sz := by
        simp only [Array.size_append, zeroCells_size, hzs]
        rw [← Nat.add_mul]; congr 1; omega
      have hlen : ((List.replicate n z.cells.toList).flatten).length = n * sz := by simp [hzs]
      have hsc : ∀ u ∈ (List.replicate n z.cells.toList).flatten, scal u = true := by
        intro u hu
        rw [List.mem_flatten] at hu
        obtain ⟨l, hl, hul⟩ := hu
        rw [List.mem_replicate] at hl
        rw [hl.2] at hul
        exact List.all_eq_true.1 hz u hul
      have I2 := (I.draw d).push (Builtin.zeroCells z.cells n ++ Builtin.zeroCells z.cells (c' - n)) e ((List.replicate n z.cells.toList).flatten) sz (by rw [hsz, hlen]; exact Nat.mul_le_mul_right _ hle) (fun j u hj => by
        refine ⟨u, ?_, VR.scal (hsc u (List.mem_of_getElem? hj))⟩
        have hjl := (List.getElem?_eq_some_iff.1 hj).1
        rw [Array.getElem?_append_left (by rw [zeroCells_size, hzs]; omega), ← Array.getElem?_toList, zeroCells_list _ _ h0]
        exact hj) (fun u hu => isOne_one0 (isOne_of_scal (hsc u hu)))
      unfold Oper.wp
      have : (execOp a.eval o).run P w = .ok (.value (.slice (some ⟨w.heap.size, 0, none⟩) n c')) { w with drawn := d, heap := w.heap.push (.cells (Builtin.zeroCells z.cells n ++ Builtin.zeroCells z.cells (c' - n)) e) } := by
        simp only [execOp, ho, resolve, invoke, builtin, List.map_toArray, List.map_cons, List.map_nil, ex, ey, Sem.run_bind, Sem.run_pure, Result.andThen_ok]
        have := hrun
        simp only [Int.ofNat_eq_natCast] at *
        rw [hrun]; rfl
      rw [this]
      refine hnx _ _ _ _ _ I2 ((FF.ext (Ext.app _ _)).put ?_ hd) (kk c' hle)
      have := VR.sl (σ := σ ++ ([⟨w.heap.size, 0, (Builtin.zeroCells z.cells n ++ Builtin.zeroCells z.cells (c' - n)).size, sz⟩] : List Loc)) (i := h.length) (o := 0) (n := n) (c := c') (by rw [St.app_l, getElem?_snoc, if_pos I.sim.len.symm]) hle (Nat.le_refl _) (by simp only [hsz]; omega)
      simpa using this
    · cases e
  · cases e

theorem toL1 {α : Type} {a : Array α} {x : α} (h : a.toList = [x]) : a = #[x] := by
  apply Array.ext'; simpa using h
theorem toL2 {α : Type} {a : Array α} {x y : α} (h : a.toList = [x, y]) : a = #[x, y] := by
  apply Array.ext'; simpa using h
theorem cmpCall_ok {c : Call} {k : KO} (ho : o.op = .call c) (e : cmpCall P o c = some k) (hnc : ∀ fx as, k = .call fx as → False) : StepOk P gs m N o k := by
  obtain ⟨callee, as, ats⟩ := c
  unfold cmpCall at e
  split at e
  · obtain rfl := Option.some.inj e
    exact (hnc _ _ rfl).elim
  · rename_i hcal
    simp only at hcal; subst hcal
    split at e
    · rename_i x t h1 h2
      obtain rfl := toL1 h1; obtain rfl := toL1 h2
      split at e
      · rename_i el ht
        obtain rfl := Option.some.inj e
        exact ok_len ho ht
      · rename_i ht
        obtain rfl := Option.some.inj e
        exact ok_lenS ho ht
      · cases e
    · cases e
  · rename_i hcal
    simp only at hcal; subst hcal
    split at e
    · rename_i x t h1 h2
      obtain rfl := toL1 h1; obtain rfl := toL1 h2
      split at e
      · rename_i el ht
        obtain rfl := Option.some.inj e
        exact ok_cap0 ho ht
      · cases e
    · cases e
  · obtain rfl := Option.some.inj e; exact ok_gen
  · obtain rfl := Option.some.inj e; exact ok_gen
  · rename_i hcal
    simp only at hcal; subst hcal
    split at e
    · rename_i x y t t2 h1 h2
      obtain rfl := toL2 h1; obtain rfl := toL2 h2
      split at e
      · rename_i el d2 ht ht2
        split at e
        · rename_i z sz bz hi
          split at e
          · rename_i hc
            simp only [Bool.and_eq_true] at hc
            split at e
            · rename_i k2
              split at e
              · rename_i hz
                obtain rfl := Option.some.inj e
                exact ok_appZ ho ht ht2 (tinf_TI hi) (beqN hc.1.1) (bltN hc.2) (bltN hc.1.2) hz
              · cases e
            · rename_i hni
              obtain rfl := Option.some.inj e
              exact ok_app ho ht ht2 (by cases d2 <;> first | rfl | exact (hni _ rfl).elim) (tinf_TI hi) (beqN hc.1.1) (bltN hc.1.2)
          · cases e
        · cases e
      · cases e
    · cases e
  · cases e
theorem cmpO_ok {k : KO} (e : cmpO P o = some k) (hnc : ∀ fx as, k = .call fx as → False) : StepOk P gs m N o k := by
  unfold cmpO at e
  split at e
  · rename_i x ho; obtain rfl := Option.some.inj e; exact ok_mv (.inl ho)
  · rename_i x ho; obtain rfl := Option.some.inj e; exact ok_mv (.inr ho)
  · rename_i c a b ho; obtain rfl := Option.some.inj e; exact ok_pick ho
  · rename_i x ho; obtain rfl := Option.some.inj e; exact ok_nilck ho
  · rename_i op t x y t' ho
    obtain rfl := Option.some.inj e
    unfold cmpBin
    rw [← ho]
    split
    · rename_i el ht
      split
      · exact ok_eqn_sl (neg := false) ho ht
      · exact ok_gen
    · rename_i el ht
      split
      · exact ok_eqn_sl (neg := true) ho ht
      · exact ok_gen
    · rename_i el ht
      split
      · exact ok_eqn_p (neg := false) ho ht
      · exact ok_gen
    · rename_i el ht
      split
      · exact ok_eqn_p (neg := true) ho ht
      · exact ok_gen
    · rename_i ht; exact ok_eqB (neg := false) ho ht
    · rename_i ht; exact ok_eqB (neg := true) ho ht
    · exact ok_bin ho
  · rename_i u t x ho
    split at e
    · obtain rfl := Option.some.inj e; exact ok_not ho
    · obtain rfl := Option.some.inj e; exact ok_gen
  · rename_i s d x ho
    unfold cmpConv at e
    split at e
    · rename_i el hs hd
      split at e
      · rename_i he
        obtain rfl := Option.some.inj e
        exact ok_toB ho hs hd he
      · cases e
    · rename_i el hs hd
      split at e
      · rename_i he
        obtain rfl := Option.some.inj e
        exact ok_toT ho hs he hd
      · cases e
    · cases e
    · rename_i hs hd
      obtain rfl := Option.some.inj e; exact ok_conv ho hs hd
    · obtain rfl := Option.some.inj e; exact ok_gen
  · rename_i t ho
    split at e
    · rename_i z sz bz hi
      split at e
      · rename_i hz
        obtain rfl := Option.some.inj e
        exact ok_alloc ho (tinf_TI hi) hz
      · cases e
    · cases e
  · rename_i t x ho; obtain rfl := Option.some.inj e; exact ok_box ho
  · rename_i t x ho
    split at e
    · rename_i d ht
      split at e
      · rename_i hd
        split at e
        · rename_i z sz bz hi
          obtain rfl := Option.some.inj e
          exact ok_loadA ho ht hd (tinf_TI hi)
        · cases e
      · rename_i hd
        obtain rfl := Option.some.inj e
        exact ok_load ho ht (by simpa using hd)
    · cases e
  · rename_i t x y ho
    split at e
    · rename_i z sz bz hi
      obtain rfl := Option.some.inj e
      exact ok_store ho (tinf_TI hi)
    · cases e
  · rename_i t x j ho
    unfold cmpFld at e
    split at e
    · rename_i fs ht
      split at e
      · rename_i fd hf
        split at e
        · rename_i z sz bz hi
          split at e
          · cases e
          · rename_i hz
            obtain rfl := Option.some.inj e
            exact ok_fld ho ht hf (tinf_TI hi) hz
        · cases e
      · cases e
    · cases e
  · rename_i t x y ho
    unfold cmpAddr at e
    split at e
    · rename_i el ht
      split at e
      · rename_i z sz bz hi
        obtain rfl := Option.some.inj e
        exact ok_idx ho ht (tinf_TI hi)
      · cases e
    · rename_i n el ht
      split at e
      · rename_i z sz bz hi
        obtain rfl := Option.some.inj e
        exact ok_idxA ho ht (tinf_TI hi)
      · cases e
    · cases e
  · rename_i t x y ho
    split at e
    · rename_i ht
      obtain rfl := Option.some.inj e; exact ok_idxS ho ht
    · obtain rfl := Option.some.inj e; exact ok_gen
  · rename_i t x lo hi mx ho
    split at e
    · rename_i el ht
      split at e
      · rename_i z sz bz hi'
        split at e
        · cases e
        · rename_i hc
          obtain rfl := Option.some.inj e
          exact ok_cut ho ht (tinf_TI hi') (by intro h1; cases hh : hi.isSome <;> simp_all)
      · cases e
    · obtain rfl := Option.some.inj e; exact ok_gen
    · cases e
  · rename_i t ps ho
    unfold cmpBld at e
    split at e
    · rename_i fs ht
      split at e
      · rename_i z sz bz hi
        split at e
        · rename_i hz
          split at e
          · rename_i pl hpl
            obtain rfl := Option.some.inj e
            exact ok_bld ho ht (tinf_TI hi) hz (pureRun_run hpl)
          · cases e
        · cases e
      · cases e
    · cases e
  · rename_i t n ps ho
    unfold cmpBls at e
    split at e
    · rename_i el ht
      split at e
      · rename_i z sz bz hi
        split at e
        · rename_i hc
          simp only [Bool.and_eq_true] at hc
          obtain rfl := Option.some.inj e
          exact ok_bls ho ht (tinf_TI hi) hc.1.1.2 hc.1.2 hc.1.1.1 hc.2
        · cases e
      · cases e
    · cases e
  · rename_i x i ho; obtain rfl := Option.some.inj e; exact ok_ext ho
  · rename_i t x j ho
    unfold cmpPart at e
    split at e
    · rename_i fs ht
      split at e
      · rename_i fd hf
        split at e
        · rename_i d hd
          split at e
          · cases e
          · rename_i ha
            obtain rfl := Option.some.inj e
            exact ok_part ho ht hf hd (by simpa using ha)
        · cases e
      · cases e
    · cases e
  · rename_i fn xs ys ho
    split at e
    · cases e
    · rename_i hm
      obtain rfl := Option.some.inj e
      exact ok_mkf (by simpa using hm) ho
  · rename_i c ho; exact cmpCall_ok ho e hnc
  · cases e
theorem cmpO_call {fx : Operand} {as : List Operand} (e : cmpO P o = some (.call fx as)) : ∃ as' ats, o.op = .call ⟨.value fx, as', ats⟩ ∧ as'.toList = as := by
  unfold cmpO at e
  split at e
  all_goals first
    | (cases e; done)
    | (rename_i c ho
       obtain ⟨callee, as', ats⟩ := c
       unfold cmpCall at e
       split at e
       · rename_i hcal
         simp only at hcal; subst hcal
         simp only [Option.some.injEq, KO.call.injEq] at e
         obtain ⟨rfl, rfl⟩ := e
         exact ⟨as', ats, ho, rfl⟩
       all_goals (exfalso; revert e; (repeat' split) <;> simp))
    | (exfalso; revert e; (try unfold cmpBin); (try unfold cmpConv); (try unfold cmpFld); (try unfold cmpAddr); (try unfold cmpBld); (try unfold cmpBls); (try unfold cmpPart); (repeat' split) <;> simp)
end
end Go.J
