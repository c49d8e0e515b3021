/- The program logic J, part 27: the interpreter of code and functions is right: regions, code, functions. No condition. -/
import Derived.Test.YthknbhghkcdepaaGreatDoorJRunS
set_option maxHeartbeats 4000000
set_option linter.unusedVariables false
set_option linter.unusedSimpArgs false
namespace Go.J
section
variable {P : Program} {gs : List (Nat × Obj)} {m N : Nat} {K : AFr → List Blk → Prop} {Kp : Value → AFr → List Blk → Prop} {f F : AFr} {h h' : List Blk} {o : Oper} {v : Value} {r : Option (List Blk)} {Q : APost} {call : CallF}

theorem cmpOp_some {all : List Oper} {k : KOp} (e : cmpOp P all o = some k) : cmpO1 P o = k.op ∧ k.dst = o.dst ∧ match o.guard with
    | none => k.g = none
    | some (j, b) => ∃ t, (all[j]?).bind (·.dst) = some t ∧ k.g = some (t, b) := by
  unfold cmpOp at e
  split at e
  · rename_i hg
    obtain rfl := Option.some.inj e
    exact ⟨rfl, rfl, by rw [hg]⟩
  · rename_i j b hg
    split at e
    · rename_i t ht
      obtain rfl := Option.some.inj e
      exact ⟨rfl, rfl, by rw [hg]; exact ⟨t, ht, rfl⟩⟩
    · cases e
theorem cmpOps_get {all : List Oper} : ∀ {os : List Oper} {ks : List KOp}, cmpOps P all os = some ks → os.length = ks.length ∧ ∀ (i : Nat) (k : KOp), ks[i]? = some k → ∃ o, os[i]? = some o ∧ cmpOp P all o = some k
  | [], ks, e => by simp [cmpOps] at e; subst e; exact ⟨rfl, fun i k h => by simp at h⟩
  | o :: os, ks, e => by
    simp only [cmpOps] at e
    split at e
    · rename_i k ks' hk hks
      obtain rfl := Option.some.inj e
      obtain ⟨h1, h2⟩ := cmpOps_get hks
      refine ⟨by simp [h1], fun i k' hi => ?_⟩
      cases i with
      | zero => simp at hi; subst hi; exact ⟨o, by simp, hk⟩
      | succ i => simpa using h2 i k' (by simpa using hi)
    · cases e
theorem gdK_true {all : List Oper} {k : KOp} (e : cmpOp P all o = some k) (hg : gdK f k.g = some true) (s : Sup f F) : gdo all o F := by
  obtain ⟨_, _, h3⟩ := cmpOp_some e
  unfold gdo
  split
  · trivial
  · rename_i j b hgd
    rw [hgd] at h3
    obtain ⟨t, ht, hk⟩ := h3
    rw [hk] at hg
    simp only [gdK, lkB_eq] at hg
    split at hg
    · rename_i x hx
      have : x = b := by simpa using hg
      subst this
      exact ⟨t, ht, s _ _ hx⟩
    · cases hg
    · cases hg
theorem gdK_false {all : List Oper} {k : KOp} (e : cmpOp P all o = some k) (hg : gdK f k.g = some false) (s : Sup f F) : gskip all o F := by
  obtain ⟨_, _, h3⟩ := cmpOp_some e
  unfold gskip
  split
  · rename_i hgd
    rw [hgd] at h3
    simp only at h3
    rw [h3] at hg
    simp [gdK] at hg
  · rename_i j b hgd
    rw [hgd] at h3
    obtain ⟨t, ht, hk⟩ := h3
    rw [hk] at hg
    simp only [gdK, lkB_eq] at hg
    split at hg
    · rename_i x hx
      have : x = !b := by cases x <;> cases b <;> simp_all
      subst this
      exact ⟨t, ht, .inl (s _ _ hx)⟩
    · rename_i hx
      exact ⟨t, ht, .inr (s _ _ hx)⟩
    · cases hg

theorem Sup.pt {d : Option Nat} (s : Sup f F) (v : Value) : Sup (pt f d v) (pt F d v) := by
  intro t u ht
  cases d with
  | none => exact s t u ht
  | some d =>
    simp only [Go.J.pt, lk] at ht ⊢
    split at ht
    · rename_i e; rw [if_pos e]; exact ht
    · rename_i e; rw [if_neg e]; exact s t u ht

theorem runOps_ok (hc : CallOk P gs call) {all : List Oper} {e : AEx} {f' : AFr} : ∀ {os : List Oper} {ks : List KOp} {f F : AFr} {h : List Blk}, cmpOps P all os = some ks → runOps P call ks f h = some (e, f', h') → Sup f F → (∀ F', Sup f' F' → Q .normal F' h') → AOps P gs m N Q all os F h
  | [], ks, f, F, h, ek, er, s, q => by
    simp [cmpOps] at ek; subst ek
    simp only [runOps, Option.some.injEq, Prod.mk.injEq] at er
    obtain ⟨_, rfl, rfl⟩ := er
    exact AOps.done (q F s)
  | o :: os, ks, f, F, h, ek, er, s, q => by
    simp only [cmpOps] at ek
    split at ek
    · rename_i k ks' hk hks
      obtain rfl := Option.some.inj ek
      obtain ⟨c1, c2, _⟩ := cmpOp_some hk
      simp only [runOps] at er
      split at er
      · rename_i hg
        refine AOps.stepDo (gdK_true hk hg s) ?_
        split at er
        · rename_i v hs
          refine stepC_ok hc c1 hs s ?_
          rw [c2] at er
          exact runOps_ok hc hks er (s.pt v) q
        · rename_i v h1 hs
          refine stepC_ok hc c1 hs s ?_
          rw [c2] at er
          exact runOps_ok hc hks er (s.pt v) q
        · cases er
      · rename_i hg
        refine AOps.stepV (v := UN) (.inr ⟨gdK_false hk hg s, rfl⟩) ?_
        rw [c2] at er
        exact runOps_ok hc hks er (s.pt _) q
      · cases er
    · cases ek

theorem eqL_eq {e : Value → Value → Bool} (he : ∀ a b, e a b = true → a = b) : ∀ {l r : List Value}, eqL e l r = true → l = r
  | [], [], _ => rfl
  | [], _ :: _, h => by simp [eqL] at h
  | _ :: _, [], h => by simp [eqL] at h
  | a :: l, b :: r, h => by
    simp only [eqL, Bool.and_eq_true] at h
    rw [he a b h.1, eqL_eq he h.2]
theorem eqAd_eq : ∀ {a b : Option Addr}, eqAd a b = true → a = b
  | none, none, _ => rfl
  | none, some _, h => by simp [eqAd] at h
  | some ⟨_, _, none⟩, none, h => by simp [eqAd] at h
  | some ⟨_, _, some _⟩, none, h => by simp [eqAd] at h
  | some ⟨i, q, none⟩, some ⟨j, r, none⟩, h => by
    simp only [eqAd, Bool.and_eq_true] at h
    rw [beqN h.1, beqN h.2]
  | some ⟨_, _, some _⟩, some ⟨_, _, none⟩, h => by simp [eqAd] at h
  | some ⟨_, _, none⟩, some ⟨_, _, some _⟩, h => by simp [eqAd] at h
  | some ⟨_, _, some _⟩, some ⟨_, _, some _⟩, h => by simp [eqAd] at h
theorem eqArr {a b : Array Value} (h : a.toList = b.toList) : a = b := by apply Array.ext'; exact h
theorem eqVal_eq : ∀ (n : Nat) (a b : Value), eqVal n a b = true → a = b
  | 0, _, _, h => by simp [eqVal] at h
  | n + 1, a, b, h => by
    have ih := eqVal_eq n
    cases a <;> cases b <;> simp only [eqVal] at h <;> first | cases h; done | skip
    · simpa using h
    · simp only [Bool.and_eq_true, decide_eq_true_eq] at h; rw [h.1, h.2]
    · rename_i x y
      have h := of_decide_eq_true h
      have h2 : x.data = y.data := by apply Array.ext'; exact h
      congr 1; cases x; cases y; simp_all
    · rw [eqAd_eq h]
    · simp only [Bool.and_eq_true] at h
      rw [eqAd_eq h.1.1, beqN h.1.2, beqN h.2]
    · rw [of_decide_eq_true h]
    · simp only [Bool.and_eq_true, decide_eq_true_eq] at h
      rw [h.1.1, eqArr (eqL_eq ih h.1.2), eqArr (eqL_eq ih h.2)]
    · rfl
    · rfl
    · rw [eqArr (eqL_eq ih h)]
    · rw [eqArr (eqL_eq ih h)]

theorem dst_get {ops : List Oper} {ks : List KOp} (hk : cmpOps P ops ops = some ks) (i : Nat) : (ks[i]?).bind (·.dst) = (ops[i]?).bind (·.dst) := by
  obtain ⟨h1, h2⟩ := cmpOps_get hk
  cases hi : ks[i]? with
  | none =>
    have : ops[i]? = none := by rw [List.getElem?_eq_none_iff] at hi ⊢; omega
    rw [this]; rfl
  | some k =>
    obtain ⟨o, ho, hc⟩ := h2 i k hi
    rw [ho]
    simp only [Option.bind_some]
    exact (cmpOp_some hc).2.1
theorem hideD_eq {ops : List Oper} {ks : List KOp} (hk : cmpOps P ops ops = some ks) (dep : List Nat) : ∀ (pend : List (Nat × Value)), hideD ks dep pend = hide ops dep pend
  | [] => rfl
  | (i, v) :: r => by
    simp only [hideD, hide, dst_get hk i, hideD_eq hk dep r]
    rfl
theorem dp_get {ops : List Oper} {n i : Nat} {d : List Nat} (e : ((List.range n).map (deps ops))[i]? = some d) : d = deps ops i := by
  simp only [List.getElem?_map, Option.map_eq_some_iff] at e
  obtain ⟨j, hj, rfl⟩ := e
  have := (List.getElem?_eq_some_iff.1 hj)
  obtain ⟨a, b⟩ := this
  simp at b; rw [b]

theorem okD_ok (hc : CallOk P gs call) {ops : List Oper} {ks : List KOp} {n : Nat} (hk : cmpOps P ops ops = some ks) {pend : List (Nat × Value)} : ∀ {l : List (Nat × Value)}, okD P call ks ((List.range n).map (deps ops)) f h pend l = true → allOk P gs m N ops f h pend l
  | [], _ => trivial
  | (i, v) :: r, e => by
    simp only [okD, Bool.and_eq_true] at e
    refine ⟨?_, okD_ok hc hk e.2⟩
    have e1 := e.1
    split at e1
    · rename_i k d hki hdi
      obtain ⟨o, ho, hco⟩ := (cmpOps_get hk).2 i k hki
      obtain rfl := dp_get hdi
      refine ⟨o, ho, ?_⟩
      rw [hideD_eq hk] at e1
      split at e1
      · rename_i hg
        split at e1
        · rename_i u hs
          obtain rfl := eqVal_eq _ _ _ e1
          exact .inl ⟨gdK_true hco hg (Sup.refl _), fun F hF K Kp kk => stepC_ok hc (cmpOp_some hco).1 hs hF kk⟩
        · cases e1
      · rename_i hg
        obtain rfl := eqVal_eq _ _ _ e1
        exact .inr ⟨gdK_false hco hg (Sup.refl _), rfl⟩
      · cases e1
    · cases e1

theorem runD_ok (hc : CallOk P gs call) {ops : List Oper} {ks : List KOp} {n : Nat} (hk : cmpOps P ops ops = some ks) {e : AEx} {f' : AFr} : ∀ {rem : List Nat} {pend : List (Nat × Value)} {f : AFr} {h : List Blk}, runD P call ks ((List.range n).map (deps ops)) rem pend f h = some (e, f', h') → (∀ F', Sup f' F' → Q .normal F' h') → DJ P gs m N ops Q rem pend f h
  | [], pend, f, h, er, q => by
    simp only [runD, Option.some.injEq, Prod.mk.injEq] at er
    obtain ⟨_, rfl, rfl⟩ := er
    exact q
  | i :: rem, pend, f, h, er, q => by
    simp only [runD] at er
    split at er
    · rename_i k d hki hdi
      obtain ⟨o, ho, hco⟩ := (cmpOps_get hk).2 i k hki
      obtain rfl := dp_get hdi
      have hd := (cmpOp_some hco).2.1
      split at er
      · rename_i hf
        rw [hideD_eq hk] at er
        rw [hd] at hf er
        split at er
        · rename_i hg
          split at er
          · rename_i v hs
            exact DJ.val v ho hf (.inl ⟨gdK_true hco hg (Sup.refl _), fun F hF K Kp kk => stepC_ok hc (cmpOp_some hco).1 hs hF kk⟩) (runD_ok hc hk er q)
          · rename_i v h1 hs
            split at er
            · rename_i hb
              simp only [Bool.and_eq_true] at hb
              refine DJ.eff ho hf ?_ (gdK_true hco hg (Sup.refl _)) (fun F hF => stepC_ok hc (cmpOp_some hco).1 hs hF ⟨v, rfl, okD_ok hc hk hb.2, runD_ok hc hk er q⟩)
              refine List.all_eq_true.2 fun y hy => ?_
              have := List.all_eq_true.1 hb.1 y hy
              split at this
              · rename_i dy hdy
                obtain rfl := dp_get hdy
                exact this
              · cases this
            · cases er
          · cases er
        · rename_i hg
          exact DJ.val _ ho hf (.inr ⟨gdK_false hco hg (Sup.refl _), rfl⟩) (runD_ok hc hk er q)
        · cases er
      · cases er
    · cases er

theorem nodupB_nodup : ∀ {l : List Nat}, nodupB l = true → l.Nodup
  | [], _ => .nil
  | x :: l, h => by
    simp only [nodupB, Bool.and_eq_true, Bool.not_eq_true'] at h
    refine List.nodup_cons.2 ⟨?_, nodupB_nodup h.2⟩
    intro hx
    have : l.contains x = true := by simpa using hx
    rw [this] at h; cases h.1

theorem lk_ins : ∀ (g : AFr) (d : Nat) (v : Value) (t : Nat), lk (ins g d v) t = if t = d then some v else lk g t
  | [], d, v, t => by simp [ins, lk]
  | (s, u) :: g, d, v, t => by
    simp only [ins]
    split
    · rename_i e
      have e := beqN e
      subst e
      simp only [lk]
      split <;> rfl
    · split
      · simp only [lk]
      · rename_i hne _
        simp only [lk, lk_ins g d v t]
        split
        · rename_i e
          subst e
          rw [if_neg (by intro e; apply hne; rw [e]; simp)]
        · rfl
theorem lk_norm : ∀ (g : AFr) (t : Nat), lk (norm g) t = lk g t
  | [], t => rfl
  | (s, v) :: g, t => by
    simp only [norm, lk_ins, lk, lk_norm g t]
theorem norm_sup (g : AFr) : Sup (norm g) g := fun t v ht => by rw [lk_norm] at ht; exact ht
theorem sup_norm {f' F' : AFr} (s : Sup f' F') : Sup (norm f') F' := (norm_sup f').trans s

theorem AWP.supp {c : Code} (s : Sup f F) (k : AWP P gs m N c Q f h) : AWP P gs m N c Q F h := AWP.wk s.wk k

theorem runOps_normal : ∀ {ks : List KOp} {f : AFr} {h : List Blk} {e : AEx} {f' : AFr} {h' : List Blk}, runOps P call ks f h = some (e, f', h') → e = .normal
  | [], f, h, e, f', h', er => by
    simp only [runOps, Option.some.injEq, Prod.mk.injEq] at er
    exact er.1.symm
  | k :: ks, f, h, e, f', h', er => by
    simp only [runOps] at er
    split at er
    · split at er
      · exact runOps_normal er
      · exact runOps_normal er
      · cases er
    · exact runOps_normal er
    · cases er
theorem runD_normal {ks : List KOp} {dp : List (List Nat)} : ∀ {rem : List Nat} {pend : List (Nat × Value)} {f : AFr} {h : List Blk} {e : AEx} {f' : AFr} {h' : List Blk}, runD P call ks dp rem pend f h = some (e, f', h') → e = .normal
  | [], pend, f, h, e, f', h', er => by
    simp only [runD, Option.some.injEq, Prod.mk.injEq] at er
    exact er.1.symm
  | i :: rem, pend, f, h, e, f', h', er => by
    simp only [runD] at er
    split at er
    · split at er
      · split at er
        · split at er
          · exact runD_normal er
          · split at er
            · exact runD_normal er
            · cases er
          · cases er
        · exact runD_normal er
        · cases er
      · cases er
    · cases er
theorem runC_succ : ∀ (n : Nat) {k : KC} {f : AFr} {h : List Blk} {r : AEx × AFr × List Blk}, runC P call n k f h = some r → runC P call (n + 1) k f h = some r := by
  intro n
  induction n with
  | zero => intro k f h r er; simp [runC] at er
  | succ n ih =>
    intro k f h r er
    unfold runC at er ⊢
    cases k with
    | seq a b =>
      simp only at er ⊢
      split at er
      · rename_i f1 h1 e1
        rw [ih e1]; exact ih er
      · rename_i x hne
        rw [ih er]
        split
        · rename_i f1 h1 e1; exact (hne f1 h1 (er.trans e1)).elim
        · rfl
    | cond x a b =>
      simp only at er ⊢
      split at er
      · exact ih er
      · exact ih er
      · cases er
    | blk id a =>
      simp only at er ⊢
      split at er
      · rename_i i f1 h1 e1
        rw [ih e1]; exact er
      · rename_i x hne
        rw [ih er]
        split
        · rename_i i f1 h1 e1; exact (hne i f1 h1 (er.trans e1)).elim
        · rfl
    | loop a =>
      simp only at er ⊢
      split at er
      · rename_i f1 h1 e1
        rw [ih e1]; exact ih er
      · rename_i x hne
        rw [ih er]
        split
        · rename_i f1 h1 e1; exact (hne f1 h1 (er.trans e1)).elim
        · rfl
    | _ => exact er
theorem runC_mono' {n j : Nat} (hj : j ≤ n) {k : KC} {f : AFr} {h : List Blk} {r : AEx × AFr × List Blk} (e : runC P call j k f h = some r) : runC P call n k f h = some r := by
  induction n with
  | zero =>
    obtain rfl : j = 0 := by omega
    exact e
  | succ n ih =>
    rcases Nat.lt_or_ge n j with h | h
    · obtain rfl : j = n + 1 := by omega
      exact e
    · exact runC_succ n (ih h)

/-- The interpreter's run of code is the machine's. -/
theorem runC_ok (hc : CallOk P gs call) {hs : Hints} : ∀ (n : Nat) {c : Code} {k : KC} {Q : APost} {f : AFr} {h : List Blk} {e : AEx} {f' : AFr} {h' : List Blk}, cmpC P N hs c = some k → runC P call n k f h = some (e, f', h') → (∀ F', Sup f' F' → Q e F' h') → AWP P gs m N c Q f h := by
  intro n
  induction n with
  | zero => intro c k Q f h e f' h' _ er; simp [runC] at er
  | succ n ih =>
    intro c k Q f h e f' h' ek er q
    cases c with
    | skip =>
      simp only [cmpC, Option.some.injEq] at ek; subst ek
      simp only [runC, Option.some.injEq, Prod.mk.injEq] at er
      obtain ⟨rfl, rfl, rfl⟩ := er
      exact AWP.skip (q f (Sup.refl f))
    | label l =>
      simp only [cmpC, Option.some.injEq] at ek; subst ek
      simp only [runC, Option.some.injEq, Prod.mk.injEq] at er
      obtain ⟨rfl, rfl, rfl⟩ := er
      exact AWP.label (q f (Sup.refl f))
    | exit id =>
      simp only [cmpC, Option.some.injEq] at ek; subst ek
      simp only [runC, Option.some.injEq, Prod.mk.injEq] at er
      obtain ⟨rfl, rfl, rfl⟩ := er
      exact AWP.exit (q f (Sup.refl f))
    | ret =>
      simp only [cmpC, Option.some.injEq] at ek; subst ek
      simp only [runC, Option.some.injEq, Prod.mk.injEq] at er
      obtain ⟨rfl, rfl, rfl⟩ := er
      exact AWP.ret (q f (Sup.refl f))
    | region id ops draw =>
      simp only [cmpC] at ek
      split at ek
      · rename_i hdr; subst hdr
        split at ek
        · rename_i ot og co hh
          unfold cmpDrw at ek
          split at ek
          · rename_i hcond
            simp only [Bool.and_eq_true] at hcond
            split at ek
            · rename_i ks hks
              obtain rfl := Option.some.inj ek
              simp only [runC] at er
              refine AWP.supp (f := fewer (dstsK ks) f) (fun t v ht => (fewer_lk ht).2) ?_
              refine AWP.drawn ot og co co hcond.1.1.1.1.1 hcond.1.1.1.1.2 hcond.1.1.1.2 hcond.1.1.2 hcond.1.2 (nodupB_nodup hcond.2) (runD_ok hc hks er ?_)
              have hen : e = .normal := runD_normal er
              subst hen; exact q
            · cases ek
          · cases ek
        · cases ek
      · rename_i hdr
        obtain rfl : draw = false := by simpa using hdr
        split at ek
        · rename_i hN
          split at ek
          · rename_i ks hks
            obtain rfl := Option.some.inj ek
            simp only [runC] at er
            refine AWP.region hN (runOps_ok hc hks er (Sup.refl f) ?_)
            have hen : e = .normal := runOps_normal er
            subst hen; exact q
          · cases ek
        · cases ek
    | seq a b =>
      simp only [cmpC] at ek
      split at ek
      · rename_i x y hx hy
        obtain rfl := Option.some.inj ek
        simp only [runC] at er
        split at er
        · rename_i f1 h1 e1
          exact AWP.seq (ih hx e1 (fun F' s => AWP.supp s (ih hy er q)))
        · rename_i hne
          refine AWP.seq (ih hx er (fun F' s => ?_))
          cases e with
          | normal => exact (hne _ _ er).elim
          | exit i => exact q F' s
          | goto l => exact q F' s
          | ret => exact q F' s
          | panic v => exact q F' s
      · cases ek
    | cond x a b =>
      simp only [cmpC] at ek
      split at ek
      · rename_i ka kb ha hb
        obtain rfl := Option.some.inj ek
        simp only [runC, evB_eq] at er
        split at er
        · rename_i hx
          exact AWP.cond hx (fun _ => ih ha er q) (fun e => by cases e)
        · rename_i hx
          exact AWP.cond hx (fun e => by cases e) (fun _ => ih hb er q)
        · cases er
      · cases ek
    | block id a =>
      simp only [cmpC] at ek
      split at ek
      · rename_i x hx
        obtain rfl := Option.some.inj ek
        simp only [runC] at er
        refine AWP.block ?_
        split at er
        · rename_i i f1 h1 e1
          refine ih hx e1 (fun F' s => ?_)
          simp only [inBlockA]
          split at er
          · rename_i hi
            rw [if_pos (beqN hi)]
            simp only [Option.some.injEq, Prod.mk.injEq] at er
            obtain ⟨rfl, rfl, rfl⟩ := er
            exact q F' s
          · rename_i hi
            rw [if_neg (by intro e; apply hi; rw [e]; simp)]
            simp only [Option.some.injEq, Prod.mk.injEq] at er
            obtain ⟨rfl, rfl, rfl⟩ := er
            exact q F' s
        · rename_i hne
          refine ih hx er (fun F' s => ?_)
          cases e with
          | normal => exact q F' s
          | exit i => exact (hne _ _ _ er).elim
          | goto l => exact q F' s
          | ret => exact q F' s
          | panic v => exact q F' s
      · cases ek
    | loop a =>
      simp only [cmpC] at ek
      split at ek
      · rename_i x hx
        obtain rfl := Option.some.inj ek
        refine AWP.loop (fun j F g => j ≤ n ∧ ∃ f0, Sup f0 F ∧ runC P call (j + 1) (.loop x) f0 g = some (e, f', h')) n ⟨Nat.le_refl _, f, Sup.refl f, er⟩ ?_
        rintro j F g ⟨hj, f0, s0, er0⟩
        simp only [runC] at er0
        have ihj : ∀ {c : Code} {k : KC} {Q : APost} {f : AFr} {h : List Blk} {e : AEx} {f' : AFr} {h' : List Blk}, cmpC P N hs c = some k → runC P call j k f h = some (e, f', h') → (∀ F', Sup f' F' → Q e F' h') → AWP P gs m N c Q f h := by
          intro c k Q f h e f' h' e1 e2 q2
          exact ih e1 (runC_mono' hj e2) q2
        split at er0
        · rename_i f1 h1 e1
          refine AWP.supp s0 (ihj hx e1 (fun F' s => ?_))
          cases j with
          | zero => simp [runC] at er0
          | succ j => exact ⟨j, F', h1, by omega, Wk.refl, by omega, norm f1, sup_norm s, er0⟩
        · rename_i hne
          refine AWP.supp s0 (ihj hx er0 (fun F' s => ?_))
          cases e with
          | normal => exact (hne _ _ er0).elim
          | exit i => exact q F' s
          | goto l => exact q F' s
          | ret => exact q F' s
          | panic v => exact q F' s
      · cases ek
    | _ =>
      simp only [cmpC, Option.some.injEq] at ek; subst ek
      simp [runC] at er
end
end Go.J
