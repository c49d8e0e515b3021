/- The program logic J, part 12: a call. No condition. -/
import Derived.Test.YthknbhghkcdepaaGreatDoorJSpec
set_option maxHeartbeats 4000000
set_option linter.unusedVariables false
set_option linter.unusedSimpArgs false
namespace Go.J

def isW (B : Blk) : Bool := match B.md with
  | .w => true
  | _ => false
def notR (B : Blk) : Bool := match B.md with
  | .r => false
  | _ => true
theorem isW_md {B : Blk} : isW B = true ↔ B.md = .w := by unfold isW; cases B.md <;> simp

/-- The caller's heap, where the called function's blocks have changed. -/
def setO (h : List Blk) (p : Option (Nat × Nat)) (U : Blk) : List Blk := match p with
  | some p => h.set p.1 U
  | none => h
def setB : List Blk → Rn → List Blk → List Blk → List Blk
  | D :: hl, p :: ρ, U :: hu, h => if isW D then setO (setB hl ρ hu h) p U else setB hl ρ hu h
  | _, _, _, h => h
def back (hl : List Blk) (ρ : Rn) (hu h : List Blk) : List Blk := setB hl ρ hu h ++ hu.drop hl.length
def news : Nat → Nat → Rn
  | _, 0 => []
  | n, k + 1 => some (n, 0) :: news (n + 1) k
theorem news_length : ∀ (k n : Nat), (news n k).length = k
  | 0, n => rfl
  | k + 1, n => by simp [news, news_length k]
theorem news_get : ∀ (k n j : Nat), j < k → (news n k)[j]? = some (some (n + j, 0))
  | 0, n, j, h => by omega
  | k + 1, n, 0, h => by simp [news]
  | k + 1, n, j + 1, h => by simp only [news, List.getElem?_cons_succ]; rw [news_get k (n + 1) j (by omega)]; congr 3; omega

theorem setO_length (h : List Blk) (p : Option (Nat × Nat)) (U : Blk) : (setO h p U).length = h.length := by cases p <;> simp [setO]
theorem setB_length : ∀ (hl : List Blk) (ρ : Rn) (hu h : List Blk), (setB hl ρ hu h).length = h.length
  | [], _, _, h => by simp [setB]
  | D :: hl, [], hu, h => by simp [setB]
  | D :: hl, p :: ρ, [], h => by simp [setB]
  | D :: hl, p :: ρ, U :: hu, h => by
    simp only [setB]; split
    · rw [setO_length, setB_length]
    · rw [setB_length]
theorem setB_get : ∀ (hl : List Blk) (ρ : Rn) (hu h : List Blk) (i : Nat), hl.length ≤ hu.length → hl.length = ρ.length → (∀ p, some p ∈ ρ → p.1 < h.length) →
    (∃ (k : Nat) (D : Blk) (p : Nat × Nat) (U : Blk), hl[k]? = some D ∧ D.md = .w ∧ ρ[k]? = some (some p) ∧ p.1 = i ∧ hu[k]? = some U ∧ (setB hl ρ hu h)[i]? = some U) ∨
    ((∀ (k : Nat) (D : Blk) (p : Nat × Nat), hl[k]? = some D → D.md = .w → ρ[k]? = some (some p) → p.1 ≠ i) ∧ (setB hl ρ hu h)[i]? = h[i]?)
  | [], ρ, hu, h, i, _, _, _ => .inr ⟨fun k D p hk => by simp at hk, by simp [setB]⟩
  | D :: hl, [], hu, h, i, _, h2, _ => by simp at h2
  | D :: hl, p :: ρ, [], h, i, h1, _, _ => by simp at h1
  | D :: hl, p0 :: ρ, U :: hu, h, i, h1, h2, h3 => by
    have ih := setB_get hl ρ hu h i (by simpa using h1) (by simpa using h2) (fun q hq => h3 q (List.mem_cons_of_mem _ hq))
    simp only [setB]
    have keep : (setB hl ρ hu h)[i]? = (if isW D then setO (setB hl ρ hu h) p0 U else setB hl ρ hu h)[i]? → (∀ p, p0 = some p → D.md = .w → p.1 ≠ i) →
        (∃ (k : Nat) (D' : Blk) (p : Nat × Nat) (U' : Blk), (D :: hl)[k]? = some D' ∧ D'.md = .w ∧ (p0 :: ρ)[k]? = some (some p) ∧ p.1 = i ∧ (U :: hu)[k]? = some U' ∧ (if isW D then setO (setB hl ρ hu h) p0 U else setB hl ρ hu h)[i]? = some U') ∨
        ((∀ (k : Nat) (D' : Blk) (p : Nat × Nat), (D :: hl)[k]? = some D' → D'.md = .w → (p0 :: ρ)[k]? = some (some p) → p.1 ≠ i) ∧ (if isW D then setO (setB hl ρ hu h) p0 U else setB hl ρ hu h)[i]? = h[i]?) := by
      intro he hn
      rw [← he]
      rcases ih with ⟨k, D', p', U', a1, a2, a3, a4, a5, a6⟩ | ⟨a1, a2⟩
      · exact .inl ⟨k + 1, D', p', U', by simpa using a1, a2, by simpa using a3, a4, by simpa using a5, a6⟩
      · refine .inr ⟨fun k D' p' hk hm hp => ?_, a2⟩
        cases k with
        | zero =>
          simp at hk hp; subst hk
          exact hn p' hp hm
        | succ k => exact a1 k D' p' (by simpa using hk) hm (by simpa using hp)
    cases hw : isW D with
    | false =>
      have := keep (by simp [hw]) (fun p _ hm => by rw [isW_md.2 hm] at hw; cases hw)
      simpa [hw] using this
    | true =>
      cases p0 with
      | none =>
        have := keep (by simp [hw, setO]) (fun p hp _ => by cases hp)
        simpa [hw, setO] using this
      | some p =>
        by_cases e : p.1 = i
        · refine .inl ⟨0, D, p, U, by simp, isW_md.1 hw, by simp, e, by simp, ?_⟩
          simp only [if_true, setO]
          rw [e, List.getElem?_set_self]
          rw [setB_length, ← e]; exact h3 p (List.mem_cons_self ..)
        · have := keep (by simp only [hw, if_true, setO]; rw [List.getElem?_set_ne e]) (fun q hq _ => by obtain rfl := Option.some.inj hq; exact e)
          simpa [hw] using this

/-- A block told again by the caller's numbers. -/
def BU (ρ : Rn) (B U : Blk) : Prop :=
  U.md = .d ∨ (live B = true ∧ U.es = B.es ∧ U.cells.length ≤ B.cells.length ∧ (∀ (j : Nat) (u : Value), U.cells[j]? = some u → ∃ v, B.cells[j]? = some v ∧ RU ρ v u) ∧ (U.md = .w → B.md = .w) ∧ U.cells.all one0 = true)
def UB (ρ : Rn) (h hu : List Blk) : Prop := h.length = hu.length ∧ ∀ (k : Nat) (B U : Blk), h[k]? = some B → hu[k]? = some U → BU ρ B U
theorem scal_one {v : Value} (h : scal v = true) : isOne v = true := by cases v <;> first | rfl | (simp [scal] at h)
theorem all_scal_one {vs : List Value} (h : vs.all zb = true) : vs.all isOne = true := List.all_eq_true.2 fun v hv => zb_one (List.all_eq_true.1 h v hv)
theorem all_zb {vs : List Value} (h : vs.all scal = true) : vs.all zb = true := List.all_eq_true.2 fun v hv => zb_of_scal (List.all_eq_true.1 h v hv)
theorem BU.same {ρ : Rn} {B : Blk} (hl : live B = true) (h : B.cells.all zb = true) : BU ρ B B :=
  .inr ⟨hl, rfl, Nat.le_refl _, fun j u hu => ⟨u, hu, .same (List.all_eq_true.1 h u (List.mem_of_getElem? hu))⟩, id, List.all_eq_true.2 (all_one0 (all_scal_one h))⟩
theorem BU.dead {ρ : Rn} {B U : Blk} (h : U.md = .d) : BU ρ B U := .inl h
theorem UB.nil {ρ : Rn} : UB ρ [] [] := ⟨rfl, fun k B U h => by simp at h⟩
theorem UB.cons {ρ : Rn} {B U : Blk} {h hu : List Blk} (a : BU ρ B U) (b : UB ρ h hu) : UB ρ (B :: h) (U :: hu) := by
  refine ⟨by simp [b.1], fun k B' U' hk hk' => ?_⟩
  cases k with
  | zero => simp at hk hk'; subst hk hk'; exact a
  | succ k => exact b.2 k B' U' (by simpa using hk) (by simpa using hk')
/-- Cells told again, one behind the other. -/
inductive RUs (ρ : Rn) : List Value → List Value → Prop
  | nil : RUs ρ [] []
  | cons {v u : Value} {vs us : List Value} (a : RU ρ v u) (b : RUs ρ vs us) : RUs ρ (v :: vs) (u :: us)
theorem RUs.get {ρ : Rn} : ∀ {vs us : List Value}, RUs ρ vs us → vs.length = us.length ∧ ∀ (j : Nat) (v u : Value), vs[j]? = some v → us[j]? = some u → RU ρ v u
  | _, _, .nil => ⟨rfl, fun j v u h => by simp at h⟩
  | _, _, .cons a b => by
    obtain ⟨h1, h2⟩ := b.get
    refine ⟨by simp [h1], fun j v u hv hu => ?_⟩
    cases j with
    | zero => simp at hv hu; subst hv hu; exact a
    | succ j => exact h2 j v u (by simpa using hv) (by simpa using hu)
theorem BU.mk {ρ : Rn} {c c' : List Value} {e : Nat} (h : RUs ρ c c') (h1 : c'.all one0 = true) : BU ρ ⟨c, .w, e⟩ ⟨c', .w, e⟩ := by
  obtain ⟨a, b⟩ := h.get
  refine .inr ⟨rfl, rfl, by simp [a], fun j u hu => ?_, id, h1⟩
  have hj := (List.getElem?_eq_some_iff.1 hu).1
  refine ⟨c[j]'(by simp only at hj; omega), List.getElem?_eq_getElem _, b j _ u (List.getElem?_eq_getElem _) hu⟩
theorem RU.tupleL {ρ : Rn} {vs us : List Value} (h : RUs ρ vs us) : RU ρ (.tuple vs.toArray) (.tuple us.toArray) :=
  .tuple (by simpa using h.get.1) (fun i x y hx hy => h.get.2 i x y (by simpa using hx) (by simpa using hy))
theorem RU.aggL {ρ : Rn} {vs us : List Value} (h : RUs ρ vs us) : RU ρ (.agg vs.toArray) (.agg us.toArray) :=
  .agg (by simpa using h.get.1) (fun i x y hx hy => h.get.2 i x y (by simpa using hx) (by simpa using hy))
theorem RUs.same {ρ : Rn} : ∀ {vs : List Value}, vs.all zb = true → RUs ρ vs vs
  | [], _ => .nil
  | v :: vs, h => by
    simp only [List.all_cons, Bool.and_eq_true] at h
    exact .cons (.same h.1) (RUs.same h.2)
theorem RUs.app {ρ : Rn} : ∀ {vs us vs' us' : List Value}, RUs ρ vs us → RUs ρ vs' us' → RUs ρ (vs ++ vs') (us ++ us')
  | _, _, _, _, .nil, h => h
  | _, _, _, _, .cons a b, h => .cons a (b.app h)

inductive RVL (ρ : Rn) : List Value → List Value → Prop
  | nil : RVL ρ [] []
  | cons {v u : Value} {vs us : List Value} (a : RV ρ v u) (b : RVL ρ vs us) : RVL ρ (v :: vs) (u :: us)
theorem RVL.get {ρ : Rn} : ∀ {vs us : List Value}, RVL ρ vs us → vs.length = us.length ∧ ∀ (j : Nat) (v u : Value), vs[j]? = some v → us[j]? = some u → RV ρ v u
  | _, _, .nil => ⟨rfl, fun j v u h => by simp at h⟩
  | _, _, .cons a b => by
    obtain ⟨h1, h2⟩ := b.get
    refine ⟨by simp [h1], fun j v u hv hu => ?_⟩
    cases j with
    | zero => simp at hv hu; subst hv hu; exact a
    | succ j => exact h2 j v u (by simpa using hv) (by simpa using hu)
theorem RVL.same {ρ : Rn} : ∀ {vs : List Value}, vs.all zb = true → RVL ρ vs vs
  | [], _ => .nil
  | v :: vs, h => by
    simp only [List.all_cons, Bool.and_eq_true] at h
    exact .cons (.same h.1) (RVL.same h.2)
theorem RVL.app {ρ : Rn} : ∀ {vs us vs' us' : List Value}, RVL ρ vs us → RVL ρ vs' us' → RVL ρ (vs ++ vs') (us ++ us')
  | _, _, _, _, .nil, h => h
  | _, _, _, _, .cons a b, h => .cons a (b.app h)

def wz1 : Option (Nat × Nat) → Bool
  | some p => p.2 == 0
  | none => true
def wz : List Blk → Rn → Bool
  | D :: hl, p :: ρ => (!isW D || wz1 p) && wz hl ρ
  | _, _ => true
theorem wz_get : ∀ (hl : List Blk) (ρ : Rn), wz hl ρ = true → ∀ (k : Nat) (D : Blk) (p : Nat × Nat), hl[k]? = some D → ρ[k]? = some (some p) → D.md = .w → p.2 = 0
  | [], ρ, _, k, D, p, h1, _, _ => by simp at h1
  | D :: hl, [], _, k, _, p, _, h2, _ => by simp at h2
  | D :: hl, q :: ρ, h, k, D', p, h1, h2, hm => by
    simp only [wz, Bool.and_eq_true, Bool.or_eq_true, Bool.not_eq_true'] at h
    cases k with
    | zero =>
      simp at h1 h2; subst h1 h2
      rcases h.1 with e | e
      · rw [isW_md.2 hm] at e; cases e
      · simpa [wz1] using e
    | succ k => exact wz_get hl ρ h.2 k D' p (by simpa using h1) (by simpa using h2) hm

section
variable {P : Program} {gs : List (Nat × Obj)} {m N : Nat} {K : AFr → List Blk → Prop} {Kp : Value → AFr → List Blk → Prop} {f : AFr} {h hl h' hu : List Blk} {o : Oper} {C : Cx} {σ τ : St} {w w' : World} {ρ : Rn}

/-- Where all lies after a call. -/
def bst (σ τ : St) (n : Nat) : St := ⟨σ.l ++ τ.l.drop n, τ.z⟩
theorem bst_l (σ τ : St) (n : Nat) : (bst σ τ n).l = σ.l ++ τ.l.drop n := rfl
/-- The caller's part, after a call. -/
theorem Inv.back (I : Inv gs C σ h w) (E : Emb ρ hl h) (hz : wz hl ρ = true) (J : Inv gs ⟨w, ownB (sub σ ρ hl) hl, sub σ ρ hl⟩ τ h' w')
    (hU : UB (ρ ++ news h.length (h'.length - hl.length)) h' hu) (hnew : (hu.drop hl.length).all notR = true) :
    hl.length ≤ h'.length ∧ Inv gs C (bst σ τ hl.length) (back hl ρ hu h) w' ∧ LocOK (bst σ τ hl.length) τ (ρ ++ news h.length (h'.length - hl.length)) ∧ Ext σ (bst σ τ hl.length) := by
  have L := E.loc I.sim
  have hlen : hl.length ≤ h'.length := by
    have h1 := J.sim.len
    have h2 : (sub σ ρ hl).l.length = hl.length := sub_length ρ hl E.len
    rcases Nat.eq_zero_or_pos hl.length with e | e
    · omega
    · have hlt : hl.length - 1 < (sub σ ρ hl).l.length := by omega
      have := J.pre.loc (hl.length - 1) _ (List.getElem?_eq_getElem hlt)
      have := (List.getElem?_eq_some_iff.1 this).1
      omega
  have hσ := I.sim.len
  have hτ := J.sim.len
  have hρ := E.len
  have hul := hU.1
  have hext : Ext σ (bst σ τ hl.length) := ⟨fun i l h => by
    rw [bst_l, List.getElem?_append_left (List.getElem?_eq_some_iff.1 h).1]; exact h, J.pre.z⟩
  have ρlt : ∀ p, some p ∈ ρ → p.1 < h.length := by
    intro p hp
    obtain ⟨k, hk⟩ := List.mem_iff_getElem?.1 hp
    have hlt := (List.getElem?_eq_some_iff.1 hk).1
    obtain ⟨B, hB, _⟩ := E.blk k p.1 p.2 _ hk (List.getElem?_eq_getElem (by omega))
    exact (List.getElem?_eq_some_iff.1 hB).1
  -- the places of the called function's blocks
  have Lτ : LocOK (bst σ τ hl.length) τ (ρ ++ news h.length (h'.length - hl.length)) := by
    refine ⟨fun k i o hk => ?_, rfl⟩
    by_cases hkl : k < ρ.length
    · rw [List.getElem?_append_left hkl] at hk
      obtain ⟨l, a, b⟩ := L.loc k i o hk
      exact ⟨l, hext.loc i l a, J.pre.loc k _ b⟩
    · rw [List.getElem?_append_right (by omega)] at hk
      have hkn := (List.getElem?_eq_some_iff.1 hk).1
      rw [news_length] at hkn
      rw [news_get _ _ _ hkn] at hk
      obtain ⟨rfl, rfl⟩ : h.length + (k - ρ.length) = i ∧ 0 = o := by simpa using hk
      have hkt : k < τ.l.length := by omega
      refine ⟨τ.l[k], ?_, by simp [hkt]⟩
      rw [bst_l, List.getElem?_append_right (by omega), List.getElem?_drop]
      have : hl.length + (h.length + (k - ρ.length) - σ.l.length) = k := by omega
      rw [this]; simp [hkt]
  refine ⟨hlen, ?_, Lτ, hext⟩
  -- what an own block of the called function is
  have own : ∀ b, ownB (sub σ ρ hl) hl b → ∃ (k : Nat) (D : Blk) (p : Nat × Nat) (B : Blk) (l : Loc), hl[k]? = some D ∧ D.md = .w ∧ ρ[k]? = some (some p) ∧ p.2 = 0 ∧ h[p.1]? = some B ∧ B.md = .w ∧ σ.l[p.1]? = some l ∧ 0 < l.s ∧ l.b = b := by
    rintro b ⟨k, D, l0, a1, a2, a3, a3', a4⟩
    have hk : k < ρ.length := by have := (List.getElem?_eq_some_iff.1 a1).1; omega
    have e1 : ρ[k]? = some ρ[k] := List.getElem?_eq_getElem hk
    cases hx : ρ[k] with
    | none =>
      rw [hx] at e1
      rw [sub_get ρ hl k _ D e1 a1] at a3
      obtain rfl := Option.some.inj a3
      simp [sub1] at a3'
    | some p =>
    rw [hx] at e1
    obtain ⟨B, b1, b2⟩ := E.blk k _ _ D e1 a1
    obtain ⟨l, c1, c2⟩ := L.loc k _ _ e1
    rw [a3] at c2; have c2 := Option.some.inj c2
    rw [c2] at a3' a4
    rcases b2 with b2 | ⟨_, _, _, _, b5, _⟩
    · rw [a2] at b2; cases b2
    · exact ⟨k, D, _, B, l, a1, a2, e1, wz_get hl ρ hz k D _ a1 e1 a2, b1, b5 a2, c1, a3', a4⟩
  -- a block of the new heap: which one it is
  have cls : ∀ (i : Nat) (U : Blk), (Go.J.back hl ρ hu h)[i]? = some U →
      (∃ k, hu[k]? = some U ∧ k < h'.length ∧ (bst σ τ hl.length).l[i]? = τ.l[k]? ∧ ((∃ D p B, hl[k]? = some D ∧ D.md = .w ∧ ρ[k]? = some (some p) ∧ p.1 = i ∧ h[i]? = some B ∧ B.md = .w ∧ i < h.length) ∨ (hl.length ≤ k ∧ i = h.length + (k - hl.length)))) ∨
      ((∀ (k : Nat) (D : Blk) (p : Nat × Nat), hl[k]? = some D → D.md = .w → ρ[k]? = some (some p) → p.1 ≠ i) ∧ h[i]? = some U ∧ i < h.length) := by
    intro i U hi
    unfold Go.J.back at hi
    by_cases hih : i < h.length
    · rw [List.getElem?_append_left (by rw [setB_length]; exact hih)] at hi
      rcases setB_get hl ρ hu h i (by omega) E.len.symm ρlt with ⟨k, D, p, U', a1, a2, a3, a4, a5, a6⟩ | ⟨a1, a2⟩
      · rw [hi] at a6; obtain rfl := Option.some.inj a6
        have hk := (List.getElem?_eq_some_iff.1 a1).1
        obtain ⟨B, b1, b2⟩ := E.blk k p.1 p.2 D a3 a1
        have hB : B.md = .w := by
          rcases b2 with b2 | ⟨_, _, _, _, b5, _⟩
          · rw [a2] at b2; cases b2
          · exact b5 a2
        obtain ⟨l, c1, c2⟩ := L.loc k p.1 p.2 a3
        have e0 := wz_get hl ρ hz k D p a1 a3 a2
        refine .inl ⟨k, a5, by omega, ?_, .inl ⟨D, p, B, a1, a2, a3, a4, a4 ▸ b1, hB, hih⟩⟩
        have c2 := J.pre.loc k _ c2
        rw [bst_l, c2, List.getElem?_append_left (by omega), ← a4, c1, e0]; rfl
      · exact .inr ⟨a1, by rw [← a2]; exact hi, hih⟩
    · rw [List.getElem?_append_right (by rw [setB_length]; omega), setB_length, List.getElem?_drop] at hi
      have hk := (List.getElem?_eq_some_iff.1 hi).1
      refine .inl ⟨hl.length + (i - h.length), hi, by omega, ?_, .inr ⟨by omega, by omega⟩⟩
      rw [bst_l, List.getElem?_append_right (by omega), List.getElem?_drop, hσ]
  have newW : ∀ (k : Nat) (U : Blk), hl.length ≤ k → hu[k]? = some U → (U.md = .d → False) → U.md = .w := by
    intro k U hk hU hd
    have := List.all_eq_true.1 hnew U (List.mem_of_getElem? (i := k - hl.length) (by rw [List.getElem?_drop, show hl.length + (k - hl.length) = k by omega]; exact hU))
    unfold notR at this
    cases hm : U.md <;> simp_all
  -- a told-again block has its source
  have src : ∀ (k : Nat) (U : Blk), hu[k]? = some U → (U.md = .d → False) → ∃ B, h'[k]? = some B ∧ live B = true ∧ U.es = B.es ∧ U.cells.length ≤ B.cells.length ∧ (∀ (j : Nat) (u : Value), U.cells[j]? = some u → ∃ v, B.cells[j]? = some v ∧ RU (ρ ++ news h.length (h'.length - hl.length)) v u) ∧ (U.md = .w → B.md = .w) ∧ U.cells.all one0 = true := by
    intro k U hk hd
    have hlt := (List.getElem?_eq_some_iff.1 hk).1
    have hB : h'[k]? = some (h'[k]'(by omega)) := List.getElem?_eq_getElem _
    rcases hU.2 k _ U hB hk with e | e
    · exact (hd e).elim
    · exact ⟨_, hB, e⟩
  -- untouched blocks: nobody has written there
  have still : ∀ (i : Nat) (B : Blk) (l : Loc), h[i]? = some B → (B.md = .d → False) → σ.l[i]? = some l → 0 < l.s → (∀ (k : Nat) (D : Blk) (p : Nat × Nat), hl[k]? = some D → D.md = .w → ρ[k]? = some (some p) → p.1 ≠ i) → ¬ ownB (sub σ ρ hl) hl l.b := by
    intro i B l hB hd hl hls hno ho
    obtain ⟨k, D, p, B', l', a1, a2, a3, a4, a5, a6, a7, a7', a8⟩ := own _ ho
    exact I.sim.apart p.1 i B' B l' l (hno k D p a1 a2 a3) a5 hB a6 hd a7 hl a7' hls a8
  have inb : ∀ (i : Nat) (B : Blk) (l : Loc), h[i]? = some B → (B.md = .d → False) → σ.l[i]? = some l → 0 < l.s → l.b < w.heap.size := by
    intro i B l hB hd hl hls
    obtain ⟨c, t, fr, c2, _⟩ := I.sim.real hl hB hd (.inl hls)
    exact (Array.getElem?_eq_some_iff.1 c2).1
  refine ⟨⟨?_, ?_, ?_, J.sim.glob, J.sim.frz, ?_, ?_⟩, I.pre.trans hext, Nat.le_trans I.size J.size, ?_, ?_, ?_, J.os.trans I.os, J.out.trans I.out, J.tape.trans I.tape⟩
  · simp only [bst_l, Go.J.back, List.length_append, setB_length, List.length_drop]; omega
  · intro i U hi hd
    rcases cls i U hi with ⟨k, hk, hkl, hloc, _⟩ | ⟨hno, hB, hih⟩
    · obtain ⟨B, b1, b2, b3, b4, b5, b6, b7⟩ := src k U hk hd
      obtain ⟨l, c1, c4, c0⟩ := J.sim.live k B b1 (live_md b2)
      refine ⟨l, hloc.trans c1, c4.trans b3.symm, ?_⟩
      rcases c0 with ⟨z1, z2⟩ | ⟨c, t, fr, c2, c3, c5, c6, c7, c8⟩
      · exact .inl ⟨z1, List.eq_nil_of_length_eq_zero (by rw [z2] at b4; simp at b4; simp [b4])⟩
      refine .inr ⟨c, t, fr, c2, c3, by omega, ?_, fun e => c7 (b6 e), by simpa using b7⟩
      intro j u hu
      obtain ⟨v, hv, hr⟩ := b5 j u hu
      obtain ⟨v', hv', hvr⟩ := c6 j v hv
      exact ⟨v', hv', VR.up Lτ hr hvr⟩
    · obtain ⟨l, c1, c4, c0⟩ := I.sim.live i U hB hd
      refine ⟨l, hext.loc i l c1, c4, ?_⟩
      rcases c0 with c0 | ⟨c, t, fr, c2, c3, c5, c6, c7, c8⟩
      · exact .inl c0
      by_cases hls : l.s = 0
      · exact .inl ⟨hls, List.eq_nil_of_length_eq_zero (by omega)⟩
      have hin := inb i U l hB hd c1 (by omega)
      have hkeep := J.keep l.b hin (still i U l hB hd c1 (by omega) hno)
      simp only at hkeep
      refine .inr ⟨c, t, fr, hkeep.trans c2, c3, c5, fun j v hv => ?_, ?_, c8⟩
      · obtain ⟨v', h1, h2⟩ := c6 j v hv
        exact ⟨v', h1, h2.ext hext⟩
      · intro e q hq
        have := c7 e q hq
        simp only [World.frozen?] at this ⊢
        rw [hkeep]; exact this
  · intro i j U V l l' hij hi hj hw hd hli hlj hs hs'
    rcases cls i U hi with ⟨k, hk, hkl, hloc, hcase⟩ | ⟨hno, hB, hih⟩
    · obtain ⟨B, b1, b2, b3, b4, b5, b6, b7⟩ := src k U hk (live_w hw)
      rw [hloc] at hli
      rcases cls j V hj with ⟨k', hk', hkl', hloc', hcase'⟩ | ⟨hno', hB', hjh⟩
      · obtain ⟨B', d1, d2, _⟩ := src k' V hk' hd
        rw [hloc'] at hlj
        refine J.sim.apart k k' B B' l l' ?_ b1 d1 (b6 hw) (live_md d2) hli hlj hs hs'
        rintro rfl
        rcases hcase with ⟨_, p, _, x0, _, e3, e4, _, _, e5⟩ | ⟨e1, e2⟩ <;> rcases hcase' with ⟨_, p', _, x1, _, e3', e4', _, _, e5'⟩ | ⟨e1', e2'⟩
        · rw [e3] at e3'; obtain rfl := Option.some.inj (Option.some.inj e3'); omega
        · have := (List.getElem?_eq_some_iff.1 x0).1; omega
        · have := (List.getElem?_eq_some_iff.1 x1).1; omega
        · omega
      · rw [bst_l, List.getElem?_append_left (by omega)] at hlj
        rcases hcase with ⟨D, p, B2, e1, e2, e3, e4, e5, e6, e7⟩ | ⟨e1, e2⟩
        · rw [← hloc, bst_l, List.getElem?_append_left (by omega)] at hli
          exact I.sim.apart i j B2 V l l' hij e5 hB' e6 hd hli hlj hs hs'
        · rcases J.mine k B l b1 (b6 hw) hli hs with ho | ho
          · obtain ⟨k0, D, p, B0, l0, a1, a2, a3, a4, a5, a6, a7, a7', a8⟩ := own _ ho
            have := I.sim.apart p.1 j B0 V l0 l' (hno' k0 D p a1 a2 a3) a5 hB' a6 hd a7 hlj a7' hs'
            rw [a8] at this; exact this
          · have := inb j V l' hB' hd hlj hs'
            simp only at ho
            omega
    · rw [bst_l, List.getElem?_append_left (by omega)] at hli
      rcases cls j V hj with ⟨k', hk', hkl', hloc', hcase'⟩ | ⟨hno', hB', hjh⟩
      · obtain ⟨B', d1, d2, d3, d4, d5, d6, d7⟩ := src k' V hk' hd
        rcases hcase' with ⟨D, p, B2, e1, e2, e3, e4, e5, e6, e7⟩ | ⟨e1, e2⟩
        · rw [bst_l, List.getElem?_append_left (by omega)] at hlj
          exact I.sim.apart i j U B2 l l' hij hB e5 hw (live_w e6) hli hlj hs hs'
        · have hVw := newW k' V e1 hk' hd
          rw [hloc'] at hlj
          rcases J.mine k' B' l' d1 (d6 hVw) hlj hs' with ho | ho
          · obtain ⟨k0, D, p, B0, l0, a1, a2, a3, a4, a5, a6, a7, a7', a8⟩ := own _ ho
            have := I.sim.apart p.1 i B0 U l0 l (hno k0 D p a1 a2 a3) a5 hB a6 (live_w hw) a7 hli a7' hs
            rw [a8] at this; exact this.symm
          · have := inb i U l hB (live_w hw) hli hs
            simp only at ho
            omega
      · rw [bst_l, List.getElem?_append_left (by omega)] at hlj
        exact I.sim.apart i j U V l l' hij hB hB' hw hd hli hlj hs hs'
  · intro p hp i U l hi hw hli hs
    rcases cls i U hi with ⟨k, hk, hkl, hloc, hcase⟩ | ⟨hno, hB, hih⟩
    · obtain ⟨B, b1, b2, b3, b4, b5, b6, b7⟩ := src k U hk (live_w hw)
      rw [hloc] at hli
      exact J.sim.frzw p hp k B l b1 (b6 hw) hli hs
    · rw [bst_l, List.getElem?_append_left (by omega)] at hli
      rcases J.zown p hp with hz0 | ho | ho
      · exact I.sim.frzw p hz0 i U l hB hw hli hs
      · obtain ⟨k0, D, q, B0, l0, a1, a2, a3, a4, a5, a6, a7, a7', a8⟩ := own _ ho
        have := I.sim.apart q.1 i B0 U l0 l (hno k0 D q a1 a2 a3) a5 hB a6 (live_w hw) a7 hli a7' hs
        rw [a8] at this; exact this.symm
      · have := inb i U l hB (live_w hw) hli hs
        simp only at ho
        omega
  · intro p hp i U l hi hw hli hs
    rcases cls i U hi with ⟨k, hk, hkl, hloc, hcase⟩ | ⟨hno, hB, hih⟩
    · obtain ⟨B, b1, b2, b3, b4, b5, b6, b7⟩ := src k U hk (live_w hw)
      rw [hloc] at hli
      exact J.sim.globw p hp k B l b1 (b6 hw) hli hs
    · rw [bst_l, List.getElem?_append_left (by omega)] at hli
      exact I.sim.globw p hp i U l hB hw hli hs
  · intro b hb hno
    have hb2 : b < w.heap.size := Nat.lt_of_lt_of_le hb I.size
    have : ¬ ownB (sub σ ρ hl) hl b := by
      intro ho
      obtain ⟨k, D, p, B, l, a1, a2, a3, a4, a5, a6, a7, a7', a8⟩ := own _ ho
      rcases I.mine p.1 B l a5 a6 a7 a7' with c | c
      · rw [a8] at c; exact hno c
      · omega
    rw [J.keep b hb2 this]
    exact I.keep b hb hno
  · intro i U l hi hw hli hs
    rcases cls i U hi with ⟨k, hk, hkl, hloc, hcase⟩ | ⟨hno, hB, hih⟩
    · obtain ⟨B, b1, b2, b3, b4, b5, b6, b7⟩ := src k U hk (live_w hw)
      rw [hloc] at hli
      rcases J.mine k B l b1 (b6 hw) hli hs with ho | ho
      · obtain ⟨k0, D, p, B0, l0, a1, a2, a3, a4, a5, a6, a7, a7', a8⟩ := own _ ho
        have := I.mine p.1 B0 l0 a5 a6 a7 a7'
        rw [a8] at this; exact this
      · exact .inr (Nat.le_trans I.size ho)
    · rw [bst_l, List.getElem?_append_left (by omega)] at hli
      exact I.mine i U l hB hw hli hs
  · intro p hp
    rcases J.zown p hp with hz0 | ho | ho
    · exact I.zown p hz0
    · obtain ⟨k0, D, q, B0, l0, a1, a2, a3, a4, a5, a6, a7, a7', a8⟩ := own _ ho
      have := I.mine q.1 B0 l0 a5 a6 a7 a7'
      rw [a8] at this; exact .inr this
    · exact .inr (.inr (Nat.le_trans I.size ho))

theorem VRs.down {vs us us' : List Value} (L : LocOK σ τ ρ) (hr : RVL ρ vs us) (h : VRs σ us us') : VRs τ vs us' := by
  obtain ⟨h1, h2⟩ := hr.get
  refine ⟨h1.trans h.1, fun i v v' hv hv' => ?_⟩
  have hi := (List.getElem?_eq_some_iff.1 hv).1
  have hu : us[i]? = some (us[i]'(by omega)) := List.getElem?_eq_getElem _
  exact VR.down L (h2 i v _ hv hu) (h.2 i _ v' hu hv')

/-- What the caller must show of an ending. -/
def After (hl h : List Blk) (ρ : Rn) (v : Value) (h' : List Blk) (K : Value → List Blk → Prop) : Prop :=
  ∃ u hu, UB (ρ ++ news h.length (h'.length - hl.length)) h' hu ∧ (hu.drop hl.length).all notR = true ∧ RU (ρ ++ news h.length (h'.length - hl.length)) v u ∧ K u (back hl ρ hu h)

theorem OpJ.call {fx : Operand} {as : Array Operand} {ats : Array TypeId} {g : FuncId} {fs cs us vs : List Value} {R : Out → List Blk → Prop} (ρ : Rn) (ho : o.op = .call ⟨.value fx, as, ats⟩) (hf : ev f fx = some (.func (.func g) fs.toArray cs.toArray))
    (ha : as.toList.map (ev f) = us.map some) (hS : Spec P gs g vs hl R) (hE : Emb ρ hl h) (hz : wz hl ρ = true) (hv : RVL ρ vs (fs ++ us ++ cs))
    (kk : ∀ v h', R (.ret v) h' → After hl h ρ v h' fun u h2 => K (pt f o.dst u) h2) (kp : ∀ v h', R (.panic v) h' → After hl h ρ v h' fun u h2 => Kp u f h2) : OpJ P gs m N o K Kp f h := by
  intro hd C σ w a next Qe hC I F hnx hp
  have L := hE.loc I.sim
  obtain ⟨hal, har⟩ := evs F ha
  have hfr := F.ev hf
  generalize hfe : a.eval fx = fv at hfr
  cases hfr with
  | @func _ _ _ fs' cs' _ l1 r1 l2 r2 =>
    have hargs : VRs σ (fs ++ us ++ cs) ((fs' ++ as.map a.eval ++ cs' : Array Value)).toList := by
      refine ⟨by simp at l1 l2 ⊢; simp at hal; omega, fun i v v' hv hv' => ?_⟩
      simp only [Array.toList_append, List.getElem?_append] at hv hv'
      simp at l1 l2
      simp at hal
      simp only [List.length_append, Array.length_toList, Array.size_map] at hv hv'
      split at hv
      · split at hv
        · rw [if_pos (by omega), if_pos (by omega)] at hv'
          exact r1 i v v' (by simpa using hv) (by simpa using hv')
        · rw [if_pos (by omega), if_neg (by omega)] at hv'
          obtain ⟨x, hx1, hx2⟩ := har _ v hv
          have : v' = a.eval x := by
            rw [← l1] at hv'
            simp at hv' hx1
            rw [hx1] at hv'
            obtain ⟨y, hy1, hy2⟩ := hv'
            obtain rfl := Option.some.inj hy1
            exact hy2.symm
          rw [this]; exact hx2
      · rw [if_neg (by omega)] at hv'
        refine r2 (i - (fs.length + us.length)) v v' (by simpa using hv) ?_
        have e : i - (fs'.size + as.size) = i - (fs.length + us.length) := by omega
        rw [e] at hv'
        simpa using hv'
    have hspec := hS (sub σ ρ hl) w _ (hE.sim I.sim) (VRs.down L hv hargs)
    unfold Oper.wp
    have hrun : (execOp a.eval o).run P w = (callFunc g (fs' ++ as.map a.eval ++ cs')).run P w := by
      simp [execOp, ho, resolve, hfe, Deferred.ofValue, invoke]
    rw [hrun]
    have fin : ∀ e w', Ends gs ⟨w, ownB (sub σ ρ hl) hl, sub σ ρ hl⟩ R e w' → (match e with
      | .returned v => next (a.put o.dst v) w'
      | .panicked chain => Qe (.panic chain) a w'
      | .outgrown => LetsOut Qe) := by
      intro e w' he
      cases e with
      | returned v' =>
        obtain ⟨τ, h', v, J, hv, hR⟩ := he
        obtain ⟨u, hu, q1, q2, q3, q4⟩ := kk v h' hR
        obtain ⟨_, I2, L2, hx⟩ := I.back hE hz J q1 q2
        exact hnx _ _ _ _ _ I2 ((F.ext hx).put (VR.up L2 q3 hv) hd) q4
      | panicked chain =>
        obtain ⟨τ, h', v, v', rfl, J, hv, hR⟩ := he
        obtain ⟨u, hu, q1, q2, q3, q4⟩ := kp v h' hR
        obtain ⟨_, I2, L2, hx⟩ := I.back hE hz J q1 q2
        exact hp _ _ _ _ _ _ _ I2 (F.ext hx) (VR.up L2 q3 hv) q4
      | outgrown => exact he.elim
    unfold CallR at hspec
    generalize (callFunc g (fs' ++ as.map a.eval ++ cs')).run P w = r at hspec
    match r, hspec with
    | .ok (.value v) w', hspec => exact fin _ _ hspec
    | .ok (.enter g' args') w', hspec =>
      refine Calls.mono hspec ?_
      intro e w'' he
      have := fin e w'' he
      cases e <;> exact this
    | .ok (.row row args') w', hspec => exact Rows.mono hspec (fun v w'' hv => fin _ _ hv)
    | .halt (.panic v) w', hspec => exact fin _ _ hspec

theorem back_same : ∀ (hl : List Blk) (ρ : Rn), hl.any isW = false → back hl ρ hl h = h := by
  intro hl ρ hw
  have : ∀ (hl : List Blk) (ρ : Rn) (hu : List Blk), hl.any isW = false → setB hl ρ hu h = h := by
    intro hl
    induction hl with
    | nil => intro ρ hu _; simp [setB]
    | cons D hl ih =>
      intro ρ hu hw
      simp only [List.any_cons, Bool.or_eq_false_iff] at hw
      cases ρ with
      | nil => simp [setB]
      | cons p ρ =>
        cases hu with
        | nil => simp [setB]
        | cons U hu => simp only [setB, hw.1]; simpa using ih ρ hu hw.2
  simp [back, this hl ρ hl hw]

/-- A call that leaves the heap alone and answers with something without addresses. -/
theorem After.pure {hl h : List Blk} {ρ : Rn} {v : Value} {K : Value → List Blk → Prop} (hw : hl.any isW = false) (hv : RU ρ v v) (k : K v h) : After hl h ρ v hl K := by
  have hk : hl.map (fun B => (⟨B.cells, .d, B.es⟩ : Blk)) = hl.map (fun B => (⟨B.cells, .d, B.es⟩ : Blk)) := rfl
  refine ⟨v, hl.map (fun B => (⟨B.cells, .d, B.es⟩ : Blk)), ?_, ?_, ?_, ?_⟩
  · refine ⟨by simp, fun k B U h1 h2 => .inl ?_⟩
    simp only [List.getElem?_map, h1, Option.map_some, Option.some.injEq] at h2
    rw [← h2]
  · rw [List.drop_of_length_le (by simp)]; rfl
  · simpa [news] using hv
  · have : back hl ρ (hl.map (fun B => (⟨B.cells, .d, B.es⟩ : Blk))) h = h := by
      have : ∀ (hl : List Blk) (ρ : Rn) (hu : List Blk), hl.any isW = false → setB hl ρ hu h = h := by
        intro hl
        induction hl with
        | nil => intro ρ hu _; simp [setB]
        | cons D hl ih =>
          intro ρ hu hw
          simp only [List.any_cons, Bool.or_eq_false_iff] at hw
          cases ρ with
          | nil => simp [setB]
          | cons p ρ =>
            cases hu with
            | nil => simp [setB]
            | cons U hu => simp only [setB, hw.1]; simpa using ih ρ hu hw.2
      simp [back, this hl ρ _ hw]
    rw [this]; exact k
end
end Go.J
