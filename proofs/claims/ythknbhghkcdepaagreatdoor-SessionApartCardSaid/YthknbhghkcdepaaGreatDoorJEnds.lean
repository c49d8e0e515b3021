/- The program logic J, part 15: how a walk ends: what is told of the heap, in lists. No condition. -/
import Derived.Test.YthknbhghkcdepaaGreatDoorJPure
set_option maxHeartbeats 4000000
set_option linter.unusedVariables false
set_option linter.unusedSimpArgs false
namespace Go.J

theorem kn2 {K : AFr → List Blk → Prop} {f : AFr} {h : List Blk} (k : ∀ f2 h2, f2 = f → h2 = h → K f2 h2) : K f h := k _ _ rfl rfl

/-- Each block of the smaller heap, where it lies in the other one. -/
def EmbC (ρ : Rn) (h : List Blk) : Rn → List Blk → Prop
  | [], [] => True
  | some (i, o) :: r, D :: ds => (∃ B, h[i]? = some B ∧ BE ρ D B o) ∧ EmbC ρ h r ds
  | none :: r, D :: ds => D.cells = [] ∧ EmbC ρ h r ds
  | _, _ => False
def memO (x : Nat) : Rn → Bool
  | [] => false
  | some (i, _) :: r => Nat.beq i x || memO x r
  | none :: r => memO x r
def distinct : Rn → Bool
  | [] => true
  | some (i, _) :: r => !memO i r && distinct r
  | none :: r => distinct r
def preOk : Nat → Nat → Rn → Bool
  | _, 0, _ => true
  | k, m + 1, some (i, o) :: r => Nat.beq i k && Nat.beq o 0 && preOk (k + 1) m r
  | _, _ + 1, _ => false
theorem EmbC.length {ρ : Rn} {h : List Blk} : ∀ (r : Rn) (ds : List Blk), EmbC ρ h r ds → r.length = ds.length
  | [], [], _ => rfl
  | [], _ :: _, h => h.elim
  | some (i, o) :: r, [], h => h.elim
  | none :: r, [], h => h.elim
  | some (i, o) :: r, D :: ds, h => by simp [EmbC.length r ds h.2]
  | none :: r, D :: ds, h => by simp [EmbC.length r ds h.2]
theorem EmbC.get {ρ : Rn} {h : List Blk} : ∀ (r : Rn) (ds : List Blk), EmbC ρ h r ds → ∀ (k : Nat) (D : Blk), ds[k]? = some D →
    (∀ i o, r[k]? = some (some (i, o)) → ∃ B, h[i]? = some B ∧ BE ρ D B o) ∧ (r[k]? = some none → D.cells = [])
  | [], [], _, k, D, hd => by simp at hd
  | [], _ :: _, h, _, _, _ => h.elim
  | some (i, o) :: r, [], h, _, _, _ => h.elim
  | none :: r, [], h, _, _, _ => h.elim
  | some (i, o) :: r, E :: ds, h, 0, D, hd => by
    simp at hd; subst hd
    refine ⟨fun i' o' e => ?_, fun e => by simp at e⟩
    simp at e; obtain ⟨rfl, rfl⟩ := e
    exact h.1
  | some (i, o) :: r, E :: ds, h, k + 1, D, hd => by simpa using EmbC.get r ds h.2 k D (by simpa using hd)
  | none :: r, E :: ds, h, 0, D, hd => by
    simp at hd; subst hd
    exact ⟨fun i' o' e => by simp at e, fun _ => h.1⟩
  | none :: r, E :: ds, h, k + 1, D, hd => by simpa using EmbC.get r ds h.2 k D (by simpa using hd)
theorem memO_get : ∀ (r : Rn) (k x o : Nat), r[k]? = some (some (x, o)) → memO x r = true
  | [], k, x, o, h => by simp at h
  | some (i, o') :: r, 0, x, o, h => by simp at h; simp [memO, h.1]
  | some (i, o') :: r, k + 1, x, o, h => by simp [memO, memO_get r k x o (by simpa using h)]
  | none :: r, 0, x, o, h => by simp at h
  | none :: r, k + 1, x, o, h => by simp [memO, memO_get r k x o (by simpa using h)]
theorem distinct_get : ∀ (r : Rn), distinct r = true → ∀ (k k' i o o' : Nat), r[k]? = some (some (i, o)) → r[k']? = some (some (i, o')) → k = k'
  | [], _, k, _, _, _, _, h, _ => by simp at h
  | none :: r, hd, k, k', i, o, o', h, h' => by
    cases k with
    | zero => simp at h
    | succ k =>
      cases k' with
      | zero => simp at h'
      | succ k' => rw [distinct_get r hd k k' i o o' (by simpa using h) (by simpa using h')]
  | some (j, q) :: r, hd, k, k', i, o, o', h, h' => by
    simp only [distinct, Bool.and_eq_true, Bool.not_eq_true'] at hd
    cases k with
    | zero =>
      simp at h
      cases k' with
      | zero => rfl
      | succ k' =>
        have := memO_get r k' i o' (by simpa using h')
        rw [h.1, this] at hd; simp at hd
    | succ k =>
      cases k' with
      | zero =>
        simp at h'
        have := memO_get r k i o (by simpa using h)
        rw [h'.1, this] at hd; simp at hd
      | succ k' => rw [distinct_get r hd.2 k k' i o o' (by simpa using h) (by simpa using h')]
theorem preOk_get : ∀ (m k : Nat) (r : Rn), preOk k m r = true → ∀ i, i < m → r[i]? = some (some (k + i, 0))
  | 0, k, r, _, i, hi => by omega
  | m + 1, k, [], h, _, _ => by simp [preOk] at h
  | m + 1, k, none :: r, h, _, _ => by simp [preOk] at h
  | m + 1, k, some (a, b) :: r, h, i, hi => by
    simp only [preOk, Bool.and_eq_true, Nat.beq_eq] at h
    cases i with
    | zero => simp [h.1.1, h.1.2]
    | succ i =>
      have := preOk_get m (k + 1) r h.2 i (by omega)
      simp only [List.getElem?_cons_succ, this]
      congr 3; omega
theorem EmbC.emb {ρ : Rn} {h hl : List Blk} (E : EmbC ρ h ρ hl) (hd : distinct ρ = true) : Emb ρ hl h :=
  ⟨EmbC.length ρ hl E, fun k i o D hk hD => (EmbC.get ρ hl E k D hD).1 i o hk, fun k k' i o o' D D' hne hk hk' _ _ _ => (hne (distinct_get ρ hd k k' i o o' hk hk')).elim, fun k D hk hD => (EmbC.get ρ hl E k D hD).2 hk⟩
theorem BE.same {ρ : Rn} {B : Blk} (hl : live B = true) (h : B.cells.all zb = true) : BE ρ B B 0 :=
  .inr ⟨hl, rfl, Nat.zero_le _, by simpa using CR.same' h, id, List.all_eq_true.2 (all_one0 (all_scal_one h))⟩
/-- The same block, as one that is only read. -/
theorem BE.asR {ρ : Rn} {c : List Value} {e : Nat} {B : Blk} (hl : live B = true) (hc : B.cells = c) (he : B.es = e) (h : c.all zb = true) : BE ρ ⟨c, .r, e⟩ B 0 :=
  .inr ⟨hl, he.symm, Nat.zero_le _, by simpa [hc] using CR.same' h, (fun e => nomatch e), List.all_eq_true.2 (all_one0 (all_scal_one h))⟩
theorem BE.dead {ρ : Rn} {D B : Blk} {o : Nat} (h : D.md = .d) : BE ρ D B o := .inl h
inductive RVC (ρ : Rn) : List Value → List Value → Prop
  | nil : RVC ρ [] []
  | cons {v u : Value} {vs us : List Value} (a : RV ρ v u) (b : RVC ρ vs us) : RVC ρ (v :: vs) (u :: us)
theorem RVC.cr {ρ : Rn} : ∀ {vs us : List Value}, RVC ρ vs us → CR ρ vs us
  | _, _, .nil => .nil
  | _, _, .cons a b => .cons a b.cr
/-- A block of few cells, told again by the other numbers. -/
theorem BE.mk {ρ : Rn} {c c' : List Value} {e : Nat} (h : RVC ρ c c') (h1 : c.all one0 = true) : BE ρ ⟨c, .w, e⟩ ⟨c', .w, e⟩ 0 :=
  .inr ⟨rfl, rfl, Nat.zero_le _, by simpa using h.cr, fun _ => rfl, h1⟩
theorem RV.slK {ρ : Rn} {k x i n c : Nat} (h : ρ[k]? = some (some (i, 0))) : RV ρ (.slice (some ⟨k, x, none⟩) n c) (.slice (some ⟨i, x, none⟩) n c) := by
  have := RV.sl (x := x) (n := n) (c := c) h
  simpa using this
theorem RV.ptrK {ρ : Rn} {k x i : Nat} (h : ρ[k]? = some (some (i, 0))) : RV ρ (.pointer (some ⟨k, x, none⟩)) (.pointer (some ⟨i, x, none⟩)) := by
  have := RV.ptr (x := x) h
  simpa using this
theorem RU.slK {ρ : Rn} {k x i n c : Nat} (h : ρ[k]? = some (some (i, 0))) : RU ρ (.slice (some ⟨k, x, none⟩) n c) (.slice (some ⟨i, x, none⟩) n c) := by
  have := RU.sl (x := x) (n := n) (c := c) h
  simpa using this
theorem RU.ptrK {ρ : Rn} {k x i : Nat} (h : ρ[k]? = some (some (i, 0))) : RU ρ (.pointer (some ⟨k, x, none⟩)) (.pointer (some ⟨i, x, none⟩)) := by
  have := RU.ptr (x := x) h
  simpa using this
theorem RV.tupleL {ρ : Rn} {vs us : List Value} (h : RVL ρ vs us) : RV ρ (.tuple vs.toArray) (.tuple us.toArray) :=
  .tuple (by simpa using h.get.1) (fun i x y hx hy => h.get.2 i x y (by simpa using hx) (by simpa using hy))
theorem RV.aggL {ρ : Rn} {vs us : List Value} (h : RVL ρ vs us) : RV ρ (.agg vs.toArray) (.agg us.toArray) :=
  .agg (by simpa using h.get.1) (fun i x y hx hy => h.get.2 i x y (by simpa using hx) (by simpa using hy))

/-- A frame told again by other numbers. -/
def SubR (ρ : Rn) (f : AFr) : AFr → Prop
  | [] => True
  | (t, v) :: r => (∃ u, lk f t = some u ∧ RV ρ v u) ∧ SubR ρ f r
theorem SubR.lk {ρ : Rn} {f : AFr} : ∀ {g : AFr}, SubR ρ f g → ∀ (t : Nat) (v : Value), Go.J.lk g t = some v → ∃ u, Go.J.lk f t = some u ∧ RV ρ v u
  | [], _, t, v, h => by simp [Go.J.lk] at h
  | (s, u) :: r, hs, t, v, h => by
    simp only [Go.J.lk] at h
    split at h
    · rename_i e; subst e
      obtain rfl := Option.some.inj h
      exact hs.1
    · exact hs.2.lk t v h

section
variable {P : Program} {gs : List (Nat × Obj)} {m N : Nat} {Q : APost} {f f2 : AFr} {h h2 : List Blk} {R : Out → List Blk → Prop}
theorem Wk.ofC (ρ : Rn) (E : EmbC ρ h ρ h2) (hd : distinct ρ = true) (hp : preOk 0 m ρ = true) (hf : SubR ρ f f2) : Wk gs m N f h f2 h2 :=
  Wk.of (E.emb hd) (fun i hi => by simpa using preOk_get m 0 ρ hp i hi) hf.lk
theorem AWP.again (ρ : Rn) {c : Code} (f2 : AFr) (h2 : List Blk) (E : EmbC ρ h ρ h2) (hd : distinct ρ = true) (hp : preOk 0 m ρ = true) (hf : SubR ρ f f2) (k : AWP P gs m N c Q f2 h2) : AWP P gs m N c Q f h := AWP.wk (Wk.ofC ρ E hd hp hf) k
theorem bodyA.ret (ρ : Rn) {rs : List ResultVar} {vs : List Value} {v2 : Value} (hr : ResL P f h rs vs) (E : EmbC ρ h ρ h2) (hd : distinct ρ = true) (hp : preOk 0 m ρ = true) (hv : RV ρ v2 (oneOr vs)) (q : R (.ret v2) h2) : bodyA P gs m rs R .ret f h :=
  ⟨vs, v2, h2, hr, Wk.ofC ρ E hd hp ⟨⟨_, rfl, hv⟩, trivial⟩, q⟩
theorem bodyA.fall (ρ : Rn) {rs : List ResultVar} {vs : List Value} {v2 : Value} (hr : ResL P f h rs vs) (E : EmbC ρ h ρ h2) (hd : distinct ρ = true) (hp : preOk 0 m ρ = true) (hv : RV ρ v2 (oneOr vs)) (q : R (.ret v2) h2) : bodyA P gs m rs R .normal f h :=
  ⟨vs, v2, h2, hr, Wk.ofC ρ E hd hp ⟨⟨_, rfl, hv⟩, trivial⟩, q⟩
theorem bodyA.panic (ρ : Rn) {rs : List ResultVar} {v v2 : Value} (E : EmbC ρ h ρ h2) (hd : distinct ρ = true) (hp : preOk 0 m ρ = true) (hv : RV ρ v2 v) (q : R (.panic v2) h2) : bodyA P gs m rs R (.panic v) f h :=
  ⟨v2, h2, Wk.ofC ρ E hd hp ⟨⟨_, rfl, hv⟩, trivial⟩, q⟩
theorem bodyA.ret1 (ρ : Rn) {r : ResultVar} {v v2 : Value} (hr : ResJ P f h r v) (E : EmbC ρ h ρ h2) (hd : distinct ρ = true) (hp : preOk 0 m ρ = true) (hv : RV ρ v2 v) (q : R (.ret v2) h2) : bodyA P gs m [r] R .ret f h :=
  bodyA.ret ρ (.cons hr .nil) E hd hp hv q
theorem bodyA.fall1 (ρ : Rn) {r : ResultVar} {v v2 : Value} (hr : ResJ P f h r v) (E : EmbC ρ h ρ h2) (hd : distinct ρ = true) (hp : preOk 0 m ρ = true) (hv : RV ρ v2 v) (q : R (.ret v2) h2) : bodyA P gs m [r] R .normal f h :=
  bodyA.fall ρ (.cons hr .nil) E hd hp hv q
end
end Go.J
