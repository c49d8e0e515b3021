/- The program logic J, part 14: functions that only read what they are given, and answer with values or with new memory. No condition. -/
import Derived.Test.YthknbhghkcdepaaGreatDoorJSteps
set_option maxHeartbeats 4000000
set_option linter.unusedVariables false
set_option linter.unusedSimpArgs false
namespace Go.J

/-- What a function is given: a value without addresses, or the cells of a slice. -/
inductive Arg where
  | s (v : Value)
  | w (es n : Nat) (cells : List Value)
def okS (v : Value) : Prop := v.cells.toList.all zb = true
theorem okS.rv {ρ : Rn} {v : Value} (h : okS v) : RV ρ v v := by
  unfold okS at h
  cases v with
  | agg xs =>
    refine .agg rfl (fun i x y hx hy => ?_)
    rw [hx] at hy; obtain rfl := Option.some.inj hy
    exact .same (List.all_eq_true.1 h x (by simpa [Value.cells] using Array.mem_of_getElem? hx))
  | _ => exact .same (by simpa [Value.cells] using h)
theorem okS.ru {ρ : Rn} {v : Value} (h : okS v) : RU ρ v v := by
  unfold okS at h
  cases v with
  | agg xs =>
    refine .agg rfl (fun i x y hx hy => ?_)
    rw [hx] at hy; obtain rfl := Option.some.inj hy
    exact .same (List.all_eq_true.1 h x (by simpa [Value.cells] using Array.mem_of_getElem? hx))
  | _ => exact .same (by simpa [Value.cells] using h)
/-- The cells of a slice. -/
def isSl (h : List Blk) (u : Value) (es n : Nat) (cells : List Value) : Prop := cells.all zb = true ∧ ((u = .slice none 0 0 ∧ n = 0 ∧ cells = []) ∨
  ∃ (i q c : Nat) (B : Blk), u = .slice (some ⟨i, q, none⟩) n c ∧ h[i]? = some B ∧ live B = true ∧ B.es = es ∧ q ≤ B.cells.length ∧ (B.cells.drop q).take (n * es) = cells ∧ cells.length = n * es)
def ADs (h : List Blk) : List Arg → List Value → Prop
  | [], [] => True
  | .s v :: ds, u :: us => (u = v ∧ okS v) ∧ ADs h ds us
  | .w es n cells :: ds, u :: us => isSl h u es n cells ∧ ADs h ds us
  | _, _ => False
def locHeap : List Arg → List Blk
  | [] => []
  | .s _ :: ds => locHeap ds
  | .w es _ cells :: ds => ⟨cells, .r, es⟩ :: locHeap ds
/-- The called function's arguments. -/
def LV : Nat → List Arg → List Value → Prop
  | _, [], [] => True
  | k, .s v :: ds, u :: us => u = v ∧ LV k ds us
  | k, .w _ n _ :: ds, u :: us => (∃ c, u = .slice (some ⟨k, 0, none⟩) n c ∧ n ≤ c) ∧ LV (k + 1) ds us
  | _, _, _ => False

inductive RUO (ρ : Rn) : Out → Out → Prop
  | ret {v u : Value} (h : RU ρ v u) : RUO ρ (.ret v) (.ret u)
  | panic {v u : Value} (h : RU ρ v u) : RUO ρ (.panic v) (.panic u)
/-- It does not matter from which number on new blocks are counted. -/
def Sh (R : Nat → Out → List Blk → Prop) : Prop := ∀ (ρ : Rn) (b b' : Nat) (o : Out) (new : List Blk), R b o new → (∀ i, i < new.length → ρ[b + i]? = some (some (b' + i, 0))) →
  ∃ o' new', R b' o' new' ∧ RUO ρ o o' ∧ UB ρ new new' ∧ new'.all notR = true
def Pure (P : Program) (gs : List (Nat × Obj)) (g : FuncId) (ds : List Arg) (R : Nat → Out → List Blk → Prop) : Prop :=
  Sh R ∧ ∀ vs, LV 0 ds vs → Spec P gs g vs (locHeap ds) (fun o h' => ∃ new, h' = locHeap ds ++ new ∧ R (locHeap ds).length o new)

def rho : List Arg → List Value → Rn
  | .w _ _ _ :: ds, u :: us => (match u with
    | .slice (some a) _ _ => some (a.block, a.off)
    | _ => none) :: rho ds us
  | .s _ :: ds, _ :: us => rho ds us
  | _, _ => []
def locV : Nat → List Arg → List Value → List Value
  | k, .s v :: ds, _ :: us => v :: locV k ds us
  | k, .w _ _ _ :: ds, u :: us => (match u with
    | .slice _ n c => .slice (some ⟨k, 0, none⟩) n c
    | _ => .tuple #[]) :: locV (k + 1) ds us
  | _, _, _ => []

section
variable {P : Program} {gs : List (Nat × Obj)} {m N : Nat} {K : AFr → List Blk → Prop} {Kp : Value → AFr → List Blk → Prop} {f : AFr} {h : List Blk} {o : Oper} {σ : St}

theorem locHeap_r : ∀ (ds : List Arg) (k : Nat) (D : Blk), (locHeap ds)[k]? = some D → D.md = .r
  | [], k, D, h => by simp [locHeap] at h
  | .s v :: ds, k, D, h => locHeap_r ds k D h
  | .w es n cells :: ds, 0, D, h => by simp [locHeap] at h; subst h; rfl
  | .w es n cells :: ds, k + 1, D, h => locHeap_r ds k D (by simpa [locHeap] using h)
theorem rho_length : ∀ (ds : List Arg) (us : List Value), ADs h ds us → (rho ds us).length = (locHeap ds).length
  | [], [], _ => rfl
  | [], _ :: _, h => h.elim
  | .s _ :: ds, [], h => h.elim
  | .w _ _ _ :: ds, [], h => h.elim
  | .s v :: ds, u :: us, h => by simpa [rho, locHeap] using rho_length ds us h.2
  | .w es n cells :: ds, u :: us, h => by simpa [rho, locHeap] using rho_length ds us h.2
theorem rho_blk {ρ : Rn} : ∀ (ds : List Arg) (us : List Value), ADs h ds us → ∀ (k : Nat) (D : Blk), (locHeap ds)[k]? = some D →
    (∀ (i o : Nat), (rho ds us)[k]? = some (some (i, o)) → ∃ B, h[i]? = some B ∧ BE ρ D B o) ∧ ((rho ds us)[k]? = some none → D.cells = [])
  | [], _, _, k, D, hk => by simp [locHeap] at hk
  | .s _ :: ds, [], h, _, _, _ => h.elim
  | .w _ _ _ :: ds, [], h, _, _, _ => h.elim
  | .s v :: ds, u :: us, h, k, D, hk => by
    simpa [rho] using rho_blk ds us h.2 k D hk
  | .w es n cells :: ds, u :: us, h, k + 1, D, hk => by
    simpa [rho] using rho_blk ds us h.2 k D (by simpa [locHeap] using hk)
  | .w es n cells :: ds, u :: us, hh, 0, D, hk => by
    simp [locHeap] at hk; subst hk
    obtain ⟨hs, ⟨rfl, rfl, rfl⟩ | ⟨i, q, c, B, rfl, hb, hm, he, hq, hc, hl⟩⟩ := hh.1
    · simp [rho]
    · refine ⟨fun i' o' hio => ?_, fun hn => by simp [rho] at hn⟩
      simp [rho] at hio
      obtain ⟨rfl, rfl⟩ := hio
      refine ⟨B, hb, .inr ⟨hm, he.symm, hq, ⟨?_, fun j v hj => ⟨v, ?_, .same (List.all_eq_true.1 hs v (List.mem_of_getElem? hj))⟩⟩, (fun e => nomatch e), List.all_eq_true.2 (all_one0 (all_scal_one hs))⟩⟩
      · rw [← hc]; exact List.length_take_le' ..
      · simp only at hj
        rw [← hc, List.getElem?_take] at hj
        split at hj
        · exact hj
        · cases hj
theorem ADs.emb {ds : List Arg} {us : List Value} (hd : ADs h ds us) : Emb (rho ds us) (locHeap ds) h := by
  refine ⟨rho_length ds us hd, fun k i o D hk hD => (rho_blk ds us hd k D hD).1 i o hk, fun k k' i o o' D D' _ _ _ hD _ hw => ?_, fun k D hk hD => (rho_blk (ρ := rho ds us) ds us hd k D hD).2 hk⟩
  rw [locHeap_r ds k D hD] at hw; cases hw
theorem ADs.wz {ds : List Arg} {us : List Value} : Go.J.wz (locHeap ds) (rho ds us) = true := by
  have : ∀ (ds : List Arg) (ρ : Rn), Go.J.wz (locHeap ds) ρ = true := by
    intro ds
    induction ds with
    | nil => intro ρ; cases ρ <;> rfl
    | cons d ds ih =>
      intro ρ
      cases d with
      | s v => exact ih ρ
      | w es n cells =>
        cases ρ with
        | nil => rfl
        | cons p ρ => simp [locHeap, Go.J.wz, isW, ih]
  exact this ds _
theorem ADs.rvl {ρ : Rn} : ∀ {ds : List Arg} {us : List Value} (k : Nat), ADs h ds us → (∀ j, j < (rho ds us).length → ρ[k + j]? = (rho ds us)[j]?) → RVL ρ (locV k ds us) us
  | [], [], k, _, _ => .nil
  | [], _ :: _, k, h, _ => h.elim
  | .s _ :: ds, [], k, h, _ => h.elim
  | .w _ _ _ :: ds, [], k, h, _ => h.elim
  | .s v :: ds, u :: us, k, h, hρ => by
    obtain ⟨⟨rfl, hv⟩, h2⟩ := h
    exact .cons hv.rv (ADs.rvl k h2 hρ)
  | .w es n cells :: ds, u :: us, k, hh, hρ => by
    have ht : RVL ρ (locV (k + 1) ds us) us := ADs.rvl (k + 1) hh.2 (fun j hj => by
      have := hρ (j + 1) (by simp [rho]; omega)
      rw [show k + 1 + j = k + (j + 1) by omega, this]; simp [rho])
    have h0 := hρ 0 (by simp [rho])
    obtain ⟨hs, ⟨rfl, rfl, rfl⟩ | ⟨i, q, c, B, rfl, hb, hm, he, hq, hc, hl⟩⟩ := hh.1
    · exact .cons .slz ht
    · refine .cons ?_ ht
      have := RV.sl (ρ := ρ) (k := k) (x := 0) (i := i) (o := q) (n := n) (c := c) (by simpa [rho] using h0)
      simpa using this
theorem ADs.lv : ∀ {ds : List Arg} {us us' : List Value} (k : Nat), ADs h ds us → VRs σ us us' → LV k ds (locV k ds us)
  | [], [], _, k, _, _ => trivial
  | [], _ :: _, _, k, h, _ => h.elim
  | .s _ :: ds, [], _, k, h, _ => h.elim
  | .w _ _ _ :: ds, [], _, k, h, _ => h.elim
  | _ :: _, _ :: _, [], k, _, hv => by have := hv.1; simp at this
  | .s v :: ds, u :: us, u' :: us', k, h, hv => by
    obtain ⟨⟨rfl, _⟩, h2⟩ := h
    exact ⟨rfl, ADs.lv (us' := us') k h2 ⟨by simpa using hv.1, fun i v v' h1 h2 => hv.2 (i + 1) v v' (by simpa using h1) (by simpa using h2)⟩⟩
  | .w es n cells :: ds, u :: us, u' :: us', k, hh, hv => by
    have ht := ADs.lv (us' := us') (k + 1) hh.2 ⟨by simpa using hv.1, fun i v v' h1 h2 => hv.2 (i + 1) v v' (by simpa using h1) (by simpa using h2)⟩
    have h0 := hv.2 0 u u' (by simp) (by simp)
    obtain ⟨hs, ⟨rfl, rfl, rfl⟩ | ⟨i, q, c, B, rfl, hb, hm, he, hq, hc, hl⟩⟩ := hh.1
    · exact ⟨⟨0, rfl, Nat.le_refl _⟩, ht⟩
    · refine ⟨⟨c, rfl, ?_⟩, ht⟩
      cases h0 with
      | sl _ hn _ => exact hn
      | slz => exact Nat.le_refl _

theorem back_r (hl : List Blk) (ρ : Rn) (hu : List Blk) (hr : hl.any isW = false) : back hl ρ hu h = h ++ hu.drop hl.length := by
  have : ∀ (hl : List Blk) (ρ : Rn) (hu : List Blk), hl.any isW = false → setB hl ρ hu h = h := by
    intro hl
    induction hl with
    | nil => intro ρ hu _; simp [setB]
    | cons D hl ih =>
      intro ρ hu hw
      simp only [List.any_cons, Bool.or_eq_false_iff] at hw
      cases ρ with
      | nil => simp [setB]
      | cons p ρ =>
        cases hu with
        | nil => simp [setB]
        | cons U hu => simp only [setB, hw.1]; simpa using ih ρ hu hw.2
  simp [back, this hl ρ hu hr]
theorem locHeap_w (ds : List Arg) : (locHeap ds).any isW = false := by
  rw [List.any_eq_false]
  intro B hB
  obtain ⟨k, hk⟩ := List.mem_iff_getElem?.1 hB
  simp [isW, locHeap_r ds k B hk]

theorem OpJ.callP {fx : Operand} {as : Array Operand} {ats : Array TypeId} {g : FuncId} {us : List Value} {ds : List Arg} {R : Nat → Out → List Blk → Prop} (ho : o.op = .call ⟨.value fx, as, ats⟩) (hf : ev f fx = some (.func (.func g) #[] #[]))
    (ha : as.toList.map (ev f) = us.map some) (hP : Pure P gs g ds R) (hd : ADs h ds us)
    (kk : ∀ v new, R h.length (.ret v) new → K (pt f o.dst v) (h ++ new)) (kp : ∀ v new, R h.length (.panic v) new → Kp v f (h ++ new)) : OpJ P gs m N o K Kp f h := by
  intro hdst C σ w a next Qe hC I F
  have hvr : VRs σ us (as.toList.map a.eval) := by
    obtain ⟨h1, h2⟩ := evs F ha
    refine ⟨by simp at h1 ⊢; omega, fun i v v' hv hv' => ?_⟩
    obtain ⟨x, hx, hr⟩ := h2 i v hv
    rw [List.getElem?_map, hx] at hv'
    obtain rfl := Option.some.inj hv'
    exact hr
  have hS := hP.2 _ (hd.lv 0 hvr)
  have aft : ∀ (out : Out) (h' : List Blk), (∃ new, h' = locHeap ds ++ new ∧ R (locHeap ds).length out new) →
      ∃ out' new', R h.length out' new' ∧ RUO (rho ds us ++ news h.length (h'.length - (locHeap ds).length)) out out' ∧ ∃ hu, UB (rho ds us ++ news h.length (h'.length - (locHeap ds).length)) h' hu ∧ (hu.drop (locHeap ds).length).all notR = true ∧ back (locHeap ds) (rho ds us) hu h = h ++ new' := by
    rintro out h' ⟨new, rfl, hR⟩
    have hlen := rho_length ds us hd
    obtain ⟨o', new', r1, r2, r3, r4⟩ := hP.1 (rho ds us ++ news h.length ((locHeap ds ++ new).length - (locHeap ds).length)) _ h.length out new hR (fun i hi => by
      rw [List.getElem?_append_right (by omega), hlen]
      rw [show (locHeap ds).length + i - (locHeap ds).length = i by omega]
      exact news_get _ _ _ (by simp; omega))
    have hul : (((locHeap ds).map fun B => (⟨B.cells, .d, B.es⟩ : Blk)) ++ new').drop (locHeap ds).length = new' := by rw [List.drop_append_of_le_length (by simp), List.drop_of_length_le (by simp)]; simp
    refine ⟨o', new', r1, r2, ((locHeap ds).map fun B => (⟨B.cells, .d, B.es⟩ : Blk)) ++ new', ⟨by simp [r3.1], fun k B U h1 h2 => ?_⟩, by rw [hul]; exact r4, by rw [back_r _ _ _ (locHeap_w ds), hul]⟩
    by_cases hk : k < (locHeap ds).length
    · rw [List.getElem?_append_left (by simpa using hk)] at h2
      refine .inl ?_
      simp only [List.getElem?_map, Option.map_eq_some_iff] at h2
      obtain ⟨D, _, rfl⟩ := h2
      rfl
    · rw [List.getElem?_append_right (by simpa using hk)] at h2
      rw [List.getElem?_append_right (by omega)] at h1
      exact r3.2 _ B U h1 (by simpa using h2)
  refine OpJ.call (fs := []) (cs := []) (us := us) (rho ds us) ho hf ha hS hd.emb ADs.wz (by simpa using hd.rvl 0 (fun j _ => by simp)) ?_ ?_ hdst C σ w a next Qe hC I F
  · intro v h' hR
    obtain ⟨o', new', r1, r2, hu, r3, r4, r5⟩ := aft _ _ hR
    cases r2 with
    | @ret _ u h2 => exact ⟨u, hu, r3, r4, h2, by rw [r5]; exact kk u new' r1⟩
  · intro v h' hR
    obtain ⟨o', new', r1, r2, hu, r3, r4, r5⟩ := aft _ _ hR
    cases r2 with
    | @panic _ u h2 => exact ⟨u, hu, r3, r4, h2, by rw [r5]; exact kp u new' r1⟩

/-! #### answers -/
/-- A value without addresses, nothing new. -/
def rS (v : Value) : Nat → Out → List Blk → Prop := fun _ o new => o = .ret v ∧ new = []
theorem Sh.rS {v : Value} (hv : ∀ ρ, RU ρ v v) : Sh (rS v) := by
  rintro ρ b b' o new ⟨rfl, rfl⟩ _
  exact ⟨_, _, ⟨rfl, rfl⟩, .ret (hv ρ), .nil, rfl⟩
theorem Sh.or {R S : Nat → Out → List Blk → Prop} (a : Sh R) (b : Sh S) : Sh (fun n o new => R n o new ∨ S n o new) := by
  rintro ρ b1 b2 o new (h | h) hi
  · obtain ⟨o', new', x, y⟩ := a ρ b1 b2 o new h hi; exact ⟨o', new', .inl x, y⟩
  · obtain ⟨o', new', x, y⟩ := b ρ b1 b2 o new h hi; exact ⟨o', new', .inr x, y⟩
/-- New bytes. -/
def rB (l : List UInt8) : Nat → Out → List Blk → Prop := fun b o new => ∃ c, l.length ≤ c ∧ o = .ret (.slice (some ⟨b, 0, none⟩) l.length c) ∧ new = [⟨bytesC l, .w, 1⟩]
theorem Sh.rB {l : List UInt8} : Sh (rB l) := by
  rintro ρ b b' o new ⟨c, hc, rfl, rfl⟩ hi
  have h0 := hi 0 (by simp)
  refine ⟨_, _, ⟨c, hc, rfl, rfl⟩, .ret ?_, .cons (.same rfl (bytesC_scal l)) .nil, rfl⟩
  have := RU.sl (ρ := ρ) (k := b) (x := 0) (i := b') (o := 0) (n := l.length) (c := c) (by simpa using h0)
  simpa using this
end
end Go.J
