/- The program logic J, part 20: memory that nobody writes any more, told as values. No condition. -/
import Derived.Test.YthknbhghkcdepaaGreatDoorJMeth
set_option maxHeartbeats 4000000
set_option linter.unusedVariables false
set_option linter.unusedSimpArgs false
namespace Go.J
section
variable {P : Program} {gs : List (Nat × Obj)} {m N : Nat} {K : AFr → List Blk → Prop} {Kp : Value → AFr → List Blk → Prop} {f : AFr} {h : List Blk} {o : Oper} {C : Cx} {σ : St} {w : World}

/-- A block of ours becomes one that nobody writes any more. -/
theorem Inv.freeze (I : Inv gs C σ h w) {i : Nat} {B : Blk} {l : Loc} (hb : h[i]? = some B) (hl : σ.l[i]? = some l) (hm : B.md = .w) (hs : 0 < l.s) :
    ∃ c : Array Value, c.size = l.s ∧ l.o + B.cells.length ≤ l.s ∧ (∀ (j : Nat) (v : Value), B.cells[j]? = some v → ∃ v', c[l.o + j]? = some v' ∧ VR σ v v') ∧ Inv gs C ⟨σ.l, (l.b, c) :: σ.z⟩ (h.set i ⟨[], .d, B.es⟩) w := by
  obtain ⟨c, t, fr, c2, c3, c5, c6, c7, c8⟩ := I.sim.real hl hb (live_w hm) (.inl hs)
  refine ⟨c, c3, c5, c6, ?_⟩
  have K := I.kill hb
  have hx : Ext σ ⟨σ.l, (l.b, c) :: σ.z⟩ := ⟨fun _ _ h => h, fun p hp => List.mem_cons_of_mem _ hp⟩
  have S := K.sim
  have old : ∀ {j : Nat} {D : Blk}, (h.set i ⟨[], .d, B.es⟩)[j]? = some D → (D.md = .d → False) → j ≠ i ∧ h[j]? = some D := by
    intro j D hD hDd
    rcases getElem?_set_cases hD with ⟨rfl, rfl, _⟩ | ⟨hne, hD'⟩
    · exact (hDd rfl).elim
    · exact ⟨hne, hD'⟩
  refine ⟨⟨S.len, ?_, S.apart, S.glob, ?_, ?_, S.globw⟩, ⟨K.pre.loc, fun p hp => List.mem_cons_of_mem _ (K.pre.z p hp)⟩, K.size, K.keep, K.mine, ?_, K.os, K.out, K.tape⟩
  · intro j D hD hDd
    obtain ⟨m, hm1, he, h0 | ⟨c', t', fr', hw, hs', hle', hcc, hf, h1⟩⟩ := S.live j D hD hDd
    · exact ⟨m, hm1, he, .inl h0⟩
    · exact ⟨m, hm1, he, .inr ⟨c', t', fr', hw, hs', hle', fun q v hv => by obtain ⟨v', h2, h3⟩ := hcc q v hv; exact ⟨v', h2, h3.ext hx⟩, hf, h1⟩⟩
  · intro p hp
    rcases List.mem_cons.1 hp with rfl | hp
    · exact ⟨t, fr, c2⟩
    · exact S.frz p hp
  · intro p hp j D m' hD hDw hm1 hms
    rcases List.mem_cons.1 hp with rfl | hp
    · obtain ⟨hne, hD'⟩ := old hD (live_w hDw)
      exact fun e => I.sim.apart i j B D l m' (fun e => hne e.symm) hb hD' hm (live_w hDw) hl hm1 hs hms e.symm
    · exact S.frzw p hp j D m' hD hDw hm1 hms
  · intro p hp
    rcases List.mem_cons.1 hp with rfl | hp
    · exact .inr (I.mine i B l hb hm hl hs)
    · exact K.zown p hp

/-- What a value told without numbers stands for. -/
theorem VR.zr {v v' : Value} (h : zb v = true) (hv : VR σ v v') : ZR σ.z v v' := by
  rcases zb_cases h with h | ⟨es, n, vs, rfl⟩ | ⟨vs, rfl⟩
  · rw [hv.scal_eq h]; exact .s h
  · exact hv.fz_inv
  · exact hv.pz_inv
theorem ZR.vr {v v' : Value} (h : zb v = true) (hz : ZR σ.z v v') : VR σ v v' := by
  rcases zb_cases h with h | ⟨es, n, vs, rfl⟩ | ⟨vs, rfl⟩
  · cases hz with
    | s => exact VR.scal h
    | fz => rw [FZ_scal] at h; cases h
    | fz0 => rw [FZ_scal] at h; cases h
    | pz => rw [PZ_scal] at h; cases h
  · exact .fz hz
  · exact .pz hz

/-- Cells of a block, told without numbers, as the memory has them. -/
theorem freeze_cells {B : Blk} {l : Loc} {c : Array Value} (hz : B.cells.all zb = true) (hc : ∀ (j : Nat) (v : Value), B.cells[j]? = some v → ∃ v', c[l.o + j]? = some v' ∧ VR σ v v') (q k : Nat) (hk : q + k ≤ B.cells.length) :
    ∃ vs' : List Value, vs'.length = k ∧ (∀ (j : Nat) (v : Value), vs'[j]? = some v → c[l.o + q + j]? = some v) ∧ ∀ (j : Nat) x y, ((B.cells.drop q).take k)[j]? = some x → vs'[j]? = some y → ZR σ.z x y := by
  obtain ⟨vs', h1, h2⟩ := exists_list (fun (p : Value × Nat) v' => c[l.o + q + p.2]? = some v' ∧ ZR σ.z p.1 v') ((B.cells.drop q).take k).zipIdx (by
    rintro ⟨v, j⟩ hp
    obtain ⟨hj, hv⟩ := List.mem_zipIdx' hp
    have hv2 : ((B.cells.drop q).take k)[j]? = some v := by rw [List.getElem?_eq_getElem hj, hv]
    have hjk : j < k := by rw [List.length_take, List.length_drop] at hj; omega
    rw [List.getElem?_take, if_pos hjk, List.getElem?_drop] at hv2
    obtain ⟨v', h1, h2⟩ := hc _ v hv2
    exact ⟨v', by rw [← h1, Nat.add_assoc], h2.zr (List.all_eq_true.1 hz v (List.mem_of_getElem? hv2))⟩)
  have hlen : vs'.length = k := by rw [h1, List.length_zipIdx, List.length_take, List.length_drop]; omega
  refine ⟨vs', hlen, fun j v hv => ?_, fun j x y hx hy => ?_⟩
  · have hj := (List.getElem?_eq_some_iff.1 hv).1
    have hj2 : j < ((B.cells.drop q).take k).length := by rw [List.length_take, List.length_drop]; omega
    obtain ⟨y, hy, hc, _⟩ := h2 j (((B.cells.drop q).take k)[j], j) (by simp [List.getElem?_zipIdx, List.getElem?_eq_getElem hj2])
    rw [hv] at hy; obtain rfl := Option.some.inj hy
    exact hc
  · obtain ⟨z, hz, _, hr⟩ := h2 j (x, j) (by simp [List.getElem?_zipIdx, hx])
    rw [hy] at hz; obtain rfl := Option.some.inj hz
    exact hr

/-- A slice of ours is told by its cells from now on. -/
theorem Wk.freeze {i t es n c : Nat} {cells : List Value} (hx : lk f t = some (.slice (some ⟨i, 0, none⟩) n c)) (hb : h[i]? = some ⟨cells, .w, es⟩) (hz : cells.all zb = true) (hn : cells.length = n * es) (h0 : es ≠ 0) : Wk gs m N f h ((t, FZ es n cells) :: f) (h.set i ⟨[], .d, es⟩) := by
  intro C σ w a _ I F
  obtain ⟨l, hl⟩ := I.sim.loc hb
  by_cases hs : 0 < l.s
  · obtain ⟨cs, e1, e2, e3, I2⟩ := I.freeze hb hl rfl hs
    have hxt : Ext σ ⟨σ.l, (l.b, cs) :: σ.z⟩ := ⟨fun _ _ h => h, fun p hp => List.mem_cons_of_mem _ hp⟩
    refine ⟨_, I2, F.size, F.defers, fun s v hs' => ?_⟩
    simp only [lk] at hs'
    split at hs'
    · rename_i e; subst e
      obtain rfl := Option.some.inj hs'
      obtain ⟨v', h1, h2⟩ := F.val _ _ hx
      refine ⟨v', h1, .fz ?_⟩
      obtain ⟨vs', b1, b2, b3⟩ := freeze_cells (l := l) hz e3 0 (n * es) (by simp only; omega)
      cases h2 with
      | @sl _ _ _ _ c0 l0 hl0 hnc hcc hc =>
        rw [hl] at hl0; obtain rfl := Option.some.inj hl0
        refine .fz (vs' := vs') (List.mem_cons_self ..) hn (by rw [b1, hn]) (fun j v hv => b2 j v hv) (fun j x y hx' hy => ?_) (Nat.le_trans hnc hcc)
        refine (b3 j x y ?_ hy).mono (fun p hp => List.mem_cons_of_mem _ hp)
        simp only [List.drop_zero]
        rw [List.getElem?_take, if_pos (by have := (List.getElem?_eq_some_iff.1 hx').1; omega)]; exact hx'
      | slz =>
        have : cells = [] := List.eq_nil_of_length_eq_zero (by omega)
        subst this
        exact .fz0
    · obtain ⟨v', h1, h2⟩ := F.val s v hs'
      exact ⟨v', h1, h2.ext hxt⟩
  · have Ik := I.kill hb
    refine ⟨σ, Ik, F.size, F.defers, fun s v hs' => ?_⟩
    simp only [lk] at hs'
    split at hs'
    · rename_i e; subst e
      obtain rfl := Option.some.inj hs'
      obtain ⟨v', h1, h2⟩ := F.val _ _ hx
      refine ⟨v', h1, .fz ?_⟩
      obtain ⟨l', hl', he, hr⟩ := I.sim.live i _ hb (by intro e; cases e)
      rw [hl] at hl'; obtain rfl := Option.some.inj hl'
      have hc0 : cells = [] := by
        rcases hr with ⟨_, hr⟩ | ⟨_, _, _, _, _, hr, _⟩
        · exact hr
        · exact List.eq_nil_of_length_eq_zero (by simp only at hr; omega)
      subst hc0
      have hn0 : n = 0 := by
        rcases Nat.mul_eq_zero.1 (show n * es = 0 by simpa using hn.symm) with e | e
        · exact e
        · exact (h0 e).elim
      subst hn0
      obtain ⟨b', c1, rfl, _⟩ := h2.slice_form
      exact .fz0
    · exact F.val s v hs'

/-- What a function does, told otherwise. -/
theorem Spec.wk {g : FuncId} {vs : List Value} {hl : List Blk} {R R' : Out → List Blk → Prop} (hS : Spec P gs g vs hl R) (kr : ∀ v h', R (.ret v) h' → ∃ v2 h2, Wk gs hl.length 1 [(0, v)] h' [(0, v2)] h2 ∧ R' (.ret v2) h2)
    (kp : ∀ v h', R (.panic v) h' → ∃ v2 h2, Wk gs hl.length 1 [(0, v)] h' [(0, v2)] h2 ∧ R' (.panic v2) h2) : Spec P gs g vs hl R' := by
  intro σ w args S hv
  refine CallR.mono (hS σ w args S hv) ?_
  intro e w' he
  cases e with
  | returned v' =>
    obtain ⟨τ, h', v, I, hvr, hR⟩ := he
    obtain ⟨v2, h2, hw, hR2⟩ := kr v h' hR
    obtain ⟨τ2, I2, F2⟩ := hw _ τ w' _ S.len I (FR.one hvr)
    obtain ⟨v'', c1, c2⟩ := F2.val 0 v2 rfl
    simp at c1; subst c1
    exact ⟨τ2, h2, v2, I2, c2, hR2⟩
  | panicked ch =>
    obtain ⟨τ, h', v, v', rfl, I, hvr, hR⟩ := he
    obtain ⟨v2, h2, hw, hR2⟩ := kp v h' hR
    obtain ⟨τ2, I2, F2⟩ := hw _ τ w' _ S.len I (FR.one hvr)
    obtain ⟨v'', c1, c2⟩ := F2.val 0 v2 rfl
    simp at c1; subst c1
    exact ⟨τ2, h2, v2, v', rfl, I2, c2, hR2⟩
  | outgrown => exact he.elim
end
end Go.J
