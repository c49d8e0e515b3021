/- The program logic J, part 2: what a store, a new block and an append do to abstract heaps. No condition. -/
import Derived.Test.YthknbhghkcdepaaGreatDoorJCore
set_option maxHeartbeats 4000000
set_option linter.unusedVariables false
set_option linter.unusedSimpArgs false
namespace Go.J
section
variable {gs : List (Nat × Obj)} {C : Cx} {σ τ : St} {h : List Blk} {w : World}

theorem getElem?_set_cases {α : Type} {l : List α} {i j : Nat} {x y : α} (e : (l.set i x)[j]? = some y) : (j = i ∧ y = x ∧ i < l.length) ∨ (j ≠ i ∧ l[j]? = some y) := by
  by_cases h : i = j
  · subst h
    have hl : i < l.length := by
      have := (List.getElem?_eq_some_iff.1 e).1
      simpa using this
    rw [List.getElem?_set_self hl] at e
    exact .inl ⟨rfl, (Option.some.inj e).symm, hl⟩
  · rw [List.getElem?_set_ne h] at e
    exact .inr ⟨fun q => h q.symm, e⟩

/-- A block told anew, weaker or with other cells, the memory being the same or turned at a block that is written by us. -/
theorem Inv.put (I : Inv gs C σ h w) {i : Nat} {B B' : Blk} {l : Loc} {w' : World} (hb : h[i]? = some B) (hl : σ.l[i]? = some l) (hd : B.md = .d → False) (hs0 : 0 < l.s)
    (hm : B'.md = .d ∨ B'.md = B.md) (he : B'.es = B.es)
    (hw : B.md = .w ∨ w' = w)
    (hsame : ∀ b, b ≠ l.b → w'.heap[b]? = w.heap[b]?) (hsz : w'.heap.size = w.heap.size) (hos : w'.os = w.os) (hout : w'.output = w.output) (htape : w'.tape = w.tape)
    (hnew : ∀ (c : Array Value) (t : TypeId) (fr : Nat × Nat), w.heap[l.b]? = some (.cells c t fr) → c.size = l.s → (∀ (j : Nat) (v : Value), B.cells[j]? = some v → ∃ v', c[l.o + j]? = some v' ∧ VR σ v v') → l.o + B.cells.length ≤ l.s → (∀ v ∈ B.cells, one0 v = true) →
      ∃ c' : Array Value, w'.heap[l.b]? = some (.cells c' t fr) ∧ c'.size = l.s ∧ l.o + B'.cells.length ≤ l.s ∧ (∀ (j : Nat) (v : Value), B'.cells[j]? = some v → ∃ v', c'[l.o + j]? = some v' ∧ VR σ v v') ∧ (∀ v ∈ B'.cells, one0 v = true)) :
    Inv gs C σ (h.set i B') w' := by
  have S := I.sim
  obtain ⟨l0, hl0, he0, _⟩ := S.live i B hb hd
  obtain rfl : l = l0 := by rw [hl] at hl0; exact Option.some.inj hl0
  obtain ⟨c0, t0, fr0, hw0, hs0', hle0, hc0, hf0, h10⟩ := S.real hl hb hd (.inl hs0)
  obtain ⟨c1, hw1, hs1, hle1, hc1, h11⟩ := hnew c0 t0 fr0 hw0 hs0' hc0 hle0 h10
  have hfz : ∀ a : Addr, (∃ q, a.block = q ∧ q ≠ l.b) → w'.frozen? a = w.frozen? a := by
    rintro a ⟨q, hq, hne⟩
    simp only [World.frozen?, hq, hsame q hne]
  refine ⟨⟨by simpa using S.len, ?_, ?_, ?_, ?_, ?_, ?_⟩, I.pre, by rw [hsz]; exact I.size, ?_, ?_, I.zown, hos.trans I.os, hout.trans I.out, htape.trans I.tape⟩
  · intro j D hD hDd
    rcases getElem?_set_cases hD with ⟨rfl, rfl, _⟩ | ⟨hne, hD'⟩
    · refine ⟨l, hl, by rw [he0, he], .inr ⟨c1, t0, fr0, hw1, hs1, hle1, hc1, ?_, h11⟩⟩
      intro hwm q hq
      rcases hm with hm | hm
      · exact (hDd hm).elim
      · have h2 := hf0 (by rw [← hm]; exact hwm) q (by omega)
        simp only [World.frozen?, hw0] at h2
        simp only [World.frozen?, hw1]
        exact h2
    · obtain ⟨m, hm1, hm4, hm0 | ⟨c, t, fr, hm2, hm3, hm5, hm6, hm7, hm8⟩⟩ := S.live j D hD' hDd
      · exact ⟨m, hm1, hm4, .inl hm0⟩
      by_cases hms : m.s = 0
      · refine ⟨m, hm1, hm4, .inl ⟨hms, ?_⟩⟩
        rw [hms] at hm5
        exact List.eq_nil_of_length_eq_zero (by omega)
      by_cases heq : m.b = l.b
      · rcases hw with hw | rfl
        · exact (S.apart i j B D l m (fun e => hne e.symm) hb hD' hw hDd hl hm1 hs0 (by omega) heq.symm).elim
        · exact ⟨m, hm1, hm4, .inr ⟨c, t, fr, hm2, hm3, hm5, hm6, hm7, hm8⟩⟩
      · refine ⟨m, hm1, hm4, .inr ⟨c, t, fr, (hsame _ heq).trans hm2, hm3, hm5, hm6, ?_, hm8⟩⟩
        intro hwm q hq
        rw [hfz _ ⟨_, rfl, heq⟩]
        exact hm7 hwm q hq
  · intro j k D E m n hjk hD hE hDw hEd hm1 hn1 hms hns
    have key : ∀ {j : Nat} {D : Blk}, (h.set i B')[j]? = some D → (D.md = .d → False) → ∃ D', h[j]? = some D' ∧ D'.md = D.md := by
      intro j D hD hDd
      rcases getElem?_set_cases hD with ⟨rfl, rfl, _⟩ | ⟨_, hD'⟩
      · rcases hm with hm | hm
        · exact (hDd hm).elim
        · exact ⟨B, hb, hm.symm⟩
      · exact ⟨D, hD', rfl⟩
    obtain ⟨D', hD', hmd⟩ := key hD (by rw [hDw]; intro e; cases e)
    obtain ⟨E', hE', hme⟩ := key hE hEd
    exact S.apart j k D' E' m n hjk hD' hE' (hmd.trans hDw) (by rw [hme]; exact hEd) hm1 hn1 hms hns
  · intro p hp
    by_cases e : p.1 = l.b
    · rcases hw with hw | rfl
      · exact (S.globw p hp i B l hb hw hl hs0 e.symm).elim
      · exact S.glob p hp
    · exact (hsame _ e).trans (S.glob p hp)
  · intro p hp
    by_cases e : p.1 = l.b
    · rcases hw with hw | rfl
      · exact (S.frzw p hp i B l hb hw hl hs0 e.symm).elim
      · exact S.frz p hp
    · rw [hsame _ e]; exact S.frz p hp
  · intro p hp j D m hD hDw hm1 hms
    rcases getElem?_set_cases hD with ⟨rfl, rfl, _⟩ | ⟨_, hD'⟩
    · rcases hm with hm | hm
      · rw [hDw] at hm; cases hm
      · exact S.frzw p hp _ B m hb (by rw [← hm]; exact hDw) hm1 hms
    · exact S.frzw p hp j D m hD' hDw hm1 hms
  · intro p hp j D m hD hDw hm1 hms
    rcases getElem?_set_cases hD with ⟨rfl, rfl, _⟩ | ⟨_, hD'⟩
    · rcases hm with hm | hm
      · rw [hDw] at hm; cases hm
      · exact S.globw p hp _ B m hb (by rw [← hm]; exact hDw) hm1 hms
    · exact S.globw p hp j D m hD' hDw hm1 hms
  · intro b hb1 hb2
    by_cases e : b = l.b
    · rcases hw with hw | rfl
      · rcases I.mine i B l hb hw hl hs0 with h1 | h1
        · exact (hb2 (e ▸ h1)).elim
        · omega
      · exact I.keep b hb1 hb2
    · exact (hsame _ e).trans (I.keep b hb1 hb2)
  · intro j D m hD hDw hm1 hms
    rcases getElem?_set_cases hD with ⟨rfl, rfl, _⟩ | ⟨_, hD'⟩
    · rcases hm with hm | hm
      · rw [hDw] at hm; cases hm
      · exact I.mine _ B m hb (by rw [← hm]; exact hDw) hm1 hms
    · exact I.mine j D m hD' hDw hm1 hms

/-- The same memory: blocks told weaker. -/
theorem Inv.less (I : Inv gs C σ h w) {i : Nat} {B B' : Blk} (hb : h[i]? = some B) (hd : B'.md = .d ∨ (B'.md = B.md ∧ B'.es = B.es ∧ (∃ n, B'.cells = B.cells.take n))) : Inv gs C σ (h.set i B') w := by
  have S := I.sim
  have key : ∀ {j : Nat} {D : Blk}, (h.set i B')[j]? = some D → (D.md = .d → False) → ∃ D', h[j]? = some D' ∧ D'.md = D.md ∧ D'.es = D.es ∧ ∃ n, D.cells = D'.cells.take n := by
    intro j D hD hDd
    rcases getElem?_set_cases hD with ⟨rfl, rfl, _⟩ | ⟨_, hD'⟩
    · rcases hd with hd | ⟨h1, h2, h3⟩
      · exact (hDd hd).elim
      · exact ⟨B, hb, h1.symm, h2.symm, h3⟩
    · exact ⟨D, hD', rfl, rfl, D.cells.length, by simp⟩
  have nd : ∀ {D : Blk}, D.md = .w → (D.md = .d → False) := fun e k => by rw [e] at k; cases k
  refine ⟨⟨by simpa using S.len, ?_, ?_, S.glob, S.frz, ?_, ?_⟩, I.pre, I.size, I.keep, ?_, I.zown, I.os, I.out, I.tape⟩
  · intro j D hD hDd
    obtain ⟨D', hD', h1, h2, n, h3⟩ := key hD hDd
    obtain ⟨m, hm1, hm4, ⟨z1, z2⟩ | ⟨c, t, fr, hm2, hm3, hm5, hm6, hm7, hm8⟩⟩ := S.live j D' hD' (by rw [h1]; exact hDd)
    · exact ⟨m, hm1, hm4.trans h2, .inl ⟨z1, by rw [h3, z2]; simp⟩⟩
    · refine ⟨m, hm1, hm4.trans h2, .inr ⟨c, t, fr, hm2, hm3, by rw [h3, List.length_take]; omega, ?_, fun e => hm7 (by rw [h1]; exact e), fun v hv => hm8 v (by rw [h3] at hv; exact List.mem_of_mem_take hv)⟩⟩
      intro q v hv
      rw [h3, List.getElem?_take] at hv
      split at hv
      · exact hm6 q v hv
      · cases hv
  · intro j k D E m n hjk hD hE hDw hEd hm1 hn1
    obtain ⟨D', hD', h1, _⟩ := key hD (nd hDw)
    obtain ⟨E', hE', h2, _⟩ := key hE hEd
    exact S.apart j k D' E' m n hjk hD' hE' (h1.trans hDw) (by rw [h2]; exact hEd) hm1 hn1
  · intro p hp j D m hD hDw hm1
    obtain ⟨D', hD', h1, _⟩ := key hD (nd hDw)
    exact S.frzw p hp j D' m hD' (h1.trans hDw) hm1
  · intro p hp j D m hD hDw hm1
    obtain ⟨D', hD', h1, _⟩ := key hD (nd hDw)
    exact S.globw p hp j D' m hD' (h1.trans hDw) hm1
  · intro j D m hD hDw hm1
    obtain ⟨D', hD', h1, _⟩ := key hD (nd hDw)
    exact I.mine j D' m hD' (h1.trans hDw) hm1

/-- A block told no more. -/
theorem Inv.kill (I : Inv gs C σ h w) {i : Nat} {B : Blk} (hb : h[i]? = some B) : Inv gs C σ (h.set i ⟨[], .d, B.es⟩) w := I.less hb (.inl rfl)

/-- Fewer cells are told. -/
theorem Inv.trunc (I : Inv gs C σ h w) {i n : Nat} {B : Blk} (hb : h[i]? = some B) (hd : B.md = .d → False) : Inv gs C σ (h.set i { B with cells := B.cells.take n }) w := I.less hb (.inr ⟨rfl, rfl, n, rfl⟩)

theorem heap_setCell {w : World} {b o : Nat} {v : Value} {c : Array Value} {t : TypeId} {fr : Nat × Nat} (hw : w.heap[b]? = some (.cells c t fr)) :
    (w.setCell ⟨b, o, none⟩ v).heap[b]? = some (.cells (c.setIfInBounds o v) t fr) := by
  simp [World.setCell, Array.getElem?_modify, hw]
theorem heap_setCell_ne {w : World} {b o k : Nat} {v : Value} (hk : k ≠ b) : (w.setCell ⟨b, o, none⟩ v).heap[k]? = w.heap[k]? := by
  simp only [World.setCell, Array.getElem?_modify]
  rw [if_neg (fun e => hk e.symm)]

/-- A cell is stored into. -/
theorem Inv.store (I : Inv gs C σ h w) {i j : Nat} {B : Blk} {l : Loc} {v v' : Value} (hb : h[i]? = some B) (hl : σ.l[i]? = some l) (hm : B.md = .w) (hj : j < B.cells.length) (hv : VR σ v v') (h1 : one0 v = true) :
    Inv gs C σ (h.set i { B with cells := B.cells.set j v }) (w.setCell ⟨l.b, l.o + j, none⟩ v') := by
  have hd : B.md = .d → False := fun e => by rw [hm] at e; cases e
  obtain ⟨_, _, _, _, _, hle0, _⟩ := I.sim.real hl hb hd (.inr (fun e => by rw [e] at hj; simp at hj))
  refine I.put (B' := { B with cells := B.cells.set j v }) hb hl hd (by omega) (.inr rfl) rfl (.inl hm) (fun b hne => heap_setCell_ne hne) (by simp [World.setCell]) rfl rfl rfl ?_
  intro c t fr hw hs hc hle ho
  refine ⟨c.setIfInBounds (l.o + j) v', heap_setCell hw, by simpa using hs, by simpa using hle, ?_, ?_⟩
  · intro q u hq
    rcases getElem?_set_cases hq with ⟨rfl, rfl, _⟩ | ⟨hne, hq'⟩
    · exact ⟨v', by rw [Array.getElem?_setIfInBounds_self_of_lt (by omega)], hv⟩
    · obtain ⟨u', hu, hr⟩ := hc q u hq'
      exact ⟨u', by rw [Array.getElem?_setIfInBounds_ne (by omega)]; exact hu, hr⟩
  · intro u hu
    rcases List.mem_or_eq_of_mem_set hu with hu | rfl
    · exact ho u hu
    · exact h1

/-- A spare cell right behind the told ones is stored into, and told. -/
theorem Inv.snoc (I : Inv gs C σ h w) {i : Nat} {B : Blk} {l : Loc} {v v' : Value} (hb : h[i]? = some B) (hl : σ.l[i]? = some l) (hm : B.md = .w) (hj : l.o + B.cells.length < l.s) (hv : VR σ v v') (h1 : one0 v = true) :
    Inv gs C σ (h.set i { B with cells := B.cells ++ [v] }) (w.setCell ⟨l.b, l.o + B.cells.length, none⟩ v') := by
  have hd : B.md = .d → False := fun e => by rw [hm] at e; cases e
  refine I.put (B' := { B with cells := B.cells ++ [v] }) hb hl hd (by omega) (.inr rfl) rfl (.inl hm) (fun b hne => heap_setCell_ne hne) (by simp [World.setCell]) rfl rfl rfl ?_
  intro c t fr hw hs hc hle ho
  refine ⟨c.setIfInBounds (l.o + B.cells.length) v', heap_setCell hw, by simpa using hs, by simp; omega, ?_, ?_⟩
  · intro q u hq
    rw [getElem?_snoc] at hq
    split at hq
    · rename_i e; subst e
      obtain rfl := Option.some.inj hq
      exact ⟨v', by rw [Array.getElem?_setIfInBounds_self_of_lt (by omega)], hv⟩
    · obtain ⟨u', hu, hr⟩ := hc q u hq
      rename_i hne
      exact ⟨u', by rw [Array.getElem?_setIfInBounds_ne (by omega)]; exact hu, hr⟩
  · intro u hu
    rcases List.mem_append.1 hu with hu | hu
    · exact ho u hu
    · obtain rfl := List.mem_singleton.1 hu
      exact h1

/-- A new block. -/
theorem Inv.pushF (I : Inv gs C σ h w) (c : Array Value) (t : TypeId) (fr : Nat × Nat) (hfr : ∀ q, q < c.size → ¬ (fr.1 ≤ q ∧ q < fr.2)) (cs : List Value) (e : Nat) (hle : cs.length ≤ c.size)
    (hc : ∀ (j : Nat) (v : Value), cs[j]? = some v → ∃ v', c[j]? = some v' ∧ VR σ v v') (h1 : ∀ v ∈ cs, one0 v = true) :
    Inv gs C (σ ++ [(⟨w.heap.size, 0, c.size, e⟩ : Loc)]) (h ++ [⟨cs, .w, e⟩]) { w with heap := w.heap.push (.cells c t fr) } := by
  have S := I.sim
  have hold : ∀ b, b < w.heap.size → (w.heap.push (.cells c t fr))[b]? = w.heap[b]? := fun b hb => by rw [Array.getElem?_push, if_neg (by omega)]
  have hnew : (w.heap.push (Obj.cells c t fr))[w.heap.size]? = some (.cells c t fr) := by simp
  have hblt : ∀ (i : Nat) (B : Blk) (l : Loc), h[i]? = some B → (B.md = .d → False) → σ.l[i]? = some l → 0 < l.s → l.b < w.heap.size := by
    intro i B l hb hd hl hs
    obtain ⟨c, t, fr, hw, _⟩ := S.real hl hb hd (.inl hs)
    exact (Array.getElem?_eq_some_iff.1 hw).1
  have nd : ∀ {D : Blk}, D.md = .w → (D.md = .d → False) := fun e k => by rw [e] at k; cases k
  have hx : Ext σ (σ ++ [(⟨w.heap.size, 0, c.size, e⟩ : Loc)]) := Ext.app _ _
  have hlen := S.len
  refine ⟨⟨by simp [hlen], ?_, ?_, ?_, ?_, ?_, ?_⟩, I.pre.trans hx, by have := I.size; simp; omega, ?_, ?_, I.zown, I.os, I.out, I.tape⟩
  · intro i B hb hd
    rw [getElem?_snoc] at hb
    split at hb
    · rename_i heq
      obtain rfl := Option.some.inj hb
      refine ⟨_, by rw [St.app_l, getElem?_snoc, if_pos (by omega)], rfl, .inr ⟨c, t, fr, hnew, rfl, by simpa using hle, ?_, ?_, h1⟩⟩
      · intro j v hv
        obtain ⟨v', h2, h3⟩ := hc j v hv
        exact ⟨v', by simpa using h2, h3.ext hx⟩
      · intro _ q hq
        have := hfr q hq
        simp only [World.frozen?, hnew]
        simpa using this
    · obtain ⟨l, hl, he, h0 | ⟨c', t', fr, hw, hs, hle', hcc, hf, ho⟩⟩ := S.live i B hb hd
      · exact ⟨l, hx.loc _ _ hl, he, .inl h0⟩
      have hlt := (Array.getElem?_eq_some_iff.1 hw).1
      refine ⟨l, hx.loc _ _ hl, he, .inr ⟨c', t', fr, (hold _ hlt).trans hw, hs, hle', ?_, ?_, ho⟩⟩
      · intro j v hv
        obtain ⟨v', h2, h3⟩ := hcc j v hv
        exact ⟨v', h2, h3.ext hx⟩
      · intro hm q hq
        have := hf hm q hq
        simp only [World.frozen?, hold _ hlt] at this ⊢
        exact this
  · intro i j B D l m hij hb hD hBw hDd hl hm hls hms
    rw [getElem?_snoc] at hb hD
    simp only [St.app_l] at hl hm
    rw [getElem?_snoc] at hl hm
    split at hb
    · rename_i e1
      obtain rfl := Option.some.inj hb
      rw [if_pos (by omega)] at hl
      obtain rfl := Option.some.inj hl
      rw [if_neg (by omega)] at hD hm
      have := hblt j D m hD hDd hm hms
      simp; omega
    · rw [if_neg (by omega)] at hl
      split at hD
      · obtain rfl := Option.some.inj hD
        rw [if_pos (by omega)] at hm
        obtain rfl := Option.some.inj hm
        have := hblt i B l hb (nd hBw) hl hls
        simp; omega
      · rw [if_neg (by omega)] at hm
        exact S.apart i j B D l m hij hb hD hBw hDd hl hm hls hms
  · intro p hp
    have := S.glob p hp
    exact (hold _ (Array.getElem?_eq_some_iff.1 this).1).trans this
  · intro p hp
    obtain ⟨t', fr', h1⟩ := S.frz p hp
    exact ⟨t', fr', (hold _ (Array.getElem?_eq_some_iff.1 h1).1).trans h1⟩
  · intro p hp i B l hb hBw hl hls
    simp only [St.app_l] at hl
    try simp only [St.app_l] at hl
    rw [getElem?_snoc] at hb hl
    split at hb
    · rw [if_pos (by omega)] at hl
      obtain rfl := Option.some.inj hl
      obtain ⟨t', fr', h1⟩ := S.frz p hp
      have := (Array.getElem?_eq_some_iff.1 h1).1
      simp; omega
    · rw [if_neg (by omega)] at hl
      exact S.frzw p hp i B l hb hBw hl hls
  · intro p hp i B l hb hBw hl hls
    try simp only [St.app_l] at hl
    rw [getElem?_snoc] at hb hl
    split at hb
    · rw [if_pos (by omega)] at hl
      obtain rfl := Option.some.inj hl
      have := (Array.getElem?_eq_some_iff.1 (S.glob p hp)).1
      simp; omega
    · rw [if_neg (by omega)] at hl
      exact S.globw p hp i B l hb hBw hl hls
  · intro b hb1 hb2
    exact (hold _ (by have := I.size; omega)).trans (I.keep b hb1 hb2)
  · intro i B l hb hBw hl hls
    try simp only [St.app_l] at hl
    rw [getElem?_snoc] at hb hl
    split at hb
    · rw [if_pos (by omega)] at hl
      obtain rfl := Option.some.inj hl
      exact .inr I.size
    · rw [if_neg (by omega)] at hl
      exact I.mine i B l hb hBw hl hls

theorem Inv.push (I : Inv gs C σ h w) (c : Array Value) (t : TypeId) (cs : List Value) (e : Nat) (hle : cs.length ≤ c.size)
    (hc : ∀ (j : Nat) (v : Value), cs[j]? = some v → ∃ v', c[j]? = some v' ∧ VR σ v v') (h1 : ∀ v ∈ cs, one0 v = true) :
    Inv gs C (σ ++ [(⟨w.heap.size, 0, c.size, e⟩ : Loc)]) (h ++ [⟨cs, .w, e⟩]) { w with heap := w.heap.push (.cells c t) } :=
  I.pushF c t (0, 0) (fun q _ hq => by simp at hq) cs e hle hc h1

/-- A block of ours gets another number, from a place in it on; the elder number is dead. -/
theorem Inv.move (I : Inv gs C σ h w) {i o : Nat} {B : Blk} {l : Loc} (hb : h[i]? = some B) (hl : σ.l[i]? = some l) (hm : B.md = .w) (ho : o ≤ B.cells.length) :
    Inv gs C (σ ++ [(⟨l.b, l.o + o, l.s, l.e⟩ : Loc)]) (h.set i ⟨[], .d, B.es⟩ ++ [⟨B.cells.drop o, .w, B.es⟩]) w := by
  have S := I.sim
  have hd : B.md = .d → False := fun e => by rw [hm] at e; cases e
  have nd : ∀ {D : Blk}, D.md = .w → (D.md = .d → False) := fun e k => by rw [e] at k; cases k
  obtain ⟨l0, hl0, he0, hreal⟩ := S.live i B hb hd
  obtain rfl : l = l0 := by rw [hl] at hl0; exact Option.some.inj hl0
  have hx : Ext σ (σ ++ [(⟨l.b, l.o + o, l.s, l.e⟩ : Loc)]) := Ext.app _ _
  have hlen := S.len
  have old : ∀ {j : Nat} {D : Blk}, (h.set i ⟨[], .d, B.es⟩)[j]? = some D → (D.md = .d → False) → j ≠ i ∧ h[j]? = some D := by
    intro j D hD hDd
    rcases getElem?_set_cases hD with ⟨rfl, rfl, _⟩ | ⟨hne, hD'⟩
    · exact (hDd rfl).elim
    · exact ⟨hne, hD'⟩
  refine ⟨⟨by simp [hlen], ?_, ?_, S.glob, S.frz, ?_, ?_⟩, I.pre.trans hx, I.size, I.keep, ?_, I.zown, I.os, I.out, I.tape⟩
  · intro j D hD hDd
    rw [getElem?_snoc] at hD
    split at hD
    · rename_i e
      obtain rfl := Option.some.inj hD
      refine ⟨⟨l.b, l.o + o, l.s, l.e⟩, by rw [St.app_l, getElem?_snoc, if_pos (by simp at e; omega)], he0, ?_⟩
      rcases hreal with ⟨z1, z2⟩ | ⟨c0, t0, fr0, hw0, hs0, hle0, hc0, hf0, h10⟩
      · exact .inl ⟨z1, by simp [z2]⟩
      refine .inr ⟨c0, t0, fr0, hw0, hs0, by simp; omega, ?_, fun _ => hf0 hm, fun v hv => h10 v (List.mem_of_mem_drop hv)⟩
      intro q v hv
      rw [List.getElem?_drop] at hv
      obtain ⟨v', h2, h3⟩ := hc0 _ v hv
      exact ⟨v', by rw [← h2]; simp only; congr 1; omega, h3.ext hx⟩
    · obtain ⟨_, hD'⟩ := old hD hDd
      obtain ⟨m, hm1, he, h0 | ⟨c', t', fr, hw, hs, hle', hcc, hf, h1⟩⟩ := S.live j D hD' hDd
      · exact ⟨m, hx.loc _ _ hm1, he, .inl h0⟩
      · exact ⟨m, hx.loc _ _ hm1, he, .inr ⟨c', t', fr, hw, hs, hle', fun q v hv => by obtain ⟨v', h2, h3⟩ := hcc q v hv; exact ⟨v', h2, h3.ext hx⟩, hf, h1⟩⟩
  · intro j k D E m n hjk hD hE hDw hEd hm1 hn1 hms hns
    rw [getElem?_snoc] at hD hE
    simp only [St.app_l] at hm1 hn1
    rw [getElem?_snoc] at hm1 hn1
    simp only [List.length_set] at hD hE
    split at hD
    · obtain rfl := Option.some.inj hD
      rw [if_pos (by omega)] at hm1
      obtain rfl := Option.some.inj hm1
      rw [if_neg (by omega)] at hE hn1
      obtain ⟨hne, hE'⟩ := old hE hEd
      exact S.apart i k B E l n (fun e => hne e.symm) hb hE' hm hEd hl hn1 hms hns
    · rw [if_neg (by omega)] at hm1
      obtain ⟨hne, hD'⟩ := old hD (nd hDw)
      split at hE
      · obtain rfl := Option.some.inj hE
        rw [if_pos (by omega)] at hn1
        obtain rfl := Option.some.inj hn1
        exact fun e => S.apart i j B D l m (fun e => hne e.symm) hb hD' hm (nd hDw) hl hm1 hns hms e.symm
      · rw [if_neg (by omega)] at hn1
        obtain ⟨_, hE'⟩ := old hE hEd
        exact S.apart j k D E m n hjk hD' hE' hDw hEd hm1 hn1 hms hns
  · intro p hp j D m hD hDw hm1 hms
    simp only [St.app_l] at hm1
    rw [getElem?_snoc] at hD hm1
    simp only [List.length_set] at hD
    split at hD
    · rw [if_pos (by omega)] at hm1
      obtain rfl := Option.some.inj hm1
      exact S.frzw p hp i B l hb hm hl hms
    · rw [if_neg (by omega)] at hm1
      exact S.frzw p hp j D m (old hD (nd hDw)).2 hDw hm1 hms
  · intro p hp j D m hD hDw hm1 hms
    simp only [St.app_l] at hm1
    rw [getElem?_snoc] at hD hm1
    simp only [List.length_set] at hD
    split at hD
    · rw [if_pos (by omega)] at hm1
      obtain rfl := Option.some.inj hm1
      exact S.globw p hp i B l hb hm hl hms
    · rw [if_neg (by omega)] at hm1
      exact S.globw p hp j D m (old hD (nd hDw)).2 hDw hm1 hms
  · intro j D m hD hDw hm1 hms
    simp only [St.app_l] at hm1
    rw [getElem?_snoc] at hD hm1
    simp only [List.length_set] at hD
    split at hD
    · rw [if_pos (by omega)] at hm1
      obtain rfl := Option.some.inj hm1
      exact I.mine i B l hb hm hl hms
    · rw [if_neg (by omega)] at hm1
      exact I.mine j D m (old hD (nd hDw)).2 hDw hm1 hms

/-- A block without room: there is always one more. -/
theorem Inv.ghost (I : Inv gs C σ h w) (md : Md) (e : Nat) : Inv gs C (σ ++ [(⟨0, 0, 0, e⟩ : Loc)]) (h ++ [⟨[], md, e⟩]) w := by
  have S := I.sim
  have hx : Ext σ (σ ++ [(⟨0, 0, 0, e⟩ : Loc)]) := Ext.app _ _
  have hlen := S.len
  have gone : ∀ {j : Nat} {D : Blk} {m : Loc}, (h ++ [⟨[], md, e⟩])[j]? = some D → (σ.l ++ [(⟨0, 0, 0, e⟩ : Loc)])[j]? = some m → 0 < m.s → h[j]? = some D ∧ σ.l[j]? = some m := by
    intro j D m hD hm1 hms
    rw [getElem?_snoc] at hD hm1
    split at hD
    · rw [if_pos (by omega)] at hm1
      obtain rfl := Option.some.inj hm1
      simp at hms
    · rw [if_neg (by omega)] at hm1
      exact ⟨hD, hm1⟩
  refine ⟨⟨by simp [hlen], ?_, ?_, S.glob, S.frz, ?_, ?_⟩, I.pre.trans hx, I.size, I.keep, ?_, I.zown, I.os, I.out, I.tape⟩
  · intro j D hD hDd
    rw [getElem?_snoc] at hD
    split at hD
    · obtain rfl := Option.some.inj hD
      exact ⟨⟨0, 0, 0, e⟩, by rw [St.app_l, getElem?_snoc, if_pos (by omega)], rfl, .inl ⟨rfl, rfl⟩⟩
    · obtain ⟨m, hm1, he, h0 | ⟨c', t', fr, hw, hs, hle', hcc, hf, h1⟩⟩ := S.live j D hD hDd
      · exact ⟨m, hx.loc _ _ hm1, he, .inl h0⟩
      · exact ⟨m, hx.loc _ _ hm1, he, .inr ⟨c', t', fr, hw, hs, hle', fun q v hv => by obtain ⟨v', h2, h3⟩ := hcc q v hv; exact ⟨v', h2, h3.ext hx⟩, hf, h1⟩⟩
  · intro j k D E m n hjk hD hE hDw hEd hm1 hn1 hms hns
    obtain ⟨a1, a2⟩ := gone hD hm1 hms
    obtain ⟨b1, b2⟩ := gone hE hn1 hns
    exact S.apart j k D E m n hjk a1 b1 hDw hEd a2 b2 hms hns
  · intro p hp j D m hD hDw hm1 hms
    obtain ⟨a1, a2⟩ := gone hD hm1 hms
    exact S.frzw p hp j D m a1 hDw a2 hms
  · intro p hp j D m hD hDw hm1 hms
    obtain ⟨a1, a2⟩ := gone hD hm1 hms
    exact S.globw p hp j D m a1 hDw a2 hms
  · intro j D m hD hDw hm1 hms
    obtain ⟨a1, a2⟩ := gone hD hm1 hms
    exact I.mine j D m a1 hDw a2 hms
end
end Go.J
