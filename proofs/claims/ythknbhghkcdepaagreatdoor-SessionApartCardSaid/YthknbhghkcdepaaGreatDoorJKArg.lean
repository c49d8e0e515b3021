/- A slice of requests, read out of memory. No condition. -/
import Derived.Test.YthknbhghkcdepaaGreatDoorJPBook
import Derived.ChangeArms
set_option maxHeartbeats 4000000
set_option linter.unusedVariables false
set_option linter.unusedSimpArgs false
namespace Go.J
theorem krsC_get : ∀ (l : List KR) (q : Nat) (v : Value), (krsC l)[q]? = some v → ∃ (i j : Nat) (k : KR), q = i * 3 + j ∧ j < 3 ∧ l[i]? = some k ∧ (krC k)[j]? = some v
  | [], q, v, h => by simp [krsC] at h
  | k :: l, q, v, h => by
    have e : krsC (k :: l) = krC k ++ krsC l := by simp [krsC]
    rw [e, List.getElem?_append] at h
    have h3 : (krC k).length = 3 := rfl
    split at h
    · rename_i hq; exact ⟨0, q, k, by omega, by omega, by simp, h⟩
    · rename_i hq
      obtain ⟨i, j, k', h1, h2, h4, h5⟩ := krsC_get l _ v h
      exact ⟨i + 1, j, k', by omega, h2, by simpa using h4, h5⟩
theorem open_krs {H : Type} {enc : TypeId × Value → H} {P : Program} {W : World} {base fuel : Nat} {spare : Nat → Bool} {held : Bool} {t e : TypeId} {fs : Array Field} {a : Option Addr} {len cap : Nat} {x : DataW H × List MemPlace}
    (ht : P.underlying t = some (.slice e)) (he : P.underlying e = some (.struct fs)) (hc : P.cellsOf e = 3) (hfs : fs.size = 3)
    (h0 : ∀ f, fs[0]? = some f → f.offset = 0 ∧ P.cellsOf f.type = 1 ∧ P.underlying f.type = some (.int .i64)) (h1 : ∀ f, fs[1]? = some f → f.offset = 1 ∧ P.cellsOf f.type = 1 ∧ P.underlying f.type = some (.int .i64)) (h2 : ∀ f, fs[2]? = some f → f.offset = 2 ∧ P.cellsOf f.type = 1 ∧ P.underlying f.type = some (.int .i64))
    (h : DataW.trod enc P W base spare held fuel t (Value.slice a len cap).cells.toList = some x) :
    ∃ (l : List KR) (z : List (Nat × Array Value)), (∀ q ∈ z, ∃ t fr, W.heap[q.1]? = some (.cells q.2 t fr)) ∧ VR ⟨[], z⟩ (FZ 3 l.length (krsC l)) (.slice a len cap) := by
  rcases DataW.trod_slice ht h with ⟨hcs, _⟩ | ⟨a', len', cap', elems, rest, n, _, hcs, _, _, hlc, hcm, hel, hget, _⟩
  · simp [Value.cells] at hcs
    obtain ⟨rfl, rfl, rfl⟩ := hcs
    exact ⟨[], [], fun q hq => by simp at hq, .fz .fz0⟩
  · simp [Value.cells] at hcs
    obtain ⟨rfl, rfl, rfl⟩ := hcs
    rcases Nat.eq_zero_or_pos len with h00 | hpos
    · subst h00
      exact ⟨[], [], fun q hq => by simp at hq, .fz .fz0⟩
    have one : ∀ i, i < len → ∃ k : KR, ∀ j, j < 3 → W.cell? ((a'.add (i * 3)).add j) = (krC k)[j]? := by
      intro i hi
      have hg := hget i hi
      rw [hc, List.getElem?_eq_getElem (by omega)] at hg
      obtain ⟨cs, hcells, htr⟩ := Option.bind_eq_some_iff.1 hg
      obtain ⟨_, hlen, hcell⟩ := World.cells?_some hcells
      obtain ⟨xs, m, _, _, _, _, hf⟩ := DataW.trod_struct he htr
      have part : ∀ (q : Nat), q < 3 → (∀ f, fs[q]? = some f → f.offset = q ∧ P.cellsOf f.type = 1 ∧ P.underlying f.type = some (.int .i64)) → ∃ z : Int, cs[q]? = some (.int .i64 z) := by
        intro q hq hh
        have hfq : fs[q]? = some (fs[q]'(by omega)) := Array.getElem?_eq_getElem (by omega)
        obtain ⟨e1, e2, e3⟩ := hh _ hfq
        have := hf q _ hfq
        rw [e1, e2] at this
        cases hx : xs[q]? with
        | none =>
          rw [List.getElem?_eq_none_iff] at hx
          omega
        | some y =>
          rw [hx] at this
          obtain ⟨z, e4, _, _⟩ := DataW.trod_int e3 this
          refine ⟨z, ?_⟩
          have h0' : ((cs.drop q).take 1)[0]? = some (.int .i64 z) := by rw [e4]; rfl
          simpa using h0'
      obtain ⟨z0, e0⟩ := part 0 (by omega) h0
      obtain ⟨z1, e1⟩ := part 1 (by omega) h1
      obtain ⟨z2, e2⟩ := part 2 (by omega) h2
      refine ⟨⟨z0, z1, z2⟩, fun j hj => ?_⟩
      rw [hcell j (by omega)]
      match j, hj with
      | 0, _ => exact e0
      | 1, _ => exact e1
      | 2, _ => exact e2
    obtain ⟨l, hl, hlk⟩ := exists_list (fun (i : Nat) (k : KR) => ∀ j, j < 3 → W.cell? ((a'.add (i * 3)).add j) = (krC k)[j]?) (List.range len) (fun i hi => one i (by simpa using hi))
    have hll : l.length = len := by simpa using hl
    have cell : ∀ i k j, l[i]? = some k → j < 3 → W.cell? ((a'.add (i * 3)).add j) = (krC k)[j]? := by
      intro i k j hik hj
      have hi := (List.getElem?_eq_some_iff.1 hik).1
      obtain ⟨k', h1', h2'⟩ := hlk i i (by rw [List.getElem?_range (by omega)])
      rw [hik] at h1'
      obtain rfl := Option.some.inj h1'
      exact h2' j hj
    obtain ⟨k0, hk0⟩ : ∃ k, l[0]? = some k := ⟨l[0]'(by omega), List.getElem?_eq_getElem (by omega)⟩
    have hc0 := cell 0 k0 0 hk0 (by omega)
    obtain ⟨b, o, sp⟩ := a'
    have hsp : sp = none := by
      cases sp with
      | none => rfl
      | some s =>
        simp [Addr.add, krC] at hc0
        unfold World.cell? at hc0
        split at hc0 <;> simp at hc0
    subst hsp
    have plain : ∀ i j, ((⟨b, o, none⟩ : Addr).add (i * 3)).add j = ⟨b, o + (i * 3 + j), none⟩ := by
      intro i j
      have ap : ∀ b o n, (⟨b, o, none⟩ : Addr).add n = ⟨b, o + n, none⟩ := by
        intro b o n
        unfold Addr.add
        split
        · subst_vars; rfl
        · rfl
      rw [ap, ap, Nat.add_assoc]
    rw [plain] at hc0
    obtain ⟨cs, t', fr, hblk⟩ : ∃ cs t fr, W.heap[b]? = some (.cells cs t fr) := by
      unfold World.cell? at hc0
      split at hc0
      · rename_i cs t fr hb; exact ⟨cs, t, fr, hb⟩
      · simp [krC] at hc0
    refine ⟨l, [(b, cs)], fun q hq => by rw [List.mem_singleton.1 hq]; exact ⟨t', fr, hblk⟩, .fz ?_⟩
    rw [hll]
    refine .fz (vs' := krsC l) (List.mem_singleton.2 rfl) (by rw [krsC_length, hll]) rfl (fun q v hv => ?_) (fun i x y hx hy => ?_) hlc
    · obtain ⟨i, j, k, rfl, hj, hik, hkj⟩ := krsC_get l q v hv
      have := cell i k j hik hj
      rw [plain, hkj] at this
      unfold World.cell? at this
      simp only [hblk] at this
      simpa using this
    · rw [hx] at hy
      obtain rfl := Option.some.inj hy
      refine .s ?_
      obtain ⟨i', j, k, _, hj, _, hkj⟩ := krsC_get l i x hx
      match j, hj with
      | 0, _ => simp [krC] at hkj; subst hkj; rfl
      | 1, _ => simp [krC] at hkj; subst hkj; rfl
      | 2, _ => simp [krC] at hkj; subst hkj; rfl
end Go.J
