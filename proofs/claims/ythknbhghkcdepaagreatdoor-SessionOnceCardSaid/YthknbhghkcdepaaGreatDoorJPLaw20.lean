/- Plain facts on the statements of chapter 20: a book against the document's list. No condition. -/
import Derived.Test.YthknbhghkcdepaaGreatDoorJPBook
set_option maxHeartbeats 4000000
set_option linter.unusedVariables false
set_option linter.unusedSimpArgs false
namespace Go.J

theorem lastF_append (c : Int) : ∀ (l : List KR) (best : KR) (k : KR), lastF c best (l ++ [k]) = if k.client = c ∧ (lastF c best l).seq < k.seq then k else lastF c best l
  | [], best, k => rfl
  | x :: l, best, k => by simp only [List.cons_append, lastF]; exact lastF_append c l _ k
theorem lastR_append (l : List KR) (k : KR) (c : Int) : lastR (l ++ [k]) c = if k.client = c ∧ (lastR l c).seq < k.seq then k else lastR l c := lastF_append c l _ k

/-- The book tells of each client what the list tells. -/
structure Rel (b : List Kp) (l : List KR) : Prop where
  len : b.length = 8
  out : ∀ c : Int, c < 0 ∨ 7 < c → (lastR l c).seq = 0
  inn : ∀ c : Int, 0 ≤ c → c ≤ 7 → ∃ k, b[c.toNat]? = some k ∧ (lastR l c).seq = k.seq ∧ (lastR l c).err = k.err
theorem Rel.init : Rel (List.replicate 8 ⟨0, 0⟩) [] := by
  refine ⟨rfl, fun c _ => rfl, fun c h0 h7 => ⟨⟨0, 0⟩, ?_, rfl, rfl⟩⟩
  rw [List.getElem?_replicate, if_pos (by omega)]
theorem Rel.ask {b : List Kp} {l : List KR} (R : Rel b l) (c s : Int) : askS b c s = askR l c s := by
  unfold askS askR
  split
  · rfl
  · rename_i h
    obtain ⟨k, h1, h2, h3⟩ := R.inn c (by omega) (by omega)
    simp only [h1, h2, h3]
theorem Rel.last {b : List Kp} {l : List KR} (R : Rel b l) (c : Int) : lastS b c = (lastR l c).seq := by
  unfold lastS
  split
  · rename_i h; exact (R.out c h).symm
  · rename_i h
    obtain ⟨k, h1, h2, _⟩ := R.inn c (by omega) (by omega)
    simp only [h1, h2]
theorem askR_true {l : List KR} {c s : Int} (h : (askR l c s).1 = true) : 0 ≤ c ∧ c ≤ 7 ∧ (lastR l c).seq < s := by
  unfold askR at h
  split at h
  · cases h
  · split at h
    · rename_i h1 h2; exact ⟨by omega, by omega, h2⟩
    · split at h <;> cases h
theorem Rel.keep {b : List Kp} {l : List KR} (R : Rel b l) (k : KR) (h : (askR l k.client k.seq).1 = true) : Rel (keepS b k.client k.seq k.err) (l ++ [k]) := by
  obtain ⟨h0, h7, hs⟩ := askR_true h
  have hk : keepS b k.client k.seq k.err = b.set k.client.toNat ⟨k.seq, k.err⟩ := by
    unfold keepS; rw [R.ask, h]; rfl
  rw [hk]
  refine ⟨by simp [R.len], fun c hc => ?_, fun c a0 a7 => ?_⟩
  · rw [lastR_append, if_neg (by omega)]; exact R.out c hc
  · rw [lastR_append]
    by_cases e : k.client = c
    · subst e
      rw [if_pos ⟨rfl, hs⟩]
      exact ⟨⟨k.seq, k.err⟩, by rw [List.getElem?_set_self (by have := R.len; omega)], rfl, rfl⟩
    · rw [if_neg (by omega)]
      obtain ⟨x, h1, h2⟩ := R.inn c a0 a7
      exact ⟨x, by rw [List.getElem?_set_ne (by omega)]; exact h1, h2⟩
theorem Rel.keepF {b : List Kp} {l : List KR} (R : Rel b l) (k : KR) (h : (askR l k.client k.seq).1 = false) : keepS b k.client k.seq k.err = b := by
  unfold keepS; rw [R.ask, h]; rfl

/-! #### once -/
/-- The last requests are numbers that may be. -/
structure Book (b : List Kp) : Prop where
  len : b.length = 8
  pos : ∀ (i : Nat) (k : Kp), b[i]? = some k → 0 ≤ k.seq ∧ k.seq ≤ 1099511627776
theorem Book.init : Book (List.replicate 8 ⟨0, 0⟩) := ⟨rfl, fun i k h => by
  have := List.mem_of_getElem? h
  rw [List.mem_replicate] at this
  rw [this.2]; exact ⟨Int.le_refl _, by decide⟩⟩
theorem askS_iff {b : List Kp} (B : Book b) (c s : Int) : (askS b c s).1 = true ↔ 0 ≤ c ∧ c < 8 ∧ lastS b c < s ∧ s ≤ 1099511627776 := by
  unfold askS lastS
  by_cases h : c < 0 ∨ 7 < c
  · rw [if_pos (by omega)]; simp; omega
  · obtain ⟨k, hk⟩ := get8 B.len (c := c) (by omega) (by omega)
    have := B.pos _ _ hk
    rw [if_neg h]
    simp only [hk]
    by_cases h2 : s < 1 ∨ 1099511627776 < s
    · rw [if_pos (by omega)]; simp; omega
    · rw [if_neg (by omega)]
      split
      · simp; omega
      · split <;> (simp; omega)
theorem askS_err {b : List Kp} {c s : Int} (h : (askS b c s).1 = true) : (askS b c s).2 = 0 := by
  unfold askS at *
  split
  · rename_i h1; rw [if_pos h1] at h; cases h
  · rename_i h1
    rw [if_neg h1] at h
    split
    · rename_i h2; rw [h2] at h; cases h
    · rename_i k h2
      rw [h2] at h
      simp only at h ⊢
      split
      · rfl
      · rename_i h3
        rw [if_neg h3] at h
        split at h <;> cases h
theorem Book.keep {b : List Kp} (B : Book b) (c s e : Int) : Book (keepS b c s e) := by
  unfold keepS
  split
  · rename_i h
    have h2 := (askS_iff B c s).1 h
    refine ⟨by simp [B.len], fun i k hk => ?_⟩
    rw [List.getElem?_set] at hk
    split at hk
    · split at hk
      · obtain rfl := Option.some.inj hk
        refine ⟨?_, h2.2.2.2⟩
        have : 0 ≤ lastS b c := by
          unfold lastS
          split
          · omega
          · split
            · omega
            · rename_i k hk; exact (B.pos _ _ hk).1
        simp only; omega
      · cases hk
    · exact B.pos i k hk
  · exact B
/-- Asked again. -/
theorem ask_kept {b : List Kp} (B : Book b) {c s e : Int} (h : (askS b c s).1 = true) : askS (keepS b c s e) c s = (false, e) ∧ lastS (keepS b c s e) c = s := by
  have h2 := (askS_iff B c s).1 h
  have hk : keepS b c s e = b.set c.toNat ⟨s, e⟩ := by unfold keepS; rw [h]; rfl
  have hg : (b.set c.toNat ⟨s, e⟩)[c.toNat]? = some ⟨s, e⟩ := by rw [List.getElem?_set_self (by have := B.len; omega)]
  have hl : 0 ≤ lastS b c := by
    unfold lastS
    split
    · omega
    · split
      · omega
      · rename_i k hk; exact (B.pos _ _ hk).1
  rw [hk]
  refine ⟨?_, ?_⟩
  · unfold askS
    rw [if_neg (by omega), hg]
    simp only
    rw [if_neg (by omega), if_pos trivial]
  · unfold lastS
    rw [if_neg (by omega), hg]
theorem ask_not {b : List Kp} {c s e : Int} (h : (askS b c s).1 = false) : keepS b c s e = b := by
  unfold keepS; rw [h]; rfl

/-! #### clients apart -/
/-- Two books tell the same of a client. -/
def Alike (a b : List Kp) (c : Int) : Prop := a.length = 8 ∧ b.length = 8 ∧ (0 ≤ c → c ≤ 7 → a[c.toNat]? = b[c.toNat]?)
theorem Alike.init (c : Int) : Alike (List.replicate 8 ⟨0, 0⟩) (List.replicate 8 ⟨0, 0⟩) c := ⟨rfl, rfl, fun _ _ => rfl⟩
theorem Alike.ask {a b : List Kp} {c : Int} (h : Alike a b c) (s : Int) : askS a c s = askS b c s := by
  unfold askS
  split
  · rfl
  · rw [h.2.2 (by omega) (by omega)]
theorem Alike.last {a b : List Kp} {c : Int} (h : Alike a b c) : lastS a c = lastS b c := by
  unfold lastS
  split
  · rfl
  · rw [h.2.2 (by omega) (by omega)]
theorem Alike.same {a b : List Kp} {c s e : Int} (h : Alike a b c) : Alike (keepS a c s e) (keepS b c s e) c := by
  unfold keepS
  rw [h.ask s]
  split
  · refine ⟨by simp [h.1], by simp [h.2.1], fun h0 h7 => ?_⟩
    rw [List.getElem?_set, List.getElem?_set, h.1, h.2.1, h.2.2 h0 h7]
  · exact h
theorem Alike.other {a b : List Kp} {c d s e : Int} (h : Alike a b c) (hd : d ≠ c) : Alike (keepS a d s e) b c := by
  by_cases h2 : (askS a d s).1 = true
  · have hin : 0 ≤ d := by
      unfold askS at h2
      split at h2
      · cases h2
      · omega
    unfold keepS
    rw [if_pos h2]
    refine ⟨by simp [h.1], h.2.1, fun h0 h7 => ?_⟩
    rw [List.getElem?_set_ne (by omega)]; exact h.2.2 h0 h7
  · unfold keepS; rw [if_neg h2]; exact h
theorem ask_last (b : List Kp) (c : Int) : (askS b c (lastS b c)).1 = false := by
  unfold askS
  split
  · rfl
  · rename_i h
    unfold lastS
    rw [if_neg (by omega)]
    split
    · rfl
    · rename_i k hk
      simp only
      rw [if_neg (by omega), if_pos trivial]
end Go.J
