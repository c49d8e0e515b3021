/- Plain facts about numbers' bytes. No condition. -/
import Derived.Test.YthknbhghkcdepaaGreatDoorJBits
set_option maxHeartbeats 4000000
set_option linter.unusedVariables false
set_option linter.unusedSimpArgs false
namespace Go.J

/-- A number's bytes. -/
def numB (n : Nat) : List UInt8 := if n < 128 then [n.toUInt8] else (n % 128 + 128).toUInt8 :: numB (n / 128)
decreasing_by omega
theorem numB_lt {n : Nat} (h : n < 128) : numB n = [n.toUInt8] := by rw [numB]; simp [h]
theorem numB_ge {n : Nat} (h : 128 ≤ n) : numB n = (n % 128 + 128).toUInt8 :: numB (n / 128) := by rw [numB]; simp [show ¬ n < 128 by omega]
theorem numB_length : ∀ (k n : Nat), n < 128 ^ k → 0 < k → (numB n).length ≤ k
  | 0, n, _, h => by omega
  | k + 1, n, h, _ => by
    by_cases h1 : n < 128
    · rw [numB_lt h1]; simp
    · rw [numB_ge (by omega)]
      have : 0 < k := by
        rcases Nat.eq_zero_or_pos k with rfl | h2
        · simp at h; omega
        · exact h2
      have := numB_length k (n / 128) (by rw [Nat.pow_succ] at h; omega) this
      simp; omega

/-- The number at the beginning of bytes, and what follows. -/
def takeAux : Nat → Nat → List UInt8 → Option (Nat × List UInt8)
  | _, _, [] => none
  | i, a, c :: r => if 9 ≤ i then none else if 128 ≤ c.toNat then takeAux (i + 1) (a + c.toNat % 128 * 128 ^ i) r else if 0 < i ∧ c = 0 then none else some (a + c.toNat % 128 * 128 ^ i, r)
def takeB (b : List UInt8) : Option (Nat × List UInt8) := takeAux 0 0 b
theorem takeAux_nil {i a : Nat} {l : List UInt8} (h : 9 ≤ i ∨ l = []) : takeAux i a l = none := by
  cases l with
  | nil => rfl
  | cons c r =>
    rcases h with h | h
    · rw [takeAux, if_pos h]
    · cases h
theorem split_at {b : List UInt8} {i : Nat} (h : i < b.length) : ∃ c r, b.drop i = c :: r ∧ b[i]? = some c ∧ b.drop (i + 1) = r := by
  refine ⟨b[i], b.drop (i + 1), List.drop_eq_getElem_cons h, List.getElem?_eq_getElem h, rfl⟩
theorem bytesC_at {b : List UInt8} {i : Nat} {c : UInt8} (h : b[i]? = some c) : (bytesC b)[i]? = some (.int .u8 (c.toNat : Nat)) := by
  rw [bytesC_get, h]; rfl
theorem acc_lt {a x i : Nat} (ha : a < 128 ^ i) : a + x % 128 * 128 ^ i < 128 ^ (i + 1) := by
  have : x % 128 * 128 ^ i ≤ 127 * 128 ^ i := Nat.mul_le_mul_right _ (by omega)
  rw [Nat.pow_succ]; omega
/-- What Take answers. -/
def rTake (l : List UInt8) : Nat → Out → List Blk → Prop := fun b o new => match takeB l with
  | none => o = .ret (.tuple #[.int .i64 0, .slice none 0 0, .bool false]) ∧ new = []
  | some (n, r) => ∃ c, r.length ≤ c ∧ o = .ret (.tuple #[.int .i64 n, .slice (some ⟨b, 0, none⟩) r.length c, .bool true]) ∧ new = [⟨bytesC r, .w, 1⟩]
theorem Sh.rTake {l : List UInt8} : Sh (rTake l) := by
  intro ρ b b' o new h hi
  unfold Go.J.rTake at *
  cases ht : takeB l with
  | none =>
    rw [ht] at h
    obtain ⟨rfl, rfl⟩ := h
    exact ⟨_, _, ⟨rfl, rfl⟩, .ret (RU.tupleL (RUs.same rfl)), .nil, rfl⟩
  | some p =>
    rw [ht] at h
    obtain ⟨c, hc, rfl, rfl⟩ := h
    exact ⟨_, _, ⟨c, hc, rfl, rfl⟩, .ret (RU.tupleL (.cons (.same rfl) (.cons (RU.slK (by simpa using hi 0 (by simp))) (.cons (.same rfl) .nil)))), .cons (.same rfl (bytesC_scal _)) .nil, rfl⟩
theorem bytesC_cut {l : List UInt8} {i : Nat} {x : UInt8} (h : l[i]? = some x) : (bytesC l).drop (i * 1) = .int .u8 (x.toNat : Nat) :: bytesC (l.drop (i + 1)) := by
  have hlt := (List.getElem?_eq_some_iff.1 h).1
  have hx := (List.getElem?_eq_some_iff.1 h).2
  rw [Nat.mul_one, bytesC_drop, List.drop_eq_getElem_cons hlt, hx]
  rfl
theorem take_get {l : List UInt8} {i n : Nat} {x : UInt8} (h : l[i]? = some x) (hi : i < n) : (l.take n)[i]? = some x := by rw [List.getElem?_take, if_pos hi, h]
end Go.J
