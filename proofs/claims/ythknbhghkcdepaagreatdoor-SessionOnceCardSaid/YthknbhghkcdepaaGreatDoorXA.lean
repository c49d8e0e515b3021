/- The contracts of the book and of the document's list, as the statements of chapter 20 use them. No condition. -/
import Derived.Test.YthknbhghkcdepaaGreatDoorWSess
import Derived.Test.YthknbhghkcdepaaGreatDoorProg
set_option maxRecDepth 100000
set_option maxHeartbeats 4000000
set_option linter.unusedVariables false
namespace Go.J.Tryz
open Go.Proofs
theorem krsC_cut {l : List KR} {i : Nat} {k : KR} (hk : l[i]? = some k) (hdr : l.drop i = k :: l.drop (i + 1)) : (krsC l).drop ((i : Int).toNat * 3) = .int .i64 k.client :: .int .i64 k.seq :: .int .i64 k.err :: krsC (l.drop (i + 1)) := by
  have h : ∀ (l : List KR) (i : Nat), (krsC l).drop (i * 3) = krsC (l.drop i) := by
    intro l
    induction l with
    | nil => intro i; simp [krsC]
    | cons x l ih =>
      intro i
      cases i with
      | zero => simp
      | succ i =>
        have e : (i + 1) * 3 = i * 3 + 3 := by omega
        rw [e]; exact ih i
  simp only [Int.toNat_natCast]
  rw [h, hdr]; rfl
theorem book_AskE (gs : List (Nat × Obj)) (b : List Kp) (hb : b.length = 8) (c s : Int) (a : Bool) (e : Int) (h : askS b c s = (a, e)) : Meth Tryz.prog gs 15 [.int .i64 c, .int .i64 s] (bookC b) 1 (fun v c2 => c2 = bookC b ∧ v = .tuple #[.bool a, .int .i64 e]) := by
  have : Meth Tryz.prog gs 15 [.int .i64 c, .int .i64 s] (bookC b) 1 (fun v c2 => c2 = bookC b ∧ v = .tuple #[.bool (askS b c s).1, .int .i64 (askS b c s).2]) := by
    by_cases hc : 0 ≤ c ∧ c ≤ 7
    · obtain ⟨k, hk⟩ := get8 hb hc.1 hc.2
      exact book_Ask_in gs b hb c hc s k hk
    · exact book_Ask_out gs b hb c hc s
  rw [h] at this; exact this
theorem book_KeepE (gs : List (Nat × Obj)) (b : List Kp) (hb : b.length = 8) (c s e : Int) (a : Bool) (h : (askS b c s).1 = a) : Meth Tryz.prog gs 17 [.int .i64 c, .int .i64 s, .int .i64 e] (bookC b) 1 (fun v c2 => c2 = bookC (keepS b c s e) ∧ v = .bool a) := by
  have : Meth Tryz.prog gs 17 [.int .i64 c, .int .i64 s, .int .i64 e] (bookC b) 1 (fun v c2 => c2 = bookC (keepS b c s e) ∧ v = .bool (askS b c s).1) := by
    by_cases hc : 0 ≤ c ∧ c ≤ 7
    · obtain ⟨k, hk⟩ := get8 hb hc.1 hc.2
      exact book_Keep_in gs b hb c hc s e k hk
    · exact book_Keep_out gs b hb c hc s e
  rw [h] at this; exact this
theorem book_LastE (gs : List (Nat × Obj)) (b : List Kp) (hb : b.length = 8) (c n : Int) (h : lastS b c = n) : Meth Tryz.prog gs 18 [.int .i64 c] (bookC b) 1 (fun v c2 => c2 = bookC b ∧ v = .int .i64 n) := by
  subst h
  by_cases hc : 0 ≤ c ∧ c ≤ 7
  · obtain ⟨k, hk⟩ := get8 hb hc.1 hc.2
    exact book_Last_in gs b hb c hc k hk
  · exact book_Last_out gs b hb c hc
theorem ref_AskE (gs : List (Nat × Obj)) (l : List KR) (hl : l.length < 2 ^ 40) (c s : Int) (a : Bool) (e : Int) (h : askR l c s = (a, e)) : Pure Tryz.prog gs 16 [.w 3 l.length (krsC l), .s (.int .i64 c), .s (.int .i64 s)] (rS (.tuple #[.bool a, .int .i64 e])) := by
  have := ref_Ask gs l hl c s
  rw [h] at this; exact this
theorem ref_LastE (gs : List (Nat × Obj)) (l : List KR) (hl : l.length < 2 ^ 40) (c n : Int) (h : (lastR l c).seq = n) : Pure Tryz.prog gs 19 [.w 3 l.length (krsC l), .s (.int .i64 c)] (rS (.int .i64 n)) := by
  subst h; exact ref_Last gs l hl c
end Go.J.Tryz
