/- Plain facts about a book of requests. No condition. -/
import Derived.Test.YthknbhghkcdepaaGreatDoorJMeth
set_option maxHeartbeats 4000000
set_option linter.unusedVariables false
set_option linter.unusedSimpArgs false
namespace Go.J

/-- A client's last request: its number, and how it ended. -/
structure Kp where
  seq : Int
  err : Int
def kpC (k : Kp) : List Value := [.int .i64 k.seq, .int .i64 k.err]
def bookC (b : List Kp) : List Value := b.flatMap kpC
theorem bookC_length : ∀ (b : List Kp), (bookC b).length = b.length * 2
  | [] => rfl
  | k :: b => by
    have := bookC_length b
    simp only [bookC, List.flatMap_cons, List.length_append, List.length_cons] at *
    simp [kpC] at *; omega
theorem bookC_seq : ∀ (b : List Kp) (i : Nat) (k : Kp), b[i]? = some k → (bookC b)[i * 2]? = some (.int .i64 k.seq)
  | [], i, k, h => by simp at h
  | x :: b, 0, k, h => by simp at h; subst h; rfl
  | x :: b, i + 1, k, h => by
    have := bookC_seq b i k (by simpa using h)
    have e : (i + 1) * 2 = i * 2 + 2 := by omega
    rw [e]; exact this
theorem bookC_err : ∀ (b : List Kp) (i : Nat) (k : Kp), b[i]? = some k → (bookC b)[i * 2 + 1]? = some (.int .i64 k.err)
  | [], i, k, h => by simp at h
  | x :: b, 0, k, h => by simp at h; subst h; rfl
  | x :: b, i + 1, k, h => by
    have := bookC_err b i k (by simpa using h)
    have e : (i + 1) * 2 + 1 = (i * 2 + 1) + 2 := by omega
    rw [e]; exact this
theorem bookC_wr : ∀ (b : List Kp) (i : Nat) (k : Kp), i < b.length → wr (bookC b) (i * 2) (kpC k) = bookC (b.set i k)
  | [], i, k, h => by simp at h
  | x :: b, 0, k, h => rfl
  | x :: b, i + 1, k, h => by
    have := bookC_wr b i k (by simpa using h)
    have e : (i + 1) * 2 = i * 2 + 2 := by omega
    have e2 : ∀ (l : List Value) (n : Nat), wr (.int .i64 x.seq :: .int .i64 x.err :: l) (n + 2) (kpC k) = .int .i64 x.seq :: .int .i64 x.err :: wr l n (kpC k) := by
      intro l n; simp [kpC, wr]
    rw [e, List.set_cons_succ]
    show wr (.int .i64 x.seq :: .int .i64 x.err :: bookC b) (i * 2 + 2) (kpC k) = .int .i64 x.seq :: .int .i64 x.err :: bookC (b.set i k)
    rw [e2, this]
theorem bookC_scal (b : List Kp) : (bookC b).all zb = true := by
  induction b with
  | nil => rfl
  | cons k b ih => simp only [bookC, List.flatMap_cons, List.all_append] at *; rw [ih]; rfl
/-- Is a request new, and what is answered. -/
def askS (b : List Kp) (client seq : Int) : Bool × Int :=
  if client < 0 ∨ 7 < client ∨ seq < 1 ∨ 1099511627776 < seq then (false, 10)
  else match b[client.toNat]? with
    | none => (false, 10)
    | some k => if k.seq < seq then (true, 0) else if seq = k.seq then (false, k.err) else (false, 19)
def keepS (b : List Kp) (client seq err : Int) : List Kp := if (askS b client seq).1 then b.set client.toNat ⟨seq, err⟩ else b
def lastS (b : List Kp) (client : Int) : Int := if client < 0 ∨ 7 < client then 0 else match b[client.toNat]? with
  | none => 0
  | some k => k.seq
theorem keepS_length {b : List Kp} {c s e : Int} : (keepS b c s e).length = b.length := by
  unfold keepS; split <;> simp
theorem get8 {b : List Kp} (hb : b.length = 8) {c : Int} (h0 : 0 ≤ c) (h7 : c ≤ 7) : ∃ k, b[c.toNat]? = some k := ⟨b[c.toNat]'(by omega), List.getElem?_eq_getElem _⟩
def rNew (c : List Value) : Nat → Out → List Blk → Prop := fun b o new => o = .ret (.pointer (some ⟨b, 0, none⟩)) ∧ new = [⟨c, .w, 1⟩]
theorem Sh.rNew {c : List Value} (hc : c.all zb = true) : Sh (rNew c) := by
  rintro ρ b b' o new ⟨rfl, rfl⟩ hi
  exact ⟨_, _, ⟨rfl, rfl⟩, .ret (RU.ptrK (by simpa using hi 0 (by simp))), .cons (.same rfl hc) .nil, rfl⟩
theorem bookC_set (b : List Kp) (i : Nat) (s e : Int) (h : i < b.length) : ((bookC b).set (i * 2) (.int .i64 s)).set (i * 2 + 1) (.int .i64 e) = bookC (b.set i ⟨s, e⟩) := by
  rw [← bookC_wr b i ⟨s, e⟩ h]; rfl
/-- A request, as the document keeps it. -/
structure KR where
  client : Int
  seq : Int
  err : Int
def krC (k : KR) : List Value := [.int .i64 k.client, .int .i64 k.seq, .int .i64 k.err]
def krV (k : KR) : Value := .agg #[.int .i64 k.client, .int .i64 k.seq, .int .i64 k.err]
def krsC (l : List KR) : List Value := l.flatMap krC
theorem krsC_length : ∀ (b : List KR), (krsC b).length = b.length * 3
  | [] => rfl
  | k :: b => by
    have := krsC_length b
    simp only [krsC, List.flatMap_cons, List.length_append, List.length_cons] at *
    simp [krC] at *; omega
theorem krsC_scal (b : List KR) : (krsC b).all zb = true := by
  induction b with
  | nil => rfl
  | cons k b ih => simp only [krsC, List.flatMap_cons, List.all_append] at *; rw [ih]; rfl
theorem krsC_append (a b : List KR) : krsC (a ++ b) = krsC a ++ krsC b := by simp [krsC]
theorem krsC_client : ∀ (b : List KR) (i : Nat) (k : KR), b[i]? = some k → (krsC b)[i * 3]? = some (.int .i64 k.client)
  | [], i, k, h => by simp at h
  | x :: b, 0, k, h => by simp at h; subst h; rfl
  | x :: b, i + 1, k, h => by
    have := krsC_client b i k (by simpa using h)
    have e : (i + 1) * 3 = i * 3 + 3 := by omega
    rw [e]; exact this
theorem krsC_seq : ∀ (b : List KR) (i : Nat) (k : KR), b[i]? = some k → (krsC b)[i * 3 + 1]? = some (.int .i64 k.seq)
  | [], i, k, h => by simp at h
  | x :: b, 0, k, h => by simp at h; subst h; rfl
  | x :: b, i + 1, k, h => by
    have := krsC_seq b i k (by simpa using h)
    have e : (i + 1) * 3 + 1 = (i * 3 + 1) + 3 := by omega
    rw [e]; exact this
theorem krsC_take : ∀ (b : List KR) (i : Nat) (k : KR), b[i]? = some k → ((krsC b).drop (i * 3)).take 3 = krC k
  | [], i, k, h => by simp at h
  | x :: b, 0, k, h => by simp at h; subst h; rfl
  | x :: b, i + 1, k, h => by
    have := krsC_take b i k (by simpa using h)
    have e : (i + 1) * 3 = i * 3 + 3 := by omega
    rw [e]; exact this
/-- A client's greatest request. -/
def lastF (c : Int) : KR → List KR → KR
  | best, [] => best
  | best, k :: l => lastF c (if k.client = c ∧ best.seq < k.seq then k else best) l
def lastR (l : List KR) (c : Int) : KR := lastF c ⟨0, 0, 0⟩ l
def askR (l : List KR) (c s : Int) : Bool × Int :=
  if c < 0 ∨ 7 < c ∨ s < 1 ∨ 1099511627776 < s then (false, 10)
  else if (lastR l c).seq < s then (true, 0) else if s = (lastR l c).seq then (false, (lastR l c).err) else (false, 19)
theorem split_kr {b : List KR} {i : Nat} (h : i < b.length) : ∃ k, b[i]? = some k ∧ b.drop i = k :: b.drop (i + 1) := ⟨b[i], List.getElem?_eq_getElem h, List.drop_eq_getElem_cons h⟩
theorem isSl.krs {h : List Blk} {l : List KR} {i c : Nat} {md : Md} (hb : h[i]? = some ⟨krsC l, md, 3⟩) (hm : live ⟨krsC l, md, 3⟩ = true) : isSl h (.slice (some ⟨i, 0, none⟩) l.length c) 3 l.length (krsC l) :=
  ⟨krsC_scal l, .inr ⟨i, 0, c, _, rfl, hb, hm, rfl, Nat.zero_le _, by simp [krsC_length, List.take_of_length_le], krsC_length l⟩⟩
end Go.J
