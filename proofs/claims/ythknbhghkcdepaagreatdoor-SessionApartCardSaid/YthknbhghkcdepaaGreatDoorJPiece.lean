/- The program logic J, part 31: closed code, piece by piece. No condition. -/
import Derived.Test.YthknbhghkcdepaaGreatDoorJClone
set_option maxHeartbeats 4000000
set_option linter.unusedVariables false
set_option linter.unusedSimpArgs false
namespace Go.J
section
variable {P : Program} {gs : List (Nat × Obj)} {m N : Nat} {hs : Hints} {f f2 : AFr} {h h' : List Blk} {Q : APost} {call : CallF}
theorem KW.piece (hc : CallOk P gs call) {a b : KC} {n : Nat} {f' : AFr} (er : runC P call n a f h = some (.normal, f', h')) (hs2 : SubF f' f2) (k : KW P gs m N hs b Q f2 h') : KW P gs m N hs (.seq a b) Q f h :=
  KW.seq (KW.run hc n er (fun F s => KW.supp (fun t v ht => s t v (hs2.lk t v ht)) k))
theorem KW.pieceW (hc : CallOk P gs call) {a b : KC} {n : Nat} {f' : AFr} {h2 : List Blk} (er : runC P call n a f h = some (.normal, f', h')) (w : Wk gs m N f' h' f2 h2) (k : KW P gs m N hs b Q f2 h2) : KW P gs m N hs (.seq a b) Q f h :=
  KW.seq (KW.run hc n er (fun F s => KW.supp s (KW.wk w k)))
theorem KW.last (hc : CallOk P gs call) {a : KC} {n : Nat} {e : AEx} {f' : AFr} (er : runC P call n a f h = some (e, f', h')) (q : ∀ F, Sup f' F → Q e F h') : KW P gs m N hs a Q f h := KW.run hc n er q
/-- What a function does, out of its form. -/
theorem Spec.of_K {g : FuncId} {k : KF} {vs : List Value} {hl : List Blk} {R : Out → List Blk → Prop} {hs : Hints} {pb : Bool} (hcf : cmpF P hs pb g = some k) (hle : Nat.ble vs.length k.N = true)
    (kk : ∀ fn : Func, cmpRs P fn.results.toList = some k.res → KW P gs hl.length k.N hs k.body (bodyA P gs hl.length fn.results.toList R) (argF 0 vs) hl) : Spec P gs g vs hl R := by
  unfold cmpF at hcf
  split at hcf
  · rename_i fn hfn
    unfold cmpFn at hcf
    split at hcf
    · cases hcf
    · rename_i hname
      split at hcf
      · rename_i c hb
        split at hcf
        · rename_i kc rs hkc hrs
          obtain rfl := Option.some.inj hcf
          exact Spec.of_body hfn hb (by simpa using hname) (bleN hle) (kk fn hrs c hkc)
        · cases hcf
      · cases hcf
  · cases hcf
end
end Go.J
