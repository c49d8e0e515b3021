/- The program logic J, part 25: the interpreter of code and functions. No condition. -/
import Derived.Test.YthknbhghkcdepaaGreatDoorJRunOk
set_option maxHeartbeats 4000000
set_option linter.unusedVariables false
set_option linter.unusedSimpArgs false
namespace Go.J

inductive KC where
  | skip
  | reg (ops : List KOp)
  | drw (ops : List KOp) (dp : List (List Nat)) (co : List Nat)
  | seq (a b : KC)
  | cond (x : Operand) (a b : KC)
  | blk (id : Nat) (a : KC)
  | loop (a : KC)
  | exit (id : Nat)
  | ret
  | bad

/-! ### out of the program's text -/
def cmpO1 (P : Program) (o : Oper) : KO := match cmpO P o with
  | some k => k
  | none => .bad
def cmpOp (P : Program) (all : List Oper) (o : Oper) : Option KOp :=
  match o.guard with
  | none => some ⟨o.dst, none, cmpO1 P o⟩
  | some (j, b) => match (all[j]?).bind (·.dst) with
    | some t => some ⟨o.dst, some (t, b), cmpO1 P o⟩
    | none => none
def cmpOps (P : Program) (all : List Oper) : List Oper → Option (List KOp)
  | [] => some []
  | o :: os => match cmpOp P all o, cmpOps P all os with
    | some k, some ks => some (k :: ks)
    | _, _ => none
/-- Orders of drawn regions: in the text's way, in the compiler's, and the one that is walked. -/
abbrev Hints := List (Nat × List Nat × List Nat × List Nat)
def nodupB : List Nat → Bool
  | [] => true
  | x :: l => !l.contains x && nodupB l
def hintOf : Hints → Nat → Option (List Nat × List Nat × List Nat)
  | [], _ => none
  | (i, r) :: l, n => if Nat.beq i n then some r else hintOf l n
def cmpDrw (P : Program) (N : Nat) (ops : Array Oper) (ot og co : List Nat) : Option KC :=
  if dstsOk N ops && acyc .text ops.toList ot && acyc .gc ops.toList og && acyc .any ops.toList co && (List.range ops.size).all (fun i => co.contains i) && nodupB co then
    match cmpOps P ops.toList ops.toList with
    | some ks => some (.drw ks ((List.range ops.size).map (deps ops.toList)) co)
    | none => none
  else none
def cmpC (P : Program) (N : Nat) (hs : Hints) : Code → Option KC
  | .skip => some .skip
  | .label _ => some .skip
  | .region id ops draw => if draw then match hintOf hs id with
      | some (ot, og, co) => cmpDrw P N ops ot og co
      | none => none
    else if dstsOk N ops then match cmpOps P ops.toList ops.toList with
      | some ks => some (.reg ks)
      | none => none
      else none
  | .seq a b => match cmpC P N hs a, cmpC P N hs b with
    | some x, some y => some (.seq x y)
    | _, _ => none
  | .cond c a b => match cmpC P N hs a, cmpC P N hs b with
    | some x, some y => some (.cond c x y)
    | _, _ => none
  | .block id a => match cmpC P N hs a with
    | some x => some (.blk id x)
    | none => none
  | .loop a => match cmpC P N hs a with
    | some x => some (.loop x)
    | none => none
  | .exit id => some (.exit id)
  | .ret => some .ret
  | _ => some .bad

/-! ### runs -/
abbrev CallF := FuncId → List Value → List Blk → Res
def stepC (P : Program) (call : CallF) (f : AFr) (h : List Blk) : KO → Res
  | .call fx as => match evB f fx, evs1 f as with
    | some (.func (.func g) fs cs), some us => call g (fs.toList ++ us ++ cs.toList) h
    | _, _ => none
  | k => stepK P f h k
def gdK (f : AFr) : Option (Nat × Bool) → Option Bool
  | none => some true
  | some (t, b) => match lkB f t with
    | some (.bool x) => some (x == b)
    | some (.chan none) => some false
    | _ => none
abbrev RC := Option (AEx × AFr × List Blk)
def runOps (P : Program) (call : CallF) : List KOp → AFr → List Blk → RC
  | [], f, h => some (.normal, f, h)
  | o :: os, f, h => match gdK f o.g with
    | some true => match stepC P call f h o.op with
      | some (v, none) => runOps P call os (pt f o.dst v) h
      | some (v, some h') => runOps P call os (pt f o.dst v) h'
      | none => none
    | some false => runOps P call os (pt f o.dst UN) h
    | none => none

def eqL (e : Value → Value → Bool) : List Value → List Value → Bool
  | [], [] => true
  | a :: l, b :: r => e a b && eqL e l r
  | _, _ => false
def eqAd : Option Addr → Option Addr → Bool
  | none, none => true
  | some ⟨i, q, none⟩, some ⟨j, r, none⟩ => Nat.beq i j && Nat.beq q r
  | _, _ => false
def eqVal : Nat → Value → Value → Bool
  | 0, _, _ => false
  | n + 1, a, b => match a with
    | .bool x => (match b with | .bool y => x == y | _ => false)
    | .int k x => (match b with | .int k' y => decide (k = k') && decide (x = y) | _ => false)
    | .string x => (match b with | .string y => decide (x.data.toList = y.data.toList) | _ => false)
    | .pointer x => (match b with | .pointer y => eqAd x y | _ => false)
    | .slice x m c => (match b with | .slice y m' c' => eqAd x y && Nat.beq m m' && Nat.beq c c' | _ => false)
    | .agg x => (match b with | .agg y => eqL (eqVal n) x.toList y.toList | _ => false)
    | .tuple x => (match b with | .tuple y => eqL (eqVal n) x.toList y.toList | _ => false)
    | .func fn x u => (match b with | .func fn' y w => decide (fn = fn') && eqL (eqVal n) x.toList y.toList && eqL (eqVal n) u.toList w.toList | _ => false)
    | .nilIface => (match b with | .nilIface => true | _ => false)
    | .nilFunc => (match b with | .nilFunc => true | _ => false)
    | .chan x => (match b with | .chan y => decide (x = y) | _ => false)
    | _ => false

def hideD (ops : List KOp) (dep : List Nat) : List (Nat × Value) → List Nat
  | [] => []
  | (i, _) :: r => if dep.contains i then hideD ops dep r else match (ops[i]?).bind (·.dst) with
    | some d => d :: hideD ops dep r
    | none => hideD ops dep r
def okD (P : Program) (call : CallF) (ops : List KOp) (dp : List (List Nat)) (f : AFr) (h : List Blk) (pend : List (Nat × Value)) : List (Nat × Value) → Bool
  | [] => true
  | (i, v) :: r => (match ops[i]?, dp[i]? with
    | some o, some d => match gdK (fewer (hideD ops d pend) f) o.g with
      | some true => (match stepC P call (fewer (hideD ops d pend) f) h o.op with
        | some (u, none) => eqVal 50 u v
        | _ => false)
      | some false => eqVal 50 UN v
      | none => false
    | _, _ => false) && okD P call ops dp f h pend r
def runD (P : Program) (call : CallF) (ops : List KOp) (dp : List (List Nat)) : List Nat → List (Nat × Value) → AFr → List Blk → RC
  | [], pend, f, h => some (.normal, f, h)
  | i :: rem, pend, f, h => match ops[i]?, dp[i]? with
    | some o, some d => if fresh f o.dst then match gdK (fewer (hideD ops d pend) f) o.g with
      | some true => match stepC P call (fewer (hideD ops d pend) f) h o.op with
        | some (v, none) => runD P call ops dp rem ((i, v) :: pend) (pt f o.dst v) h
        | some (v, some h') => if rem.all (fun y => match dp[y]? with | some dy => dy.any (fun x => (i :: rem).contains x) | none => false) && okD P call ops dp (pt f o.dst v) h' (drop1 d pend) (drop1 d pend) then
            runD P call ops dp rem (drop1 d pend) (pt f o.dst v) h' else none
        | none => none
      | some false => runD P call ops dp rem ((i, UN) :: pend) (pt f o.dst UN) h
      | none => none
      else none
    | _, _ => none

def ins : AFr → Nat → Value → AFr
  | [], d, v => [(d, v)]
  | (t, u) :: r, d, v => if Nat.beq t d then (d, v) :: r else if Nat.blt d t then (d, v) :: (t, u) :: r else (t, u) :: ins r d v
def norm : AFr → AFr
  | [] => []
  | (t, v) :: r => ins (norm r) t v
def dstsK : List KOp → List Nat
  | [] => []
  | o :: os => match o.dst with
    | some d => d :: dstsK os
    | none => dstsK os
def runC (P : Program) (call : CallF) : Nat → KC → AFr → List Blk → RC
  | 0, _, _, _ => none
  | n + 1, c, f, h => match c with
    | .skip => some (.normal, f, h)
    | .reg ops => runOps P call ops f h
    | .drw ops dp co => runD P call ops dp co [] (fewer (dstsK ops) f) h
    | .seq a b => match runC P call n a f h with
      | some (.normal, f', h') => runC P call n b f' h'
      | x => x
    | .cond x a b => match evB f x with
      | some (.bool true) => runC P call n a f h
      | some (.bool false) => runC P call n b f h
      | _ => none
    | .blk id a => match runC P call n a f h with
      | some (.exit i, f', h') => if Nat.beq i id then some (.normal, f', h') else some (.exit i, f', h')
      | x => x
    | .loop a => match runC P call n a f h with
      | some (.normal, f', h') => runC P call n (.loop a) (norm f') h'
      | x => x
    | .exit id => some (.exit id, f, h)
    | .ret => some (.ret, f, h)
    | .bad => none

end Go.J
