/-
  The evaluator's code: regions, blocks, loops, calls. Words alone.
-/
import Derived.Test.YtgjfedaoffgiaaaGreatDoorE2
namespace Go.Eng
noncomputable section
abbrev CallF : Type := FuncId → List Value → M End
abbrev CRes : Type := Option (AExit × Tm × ASt)

def putT (N : Nat) (T : Tm) (dst : Option Nat) (v : Value) : Option Tm := match dst with
  | none => some T
  | some d => bif Nat.blt d N then some (T.set d v) else none
def wantedA (all : List Oper) (T : Tm) (o : Oper) : Bool := match o.guard with
  | none => true
  | some (j, want) => match all[j]? with
    | none => false
    | some p => match p.dst with
      | none => false
      | some d => match gett T d with
        | .bool b => b == want
        | _ => false
/-- One operation: its value, or a panic. -/
def opRun (C : Cfg) (call : CallF) (T : Tm) (o : Oper) : M End := fun s => match aOp C T o.op s with
  | some (.val v, s') => some (.ret v, s')
  | some (.unit, s') => some (.ret undef, s')
  | some (.pan v, s') => some (.pan v, s')
  | some (.call f args, s') => call f args s'
  | none => none
def aOps (C : Cfg) (call : CallF) (N : Nat) (all : List Oper) : List Oper → Tm → ASt → CRes
  | [], T, s => some (.normal, T, s)
  | o :: rest, T, s => bif wantedA all T o then (match opRun C call T o s with
      | some (.ret v, s') => (match putT N T o.dst v with
        | some T' => aOps C call N all rest T' s'
        | none => none)
      | some (.pan v, s') => some (.pan v, T, s')
      | none => none)
    else (match putT N T o.dst undef with
      | some T' => aOps C call N all rest T' s
      | none => none)

/-- The operations that must stand ahead of one, by its own edges. -/
def direct (o : Oper) : List Nat := o.after.toList.filterMap fun e => match e.ground with
  | .textOnly _ => none
  | .gcOnly _ => none
  | _ => some e.on
def anc (all : List Oper) : Nat → Nat → List Nat
  | 0, _ => []
  | f + 1, j => match all[j]? with
    | none => []
    | some o => (direct o).flatMap fun i => i :: anc all f i
def memN (i : Nat) : List Nat → Bool
  | [] => false
  | j :: l => bif Nat.beq i j then true else memN i l
def clashes (a b : List (Nat × Bool)) : Bool := a.any fun x => b.any fun y => Nat.beq x.1 y.1 && (x.2 || y.2)
/-- What one operation did to the heap: what it looked at and wrote of what was there, and the numbers that it took. -/
structure Foot where
  idx : Nat
  log : List (Nat × Bool)
  lo : Nat
  hi : Nat
def touches (a b : Foot) : Bool := clashes a.log b.log || b.log.any fun y => Nat.ble a.lo y.1 && Nat.blt y.1 a.hi
def looks (all : List Oper) (o : Oper) : List Nat :=
  (o.op.operands.toList.filterMap fun | .tmp t => some t | _ => none) ++
  (match o.guard with
   | some (j, _) => ((all[j]?).bind (·.dst)).toList
   | none => [])
def apartT (all : List Oper) (x y : Oper) : Bool :=
  (match x.dst with
   | some d => !(memN d (looks all y)) && (match y.dst with | some e => !(Nat.beq d e) | none => true)
   | none => true) &&
  (match y.dst with
   | some d => !(memN d (looks all x))
   | none => true)
/-- Each two operations of which neither must stand ahead of the other one do not meet. -/
def free (all : List Oper) (x y : Foot) : Bool := memN x.idx (anc all all.length y.idx) || (!(touches x y) && (match all[x.idx]?, all[y.idx]? with
  | some a, some b => apartT all a b
  | _, _ => false))
def allFree (all : List Oper) : List Foot → Bool
  | [] => true
  | y :: rest => rest.all (fun x => free all x y) && allFree all rest
/-- A part of a run, with what it did to the heap. -/
def sub {α : Type} (m : M α) : M (α × Nat × Nat × List (Nat × Bool)) := fun s => match m ⟨s.heap, s.next, s.next, []⟩ with
  | some (r, s') => some ((r, s.next, s'.next, s'.log), ⟨s'.heap, s'.next, s.lim, (s'.log.filter fun x => Nat.blt x.1 s.lim) ++ s.log⟩)
  | none => none
def runW (C : Cfg) (call : CallF) (all : List Oper) (T : Tm) (o : Oper) : M End := bif wantedA all T o then opRun C call T o else M.ret (.ret undef)
def dOps (C : Cfg) (call : CallF) (N : Nat) (all : List Oper) : Nat → List Oper → List Foot → Tm → M (List Foot × Tm)
  | _, [], fs, T => M.ret (fs, T)
  | i, o :: rest, fs, T => M.bind (sub (runW C call all T o)) fun r => match r with
    | (.ret v, lo, hi, log) => (match putT N T o.dst v with
      | some T' => dOps C call N all (i + 1) rest (⟨i, log, lo, hi⟩ :: fs) T'
      | none => M.fail)
    | _ => M.fail
def backs : Nat → List Oper → Bool
  | _, [] => true
  | i, o :: rest => (direct o).all (fun j => Nat.blt j i) && backs (i + 1) rest
def aDraw (C : Cfg) (call : CallF) (N : Nat) (all : List Oper) (T : Tm) (s : ASt) : CRes := match dOps C call N all 0 all [] T s with
  | some ((fs, T'), s') => bif allFree all fs && backs 0 all then some (.normal, T', s') else none
  | none => none

def aCode (C : Cfg) (call : CallF) (N : Nat) : Nat → Code → Tm → ASt → CRes
  | 0, _, _, _ => none
  | n + 1, c, T, s => match c with
    | .skip => some (.normal, T, s)
    | .label _ => some (.normal, T, s)
    | .ret => some (.ret, T, s)
    | .exit id => some (.exit id, T, s)
    | .region _ ops d => bif d then aDraw C call N ops.toList T s else aOps C call N ops.toList ops.toList T s
    | .seq a b => (match aCode C call N n a T s with
      | some (.normal, T', s') => aCode C call N n b T' s'
      | r => r)
    | .cond c a b => (match ev T c with
      | some (.bool true) => aCode C call N n a T s
      | some (.bool false) => aCode C call N n b T s
      | _ => none)
    | .block id b => (match aCode C call N n b T s with
      | some (.exit i, T', s') => some (bif Nat.beq i id then .normal else .exit i, T', s')
      | r => r)
    | .loop b => (match aCode C call N n b T s with
      | some (.normal, T', s') => aCode C call N n (.loop b) T' s'
      | r => r)
    | _ => none

def aRes (C : Cfg) (T : Tm) : List ResultVar → M (List Value)
  | [] => M.ret []
  | .tmp t :: rest => M.bind (aRes C T rest) fun vs => M.ret (gett T t :: vs)
  | .cell a t :: rest => M.bind (aLoad C t (gett T a)) fun
    | .val v => M.bind (aRes C T rest) fun vs => M.ret (v :: vs)
    | _ => M.fail
def tupV : List Value → Value
  | [v] => v
  | l => .tuple l.toArray
def argsT : Nat → List Value → Tm → Tm
  | _, [], T => T
  | i, v :: vs, T => argsT (i + 1) vs (T.set i v)
def aBody (C : Cfg) (call : CallF) (F : Nat) (fn : Func) (args : List Value) : M End := fun s => match fn.body with
  | none => none
  | some body => bif Nat.ble args.length fn.ntmps then (match aCode C call fn.ntmps F body (argsT 0 args .leaf) s with
      | some (.normal, T, s') => (match aRes C T fn.results.toList s' with
        | some (vs, s'') => some (.ret (tupV vs), s'')
        | none => none)
      | some (.ret, T, s') => (match aRes C T fn.results.toList s' with
        | some (vs, s'') => some (.ret (tupV vs), s'')
        | none => none)
      | some (.pan v, _, s') => some (.pan v, s')
      | _ => none)
    else none
def aCall (C : Cfg) (F : Nat) : Nat → CallF
  | 0, _, _ => M.fail
  | n + 1, f, args => match C.over f with
    | some g => g (aCall C F n) args
    | none => match C.fn f with
      | some fn => aBody C (aCall C F n) F fn args
      | none => M.fail
end
end Go.Eng
