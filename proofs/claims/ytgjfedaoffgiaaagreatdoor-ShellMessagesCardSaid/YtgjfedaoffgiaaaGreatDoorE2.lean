/-
  The evaluator: what an operation, a block of code, a call does to the evaluator's own heap. Words alone: nothing is shown here.
-/
import Derived.Test.YtgjfedaoffgiaaaGreatDoorE1
namespace Go.Eng
noncomputable section

structure FI where
  off : Nat
  ty : Nat
  blank : Bool
inductive U where
  | bool | int (k : IntKind) | str | ptr (e : Nat) | slice (e : Nat) | array (n e : Nat) | map (k e : Nat) | struct (fs : List FI) | iface | fn | other
structure TI where
  u : U
  size : Nat
  bytes : Nat
  zero : List Value
  eqok : Bool
def TI.agg (t : TI) : Bool := match t.u with
  | .struct _ | .array _ _ => true
  | _ => false

inductive AObj where
  /-- m: 0 just these cells; 1 only read; s + 2: there may be room behind them, for elements of s cells. -/
  | cells (vs : List Value) (m : Nat)
  | map (es : List MapEntry) (clock : Nat)
  | iter (s : ByteArray) (pos : Nat)
  | dead
structure ASt where
  heap : Tr AObj
  next : Nat
  lim : Nat
  log : List (Nat × Bool)

abbrev M (α : Type) : Type := ASt → Option (α × ASt)
section
variable {α β : Type}
def M.ret (a : α) : M α := fun s => some (a, s)
def M.fail : M α := fun _ => none
def M.bind (m : M α) (f : α → M β) : M β := fun s => match m s with
  | some (a, s') => f a s'
  | none => none
def M.lift (o : Option α) : M α := fun s => match o with
  | some a => some (a, s)
  | none => none
end
def rd (id : Nat) : M AObj := fun s => match s.heap.get id with
  | some o => bif Nat.blt id s.next then some (o, bif Nat.blt id s.lim then ⟨s.heap, s.next, s.lim, (id, false) :: s.log⟩ else s) else none
  | none => none
def wr (id : Nat) (o : AObj) : M Unit := fun s => match s.heap.get id with
  | some _ => bif Nat.blt id s.next then some ((), ⟨s.heap.set id o, s.next, s.lim, bif Nat.blt id s.lim then (id, true) :: s.log else s.log⟩) else none
  | none => none
/-- Numbers below this one stand for the machine's own blocks (the program's globals). -/
def pinned : Nat := 64
def nw (o : AObj) : M Nat := fun s => match s.heap.get s.next with
  | none => bif Nat.ble pinned s.next then some (s.next, ⟨s.heap.set s.next o, s.next + 1, s.lim, s.log⟩) else none
  | some _ => none

inductive R where
  | val (v : Value)
  | unit
  | call (f : FuncId) (args : List Value)
  | pan (v : Value)
inductive End where
  | ret (v : Value)
  | pan (v : Value)
inductive AExit where
  | normal
  | exit (id : Nat)
  | goto (l : Nat)
  | ret
  | pan (v : Value)

structure Cfg where
  ti : Nat → Option TI
  fn : Nat → Option Func
  over : Nat → Option ((FuncId → List Value → M End) → List Value → M End)
  depth : Nat
  /-- Functions without a body: what the machine's own entry hands back (at numbers, strings and the like). -/
  ext : Nat → Option (List Value → Option Value)
abbrev Tm : Type := Tr Value

def okc : Value → Bool
  | .bool _ | .int _ _ | .float _ _ | .complex _ _ _ | .string _ | .pointer none | .map none | .nilFunc | .nilIface => true
  | .slice none n c => Nat.beq n 0 && Nat.beq c 0
  | _ => false
def gett (T : Tm) (t : Nat) : Value := match T.get t with
  | some v => v
  | none => undef
def ev (T : Tm) : Operand → Option Value
  | .tmp t => some (gett T t)
  | .const v => bif okc v then some v else none
  | .global g => bif Nat.blt g pinned then some (.pointer (some ⟨g, 0, none⟩)) else none
  | .func f => some (.func (.func f) #[] #[])
def evs (T : Tm) : List Operand → Option (List Value)
  | [] => some []
  | x :: xs => match ev T x, evs T xs with
    | some v, some vs => some (v :: vs)
    | _, _ => none
def evps (T : Tm) : List (Nat × Operand) → Option (List (Nat × Value))
  | [] => some []
  | (i, x) :: xs => match ev T x, evps T xs with
    | some v, some vs => some ((i, v) :: vs)
    | _, _ => none
def cellsL : Value → List Value
  | .agg cs => cs.toList
  | v => [v]
def lset : List Value → Nat → List Value → Option (List Value)
  | vs, 0, [] => some vs
  | [], 0, _ :: _ => none
  | _ :: vs, 0, c :: cs => match lset vs 0 cs with
    | some r => some (c :: r)
    | none => none
  | [], _ + 1, _ => none
  | v :: vs, n + 1, cs => match lset vs n cs with
    | some r => some (v :: r)
    | none => none
def ltake : List Value → Nat → Option (List Value)
  | _, 0 => some []
  | [], _ + 1 => none
  | v :: vs, n + 1 => match ltake vs n with
    | some r => some (v :: r)
    | none => none
def lsub (vs : List Value) (o n : Nat) : Option (List Value) := ltake (vs.drop o) n
def oneC : Value → Bool
  | .agg _ | .tuple _ => false
  | _ => true
def zeroV (t : TI) : Option Value := bif t.agg then some (.agg t.zero.toArray) else match t.zero with
  | [v] => some v
  | _ => none
def partA (C : Cfg) (t : Nat) (cs : List Value) (off : Nat) : Option Value := match C.ti t with
  | none => none
  | some ti => bif ti.agg then (match lsub cs off ti.size with
      | some r => some (.agg r.toArray)
      | none => none) else cs[off]?
def lfill (place : Nat → Option (Nat × Nat)) (cells : List Value) : List (Nat × Value) → Option (List Value)
  | [] => some cells
  | (i, v) :: rest => match place i with
    | none => none
    | some (off, size) => bif Nat.beq (cellsL v).length size then (match lset cells off (cellsL v) with
        | some r => lfill place r rest
        | none => none) else none
def lrep (z : List Value) : Nat → List Value
  | 0 => []
  | n + 1 => z ++ lrep z n
def sizes (C : Cfg) : List FI → Option (List (Nat × Nat))
  | [] => some []
  | f :: fs => match C.ti f.ty, sizes C fs with
    | some t, some r => some ((f.off, t.size) :: r)
    | _, _ => none
def byteVals (s : ByteArray) : List Value := s.data.toList.map fun b => .int .u8 b.toNat
def toBytes : List Value → Option (List UInt8)
  | [] => some []
  | .int .u8 n :: vs => match toBytes vs with
    | some r => some (UInt8.ofNat n.toNat :: r)
    | none => none
  | _ => none
def pureOf : Sem Value → Option Value
  | .pure a => bif okc a then some a else none
  | _ => none

/-- '==' of values without addresses, field by field. -/
def eqFs (C : Cfg) (eq : Nat → Value → Value → Option Bool) : List FI → List Value → List Value → Option Bool
  | [], _, _ => some true
  | f :: fs, xs, ys => bif f.blank then eqFs C eq fs xs ys else
    match partA C f.ty xs f.off, partA C f.ty ys f.off with
    | some a, some b => match eq f.ty a b with
      | some true => eqFs C eq fs xs ys
      | some false => some false
      | none => none
    | _, _ => none
def eqA (C : Cfg) : Nat → Nat → Value → Value → Option Bool
  | 0, _, _, _ => none
  | d + 1, t, x, y => match C.ti t with
    | none => none
    | some ti => match ti.u, x, y with
      | .bool, .bool a, .bool b => some (a == b)
      | .int _, .int k a, .int k' b => if k = k' then some (a == b) else none
      | .str, .string a, .string b => some (a == b)
      | .ptr _, .pointer none, .pointer b => some b.isNone
      | .ptr _, .pointer _, .pointer none => some false
      | .iface, .nilIface, .nilIface => some true
      | .iface, .nilIface, .iface _ _ => some false
      | .iface, .iface _ _, .nilIface => some false
      | .slice _, .slice none _ _, .slice b _ _ => some b.isNone
      | .slice _, .slice _ _ _, .slice none _ _ => some false
      | .map _ _, .map none, .map b => some b.isNone
      | .map _ _, .map _, .map none => some false
      | .fn, .nilFunc, .nilFunc => some true
      | .fn, .nilFunc, .func _ _ _ => some false
      | .fn, .func _ _ _, .nilFunc => some false
      | .struct fs, .agg xs, .agg ys => bif ti.eqok then eqFs C (eqA C d) fs xs.toList ys.toList else none
      | _, _, _ => none

def fails {α : Type} : M α := fun _ => none
def val (v : Value) : M R := fun s => some (.val v, s)
def valO : Option Value → M R
  | some v => val v
  | none => M.fail
def addr : Value → Option (Nat × Nat)
  | .pointer (some ⟨b, o, none⟩) => some (b, o)
  | _ => none
def ptr (b o : Nat) : Value := .pointer (some ⟨b, o, none⟩)
def cellsAt (b : Nat) : M (List Value × Nat) := M.bind (rd b) fun
  | .cells vs m => M.ret (vs, m)
  | _ => M.fail

def aLoad (C : Cfg) (t : Nat) (p : Value) : M R := match C.ti t, addr p with
  | some ti, some (b, o) => M.bind (cellsAt b) fun (vs, _) => bif ti.agg then (match lsub vs o ti.size with
      | some cs => val (.agg cs.toArray)
      | none => M.fail) else valO vs[o]?
  | _, _ => M.fail
def putCells (b o : Nat) (vs : List Value) (m : Nat) (cs : List Value) : M Unit :=
  bif !(Nat.beq m 1) && cs.all oneC then (match lset vs o cs with
    | some r => wr b (.cells r m)
    | none => M.fail) else M.fail
def aStore (C : Cfg) (t : Nat) (p v : Value) : M R := match C.ti t, addr p with
  | some ti, some (b, o) => bif Nat.beq (cellsL v).length ti.size then
      M.bind (cellsAt b) fun (vs, m) => M.bind (putCells b o vs m (cellsL v)) fun _ => M.ret .unit
    else M.fail
  | _, _ => M.fail
def aNew (cs : List Value) : M R := bif cs.all oneC then M.bind (nw (.cells cs 0)) fun b => val (ptr b 0) else M.fail
def aFieldAddr (C : Cfg) (t : Nat) (p : Value) (f : Nat) : M R := match C.ti t, addr p with
  | some ti, some (b, o) => match ti.u with
    | .struct fs => match fs[f]? with
      | some fi => match C.ti fi.ty with
        | some ft => bif Nat.beq ft.size 0 then M.fail else val (ptr b (o + fi.off))
        | none => M.fail
      | none => M.fail
    | _ => M.fail
  | _, _ => M.fail
def aField (C : Cfg) (t : Nat) (x : Value) (f : Nat) : M R := match C.ti t, x with
  | some ti, .agg cs => match ti.u with
    | .struct fs => match fs[f]? with
      | some fi => valO (partA C fi.ty cs.toList fi.off)
      | none => M.fail
    | _ => M.fail
  | _, _ => M.fail
def inRange (i : Int) (n : Nat) : Option Nat := match i with
  | .ofNat k => bif Nat.blt k n then some k else none
  | .negSucc _ => none
def aIndexAddr (C : Cfg) (t : Nat) (x i : Value) : M R := match C.ti t, i with
  | some ti, .int _ i => match ti.u with
    | .array n e => match C.ti e, addr x, inRange i n with
      | some et, some (b, o), some k => val (ptr b (o + k * et.size))
      | _, _, _ => M.fail
    | .slice e => match C.ti e, x with
      | some et, .slice (some ⟨b, o, none⟩) n _ => match inRange i n with
        | some k => val (ptr b (o + k * et.size))
        | none => M.fail
      | _, _ => M.fail
    | _ => M.fail
  | _, _ => M.fail
def aIndex (C : Cfg) (t : Nat) (x i : Value) : M R := match C.ti t, i with
  | some ti, .int _ i => match ti.u, x with
    | .array n e, .agg cs => match C.ti e, inRange i n with
      | some et, some k => valO (partA C e cs.toList (k * et.size))
      | _, _ => M.fail
    | .str, .string s => match inRange i s.size with
      | some k => match s.data.toList[k]? with
        | some b => val (.int .u8 b.toNat)
        | none => M.fail
      | none => M.fail
    | _, _ => M.fail
  | _, _ => M.fail
def bound (d : Nat) (n : Nat) : Option Value → Option Nat
  | none => some d
  | some (.int _ (.ofNat k)) => bif Nat.ble k n then some k else none
  | _ => none
def aSlice (C : Cfg) (t : Nat) (x : Value) (lo hi : Option Value) : M R := match C.ti t with
  | none => M.fail
  | some ti => match ti.u, x with
    | .str, .string s => match bound s.size s.size hi with
      | some h => match bound 0 h lo with
        | some l => val (.string (s.extract l h))
        | none => M.fail
      | none => M.fail
    | .slice e, .slice none 0 0 => match C.ti e, bound 0 0 hi, bound 0 0 lo with
      | some _, some _, some _ => val x
      | _, _, _ => M.fail
    | .slice e, .slice (some ⟨b, o, none⟩) n c => match C.ti e, bound n c hi with
      | some et, some h => match bound 0 h lo with
        | some l => bif !(Nat.ble h c) then M.fail else M.bind (cellsAt b) fun (_, m) => bif Nat.beq c l && Nat.blt m 2 then val (.slice (some ⟨b, o, none⟩) (h - l) (c - l))
            else val (.slice (some ⟨b, o + l * et.size, none⟩) (h - l) (c - l))
        | none => M.fail
      | _, _ => M.fail
    | .array n e, x => match C.ti e, addr x, bound n n hi with
      | some et, some (b, o), some h => match bound 0 h lo with
        | some l => M.bind (cellsAt b) fun (_, m) => bif Nat.ble 2 m then M.fail else
            val (.slice (some ⟨b, bif Nat.beq n l then o else o + l * et.size, none⟩) (h - l) (n - l))
        | none => M.fail
      | _, _, _ => M.fail
    | _, _ => M.fail
def aBuild (C : Cfg) (t : Nat) (ps : List (Nat × Value)) : M R := match C.ti t with
  | none => M.fail
  | some ti => match ti.u with
    | .struct fs => match sizes C fs with
      | some pl => match lfill (fun i => pl[i]?) ti.zero ps with
        | some r => val (.agg r.toArray)
        | none => M.fail
      | none => M.fail
    | .array _ e => match C.ti e with
      | some et => match lfill (fun i => some (i * et.size, et.size)) ti.zero ps with
        | some r => val (.agg r.toArray)
        | none => M.fail
      | none => M.fail
    | _ => M.fail
def aBuildSlice (C : Cfg) (t n : Nat) (ps : List (Nat × Value)) : M R := match C.ti t with
  | none => M.fail
  | some ti => match ti.u with
    | .slice e => match C.ti e with
      | some et => bif Nat.beq et.zero.length et.size && Nat.ble (n * et.size) 16777216 then
          (match lfill (fun i => some (i * et.size, et.size)) (lrep et.zero n) ps with
          | some r => bif r.all oneC then M.bind (nw (.cells r 0)) fun b => val (.slice (some ⟨b, 0, none⟩) n n) else M.fail
          | none => M.fail) else M.fail
      | none => M.fail
    | _ => M.fail
def aMakeSlice (C : Cfg) (t : Nat) (n c : Value) : M R := match C.ti t, n, c with
  | some ti, .int _ (.ofNat n), .int _ (.ofNat c) => match ti.u with
    | .slice e => match C.ti e with
      | some et => bif Nat.beq et.zero.length et.size && Nat.ble n c && Nat.ble (c * (et.bytes + et.size + 1)) 16777216 && et.zero.all oneC then
          M.bind (nw (.cells (lrep et.zero c) 0)) fun b => val (.slice (some ⟨b, 0, none⟩) n c) else M.fail
      | none => M.fail
    | _ => M.fail
  | _, _, _ => M.fail
def aConvert (C : Cfg) (src dst : Nat) (x : Value) : M R := match C.ti src, C.ti dst with
  | some st, some dt => match dt.u, x with
    | .int k, .int _ n => val (.int k (k.wrap n))
    | .str, .int _ n => val (.string (Utf8.encode n))
    | .str, .string _ => val x
    | .slice e, .string s => match C.ti e with
      | some et => match et.u with
        | .int .u8 => match st.u with
          | .str => bif Nat.beq et.bytes 1 && Nat.ble s.size 1073741824 then M.bind (nw (.cells (byteVals s) 3)) fun b => val (.slice (some ⟨b, 0, none⟩) s.size s.size) else M.fail
          | _ => M.fail
        | _ => M.fail
      | none => M.fail
    | .str, .slice none _ _ => match st.u with
      | .slice e => match C.ti e with
        | some et => match et.u with
          | .int .u8 => val (.string .empty)
          | _ => M.fail
        | none => M.fail
      | _ => M.fail
    | .str, .slice (some ⟨b, o, none⟩) n _ => match st.u with
      | .slice e => match C.ti e with
        | some et => match et.u with
          | .int .u8 => M.bind (cellsAt b) fun (vs, _) => match lsub vs o n with
            | some cs => match toBytes cs with
              | some bs => val (.string ⟨bs.toArray⟩)
              | none => M.fail
            | none => M.fail
          | _ => M.fail
        | none => M.fail
      | _ => M.fail
    | _, _ => M.fail
  | _, _ => M.fail
def aMakeIface (C : Cfg) (t : Nat) (x : Value) : M R := match C.ti t with
  | some ti => match ti.u with
    | .iface => M.fail
    | _ => val (.iface t x)
  | none => M.fail
def aAssert (C : Cfg) (x : Value) (t : Nat) (ok : Bool) : M R := match C.ti t with
  | some ti => match ti.u, x with
    | .iface, _ => M.fail
    | _, .iface u v => bif Nat.beq u t then val (bif ok then .tuple #[v, .bool true] else v)
        else bif ok then (match zeroV ti with
          | some z => val (.tuple #[z, .bool false])
          | none => M.fail) else M.fail
    | _, .nilIface => bif ok then (match zeroV ti with
          | some z => val (.tuple #[z, .bool false])
          | none => M.fail) else M.fail
    | _, _ => M.fail
  | none => M.fail
def mapAt (b : Nat) : M (List MapEntry × Nat) := M.bind (rd b) fun
  | .map es c => M.ret (es, c)
  | _ => M.fail
def keyDesc (C : Cfg) (t : Nat) : Option TypeDesc := match C.ti t with
  | some ti => match ti.u with
    | .int k => some (.int k)
    | .str => some .string
    | .bool => some .bool
    | _ => none
  | none => none
def aLookup (C : Cfg) (t : Nat) (x k : Value) (ok : Bool) : M R := match C.ti t with
  | some ti => match ti.u with
    | .map kt et => match keyDesc C kt, C.ti et with
      | some d, some et => M.bind (match x with
          | .map none => M.ret ([], 0)
          | .map (some b) => mapAt b
          | _ => M.fail) fun (es, _) => match Instr.findNow d k es 0, zeroV et with
        | some (some (_, v)), _ => val (bif ok then .tuple #[v, .bool true] else v)
        | some none, some z => val (bif ok then .tuple #[z, .bool false] else z)
        | _, _ => M.fail
      | _, _ => M.fail
    | _ => M.fail
  | none => M.fail
def setVal : List MapEntry → Nat → Value → Value → List MapEntry
  | [], _, _, _ => []
  | e :: es, 0, k, v => { e with key := k, val := v } :: es
  | e :: es, n + 1, k, v => e :: setVal es n k v
def aUpdate (C : Cfg) (t : Nat) (m k v : Value) : M R := match C.ti t, m with
  | some ti, .map (some b) => match ti.u with
    | .map kt _ => match keyDesc C kt with
      | some d => M.bind (mapAt b) fun (es, c) => match Instr.findNow d k es 0 with
        | some (some (i, _)) => M.bind (wr b (.map (setVal es i k v) c)) fun _ => M.ret .unit
        | some none => M.bind (wr b (.map (es ++ [{ key := k, val := v, born := c }]) (c + 1))) fun _ => M.ret .unit
        | none => M.fail
      | none => M.fail
    | _ => M.fail
  | _, _ => M.fail
def aDelete (C : Cfg) (t : Nat) (m k : Value) : M R := match C.ti t with
  | some ti => match ti.u with
    | .map kt _ => match keyDesc C kt, m with
      | some _, .map none => val (.tuple #[])
      | some d, .map (some b) => M.bind (mapAt b) fun (es, c) => match Instr.findNow d k es 0 with
        | some (some (i, _)) => M.bind (wr b (.map (es.eraseIdx i) c)) fun _ => val (.tuple #[])
        | some none => val (.tuple #[])
        | none => M.fail
      | _, _ => M.fail
    | _ => M.fail
  | none => M.fail
def aRange (C : Cfg) (t : Nat) (x : Value) : M R := match C.ti t, x with
  | some ti, .string s => match ti.u with
    | .str => M.bind (nw (.iter s 0)) fun b => val (ptr b 0)
    | _ => M.fail
  | _, _ => M.fail
def aNext (x : Value) (isS : Bool) : M R := match addr x with
  | some (b, 0) => M.bind (rd b) fun
    | .iter s pos => bif isS then (bif Nat.blt pos s.size then (match Utf8.decode s pos with
        | (c, w) => M.bind (wr b (.iter s (pos + w))) fun _ => val (.tuple #[.bool true, .int .i64 pos, .int .i32 c])) else val (.tuple #[.bool false])) else M.fail
    | _ => M.fail
  | _ => M.fail
def aLen (C : Cfg) (t : Nat) (x : Value) : M R := match C.ti t with
  | some ti => match ti.u, x with
    | .str, .string s => val (.int .i64 s.size)
    | .array n _, _ => val (.int .i64 n)
    | .slice _, .slice _ n _ => val (.int .i64 n)
    | .map _ _, .map none => val (.int .i64 0)
    | .map _ _, .map (some b) => M.bind (mapAt b) fun (es, _) => val (.int .i64 es.length)
    | _, _ => M.fail
  | none => M.fail
/-- The cells of what is appended or copied: so many elements. -/
def srcCells (size : Nat) (n : Option Nat) : Value → M (List Value × Nat)
  | .slice none _ _ => M.ret ([], 0)
  | .slice (some ⟨b, o, none⟩) k _ => M.bind (cellsAt b) fun (vs, _) => match lsub vs o ((match n with | some n => Nat.min k n | none => k) * size) with
    | some cs => M.ret (cs, match n with | some n => Nat.min k n | none => k)
    | none => M.fail
  | .string s => bif Nat.beq size 1 then M.ret (match n with
    | some n => ((byteVals s).take n, Nat.min s.size n)
    | none => (byteVals s, s.size)) else M.fail
  | _ => M.fail
def srcOK : U → Bool
  | .slice _ | .str => true
  | _ => false
def grow (E k : Nat) (cs : List Value) : M R := M.bind (nw (.cells cs (E + 2))) fun b => val (.slice (some ⟨b, 0, none⟩) k k)
def aAppendTo (et : TI) (cs : List Value) (k : Nat) (x : Value) : M R := match x with
  | .slice none 0 0 => bif Nat.beq k 0 then val x else bif Nat.ble (k * et.bytes) 70368744177664 then grow et.size k cs else M.fail
  | .slice (some ⟨b, o, none⟩) n c => bif !(Nat.ble n c) then M.fail else bif Nat.beq k 0 then val x else
    M.bind (cellsAt b) fun (vs, m) => bif Nat.ble (n + k) c then
        M.bind (putCells b (o + n * et.size) vs m cs) fun _ => val (.slice (some ⟨b, o, none⟩) (n + k) c)
      else bif Nat.ble ((n + k) * et.bytes) 70368744177664 then (match lsub vs o (n * et.size) with
        | none => M.fail
        | some old => bif Nat.ble 2 m then
            (bif Nat.beq m (et.size + 2) && Nat.beq (o + n * et.size) vs.length && Nat.beq n c then M.bind (wr b .dead) fun _ => grow et.size (n + k) (old ++ cs) else M.fail)
          else grow et.size (n + k) (old ++ cs)) else M.fail
  | _ => M.fail
def aAppend (C : Cfg) (t t2 : Nat) (x y : Value) : M R := match C.ti t, C.ti t2 with
  | some ti, some t2 => match ti.u with
    | .slice e => match C.ti e with
      | none => M.fail
      | some et => bif !(srcOK t2.u) || Nat.beq et.size 0 || !(Nat.beq et.zero.length et.size) || Nat.beq et.bytes 0 then M.fail else
        M.bind (srcCells et.size none y) fun (cs, k) => bif !(cs.all oneC) then M.fail else aAppendTo et cs k x
    | _ => M.fail
  | _, _ => M.fail
def aMinMax (isMax : Bool) : List Value → Option Value
  | [] => none
  | .int k n :: rest => go k n rest
  | _ => none
where
  go (k : IntKind) (n : Int) : List Value → Option Value
    | [] => some (.int k n)
    | .int k' m :: rest => if k = k' then go k (bif isMax then (if m > n then m else n) else (if m < n then m else n)) rest else none
    | _ => none
def aBuiltin (C : Cfg) (b : Builtin) (ts : List Nat) (args : List Value) : M R := match b, ts, args with
  | .len, [t], [x] => aLen C t x
  | .append, [t, u], [x, y] => aAppend C t u x y
  | .min, _, l => valO (aMinMax false l)
  | .max, _, l => valO (aMinMax true l)
  | .delete, t :: _, [m, k] => aDelete C t m k
  | .panic, _, [.iface t v] => M.ret (.pan (.iface t v))
  | _, _, _ => M.fail
def aPtrEq (C : Cfg) (e : Nat) (b o b' o' : Nat) : M Bool := match C.ti e with
  | none => M.fail
  | some et => bif Nat.beq et.size 0 then M.fail else M.bind (cellsAt b) fun (_, m) => M.bind (cellsAt b') fun (_, m') =>
      bif Nat.beq m 0 && Nat.beq m' 0 then M.ret (Nat.beq b b' && Nat.beq o o') else M.fail
def aEq (C : Cfg) (t : Nat) (x y : Value) : M Bool := match addr x, addr y with
  | some (b, o), some (b', o') => match C.ti t with
    | some ti => match ti.u with
      | .ptr e => aPtrEq C e b o b' o'
      | _ => M.fail
    | none => M.fail
  | _, _ => M.lift (eqA C C.depth t x y)
def isC : Operand → Bool
  | .const _ => true
  | _ => false
def aEqOp (C : Cfg) (op : BinOp) (t : Nat) (x y : Value) : M R := match op with
  | .eql => M.bind (aEq C t x y) fun r => val (.bool r)
  | .neq => M.bind (aEq C t x y) fun r => val (.bool !r)
  | _ => M.fail
def aBin (C : Cfg) (op : BinOp) (t : Nat) (cst : Bool) (x y : Value) : M R := match x, y with
  | .int _ _, .int _ _ => valO (pureOf (binOp op t x y))
  | .string _, .string _ => valO (pureOf (binOp op t x y))
  | .nilIface, .nilIface => bif cst then aEqOp C op t x y else M.fail
  | _, _ => aEqOp C op t x y
def callOf (C : Cfg) (args : List Value) : Value → Option R
  | .func (.func g) first captured => match C.fn g with
    | some fn => match fn.body with
      | some _ => some (.call g (first.toList ++ args ++ captured.toList))
      | none => match C.ext g with
        | some h => match h (first.toList ++ args ++ captured.toList) with
          | some v => some (.val v)
          | none => none
        | none => none
    | none => none
  | _ => none
def aCallOp (C : Cfg) (T : Tm) (c : Call) : M R := match evs T c.args.toList with
  | none => M.fail
  | some args => match c.callee with
    | .builtin b => aBuiltin C b c.argTypes.toList args
    | .value f => match ev T f with
      | some v => M.lift (callOf C args v)
      | none => M.fail
    | .invoke _ _ => M.fail
def aNil : Value → Option Value
  | .pointer (some a) => some (.pointer (some a))
  | .func (.func g) f c => some (.func (.func g) f c)
  | _ => none
def evo (T : Tm) : Option Operand → Option (Option Value)
  | none => some none
  | some x => match ev T x with
    | some v => some (some v)
    | none => none
def with1 (T : Tm) (x : Operand) (f : Value → M R) : M R := match ev T x with
  | some v => f v
  | none => M.fail
def with2 (T : Tm) (x y : Operand) (f : Value → Value → M R) : M R := match ev T x with
  | some v => match ev T y with
    | some u => f v u
    | none => M.fail
  | none => M.fail
def aOp (C : Cfg) (T : Tm) (o : Op) : M R := match o with
  | .move x | .assign x => valO (ev T x)
  | .pick c a b => with1 T c fun
    | .bool true => valO (ev T a)
    | .bool false => valO (ev T b)
    | _ => M.fail
  | .alloc t => match C.ti t with
    | some ti => aNew ti.zero
    | none => M.fail
  | .box _ x => with1 T x fun v => aNew (cellsL v)
  | .build t ps => match evps T ps.toList with
    | some ps => aBuild C t ps
    | none => M.fail
  | .buildSlice t n ps => match evps T ps.toList with
    | some ps => aBuildSlice C t n ps
    | none => M.fail
  | .load t a => with1 T a (aLoad C t)
  | .store t a x => with2 T a x (aStore C t)
  | .nilCheck x => with1 T x fun v => valO (aNil v)
  | .binOp op t x y _ => with2 T x y (aBin C op t (isC x || isC y))
  | .unOp op _ x => with1 T x fun v => match v with
    | .int _ _ | .bool _ => valO (pureOf (Op.unary op v))
    | _ => M.fail
  | .convert src dst x => with1 T x (aConvert C src dst)
  | .makeInterface t x => with1 T x (aMakeIface C t)
  | .makeFunc (.func g) first cap => match evs T first.toList, evs T cap.toList with
    | some f, some c => val (.func (.func g) f.toArray c.toArray)
    | _, _ => M.fail
  | .makeMap _ none => M.bind (nw (.map [] 0)) fun b => val (.map (some b))
  | .makeSlice t n c => with2 T n c (aMakeSlice C t)
  | .slice t x lo hi none => match evo T lo, evo T hi with
    | some lo, some hi => with1 T x fun v => aSlice C t v lo hi
    | _, _ => M.fail
  | .fieldAddr t x f => with1 T x fun v => aFieldAddr C t v f
  | .field t x f => with1 T x fun v => aField C t v f
  | .indexAddr t x i => with2 T x i (aIndexAddr C t)
  | .index t x i => with2 T x i (aIndex C t)
  | .lookup t x k ok => with2 T x k fun x k => aLookup C t x k ok
  | .mapUpdate t m k v | .insert t m k v => with2 T m k fun m k => with1 T v fun v => aUpdate C t m k v
  | .range t x => with1 T x (aRange C t)
  | .next it isS => with1 T it fun v => aNext v isS
  | .typeAssert x _ t ok => with1 T x fun v => aAssert C v t ok
  | .extract x i => with1 T x fun
    | .tuple vs => valO vs.toList[i]?
    | _ => M.fail
  | .call c => aCallOp C T c
  | .panic x => with1 T x fun
    | .iface t v => M.ret (.pan (.iface t v))
    | _ => M.fail
  | _ => M.fail
end
end Go.Eng
