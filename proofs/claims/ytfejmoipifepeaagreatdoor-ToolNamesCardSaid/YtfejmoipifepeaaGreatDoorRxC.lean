/- The executor: what an operation, a region, a text and a call come to on abstract values. -/
import Derived.Test.YtfejmoipifepeaaGreatDoorRxB
set_option linter.unusedSimpArgs false
set_option linter.unusedVariables false
set_option linter.unusedSectionVars false
namespace Go.Rx
noncomputable section

/- A value of the text as an abstract one. -/
mutual
def ofV : Nat → Value → Option AV
  | 0, _ => none
  | _ + 1, .bool b => some (.bool b)
  | _ + 1, .int k n => some (.int k n)
  | _ + 1, .string s => some (.str s.data.toList)
  | _ + 1, .pointer none => some (.ptr none)
  | _ + 1, .slice none l c => some (.slice none l c false)
  | _ + 1, .map none => some (.map none)
  | _ + 1, .nilFunc => some .nilFunc
  | _ + 1, .nilIface => some .nilIface
  | n + 1, .iface t v => match ofV n v with
    | some x => some (.iface t x)
    | none => none
  | n + 1, .agg cs => match ofVs n cs.toList with
    | some l => some (.agg l)
    | none => none
  | n + 1, .tuple cs => match ofVs n cs.toList with
    | some l => some (.tuple l)
    | none => none
  | _ + 1, _ => none
def ofVs : Nat → List Value → Option (List AV)
  | _, [] => some []
  | 0, _ :: _ => none
  | n + 1, v :: l => match ofV n v, ofVs n l with
    | some x, some xs => some (x :: xs)
    | _, _ => none
end

def deep : Nat := 5000

/- Operands, by the temporaries. Names below G are the package-level variables'. -/
/- How many globals there are; and what is known of values that have but names: between what an integer lies, which texts a text is not. -/
structure Cfg where
  G : Nat
  rng : Nat → Option (Int × Int)
  ne : Nat → List (List UInt8)
  sl : Nat → Bool

def opd (G : Cfg) (τ : T AV) : Operand → Option AV
  | .tmp t => τ.get t
  | .const v => ofV deep v
  | .global g => if g < G.G then some (.ptr (some (g, 0))) else none
  | .func f => some (.func (.func f) [] [])

/- Equal texts. -/
def eqB : List UInt8 → List UInt8 → Bool
  | [], [] => true
  | a :: x, b :: y => if a.toNat == b.toNat then eqB x y else false
  | _, _ => false

def lessB : List UInt8 → List UInt8 → Bool
  | _, [] => false
  | [], _ :: _ => true
  | a :: x, b :: y => if Nat.blt a.toNat b.toNat then true else if a.toNat == b.toNat then lessB x y else false

/- An integer that its kind may have, quickly; else by the model's own wrap. -/
def fits (k : IntKind) : Int → Bool
  | .ofNat m => match k with
    | .i8 => Nat.blt m 128 | .i16 => Nat.blt m 32768 | .i32 => Nat.blt m 2147483648 | .i64 => Nat.blt m 9223372036854775808
    | .u8 => Nat.blt m 256 | .u16 => Nat.blt m 65536 | .u32 => Nat.blt m 4294967296 | .u64 => Nat.blt m 18446744073709551616
  | .negSucc m => match k with
    | .i8 => Nat.blt m 128 | .i16 => Nat.blt m 32768 | .i32 => Nat.blt m 2147483648 | .i64 => Nat.blt m 9223372036854775808
    | _ => false

def wrapA (k : IntKind) (n : Int) : Int := if fits k n then n else k.wrap n

def intA (op : BinOp) (k : IntKind) (x y : Int) : Option AV :=
  match op with
  | .add => some (.int k (wrapA k (x + y)))
  | .sub => some (.int k (wrapA k (x - y)))
  | .mul => some (.int k (wrapA k (x * y)))
  | .quo => if y == 0 then none else some (.int k (wrapA k (x.tdiv y)))
  | .rem => if y == 0 then none else some (.int k (x.tmod y))
  | .and => some (.int k (k.wrap (BitVec.ofInt k.bits x &&& BitVec.ofInt k.bits y).toNat))
  | .or => some (.int k (k.wrap (BitVec.ofInt k.bits x ||| BitVec.ofInt k.bits y).toNat))
  | .xor => some (.int k (k.wrap (BitVec.ofInt k.bits x ^^^ BitVec.ofInt k.bits y).toNat))
  | .andNot => some (.int k (k.wrap (BitVec.ofInt k.bits x &&& ~~~(BitVec.ofInt k.bits y)).toNat))
  | .eql => some (.bool (x == y))
  | .neq => some (.bool (x != y))
  | .lss => some (.bool (x < y))
  | .leq => some (.bool (x ≤ y))
  | .gtr => some (.bool (x > y))
  | .geq => some (.bool (x ≥ y))
  | _ => none

def shiftA (op : BinOp) (k : IntKind) (x y : Int) : Option AV :=
  if y < 0 then none else
  match op with
  | .shl => some (.int k (wrapA k (x * 2 ^ (min y.toNat k.bits))))
  | .shr => some (.int k (x.fdiv (2 ^ (min y.toNat k.bits))))
  | _ => none

def strA (op : BinOp) (x y : List UInt8) : Option AV :=
  match op with
  | .add => if Nat.ble (x.length + y.length) 9223372036854775807 then some (.str (x ++ y)) else none
  | .eql => some (.bool (eqB x y))
  | .neq => some (.bool (!eqB x y))
  | .lss => some (.bool (lessB x y))
  | .leq => some (.bool (lessB x y || eqB x y))
  | .gtr => some (.bool (!(lessB x y || eqB x y)))
  | .geq => some (.bool (!lessB x y))
  | _ => none

def isConst : Operand → Bool
  | .const _ => true
  | _ => false

def eqSegs : List Seg → List Seg → Bool
  | [], [] => true
  | .lit a :: x, .lit b :: y => eqB a b && eqSegs x y
  | .var a :: x, .var b :: y => Nat.beq a b && eqSegs x y
  | _, _ => false

/- Equal, of what fits one cell. -/
def eqCell (P : Program) (t : TypeId) (a b : AV) : Option Bool :=
  match P.underlying t, a, b with
  | some .bool, .bool x, .bool y => some (x == y)
  | some (.int _), .int k x, .int k' y => if k = k' then some (x == y) else none
  | some .string, .str x, .str y => some (eqB x y)
  | some (.pointer _), .ptr none, .ptr none => some true
  | some (.pointer _), .ptr none, .ptr (some _) => some false
  | some (.pointer _), .ptr (some _), .ptr none => some false
  | some (.pointer e), .ptr (some (i, o)), .ptr (some (j, q)) => if i = j then match P.info? e with
      | some inf => if inf.size = 0 then none else some (o == q)
      | none => none
    else none
  | some (.interface _), .nilIface, .iface _ _ => some false
  | some (.interface _), .iface _ _, .nilIface => some false
  | some (.interface _), .iface t _, .iface u _ => if t ≠ u then some false else none
  | some (.slice _), .slice none _ _ false, .slice none _ _ false => some true
  | some (.slice _), .slice none _ _ false, .slice (some _) _ _ _ => some false
  | some (.slice _), .slice (some _) _ _ _, .slice none _ _ false => some false
  | some (.map _ _), .map none, .map none => some true
  | some (.map _ _), .map none, .map (some _) => some false
  | some (.map _ _), .map (some _), .map none => some false
  | some (.func _ _ _), .nilFunc, .nilFunc => some true
  | some (.func _ _ _), .nilFunc, .func _ _ _ => some false
  | some (.func _ _ _), .func _ _ _, .nilFunc => some false
  | some .string, .scat a, .scat b => if eqSegs a b then some true else none
  | _, _, _ => none

/- Equal, of structs of such cells. -/
def eqCells (P : Program) : List Field → List AV → List AV → Option Bool
  | [], _, _ => some true
  | f :: fs, xs, ys =>
    if f.name == "_" then none else
    match xs[f.offset]?, ys[f.offset]? with
    | some a, some b => match eqCell P f.type a b with
      | some true => eqCells P fs xs ys
      | some false => some false
      | none => none
    | _, _ => none

def eqA (P : Program) (t : TypeId) (x y : Operand) (a b : AV) : Option Bool :=
  match a, b with
  | .agg xs, .agg ys => match P.underlying t with
    | some (.struct fs) => if P.eqGuardType P.depth t || P.stoodInHeld t then none else eqCells P fs.toList xs ys
    | _ => none
  | .nilIface, .nilIface => if isConst x || isConst y then match P.underlying t with
      | some (.interface _) => some true
      | _ => none
    else none
  | .scat _, _ => none
  | a, b => eqCell P t a b

def binA (P : Program) (op : BinOp) (t : TypeId) (x y : Operand) (a b : AV) : Option AV :=
  match a, b with
  | .int k n, .int k' m =>
    match op with
    | .shl => shiftA .shl k n m
    | .shr => shiftA .shr k n m
    | op => if k = k' then intA op k n m else none
  | .str s, .str u => strA op s u
  | a, b => match op with
    | .eql => match eqA P t x y a b with
      | some r => some (.bool r)
      | none => none
    | .neq => match eqA P t x y a b with
      | some r => some (.bool (!r))
      | none => none
    | _ => none

def unA (op : UnOp) : AV → Option AV
  | .int k n => match op with
    | .neg => some (.int k (wrapA k (0 - n)))
    | .xor => intA .xor k (if k.signed then -1 else k.max) n
    | _ => none
  | .bool b => match op with
    | .not => some (.bool (!b))
    | _ => none
  | _ => none

/- A part of an aggregate's cells. -/
def partA (P : Program) (t : TypeId) (cs : List AV) (off : Nat) : Option AV :=
  match P.underlying t with
  | some (.struct _) | some (.array _ _) => match P.info? t with
    | some i => some (.agg ((cs.take (off + i.size)).drop off))
    | none => none
  | some _ => cs[off]?
  | none => none

def cellsA : AV → List AV
  | .agg l => l
  | v => [v]

/- A literal's parts, laid over zero cells. -/
def fillA (place : Nat → Option (Nat × Nat)) (cells : List AV) : List (Nat × AV) → Option (List AV)
  | [] => some cells
  | (i, v) :: rest =>
    match place i with
    | none => none
    | some (off, size) =>
      if (cellsA v).length == size && Nat.ble (off + size) cells.length then
        fillA place (cells.take off ++ cellsA v ++ cells.drop (off + size)) rest
      else none

def evs (ev : Operand → Option AV) : List Operand → Option (List AV)
  | [] => some []
  | x :: l => match ev x, evs ev l with
    | some v, some vs => some (v :: vs)
    | _, _ => none

def evPairs (ev : Operand → Option AV) : List (Nat × Operand) → Option (List (Nat × AV))
  | [] => some []
  | (i, x) :: l => match ev x, evPairs ev l with
    | some v, some vs => some ((i, v) :: vs)
    | _, _ => none

def placesA (P : Program) : List Field → Option (List (Nat × Nat))
  | [] => some []
  | f :: fs => match P.info? f.type, placesA P fs with
    | some i, some l => some ((f.offset, i.size) :: l)
    | _, _ => none

def zeroA (P : Program) (t : TypeId) : Option AV :=
  match P.info? t with
  | some i => match i.zero with
    | some v => ofV deep v
    | none => none
  | none => none

def buildA (P : Program) (t : TypeId) (parts : List (Nat × AV)) : Option AV :=
  match zeroA P t with
  | none => none
  | some z =>
    match P.underlying t with
    | some (.struct fs) => match placesA P fs.toList with
      | some ps => match fillA (ps[·]?) (cellsA z) parts with
        | some l => some (.agg l)
        | none => none
      | none => none
    | some (.array _ elem) => match P.info? elem with
      | some i => match fillA (fun k => some (k * i.size, i.size)) (cellsA z) parts with
        | some l => some (.agg l)
        | none => none
      | none => none
    | _ => none

/- A bound of a slice expression. -/
def boundA (y : Nat) : Option AV → Option Nat
  | some (.int _ (.ofNat i)) => if Nat.ble i y then some i else none
  | _ => none

/- low, high, max: each given or not. -/
def boundsA (len cap : Nat) (ev : Operand → Option AV) (lo hi mx : Option Operand) : Option (Nat × Nat × Nat) :=
  match (match mx with | some x => boundA cap (ev x) | none => some cap) with
  | none => none
  | some m =>
    match (match hi with | some x => boundA m (ev x) | none => if mx.isSome then none else some len) with
    | none => none
    | some h =>
      match (match lo with | some x => boundA h (ev x) | none => some 0) with
      | none => none
      | some l => some (l, h, m)

def sliceA (P : Program) (t : TypeId) (x : AV) (ev : Operand → Option AV) (lo hi mx : Option Operand) : Option AV :=
  match P.underlying t, x with
  | some .string, .str s =>
    if mx.isSome then none else
    match boundsA s.length s.length ev lo hi none with
    | some (l, h, _) => some (.str ((s.take h).drop l))
    | none => none
  | some (.slice elem), .slice a len cap op =>
    match P.info? elem with
    | none => none
    | some i =>
      match boundsA len cap ev lo hi mx with
      | none => none
      | some (l, h, m) =>
        match a with
        | none => some (.slice none (h - l) (m - l) false)
        | some (id, o) =>
          if mx.isSome || !op then
            if m == l then some (.slice (some (id, o)) (h - l) (m - l) false)
            else some (.slice (some (id, o + l * i.size)) (h - l) (m - l) false)
          else if !(Nat.ble h m) then none
          else if m == l then (if l == 0 then some (.slice (some (id, o)) 0 0 true) else none)
          else some (.slice (some (id, o + l * i.size)) (h - l) (m - l) true)
  | some (.array n elem), .ptr (some (id, o)) =>
    match P.info? elem with
    | none => none
    | some i =>
      match boundsA n n ev lo hi mx with
      | none => none
      | some (l, h, m) => if m == l then some (.slice (some (id, o)) (h - l) (m - l) false)
        else some (.slice (some (id, o + l * i.size)) (h - l) (m - l) false)
  | _, _ => none

def idxA : Option AV → Option Nat
  | some (.int _ (.ofNat i)) => some i
  | _ => none

def lenA (P : Program) (t : TypeId) (x : AV) : Option Nat :=
  match P.underlying t, x with
  | some .string, .str s => some s.length
  | some (.array n _), _ => some n
  | some (.slice _), .slice _ n _ _ => some n
  | some (.map _ _), .map none => some 0
  | _, _ => none

abbrev Ev := Operand → Option AV

def pPick (ev : Ev) (c a b : Operand) : Option AV :=
  match ev c with
  | some (.bool true) => ev a
  | some (.bool false) => ev b
  | _ => none

def pBin (P : Program) (ev : Ev) (op : BinOp) (t : TypeId) (x y : Operand) : Option AV :=
  match ev x, ev y with
  | some a, some b => binA P op t x y a b
  | _, _ => none

def pUn (ev : Ev) (op : UnOp) (x : Operand) : Option AV :=
  match ev x with
  | some a => unA op a
  | none => none

def pConv (P : Program) (ev : Ev) (dst : TypeId) (x : Operand) : Option AV :=
  match P.underlying dst, ev x with
  | some (.int k), some (.int _ n) => some (.int k (wrapA k n))
  | some .string, some (.str s) => some (.str s)
  | _, _ => none

def pIface (P : Program) (ev : Ev) (t : TypeId) (x : Operand) : Option AV :=
  match P.underlying t, ev x with
  | some (.interface _), _ => none
  | some _, some v => some (.iface t v)
  | _, _ => none

def pFunc (ev : Ev) (fn : Fn) (first captured : Array Operand) : Option AV :=
  match evs ev first.toList, evs ev captured.toList with
  | some a, some b => some (.func fn a b)
  | _, _ => none

def pField (P : Program) (ev : Ev) (t : TypeId) (x : Operand) (f : Nat) : Option AV :=
  match P.underlying t, ev x with
  | some (.struct fs), some (.agg cs) => match fs[f]? with
    | some fd => partA P fd.type cs fd.offset
    | none => none
  | _, _ => none

def pExtract (ev : Ev) (x : Operand) (i : Nat) : Option AV :=
  match ev x with
  | some (.tuple l) => l[i]?
  | _ => none

def pNil (ev : Ev) (x : Operand) : Option AV :=
  match ev x with
  | some (.ptr (some a)) => some (.ptr (some a))
  | some (.func (.func f) a b) => some (.func (.func f) a b)
  | _ => none

def pFieldAddr (P : Program) (ev : Ev) (t : TypeId) (x : Operand) (f : Nat) : Option AV :=
  match P.underlying t, ev x with
  | some (.struct fs), some (.ptr (some (id, o))) => match fs[f]? with
    | some fd => match P.info? fd.type with
      | some i => match Nat.beq i.size 0 with
        | true => none
        | false => some (.ptr (some (id, o + fd.offset)))
      | none => none
    | none => none
  | _, _ => none

def pIndexAddr (P : Program) (ev : Ev) (t : TypeId) (x ix : Operand) : Option AV :=
  match P.underlying t, ev x, idxA (ev ix) with
  | some (.slice elem), some (.slice (some (id, o)) len _ _), some i => match P.info? elem with
    | some e => match Nat.blt i len with
      | true => some (.ptr (some (id, o + i * e.size)))
      | false => none
    | none => none
  | some (.array len elem), some (.ptr (some (id, o))), some i => match P.info? elem with
    | some e => match Nat.blt i len with
      | true => some (.ptr (some (id, o + i * e.size)))
      | false => none
    | none => none
  | _, _, _ => none

def pIndex (P : Program) (ev : Ev) (t : TypeId) (x ix : Operand) : Option AV :=
  match P.underlying t, ev x, idxA (ev ix) with
  | some .string, some (.str s), some i => match s[i]? with
    | some b => some (.int .u8 b.toNat)
    | none => none
  | some (.array len elem), some (.agg cs), some i => match P.info? elem with
    | some e => match Nat.blt i len with
      | true => partA P elem cs (i * e.size)
      | false => none
    | none => none
  | _, _, _ => none

def pSlice (P : Program) (ev : Ev) (t : TypeId) (x : Operand) (lo hi mx : Option Operand) : Option AV :=
  match ev x with
  | some v => sliceA P t v ev lo hi mx
  | none => none

def pBuild (P : Program) (ev : Ev) (t : TypeId) (parts : Array (Nat × Operand)) : Option AV :=
  match evPairs ev parts.toList with
  | some l => buildA P t l
  | none => none

def pLen (P : Program) (ev : Ev) (ts : Array TypeId) (args : Array Operand) : Option AV :=
  match ts[0]?, args.toList with
  | some t, [x] => match ev x with
    | some v => match lenA P t v with
      | some n => some (.int .i64 n)
      | none => none
    | none => none
  | _, _ => none

def pCap (P : Program) (ev : Ev) (ts : Array TypeId) (args : Array Operand) : Option AV :=
  match ts[0]?, args.toList with
  | some t, [x] => match P.underlying t, ev x with
    | some (.slice _), some (.slice _ _ n false) => some (.int .i64 n)
    | _, _ => none
  | _, _ => none

def pMin (ev : Ev) (args : Array Operand) : Option AV :=
  match args.toList with
  | [x, y] => match ev x, ev y with
    | some (.int k a), some (.int _ b) => some (.int k (if b < a then b else a))
    | _, _ => none
  | _ => none

def pMax (ev : Ev) (args : Array Operand) : Option AV :=
  match args.toList with
  | [x, y] => match ev x, ev y with
    | some (.int k a), some (.int _ b) => some (.int k (if b > a then b else a))
    | _, _ => none
  | _ => none

def pCall (P : Program) (ev : Ev) (c : Call) : Option AV :=
  match c.callee with
  | .builtin .len => pLen P ev c.argTypes c.args
  | .builtin .cap => pCap P ev c.argTypes c.args
  | .builtin .min => pMin ev c.args
  | .builtin .max => pMax ev c.args
  | _ => none

/- Operations that look at no memory. -/
def evalP (P : Program) (ev : Ev) (op : Op) : Option AV :=
  match op with
  | .move x => ev x
  | .assign x => ev x
  | .pick c a b => pPick ev c a b
  | .binOp op t x y _ => pBin P ev op t x y
  | .unOp op _ x => pUn ev op x
  | .convert _ dst x => pConv P ev dst x
  | .makeInterface t x => pIface P ev t x
  | .makeFunc fn first captured => pFunc ev fn first captured
  | .field t x f => pField P ev t x f
  | .extract x i => pExtract ev x i
  | .nilCheck x => pNil ev x
  | .fieldAddr t x f => pFieldAddr P ev t x f
  | .indexAddr t x ix => pIndexAddr P ev t x ix
  | .index t x ix => pIndex P ev t x ix
  | .slice t x lo hi mx => pSlice P ev t x lo hi mx
  | .build t parts => pBuild P ev t parts
  | .call c => pCall P ev c
  | _ => none

/- Cells that are known. -/
def known : List (Option AV) → Option (List AV)
  | [] => some []
  | some v :: l => match known l with
    | some vs => some (v :: vs)
    | none => none
  | none :: _ => none

def bytesOf : List AV → Option (List UInt8)
  | [] => some []
  | .int .u8 n :: l => match bytesOf l with
    | some bs => some (UInt8.ofNat n.toNat :: bs)
    | none => none
  | _ :: _ => none

def rowOf (t : T AObj) (id : Nat) : Option (List (Option AV)) :=
  match t.get id with
  | some o => rowO o
  | none => none

def loadA (P : Program) (ty : TypeId) (t : T AObj) (id o : Nat) : Option AV :=
  match rowOf t id with
  | none => none
  | some l =>
    match P.underlying ty with
    | some (.struct _) | some (.array _ _) => match P.info? ty with
      | some i => match known ((l.drop o).take i.size) with
        | some vs => if vs.length == i.size then some (.agg vs) else none
        | none => none
      | none => none
    | some _ => match l[o]? with
      | some (some v) => some v
      | _ => none
    | none => none

/- A key's entry. -/
def findA (k : AV) : List (AV × AV × Nat) → Nat → Option (Option (Nat × AV))
  | [], _ => some none
  | (x, v, _) :: l, i => match k, x with
    | .int j a, .int j' b => if j = j' then (if a == b then some (some (i, v)) else findA k l (i + 1)) else none
    | .str a, .str b => if eqB a b then some (some (i, v)) else findA k l (i + 1)
    | _, _ => none

def keyed (P : Program) (kt : TypeId) (k : AV) : Bool :=
  match P.underlying kt, k with
  | some (.int _), .int _ _ => true
  | some .string, .str _ => true
  | _, _ => false

def rLoad (P : Program) (ev : Ev) (t : T AObj) (ty : TypeId) (x : Operand) : Option AV :=
  match ev x with
  | some (.ptr (some (id, off))) => loadA P ty t id off
  | _ => none

def bytesIn (t : T AObj) (a : Option (Nat × Nat)) (len : Nat) : Option (List UInt8) :=
  match a with
  | none => some []
  | some (id, off) => match rowOf t id with
    | some l => match known ((l.drop off).take len) with
      | some vs => match bytesOf vs with
        | some bs => match Nat.beq bs.length len with
          | true => some bs
          | false => none
        | none => none
      | none => none
    | none => none

def rConv (P : Program) (ev : Ev) (t : T AObj) (src dst : TypeId) (x : Operand) : Option AV :=
  match P.underlying src, P.underlying dst, ev x with
  | some (.slice e), some .string, some (.slice a len _ _) => match P.underlying e with
    | some (.int .u8) => match bytesIn t a len with
      | some bs => some (.str bs)
      | none => none
    | _ => none
  | _, _, _ => none

def foundA (k : AV) (t : T AObj) (m : Option Nat) : Option (Option (Nat × AV)) :=
  match m with
  | none => some none
  | some id => match t.get id with
    | some (.map l _) => findA k l 0
    | _ => none

def orZero (P : Program) (et : TypeId) (r : Option (Nat × AV)) : Option (AV × Bool) :=
  match r with
  | some (_, v) => some (v, true)
  | none => match zeroA P et with
    | some z => some (z, false)
    | none => none

def rLookup (P : Program) (ev : Ev) (t : T AObj) (mt : TypeId) (x ix : Operand) (ok : Bool) : Option AV :=
  match P.underlying mt, ev x, ev ix with
  | some (.map kt et), some (.map m), some k => match keyed P kt k with
    | false => none
    | true => match foundA k t m with
      | none => none
      | some r => match orZero P et r with
        | some (v, b) => some (if ok then .tuple [v, .bool b] else v)
        | none => none
  | _, _, _ => none

def rLen (P : Program) (ev : Ev) (t : T AObj) (ts : Array TypeId) (args : Array Operand) : Option AV :=
  match ts[0]?, args.toList with
  | some ty, [x] => match P.underlying ty, ev x with
    | some (.map _ _), some (.map (some id)) => match t.get id with
      | some (.map l _) => some (.int .i64 l.length)
      | _ => none
    | some (.map _ _), some (.map none) => some (.int .i64 0)
    | _, _ => none
  | _, _ => none

/- Operations that look at memory, and leave it. -/
def evalR (P : Program) (ev : Ev) (t : T AObj) (op : Op) : Option AV :=
  match op with
  | .load ty x => rLoad P ev t ty x
  | .convert src dst x => rConv P ev t src dst x
  | .lookup mt x ix ok => rLookup P ev t mt x ix ok
  | .call c => match c.callee with
    | .builtin .len => rLen P ev t c.argTypes c.args
    | _ => none
  | _ => none

def aAlloc (P : Program) (id : Nat) (ty : TypeId) : Option (AV × AObj) :=
  match zeroA P ty with
  | some z => some (.ptr (some (id, 0)), .cells ((cellsA z).map some) ty false)
  | none => none

def aBox (ev : Ev) (id : Nat) (ty : TypeId) (x : Operand) : Option (AV × AObj) :=
  match ev x with
  | some v => some (.ptr (some (id, 0)), .cells ((cellsA v).map some) ty false)
  | none => none

def zeros (n : Nat) (z : List AV) : List AV := (List.replicate n z).flatten

def aBuildSlice (P : Program) (ev : Ev) (id : Nat) (ty : TypeId) (len : Nat) (parts : Array (Nat × Operand)) : Option (AV × AObj) :=
  match P.underlying ty with
  | some (.slice elem) => match P.info? elem, zeroA P elem, evPairs ev parts.toList with
    | some i, some z, some l =>
      match Nat.ble (len * i.size) 16777216 && Nat.beq (cellsA z).length i.size && Nat.ble 1 i.size with
      | true => match fillA (fun k => some (k * i.size, i.size)) (zeros len (cellsA z)) l with
        | some cs => some (.slice (some (id, 0)) len len false, .cells (cs.map some) elem false)
        | none => none
      | false => none
    | _, _, _ => none
  | _ => none

def aMakeSlice (P : Program) (ev : Ev) (id : Nat) (ty : TypeId) (l c : Operand) : Option (AV × AObj) :=
  match P.underlying ty, idxA (ev l), idxA (ev c) with
  | some (.slice elem), some n, some m => match P.info? elem, zeroA P elem with
    | some i, some z =>
      match Nat.ble n m && Nat.ble m 1000000 && Nat.ble (i.bytes * m) 281474976710656 && Nat.beq (cellsA z).length i.size && Nat.ble 1 i.size with
      | true => some (.slice (some (id, 0)) n m false, .cells ((zeros m (cellsA z)).map some) elem false)
      | false => none
    | _, _ => none
  | _, _, _ => none

def aConv (P : Program) (ev : Ev) (id : Nat) (src dst : TypeId) (x : Operand) : Option (AV × AObj) :=
  match P.underlying src, P.underlying dst, ev x with
  | some .string, some (.slice e), some (.str s) => match P.underlying e with
    | some (.int .u8) => match P.info? e with
      | some i => match Nat.beq i.size 1 with
        | true => some (.slice (some (id, 0)) s.length s.length true, .cells (s.map fun b => some (.int .u8 b.toNat)) e false)
        | false => none
      | none => none
    | _ => none
  | _, _, _ => none

def aRange (P : Program) (ev : Ev) (id : Nat) (ty : TypeId) (x : Operand) : Option (AV × AObj) :=
  match P.underlying ty, ev x with
  | some .string, some (.str s) => some (.ptr (some (id, 0)), .siter s 0)
  | _, _ => none

/- Operations that make one block: what is named, and what lies there. -/
def evalA (P : Program) (ev : Ev) (id : Nat) (op : Op) : Option (AV × AObj) :=
  match op with
  | .alloc ty => aAlloc P id ty
  | .box ty x => aBox ev id ty x
  | .makeMap _ none => some (.map (some id), .map [] 0)
  | .buildSlice ty len parts => aBuildSlice P ev id ty len parts
  | .makeSlice ty l c => aMakeSlice P ev id ty l c
  | .convert src dst x => aConv P ev id src dst x
  | .range ty x => aRange P ev id ty x
  | _ => none

def K : Nat := 40

/- What is appended: how many, and which cells. -/
def appendedA (P : Program) (t : T AObj) (elem : TypeId) (xt : Option TypeId) (x : AV) (i : TypeInfo) : Option (Nat × List AV) :=
  match (match xt with | some ty => P.underlying ty | none => none), x with
  | some (.int _), .int _ (.ofNat n) => match zeroA P elem with
    | some z => match Nat.beq (cellsA z).length i.size && Nat.ble n 10000000 && Nat.ble (n * i.bytes) 281474976710656 && Nat.ble 1 i.size with
      | true => some (n, zeros n (cellsA z))
      | false => none
    | none => none
  | some (.int _), _ => none
  | _, .str s => match Nat.beq i.size 1 with
    | true => some (s.length, s.map fun b => .int .u8 b.toNat)
    | false => none
  | _, .slice none n _ _ => match Nat.beq n 0 with
    | true => some (0, [])
    | false => none
  | _, .slice (some (id, o)) n _ _ => match rowOf t id with
    | some l => match known ((l.drop o).take (n * i.size)) with
      | some vs => match Nat.beq vs.length (n * i.size) with
        | true => some (n, vs)
        | false => none
      | none => none
    | none => none
  | _, _ => none

def oneA : AV → Bool
  | .agg _ | .tuple _ => false
  | _ => true

def setRowO (l : List (Option AV)) (o : Nat) (vs : List AV) : Option (List (Option AV)) :=
  match Nat.ble (o + vs.length) l.length && vs.all oneA with
  | true => some (l.take o ++ vs.map some ++ l.drop (o + vs.length))
  | false => none

abbrev WRes := Option (AV × T AObj × Nat)

/- Cells written into a row that may be written. -/
def writeA (t : T AObj) (id off : Nat) (vs : List AV) : Option (T AObj) :=
  match t.get id with
  | some (.cells l e false) => match setRowO l off vs with
    | some l' => T.put K t id (some (.cells l' e false))
    | none => none
  | _ => none

def wStore (P : Program) (ev : Ev) (t : T AObj) (n : Nat) (ty : TypeId) (x v : Operand) : WRes :=
  match ev x, ev v with
  | some (.ptr (some (id, off))), some u => match P.info? ty with
    | some i => match Nat.beq (cellsA u).length i.size with
      | true => match writeA t id off (cellsA u) with
        | some t' => some (.tuple [], t', n)
        | none => none
      | false => none
    | none => none
  | _, _ => none

def mapPut (k u : AV) (l : List (AV × AV × Nat)) (clock : Nat) : Option AObj :=
  match findA k l 0 with
  | some (some (i, _)) => match l[i]? with
    | some (k', _, b) => some (.map (l.set i (k', u, b)) clock)
    | none => none
  | some none => some (.map (l ++ [(k, u, clock)]) (clock + 1))
  | none => none

def wMap (P : Program) (ev : Ev) (t : T AObj) (n : Nat) (mt : TypeId) (x ix v : Operand) : WRes :=
  match P.underlying mt, ev x, ev ix, ev v with
  | some (.map kt _), some (.map (some id)), some k, some u => match t.get id, keyed P kt k with
    | some (.map l clock), true => match mapPut k u l clock with
      | some o => match T.put K t id (some o) with
        | some t' => some (.tuple [], t', n)
        | none => none
      | none => none
    | _, _ => none
  | _, _, _, _ => none

def wNext (ev : Ev) (t : T AObj) (n : Nat) (x : Operand) (isStr : Bool) : WRes :=
  match ev x, isStr with
  | some (.ptr (some (id, 0))), true => match t.get id with
    | some (.siter s pos) => match Nat.blt pos s.length with
      | true => match T.put K t id (some (.siter s (pos + (Utf8.decode ⟨s.toArray⟩ pos).2))) with
        | some t' => some (.tuple [.bool true, .int .i64 pos, .int .i32 (Utf8.decode ⟨s.toArray⟩ pos).1], t', n)
        | none => none
      | false => some (.tuple [.bool false], t, n)
    | _ => none
  | _, _ => none

def wSame (P : Program) (ev : Ev) (t : T AObj) (n : Nat) (src dst : TypeId) (x : Operand) : WRes :=
  match P.underlying src, P.underlying dst, ev x with
  | some (.slice _), some (.slice e), some (.slice (some (id, o)) l c op) => match Nat.beq src dst, P.underlying e, t.get id with
    | true, some (.int .u8), some (.cells _ _ _) => some (.slice (some (id, o)) l c op, t, n)
    | _, _, _ => none
  | _, _, _ => none

/- A row that grows: the cells that there were, and the new ones. -/
def growA (t : T AObj) (n : Nat) (elem : TypeId) (size : Nat) (base : Option (Nat × Nat)) (len cap : Nat) (op : Bool) (need : Nat) (cs : List AV) : WRes :=
  match base with
  | none => match Nat.beq len 0 with
    | true => match T.put K t n (some (.cells (cs.map some) elem false)) with
      | some t' => some (.slice (some (n, 0)) need need true, t', n + 1)
      | none => none
    | false => none
  | some (id, off) => match t.get id with
    | some (.cells l e frz) => match known ((l.drop off).take (len * size)) with
      | some old => match Nat.beq old.length (len * size), op with
        | true, false => match T.put K t n (some (.cells ((old ++ cs).map some) elem false)) with
          | some t' => some (.slice (some (n, 0)) need need true, t', n + 1)
          | none => none
        | true, true => match !frz && Nat.beq e elem && Nat.beq (off + cap * size) l.length && cs.all oneA with
          | true => match T.put K t id none with
            | some t₁ => match T.put K t₁ n (some (.cells ((old ++ cs).map some) elem false)) with
              | some t' => some (.slice (some (n, 0)) need need true, t', n + 1)
              | none => none
            | none => none
          | false => none
        | false, _ => none
      | none => none
    | _ => none

def zeroFits (P : Program) (elem : TypeId) (size : Nat) : Bool :=
  match zeroA P elem with
  | some z => Nat.beq (cellsA z).length size
  | none => false

def appendA (P : Program) (t : T AObj) (n : Nat) (elem : TypeId) (i : TypeInfo) (base : Option (Nat × Nat)) (len cap : Nat) (op : Bool) (k : Nat) (cs : List AV) : WRes :=
  match Nat.ble (len + k) cap with
  | true => match base with
    | none => some (.slice none (len + k) cap false, t, n)
    | some (id, off) => match writeA t id (off + len * i.size) cs with
      | some t' => some (.slice (some (id, off)) (len + k) cap op, t', n)
      | none => none
  | false => match Nat.ble (len + k) 281474976710656 && Nat.ble ((2 * (len + k) + 1000) * i.bytes) 281474976710656 && Nat.ble 1 i.size && zeroFits P elem i.size with
    | true => growA t n elem i.size base len cap op (len + k) cs
    | false => none

def wAppend (P : Program) (ev : Ev) (t : T AObj) (n : Nat) (ts : Array TypeId) (args : Array Operand) : WRes :=
  match ts[0]?, args.toList with
  | some st, [x, y] => match P.underlying st, ev x, ev y with
    | some (.slice elem), some (.slice base len cap op), some u => match P.info? elem with
      | none => none
      | some i => match appendedA P t elem ts[1]? u i with
        | none => none
        | some (k, cs) => appendA P t n elem i base len cap op k cs
    | _, _, _ => none
  | _, _ => none

def wCopy (P : Program) (ev : Ev) (t : T AObj) (n : Nat) (ts : Array TypeId) (args : Array Operand) : WRes :=
  match ts[0]?, args.toList with
  | some dt, [x, y] => match P.underlying dt, ev x, ev y with
    | some (.slice elem), some (.slice base dLen _ _), some u => match P.info? elem with
      | none => none
      | some i => match appendedA P t elem none u i with
        | none => none
        | some (k, cs) => match base with
          | none => some (.int .i64 (Nat.min k dLen), t, n)
          | some (id, off) => match writeA t id off (cs.take (Nat.min k dLen * i.size)) with
            | some t' => some (.int .i64 (Nat.min k dLen), t', n)
            | none => none
    | _, _, _ => none
  | _, _ => none

def wDelete (P : Program) (ev : Ev) (t : T AObj) (n : Nat) (ts : Array TypeId) (args : Array Operand) : WRes :=
  match ts[0]?, args.toList with
  | some mt, [x, y] => match P.underlying mt, ev x, ev y with
    | some (.map kt _), some (.map (some id)), some k => match t.get id, keyed P kt k with
      | some (.map l clock), true => match findA k l 0 with
        | some (some (i, _)) => match T.put K t id (some (.map (l.eraseIdx i) clock)) with
          | some t' => some (.tuple [], t', n)
          | none => none
        | some none => some (.tuple [], t, n)
        | none => none
      | _, _ => none
    | _, _, _ => none
  | _, _ => none

/- Operations that turn memory. -/
def evalW (P : Program) (ev : Ev) (t : T AObj) (n : Nat) (op : Op) : WRes :=
  match op with
  | .store ty x v => wStore P ev t n ty x v
  | .mapUpdate mt x ix v => wMap P ev t n mt x ix v
  | .next x isStr => wNext ev t n x isStr
  | .convert src dst x => wSame P ev t n src dst x
  | .call c => match c.callee with
    | .builtin .append => wAppend P ev t n c.argTypes c.args
    | .builtin .copy => wCopy P ev t n c.argTypes c.args
    | .builtin .delete => wDelete P ev t n c.argTypes c.args
    | _ => none
  | _ => none

/- Library functions without a text. -/
inductive Ext where
  | indexByte | count | compare | noEscape | makeNoZero

def findB (c : Nat) : List UInt8 → Nat → Int
  | [], _ => -1
  | b :: l, i => if b.toNat == c then .ofNat i else findB c l (i + 1)

def countB (c : Nat) : List UInt8 → Nat → Nat
  | [], n => n
  | b :: l, n => countB c l (if b.toNat == c then n + 1 else n)

def evalX (x : Ext) (args : List AV) (t : T AObj) (n : Nat) : Option (AV × T AObj × Nat) :=
  match x, args with
  | .indexByte, [.str s, .int .u8 c] => some (.int .i64 (findB (UInt8.ofNat c.toNat).toNat s 0), t, n)
  | .count, [.str s, .int .u8 c] => some (.int .i64 (countB (UInt8.ofNat c.toNat).toNat s 0), t, n)
  | .compare, [.str a, .str b] => some (.int .i64 (if lessB a b then -1 else if eqB a b then 0 else 1), t, n)
  | .noEscape, [x] => some (x, t, n)
  | _, _ => none

/- A method of a value behind an interface. -/
def methodA (P : Program) (t : TypeId) (v : AV) (name : String) (args : List AV) : Option (Nat × List AV) :=
  match P.info? t with
  | some i => match i.methods.find? (·.name == name) with
    | some m => match m.path.toList, m.func, P.underlying t with
      | [], some (f, true), some (.pointer _) => some (f, v :: args)
      | [], some (_, false), some (.pointer _) => none
      | [], some (f, false), some _ => some (f, v :: args)
      | _, _, _ => none
    | none => none
  | none => none

/- A call's function and arguments. -/
def calleeA (P : Program) (ev : Ev) (c : Call) : Option (Nat × List AV) :=
  match evs ev c.args.toList with
  | none => none
  | some args =>
    match c.callee with
    | .value f => match ev f with
      | some (.func (.func g) first captured) => some (g, first ++ args ++ captured)
      | _ => none
    | .invoke recv name => match ev recv with
      | some (.iface t v) => methodA P t v name args
      | _ => none
    | .builtin _ => none

inductive Ex where
  | normal | exit (id : Nat) | goto (l : Nat) | ret

structure St where
  tmps : T AV
  heap : T AObj
  next : Nat

/- What a guard's operation has yielded: none: it can't be told. -/
def yieldA (ops : Array Oper) (τ : T AV) (j : Nat) : Option (Option Bool) :=
  match ops[j]? with
  | some o => match o.dst with
    | some d => match τ.get d with
      | some (.bool b) => some (some b)
      | some (.tuple []) => some none
      | _ => none
    | none => some none
  | none => some none

def wantedA (ops : Array Oper) (τ : T AV) (o : Oper) : Option Bool :=
  match o.guard with
  | none => some true
  | some (j, want) => match yieldA ops τ j with
    | some (some b) => some (b == want)
    | some none => some false
    | none => none

def putA (nt : Nat) (τ : T AV) (dst : Option Tmp) (v : AV) : Option (T AV) :=
  match dst with
  | none => some τ
  | some d => if Nat.blt d nt then T.put K τ d (some v) else none

def oneRes (P : Program) (st : St) (r : ResultVar) : Option AV :=
  match r with
  | .tmp t => st.tmps.get t
  | .cell a ty => match st.tmps.get a with
    | some (.ptr (some (id, o))) => loadA P ty st.heap id o
    | _ => none

def allRes (P : Program) (st : St) : List ResultVar → Option (List AV)
  | [] => some []
  | r :: l => match oneRes P st r with
    | some v => match allRes P st l with
      | some vs => some (v :: vs)
      | none => none
    | none => none

def resA (fn : Func) (st : St) (P : Program) : Option AV :=
  match allRes P st fn.results.toList with
  | some [v] => some v
  | some vs => some (.tuple vs)
  | none => none

def argTmps : Nat → List AV → T AV → Option (T AV)
  | _, [], τ => some τ
  | i, v :: l, τ => match T.put K τ i (some v) with
    | some τ' => argTmps (i + 1) l τ'
    | none => none

abbrev CallFn := Nat → List AV → T AObj → Nat → Option (AV × T AObj × Nat)

/- Operations on values that have but names. -/
def segsOf : AV → Option (List Seg)
  | .str s => some [.lit s]
  | .scat l => some l
  | _ => none

def consSeg (s : Seg) (l : List Seg) : List Seg :=
  match s, l with
  | .lit [], l => l
  | .lit x, .lit y :: l => .lit (x ++ y) :: l
  | s, l => s :: l

def catSegs (a b : List Seg) : List Seg := a.foldr consSeg b

def strOf (l : List Seg) : AV :=
  match l with
  | [] => .str []
  | [.lit s] => .str s
  | l => .scat l

/- A text's length lies between. -/
def lenRng (G : Cfg) : List Seg → Option (Int × Int)
  | [] => some (0, 0)
  | .lit s :: l => match lenRng G l with
    | some (a, b) => some (s.length + a, s.length + b)
    | none => none
  | .var n :: l => match G.rng n, lenRng G l with
    | some (x, y), some (a, b) => some (x + a, y + b)
    | _, _ => none

def strEq (G : Cfg) (a b : List Seg) : Option Bool :=
  if eqSegs a b then some true else
  match lenRng G a, lenRng G b with
  | some (al, ah), some (bl, bh) =>
    if ah < bl || bh < al then some false else
    match a, b with
    | [.var n], [.lit s] => if (G.ne n).any (eqB s) then some false else none
    | [.lit s], [.var n] => if (G.ne n).any (eqB s) then some false else none
    | _, _ => none
  | _, _ => none

def linOf : AV → Option (IntKind × Int × Int × Nat)
  | .int k c => some (k, c, 0, 0)
  | .lin k c m n => some (k, c, m, n)
  | _ => none

/- Between what c + m * x lies. -/
def linRng (G : Cfg) (c m : Int) (n : Nat) : Option (Int × Int) :=
  if m == 0 then some (c, c) else
  match G.rng n with
  | some (a, b) => if 0 < m then some (c + m * a, c + m * b) else some (c + m * b, c + m * a)
  | none => none

def linMk (G : Cfg) (k : IntKind) (c m : Int) (n : Nat) : Option AV :=
  match linRng G c m n with
  | some (a, b) => if fits k a && fits k b then (if m == 0 then some (.int k c) else some (.lin k c m n)) else none
  | none => none

def linCmp (G : Cfg) (op : BinOp) (c m : Int) (n : Nat) : Option Bool :=
  match linRng G c m n with
  | some (a, b) => match op with
    | .lss => if b < 0 then some true else if 0 ≤ a then some false else none
    | .leq => if b ≤ 0 then some true else if 0 < a then some false else none
    | .gtr => if 0 < a then some true else if b ≤ 0 then some false else none
    | .geq => if 0 ≤ a then some true else if b < 0 then some false else none
    | .eql => if b < 0 || 0 < a then some false else if m == 0 && c == 0 then some true else none
    | .neq => if b < 0 || 0 < a then some true else if m == 0 && c == 0 then some false else none
    | _ => none
  | none => none

def linBin (G : Cfg) (op : BinOp) (k : IntKind) (c m : Int) (n : Nat) (d p : Int) (q : Nat) : Option AV :=
  if !(m == 0 || p == 0 || Nat.beq n q) then none else
  let v := if m == 0 then q else n
  match op with
  | .add => linMk G k (c + d) (m + p) v
  | .sub => linMk G k (c - d) (m - p) v
  | op => match linCmp G op (c - d) (m - p) v with
    | some b => some (.bool b)
    | none => none

def symBin (G : Cfg) (op : BinOp) (a b : AV) : Option AV :=
  match segsOf a, segsOf b with
  | some x, some y => match op with
    | .add => match lenRng G x, lenRng G y with
      | some (_, h), some (_, h') => if h + h' ≤ 9223372036854775807 then some (strOf (catSegs x y)) else none
      | _, _ => none
    | .eql => match strEq G x y with
      | some r => some (.bool r)
      | none => none
    | .neq => match strEq G x y with
      | some r => some (.bool (!r))
      | none => none
    | _ => none
  | _, _ => match linOf a, linOf b with
    | some (k, c, m, n), some (l, d, p, q) => if k = l then linBin G op k c m n d p q else none
    | _, _ => none

/- A text's length: of one name at most. -/
def lenSegs : List Seg → Option (Int × Int × Nat)
  | [] => some (0, 0, 0)
  | .lit s :: l => match lenSegs l with
    | some (c, m, n) => some (c + s.length, m, n)
    | none => none
  | .var k :: l => match lenSegs l with
    | some (c, m, n) => if m == 0 || Nat.beq n k then some (c, m + 1, k) else none
    | none => none

def symLen (P : Program) (G : Cfg) (t : TypeId) (x : AV) : Option AV :=
  match P.underlying t, x with
  | some .string, .scat l => match lenSegs l with
    | some (c, m, n) => linMk G .i64 c m n
    | none => none
  | some (.slice _), .sym n => if G.sl n then linMk G .i64 0 1 n else none
  | _, _ => none

def symP (P : Program) (G : Cfg) (ev : Ev) (op : Op) : Option AV :=
  match op with
  | .binOp op _ x y _ => match ev x, ev y with
    | some a, some b => symBin G op a b
    | _, _ => none
  | .call c => match c.callee with
    | .builtin .len => match c.argTypes[0]?, c.args.toList with
      | some t, [x] => match ev x with
        | some a => symLen P G t a
        | none => none
      | _, _ => none
    | _ => none
  | _ => none

def evalPS (P : Program) (G : Cfg) (ev : Ev) (op : Op) : Option AV :=
  match evalP P ev op with
  | some v => some v
  | none => symP P G ev op

/- What kind of operation it is: 0 looks at no memory, 1 looks, 2 makes a block, 3 turns memory, 4 calls. -/
def kindOf (P : Program) (o : Op) : Nat :=
  match o with
  | .load .. | .lookup .. => 1
  | .alloc .. | .box .. | .makeMap .. | .buildSlice .. | .makeSlice .. | .range .. => 2
  | .store .. | .mapUpdate .. | .next .. => 3
  | .convert src dst _ => match P.underlying src, P.underlying dst with
    | some (.slice _), some .string => 1
    | some .string, some (.slice _) => 2
    | some (.slice _), some (.slice _) => 3
    | _, _ => 0
  | .call c => match c.callee with
    | .builtin .len => match c.argTypes[0]? with
      | some t => match P.underlying t with
        | some (.map _ _) => 1
        | _ => 0
      | none => 0
    | .builtin .append | .builtin .copy | .builtin .delete => 3
    | .builtin _ => 0
    | _ => 4
  | _ => 0

def finV (nt : Nat) (st : St) (dst : Option Tmp) (r : Option AV) : Option St :=
  match r with
  | some v => match putA nt st.tmps dst v with
    | some τ => some { st with tmps := τ }
    | none => none
  | none => none

def finA (nt : Nat) (st : St) (dst : Option Tmp) (r : Option (AV × AObj)) : Option St :=
  match r with
  | some (v, x) => match T.put K st.heap st.next (some x), putA nt st.tmps dst v with
    | some h, some τ => some { tmps := τ, heap := h, next := st.next + 1 }
    | _, _ => none
  | none => none

def finW (nt : Nat) (st : St) (dst : Option Tmp) (r : WRes) : Option St :=
  match r with
  | some (v, h, n) => match putA nt st.tmps dst v with
    | some τ => some { tmps := τ, heap := h, next := n }
    | none => none
  | none => none

def evalCall (P : Program) (G : Cfg) (call : CallFn) (op : Op) (st : St) : WRes :=
  match op with
  | .call c => match calleeA P (opd G st.tmps) c with
    | some (f, args) => call f args st.heap st.next
    | none => none
  | _ => none

/- One operation, in a region that draws no order. -/
def evalO (P : Program) (G : Cfg) (call : CallFn) (nt : Nat) (o : Oper) (st : St) : Option St :=
  match kindOf P o.op with
  | 0 => finV nt st o.dst (evalPS P G (opd G st.tmps) o.op)
  | 1 => finV nt st o.dst (evalR P (opd G st.tmps) st.heap o.op)
  | 2 => finA nt st o.dst (evalA P (opd G st.tmps) st.next o.op)
  | 3 => finW nt st o.dst (evalW P (opd G st.tmps) st.heap st.next o.op)
  | _ => finW nt st o.dst (evalCall P G call o.op st)

def evalOs (P : Program) (G : Cfg) (call : CallFn) (nt : Nat) (ops : Array Oper) : List Oper → St → Option St
  | [], st => some st
  | o :: l, st => match wantedA ops st.tmps o with
    | some true => match evalO P G call nt o st with
      | some st' => evalOs P G call nt ops l st'
      | none => none
    | some false => match putA nt st.tmps o.dst (.tuple []) with
      | some τ => evalOs P G call nt ops l { st with tmps := τ }
      | none => none
    | none => none

/- One operation of a region, done or passed over. -/
def stepA (P : Program) (G : Cfg) (call : CallFn) (nt : Nat) (ops : Array Oper) (o : Oper) (st : St) : Option St :=
  match wantedA ops st.tmps o with
  | some true => evalO P G call nt o st
  | some false => match putA nt st.tmps o.dst (.tuple []) with
    | some τ => some { st with tmps := τ }
    | none => none
  | none => none

/- The states ahead of the operations, in the text's order, and the last one. -/
def evalTr (P : Program) (G : Cfg) (call : CallFn) (nt : Nat) (ops : Array Oper) : List Oper → St → Option (List St × St)
  | [], st => some ([st], st)
  | o :: l, st => match stepA P G call nt ops o st with
    | some st' => match evalTr P G call nt ops l st' with
      | some (r, e) => some (st :: r, e)
      | none => none
    | none => none

inductive Work where
  | code (c : Code)
  | jump (a : Code) (l : Nat)

/- A region whose order is drawn: what must come ahead of what. Of each operation, the ones that come ahead of it in every order, as a number's bits. -/
def ancOf (acc : List Nat) (es : List Edge) : Nat :=
  es.foldl (fun s e => if Region.binds .any e then s ||| 2 ^ e.on ||| acc.getD e.on 0 else s) 0

def ancsGo : List Oper → List Nat → List Nat
  | [], acc => acc
  | o :: l, acc => ancsGo l (acc ++ [ancOf acc o.after.toList])

def readsOf (ops : Array Oper) (o : Oper) : List Nat :=
  (o.op.operands.toList.filterMap fun | .tmp t => some t | _ => none) ++
  (match o.guard with
   | some (g, _) => match ops[g]? with
     | some p => p.dst.toList
     | none => []
   | none => [])

def inL (d : Option Nat) (l : List Nat) : Bool :=
  match d with
  | some d => l.any (Nat.beq d)
  | none => false

def sameDst (a b : Option Nat) : Bool :=
  match a, b with
  | some a, some b => Nat.beq a b
  | _, _ => false

/- j stands ahead of i in the text: must it be ahead in every order, and is it? -/
def pairOk (kj ki : Nat) (rj ri : List Nat) (dj di : Option Nat) (ahead : Bool) : Bool :=
  !(sameDst dj di) && (ahead || !((Nat.ble 3 ki && Nat.ble 2 kj) || inL dj ri || inL di rj))

structure OpSum where
  kind : Nat
  reads : List Nat
  dst : Option Nat
  anc : Nat

def sums (P : Program) (ops : Array Oper) : List Oper → List Nat → List OpSum
  | o :: l, a :: as => ⟨kindOf P o.op, readsOf ops o, o.dst, a⟩ :: sums P ops l as
  | _, _ => []

def rowOk (x : OpSum) : List OpSum → Nat → Bool
  | [], _ => true
  | y :: l, j => pairOk y.kind x.kind y.reads x.reads y.dst x.dst (x.anc.testBit j) && rowOk x l (j + 1)

def pairsOk (done : List OpSum) : List OpSum → Bool
  | [] => true
  | x :: l => rowOk x done 0 && pairsOk (done ++ [x]) l

def edgesOk : List Oper → Nat → Bool
  | [], _ => true
  | o :: l, i => (o.after.toList.all fun e => !(Region.binds .any e) || Nat.blt e.on i) && edgesOk l (i + 1)

def drawOk (P : Program) (ops : Array Oper) : Bool :=
  edgesOk ops.toList 0 && pairsOk [] (sums P ops ops.toList (ancsGo ops.toList []))

def typedB (P : Program) (op : Op) : Bool :=
  match op with
  | .convert src _ _ => (P.underlying src).isSome
  | .call c => match c.argTypes[1]? with
    | some ty => (P.underlying ty).isSome
    | none => true
  | _ => true

def regOk (P : Program) (ops : Array Oper) (draw : Bool) : Bool :=
  (ops.toList.all fun o => typedB P o.op) && (!draw || drawOk P ops)

mutual
def eqAV : AV → AV → Bool
  | .bool a, .bool b => a == b
  | .int k a, .int l b => decide (k = l) && decide (a = b)
  | .str a, .str b => eqB a b
  | .ptr none, .ptr none => true
  | .ptr (some (i, o)), .ptr (some (j, p)) => Nat.beq i j && Nat.beq o p
  | .slice none l c o, .slice none m d p => Nat.beq l m && Nat.beq c d && (o == p)
  | .slice (some (i, q)) l c o, .slice (some (j, r)) m d p => Nat.beq i j && Nat.beq q r && Nat.beq l m && Nat.beq c d && (o == p)
  | .map none, .map none => true
  | .map (some i), .map (some j) => Nat.beq i j
  | .func (.func f) a b, .func (.func g) c d => Nat.beq f g && eqAVs a c && eqAVs b d
  | .nilFunc, .nilFunc => true
  | .iface s a, .iface t b => Nat.beq s t && eqAV a b
  | .nilIface, .nilIface => true
  | .agg a, .agg b => eqAVs a b
  | .tuple a, .tuple b => eqAVs a b
  | .sym m, .sym n => Nat.beq m n
  | .scat a, .scat b => eqSegs a b
  | .lin k c m n, .lin l d p q => decide (k = l) && decide (c = d) && decide (m = p) && Nat.beq n q
  | _, _ => false
def eqAVs : List AV → List AV → Bool
  | [], [] => true
  | a :: x, b :: y => eqAV a b && eqAVs x y
  | _, _ => false
end

def sameR (r : Option AV) (v : AV) : Bool :=
  match r with
  | some u => eqAV u v
  | none => false

/- A look at memory yields the same at every stage at which it may be done. -/
def readOk (P : Program) (G : Cfg) (ss : List OpSum) (tr : List St) (n : Nat) (o : Oper) (i anc : Nat) (st : St) : Bool :=
  match evalR P (opd G st.tmps) st.heap o.op with
  | none => false
  | some v => (List.range n).all fun m => match ss[m]? with
    | none => true
    | some s => match Nat.blt m i with
      | true => Nat.ble s.kind 1 || anc.testBit m || match tr[m]? with
        | some stm => sameR (evalR P (opd G st.tmps) stm.heap o.op) v
        | none => false
      | false => Nat.ble s.kind 2 || s.anc.testBit i || match tr[m + 1]? with
        | some stm => sameR (evalR P (opd G st.tmps) stm.heap o.op) v
        | none => false

def readsOk (P : Program) (G : Cfg) (ops : Array Oper) (tr : List St) : Bool :=
  let ss := sums P ops ops.toList (ancsGo ops.toList [])
  (List.range ops.size).all fun i => match ss[i]?, ops[i]?, tr[i]? with
    | some s, some o, some st => match Nat.beq s.kind 1 with
      | true => match wantedA ops st.tmps o with
        | some true => readOk P G ss tr ops.size o i s.anc st
        | _ => true
      | false => true
    | _, _, _ => false

def evalReg (P : Program) (G : Cfg) (call : CallFn) (nt : Nat) (ops : Array Oper) (draw : Bool) (st : St) : Option St :=
  match draw with
  | false => evalOs P G call nt ops ops.toList st
  | true => match evalTr P G call nt ops ops.toList st with
    | some (tr, st') => match readsOk P G ops tr with
      | true => some st'
      | false => none
    | none => none

def evalC (P : Program) (G : Cfg) (call : CallFn) (nt : Nat) : Nat → Work → St → Option (Ex × St)
  | 0, _, _ => none
  | fuel + 1, .jump a l, st => match findLabel a l with
    | some rest => match evalC P G call nt fuel (.code rest) st with
      | some (.goto l', st') => evalC P G call nt fuel (.jump a l') st'
      | r => r
    | none => none
  | fuel + 1, .code c, st =>
    match c with
    | .skip => some (.normal, st)
    | .label _ => some (.normal, st)
    | .exit id => some (.exit id, st)
    | .goto l => some (.goto l, st)
    | .ret => some (.ret, st)
    | .region _ ops draw => match regOk P ops draw with
      | true => match evalReg P G call nt ops draw st with
        | some st' => some (.normal, st')
        | none => none
      | false => none
    | .seq a b => match evalC P G call nt fuel (.code a) st with
      | some (.normal, st') => evalC P G call nt fuel (.code b) st'
      | r => r
    | .cond x a b => match opd G st.tmps x with
      | some (.bool true) => evalC P G call nt fuel (.code a) st
      | some (.bool false) => evalC P G call nt fuel (.code b) st
      | _ => none
    | .block id a => match evalC P G call nt fuel (.code a) st with
      | some (.exit j, st') => if j = id then some (.normal, st') else some (.exit j, st')
      | r => r
    | .loop a => match evalC P G call nt fuel (.code a) st with
      | some (.normal, st') => evalC P G call nt fuel (.code (.loop a)) st'
      | r => r
    | .scope a => match evalC P G call nt fuel (.code a) st with
      | some (.goto l, st') => evalC P G call nt fuel (.jump a l) st'
      | r => r
    | _ => none

def evalF (P : Program) (G : Cfg) (xt : Nat → Option Ext) : Nat → CallFn
  | 0, _, _, _, _ => none
  | fuel + 1, f, args, h, n => match xt f with
    | some x => evalX x args h n
    | none => match P.funcs[f]? with
      | none => none
      | some fn => match fn.body with
        | none => none
        | some c => match argTmps 0 args .nil with
          | none => none
          | some τ => if Nat.ble args.length fn.ntmps then
              match evalC P G (evalF P G xt fuel) fn.ntmps 1000000 (.code c) { tmps := τ, heap := h, next := n } with
              | some (.normal, st) => match resA fn st P with
                | some v => some (v, st.heap, st.next)
                | none => none
              | some (.ret, st) => match resA fn st P with
                | some v => some (v, st.heap, st.next)
                | none => none
              | _ => none
            else none
end
end Go.Rx
