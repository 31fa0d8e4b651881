/- A verified interpreter of the model's code, part 0: what it runs is a run of the program. -/
import GoSem.Step
import GoSem.Core.Region
import Derived.OrdersIn
import Derived.RangeFuncIn
import Derived.Laws.Cells
import Derived.Laws.CopyRow
import Derived.Laws.BytesString
import Derived.Lib.Bytes
/-! An abstract interpreter of the model's code: values, tries, operations. -/
namespace Go.Ai
open Go

/-! ### tries: a tree by the binary digits of an index -/
inductive T (α : Type) where
  | lf
  | nd (l : T α) (v : Option α) (r : T α)

def T.get {α : Type} : T α → Nat → Option α
  | .lf, _ => none
  | .nd l v r, i => bif Nat.beq i 0 then v else bif Nat.beq (i % 2) 0 then r.get (i / 2 - 1) else l.get (i / 2)

def T.put {α : Type} : Nat → T α → Nat → α → T α
  | 0, t, _, _ => t
  | k + 1, .lf, i, x => bif Nat.beq i 0 then .nd .lf (some x) .lf else bif Nat.beq (i % 2) 0 then .nd .lf none (T.put k .lf (i / 2 - 1) x) else .nd (T.put k .lf (i / 2) x) none .lf
  | k + 1, .nd l v r, i, x => bif Nat.beq i 0 then .nd l (some x) r else bif Nat.beq (i % 2) 0 then .nd l v (T.put k r (i / 2 - 1) x) else .nd (T.put k l (i / 2) x) v r

def T.set {α : Type} (t : T α) (i : Nat) (x : α) : T α := T.put (i + 1) t i x

def T.fill {α : Type} : T α → Nat → List α → T α
  | t, _, [] => t
  | t, i, x :: xs => (t.set i x).fill (i + 1) xs
def T.ofList {α : Type} (xs : List α) : T α := T.fill .lf 0 xs
/-- n entries from i on -/
def T.take {α : Type} (t : T α) : Nat → Nat → Option (List α)
  | _, 0 => some []
  | i, n + 1 => match t.get i with
    | some x => match t.take (i + 1) n with
      | some xs => some (x :: xs)
      | none => none
    | none => none

/-! ### values -/
inductive V where
  | bool (b : Bool)
  | int (k : IntKind) (n : Int)
  | str (n : Nat)
  | nilp
  | ptr (l off : Nat)
  | gptr (g : Nat)
  | eptr (cs : List V)
  | nils
  | emp
  | non0
  | sl (sz : Nat) (xs : List V) (tight : Bool)
  | big (sz n : Nat) (t : T V)
  | bytes (n : Nat)
  | row (sz l off len : Nat)
  | nilm
  | map (l : Nat)
  | nilf
  | fn (f : Fn) (first cap : List V)
  | nili
  | iface (t : TypeId) (v : V)
  | agg (cs : List V)
  | tuple (vs : List V)
  | junk
  | loc (id : Nat) (cs : List V)
  | der (slot off id : Nat)
instance : Inhabited V := ⟨.junk⟩

def V.cells : V → List V
  | .agg cs => cs
  | v => [v]

/-- does it fill one cell? -/
def leaf : V → Bool
  | .agg _ | .tuple _ | .junk | .loc .. | .der .. => false
  | _ => true
def leafs : List V → Bool
  | [] => true
  | v :: vs => bif leaf v then leafs vs else false
/-- what is stored, cell by cell -/
def V.cells? : V → Option (List V)
  | .agg cs => some cs
  | v => bif leaf v then some [v] else none

/-! ### strings as numbers: the bytes behind a leading 1, to the base 256 -/
def enc (l : List UInt8) : Nat := l.foldl (fun a b => a * 256 + b.toNat) 1
def slen (n : Nat) : Nat := Nat.log2 n / 8
def scat (a b : Nat) : Nat := a * 256 ^ slen b + (b - 256 ^ slen b)
def sat (n i : Nat) : Nat := (n / 256 ^ (slen n - 1 - i)) % 256
def ssub (n lo hi : Nat) : Nat := (n / 256 ^ (slen n - hi)) % 256 ^ (hi - lo) + 256 ^ (hi - lo)
def scmp (a b : Nat) : Int :=
  let la := slen a
  let lb := slen b
  let m := max la lb
  let x := (a - 256 ^ la) * 256 ^ (m - la)
  let y := (b - 256 ^ lb) * 256 ^ (m - lb)
  bif Nat.beq x y then (bif Nat.beq la lb then 0 else bif Nat.blt la lb then -1 else 1) else bif Nat.blt x y then -1 else 1

/-! ### code -/
inductive Opd where
  | t (i : Nat)
  | c (v : V)
  | g (i : Nat)
  | f (i : Nat)

inductive Cv where
  | int (k : IntKind)
  | same
  | rune
  | toBytes
  | ofBytes

inductive IOp where
  | mv (x : Opd)
  | pick (c a b : Opd)
  | alloc (here : Bool) (zs : List V)
  | box (here : Bool) (x : Opd)
  | build (zs : List V) (ps : List (Nat × Nat × Opd))
  | bslice (sz len : Nat) (zs : List V) (ps : List (Nat × Opd))
  | load (n : Nat) (agg : Bool) (a : Opd)
  | store (n : Nat) (a x : Opd)
  | nilc (x : Opd)
  | bin (op : BinOp) (x y : Opd)
  | eq (neg cst : Bool) (cls : Nat) (x y : Opd)
  | un (op : UnOp) (x : Opd)
  | conv (k : Cv) (x : Opd)
  | mki (t : TypeId) (x : Opd)
  | mkf (f : FuncId) (first cap : List Opd)
  | mkm
  | mks (sz bytes : Nat) (zs : List V) (len cap : Opd)
  | slice (sz : Option Nat) (x : Opd) (lo hi mx : Option Opd)
  | fa (off : Nat) (x : Opd)
  | fld (off n : Nat) (agg : Bool) (x : Opd)
  | ia (sz : Nat) (x i : Opd)
  | ix (x i : Opd)
  | look (ks : Bool) (z : V) (x i : Opd) (ok : Bool)
  | mput (ks : Bool) (m k x : Opd)
  | rng (x : Opd)
  | nxt (x : Opd)
  | tas (t : TypeId) (z : V) (x : Opd)
  | ext (x : Opd) (i : Nat)
  | call (f : FuncId) (args : List Opd)
  | callv (x : Opd) (args : List Opd)
  | app (made : Bool) (sz bytes : Nat) (zs : List V) (a b : Opd)
  | len (k : Nat) (x : Opd)
  | cap (x : Opd)
  | clear (sz : Nat) (zs : List V) (x : Opd)
  | min (xs : List Opd)
  | bad

structure IOpr where
  dst : Option Nat
  guard : Option (Nat × Bool)
  op : IOp

/-- of an operation in a region that draws: of values alone; it reads the heap; it lays the region's block k; it changes the heap -/
inductive Kd where
  | pure
  | read
  | slot (k : Nat)
  | eff
/-- far: how far back (0: the one ahead) the operations are that may be made after this one, too, and may touch what it touches -/
structure DOpr where
  kind : Kd
  far : List Nat
  chk : Bool
  o : IOpr

inductive IR where
  | skip
  | reg (ops : List IOpr)
  | regd (ops : List DOpr) (k : Nat) (pub old : List Nat)
  | seq (a b : IR)
  | cond (c : Opd) (a b : IR)
  | block (id : Nat) (b : IR)
  | loop (b : IR)
  | rfn (f : Opd) (ps : List Nat) (a b : IR)
  | exit (id : Nat)
  | ret
  | bad

inductive Res where
  | t (i : Nat)
  | cell (i n : Nat) (agg : Bool)

/-- how a function's end is met: 0 as it is; 1 pure, its answer frozen; 2 pure, a row at the answer's head kept -/
structure IFn where
  nt : Nat
  body : IR
  res : List Res
  mode : Nat

inductive Ex where
  | nrm
  | exit (id : Nat)
  | ret

inductive Blk where
  | cells (n : Nat) (t : T V)
  | map (es : List (V × V))
  | iter
  | loop (state : Nat) (fr : T V) (ps : List Nat) (a b : IR) (pend : Ex)
  | gone

structure St where
  heap : T Blk
  next : Nat
  lim : Nat
  wr : List (Nat × Nat)

/-! ### states -/
def St.blk (st : St) (l : Nat) : Option (Nat × T V) :=
  match st.heap.get l with
  | some (.cells n t) => some (n, t)
  | _ => none
/-- cells of a block -/
def St.cut (st : St) (l off n : Nat) : Option (List V) :=
  match st.blk l with
  | some (m, t) => bif Nat.ble (off + n) m then t.take off n else none
  | none => none
/-- a touched cell: block and place; place 0: the whole block, n + 1: cell n -/
abbrev Tc := Nat × Nat
def hitT (x : Tc) (y : Tc) : Bool := bif Nat.beq x.1 y.1 then (bif Nat.beq x.2 0 then true else bif Nat.beq y.2 0 then true else Nat.beq x.2 y.2) else false
def sameT (x : Tc) (y : Tc) : Bool := bif Nat.beq x.1 y.1 then Nat.beq x.2 y.2 else false
def addT (x : Tc) (l : List Tc) : List Tc := bif l.any (sameT x) then l else x :: l
/-- the cells from off on, so many, of a block of m cells; great blocks as a whole -/
def touch (l m off : Nat) : Nat → List Tc
  | 0 => []
  | n + 1 => bif Nat.blt 16 m then [(l, 0)] else (l, off + 1) :: touch l m (off + 1) n
def marks (lim : Nat) : List Tc → List Tc → List Tc
  | [], wr => wr
  | x :: xs, wr => bif Nat.blt x.1 lim then marks lim xs (addT x wr) else marks lim xs wr
def St.putBlk (st : St) (l : Nat) (b : Blk) (log : List Tc) : St := { heap := st.heap.set l b, next := st.next, lim := st.lim, wr := marks st.lim log st.wr }
def St.new (st : St) (b : Blk) : St := { heap := st.heap.set st.next b, next := st.next + 1, lim := st.lim, wr := st.wr }

/-- what came of a call: its value, the state, the cells that it read or wrote -/
abbrev R := Option (V × St × List Tc)

def plain : V → Bool
  | .loc .. | .der .. => false
  | _ => true
def ev (fr : T V) : Opd → Option V
  | .t i => match fr.get i with
    | some v => bif plain v then some v else none
    | none => none
  | .c v => some v
  | .g i => some (.gptr i)
  | .f i => some (.fn (.func i) [] [])
def evs (fr : T V) : List Opd → Option (List V)
  | [] => some []
  | x :: xs => match ev fr x with
    | some v => match evs fr xs with
      | some vs => some (v :: vs)
      | none => none
    | none => none

def nat? : V → Option Nat
  | .int .i64 (.ofNat n) => some n
  | _ => none

def drops {α : Type} : List α → Nat → List α
  | xs, 0 => xs
  | [], _ + 1 => []
  | _ :: xs, n + 1 => drops xs n
def takes {α : Type} : List α → Nat → Option (List α)
  | _, 0 => some []
  | [], _ + 1 => none
  | x :: xs, n + 1 => match takes xs n with
    | some r => some (x :: r)
    | none => none
def nth? {α : Type} : List α → Nat → Option α
  | [], _ => none
  | x :: _, 0 => some x
  | _ :: xs, n + 1 => nth? xs n

def whole (agg : Bool) : List V → Option V
  | cs => bif agg then some (.agg cs) else (match cs with | [v] => some v | _ => none)

def overlay (cs : List V) (off : Nat) (new : List V) : Option (List V) :=
  match takes cs off with
  | none => none
  | some pre => match takes (drops cs off) new.length with
    | none => none
    | some _ => some (pre ++ new ++ drops cs (off + new.length))

def fills (zs : List V) : List (Nat × List V) → Option (List V)
  | [] => some zs
  | (off, cs) :: rest => match overlay zs off cs with
    | none => none
    | some zs => fills zs rest

def parts (fr : T V) : List (Nat × Nat × Opd) → Option (List (Nat × List V))
  | [] => some []
  | (off, sz, x) :: rest => match ev fr x with
    | none => none
    | some v => match v.cells? with
      | some cs => bif Nat.beq cs.length sz then (match parts fr rest with | some r => some ((off, cs) :: r) | none => none) else none
      | none => none

def isAggV : V → Bool
  | .agg _ => true
  | _ => false
/-- cells as elements of so many cells -/
def chunks (sz : Nat) : Nat → List V → Option (List V)
  | 0, [] => some []
  | 0, _ :: _ => none
  | k + 1, cs => match takes cs sz with
    | none => none
    | some h => match chunks sz k (drops cs sz) with
      | none => none
      | some r => match h with
        | [v] => some (v :: r)
        | _ => some (.agg h :: r)
/-- the cells of elements, each of so many -/
def flats (sz : Nat) : List V → Option (List V)
  | [] => some []
  | x :: xs => bif Nat.beq x.cells.length sz then (match flats sz xs with | some r => some (x.cells ++ r) | none => none) else none

def pureV : V → Bool
  | .bool _ | .int .. | .str _ | .nilp | .nils | .emp | .sl .. | .big .. | .bytes _ | .nilm | .nilf | .nili => true
  | .fn (.func _) [] [] => true
  | .iface _ (.str _) | .iface _ (.int ..) | .iface _ (.bool _) => true
  | _ => false

def pureAll : List V → Bool
  | [] => true
  | v :: vs => bif pureV v then pureAll vs else false

def ofBytes : List V → Nat → Option Nat
  | [], a => some a
  | .int .u8 (.ofNat b) :: r, a => bif Nat.blt b 256 then ofBytes r (a * 256 + b) else none
  | _, _ => none

/-- the cells of a slice whose elements have so many -/
def cellsOf (st : St) (sz : Nat) : V → Option (Nat × List V)
  | .nils | .emp | .non0 => some (0, [])
  | .sl s xs _ => bif Nat.beq s sz then (match flats sz xs with | some cs => some (xs.length, cs) | none => none) else none
  | .big s n t => bif Nat.beq s sz then (match t.take 0 n with
    | some xs => match flats sz xs with | some cs => some (n, cs) | none => none
    | none => none) else none
  | .row s l off len => bif Nat.beq s sz then (match st.cut l off (len * sz) with | some cs => some (len, cs) | none => none) else none
  | _ => none

def lenV : V → Option Nat
  | .nils | .emp | .non0 => some 0
  | .sl _ xs _ => some xs.length
  | .big _ n _ => some n
  | .bytes n => some (slen n)
  | .row _ _ _ len => some len
  | .str n => some (slen n)
  | _ => none

def zeros (zs : List V) : Nat → List V
  | 0 => []
  | n + 1 => zs ++ zeros zs n

def appMade (zs : List V) : V → Option (Nat × List V)
  | .int .i64 (.ofNat n) => some (n, zeros zs n)
  | _ => none
/-- what is appended -/
def appSrc (made : Bool) (sz : Nat) (zs : List V) (st : St) (b : V) : Option (Nat × List V) := bif made then appMade zs b else cellsOf st sz b
/-- nothing is appended -/
def app0 (st : St) (a : V) : R := match a with
  | .nils | .emp | .sl .. | .row .. => some (a, st, [])
  | _ => none
/-- a new row -/
def appNew (sz bytes n : Nat) (new : List V) (len : Nat) (cs : T V) (st : St) (log : List Tc) : R :=
  bif Nat.blt ((len + n) * (bytes + 1)) 1000000000000 then some (.row sz st.next 0 (len + n), st.new (.cells ((len + n) * sz) (cs.fill (len * sz) new)), log) else none
def appTo (sz bytes n : Nat) (new : List V) (st : St) (a : V) : R :=
  match a with
  | .nils | .emp => appNew sz bytes n new 0 .lf st []
  | .sl s xs true => bif Nat.beq s sz then (match flats sz xs with | some cs => appNew sz bytes n new xs.length (T.ofList cs) st [] | none => none) else none
  | .row s l 0 len => bif Nat.beq s sz then (match st.blk l with
    | some (m, t) => bif Nat.ble (len * sz) m then appNew sz bytes n new len t (st.putBlk l .gone [(l, 0)]) [(l, 0)] else none
    | none => none) else none
  | _ => none
/-- append: what it gives, the state, the block that it used up -/
def append (made : Bool) (sz bytes : Nat) (zs : List V) (st : St) (a b : V) : R :=
  match appSrc made sz zs st b with
  | none => none
  | some (0, _) => app0 st a
  | some (n + 1, new) => appTo sz bytes (n + 1) new st a

/-- is it what a type's slice expression takes? none: a string -/
def sizeOk (o : Option Nat) (x : V) : Bool := match o with
  | none => (match x with | .str _ => true | _ => false)
  | some sz0 => (match x with
    | .str _ => false
    | .sl sz .. | .row sz .. => Nat.beq sz sz0
    | .bytes _ => Nat.beq 1 sz0
    | _ => true)
/-- a slice x[l:h], the array's rest kept -/
def sliceP (len l h : Nat) : V → Option V
  | .str n => some (.str (ssub n l h))
  | .bytes n => bif Nat.beq l len then some .non0 else some (.bytes (ssub n l h))
  | .nils => some .nils
  | .emp => some .emp
  | .sl sz xs tight => bif Nat.beq l len then some .non0 else
    (match takes (drops xs l) (h - l) with | some r => some (.sl sz r (tight && Nat.beq h len)) | none => none)
  | .row sz lb off _ => bif Nat.beq l len then some .non0 else some (.row sz lb (off + l * sz) (h - l))
  | _ => none
/-- a slice x[l:h:m] -/
def sliceM (l h m : Nat) : V → Option V
  | .nils => bif Nat.beq m 0 then some .nils else none
  | .row sz lb off _ => bif Nat.beq m 0 then some .emp else bif Nat.beq m h then (bif Nat.beq l h then none else some (.row sz lb (off + l * sz) (h - l))) else none
  | .sl _ _ _ => bif Nat.beq m 0 then some .emp else none
  | .emp => bif Nat.beq m 0 then some .emp else none
  | .non0 => bif Nat.beq m 0 then some .non0 else none
  | _ => none
def sliceV (sz0 : Option Nat) (x : V) (lo hi mx : Option Nat) : Option V :=
  bif sizeOk sz0 x then
    match lenV x with
    | none => none
    | some len =>
      let l := lo.getD 0
      let h := hi.getD len
      bif Nat.blt len h then none else bif Nat.blt h l then none else
      match mx with
      | none => sliceP len l h x
      | some m => bif hi.isSome then bif Nat.ble h m then sliceM l h m x else none else none
  else none

def keyEq : V → V → Option Bool
  | .str a, .str b => some (Nat.beq a b)
  | .int .i64 a, .int .i64 b => some (a == b)
  | _, _ => none
def findKey (k : V) : List (V × V) → Option (Option V)
  | [] => some none
  | (a, v) :: r => match keyEq k a with
    | some true => some (some v)
    | some false => findKey k r
    | none => none
def putKey (k v : V) : List (V × V) → List (V × V)
  | [] => [(k, v)]
  | (a, u) :: r => match keyEq k a with
    | some true => (k, v) :: r
    | _ => (a, u) :: putKey k v r

/-- is it a key of the type: a string, an int? -/
def okKey (ks : Bool) : V → Bool
  | .str _ => ks
  | .int .i64 _ => !ks
  | _ => false

def eqP (st : St) (a i b j : Nat) : Option Bool := bif Nat.beq a b then some (Nat.beq i j) else match st.blk a, st.blk b with | some _, some _ => some false | _, _ => none
def eq0 : V → V → Option Bool
  | .bool a, .bool b => some (a == b)
  | _, _ => none
def eq1 (st : St) : V → V → Option Bool
  | .nilp, .nilp => some true
  | .nilp, .ptr _ _ | .ptr _ _, .nilp => some false
  | .ptr a i, .ptr b j => eqP st a i b j
  | _, _ => none
/-- is it the nil slice? -/
def isNils : V → Option Bool
  | .nils => some true
  | .sl .. | .row .. | .big .. | .emp => some false
  | _ => none
def eq2 (x y : V) : Option Bool := match isNils x, isNils y with
  | some true, some b => some b
  | some b, some true => some b
  | _, _ => none
def eq3 : V → V → Option Bool
  | .nilm, .nilm => some true
  | .nilm, .map _ | .map _, .nilm => some false
  | _, _ => none
def eq4 (ok : Nat → Bool) (st : St) (cst : Bool) : V → V → Option Bool
  | .nili, .nili => bif cst then some true else none
  | .nili, .iface _ _ | .iface _ _, .nili => some false
  | .iface t x, .iface u y => bif Nat.beq t u then (match x, y with
    | .ptr a i, .ptr b j => bif ok t then eqP st a i b j else none
    | _, _ => none) else some false
  | _, _ => none
def eqV (ok : Nat → Bool) (st : St) (cst : Bool) (cls : Nat) (x y : V) : Option Bool :=
  match cls with
  | 0 => eq0 x y
  | 1 => eq1 st x y
  | 2 => eq2 x y
  | 3 => eq3 x y
  | _ => eq4 ok st cst x y

def ofScalar : Value → Option V
  | .int k n => some (.int k n)
  | .bool b => some (.bool b)
  | _ => none

def ofSem : Sem Value → Option V
  | .pure v => ofScalar v
  | _ => none

def binV (op : BinOp) : V → V → Option V
  | .int k a, .int k' b => ofSem (binOp op 0 (.int k a) (.int k' b))
  | .str a, .str b => match op with
    | .add => bif Nat.blt (slen a + slen b) 1000000000000 then some (.str (scat a b)) else none
    | .eql => some (.bool (Nat.beq a b))
    | .neq => some (.bool (!Nat.beq a b))
    | .lss => some (.bool (scmp a b == -1))
    | .gtr => some (.bool (scmp a b == 1))
    | .leq => some (.bool (scmp a b != 1))
    | .geq => some (.bool (scmp a b != -1))
    | _ => none
  | _, _ => none

def unV (op : UnOp) : V → Option V
  | .int k n => ofSem (Op.unary op (.int k n))
  | .bool b => ofSem (Op.unary op (.bool b))
  | _ => none

def encArr (b : ByteArray) : Nat := enc b.data.toList

def convV (st : St) : Cv → V → Option V
  | .int k, .int _ n => some (.int k (k.wrap n))
  | .same, .str n => some (.str n)
  | .rune, .int _ n => some (.str (encArr (Utf8.encode n)))
  | .toBytes, .str n => some (.bytes n)
  | .ofBytes, .bytes n => some (.str n)
  | .ofBytes, v => match cellsOf st 1 v with
    | some (_, cs) => match ofBytes cs 1 with | some n => some (.str n) | none => none
    | none => none
  | _, _ => none

def pick? : V → V → V → Option V
  | .bool c, a, b => some (bif c then a else b)
  | _, _, _ => none

def cut (cs : List V) (off n : Nat) (agg : Bool) : Option V :=
  match takes (drops cs off) n with
  | some r => whole agg r
  | none => none

def loadB (st : St) (n : Nat) (agg : Bool) : V → R
  | .eptr cs => match cut cs 0 n agg with | some v => some (v, st, []) | none => none
  | .ptr l off => match st.cut l off n, st.blk l with
    | some r, some (m, _) => match whole agg r with | some v => some (v, st, touch l m off n) | none => none
    | _, _ => none
  | _ => none

/-- an address that is met where it is used: a local's own slot, a place in one, or what a slot holds -/
inductive Ad where
  | loc (slot off id : Nat) (cs : List V)
  | val (v : V)
def addr (fr : T V) : Opd → Option Ad
  | .t i => match fr.get i with
    | some (.loc id cs) => some (.loc i 0 id cs)
    | some (.der j off id) => match fr.get j with
      | some (.loc id' cs) => bif Nat.beq id id' then some (.loc j off id cs) else none
      | _ => none
    | some v => some (.val v)
    | none => none
  | .c v => bif plain v then some (.val v) else none
  | .g i => some (.val (.gptr i))
  | .f i => some (.val (.fn (.func i) [] []))

def storeB (st : St) (n : Nat) (a x : V) : R :=
  match a with
  | .ptr l off => match st.blk l with
    | some (m, t) => match x.cells? with
      | some cs => bif Nat.beq cs.length n then bif Nat.ble (off + n) m then some (.junk, st.putBlk l (.cells m (t.fill off cs)) (touch l m off n), touch l m off n) else none else none
      | none => none
    | none => none
  | _ => none

def fieldA (off : Nat) : V → Option V
  | .eptr cs => some (.eptr (drops cs off))
  | .ptr l o => some (.ptr l (o + off))
  | _ => none

def indexA (sz : Nat) (x : V) (i : Nat) : Option V :=
  match x with
  | .sl s xs _ => bif Nat.beq s sz then (match nth? xs i with | some v => some (.eptr v.cells) | none => none) else none
  | .big s n t => bif Nat.beq s sz then bif Nat.blt i n then (match t.get i with | some v => some (.eptr v.cells) | none => none) else none else none
  | .bytes n => bif Nat.beq 1 sz then bif Nat.blt i (slen n) then some (.eptr [.int .u8 (.ofNat (sat n i))]) else none else none
  | .row s l off len => bif Nat.beq s sz then bif Nat.blt i len then some (.ptr l (off + i * sz)) else none else none
  | _ => none

def partV (off n : Nat) (agg : Bool) : V → Option V
  | .agg cs => match takes (drops cs off) n with
    | some r => whole agg r
    | none => none
  | _ => none

/-- freezing: rows from `lim` on become lists -/
def chunkT (sz : Nat) (n : Nat) (cs : List V) : Option V :=
  match chunks sz n cs with
  | some xs => bif Nat.blt 24 n then some (.big sz n (T.ofList xs)) else some (.sl sz xs false)
  | none => none

def mapO {α β : Type} (f : α → Option β) : List α → Option (List β)
  | [] => some []
  | x :: xs => match f x with
    | some y => match mapO f xs with
      | some ys => some (y :: ys)
      | none => none
    | none => none

def freeze (st : St) (lim ban : Nat) : Nat → V → Option V
  | 0, _ => none
  | k + 1, v => match v with
    | .row sz l off len =>
      bif Nat.blt l lim then none else bif Nat.beq l ban then none else
      match st.cut l off (len * sz) with
      | some cs => match mapO (freeze st lim ban k) cs with
        | some cs => chunkT sz len cs
        | none => none
      | none => none
    | v => bif pureV v then some v else none

def outL (st : St) (lim ban : Nat) (v : V) : Option V :=
  match v with
  | .row _ l _ _ => bif Nat.blt l lim then some v else freeze st lim ban 100 v
  | .ptr l _ | .map l | .iface _ (.ptr l _) => bif Nat.blt l lim then some v else none
  | v => bif pureV v then some v else none
def outC (st : St) (lim ban : Nat) : V → Option V
  | .agg cs => match mapO (outL st lim ban) cs with | some cs => some (.agg cs) | none => none
  | v => outL st lim ban v
def outV (st : St) (lim ban : Nat) : V → Option V
  | .tuple vs => match mapO (outC st lim ban) vs with | some vs => some (.tuple vs) | none => none
  | v => outC st lim ban v

/-! ### running -/
structure Env where
  fn : Nat → Option IFn
  ext : Nat → List V → Option V
  glob : Nat → Option V
  memo : Nat → List V → St → R
  ok : Nat → Bool

abbrev CallF := Nat → List V → St → R
/-- what came of an operation: with the frame -/
abbrev RO := Option (V × St × List Tc × T V)
def r1 (fr : T V) : R → RO
  | some (v, st, log) => some (v, st, log, fr)
  | none => none
def v1 (fr : T V) (st : St) : Option V → RO
  | some v => some (v, st, [], fr)
  | none => none

/-- a length: 0 a string's, 1 a slice's, else a map's -/
def lenC (st : St) (k : Nat) (x : V) : Option (Nat × List Tc) := match k with
  | 0 => (match x with | .str n => some (slen n, []) | _ => none)
  | 1 => (match x with | .str _ => none | x => match lenV x with | some n => some (n, []) | none => none)
  | _ => (match x with
    | .nilm => some (0, [])
    | .map l => (match st.heap.get l with | some (.map es) => some (es.length, [(l, 0)]) | _ => none)
    | _ => none)
def optN (fr : T V) : Option Opd → Option (Option Nat)
  | none => some none
  | some x => match ev fr x with
    | some v => match nat? v with | some n => some (some n) | none => none
    | none => none

def minV : V → List V → Option V
  | a, [] => some a
  | .int .i64 a, .int .i64 b :: r => minV (.int .i64 (bif decide (b < a) then b else a)) r
  | _, _ => none

/-- a call of a function value; a loop's yield -/
def callVal (call : CallF) (yield : Nat → List V → St → R) (x : V) (vs : List V) (st : St) : R :=
  match x with
  | .fn (.func f) first cap => call f (first ++ vs ++ cap) st
  | .fn (.yield l) [] [] => yield l vs st
  | _ => none

def runLoad (X : Env) (fr : T V) (st : St) (n : Nat) (agg : Bool) (a : Opd) : R :=
  match addr fr a with
  | some (.loc _ off id cs) => match cut cs off n agg with | some v => some (v, st, touch id cs.length off n) | none => none
  | some (.val (.gptr g)) => match X.glob g with | some v => (match n, agg with | 1, false => some (v, st, []) | _, _ => none) | none => none
  | some (.val a) => loadB st n agg a
  | none => none

def runStore (fr : T V) (st : St) (n : Nat) (a x : Opd) : RO :=
  match addr fr a, ev fr x with
  | some (.loc slot off id cs), some x => match x.cells? with
    | some new => bif Nat.beq new.length n then (match overlay cs off new with
      | some cs' => some (.junk, st, touch id cs.length off n, fr.set slot (.loc id cs'))
      | none => none) else none
    | none => none
  | some (.val a), some x => r1 fr (storeB st n a x)
  | _, _ => none

def runFa (fr : T V) (st : St) (off : Nat) (x : Opd) : RO :=
  match addr fr x with
  | some (.loc slot o id _) => some (.der slot (o + off) id, st, [], fr)
  | some (.val x) => v1 fr st (fieldA off x)
  | none => none

def newLoc (here : Bool) (fr : T V) (st : St) (cs : List V) : RO :=
  bif here then some (.loc st.next cs, { heap := st.heap, next := st.next + 1, lim := st.lim, wr := st.wr }, [], fr)
  else some (.ptr st.next 0, st.new (.cells cs.length (T.ofList cs)), [], fr)

def partsE (fr : T V) (sz : Nat) : List (Nat × Opd) → Option (List (Nat × List V))
  | [] => some []
  | (i, x) :: rest => match ev fr x with
    | none => none
    | some v => match v.cells? with
      | some cs => bif Nat.beq cs.length sz then (match partsE fr sz rest with | some r => some ((i * sz, cs) :: r) | none => none) else none
      | none => none

def runOp (X : Env) (call : CallF) (yield : Nat → List V → St → R) (fr : T V) (st : St) : IOp → RO
  | .mv x => v1 fr st (ev fr x)
  | .pick c a b => match ev fr c with
    | some (.bool true) => v1 fr st (ev fr a)
    | some (.bool false) => v1 fr st (ev fr b)
    | _ => none
  | .alloc here zs => newLoc here fr st zs
  | .box here x => match ev fr x with
    | some v => match v.cells? with | some cs => newLoc here fr st cs | none => none
    | none => none
  | .build zs ps => match parts fr ps with
    | some ps => match fills zs ps with | some cs => some (.agg cs, st, [], fr) | none => none
    | none => none
  | .bslice sz len zs ps => match partsE fr sz ps with
    | some qs => match fills (zeros zs len) qs with
      | some cs => bif Nat.beq len 0 then some (.emp, st, [], fr) else bif pureAll cs then (match chunks sz len cs with
          | some xs => some (.sl sz xs true, st, [], fr)
          | none => none)
        else some (.row sz st.next 0 len, st.new (.cells (len * sz) (T.ofList cs)), [], fr)
      | none => none
    | none => none
  | .load n agg a => r1 fr (runLoad X fr st n agg a)
  | .store n a x => runStore fr st n a x
  | .nilc x => match ev fr x with
    | some (.ptr l o) => some (.ptr l o, st, [], fr)
    | some (.eptr cs) => some (.eptr cs, st, [], fr)
    | _ => none
  | .bin op x y => match ev fr x, ev fr y with
    | some x, some y => v1 fr st (binV op x y)
    | _, _ => none
  | .eq neg cst cls x y => match ev fr x, ev fr y with
    | some x, some y => match eqV X.ok st cst cls x y with | some b => some (.bool (neg != b), st, [], fr) | none => none
    | _, _ => none
  | .un op x => match ev fr x with
    | some x => v1 fr st (unV op x)
    | none => none
  | .conv k x => match ev fr x with
    | some x => v1 fr st (convV st k x)
    | none => none
  | .mki t x => match ev fr x with
    | some x => some (.iface t x, st, [], fr)
    | none => none
  | .mkf f a b => match evs fr a, evs fr b with
    | some a, some b => some (.fn (.func f) a b, st, [], fr)
    | _, _ => none
  | .mkm => some (.map st.next, st.new (.map []), [], fr)
  | .mks sz bytes zs len cap => match ev fr len, ev fr cap with
    | some len, some cap => match nat? len, nat? cap with
      | some len, some cap => bif Nat.ble len cap then bif Nat.blt (cap * (bytes + 1)) 1000000000000 then
          some (.row sz st.next 0 len, st.new (.cells (len * sz) (T.ofList (zeros zs len))), [], fr) else none else none
      | _, _ => none
    | _, _ => none
  | .slice sz x lo hi mx => match ev fr x, optN fr lo, optN fr hi, optN fr mx with
    | some x, some lo, some hi, some mx => v1 fr st (sliceV sz x lo hi mx)
    | _, _, _, _ => none
  | .fa off x => runFa fr st off x
  | .fld off n agg x => match ev fr x with
    | some x => v1 fr st (partV off n agg x)
    | none => none
  | .ia sz x i => match ev fr x, ev fr i with
    | some x, some i => match nat? i with | some i => v1 fr st (indexA sz x i) | none => none
    | _, _ => none
  | .ix x i => match ev fr x, ev fr i with
    | some (.str n), some i => match nat? i with | some i => bif Nat.blt i (slen n) then some (.int .u8 (.ofNat (sat n i)), st, [], fr) else none | none => none
    | _, _ => none
  | .look ks z x i ok => match ev fr x, ev fr i with
    | some .nilm, some k => bif okKey ks k then some (bif ok then .tuple [z, .bool false] else z, st, [], fr) else none
    | some (.map l), some k => bif okKey ks k then (match st.heap.get l with
        | some (.map es) => match findKey k es with
          | some (some v) => some (bif ok then .tuple [v, .bool true] else v, st, [(l, 0)], fr)
          | some none => some (bif ok then .tuple [z, .bool false] else z, st, [(l, 0)], fr)
          | none => none
        | _ => none) else none
    | _, _ => none
  | .mput ks m k x => match ev fr m, ev fr k, ev fr x with
    | some (.map l), some k, some x => bif okKey ks k then (match st.heap.get l with
        | some (.map es) => match findKey k es with
          | some _ => some (.junk, st.putBlk l (.map (putKey k x es)) [(l, 0)], [(l, 0)], fr)
          | none => none
        | _ => none) else none
    | _, _, _ => none
  | .rng x => match ev fr x with
    | some .nilm => some (.ptr st.next 0, st.new .iter, [], fr)
    | _ => none
  | .nxt x => match ev fr x with
    | some (.ptr l 0) => match st.heap.get l with
      | some .iter => some (.tuple [.bool false], st, [], fr)
      | _ => none
    | _ => none
  | .tas t z x => match ev fr x with
    | some .nili => some (.tuple [z, .bool false], st, [], fr)
    | some (.iface u v) => bif Nat.beq u t then some (.tuple [v, .bool true], st, [], fr) else some (.tuple [z, .bool false], st, [], fr)
    | _ => none
  | .ext x i => match ev fr x with
    | some (.tuple vs) => v1 fr st (nth? vs i)
    | _ => none
  | .call f args => match evs fr args with
    | some vs => r1 fr (call f vs st)
    | none => none
  | .callv x args => match ev fr x, evs fr args with
    | some x, some vs => r1 fr (callVal call yield x vs st)
    | _, _ => none
  | .app made sz bytes zs a b => match ev fr a, ev fr b with
    | some a, some b => r1 fr (append made sz bytes zs st a b)
    | _, _ => none
  | .len k x => match ev fr x with
    | some x => match lenC st k x with | some (n, log) => some (.int .i64 (.ofNat n), st, log, fr) | none => none
    | none => none
  | .cap x => match ev fr x with
    | some .nils => some (.int .i64 0, st, [], fr)
    | some .emp => some (.int .i64 0, st, [], fr)
    | _ => none
  | .clear sz zs x => match ev fr x with
    | some .nils | some .emp | some .non0 => some (.junk, st, [], fr)
    | some (.row s l off len) => bif Nat.beq len 0 then some (.junk, st, [], fr) else bif Nat.beq s sz then (match st.blk l with
        | some (m, t) => bif Nat.ble (off + len * sz) m then some (.junk, st.putBlk l (.cells m (t.fill off (zeros zs len))) [(l, 0)], [(l, 0)], fr) else none
        | none => none) else none
    | _ => none
  | .min xs => match evs fr xs with
    | some (v :: vs) => v1 fr st (minV v vs)
    | _ => none
  | .bad => none

/-- is the operation wanted? -/
def wantedV (fr : T V) : Option (Nat × Bool) → Option Bool
  | none => some true
  | some (g, b) => match fr.get g with
    | some (.bool c) => some (c == b)
    | some .junk => some false
    | _ => none

def put (fr : T V) (d : Option Nat) (v : V) : T V :=
  match d with
  | some d => fr.set d v
  | none => fr

abbrev FS := Option (T V × St)
def runOps (X : Env) (call : CallF) (yield : Nat → List V → St → R) : List IOpr → T V → St → FS
  | [], fr, st => some (fr, st)
  | o :: os, fr, st => match wantedV fr o.guard with
    | some true => match runOp X call yield fr st o.op with
      | some (v, st, _, fr) => runOps X call yield os (put fr o.dst v) st
      | none => none
    | some false => runOps X call yield os (put fr o.dst .junk) st
    | none => none

/-! regions that draw their order -/
def opdT : Opd → List Nat
  | .t i => [i]
  | _ => []
def opdsT : List Opd → List Nat
  | [] => []
  | x :: xs => opdT x ++ opdsT xs
def optT : Option Opd → List Nat
  | some x => opdT x
  | none => []
def IOp.tmps : IOp → List Nat
  | .mv x | .box _ x | .load _ _ x | .nilc x | .un _ x | .conv _ x | .mki _ x | .fa _ x | .fld _ _ _ x | .rng x | .nxt x | .tas _ _ x | .ext x _ | .len _ x | .cap x | .clear _ _ x => opdT x
  | .pick a b c | .mput _ a b c => opdT a ++ opdT b ++ opdT c
  | .build _ ps => opdsT (ps.map (·.2.2))
  | .bslice _ _ _ ps => opdsT (ps.map (·.2))
  | .store _ a b | .bin _ a b | .eq _ _ _ a b | .mks _ _ _ a b | .ia _ a b | .ix a b | .look _ _ a b _ | .app _ _ _ _ a b => opdT a ++ opdT b
  | .mkf _ a b => opdsT a ++ opdsT b
  | .slice _ x a b c => opdT x ++ optT a ++ optT b ++ optT c
  | .call _ a => opdsT a
  | .callv x a => opdT x ++ opdsT a
  | .min a => opdsT a
  | .alloc .. | .mkm | .bad => []
def pureOp : IOp → Bool
  | .mv _ | .pick .. | .build .. | .bslice .. | .nilc _ | .bin .. | .eq .. | .un .. | .conv .. | .mki .. | .mkf .. | .slice .. | .fa .. | .fld .. | .ia .. | .ix .. | .tas .. | .ext .. | .len .. | .cap _ | .min _ => true
  | _ => false
def readOp : IOp → Bool
  | .load n _ _ => Nat.blt 0 n
  | .look .. => true
  | .len .. => true
  | _ => false
/-- the locals that an operation's temporaries lead to -/
def locLog (fr : T V) : List Nat → List Tc
  | [] => []
  | t :: ts => match fr.get t with
    | some (.loc id _) => (id, 0) :: locLog fr ts
    | some (.der _ _ id) => (id, 0) :: locLog fr ts
    | _ => locLog fr ts
def St.bare : St := { heap := .lf, next := 0, lim := 0, wr := [] }
def runK (X : Env) (call : CallF) (yield : Nat → List V → St → R) (base : Nat) (fr : T V) (st : St) (op : IOp) : Kd → RO
  | .pure => bif pureOp op then (match runOp X call yield fr .bare op with
      | some (v, s, _, _) => bif Nat.beq s.next 0 then some (v, st, [], fr) else none
      | none => none) else none
  | .read => bif readOp op then runOp X call yield fr st op else none
  | .slot k => (match op with
    | .alloc _ zs => some (.loc (base + k) zs, st, [], fr)
    | .box _ x => (match ev fr x with
      | some v => match v.cells? with | some cs => some (.loc (base + k) cs, st, [], fr) | none => none
      | none => none)
    | _ => none)
  | .eff => (match runOp X call yield fr { heap := st.heap, next := st.next, lim := st.next, wr := [] } op with
    | some (v, s, _, fr) => some (v, { heap := s.heap, next := s.next, lim := st.lim, wr := marks st.lim s.wr st.wr }, s.wr, fr)
    | none => none)
def isLocV : V → Bool
  | .loc .. => true
  | _ => false
def isLocO : Option V → Bool
  | some (.loc ..) => true
  | _ => false
def holdsLoc (fr : T V) : Option Nat → Bool
  | some d => isLocO (fr.get d)
  | none => false
def locOf : V → List Tc
  | .loc id _ => [(id, 0)]
  | _ => []
def loud : Kd → Bool
  | .eff | .slot _ => true
  | _ => false
/-- one operation: the frame, the state, what it touched -/
def stepD (X : Env) (call : CallF) (yield : Nat → List V → St → R) (base : Nat) (o : DOpr) (fr : T V) (st : St) : Option (T V × St × List Tc) :=
  bif holdsLoc fr o.o.dst then none else
  match wantedV fr o.o.guard with
  | some true => (match runK X call yield base fr st o.o.op o.kind with
    | some (v, st, log, fr1) => bif isLocV v && !(loud o.kind) then none else some (put fr1 o.o.dst v, st, locLog fr o.o.op.tmps ++ locOf v ++ log)
    | none => none)
  | some false => some (put fr o.o.dst .junk, st, [])
  | none => none
def hitB (x y : Tc) : Bool := Nat.beq x.1 y.1
def apart : List Tc → List Tc → Bool
  | [], _ => true
  | x :: xs, ys => bif ys.any (hitB x) then false else apart xs ys
def apartAll (log : List Tc) (logs : List (List Tc)) : List Nat → Bool
  | [] => true
  | j :: js => match nth? logs j with
    | some l => bif apart log l then apartAll log logs js else false
    | none => false
def below (n : Nat) : List Tc → Bool
  | [] => true
  | x :: xs => bif Nat.blt x.1 n then below n xs else false
/-- logs of the operations so far, the last one ahead; 'far' counts back from there -/
def runOpsD (X : Env) (call : CallF) (yield : Nat → List V → St → R) (base top : Nat) : List DOpr → List (List Tc) → T V → St → FS
  | [], _, fr, st => some (fr, st)
  | o :: os, logs, fr, st => match stepD X call yield base o fr st with
    | some (fr, st, log) => bif apartAll log logs o.far && (!o.chk || below top log) then runOpsD X call yield base top os (log :: logs) fr st else none
    | none => none
/-- locals that are laid anew are left -/
def retire : List Nat → T V → T V
  | [], fr => fr
  | t :: ts, fr => match fr.get t with
    | some (.loc id _) => retire ts (fr.set t (.ptr id 0))
    | _ => retire ts fr
/-- the region's own blocks go where all may see them -/
def publish (base : Nat) : List Nat → T V → St → FS
  | [], fr, st => some (fr, st)
  | t :: ts, fr, st => match fr.get t with
    | some (.loc id cs) => bif Nat.ble base id then publish base ts (fr.set t (.ptr id 0)) { heap := st.heap.set id (.cells cs.length (T.ofList cs)), next := st.next, lim := st.lim, wr := st.wr } else none
    | _ => publish base ts fr st

def resOne (X : Env) (fr : T V) (st : St) : Res → Option V
  | .t i => ev fr (.t i)
  | .cell i n agg => match runLoad X fr st n agg (.t i) with | some (v, _, _) => some v | none => none
def results (X : Env) (fr : T V) (st : St) (rs : List Res) : Option V :=
  match mapO (resOne X fr st) rs with
  | some [v] => some v
  | some vs => some (.tuple vs)
  | none => none

def finish (mode : Nat) (st st' : St) (v : V) : R :=
  match mode with
  | 0 => some (v, { heap := st'.heap, next := st'.next, lim := st.lim, wr := marks st.lim st'.wr st.wr }, st'.wr)
  | 1 => match st'.wr with
    | [] => match outV st' st.next st'.next v with | some v => some (v, st, []) | none => none
    | _ => none
  | _ => match st'.wr with
    | [] => match v with
      | .row sz l off len => bif Nat.blt l st.next then some (v, st, []) else (match st'.cut l off (len * sz) with
        | some cs => match mapO (outL st' st.next l) cs with
          | some cs => some (.row sz st.next 0 len, st.new (.cells (len * sz) (T.ofList cs)), [])
          | none => none
        | none => none)
      | v => match outV st' st.next st'.next v with | some v => some (v, st, []) | none => none
    | _ => none

def rcall (X : Env) (exec : IR → T V → St → Option (Ex × T V × St)) (f : Nat) (args : List V) (st : St) : R :=
  match X.memo f args st with
  | some r => some r
  | none => match X.ext f args with
    | some v => some (v, st, [])
    | none => match X.fn f with
      | some ⟨nt, body, res, mode⟩ => bif Nat.blt nt args.length then none else match exec body (T.ofList args) { heap := st.heap, next := st.next, lim := st.next, wr := [] } with
        | some (.nrm, fr, st') | some (.ret, fr, st') => match results X fr st' res with
          | some v => finish mode st st' v
          | none => none
        | _ => none
      | none => none

def noLoc : T V → Bool
  | .lf => true
  | .nd l v r => noLoc l && noLoc r && (match v with | some v => plain v | none => true)

abbrev ER := Option (Ex × T V × St)

def setAll (fr : T V) : List Nat → List V → Option (T V)
  | [], [] => some fr
  | p :: ps, v :: vs => setAll (fr.set p v) ps vs
  | _, _ => none

/-- one round of a range over a function -/
def round (ex : IR → T V → St → ER) (l : Nat) (vs : List V) (st : St) : R :=
  match st.heap.get l with
  | some (.loop 0 fr ps a b .nrm) => match setAll fr ps vs with
    | some fr0 => match ex a fr0 st with
      | some (.nrm, fr1, st1) => match st1.heap.get l with
        | some (.loop 0 fr2 ps2 a2 b2 .nrm) => match ex b fr1 (st1.putBlk l (.loop 1 fr2 ps2 a2 b2 .nrm) [(l, 0)]) with
          | some (e, _, st2) => match st2.heap.get l with
            | some (.loop 1 fr3 ps3 a3 b3 .nrm) => match e with
              | .nrm => some (.bool true, st2.putBlk l (.loop 0 fr3 ps3 a3 b3 .nrm) [(l, 0)], (l, 0) :: st2.wr)
              | e => some (.bool false, st2.putBlk l (.loop 2 fr3 ps3 a3 b3 e) [(l, 0)], (l, 0) :: st2.wr)
            | _ => none
          | none => none
        | _ => none
      | _ => none
    | none => none
  | _ => none

def exec (X : Env) : Nat → IR → T V → St → ER
  | 0, _, _, _ => none
  | n + 1, c, fr, st => match c with
    | .skip => some (.nrm, fr, st)
    | .reg ops => match runOps X (rcall X (exec X n)) (round (exec X n)) ops fr st with
      | some (fr, st) => some (.nrm, fr, st)
      | none => none
    | .regd ops k pub old => match runOpsD X (rcall X (exec X n)) (round (exec X n)) st.next (st.next + k) ops [] (retire old fr) { heap := st.heap, next := st.next + k, lim := st.lim, wr := st.wr } with
      | some (fr, st1) => match publish st.next pub fr st1 with
        | some (fr, st) => some (.nrm, fr, st)
        | none => none
      | none => none
    | .seq a b => match exec X n a fr st with
      | some (.nrm, fr, st) => exec X n b fr st
      | r => r
    | .cond x a b => match ev fr x with
      | some (.bool true) => exec X n a fr st
      | some (.bool false) => exec X n b fr st
      | _ => none
    | .block id b => match exec X n b fr st with
      | some (.exit j, fr, st) => some (bif Nat.beq j id then .nrm else .exit j, fr, st)
      | r => r
    | .loop b => match exec X n b fr st with
      | some (.nrm, fr, st) => exec X n (.loop b) fr st
      | r => r
    | .exit id => some (.exit id, fr, st)
    | .ret => some (.ret, fr, st)
    | .rfn f ps a b => bif noLoc fr then (match ev fr f with
      | some (.fn (.func h) x y) => match X.ext h (x ++ [.fn (.yield st.next) [] []] ++ y) with
        | none => (match rcall X (exec X n) h (x ++ [.fn (.yield st.next) [] []] ++ y) (st.new (.loop 0 fr ps a b .nrm)) with
          | some (_, st', _) => match st'.heap.get st.next with
            | some (.loop 0 _ _ _ _ .nrm) => some (.nrm, fr, st'.putBlk st.next .gone [])
            | some (.loop 2 _ _ _ _ e) => some (e, fr, st'.putBlk st.next .gone [])
            | _ => none
          | none => none)
        | some _ => none
      | _ => none) else none
    | .bad => none

end Go.Ai
/-! The model's code as the interpreter's. -/
namespace Go.Ai
open Go

def valL : Value → Option V
  | .bool b => some (.bool b)
  | .int k n => some (.int k n)
  | .string s => some (.str (encArr s))
  | .pointer none => some .nilp
  | .slice none l c => bif Nat.beq l 0 && Nat.beq c 0 then some .nils else none
  | .map none => some .nilm
  | .nilFunc => some .nilf
  | .nilIface => some .nili
  | .func (.func f) a c => (match a.toList, c.toList with | [], [] => some (.fn (.func f) [] []) | _, _ => none)
  | _ => none
def valV : Value → Option V
  | .agg cs => match mapO valL cs.toList with | some l => some (.agg l) | none => none
  | v => valL v

def cOpd : Operand → Option Opd
  | .tmp t => some (.t t)
  | .const v => match valV v with | some v => some (.c v) | none => none
  | .global g => some (.g g)
  | .func f => some (.f f)
def cOpds (xs : Array Operand) : Option (List Opd) := mapO cOpd xs.toList
def cOpt : Option Operand → Option (Option Opd)
  | none => some none
  | some x => match cOpd x with | some y => some (some y) | none => none

def sizeT (P : Program) (t : TypeId) : Option Nat := match P.info? t with | some i => some i.size | none => none
def bytesT (P : Program) (t : TypeId) : Option Nat := match P.info? t with | some i => some i.bytes | none => none
def zeroT (P : Program) (t : TypeId) : Option (List V) := match P.info? t with
  | some i => match i.zero with | some z => mapO valL z.cells.toList | none => none
  | none => none
def aggT (P : Program) (t : TypeId) : Option Bool := match P.underlying t with
  | some (.struct _) => some true
  | some (.array _ _) => none
  | some _ => some false
  | none => none
def zeroV (P : Program) (t : TypeId) : Option V := match P.info? t with
  | some i => match i.zero with | some z => valV z | none => none
  | none => none
def elemT (P : Program) (t : TypeId) : Option TypeId := match P.underlying t with
  | some (.slice e) => some e
  | _ => none
/-- of a slice's type: its elements' size, bytes, zero -/
def elzT (P : Program) (t : TypeId) : Option (Nat × Nat × List V) := match elemT P t with
  | some e => match sizeT P e, bytesT P e, zeroT P e with
    | some sz, some by_, some zs => bif Nat.beq zs.length sz then some (sz, by_, zs) else none
    | _, _, _ => none
  | none => none
def fieldT (P : Program) (t : TypeId) (f : Nat) : Option (Nat × TypeId) := match P.underlying t with
  | some (.struct fs) => match fs[f]? with
    | some x => some (x.offset, x.type)
    | none => none
  | _ => none

def o1 (f : Opd → IOp) (x : Operand) : IOp := match cOpd x with | some x => f x | none => .bad
def o2 (f : Opd → Opd → IOp) (x y : Operand) : IOp := match cOpd x, cOpd y with | some x, some y => f x y | _, _ => .bad
def isC : Operand → Bool
  | .const _ => true
  | _ => false

def clsT (P : Program) (t : TypeId) : Option Nat := match P.underlying t with
  | some .bool => some 0
  | some (.pointer e) => match sizeT P e with | some 0 => none | some _ => some 1 | none => none
  | some (.slice _) => some 2
  | some (.map _ _) => some 3
  | some (.interface _) => some 4
  | _ => none
def keyT (P : Program) (t : TypeId) : Option Bool := match P.underlying t with
  | some .string => some true
  | some (.int _) => some false
  | _ => none
def scalT (P : Program) (t : TypeId) : Bool := match P.underlying t with
  | some (.int _) | some .string => true
  | _ => false

def cBin (P : Program) (op : BinOp) (t : TypeId) (x y : Operand) : IOp :=
  bif scalT P t then o2 (.bin op) x y else
  match op with
  | .eql => (match clsT P t with | some c => o2 (.eq false (isC x || isC y) c) x y | none => .bad)
  | .neq => (match clsT P t with | some c => o2 (.eq true (isC x || isC y) c) x y | none => .bad)
  | _ => .bad

def cConv (P : Program) (s d : TypeId) : Option Cv :=
  match P.underlying s, P.underlying d with
  | some (.int _), some (.int k) => some (.int k)
  | some .string, some .string => some .same
  | some (.int _), some .string => some .rune
  | some .string, some (.slice e) => match P.underlying e with | some (.int .u8) => some .toBytes | _ => none
  | some (.slice e), some .string => match P.underlying e with | some (.int .u8) => some .ofBytes | _ => none
  | _, _ => none

def cParts (P : Program) (t : TypeId) : List (Nat × Operand) → Option (List (Nat × Nat × Opd))
  | [] => some []
  | (i, x) :: r => match fieldT P t i with
    | some (off, ft) => match sizeT P ft, cOpd x, cParts P t r with
      | some sz, some x, some r => some ((off, sz, x) :: r)
      | _, _, _ => none
    | none => none
def cEls : List (Nat × Operand) → Option (List (Nat × Opd))
  | [] => some []
  | (i, x) :: r => match cOpd x, cEls r with
    | some x, some r => some ((i, x) :: r)
    | _, _ => none

def cCall (P : Program) (c : Call) : IOp :=
  match c.callee with
  | .value (.func f) => (match cOpds c.args with | some xs => .call f xs | none => .bad)
  | .value x => (match cOpd x, cOpds c.args with | some x, some xs => .callv x xs | _, _ => .bad)
  | .invoke _ _ => .bad
  | .builtin b =>
    match b, c.args.toList, c.argTypes.toList with
    | .append, [a, x], [t, u] => (match elzT P t, P.underlying u with
      | some (sz, by_, zs), some (.slice _) => o2 (.app false sz by_ zs) a x
      | some (sz, by_, zs), some (.int _) => o2 (.app true sz by_ zs) a x
      | _, _ => .bad)
    | .len, [x], [t] => (match P.underlying t with
      | some .string => o1 (.len 0) x
      | some (.slice _) => o1 (.len 1) x
      | some (.map _ _) => o1 (.len 2) x
      | _ => .bad)
    | .cap, [x], [t] => (match P.underlying t with
      | some (.slice _) => o1 .cap x
      | _ => .bad)
    | .clear, [x], [t] => (match elzT P t with
      | some (sz, _, zs) => o1 (.clear sz zs) x
      | none => .bad)
    | .min, x :: xs, _ => (match mapO cOpd (x :: xs) with | some ys => .min ys | none => .bad)
    | _, _, _ => .bad

def isIn (d : Option Nat) (pm : List Nat) : Bool := match d with | some d => pm.any (Nat.beq d) | none => false

def cOp (P : Program) (pm : List Nat) (o : Oper) : IOp :=
  match o.op with
  | .move x | .assign x => o1 .mv x
  | .pick c a b => (match cOpd c, cOpd a, cOpd b with | some c, some a, some b => .pick c a b | _, _, _ => .bad)
  | .alloc t => (match zeroT P t with | some zs => .alloc (isIn o.dst pm) zs | none => .bad)
  | .box _ x => o1 (.box (isIn o.dst pm)) x
  | .build t ps => (match P.underlying t, zeroT P t, cParts P t ps.toList with
    | some (.struct fs), some zs, some ps => bif fs.toList.all (fun f => (P.info? f.type).isSome) then .build zs ps else .bad
    | _, _, _ => .bad)
  | .buildSlice t len ps => (match elzT P t, cEls ps.toList with
    | some (sz, _, zs), some ps => bif Nat.ble (len * sz) 16777216 then .bslice sz len zs ps else .bad
    | _, _ => .bad)
  | .load t a => (match sizeT P t, aggT P t with
    | some n, some g => o1 (.load n g) a
    | _, _ => .bad)
  | .store t a x => (match sizeT P t with
    | some n => o2 (.store n) a x
    | none => .bad)
  | .nilCheck x => o1 .nilc x
  | .binOp op t x y _ => cBin P op t x y
  | .unOp op _ x => o1 (.un op) x
  | .convert s d x => (match cConv P s d with | some k => o1 (.conv k) x | none => .bad)
  | .makeInterface t x => (match P.underlying t with
    | some (.interface _) => .bad
    | some _ => o1 (.mki t) x
    | none => .bad)
  | .makeFunc (.func f) a b => (match cOpds a, cOpds b with | some a, some b => .mkf f a b | _, _ => .bad)
  | .makeMap _ none => .mkm
  | .makeSlice t l c => (match elzT P t with
    | some (sz, by_, zs) => o2 (.mks sz by_ zs) l c
    | none => .bad)
  | .slice t x lo hi mx => (match cOpd x, cOpt lo, cOpt hi, cOpt mx with
    | some x, some lo, some hi, some mx => (match P.underlying t with
      | some .string => .slice none x lo hi mx
      | some (.slice e) => (match sizeT P e with | some sz => .slice (some sz) x lo hi mx | none => .bad)
      | _ => .bad)
    | _, _, _, _ => .bad)
  | .fieldAddr t x f => (match fieldT P t f with
    | some (off, ft) => match sizeT P ft with
      | some (_ + 1) => o1 (.fa off) x
      | _ => .bad
    | none => .bad)
  | .field t x f => (match fieldT P t f with
    | some (off, ft) => match sizeT P ft, aggT P ft with
      | some n, some g => o1 (.fld off n g) x
      | _, _ => .bad
    | none => .bad)
  | .indexAddr t x i => (match elemT P t with
    | some e => match sizeT P e with
      | some sz => o2 (.ia sz) x i
      | none => .bad
    | none => .bad)
  | .index t x i => (match P.underlying t with
    | some .string => o2 .ix x i
    | _ => .bad)
  | .lookup t x i ok => (match P.underlying t with
    | some (.map k e) => (match keyT P k, zeroV P e, cOpd x, cOpd i with
      | some ks, some z, some x, some i => .look ks z x i ok
      | _, _, _, _ => .bad)
    | _ => .bad)
  | .mapUpdate t m k x => (match P.underlying t with
    | some (.map kt _) => (match keyT P kt, cOpd m, cOpd k, cOpd x with
      | some ks, some m, some k, some x => .mput ks m k x
      | _, _, _, _ => .bad)
    | _ => .bad)
  | .range t x => (match P.underlying t with
    | some (.map _ _) => o1 .rng x
    | _ => .bad)
  | .next x false => o1 .nxt x
  | .typeAssert x _ t true => (match P.underlying t, zeroV P t with
    | some (.interface _), _ => .bad
    | some _, some z => o1 (.tas t z) x
    | _, _ => .bad)
  | .extract x i => o1 (fun x => .ext x i) x
  | .call c => cCall P c
  | _ => .bad

def cGuard (ops : Array Oper) : Option (Nat × Bool) → Option (Option (Nat × Bool))
  | none => some none
  | some (j, b) => match ops[j]? with
    | some o => match o.dst with | some d => some (some (d, b)) | none => none
    | none => none

def dstOk (nt : Nat) : Option Nat → Bool
  | some d => Nat.blt d nt
  | none => true
def cOper (P : Program) (nt : Nat) (pm : List Nat) (ops : Array Oper) (o : Oper) : IOpr :=
  bif dstOk nt o.dst then
    match cGuard ops o.guard with
    | some g => { dst := o.dst, guard := g, op := cOp P pm o }
    | none => { dst := none, guard := none, op := .bad }
  else { dst := none, guard := none, op := .bad }

/-! regions that draw: of each operation what is ahead of it, as a number's bits -/
def bitAt (m j : Nat) : Bool := Nat.beq (Nat.land (Nat.shiftRight m j) 1) 1
def maskOf (acc : List Nat) : List Edge → Nat
  | [] => 0
  | e :: es => bif Region.binds .any e then Nat.lor (Nat.lor (2 ^ e.on) (match nth? acc e.on with | some m => m | none => 0)) (maskOf acc es) else maskOf acc es
def masksG : List Oper → List Nat → List Nat
  | [], acc => acc
  | o :: os, acc => masksG os (acc ++ [maskOf acc o.after.toList])

def isEff : Kd → Bool
  | .eff => true
  | _ => false
def slotsApart : Kd → Kd → Bool
  | .slot a, .slot b => !(Nat.beq a b)
  | _, _ => true
def slotOk (k : Nat) : Kd → Bool
  | .slot a => Nat.blt a k
  | _ => true
def guardT : Option (Nat × Bool) → List Nat
  | some (t, _) => [t]
  | none => []
def dstT : Option Nat → List Nat
  | some d => [d]
  | none => []
def DOpr.names (d : DOpr) : List Nat := dstT d.o.dst ++ guardT d.o.guard ++ d.o.op.tmps
def notIn (l : List Nat) : Option Nat → Bool
  | some d => !(l.any (Nat.beq d))
  | none => true
/-- may these two be made in either order? q: how far back the first one is -/
def pairOk (x d : DOpr) (q : Nat) : Bool :=
  notIn d.names x.o.dst && notIn x.names d.o.dst && !(isEff x.kind && isEff d.kind) && (!(loud x.kind || loud d.kind) || d.far.any (Nat.beq q)) && (!(isEff x.kind || isEff d.kind) || ((isEff x.kind || x.chk) && (isEff d.kind || d.chk)))
/-- of one operation and those ahead of it, the last one first; len: how many -/
def okOne (m : Nat) (d : DOpr) : Nat → List DOpr → Nat → Bool
  | _, [], _ => true
  | q, x :: xs, len => slotsApart x.kind d.kind && (bitAt m (len - 1) || pairOk x d q) && okOne m d (q + 1) xs (len - 1)
def okGo (k : Nat) : List Nat → List DOpr → Nat → List DOpr → Bool
  | _, _, _, [] => true
  | m :: ms, before, len, d :: ds => slotOk k d.kind && okOne m d 0 before len && okGo k ms (d :: before) (len + 1) ds
  | [], _, _, _ :: _ => false

def kdOf : IOp → Kd
  | .store .. | .call .. | .callv .. | .app .. | .mput .. | .clear .. | .nxt .. | .rng .. | .mkm | .mks .. => .eff
  | .alloc .. | .box .. => .slot 0
  | .load .. | .look .. => .read
  | .len 2 _ => .read
  | _ => .pure
/-- do an operation's edges lead back? -/
def edgesOk (i : Nat) : List Edge → Bool
  | [] => true
  | e :: es => (!(Region.binds .any e) || Nat.blt e.on i) && edgesOk i es
def edgesGo : Nat → List Oper → Bool
  | _, [] => true
  | i, o :: os => edgesOk i o.after.toList && edgesGo (i + 1) os
def isBs : IOp → Bool
  | .bslice .. => true
  | _ => false
def isSlot : Kd → Bool
  | .slot _ => true
  | _ => false
def before2 (ms : List Nat) (i j : Nat) : Bool := bitAt ((nth? ms i).getD 0) j || bitAt ((nth? ms j).getD 0) i
/-- may it be made where it stands alone? -/
def aloneG (ms : List Nat) (is : List IOpr) (i : Nat) : Bool := (is.zipIdx).all fun (u, j) => Nat.beq i j || !(isBs u.op || isEff (kdOf u.op) || isSlot (kdOf u.op)) || before2 ms i j
def kindsG (ms : List Nat) (is : List IOpr) : List Kd :=
  let ks : List Kd := (is.zipIdx).map fun (o, i) => match kdOf o.op with
    | .slot _ => bif aloneG ms is i then Kd.eff else Kd.slot 0
    | .pure => bif isBs o.op && aloneG ms is i then Kd.eff else Kd.pure
    | k => k
  (ks.zipIdx).map fun (k, i) => match k with
    | .slot _ => .slot ((ks.take i).filter isSlot).length
    | k => k
def farsG (ms : List Nat) (ks : List Kd) : List (Kd × List Nat × Bool) :=
  (ks.zipIdx).map fun (k, i) =>
    let un (j : Nat) : Bool := !(Nat.beq i j) && !(before2 ms i j) && (loud k || loud ((nth? ks j).getD .pure))
    (k, ((List.range i).filter un).map (fun j => i - 1 - j), !(isEff k) && (List.range ks.length).any un)
def mkD : List IOpr → List (Kd × List Nat × Bool) → List DOpr
  | [], _ => []
  | o :: os, [] => { kind := .pure, far := [], chk := false, o := o } :: mkD os []
  | o :: os, (k, f, c) :: ks => { kind := k, far := f, chk := c, o := o } :: mkD os ks
def cDraw (P : Program) (nt : Nat) (pm : List Nat) (ops : Array Oper) : IR :=
  let ms := masksG ops.toList []
  let is := ops.toList.map (cOper P nt pm ops)
  let ks := kindsG ms is
  let ds := mkD is (farsG ms ks)
  let k := (ks.filter isSlot).length
  bif edgesGo 0 ops.toList && okGo k ms [] 0 ds then .regd ds k ((ds.filter fun d => isSlot d.kind).flatMap fun d => match d.o.dst with | some t => bif pm.any (Nat.beq t) then [] else [t] | none => []) (is.flatMap fun o => bif isSlot (kdOf o.op) then dstT o.dst else []) else .bad

/-- no range over a function within -/
def noRfn : Code → Bool
  | .seq a b | .cond _ a b => noRfn a && noRfn b
  | .block _ b | .loop b | .scope b => noRfn b
  | .rangeFunc .. => false
  | _ => true
def cCode (P : Program) (nt : Nat) (pm : List Nat) : Code → IR
  | .skip => .skip
  | .region _ ops draw => bif draw then cDraw P nt pm ops else .reg (ops.toList.map (cOper P nt pm ops))
  | .seq a b => .seq (cCode P nt pm a) (cCode P nt pm b)
  | .cond c a b => match cOpd c with | some c => .cond c (cCode P nt pm a) (cCode P nt pm b) | none => .bad
  | .block i b => .block i (cCode P nt pm b)
  | .loop b => .loop (cCode P nt pm b)
  | .rangeFunc f ps a b => match cOpd f with | some f => bif noRfn a && noRfn b && ps.toList.all (fun p => Nat.blt p nt) then .rfn f ps.toList (cCode P nt pm a) (cCode P nt pm b) else .bad | none => .bad
  | .exit i => .exit i
  | .scope b => .seq .skip (cCode P nt pm b)
  | .label _ => .skip
  | .goto _ => .bad
  | .ret => .ret
  | .refuse _ => .bad

def cRes (P : Program) : ResultVar → Option Res
  | .tmp t => some (.t t)
  | .cell a t => match sizeT P t, aggT P t with | some n, some g => some (.cell a n g) | _, _ => none

def cFn (P : Program) (pm : List Nat) (f : Func) (mode : Nat) : Option IFn := match f.body with
  | some c => match mapO (cRes P) f.results.toList with
    | some rs => some ⟨f.ntmps, cCode P f.ntmps pm c, rs, mode⟩
    | none => none
  | none => none
end Go.Ai
/-! Ghosts: what an abstract value, an abstract state stand for. -/
namespace Go.Ai
open Go
set_option linter.unusedSimpArgs false

/-! ### tries -/
theorem beqF {a b : Nat} (h : a ≠ b) : Nat.beq a b = false := by
  cases hh : Nat.beq a b
  · rfl
  · exact absurd (Nat.eq_of_beq_eq_true hh) h
theorem beqT {a b : Nat} (h : Nat.beq a b = true) : a = b := Nat.eq_of_beq_eq_true h
theorem bltT {a b : Nat} (h : Nat.blt a b = true) : a < b := by have := Nat.le_of_ble_eq_true h; omega
theorem bleT {a b : Nat} (h : Nat.ble a b = true) : a ≤ b := Nat.le_of_ble_eq_true h
section tries
variable {α : Type}
theorem T.get_put_same : ∀ (k : Nat) (t : T α) (i : Nat) (x : α), i + 1 < 2 ^ k → (T.put k t i x).get i = some x
  | 0, t, i, x, h => by simp at h
  | k + 1, t, i, x, h => by
    have h2 : (2 : Nat) ^ (k + 1) = 2 * 2 ^ k := by rw [Nat.pow_succ]; omega
    by_cases h0 : i = 0
    · subst h0; cases t <;> simp [T.put, T.get]
    · have hb : Nat.beq i 0 = false := beqF h0
      by_cases h1 : i % 2 = 0
      · have hm : Nat.beq (i % 2) 0 = true := by simp [h1]
        have := T.get_put_same k
        cases t <;> simp only [T.put, T.get, hb, hm, cond_true, cond_false] <;> exact this _ _ _ (by omega)
      · have hm : Nat.beq (i % 2) 0 = false := beqF h1
        have := T.get_put_same k
        cases t <;> simp only [T.put, T.get, hb, hm, cond_true, cond_false] <;> exact this _ _ _ (by omega)
theorem T.get_put_ne : ∀ (k : Nat) (t : T α) (i j : Nat) (x : α), i ≠ j → (T.put k t i x).get j = t.get j
  | 0, t, i, j, x, h => rfl
  | k + 1, t, i, j, x, h => by
    have ih := T.get_put_ne k
    by_cases h0 : i = 0
    · subst h0
      have hj : Nat.beq j 0 = false := beqF (Ne.symm h)
      cases t <;> simp [T.put, T.get, hj]
    · have hb : Nat.beq i 0 = false := beqF h0
      by_cases hj0 : j = 0
      · subst hj0
        cases t <;> simp only [T.put, hb, cond_false] <;> cases Nat.beq (i % 2) 0 <;> simp [T.get]
      · have hj : Nat.beq j 0 = false := beqF hj0
        by_cases h1 : i % 2 = 0
        · have hm : Nat.beq (i % 2) 0 = true := by simp [h1]
          by_cases h2 : j % 2 = 0
          · have hn : Nat.beq (j % 2) 0 = true := by simp [h2]
            cases t <;> simp only [T.put, T.get, hb, hj, hm, hn, cond_true, cond_false]
            · rw [ih _ _ _ _ (by omega)]; rfl
            · exact ih _ _ _ _ (by omega)
          · have hn : Nat.beq (j % 2) 0 = false := beqF h2
            cases t <;> simp only [T.put, T.get, hb, hj, hm, hn, cond_true, cond_false]
        · have hm : Nat.beq (i % 2) 0 = false := beqF h1
          by_cases h2 : j % 2 = 0
          · have hn : Nat.beq (j % 2) 0 = true := by simp [h2]
            cases t <;> simp only [T.put, T.get, hb, hj, hm, hn, cond_true, cond_false]
          · have hn : Nat.beq (j % 2) 0 = false := beqF h2
            cases t <;> simp only [T.put, T.get, hb, hj, hm, hn, cond_true, cond_false]
            · rw [ih _ _ _ _ (by omega)]; rfl
            · exact ih _ _ _ _ (by omega)
theorem T.get_set_same (t : T α) (i : Nat) (x : α) : (t.set i x).get i = some x :=
  T.get_put_same _ _ _ _ Nat.lt_two_pow_self
theorem T.get_set_ne (t : T α) {i j : Nat} (x : α) (h : i ≠ j) : (t.set i x).get j = t.get j := T.get_put_ne _ _ _ _ _ h
theorem T.get_set (t : T α) (i j : Nat) (x : α) : (t.set i x).get j = if i = j then some x else t.get j := by
  by_cases h : i = j
  · subst h; simp [T.get_set_same]
  · simp [h, T.get_set_ne t x h]
theorem T.get_fill : ∀ (xs : List α) (t : T α) (i j : Nat), (t.fill i xs).get j = if i ≤ j ∧ j < i + xs.length then xs[j - i]? else t.get j
  | [], t, i, j => by simp [T.fill]; omega
  | x :: xs, t, i, j => by
    rw [T.fill, T.get_fill xs]
    by_cases h : i + 1 ≤ j ∧ j < i + 1 + xs.length
    · rw [if_pos h, if_pos (by simp; omega)]
      rw [show j - i = (j - (i + 1)) + 1 from by omega]; rfl
    · rw [if_neg h, T.get_set]
      by_cases hi : i = j
      · subst hi; simp
      · rw [if_neg hi, if_neg (by simp; omega)]
theorem T.get_ofList (xs : List α) (j : Nat) : (T.ofList xs).get j = xs[j]? := by
  rw [T.ofList, T.get_fill]
  by_cases h : j < xs.length
  · simp [h]
  · simp [h, T.get]
theorem T.take_spec : ∀ (n : Nat) (t : T α) (i : Nat) (xs : List α), t.take i n = some xs → xs.length = n ∧ ∀ j, j < n → t.get (i + j) = xs[j]?
  | 0, t, i, xs, h => by simp [T.take] at h; subst h; simp
  | n + 1, t, i, xs, h => by
    simp only [T.take] at h
    cases hx : t.get i with
    | none => simp [hx] at h
    | some x =>
      cases hr : t.take (i + 1) n with
      | none => simp [hx, hr] at h
      | some ys =>
        simp [hx, hr] at h; subst h
        obtain ⟨h1, h2⟩ := T.take_spec n t (i + 1) ys hr
        refine ⟨by simp [h1], fun j hj => ?_⟩
        cases j with
        | zero => simpa using hx
        | succ j => have := h2 j (by omega); simpa [Nat.add_assoc, Nat.add_comm 1 j] using this
end tries

/-! ### lists -/
section lists
variable {α : Type}
theorem drops_eq : ∀ (xs : List α) (n : Nat), drops xs n = xs.drop n
  | xs, 0 => by cases xs <;> rfl
  | [], n + 1 => rfl
  | x :: xs, n + 1 => by simp [drops, drops_eq xs n]
theorem takes_spec : ∀ (xs : List α) (n : Nat) (r : List α), takes xs n = some r → r = xs.take n ∧ r.length = n
  | xs, 0, r, h => by cases xs <;> simp [takes] at h <;> subst h <;> simp
  | [], n + 1, r, h => by simp [takes] at h
  | x :: xs, n + 1, r, h => by
    simp only [takes] at h
    cases hr : takes xs n with
    | none => simp [hr] at h
    | some q =>
      simp [hr] at h; subst h
      obtain ⟨h1, h2⟩ := takes_spec xs n q hr
      simp [h1.symm, h2]
theorem nth?_eq : ∀ (xs : List α) (n : Nat), nth? xs n = xs[n]?
  | [], n => by simp [nth?]
  | x :: xs, 0 => rfl
  | x :: xs, n + 1 => by simp [nth?, nth?_eq xs n]
theorem mapO_spec {β : Type} {f : α → Option β} : ∀ {xs : List α} {ys : List β}, mapO f xs = some ys → ys.length = xs.length ∧ ∀ (i : Nat) (x : α), xs[i]? = some x → ∃ y, f x = some y ∧ ys[i]? = some y
  | [], ys, h => by simp [mapO] at h; subst h; simp
  | x :: xs, ys, h => by
    simp only [mapO] at h
    cases hf : f x with
    | none => simp [hf] at h
    | some y =>
      cases hr : mapO f xs with
      | none => simp [hf, hr] at h
      | some zs =>
        simp [hf, hr] at h; subst h
        obtain ⟨h1, h2⟩ := mapO_spec hr
        refine ⟨by simp [h1], fun i x' hx => ?_⟩
        cases i with
        | zero => simp at hx; subst hx; exact ⟨y, hf, rfl⟩
        | succ i => simpa using h2 i x' (by simpa using hx)
end lists

/-! ### ghosts -/
/-- loc: an abstract block's row: its block, where it begins, how many cells the block has; fz: blocks that are written no more, with what their cells hold; own: whose a block is -/
structure G where
  loc : Nat → Option (Nat × Nat × Nat)
  fz : Nat → Option (Nat → Option V)
  own : Nat → Option Nat

def AtF (m : Nat → Option V) (o : Nat) (cs : List V) : Prop := ∀ i v, cs[i]? = some v → m (o + i) = some v

def RepL (g : G) (v : V) (u : Value) : Prop :=
  match v with
  | .bool b => u = .bool b
  | .int k n => u = .int k n
  | .str n => ∃ s : ByteArray, u = .string s ∧ encArr s = n
  | .nilp => u = .pointer none
  | .ptr l off => ∃ b base top, g.loc l = some (b, base, top) ∧ u = .pointer (some ⟨b, base + off, none⟩)
  | .gptr k => u = .pointer (some ⟨k, 0, none⟩)
  | .eptr cs => ∃ b o m, g.fz b = some m ∧ u = .pointer (some ⟨b, o, none⟩) ∧ AtF m o cs
  | .nils => u = .slice none 0 0
  | .emp => ∃ a, u = .slice (some a) 0 0
  | .non0 => ∃ a c, u = .slice a 0 c
  | .sl sz xs tight => ∃ b o cap m, g.fz b = some m ∧ u = .slice (some ⟨b, o, none⟩) xs.length cap ∧ xs.length ≤ cap ∧ (tight = true → cap = xs.length) ∧
      ∀ i x, xs[i]? = some x → x.cells.length = sz ∧ AtF m (o + i * sz) x.cells
  | .big sz n t => ∃ b o cap m, g.fz b = some m ∧ u = .slice (some ⟨b, o, none⟩) n cap ∧ n ≤ cap ∧
      ∀ i, i < n → ∃ x, t.get i = some x ∧ x.cells.length = sz ∧ AtF m (o + i * sz) x.cells
  | .bytes n => ∃ b o cap m, ∃ l : List UInt8, g.fz b = some m ∧ enc l = n ∧ u = .slice (some ⟨b, o, none⟩) l.length cap ∧ l.length ≤ cap ∧
      ∀ i x, l[i]? = some x → m (o + i) = some (.int .u8 x.toNat)
  | .row sz l off len => ∃ b base top cap, g.loc l = some (b, base, top) ∧ u = .slice (some ⟨b, base + off, none⟩) len cap ∧ len ≤ cap ∧ base + off + cap * sz ≤ top
  | .nilm => u = .map none
  | .map l => ∃ b top, g.loc l = some (b, 0, top) ∧ u = .map (some b)
  | .nilf => u = .nilFunc
  | .nili => u = .nilIface
  | .junk => u = undef
  | _ => False

/-- a function's name: a loop's yield bears its block -/
def FnR (g : G) : Fn → Fn → Prop
  | .yield l, f' => ∃ b top, g.loc l = some (b, 0, top) ∧ f' = .yield b
  | f, f' => f' = f
mutual
def Rep (g : G) : V → Value → Prop
  | .iface t v, u => ∃ u', u = .iface t u' ∧ Rep g v u'
  | .fn f a c, u => ∃ (f' : Fn) (a' c' : Array Value), u = .func f' a' c' ∧ FnR g f f' ∧ Reps g a a'.toList ∧ Reps g c c'.toList
  | .agg cs, u => ∃ us : Array Value, u = .agg us ∧ leafs cs = true ∧ Reps g cs us.toList
  | .tuple vs, u => ∃ us : Array Value, u = .tuple us ∧ Reps g vs us.toList
  | v, u => RepL g v u
def Reps (g : G) : List V → List Value → Prop
  | [], us => us = []
  | v :: vs, us => ∃ u r, us = u :: r ∧ Rep g v u ∧ Reps g vs r
end

theorem Reps_length {g : G} : ∀ {vs : List V} {us : List Value}, Reps g vs us → vs.length = us.length
  | [], us, h => by simp [Reps] at h; subst h; rfl
  | v :: vs, us, h => by
    simp only [Reps] at h
    obtain ⟨u, r, rfl, _, h⟩ := h
    simp [Reps_length h]
theorem Reps_get {g : G} : ∀ {vs : List V} {us : List Value}, Reps g vs us → ∀ (i : Nat) (v : V), vs[i]? = some v → ∃ u, us[i]? = some u ∧ Rep g v u
  | [], us, h, i, v, hi => by simp at hi
  | v :: vs, us, h, i, w, hi => by
    simp only [Reps] at h
    obtain ⟨u, r, rfl, hv, h⟩ := h
    cases i with
    | zero => simp at hi; subst hi; exact ⟨u, rfl, hv⟩
    | succ i => simpa using Reps_get h i w (by simpa using hi)
theorem Reps_of {g : G} : ∀ {vs : List V} {us : List Value}, vs.length = us.length → (∀ (i : Nat) (v : V) (u : Value), vs[i]? = some v → us[i]? = some u → Rep g v u) → Reps g vs us
  | [], [], _, _ => by simp [Reps]
  | [], _ :: _, h, _ => by simp at h
  | _ :: _, [], h, _ => by simp at h
  | v :: vs, u :: us, h, hh => by
    simp only [Reps]
    exact ⟨u, us, rfl, hh 0 v u rfl rfl, Reps_of (by simpa using h) fun i v u h1 h2 => hh (i + 1) v u (by simpa using h1) (by simpa using h2)⟩
theorem Reps_append {g : G} : ∀ {vs vs' : List V} {us us' : List Value}, Reps g vs us → Reps g vs' us' → Reps g (vs ++ vs') (us ++ us')
  | [], vs', us, us', h, h' => by simp [Reps] at h; subst h; simpa using h'
  | v :: vs, vs', us, us', h, h' => by
    simp only [Reps] at h
    obtain ⟨u, r, rfl, hv, h⟩ := h
    simp only [List.cons_append, Reps]
    exact ⟨u, r ++ us', rfl, hv, Reps_append h h'⟩

/-- of two ghosts, the second knows what the first one does -/
structure G.le (g g' : G) : Prop where
  loc : ∀ l x, g.loc l = some x → g'.loc l = some x
  fz : ∀ b m, g.fz b = some m → g'.fz b = some m
theorem G.le.refl (g : G) : g.le g := ⟨fun _ _ h => h, fun _ _ h => h⟩
theorem G.le.trans {a b c : G} (h : a.le b) (h' : b.le c) : a.le c := ⟨fun l x e => h'.loc l x (h.loc l x e), fun x m e => h'.fz x m (h.fz x m e)⟩

theorem RepL.mono {g g' : G} (h : g.le g') {v : V} {u : Value} (hr : RepL g v u) : RepL g' v u := by
  cases v <;> simp only [RepL] at hr ⊢ <;> try exact hr
  case ptr l off => obtain ⟨b, base, top, h1, h2⟩ := hr; exact ⟨b, base, top, h.loc _ _ h1, h2⟩
  case eptr cs => obtain ⟨b, o, m, h1, h2⟩ := hr; exact ⟨b, o, m, h.fz _ _ h1, h2⟩
  case sl sz xs t => obtain ⟨b, o, cap, m, h1, h2⟩ := hr; exact ⟨b, o, cap, m, h.fz _ _ h1, h2⟩
  case big sz n t => obtain ⟨b, o, cap, m, h1, h2⟩ := hr; exact ⟨b, o, cap, m, h.fz _ _ h1, h2⟩
  case bytes n => obtain ⟨b, o, cap, m, l, h1, h2⟩ := hr; exact ⟨b, o, cap, m, l, h.fz _ _ h1, h2⟩
  case row sz l off len => obtain ⟨b, base, top, cap, h1, h2⟩ := hr; exact ⟨b, base, top, cap, h.loc _ _ h1, h2⟩
  case map l => obtain ⟨b, top, h1, h2⟩ := hr; exact ⟨b, top, h.loc _ _ h1, h2⟩
theorem FnR.mono {g g' : G} (h : g.le g') {f f' : Fn} (hf : FnR g f f') : FnR g' f f' := by
  cases f <;> simp only [FnR] at hf ⊢ <;> try exact hf
  obtain ⟨b, top, h1, h2⟩ := hf
  exact ⟨b, top, h.loc _ _ h1, h2⟩
mutual
theorem Rep.mono {g g' : G} (h : g.le g') : ∀ (v : V) (u : Value), Rep g v u → Rep g' v u
  | .iface t v, u, hr => by
    simp only [Rep] at hr ⊢
    obtain ⟨u', rfl, hr⟩ := hr
    exact ⟨u', rfl, Rep.mono h v u' hr⟩
  | .fn f a c, u, hr => by
    simp only [Rep] at hr ⊢
    obtain ⟨f', a', c', rfl, h0, h1, h2⟩ := hr
    exact ⟨f', a', c', rfl, h0.mono h, Reps.mono h a _ h1, Reps.mono h c _ h2⟩
  | .agg cs, u, hr => by
    simp only [Rep] at hr ⊢
    obtain ⟨us, rfl, hl, hr⟩ := hr
    exact ⟨us, rfl, hl, Reps.mono h cs _ hr⟩
  | .tuple vs, u, hr => by
    simp only [Rep] at hr ⊢
    obtain ⟨us, rfl, hr⟩ := hr
    exact ⟨us, rfl, Reps.mono h vs _ hr⟩
  | .bool _, u, hr | .int _ _, u, hr | .str _, u, hr | .nilp, u, hr | .ptr _ _, u, hr | .gptr _, u, hr | .eptr _, u, hr | .nils, u, hr | .emp, u, hr | .non0, u, hr
  | .sl _ _ _, u, hr | .big _ _ _, u, hr | .bytes _, u, hr | .row _ _ _ _, u, hr | .nilm, u, hr | .map _, u, hr | .nilf, u, hr | .nili, u, hr | .junk, u, hr | .loc _ _, u, hr | .der _ _ _, u, hr => by
    simp only [Rep] at hr ⊢
    exact hr.mono h
theorem Reps.mono {g g' : G} (h : g.le g') : ∀ (vs : List V) (us : List Value), Reps g vs us → Reps g' vs us
  | [], us, hr => by simpa [Reps] using hr
  | v :: vs, us, hr => by
    simp only [Reps] at hr ⊢
    obtain ⟨u, r, rfl, hv, hr⟩ := hr
    exact ⟨u, r, rfl, Rep.mono h v u hv, Reps.mono h vs r hr⟩
end
end Go.Ai
/-! States, steps. -/
namespace Go.Ai
open Go
set_option linter.unusedSimpArgs false

def alive : Blk → Bool
  | .gone => false
  | _ => true
def live (st : St) (l : Nat) : Prop := ∃ b, st.heap.get l = some b ∧ alive b = true

def CellsR (g : G) (f : Nat → Option V) (n : Nat) (c : Array Value) (base : Nat) : Prop :=
  ∀ i, i < n → ∃ v u, f i = some v ∧ leaf v = true ∧ c[base + i]? = some u ∧ Rep g v u

def MapR (g : G) : List (V × V) → List MapEntry → Prop
  | [], es => es = []
  | (k, v) :: r, es => ∃ e q, es = e :: q ∧ Rep g k e.key ∧ Rep g v e.val ∧ MapR g r q

/-- a frame without locals -/
def FrP (g : G) (fr : T V) (tmps : Array Value) : Prop := ∀ i v, fr.get i = some v → plain v = true ∧ i < tmps.size ∧ Rep g v (tmps.getD i undef)

def jumpOf : Ex → Option Code
  | .nrm => none
  | .exit i => some (.exit i)
  | .ret => some .ret
def stateOf : Nat → LoopState
  | 0 => .ready
  | 1 => .busy
  | _ => .done

/-- what compiles to what -/
structure LoopR (P : Program) (g : G) (s : Nat) (fr : T V) (ps : List Nat) (a b : IR) (pend : Ex) (L : Loop) : Prop where
  state : L.state = stateOf s
  pend : L.pending = jumpOf pend
  params : L.params = ps.toArray
  code : ∃ nt pm, cCode P nt pm L.assign = a ∧ cCode P nt pm L.body = b ∧ L.tmps.size = nt ∧ noRfn L.assign = true ∧ noRfn L.body = true
  small : ∀ p ∈ ps, p < L.tmps.size
  frame : FrP g fr L.tmps

def BlkR (P : Program) (g : G) (bl : Blk) (base top : Nat) (o : Obj) : Prop :=
  match bl with
  | .cells n t => ∃ c e, o = .cells c e (0, 0) ∧ top = c.size ∧ base + n ≤ c.size ∧ CellsR g t.get n c base
  | .map es => base = 0 ∧ ∃ ce ck, o = .map ce ck ∧ MapR g es ce.toList
  | .iter => base = 0 ∧ o = .mapIter none 0 #[] 0
  | .loop s fr ps a b pend => base = 0 ∧ ∃ L : Loop, o = .loop L ∧ LoopR P g s fr ps a b pend L
  | .gone => True

theorem CellsR.mono {g g' : G} (h : g.le g') {f : Nat → Option V} {n : Nat} {c : Array Value} {base : Nat} (hc : CellsR g f n c base) : CellsR g' f n c base := fun i hi => by
  obtain ⟨v, u, h1, h2, h3, h4⟩ := hc i hi
  exact ⟨v, u, h1, h2, h3, h4.mono h⟩
theorem MapR.mono {g g' : G} (h : g.le g') : ∀ {es : List (V × V)} {ce : List MapEntry}, MapR g es ce → MapR g' es ce
  | [], ce, hm => hm
  | (k, v) :: r, ce, hm => by
    simp only [MapR] at hm ⊢
    obtain ⟨e, q, rfl, h2, h3, h4⟩ := hm
    exact ⟨e, q, rfl, h2.mono h, h3.mono h, MapR.mono h h4⟩
theorem FrP.mono {g g' : G} (h : g.le g') {fr : T V} {tmps : Array Value} (hf : FrP g fr tmps) : FrP g' fr tmps := fun i v e => ⟨(hf i v e).1, (hf i v e).2.1, (hf i v e).2.2.mono h⟩
theorem BlkR.mono {P : Program} {g g' : G} (h : g.le g') {bl : Blk} {base top : Nat} {o : Obj} (hb : BlkR P g bl base top o) : BlkR P g' bl base top o := by
  cases bl with
  | cells n t => obtain ⟨c, e, h1, h2, h3, h4⟩ := hb; exact ⟨c, e, h1, h2, h3, h4.mono h⟩
  | map es => obtain ⟨h0, ce, ck, h1, h2⟩ := hb; exact ⟨h0, ce, ck, h1, h2.mono h⟩
  | iter => exact hb
  | loop s fr ps a b pend =>
    obtain ⟨h0, L, h1, h2⟩ := hb
    exact ⟨h0, L, h1, ⟨h2.state, h2.pend, h2.params, h2.code, h2.small, h2.frame.mono h⟩⟩
  | gone => trivial

structure Sim (P : Program) (X : Env) (g : G) (st : St) (w : World) : Prop where
  sz : ∀ b l, g.own b = some l → b < w.heap.size
  lt : ∀ l x, g.loc l = some x → l < st.next
  ht : ∀ l b, st.heap.get l = some b → l < st.next
  own : ∀ b l, g.own b = some l → ∃ base top, g.loc l = some (b, base, top)
  blk : ∀ l bl, st.heap.get l = some bl → alive bl = true → ∃ b base top o, g.loc l = some (b, base, top) ∧ g.own b = some l ∧ w.heap[b]? = some o ∧ BlkR P g bl base top o
  fz : ∀ b m, g.fz b = some m → g.own b = none ∧ ∃ c e f, w.heap[b]? = some (.cells c e f) ∧ ∀ i v, m i = some v → pureV v = true ∧ ∃ u, c[i]? = some u ∧ Rep g v u
  glob : ∀ k v, X.glob k = some v → g.own k = none ∧ leaf v = true ∧ ∃ c e f u, w.heap[k]? = some (.cells c e f) ∧ c[0]? = some u ∧ Rep g v u

structure Step (P : Program) (X : Env) (g : G) (st : St) (w : World) (g' : G) (st' : St) (w' : World) : Prop where
  le : g.le g'
  sim : Sim P X g' st' w'
  next : st.next ≤ st'.next
  size : w.heap.size ≤ w'.heap.size
  keep : ∀ b o, w.heap[b]? = some o → (∀ l, g.own b = some l → ¬ live st l) → w'.heap[b]? = some o ∧ g'.own b = g.own b
  born : ∀ b l, g'.own b = some l → b < w.heap.size → g.own b = some l ∨ ∃ l0, g.own b = some l0 ∧ live st l0
  dead : ∀ l, l < st.next → live st' l → live st l
  os : w'.os = w.os
  out : w'.output = w.output
  tape : w'.tape = w.tape
  old : ∀ l x, l < st.next → g'.loc l = some x → g.loc l = some x
  fzo : ∀ b m, b < w.heap.size → g'.fz b = some m → g.fz b = some m

section
variable {P : Program} {X : Env} {g g' g'' : G} {st st' st'' : St} {w w' w'' : World}
theorem Step.refl (h : Sim P X g st w) : Step P X g st w g st w :=
  ⟨G.le.refl g, h, Nat.le_refl _, Nat.le_refl _, fun _ _ h _ => ⟨h, rfl⟩, fun _ _ h _ => .inl h, fun _ _ h => h, rfl, rfl, rfl, fun _ _ _ h => h, fun _ _ _ h => h⟩
theorem Sim.own_lt (h : Sim P X g st w) {b l : Nat} (ho : g.own b = some l) : l < st.next := by
  obtain ⟨base, top, e⟩ := h.own b l ho
  exact h.lt _ _ e
theorem Step.trans (h0 : Sim P X g st w) (h : Step P X g st w g' st' w') (k : Step P X g' st' w' g'' st'' w'') : Step P X g st w g'' st'' w'' := by
  refine ⟨h.le.trans k.le, k.sim, Nat.le_trans h.next k.next, Nat.le_trans h.size k.size, fun b o hb hn => ?_, fun b l ho hb => ?_, fun l hl hv => h.dead l hl (k.dead l (Nat.lt_of_lt_of_le hl h.next) hv), k.os.trans h.os, k.out.trans h.out, k.tape.trans h.tape, fun l x hl hx => h.old l x hl (k.old l x (Nat.lt_of_lt_of_le hl h.next) hx), fun b m hb hm => h.fzo b m hb (k.fzo b m (Nat.lt_of_lt_of_le hb h.size) hm)⟩
  · obtain ⟨h1, h2⟩ := h.keep b o hb hn
    obtain ⟨h3, h4⟩ := k.keep b o h1 fun l ho hv => by
      rw [h2] at ho
      exact hn l ho (h.dead l (h0.own_lt ho) hv)
    exact ⟨h3, h4.trans h2⟩
  · rcases k.born b l ho (Nat.lt_of_lt_of_le hb h.size) with h1 | ⟨l0, h1, h2⟩
    · exact h.born b l h1 hb
    · rcases h.born b l0 h1 hb with h3 | h3
      · exact .inr ⟨l0, h3, h.dead l0 (h0.own_lt h3) h2⟩
      · exact .inr h3
/-- the tape has been asked -/
theorem Step.drew (h : Sim P X g st w) (n : Nat) : Step P X g st w g st { w with drawn := n } :=
  ⟨G.le.refl g, ⟨h.sz, h.lt, h.ht, h.own, h.blk, h.fz, h.glob⟩, Nat.le_refl _, Nat.le_refl _, fun _ _ h _ => ⟨h, rfl⟩, fun _ _ h _ => .inl h, fun _ _ h => h, rfl, rfl, rfl, fun _ _ _ h => h, fun _ _ _ h => h⟩

theorem get_push {α : Type} (a : Array α) (x y : α) (i : Nat) (h : a[i]? = some y) : (a.push x)[i]? = some y := by
  have hlt : i < a.size := (Array.getElem?_eq_some_iff.1 h).1
  rw [Array.getElem?_push, if_neg (by omega)]; exact h
theorem get_push_size {α : Type} (a : Array α) (x : α) : (a.push x)[a.size]? = some x := by simp

theorem Sim.fz_lt (h : Sim P X g st w) {b : Nat} {m : Nat → Option V} (hf : g.fz b = some m) : b < w.heap.size := by
  obtain ⟨_, c, e, f, h1, _⟩ := h.fz b m hf
  exact (Array.getElem?_eq_some_iff.1 h1).1
end

/-! ### steps of a kind -/
/-- the ghost with one more block: of an abstract one; of frozen cells -/
def G.newLoc (g : G) (l b base top : Nat) : G := { loc := fun k => if k = l then some (b, base, top) else g.loc k, fz := g.fz, own := fun k => if k = b then some l else g.own k }
def G.newFz (g : G) (b : Nat) (m : Nat → Option V) : G := { loc := g.loc, fz := fun k => if k = b then some m else g.fz k, own := g.own }

/-- w' is w but for one block -/
structure Wput (w w' : World) (b : Nat) (o : Obj) : Prop where
  os : w'.os = w.os
  out : w'.output = w.output
  tape : w'.tape = w.tape
  size : w'.heap.size = w.heap.size
  here : w'.heap[b]? = some o
  other : ∀ k, k ≠ b → w'.heap[k]? = w.heap[k]?
/-- w' is w with one block more -/
structure Wpush (w w' : World) (o : Obj) : Prop where
  os : w'.os = w.os
  out : w'.output = w.output
  tape : w'.tape = w.tape
  heap : w'.heap = w.heap.push o
theorem Wpush.get {w w' : World} {o : Obj} (h : Wpush w w' o) {k : Nat} {x : Obj} (hk : w.heap[k]? = some x) : w'.heap[k]? = some x := by rw [h.heap]; exact get_push _ _ _ _ hk
theorem Wpush.here {w w' : World} {o : Obj} (h : Wpush w w' o) : w'.heap[w.heap.size]? = some o := by rw [h.heap]; simp
theorem Wpush.size {w w' : World} {o : Obj} (h : Wpush w w' o) : w'.heap.size = w.heap.size + 1 := by rw [h.heap]; simp
theorem Wpush.mk' (w : World) (o : Obj) (d : Nat) : Wpush w { w with heap := w.heap.push o, drawn := d } o := ⟨rfl, rfl, rfl, rfl⟩
theorem Wput.setRow {w : World} {b : Nat} {c c' : Array Value} {e : TypeId} {f : Nat × Nat} (h : w.heap[b]? = some (.cells c e f)) : Wput w (w.setRow b c') b (.cells c' e f) :=
  ⟨rfl, rfl, rfl, by simp, setRow_heap w b c c' e f h, fun k hk => setRow_other w b k c' hk⟩

theorem lt_of_get {α : Type} {a : Array α} {i : Nat} {x : α} (h : a[i]? = some x) : i < a.size := (Array.getElem?_eq_some_iff.1 h).1

section
variable {P : Program} {X : Env} {g : G} {st : St} {w w' : World}

theorem Sim.own_top (h : Sim P X g st w) : g.own w.heap.size = none := by
  cases ho : g.own w.heap.size with
  | none => rfl
  | some l => exact absurd (h.sz _ _ ho) (Nat.lt_irrefl _)
theorem Sim.fz_top (h : Sim P X g st w) : g.fz w.heap.size = none := by
  cases ho : g.fz w.heap.size with
  | none => rfl
  | some l => exact absurd (h.fz_lt ho) (Nat.lt_irrefl _)
theorem Sim.loc_top (h : Sim P X g st w) : g.loc st.next = none := by
  cases ho : g.loc st.next with
  | none => rfl
  | some l => exact absurd (h.lt _ _ ho) (Nat.lt_irrefl _)
theorem le_newLoc {l b base top : Nat} (h : g.loc l = none) : g.le (g.newLoc l b base top) :=
  ⟨fun k x hk => by by_cases e : k = l
                    · subst e; rw [h] at hk; cases hk
                    · simp [G.newLoc, e, hk], fun _ _ h => h⟩
theorem le_newFz {b : Nat} {m : Nat → Option V} (h : g.fz b = none) : g.le (g.newFz b m) :=
  ⟨fun _ _ h => h, fun k x hk => by by_cases e : k = b
                                    · subst e; rw [h] at hk; cases hk
                                    · simp [G.newFz, e, hk]⟩

/-- a new block that nobody tracks -/
theorem Step.garbage (h : Sim P X g st w) {o : Obj} (hw : Wpush w w' o) : Step P X g st w g st w' :=
  ⟨G.le.refl g, ⟨fun b l ho => by rw [hw.size]; exact Nat.lt_succ_of_lt (h.sz b l ho), h.lt, h.ht, h.own,
      fun l bl hl ha => let ⟨b, base, top, o', h1, h2, h3, h4⟩ := h.blk l bl hl ha; ⟨b, base, top, o', h1, h2, hw.get h3, h4⟩,
      fun b m hm => let ⟨h0, c, e, f, h1, h2⟩ := h.fz b m hm; ⟨h0, c, e, f, hw.get h1, h2⟩,
      fun k v hk => let ⟨h0, h5, c, e, f, u, h1, h2, h3⟩ := h.glob k v hk; ⟨h0, h5, c, e, f, u, hw.get h1, h2, h3⟩⟩,
    Nat.le_refl _, by rw [hw.size]; omega, fun b o' hb _ => ⟨hw.get hb, rfl⟩, fun b l ho _ => .inl ho, fun _ _ h => h, hw.os, hw.out, hw.tape, fun _ _ _ h => h, fun _ _ _ h => h⟩

/-- frozen cells -/
theorem Step.newFz (h : Sim P X g st w) {c : Array Value} {e : TypeId} {f : Nat × Nat} (hw : Wpush w w' (.cells c e f)) {m : Nat → Option V}
    (hm : ∀ i v, m i = some v → pureV v = true ∧ ∃ u, c[i]? = some u ∧ Rep g v u) : Step P X g st w (g.newFz w.heap.size m) st w' := by
  have hle : g.le (g.newFz w.heap.size m) := le_newFz h.fz_top
  refine ⟨hle, ⟨fun b l ho => by rw [hw.size]; exact Nat.lt_succ_of_lt (h.sz b l ho), h.lt, h.ht, h.own, fun l bl hl ha => ?_, fun b m' hb => ?_, fun k v hk => ?_⟩,
    Nat.le_refl _, by rw [hw.size]; omega, fun b o' hb _ => ⟨hw.get hb, rfl⟩, fun b l ho _ => .inl ho, fun _ _ h => h, hw.os, hw.out, hw.tape, fun _ _ _ h => h, fun b m hb hm => by simp only [G.newFz, Nat.ne_of_lt hb, if_false] at hm; exact hm⟩
  · obtain ⟨b, base, top, o', h1, h2, h3, h4⟩ := h.blk l bl hl ha
    exact ⟨b, base, top, o', h1, h2, hw.get h3, h4.mono hle⟩
  · by_cases e1 : b = w.heap.size
    · subst e1
      simp only [G.newFz, if_true, Option.some.injEq] at hb
      subst hb
      exact ⟨h.own_top, c, e, f, hw.here, fun i v hi => let ⟨h1, u, h2, h3⟩ := hm i v hi; ⟨h1, u, h2, h3.mono hle⟩⟩
    · simp only [G.newFz, e1, if_false] at hb
      obtain ⟨h0, c, e, f, h1, h2⟩ := h.fz b m' hb
      exact ⟨h0, c, e, f, hw.get h1, fun i v hi => let ⟨h3, u, h4, h5⟩ := h2 i v hi; ⟨h3, u, h4, h5.mono hle⟩⟩
  · obtain ⟨h0, h5, c, e, f, u, h1, h2, h3⟩ := h.glob k v hk
    exact ⟨h0, h5, c, e, f, u, hw.get h1, h2, h3.mono hle⟩

def heap1 (st : St) : Option Blk → T Blk
  | some bl => st.heap.set st.next bl
  | none => st.heap
/-- a new abstract block (none: the number alone, for a local) -/
theorem Step.newLoc (h : Sim P X g st w) {o : Obj} (hw : Wpush w w' o) (ob : Option Blk) (base top : Nat)
    (hb : ∀ bl, ob = some bl → BlkR P (g.newLoc st.next w.heap.size base top) bl base top o) :
    Step P X g st w (g.newLoc st.next w.heap.size base top) { heap := heap1 st ob, next := st.next + 1, lim := st.lim, wr := st.wr } w' := by
  have hle : g.le (g.newLoc st.next w.heap.size base top) := le_newLoc h.loc_top
  have hold : ∀ b x, w.heap[b]? = some x → b ≠ w.heap.size := fun b x hx e => by have := lt_of_get hx; omega
  have hget : ∀ l bl, (heap1 st ob).get l = some bl → (l = st.next ∧ ob = some bl) ∨ st.heap.get l = some bl := by
    intro l bl hl
    cases ob with
    | none => exact .inr hl
    | some x =>
      simp only [heap1, T.get_set] at hl
      by_cases e : st.next = l
      · rw [if_pos e] at hl; exact .inl ⟨e.symm, hl⟩
      · rw [if_neg e] at hl; exact .inr hl
  refine ⟨hle, ⟨fun b l ho => ?_, fun l x hl => ?_, fun l bl hl => ?_, fun b l ho => ?_, fun l bl hl ha => ?_, fun b m hm => ?_, fun k v hk => ?_⟩,
    Nat.le_succ _, by rw [hw.size]; omega, fun b x hx _ => ⟨hw.get hx, by simp [G.newLoc, hold b x hx]⟩, fun b l ho hlt => .inl ?_, fun l hl hv => ?_, hw.os, hw.out, hw.tape, (fun l x hl hx => by simp only [G.newLoc, Nat.ne_of_lt hl, if_false] at hx; exact hx), fun _ _ _ h => h⟩
  · rw [hw.size]
    by_cases e : b = w.heap.size
    · omega
    · simp only [G.newLoc, e, if_false] at ho
      exact Nat.lt_succ_of_lt (h.sz b l ho)
  · show l < st.next + 1
    by_cases e : l = st.next
    · omega
    · simp only [G.newLoc, e, if_false] at hl
      exact Nat.lt_succ_of_lt (h.lt l x hl)
  · show l < st.next + 1
    rcases hget l bl hl with ⟨e, _⟩ | h1
    · omega
    · exact Nat.lt_succ_of_lt (h.ht l bl h1)
  · by_cases e : b = w.heap.size
    · simp only [G.newLoc, e, if_true, Option.some.injEq] at ho
      subst ho
      exact ⟨base, top, by simp [G.newLoc, e]⟩
    · simp only [G.newLoc, e, if_false] at ho
      obtain ⟨bs, tp, h1⟩ := h.own b l ho
      exact ⟨bs, tp, hle.loc _ _ h1⟩
  · rcases hget l bl hl with ⟨e, e2⟩ | h1
    · subst e
      exact ⟨w.heap.size, base, top, o, by simp [G.newLoc], by simp [G.newLoc], hw.here, hb bl e2⟩
    · obtain ⟨b, bs, tp, o', h2, h3, h4, h5⟩ := h.blk l bl h1 ha
      exact ⟨b, bs, tp, o', hle.loc _ _ h2, by simp [G.newLoc, hold b _ h4, h3], hw.get h4, h5.mono hle⟩
  · obtain ⟨h0, c, e, f, h1, h2⟩ := h.fz b m hm
    exact ⟨by simp [G.newLoc, hold b _ h1, h0], c, e, f, hw.get h1, fun i v hi => let ⟨h3, u, h4, h5⟩ := h2 i v hi; ⟨h3, u, h4, h5.mono hle⟩⟩
  · obtain ⟨h0, h5, c, e, f, u, h1, h2, h3⟩ := h.glob k v hk
    exact ⟨by simp [G.newLoc, hold k _ h1, h0], h5, c, e, f, u, hw.get h1, h2, h3.mono hle⟩
  · simp only [G.newLoc] at ho
    rw [if_neg (by omega)] at ho
    exact ho
  · obtain ⟨bl, h1, h2⟩ := hv
    rcases hget l bl h1 with ⟨e, _⟩ | h1
    · omega
    · exact ⟨bl, h1, h2⟩

/-- a block of the heap's is written -/
theorem Step.put (h : Sim P X g st w) {l b base top : Nat} {bl0 bl : Blk} {o : Obj} (hl : st.heap.get l = some bl0) (ha : alive bl0 = true) (hloc : g.loc l = some (b, base, top))
    (hw : Wput w w' b o) (hb : alive bl = true → BlkR P g bl base top o) {wr : List Tc} {lim : Nat} :
    Step P X g st w g { heap := st.heap.set l bl, next := st.next, lim := lim, wr := wr } w' := by
  have hlive : live st l := ⟨bl0, hl, ha⟩
  obtain ⟨b', bs, tp, o0, h1, h2, h3, h4⟩ := h.blk l bl0 hl ha
  rw [hloc] at h1
  obtain ⟨rfl, rfl, rfl⟩ : b = b' ∧ base = bs ∧ top = tp := by simpa using h1
  have hfz : ∀ k m, g.fz k = some m → k ≠ b := fun k m hm e => by subst e; have := (h.fz k m hm).1; rw [h2] at this; cases this
  have hgl : ∀ k v, X.glob k = some v → k ≠ b := fun k v hk e => by subst e; have := (h.glob k v hk).1; rw [h2] at this; cases this
  refine ⟨G.le.refl g, ⟨fun b l ho => by rw [hw.size]; exact h.sz b l ho, h.lt, fun l' bl' hl' => ?_, h.own, fun l' bl' hl' ha' => ?_, fun k m hm => ?_, fun k v hk => ?_⟩,
    Nat.le_refl _, by rw [hw.size]; omega, fun k x hx hn => ⟨?_, rfl⟩, fun _ _ ho _ => .inl ho, fun l' _ hv => ?_, hw.os, hw.out, hw.tape, fun _ _ _ h => h, fun _ _ _ h => h⟩
  · simp only [T.get_set] at hl'
    by_cases e : l = l'
    · subst e; exact h.ht _ _ hl
    · rw [if_neg e] at hl'; exact h.ht _ _ hl'
  · simp only [T.get_set] at hl'
    by_cases e : l = l'
    · subst e
      rw [if_pos rfl] at hl'
      cases hl'
      exact ⟨b, base, top, o, hloc, h2, hw.here, hb ha'⟩
    · rw [if_neg e] at hl'
      obtain ⟨b', bs', tp', o', h5, h6, h7, h8⟩ := h.blk l' bl' hl' ha'
      have hne : b' ≠ b := fun e1 => by subst e1; rw [h2] at h6; exact e (Option.some.inj h6)
      exact ⟨b', bs', tp', o', h5, h6, by rw [hw.other _ hne]; exact h7, h8⟩
  · obtain ⟨h0, c, e, f, h5, h6⟩ := h.fz k m hm
    exact ⟨h0, c, e, f, by rw [hw.other _ (hfz k m hm)]; exact h5, h6⟩
  · obtain ⟨h0, h9, c, e, f, u, h5, h6, h7⟩ := h.glob k v hk
    exact ⟨h0, h9, c, e, f, u, by rw [hw.other _ (hgl k v hk)]; exact h5, h6, h7⟩
  · rw [hw.other k fun e => by subst e; exact hn l h2 hlive]; exact hx
  · obtain ⟨bl', h5, h6⟩ := hv
    simp only [T.get_set] at h5
    by_cases e : l = l'
    · subst e; exact hlive
    · rw [if_neg e] at h5; exact ⟨bl', h5, h6⟩

/-- a block goes to a new number, and is written -/
theorem Step.move (h : Sim P X g st w) {l b base top base' : Nat} {bl0 bl : Blk} {o : Obj} (hl : st.heap.get l = some bl0) (ha : alive bl0 = true) (hloc : g.loc l = some (b, base, top))
    (hw : Wput w w' b o) (hb : BlkR P (g.newLoc st.next b base' top) bl base' top o) {wr : List Tc} {lim : Nat} :
    Step P X g st w (g.newLoc st.next b base' top) { heap := (st.heap.set l .gone).set st.next bl, next := st.next + 1, lim := lim, wr := wr } w' := by
  have hle : g.le (g.newLoc st.next b base' top) := le_newLoc h.loc_top
  have hlive : live st l := ⟨bl0, hl, ha⟩
  have hln : l < st.next := h.ht _ _ hl
  obtain ⟨b', bs, tp, o0, h1, h2, h3, h4⟩ := h.blk l bl0 hl ha
  rw [hloc] at h1
  obtain ⟨rfl, rfl, rfl⟩ : b = b' ∧ base = bs ∧ top = tp := by simpa using h1
  have hfz : ∀ k m, g.fz k = some m → k ≠ b := fun k m hm e => by subst e; have := (h.fz k m hm).1; rw [h2] at this; cases this
  have hgl : ∀ k v, X.glob k = some v → k ≠ b := fun k v hk e => by subst e; have := (h.glob k v hk).1; rw [h2] at this; cases this
  have hget : ∀ l' bl', ((st.heap.set l .gone).set st.next bl).get l' = some bl' → alive bl' = true → (l' = st.next ∧ bl' = bl) ∨ (l' ≠ l ∧ st.heap.get l' = some bl') := by
    intro l' bl' hl' ha'
    simp only [T.get_set] at hl'
    by_cases e : st.next = l'
    · rw [if_pos e] at hl'; exact .inl ⟨e.symm, (Option.some.inj hl').symm⟩
    · rw [if_neg e] at hl'
      by_cases e2 : l = l'
      · rw [if_pos e2] at hl'; cases hl'; cases ha'
      · rw [if_neg e2] at hl'; exact .inr ⟨Ne.symm e2, hl'⟩
  refine ⟨hle, ⟨fun k l' ho => ?_, fun l' x hx => ?_, fun l' bl' hl' => ?_, fun k l' ho => ?_, fun l' bl' hl' ha' => ?_, fun k m hm => ?_, fun k v hk => ?_⟩,
    Nat.le_succ _, by rw [hw.size]; omega, fun k x hx hn => ?_, fun k l' ho hlt => ?_, fun l' hl' hv => ?_, hw.os, hw.out, hw.tape, (fun l x hl hx => by simp only [G.newLoc, Nat.ne_of_lt hl, if_false] at hx; exact hx), fun _ _ _ h => h⟩
  · rw [hw.size]
    by_cases e : k = b
    · subst e; exact h.sz _ _ h2
    · simp only [G.newLoc, e, if_false] at ho; exact h.sz _ _ ho
  · show l' < st.next + 1
    by_cases e : l' = st.next
    · omega
    · simp only [G.newLoc, e, if_false] at hx; exact Nat.lt_succ_of_lt (h.lt _ _ hx)
  · show l' < st.next + 1
    simp only [T.get_set] at hl'
    by_cases e : st.next = l'
    · omega
    · rw [if_neg e] at hl'
      by_cases e2 : l = l'
      · omega
      · rw [if_neg e2] at hl'; exact Nat.lt_succ_of_lt (h.ht _ _ hl')
  · by_cases e : k = b
    · simp only [G.newLoc, e, if_true, Option.some.injEq] at ho
      subst ho
      exact ⟨base', top, by simp [G.newLoc, e]⟩
    · simp only [G.newLoc, e, if_false] at ho
      obtain ⟨bs, tp, h5⟩ := h.own k l' ho
      exact ⟨bs, tp, hle.loc _ _ h5⟩
  · rcases hget l' bl' hl' ha' with ⟨e, e2⟩ | ⟨e, h5⟩
    · subst e; subst e2
      exact ⟨b, base', top, o, by simp [G.newLoc], by simp [G.newLoc], hw.here, hb⟩
    · obtain ⟨b', bs', tp', o', h6, h7, h8, h9⟩ := h.blk l' bl' h5 ha'
      have hne : b' ≠ b := fun e1 => by subst e1; rw [h2] at h7; exact e (Option.some.inj h7).symm
      exact ⟨b', bs', tp', o', hle.loc _ _ h6, by simp [G.newLoc, hne, h7], by rw [hw.other _ hne]; exact h8, h9.mono hle⟩
  · obtain ⟨h0, c, e, f, h5, h6⟩ := h.fz k m hm
    exact ⟨by simp [G.newLoc, hfz k m hm, h0], c, e, f, by rw [hw.other _ (hfz k m hm)]; exact h5, fun i v hi => let ⟨h3, u, h4, h5⟩ := h6 i v hi; ⟨h3, u, h4, h5.mono hle⟩⟩
  · obtain ⟨h0, h9, c, e, f, u, h5, h6, h7⟩ := h.glob k v hk
    exact ⟨by simp [G.newLoc, hgl k v hk, h0], h9, c, e, f, u, by rw [hw.other _ (hgl k v hk)]; exact h5, h6, h7.mono hle⟩
  · have hne : k ≠ b := fun e => by subst e; exact hn l h2 hlive
    exact ⟨by rw [hw.other k hne]; exact hx, by simp [G.newLoc, hne]⟩
  · by_cases e : k = b
    · subst e; exact .inr ⟨l, h2, hlive⟩
    · simp only [G.newLoc, e, if_false] at ho; exact .inl ho
  · obtain ⟨bl', h5, h6⟩ := hv
    rcases hget l' bl' h5 h6 with ⟨e, _⟩ | ⟨_, h7⟩
    · omega
    · exact ⟨bl', h7, h6⟩
end
end Go.Ai
/-! Frames and operands. -/
namespace Go.Ai
open Go
set_option linter.unusedSimpArgs false

/-- what a local stands for -/
def LocR (g : G) (w : World) (id : Nat) (cs : List V) : Prop :=
  ∃ b c e, g.loc id = some (b, 0, c.size) ∧ g.own b = some id ∧ w.heap[b]? = some (.cells c e (0, 0)) ∧ c.size = cs.length ∧ CellsR g (fun i => cs[i]?) cs.length c 0
def VR (g : G) (st : St) (w : World) (v : V) (u : Value) : Prop :=
  match v with
  | .loc id cs => LocR g w id cs ∧ ¬ live st id ∧ ∃ b top, g.loc id = some (b, 0, top) ∧ u = .pointer (some ⟨b, 0, none⟩)
  | .der _ off id => ∃ b top, g.loc id = some (b, 0, top) ∧ u = .pointer (some ⟨b, off, none⟩)
  | v => Rep g v u
theorem VR_plain {g : G} {st : St} {w : World} {v : V} {u : Value} (hp : plain v = true) : VR g st w v u ↔ Rep g v u := by
  cases v <;> simp_all [VR, plain]

structure FrR (g : G) (st : St) (w : World) (fr : T V) (tmps : Array Value) : Prop where
  val : ∀ i v, fr.get i = some v → i < tmps.size ∧ VR g st w v (tmps.getD i undef)
  apart : ∀ i j id cs cs', fr.get i = some (.loc id cs) → fr.get j = some (.loc id cs') → i = j

section
variable {P : Program} {X : Env} {g g' : G} {st st' : St} {w w' : World} {fr : T V} {tmps : Array Value}

theorem LocR.step (hs : Sim P X g st w) (h : Step P X g st w g' st' w') {id : Nat} {cs : List V} (hl : LocR g w id cs) (hn : ¬ live st id) : LocR g' w' id cs ∧ ¬ live st' id := by
  obtain ⟨b, c, e, h1, h2, h3, h4, h5⟩ := hl
  have hlt := hs.own_lt h2
  obtain ⟨h6, h7⟩ := h.keep b _ h3 fun l ho => by
    rw [h2] at ho
    cases ho
    exact hn
  exact ⟨⟨b, c, e, h.le.loc _ _ h1, h7.trans h2, h6, h4, h5.mono h.le⟩, fun hv => hn (h.dead id hlt hv)⟩
theorem VR.step (hs : Sim P X g st w) (h : Step P X g st w g' st' w') {v : V} {u : Value} (hv : VR g st w v u) : VR g' st' w' v u := by
  by_cases hp : plain v = true
  · rw [VR_plain hp] at hv ⊢; exact hv.mono h.le
  · cases v <;> simp [plain] at hp
    case loc id cs =>
      obtain ⟨h1, h2, b, top, h3, h4⟩ := hv
      obtain ⟨h5, h6⟩ := h1.step hs h h2
      exact ⟨h5, h6, b, top, h.le.loc _ _ h3, h4⟩
    case der j off id =>
      obtain ⟨b, top, h3, h4⟩ := hv
      exact ⟨b, top, h.le.loc _ _ h3, h4⟩
theorem FrR.step (hs : Sim P X g st w) (h : Step P X g st w g' st' w') (hf : FrR g st w fr tmps) : FrR g' st' w' fr tmps :=
  ⟨fun i v hi => ⟨(hf.val i v hi).1, (hf.val i v hi).2.step hs h⟩, hf.apart⟩

/-- is a value's local none of the frame's? -/
def Fresh (fr : T V) (v : V) : Prop := ∀ id cs, v = .loc id cs → ∀ i cs', fr.get i ≠ some (.loc id cs')
theorem Fresh.plain {v : V} (h : plain v = true) : Fresh fr v := fun id cs e => by subst e; simp [Go.Ai.plain] at h
theorem getD_set (a : Array Value) (d i : Nat) (u : Value) (hd : d < a.size) : (a.setIfInBounds d u).getD i undef = if d = i then u else a.getD i undef := by
  by_cases e : d = i
  · subst e; simp [Array.getD, hd]
  · have h1 : (a.setIfInBounds d u)[i]? = a[i]? := Array.getElem?_setIfInBounds_ne e
    simp only [e, if_false]
    rw [Array.getD_eq_getD_getElem?, Array.getD_eq_getD_getElem?, h1]
theorem FrR.set (hf : FrR g st w fr tmps) {d : Nat} (hd : d < tmps.size) {v : V} {u : Value} (hv : VR g st w v u) (hfresh : Fresh fr v) : FrR g st w (fr.set d v) (tmps.setIfInBounds d u) := by
  refine ⟨fun i v' hi => ?_, fun i j id cs cs' hi hj => ?_⟩
  · rw [T.get_set] at hi
    rw [getD_set _ _ _ _ hd, Array.size_setIfInBounds]
    by_cases e : d = i
    · rw [if_pos e] at hi; cases hi; rw [if_pos e]; exact ⟨e ▸ hd, hv⟩
    · rw [if_neg e] at hi; rw [if_neg e]; exact hf.val i v' hi
  · rw [T.get_set] at hi hj
    by_cases e : d = i
    · rw [if_pos e] at hi
      by_cases e' : d = j
      · exact e.symm.trans e'
      · rw [if_neg e'] at hj
        exact absurd hj (hfresh id cs (Option.some.inj hi) j cs')
    · rw [if_neg e] at hi
      by_cases e' : d = j
      · rw [if_pos e'] at hj
        exact absurd hi (hfresh id cs' (Option.some.inj hj) i cs)
      · rw [if_neg e'] at hj
        exact hf.apart i j id cs cs' hi hj
/-- the same slot's local, written -/
theorem FrR.reset (hf : FrR g st w fr tmps) {d id : Nat} {cs cs' : List V} (hi : fr.get d = some (.loc id cs)) (hv : VR g st w (.loc id cs') (tmps.getD d undef)) : FrR g st w (fr.set d (.loc id cs')) tmps := by
  refine ⟨fun i v' hi' => ?_, fun i j id' c c' h1 h2 => ?_⟩
  · rw [T.get_set] at hi'
    by_cases e : d = i
    · rw [if_pos e] at hi'; cases hi'; subst e; exact ⟨(hf.val _ _ hi).1, hv⟩
    · rw [if_neg e] at hi'; exact hf.val i v' hi'
  · rw [T.get_set] at h1 h2
    have key : ∀ k c, (if d = k then some (V.loc id cs') else fr.get k) = some (.loc id' c) → ∃ c, fr.get k = some (.loc id' c) := by
      intro k c h
      by_cases e : d = k
      · rw [if_pos e] at h; cases h; exact ⟨cs, e ▸ hi⟩
      · rw [if_neg e] at h; exact ⟨c, h⟩
    obtain ⟨c1, h3⟩ := key i c h1
    obtain ⟨c2, h4⟩ := key j c' h2
    exact hf.apart i j id' c1 c2 h3 h4

/-! ### constants -/
theorem valL_rep {u : Value} {v : V} (h : valL u = some v) : Rep g v u ∧ plain v = true ∧ leaf v = true := by
  cases u with
  | bool b => simp [valL] at h; subst h; simp [Rep, RepL, plain, leaf]
  | int k n => simp [valL] at h; subst h; simp [Rep, RepL, plain, leaf]
  | string s => simp [valL] at h; subst h; exact ⟨by simp only [Rep, RepL]; exact ⟨s, rfl, rfl⟩, rfl, rfl⟩
  | pointer a => cases a <;> simp [valL] at h; subst h; simp [Rep, RepL, plain, leaf]
  | slice a l c =>
    cases a <;> simp only [valL] at h
    · cases h1 : Nat.beq l 0 <;> simp [h1] at h
      cases h2 : Nat.beq c 0 <;> simp [h2] at h
      have := beqT h1
      have := beqT h2
      subst_vars
      simp [Rep, RepL, plain, leaf]
    · cases h
  | map r => cases r <;> simp [valL] at h; subst h; simp [Rep, RepL, plain, leaf]
  | nilFunc => simp [valL] at h; subst h; simp [Rep, RepL, plain, leaf]
  | nilIface => simp [valL] at h; subst h; simp [Rep, RepL, plain, leaf]
  | func f a c =>
    cases f <;> simp only [valL] at h <;> try cases h
    cases ha : a.toList with
    | cons x xs => simp [ha] at h
    | nil =>
      cases hcc : c.toList with
      | cons x xs => simp [ha, hcc] at h
      | nil =>
        simp [ha, hcc] at h; subst h
        simp only [Rep, Reps, FnR, plain, leaf, and_self, and_true]
        exact ⟨_, a, c, rfl, rfl, ha, hcc⟩
  | _ => simp [valL] at h
theorem mapO_valL : ∀ {us : List Value} {vs : List V}, mapO valL us = some vs → Reps g vs us ∧ leafs vs = true
  | [], vs, h => by simp [mapO] at h; subst h; simp [Reps, leafs]
  | u :: us, vs, h => by
    simp only [mapO] at h
    cases h1 : valL u with
    | none => simp [h1] at h
    | some v =>
      cases h2 : mapO valL us with
      | none => simp [h1, h2] at h
      | some r =>
        simp [h1, h2] at h; subst h
        obtain ⟨h3, _, h4⟩ := valL_rep (g := g) h1
        obtain ⟨h5, h6⟩ := mapO_valL h2
        exact ⟨by simp only [Reps]; exact ⟨u, us, rfl, h3, h5⟩, by simp [leafs, h4, h6]⟩
theorem valV_rep {u : Value} {v : V} (h : valV u = some v) : Rep g v u ∧ plain v = true := by
  cases u with
  | agg cs =>
    simp only [valV] at h
    cases h1 : mapO valL cs.toList with
    | none => simp [h1] at h
    | some l =>
      simp [h1] at h; subst h
      obtain ⟨h2, h3⟩ := mapO_valL (g := g) h1
      exact ⟨by simp only [Rep]; exact ⟨cs, rfl, h3, h2⟩, rfl⟩
  | _ =>
    simp only [valV] at h
    exact ⟨(valL_rep h).1, (valL_rep (g := g) h).2.1⟩

/-! ### operands -/
theorem ev_sound {a : Act} (hf : FrR g st w fr a.tmps) {x : Operand} {y : Opd} (hc : cOpd x = some y) {v : V} (hv : ev fr y = some v) : Rep g v (a.eval x) ∧ plain v = true := by
  cases x with
  | tmp t =>
    simp [cOpd] at hc; subst hc
    simp only [ev] at hv
    cases hg : fr.get t with
    | none => simp [hg] at hv
    | some v' =>
      simp only [hg] at hv
      cases hp : plain v' with
      | false => simp [hp] at hv
      | true =>
        simp [hp] at hv; subst hv
        exact ⟨(VR_plain hp).1 (hf.val t _ hg).2, hp⟩
  | const c =>
    simp only [cOpd] at hc
    cases h1 : valV c with
    | none => simp [h1] at hc
    | some v' =>
      simp [h1] at hc; subst hc
      simp [ev] at hv; subst hv
      exact valV_rep h1
  | global k => simp [cOpd] at hc; subst hc; simp [ev] at hv; subst hv; simp [Rep, RepL, Act.eval, plain]
  | func f => simp [cOpd] at hc; subst hc; simp [ev] at hv; subst hv; exact ⟨by simp only [Rep, Reps, FnR, Act.eval]; exact ⟨_, _, _, rfl, rfl, rfl, rfl⟩, rfl⟩

theorem evs_sound' {a : Act} (hf : FrR g st w fr a.tmps) : ∀ {xs : List Operand} {ys : List Opd} {vs : List V}, mapO cOpd xs = some ys → evs fr ys = some vs → Reps g vs (xs.map a.eval) ∧ ∀ v ∈ vs, plain v = true
  | [], ys, vs, h, hv => by simp [mapO] at h; subst h; simp [evs] at hv; subst hv; simp [Reps]
  | x :: xs, ys, vs, h, hv => by
    simp only [mapO] at h
    cases h1 : cOpd x with
    | none => simp [h1] at h
    | some y =>
      cases h2 : mapO cOpd xs with
      | none => simp [h1, h2] at h
      | some r =>
        simp [h1, h2] at h; subst h
        simp only [evs] at hv
        cases h3 : ev fr y with
        | none => simp [h3] at hv
        | some v =>
          cases h4 : evs fr r with
          | none => simp [h3, h4] at hv
          | some q =>
            simp [h3, h4] at hv; subst hv
            obtain ⟨h5, h6⟩ := ev_sound hf h1 h3
            obtain ⟨h7, h8⟩ := evs_sound' hf h2 h4
            exact ⟨by simp only [List.map_cons, Reps]; exact ⟨_, _, rfl, h5, h7⟩, fun v hv => by rcases List.mem_cons.1 hv with rfl | h; exact h6; exact h8 v h⟩
theorem evs_sound {a : Act} (hf : FrR g st w fr a.tmps) {xs : Array Operand} {ys : List Opd} {vs : List V} (h : cOpds xs = some ys) (hv : evs fr ys = some vs) : Reps g vs (xs.map a.eval).toList := by
  have := (evs_sound' hf h hv).1
  simpa using this

/-- an address where it is used -/
def AdR (g : G) (st : St) (w : World) (fr : T V) : Ad → Value → Prop
  | .loc slot off id cs, u => fr.get slot = some (.loc id cs) ∧ LocR g w id cs ∧ ¬ live st id ∧ ∃ b top, g.loc id = some (b, 0, top) ∧ u = .pointer (some ⟨b, off, none⟩)
  | .val v, u => Rep g v u ∧ plain v = true
theorem addr_sound {a : Act} (hf : FrR g st w fr a.tmps) {x : Operand} {y : Opd} (hc : cOpd x = some y) {ad : Ad} (ha : addr fr y = some ad) : AdR g st w fr ad (a.eval x) := by
  cases x with
  | tmp t =>
    simp [cOpd] at hc; subst hc
    simp only [addr] at ha
    cases hg : fr.get t with
    | none => simp [hg] at ha
    | some v' =>
      have hv := (hf.val t _ hg).2
      by_cases hp : plain v' = true
      · have : ad = .val v' := by cases v' <;> simp_all [plain]
        subst this
        exact ⟨(VR_plain hp).1 hv, hp⟩
      · cases v' <;> simp [plain] at hp
        case loc id cs =>
          simp [hg] at ha; subst ha
          obtain ⟨h1, h2, b, top, h3, h4⟩ := hv
          exact ⟨hg, h1, h2, b, top, h3, h4⟩
        case der j off id =>
          simp only [hg] at ha
          cases hj : fr.get j with
          | none => simp [hj] at ha
          | some v2 =>
            cases v2 <;> simp [hj] at ha
            rename_i id' cs
            cases hb : Nat.beq id id' with
            | false => simp [hb] at ha
            | true =>
              simp [hb] at ha; subst ha
              have e := beqT hb
              subst e
              obtain ⟨h1, h2, _⟩ := (hf.val j _ hj).2
              obtain ⟨b, top, h3, h4⟩ := hv
              exact ⟨hj, h1, h2, b, top, h3, h4⟩
  | const c =>
    simp only [cOpd] at hc
    cases h1 : valV c with
    | none => simp [h1] at hc
    | some v' =>
      simp [h1] at hc; subst hc
      obtain ⟨h2, h3⟩ := valV_rep (g := g) h1
      simp [addr, h3] at ha; subst ha
      exact ⟨h2, h3⟩
  | global k => simp [cOpd] at hc; subst hc; simp [addr] at ha; subst ha; simp [AdR, Rep, RepL, Act.eval, plain]
  | func f => simp [cOpd] at hc; subst hc; simp [addr] at ha; subst ha; exact ⟨by simp only [Rep, Reps, FnR, Act.eval]; exact ⟨_, _, _, rfl, rfl, rfl, rfl⟩, rfl⟩
end
end Go.Ai
/-! Operations, first part. -/
namespace Go.Ai
open Go
set_option linter.unusedSimpArgs false

/-- whose locals lie in the frame -/
def mine (fr : T V) (id : Nat) : Prop := ∃ i cs, fr.get i = some (.loc id cs)
/-- a step of a frame's own: its locals may change -/
structure Hop (P : Program) (X : Env) (g : G) (st : St) (w : World) (fr : T V) (g' : G) (st' : St) (w' : World) (fr' : T V) : Prop where
  le : g.le g'
  sim : Sim P X g' st' w'
  next : st.next ≤ st'.next
  size : w.heap.size ≤ w'.heap.size
  keep : ∀ b o, w.heap[b]? = some o → (∀ l, g.own b = some l → ¬ live st l ∧ ¬ mine fr l) → w'.heap[b]? = some o ∧ g'.own b = g.own b
  born : ∀ b l, g'.own b = some l → b < w.heap.size → g.own b = some l ∨ ∃ l0, g.own b = some l0 ∧ live st l0
  dead : ∀ l, l < st.next → live st' l → live st l
  os : w'.os = w.os
  out : w'.output = w.output
  tape : w'.tape = w.tape
  old : ∀ l x, l < st.next → g'.loc l = some x → g.loc l = some x
  fzo : ∀ b m, b < w.heap.size → g'.fz b = some m → g.fz b = some m
  mine : ∀ id, mine fr' id → mine fr id ∨ st.next ≤ id
/-- a local that is given is a new one -/
def New (st : St) (v : V) : Prop := ∀ id cs, v = .loc id cs → st.next ≤ id

def DidV (P : Program) (X : Env) (g : G) (st : St) (w : World) (fr : T V) (tmps : Array Value) (s : Sem Value) (v : V) (st' : St) (fr' : T V) : Prop :=
  ∃ u w' g', s.run P w = .ok u w' ∧ Hop P X g st w fr g' st' w' fr' ∧ VR g' st' w' v u ∧ (Fresh fr' v ∧ New st v) ∧ FrR g' st' w' fr' tmps
def DidU (P : Program) (X : Env) (g : G) (st : St) (w : World) (fr : T V) (tmps : Array Value) (s : Sem Unit) (st' : St) (fr' : T V) : Prop :=
  ∃ w' g', s.run P w = .ok () w' ∧ Hop P X g st w fr g' st' w' fr' ∧ FrR g' st' w' fr' tmps
def Did (P : Program) (X : Env) (g : G) (st : St) (w : World) (fr : T V) (tmps : Array Value) (s : Sem Next) (v : V) (st' : St) (fr' : T V) : Prop :=
  ∃ u w' g', (s.run P w = .ok (.value u) w' ∨ (s.run P w = .ok .skip w' ∧ u = undef)) ∧ Hop P X g st w fr g' st' w' fr' ∧ VR g' st' w' v u ∧ (Fresh fr' v ∧ New st v) ∧ FrR g' st' w' fr' tmps

section
variable {P : Program} {X : Env} {g g' g'' : G} {st st' st'' : St} {w w' w'' : World} {fr fr' fr'' : T V} {tmps : Array Value}

theorem New.plain {v : V} (h : plain v = true) : New st v := fun id cs e => by subst e; simp [Go.Ai.plain] at h
theorem Hop.ofStep (h : Step P X g st w g' st' w') : Hop P X g st w fr g' st' w' fr :=
  ⟨h.le, h.sim, h.next, h.size, fun b o hb hn => h.keep b o hb fun l hl => (hn l hl).1, h.born, h.dead, h.os, h.out, h.tape, h.old, h.fzo, fun _ h => .inl h⟩
theorem Hop.trans (h0 : Sim P X g st w) (h : Hop P X g st w fr g' st' w' fr') (k : Hop P X g' st' w' fr' g'' st'' w'' fr'') : Hop P X g st w fr g'' st'' w'' fr'' := by
  refine ⟨h.le.trans k.le, k.sim, Nat.le_trans h.next k.next, Nat.le_trans h.size k.size, fun b o hb hn => ?_, fun b l ho hb => ?_, fun l hl hv => h.dead l hl (k.dead l (Nat.lt_of_lt_of_le hl h.next) hv), k.os.trans h.os, k.out.trans h.out, k.tape.trans h.tape, fun l x hl hx => h.old l x hl (k.old l x (Nat.lt_of_lt_of_le hl h.next) hx), (fun b m hb hm => h.fzo b m hb (k.fzo b m (Nat.lt_of_lt_of_le hb h.size) hm)), fun id hm => ?_⟩
  · obtain ⟨h1, h2⟩ := h.keep b o hb hn
    obtain ⟨h3, h4⟩ := k.keep b o h1 fun l ho => by
      rw [h2] at ho
      refine ⟨fun hv => (hn l ho).1 (h.dead l (h0.own_lt ho) hv), fun hm => ?_⟩
      rcases h.mine l hm with h5 | h5
      · exact (hn l ho).2 h5
      · exact absurd (h0.own_lt ho) (by omega)
    exact ⟨h3, h4.trans h2⟩
  · rcases k.born b l ho (Nat.lt_of_lt_of_le hb h.size) with h1 | ⟨l0, h1, h2⟩
    · exact h.born b l h1 hb
    · rcases h.born b l0 h1 hb with h3 | h3
      · exact .inr ⟨l0, h3, h.dead l0 (h0.own_lt h3) h2⟩
      · exact .inr h3
  · rcases k.mine id hm with h1 | h1
    · exact h.mine id h1
    · exact .inr (Nat.le_trans h.next h1)
theorem Did.ofV {s : Sem Value} {v : V} (h : DidV P X g st w fr tmps s v st' fr') : Did P X g st w fr tmps (do pure (.value (← s))) v st' fr' := by
  obtain ⟨u, w', g', h1, h2⟩ := h
  exact ⟨u, w', g', .inl (by simp [h1]), h2⟩
theorem Did.ofU {s : Sem Unit} (h : DidU P X g st w fr tmps s st' fr') : Did P X g st w fr tmps (do s; pure .skip) .junk st' fr' := by
  obtain ⟨w', g', h1, h2, h3⟩ := h
  exact ⟨undef, w', g', .inr ⟨by simp [h1], rfl⟩, h2, by simp [VR, Rep, RepL], ⟨Fresh.plain rfl, New.plain rfl⟩, h3⟩
theorem DidV.same (hs : Sim P X g st w) (hf : FrR g st w fr tmps) {s : Sem Value} {v : V} {u : Value} (h : s.run P w = .ok u w) (hv : Rep g v u) (hp : plain v = true) : DidV P X g st w fr tmps s v st fr :=
  ⟨u, w, g, h, .ofStep (Step.refl hs), (VR_plain hp).2 hv, ⟨Fresh.plain hp, New.plain hp⟩, hf⟩
theorem DidV.step (hs : Sim P X g st w) (hf : FrR g st w fr tmps) {s : Sem Value} {v : V} {u : Value} (h : s.run P w = .ok u w') (hst : Step P X g st w g' st' w') (hv : Rep g' v u) (hp : plain v = true) : DidV P X g st w fr tmps s v st' fr :=
  ⟨u, w', g', h, .ofStep hst, (VR_plain hp).2 hv, ⟨Fresh.plain hp, New.plain hp⟩, hf.step hs hst⟩
/-- what is given is put -/
theorem Hop.put {d : Nat} {v : V} (h : Hop P X g st w fr g' st' w' fr') (hn : New st v) : Hop P X g st w fr g' st' w' (fr'.set d v) :=
  ⟨h.le, h.sim, h.next, h.size, h.keep, h.born, h.dead, h.os, h.out, h.tape, h.old, h.fzo, fun id ⟨i, cs, hi⟩ => by
    rw [T.get_set] at hi
    by_cases e : d = i
    · rw [if_pos e] at hi; exact .inr (hn id cs (Option.some.inj hi))
    · rw [if_neg e] at hi; exact h.mine id ⟨i, cs, hi⟩⟩

/-! ### types -/
theorem run_sizeOf {t : TypeId} {n : Nat} (h : sizeT P t = some n) : (sizeOf t).run P w = .ok n w := by
  unfold sizeT at h
  cases hi : P.info? t with
  | none => simp [hi] at h
  | some i => simp [hi] at h; simp [sizeOf, typeInfo, hi, h]
theorem run_und {t : TypeId} {d : TypeDesc} (h : P.underlying t = some d) : (underlying t).run P w = .ok d w := by simp [underlying, h]
theorem run_isAgg {t : TypeId} {b : Bool} (h : aggT P t = some b) : (isAgg t).run P w = .ok b w := by
  unfold aggT at h
  cases hu : P.underlying t with
  | none => simp [hu] at h
  | some d => cases d <;> simp [hu] at h <;> subst h <;> simp [isAgg, run_und hu]
theorem run_typeInfo_bytes {t : TypeId} {n : Nat} (h : bytesT P t = some n) : ∃ i, P.info? t = some i ∧ i.bytes = n := by
  unfold bytesT at h
  cases hi : P.info? t with
  | none => simp [hi] at h
  | some i => simp [hi] at h; exact ⟨i, rfl, h⟩
theorem zeroT_spec {t : TypeId} {zs : List V} (h : zeroT P t = some zs) (g : G) : ∃ z : Value, (∀ w : World, (zeroValue t).run P w = .ok z w) ∧ Reps g zs z.cells.toList ∧ leafs zs = true := by
  unfold zeroT at h
  cases hi : P.info? t with
  | none => simp [hi] at h
  | some i =>
    simp [hi] at h
    cases hz : i.zero with
    | none => simp [hz] at h
    | some z =>
      simp [hz] at h
      obtain ⟨h1, h2⟩ := mapO_valL (g := g) h
      exact ⟨z, fun w => by simp [zeroValue, typeInfo, hi, hz], h1, h2⟩
theorem fieldT_spec {t : TypeId} {f off ft : Nat} (h : fieldT P t f = some (off, ft)) : ∃ fs fd, P.underlying t = some (.struct fs) ∧ fs[f]? = some fd ∧ fd.offset = off ∧ fd.type = ft := by
  unfold fieldT at h
  cases hu : P.underlying t with
  | none => simp [hu] at h
  | some d =>
    cases d <;> simp [hu] at h
    rename_i fs
    cases hf : fs[f]? with
    | none => simp [hf] at h
    | some fd => simp [hf] at h; exact ⟨fs, fd, rfl, hf, h.1, h.2⟩
theorem elemT_spec {t e : TypeId} (h : elemT P t = some e) : P.underlying t = some (.slice e) := by
  unfold elemT at h
  cases hu : P.underlying t with
  | none => simp [hu] at h
  | some d => cases d <;> simp [hu] at h; subst h; rfl

/-! ### cells -/
theorem leafs_get : ∀ {vs : List V}, leafs vs = true → ∀ (i : Nat) (v : V), vs[i]? = some v → leaf v = true
  | [], _, i, v, h => by simp at h
  | x :: xs, hl, i, v, h => by
    simp only [leafs] at hl
    cases hx : leaf x with
    | false => simp [hx] at hl
    | true =>
      simp [hx] at hl
      cases i with
      | zero => simp at h; subst h; exact hx
      | succ i => exact leafs_get hl i v (by simpa using h)
theorem leafs_of : ∀ {vs : List V}, (∀ (i : Nat) (v : V), vs[i]? = some v → leaf v = true) → leafs vs = true
  | [], _ => rfl
  | x :: xs, h => by
    simp only [leafs, h 0 x rfl, cond_true]
    exact leafs_of fun i v hi => h (i + 1) v (by simpa using hi)
theorem oneCell_of {v : V} {u : Value} (h : Rep g v u) (hl : leaf v = true) : u.oneCell' = true := by
  cases v <;> simp [leaf] at hl <;> simp only [Rep, RepL] at h
  case bool => subst h; rfl
  case int => subst h; rfl
  case str => obtain ⟨s, rfl, _⟩ := h; rfl
  case nilp => subst h; rfl
  case ptr => obtain ⟨_, _, _, _, rfl⟩ := h; rfl
  case gptr => subst h; rfl
  case eptr => obtain ⟨_, _, _, _, rfl, _⟩ := h; rfl
  case nils => subst h; rfl
  case emp => obtain ⟨_, rfl⟩ := h; rfl
  case non0 => obtain ⟨_, _, rfl⟩ := h; rfl
  case sl => obtain ⟨_, _, _, _, _, rfl, _⟩ := h; rfl
  case big => obtain ⟨_, _, _, _, _, rfl, _⟩ := h; rfl
  case bytes => obtain ⟨_, _, _, _, _, _, _, rfl, _⟩ := h; rfl
  case row => obtain ⟨_, _, _, _, _, rfl, _⟩ := h; rfl
  case nilm => subst h; rfl
  case map => obtain ⟨_, _, _, rfl⟩ := h; rfl
  case nilf => subst h; rfl
  case fn => obtain ⟨_, _, _, rfl, _⟩ := h; rfl
  case nili => subst h; rfl
  case iface => obtain ⟨_, rfl, _⟩ := h; rfl
theorem leaf_plain {v : V} (h : leaf v = true) : plain v = true := by cases v <;> simp_all [leaf, plain]
theorem pureV_leaf {v : V} (h : pureV v = true) : leaf v = true := by
  cases v <;> simp_all [pureV, leaf]
theorem cells?_spec {v : V} {cs : List V} {u : Value} (h : v.cells? = some cs) (hr : Rep g v u) : leafs cs = true ∧ Reps g cs u.cells.toList := by
  by_cases ha : ∃ xs, v = .agg xs
  · obtain ⟨xs, rfl⟩ := ha
    simp [V.cells?] at h; subst h
    simp only [Rep] at hr
    obtain ⟨us, rfl, h1, h2⟩ := hr
    exact ⟨h1, h2⟩
  · have hl : leaf v = true ∧ cs = [v] := by
      cases v <;> simp_all [V.cells?, leaf]
    obtain ⟨hl, rfl⟩ := hl
    refine ⟨by simp [leafs, hl], ?_⟩
    have h1 := oneCell_of hr hl
    have : u.cells = #[u] := by cases u <;> simp_all [Value.cells, Value.oneCell']
    rw [this]
    simp only [Reps]
    exact ⟨u, [], rfl, hr, rfl⟩
theorem whole_spec {b : Bool} {cs : List V} {v : V} {us : List Value} (h : whole b cs = some v) (hr : Reps g cs us) (hl : leafs cs = true) :
    plain v = true ∧ Rep g v (if b then .agg us.toArray else us.headD undef) ∧ (b = false → us.length = 1) := by
  cases b with
  | true =>
    simp [whole] at h; subst h
    refine ⟨rfl, ?_, by simp⟩
    simp only [Rep, if_true]
    exact ⟨us.toArray, rfl, hl, by simpa using hr⟩
  | false =>
    simp only [whole, cond_false] at h
    cases cs with
    | nil => simp at h
    | cons x xs =>
      cases xs with
      | cons y ys => simp at h
      | nil =>
        simp at h; subst h
        simp only [Reps] at hr
        obtain ⟨u, r, rfl, h1, rfl⟩ := hr
        have : leaf x = true := by simpa [leafs] using hl
        exact ⟨leaf_plain this, by simpa using h1, by simp⟩
/-- a list of cells where they lie -/
theorem run_loadVar {t : TypeId} {n : Nat} {b : Bool} (hsz : sizeT P t = some n) (hag : aggT P t = some b) {a : Addr} {us : List Value} (hlen : us.length = n) (h1 : b = false → us.length = 1)
    (hc : ∀ (j : Nat) (u : Value), us[j]? = some u → w.cell? (a.add j) = some u) : (loadVar t a).run P w = .ok (if b then .agg us.toArray else us.headD undef) w := by
  cases b with
  | true =>
    have := run_loadCells_list (P := P) w a us hc
    rw [hlen] at this
    simp [loadVar, run_isAgg hag, run_sizeOf hsz, this]
  | false =>
    have hl := h1 rfl
    match us, hl with
    | [u], _ =>
      have := hc 0 u rfl
      simp [Addr.add] at this
      simp [loadVar, run_isAgg hag, this]
/-- what lies in a row -/
theorem Reps_of_cells {cs : List V} {f : Nat → Option Value} (h : ∀ (j : Nat) (v : V), cs[j]? = some v → ∃ u, f j = some u ∧ Rep g v u) : ∃ us : List Value, us.length = cs.length ∧ Reps g cs us ∧ ∀ (j : Nat) (u : Value), us[j]? = some u → f j = some u := by
  induction cs generalizing f with
  | nil => exact ⟨[], rfl, by simp [Reps], by simp⟩
  | cons v cs ih =>
    obtain ⟨u, h1, h2⟩ := h 0 v rfl
    obtain ⟨us, h3, h4, h5⟩ := ih (f := fun j => f (j + 1)) fun j v hj => h (j + 1) v (by simpa using hj)
    refine ⟨u :: us, by simp [h3], by simp only [Reps]; exact ⟨u, us, rfl, h2, h4⟩, fun j x hj => ?_⟩
    cases j with
    | zero => simp at hj; subst hj; exact h1
    | succ j => exact h5 j x (by simpa using hj)
theorem add_plain (b o j : Nat) : (⟨b, o, none⟩ : Addr).add j = ⟨b, o + j, none⟩ := by
  unfold Addr.add; split <;> simp_all
theorem cut_spec {cs : List V} {off n : Nat} {b : Bool} {v : V} (h : cut cs off n b = some v) : ∃ r, whole b r = some v ∧ r.length = n ∧ ∀ (j : Nat) (x : V), r[j]? = some x → cs[off + j]? = some x := by
  unfold cut at h
  rw [drops_eq] at h
  cases ht : takes (cs.drop off) n with
  | none => simp [ht] at h
  | some r =>
    simp [ht] at h
    obtain ⟨h1, h2⟩ := takes_spec _ _ _ ht
    refine ⟨r, h, h2, fun j x hj => ?_⟩
    have hlt : j < n := by have := (List.getElem?_eq_some_iff.1 hj).1; omega
    rw [h1, List.getElem?_take, if_pos hlt, List.getElem?_drop] at hj
    exact hj

theorem blk_get {l m : Nat} {tr : T V} (h : st.blk l = some (m, tr)) : st.heap.get l = some (.cells m tr) := by
  unfold St.blk at h
  split at h <;> simp_all
/-- cells of a block, where they lie -/
theorem cut_cells (hs : Sim P X g st w) {l off n : Nat} {r : List V} (h : st.cut l off n = some r) {b base top : Nat} (hl : g.loc l = some (b, base, top)) :
    r.length = n ∧ ∃ c e, w.heap[b]? = some (.cells c e (0, 0)) ∧ ∀ (j : Nat) (v : V), r[j]? = some v → ∃ u, c[base + (off + j)]? = some u ∧ leaf v = true ∧ Rep g v u := by
  unfold St.cut at h
  cases hb : st.blk l with
  | none => simp [hb] at h
  | some mt =>
    obtain ⟨m, tr⟩ := mt
    simp only [hb] at h
    cases hle : Nat.ble (off + n) m with
    | false => simp [hle] at h
    | true =>
      simp only [hle, cond_true] at h
      have hle := bleT hle
      obtain ⟨b2, base2, top2, ob, h1, h2, h3, h4⟩ := hs.blk l _ (blk_get hb) rfl
      rw [hl] at h1
      obtain ⟨rfl, rfl, rfl⟩ : b = b2 ∧ base = base2 ∧ top = top2 := by simpa using h1
      obtain ⟨c, e, rfl, _, _, hcr⟩ := h4
      obtain ⟨ht1, ht2⟩ := T.take_spec _ _ _ _ h
      refine ⟨ht1, c, e, h3, fun j v hj => ?_⟩
      have hjn : j < n := by have := (List.getElem?_eq_some_iff.1 hj).1; omega
      have e1 := ht2 j hjn
      rw [hj] at e1
      obtain ⟨v2, u, e2, e3, e4, e5⟩ := hcr (off + j) (by omega)
      rw [e1] at e2; cases e2
      exact ⟨u, e4, e3, e5⟩

theorem runLoad_sound (hs : Sim P X g st w) {a : Act} (hf : FrR g st w fr a.tmps) {t : TypeId} {n : Nat} {b : Bool} (hsz : sizeT P t = some n) (hag : aggT P t = some b)
    {x : Operand} {y : Opd} (hc : cOpd x = some y) {v : V} {st' : St} {log : List Tc} (h : runLoad X fr st n b y = some (v, st', log)) :
    st' = st ∧ plain v = true ∧ ∃ u, (Instr.loadAt t (a.eval x)).run P w = .ok u w ∧ Rep g v u := by
  unfold runLoad at h
  cases ha : addr fr y with
  | none => simp [ha] at h
  | some ad =>
    have had := addr_sound hf hc ha
    -- what is to be shown, out of cells
    have key : ∀ (bk o : Nat) (cs : List V), a.eval x = .pointer (some ⟨bk, o, none⟩) → whole b cs = some v → cs.length = n → leafs cs = true → (∀ (j : Nat) (v : V), cs[j]? = some v → ∃ u, w.cell? ⟨bk, o + j, none⟩ = some u ∧ Rep g v u) →
        plain v = true ∧ ∃ u, (Instr.loadAt t (a.eval x)).run P w = .ok u w ∧ Rep g v u := by
      intro bk o cs he hw hl hlf hcell
      obtain ⟨us, h1, h2, h3⟩ := Reps_of_cells hcell
      obtain ⟨h4, h5, h6⟩ := whole_spec hw h2 hlf
      refine ⟨h4, _, ?_, h5⟩
      rw [he]
      simp only [Instr.loadAt, Instr.sureAddr, Sem.run_bind, Sem.run_pure, Result.andThen_ok]
      exact run_loadVar hsz hag (by omega) h6 fun j u hj => by rw [add_plain]; exact h3 j u hj
    cases ad with
    | loc slot off id cs =>
      simp only [ha] at h
      cases hcut : cut cs off n b with
      | none => simp [hcut] at h
      | some v' =>
        simp [hcut] at h
        obtain ⟨rfl, rfl, _⟩ := h
        obtain ⟨_, ⟨bk, c, e, h1, h2, h3, h4, h5⟩, _, b2, top, h6, h7⟩ := had
        rw [h1] at h6
        obtain ⟨rfl, _⟩ : bk = b2 ∧ _ := by simpa using h6
        obtain ⟨r, hr1, hr2, hr3⟩ := cut_spec  hcut
        refine ⟨rfl, key bk off r h7 hr1 hr2 (leafs_of fun i v hi => ?_) fun j v hj => ?_⟩
        · have := hr3 i v hi
          obtain ⟨v2, u, e1, e2, _⟩ := h5 (off + i) (by have := (List.getElem?_eq_some_iff.1 this).1; omega)
          simp only [this] at e1; cases e1; exact e2
        · have := hr3 j v hj
          obtain ⟨v2, u, e1, e2, e3, e4⟩ := h5 (off + j) (by have := (List.getElem?_eq_some_iff.1 this).1; omega)
          simp only [this] at e1; cases e1
          exact ⟨u, by simp only [World.cell?, h3]; simpa using e3, e4⟩
    | val a' =>
      obtain ⟨hra, hpa⟩ := had
      by_cases hgp : ∃ k, a' = .gptr k
      · obtain ⟨k, rfl⟩ := hgp
        simp only [ha] at h
        cases hgl : X.glob k with
        | none => simp [hgl] at h
        | some v' =>
          simp only [hgl] at h
          obtain ⟨_, hlf, c, e, f, u, h1, h2, h3⟩ := hs.glob k _ hgl
          simp only [Rep, RepL] at hra
          obtain ⟨rfl, rfl, rfl, rfl⟩ : n = 1 ∧ b = false ∧ v' = v ∧ st = st' := by
            split at h <;> simp_all
          exact ⟨rfl, key k 0 [v'] hra rfl rfl (by simp [leafs, hlf]) fun j v hj => by
            cases j with
            | zero => simp at hj; subst hj; exact ⟨u, by simp only [World.cell?, h1]; simpa using h2, h3⟩
            | succ j => simp at hj⟩
      · have h' : loadB st n b a' = some (v, st', log) := by cases a' <;> simp_all
        clear h
        cases a' <;> simp only [loadB] at h' <;> try cases h'
        case eptr cs =>
          cases hcut : cut cs 0 n b with
          | none => simp [hcut] at h'
          | some v' =>
            simp [hcut] at h'
            obtain ⟨rfl, rfl, _⟩ := h'
            simp only [Rep, RepL] at hra
            obtain ⟨bk, o, m, h1, h2, h3⟩ := hra
            obtain ⟨r, hr1, hr2, hr3⟩ := cut_spec  hcut
            obtain ⟨_, c, e, f, h4, h5⟩ := hs.fz bk m h1
            refine ⟨rfl, key bk o r h2 hr1 hr2 (leafs_of fun i v hi => ?_) fun j v hj => ?_⟩
            · exact pureV_leaf (h5 _ _ (h3 i v (by simpa using hr3 i v hi))).1
            · obtain ⟨_, u, e1, e2⟩ := h5 _ _ (h3 j v (by simpa using hr3 j v hj))
              exact ⟨u, by simp only [World.cell?, h4]; simpa using e1, e2⟩
        case ptr l off =>
          cases hct : st.cut l off n with
          | none => simp [hct] at h'
          | some r =>
            cases hb : st.blk l with
            | none => simp [hct, hb] at h'
            | some mt =>
              obtain ⟨m, tr⟩ := mt
              simp only [hct, hb] at h'
              cases hwh : whole b r with
              | none => simp [hwh] at h'
              | some v' =>
                simp [hwh] at h'
                obtain ⟨rfl, rfl, _⟩ := h'
                simp only [Rep, RepL] at hra
                obtain ⟨b2, base2, top2, h5, h6⟩ := hra
                obtain ⟨h7, c, e, h8, h9⟩ := cut_cells hs hct h5
                refine ⟨rfl, key b2 (base2 + off) r h6 hwh h7 (leafs_of fun i v hi => ?_) fun j v hj => ?_⟩
                · obtain ⟨u, _, e1, _⟩ := h9 i v hi; exact e1
                · obtain ⟨u, e0, _, e2⟩ := h9 j v hj
                  exact ⟨u, by simp only [World.cell?, h8]; simpa [Nat.add_assoc] using e0, e2⟩
end
end Go.Ai
/-! Operations, second part: lists of cells, new blocks, stores. -/
namespace Go.Ai
open Go
set_option linter.unusedSimpArgs false

section
variable {g : G}
theorem leafs_append : ∀ {a b : List V}, leafs a = true → leafs b = true → leafs (a ++ b) = true
  | [], b, _, h => h
  | x :: a, b, h, h' => by
    simp only [leafs] at h
    cases hx : leaf x with
    | false => simp [hx] at h
    | true => simp [hx] at h; simp [leafs, hx, leafs_append h h']
theorem leafs_take {a : List V} (n : Nat) (h : leafs a = true) : leafs (a.take n) = true := leafs_of fun i v hi => by
  rw [List.getElem?_take] at hi
  split at hi
  · exact leafs_get h i v hi
  · cases hi
theorem leafs_drop {a : List V} (n : Nat) (h : leafs a = true) : leafs (a.drop n) = true := leafs_of fun i v hi => by
  rw [List.getElem?_drop] at hi
  exact leafs_get h _ v hi
theorem Reps_take (n : Nat) {vs : List V} {us : List Value} (h : Reps g vs us) : Reps g (vs.take n) (us.take n) := by
  have hl := Reps_length h
  refine Reps_of (by simp [hl]) fun i v u h1 h2 => ?_
  rw [List.getElem?_take] at h1 h2
  by_cases hi : i < n
  · rw [if_pos hi] at h1 h2
    obtain ⟨u', h3, h4⟩ := Reps_get h i v h1
    rw [h2] at h3; cases h3; exact h4
  · rw [if_neg hi] at h1; cases h1
theorem Reps_drop (n : Nat) {vs : List V} {us : List Value} (h : Reps g vs us) : Reps g (vs.drop n) (us.drop n) := by
  have hl := Reps_length h
  refine Reps_of (by simp [hl]) fun i v u h1 h2 => ?_
  rw [List.getElem?_drop] at h1 h2
  obtain ⟨u', h3, h4⟩ := Reps_get h _ v h1
  rw [h2] at h3; cases h3; exact h4
theorem Reps_at {vs : List V} {us : List Value} (h : Reps g vs us) {i : Nat} {v : V} {u : Value} (h1 : vs[i]? = some v) (h2 : us[i]? = some u) : Rep g v u := by
  obtain ⟨u', h3, h4⟩ := Reps_get h i v h1
  rw [h2] at h3; cases h3; exact h4
theorem oneCells {vs : List V} {us : List Value} (h : Reps g vs us) (hl : leafs vs = true) : ∀ u ∈ us, u.oneCell' = true := fun u hu => by
  obtain ⟨i, hi⟩ := List.mem_iff_getElem?.1 hu
  have hlt : i < us.length := (List.getElem?_eq_some_iff.1 hi).1
  have : i < vs.length := by rw [Reps_length h]; exact hlt
  have h1 : vs[i]? = some vs[i] := List.getElem?_eq_getElem this
  exact oneCell_of (Reps_at h h1 hi) (leafs_get hl i _ h1)

/-! ### pasting -/
def paste {α : Type} (us : List α) (off : Nat) (nu : List α) : List α := us.take off ++ nu ++ us.drop (off + nu.length)
theorem paste_length {α : Type} {us nu : List α} {off : Nat} (h : off + nu.length ≤ us.length) : (paste us off nu).length = us.length := by simp [paste]; omega
theorem paste_get {α : Type} {us nu : List α} {off : Nat} (h : off + nu.length ≤ us.length) (i : Nat) : (paste us off nu)[i]? = if off ≤ i ∧ i < off + nu.length then nu[i - off]? else us[i]? := by
  unfold paste
  rw [List.append_assoc, List.getElem?_append]
  have hm : (us.take off).length = off := by simp; omega
  rw [hm]
  by_cases h1 : i < off
  · rw [if_pos h1, if_neg (by omega), List.getElem?_take, if_pos h1]
  · rw [if_neg h1, List.getElem?_append]
    by_cases h2 : i - off < nu.length
    · rw [if_pos h2, if_pos (by omega)]
    · rw [if_neg h2, if_neg (by omega), List.getElem?_drop]
      congr 1; omega
theorem Reps_paste {vs nv : List V} {us nu : List Value} {off : Nat} (h : Reps g vs us) (h' : Reps g nv nu) : Reps g (paste vs off nv) (paste us off nu) := by
  unfold paste
  rw [Reps_length h']
  exact Reps_append (Reps_append (Reps_take _ h) h') (Reps_drop _ h)
theorem leafs_paste {vs nv : List V} {off : Nat} (h : leafs vs = true) (h' : leafs nv = true) : leafs (paste vs off nv) = true :=
  leafs_append (leafs_append (leafs_take _ h) h') (leafs_drop _ h)
theorem overlay_spec {cs new r : List V} {off : Nat} (h : overlay cs off new = some r) : off + new.length ≤ cs.length ∧ r = paste cs off new := by
  unfold overlay at h
  cases h1 : takes cs off with
  | none => simp [h1] at h
  | some pre =>
    simp only [h1, drops_eq] at h
    cases h2 : takes (cs.drop off) new.length with
    | none => simp [h2] at h
    | some q =>
      simp only [h2, Option.some.injEq] at h; subst h
      obtain ⟨h3, h4⟩ := takes_spec _ _ _ h1
      obtain ⟨h5, h6⟩ := takes_spec _ _ _ h2
      rw [h3] at h4
      rw [h5] at h6
      simp at h4 h6
      refine ⟨by omega, ?_⟩
      rw [h3]; rfl

theorem foldl_set : ∀ (xs : List Value) (off k : Nat) (cells : Array Value), off + k + xs.length ≤ cells.size →
    ((xs.zipIdx k).foldl (fun (cs : Array Value) (x : Value × Nat) => cs.setIfInBounds (off + x.2) x.1) cells).toList = paste cells.toList (off + k) xs
  | [], off, k, cells, h => by simp [paste]
  | x :: xs, off, k, cells, h => by
    simp at h
    rw [List.zipIdx_cons, List.foldl_cons, foldl_set xs off (k + 1) (cells.setIfInBounds (off + k) x) (by simp; omega)]
    have := list_seg_step cells.toList (off + k) x xs (by simp; omega)
    simp only [paste, Array.toList_setIfInBounds, List.length_cons]
    simpa [Nat.add_assoc] using this

/-- parts, of the model's and of the interpreter's -/
def FillR (g : G) (place : Nat → Option (Nat × Nat)) : List (Nat × Value) → List (Nat × List V) → Prop
  | [], M => M = []
  | (i, u) :: L, M => ∃ off cs M', M = (off, cs) :: M' ∧ place i = some (off, cs.length) ∧ Reps g cs u.cells.toList ∧ leafs cs = true ∧ FillR g place L M'
theorem fills_spec {place : Nat → Option (Nat × Nat)} : ∀ {L : List (Nat × Value)} {M : List (Nat × List V)} {zs r : List V} {zc : Array Value}, FillR g place L M → fills zs M = some r → Reps g zs zc.toList → leafs zs = true →
    ∃ uc : Array Value, Instr.fill place zc L = some uc ∧ Reps g r uc.toList ∧ leafs r = true ∧ uc.size = zc.size
  | [], M, zs, r, zc, hf, h, hr, hl => by
    simp only [FillR] at hf; subst hf
    simp [fills] at h; subst h
    exact ⟨zc, rfl, hr, hl, rfl⟩
  | (i, u) :: L, M, zs, r, zc, hf, h, hr, hl => by
    simp only [FillR] at hf
    obtain ⟨off, cs, M', rfl, h1, h2, h3, h4⟩ := hf
    simp only [fills] at h
    cases ho : overlay zs off cs with
    | none => simp [ho] at h
    | some zs' =>
      simp only [ho] at h
      obtain ⟨h5, rfl⟩ := overlay_spec ho
      have hlen := Reps_length h2
      have hzl := Reps_length hr
      have hle : off + u.cells.size ≤ zc.size := by simp at hlen hzl; omega
      have hfold := foldl_set u.cells.toList off 0 zc (by simpa using hle)
      obtain ⟨uc, h6, h7, h8, h9⟩ := fills_spec (zc := (u.cells.toList.zipIdx 0).foldl (fun (cs : Array Value) (x : Value × Nat) => cs.setIfInBounds (off + x.2) x.1) zc) h4 h
        (by rw [hfold]; exact Reps_paste hr h2) (leafs_paste hl h3)
      refine ⟨uc, ?_, h7, h8, ?_⟩
      · simp only [Instr.fill, h1]
        have e1 : ¬ (u.cells.size ≠ cs.length || decide (off + u.cells.size > zc.size)) = true := by simp at hlen ⊢; omega
        rw [if_neg e1, ← h6]
        congr 1
        rw [← Array.foldl_toList]
        simp
      · rw [h9]
        have := congrArg List.length hfold
        rw [paste_length (by simpa using hle)] at this
        simpa using this
end
end Go.Ai
/-! Operations, third part. -/
namespace Go.Ai
open Go
set_option linter.unusedSimpArgs false

section
variable {P : Program} {X : Env} {g g' : G} {st st' : St} {w w' : World} {fr fr' : T V} {log : List Tc} {v : V} {a : Act} {call : CallF} {yield : Nat → List V → St → R}

theorem v1_some {o : Option V} {r : V × St × List Tc × T V} (h : v1 fr st o = some r) : ∃ v, o = some v ∧ r = (v, st, [], fr) := by
  cases o with
  | none => simp [v1] at h
  | some v => simp [v1] at h; exact ⟨v, rfl, h.symm⟩
theorem r1_some {o : R} {r : V × St × List Tc × T V} (h : r1 fr o = some r) : ∃ v st log, o = some (v, st, log) ∧ r = (v, st, log, fr) := by
  cases o with
  | none => simp [r1] at h
  | some x => obtain ⟨v, st, log⟩ := x; simp [r1] at h; exact ⟨v, st, log, rfl, h.symm⟩
theorem o1_run {f : Opd → IOp} {x : Operand} {r : V × St × List Tc × T V} (h : runOp X call yield fr st (o1 f x) = some r) : ∃ y, cOpd x = some y ∧ runOp X call yield fr st (f y) = some r := by
  unfold o1 at h
  cases hx : cOpd x with
  | none => simp [hx, runOp] at h
  | some y => simp only [hx] at h; exact ⟨y, rfl, h⟩
theorem o2_run {f : Opd → Opd → IOp} {x x' : Operand} {r : V × St × List Tc × T V} (h : runOp X call yield fr st (o2 f x x') = some r) : ∃ y y', cOpd x = some y ∧ cOpd x' = some y' ∧ runOp X call yield fr st (f y y') = some r := by
  unfold o2 at h
  cases hx : cOpd x with
  | none => simp [hx, runOp] at h
  | some y =>
    cases hx' : cOpd x' with
    | none => simp [hx, hx', runOp] at h
    | some y' => simp only [hx, hx'] at h; exact ⟨y, y', rfl, rfl, h⟩

/-- out of an operand, without a change -/
theorem did_mv (hs : Sim P X g st w) (hf : FrR g st w fr a.tmps) {x : Operand} (h : runOp X call yield fr st (o1 .mv x) = some (v, st', log, fr')) :
    DidV P X g st w fr a.tmps (pure (a.eval x)) v st' fr' := by
  obtain ⟨y, h1, h2⟩ := o1_run h
  obtain ⟨v', h3, h4⟩ := v1_some h2
  simp only [Prod.mk.injEq] at h4
  obtain ⟨rfl, rfl, _, rfl⟩ := h4
  obtain ⟨h5, h6⟩ := ev_sound hf h1 h3
  exact DidV.same hs hf rfl h5 h6

theorem did_pick (hs : Sim P X g st w) (hf : FrR g st w fr a.tmps) {c x y : Operand} {c' x' y' : Opd} (hc : cOpd c = some c') (hx : cOpd x = some x') (hy : cOpd y = some y')
    (h : runOp X call yield fr st (.pick c' x' y') = some (v, st', log, fr')) :
    DidV P X g st w fr a.tmps (do pure (if ← asBool (a.eval c) then a.eval x else a.eval y)) v st' fr' := by
  simp only [runOp] at h
  have key : ∀ b : Bool, ev fr c' = some (.bool b) → v1 fr st (ev fr (if b then x' else y')) = some (v, st', log, fr') → DidV P X g st w fr a.tmps (do pure (if ← asBool (a.eval c) then a.eval x else a.eval y)) v st' fr' := by
    intro b hb h
    obtain ⟨v', h3, h4⟩ := v1_some h
    simp only [Prod.mk.injEq] at h4
    obtain ⟨rfl, rfl, _, rfl⟩ := h4
    have e1 := (ev_sound hf hc hb).1
    simp only [Rep, RepL] at e1
    cases b with
    | true =>
      obtain ⟨h5, h6⟩ := ev_sound hf hx h3
      exact DidV.same hs hf (by rw [e1]; simp [asBool]) h5 h6
    | false =>
      obtain ⟨h5, h6⟩ := ev_sound hf hy h3
      exact DidV.same hs hf (by rw [e1]; simp [asBool]) h5 h6
  cases hev : ev fr c' with
  | none => simp [hev] at h
  | some b =>
    cases b <;> simp only [hev] at h <;> try cases h
    rename_i b
    cases b with
    | true => exact key true hev h
    | false => exact key false hev h

/-! ### new blocks -/
theorem run_newVar (e : TypeId) (z : Value) : (newVar e z).run P w = .ok ⟨w.heap.size, 0, none⟩ { w with heap := w.heap.push (.cells z.cells e (0, 0)) } := by
  simp [newVar, newRow, newObj, Sem.run]
theorem cellsR_list {cs : List V} {us : Array Value} (hr : Reps g cs us.toList) (hl : leafs cs = true) : CellsR g (fun i => cs[i]?) cs.length us 0 := fun i hi => by
  have h1 : cs[i]? = some cs[i] := List.getElem?_eq_getElem hi
  obtain ⟨u, h2, h3⟩ := Reps_get hr i _ h1
  exact ⟨cs[i], u, h1, leafs_get hl i _ h1, by simpa using h2, h3⟩
theorem cellsR_ofList {cs : List V} {us : Array Value} (hr : Reps g cs us.toList) (hl : leafs cs = true) : CellsR g (T.ofList cs).get cs.length us 0 := fun i hi => by
  obtain ⟨v, u, h1, h2⟩ := cellsR_list hr hl i hi
  exact ⟨v, u, by rw [T.get_ofList]; exact h1, h2⟩
theorem Reps.mono' {g g' : G} (h : g.le g') {vs : List V} {us : List Value} (hr : Reps g vs us) : Reps g' vs us := Reps.mono h vs us hr
theorem fresh_next (hs : Sim P X g st w) {tmps : Array Value} (hf : FrR g st w fr tmps) (cs : List V) : Fresh fr (.loc st.next cs) := fun id cs' e i cs'' hi => by
  cases e
  obtain ⟨_, ⟨b, c, e, h1, h2, _⟩, _⟩ := hf.val i _ hi
  exact absurd (hs.lt _ _ h1) (Nat.lt_irrefl _)
/-- a new row of cells, and its address -/
theorem did_newLoc (hs : Sim P X g st w) (hf : FrR g st w fr a.tmps) {here : Bool} {cs : List V} {z : Value} {e : TypeId} (hr : Reps g cs z.cells.toList) (hl : leafs cs = true)
    (h : newLoc here fr st cs = some (v, st', log, fr')) : DidV P X g st w fr a.tmps (do pure (.pointer (some (← newVar e z)))) v st' fr' := by
  have hw : Wpush w { w with heap := w.heap.push (.cells z.cells e (0, 0)) } (.cells z.cells e (0, 0)) := ⟨rfl, rfl, rfl, rfl⟩
  have hlen : cs.length = z.cells.size := by simpa using Reps_length hr
  have hle : g.le (g.newLoc st.next w.heap.size 0 z.cells.size) := le_newLoc hs.loc_top
  have hrun : (do pure (.pointer (some (← newVar e z))) : Sem Value).run P w = .ok (.pointer (some ⟨w.heap.size, 0, none⟩)) { w with heap := w.heap.push (.cells z.cells e (0, 0)) } := by simp [run_newVar]
  cases here with
  | true =>
    simp only [newLoc, cond_true, Option.some.injEq, Prod.mk.injEq] at h
    obtain ⟨rfl, rfl, _, rfl⟩ := h
    have hst := Step.newLoc hs hw none 0 z.cells.size (by intro bl hbl; cases hbl)
    refine ⟨_, _, _, hrun, .ofStep hst, ?_, ⟨fresh_next hs hf cs, fun _ _ e => by cases e; exact Nat.le_refl _⟩, hf.step hs hst⟩
    refine ⟨⟨w.heap.size, z.cells, e, by simp [G.newLoc], by simp [G.newLoc], hw.here, hlen.symm, cellsR_list (hr.mono' hle) hl⟩, ?_, w.heap.size, z.cells.size, by simp [G.newLoc], rfl⟩
    rintro ⟨b, h1, _⟩
    exact absurd (hs.ht _ _ h1) (Nat.lt_irrefl _)
  | false =>
    simp only [newLoc, cond_false, Option.some.injEq, Prod.mk.injEq] at h
    obtain ⟨rfl, rfl, _, rfl⟩ := h
    have hst := Step.newLoc hs hw (some (.cells cs.length (T.ofList cs))) 0 z.cells.size (by
      intro bl hbl; cases hbl
      exact ⟨z.cells, e, rfl, rfl, by omega, cellsR_ofList (hr.mono' hle) hl⟩)
    refine DidV.step hs hf hrun hst ?_ rfl
    simp only [Rep, RepL]
    exact ⟨w.heap.size, 0, z.cells.size, by simp [G.newLoc], rfl⟩

theorem did_alloc (hs : Sim P X g st w) (hf : FrR g st w fr a.tmps) {t : TypeId} {here : Bool} {zs : List V} (hz : zeroT P t = some zs) (h : runOp X call yield fr st (.alloc here zs) = some (v, st', log, fr')) :
    DidV P X g st w fr a.tmps (Instr.alloc t true (.tuple #[])) v st' fr' := by
  simp only [runOp] at h
  obtain ⟨z, h1, h2, h3⟩ := zeroT_spec hz g
  obtain ⟨u, w', g', h4, h5⟩ := did_newLoc (e := t) hs hf h2 h3 h
  refine ⟨u, w', g', ?_, h5⟩
  simpa [Instr.alloc, h1 w] using h4
theorem did_box (hs : Sim P X g st w) (hf : FrR g st w fr a.tmps) {t : TypeId} {here : Bool} {x : Operand} (h : runOp X call yield fr st (o1 (.box here) x) = some (v, st', log, fr')) :
    DidV P X g st w fr a.tmps (Instr.box t (a.eval x)) v st' fr' := by
  obtain ⟨y, h1, h2⟩ := o1_run h
  simp only [runOp] at h2
  cases hev : ev fr y with
  | none => simp [hev] at h2
  | some xv =>
    simp only [hev] at h2
    cases hc : xv.cells? with
    | none => simp [hc] at h2
    | some cs =>
      simp only [hc] at h2
      obtain ⟨h3, h4⟩ := cells?_spec hc (ev_sound hf h1 hev).1
      exact did_newLoc hs hf h4 h3 h2

/-! ### structs -/
theorem parts_spec (hf : FrR g st w fr a.tmps) {t : TypeId} {place : Nat → Option (Nat × Nat)} (hp : ∀ i off ft sz, fieldT P t i = some (off, ft) → sizeT P ft = some sz → place i = some (off, sz)) :
    ∀ {ps : List (Nat × Operand)} {qs : List (Nat × Nat × Opd)} {M : List (Nat × List V)}, cParts P t ps = some qs → parts fr qs = some M → FillR g place (ps.map fun (i, x) => (i, a.eval x)) M
  | [], qs, M, h, h' => by
    simp [cParts] at h; subst h
    simp [parts] at h'; subst h'
    simp [FillR]
  | (i, x) :: ps, qs, M, h, h' => by
    simp only [cParts] at h
    cases h1 : fieldT P t i with
    | none => simp [h1] at h
    | some of =>
      obtain ⟨off, ft⟩ := of
      cases h2 : sizeT P ft with
      | none => simp [h1, h2] at h
      | some sz =>
        cases h3 : cOpd x with
        | none => simp [h1, h2, h3] at h
        | some y =>
          cases h4 : cParts P t ps with
          | none => simp [h1, h2, h3, h4] at h
          | some r =>
            simp [h1, h2, h3, h4] at h; subst h
            simp only [parts] at h'
            cases h5 : ev fr y with
            | none => simp [h5] at h'
            | some v =>
              cases h6 : v.cells? with
              | none => simp [h5, h6] at h'
              | some cs =>
                simp only [h5, h6] at h'
                cases h7 : Nat.beq cs.length sz with
                | false => simp [h7] at h'
                | true =>
                  cases h8 : parts fr r with
                  | none => simp [h7, h8] at h'
                  | some M' =>
                    simp [h7, h8] at h'; subst h'
                    obtain ⟨h9, h10⟩ := cells?_spec h6 (ev_sound hf h3 h5).1
                    simp only [List.map_cons, FillR]
                    exact ⟨off, cs, M', rfl, by rw [beqT h7]; exact hp i off ft sz h1 h2, h10, h9, parts_spec hf hp h4 h8⟩
theorem places_of {fs : Array Field} (h : fs.toList.all (fun f => (P.info? f.type).isSome) = true) : ∃ places : List (Nat × Nat), fs.toList.mapM (fun f => (P.info? f.type).map fun i => (f.offset, i.size)) = some places ∧
    ∀ (i : Nat) (f : Field) (inf : TypeInfo), fs[i]? = some f → P.info? f.type = some inf → places[i]? = some (f.offset, inf.size) := by
  have : ∀ l : List Field, l.all (fun f => (P.info? f.type).isSome) = true → ∃ places : List (Nat × Nat), l.mapM (fun f => (P.info? f.type).map fun i => (f.offset, i.size)) = some places ∧
      ∀ (i : Nat) (f : Field) (inf : TypeInfo), l[i]? = some f → P.info? f.type = some inf → places[i]? = some (f.offset, inf.size) := by
    intro l
    induction l with
    | nil => intro _; exact ⟨[], rfl, by simp⟩
    | cons f l ih =>
      intro h
      simp only [List.all_cons, Bool.and_eq_true] at h
      obtain ⟨inf, hinf⟩ := Option.isSome_iff_exists.1 h.1
      obtain ⟨pl, h1, h2⟩ := ih h.2
      refine ⟨(f.offset, inf.size) :: pl, by simp [List.mapM_cons, hinf, h1], fun i f' inf' hi hinf' => ?_⟩
      cases i with
      | zero => simp at hi; subst hi; rw [hinf] at hinf'; cases hinf'; rfl
      | succ i => simpa using h2 i f' inf' (by simpa using hi) hinf'
  obtain ⟨pl, h1, h2⟩ := this fs.toList h
  exact ⟨pl, h1, fun i f inf hi => h2 i f inf (by simpa using hi)⟩
theorem did_build (hs : Sim P X g st w) (hf : FrR g st w fr a.tmps) {t : TypeId} {fs : Array Field} {zs : List V} {ps : Array (Nat × Operand)} {qs : List (Nat × Nat × Opd)} (hu : P.underlying t = some (.struct fs))
    (hz : zeroT P t = some zs) (hq : cParts P t ps.toList = some qs) (hall : fs.toList.all (fun f => (P.info? f.type).isSome) = true) (h : runOp X call yield fr st (.build zs qs) = some (v, st', log, fr')) :
    DidV P X g st w fr a.tmps (Instr.build t (ps.map fun (i, x) => (i, a.eval x))) v st' fr' := by
  simp only [runOp] at h
  cases h1 : parts fr qs with
  | none => simp [h1] at h
  | some M =>
    simp only [h1] at h
    cases h2 : fills zs M with
    | none => simp [h2] at h
    | some cs =>
      simp only [h2, Option.some.injEq, Prod.mk.injEq] at h
      obtain ⟨rfl, rfl, _, rfl⟩ := h
      obtain ⟨places, h3, h4⟩ := places_of hall
      unfold zeroT at hz
      cases hi : P.info? t with
      | none => simp [hi] at hz
      | some it =>
        simp [hi] at hz
        cases hzz : it.zero with
        | none => simp [hzz] at hz
        | some z =>
          simp [hzz] at hz
          obtain ⟨h5, h6⟩ := mapO_valL (g := g) hz
          obtain ⟨uc, h7, h8, h9, _⟩ := fills_spec (place := (places.toArray[·]?)) (parts_spec hf (t := t) (fun i off ft sz hft hsz => by
            obtain ⟨fs', fd, e1, e2, rfl, rfl⟩ := fieldT_spec hft
            rw [hu] at e1; cases e1
            unfold sizeT at hsz
            cases hinf : P.info? fd.type with
            | none => simp [hinf] at hsz
            | some inf =>
              simp [hinf] at hsz; subst hsz
              simpa using h4 i fd inf e2 hinf) hq h1) h2 h5 h6
          refine DidV.same hs hf (u := .agg uc) (run_build w t _ uc ?_) (by simp only [Rep]; exact ⟨uc, rfl, h9, h8⟩) rfl
          unfold Program.built
          simp only [hi, hu, hzz, h3, Array.toList_map]
          exact h7
end
end Go.Ai
/-! Operations, fourth part: slices made. -/
namespace Go.Ai
open Go
set_option linter.unusedSimpArgs false

section
variable {P : Program} {X : Env} {g g' : G} {st st' : St} {w w' : World} {fr fr' : T V} {log : List Tc} {v : V} {a : Act} {call : CallF} {yield : Nat → List V → St → R}

theorem elz_spec {t : TypeId} {sz bts : Nat} {zs : List V} (h : elzT P t = some (sz, bts, zs)) (g : G) : ∃ e i z, P.underlying t = some (.slice e) ∧ P.info? e = some i ∧ i.size = sz ∧ i.bytes = bts ∧ i.zero = some z ∧ Reps g zs z.cells.toList ∧ leafs zs = true ∧ zs.length = sz := by
  unfold elzT at h
  cases h1 : elemT P t with
  | none => simp [h1] at h
  | some e =>
    simp only [h1] at h
    cases h2 : sizeT P e with
    | none => simp [h2] at h
    | some sz' =>
      cases h3 : bytesT P e with
      | none => simp [h2, h3] at h
      | some b =>
        cases h4 : zeroT P e with
        | none => simp [h2, h3, h4] at h
        | some zs' =>
          simp only [h2, h3, h4] at h
          cases h5 : Nat.beq zs'.length sz' with
          | false => simp [h5] at h
          | true =>
            simp [h5] at h
            obtain ⟨rfl, rfl, rfl⟩ := h
            unfold sizeT at h2
            unfold bytesT at h3
            unfold zeroT at h4
            cases hi : P.info? e with
            | none => simp [hi] at h2
            | some i =>
              simp [hi] at h2 h3 h4
              cases hz : i.zero with
              | none => simp [hz] at h4
              | some z =>
                simp [hz] at h4
                obtain ⟨h6, h7⟩ := mapO_valL (g := g) h4
                exact ⟨e, i, z, elemT_spec h1, hi, h2, h3, hz, h6, h7, beqT h5⟩

theorem run_newRow (e : TypeId) (c : Array Value) : (newRow e c).run P w = .ok ⟨w.heap.size, 0, none⟩ { w with heap := w.heap.push (.cells c e (0, 0)) } := by
  simp [newRow, newObj, Sem.run]
theorem zeros_length (zs : List V) : ∀ n, (zeros zs n).length = n * zs.length
  | 0 => by simp [zeros]
  | n + 1 => by simp [zeros, zeros_length zs n, Nat.succ_mul, Nat.add_comm]
theorem zeros_get (zs : List V) : ∀ n j, j < n * zs.length → (zeros zs n)[j]? = zs[j % zs.length]?
  | 0, j, h => by simp at h
  | n + 1, j, h => by
    simp only [zeros, List.getElem?_append]
    by_cases hj : j < zs.length
    · rw [if_pos hj, Nat.mod_eq_of_lt hj]
    · have h' : j < n * zs.length + zs.length := by rw [← Nat.succ_mul]; exact h
      rw [if_neg hj, zeros_get zs n (j - zs.length) (by omega), ← Nat.mod_eq_sub_mod (by omega)]
theorem zeros_leafs {zs : List V} (h : leafs zs = true) : ∀ n, leafs (zeros zs n) = true
  | 0 => rfl
  | n + 1 => leafs_append h (zeros_leafs h n)
theorem zeros_reps {zs : List V} {z : Array Value} (h : Reps g zs z.toList) (n m : Nat) (hm : n * zs.length ≤ m) :
    Reps g (zeros zs n) (((Array.range m).map (fun k => z[k % z.size]!)).toList.take (n * zs.length)) := by
  have hl : zs.length = z.size := by simpa using Reps_length h
  refine Reps_of (by simp [zeros_length]; omega) fun i v u h1 h2 => ?_
  have hlt : i < n * zs.length := by have := (List.getElem?_eq_some_iff.1 h1).1; rw [zeros_length] at this; exact this
  rw [zeros_get _ _ _ hlt] at h1
  have hz : 0 < z.size := by
    rcases Nat.eq_zero_or_pos z.size with h0 | h0
    · rw [hl, h0] at hlt; simp at hlt
    · exact h0
  have hmod : i % z.size < z.size := Nat.mod_lt _ hz
  have him : i < m := by omega
  have h3 : u = z[i % z.size] := by
    simp [List.getElem?_take, hlt, him] at h2
    rw [← h2, getElem!_pos z _ hmod]
  subst h3
  rw [hl] at h1
  exact Reps_at h h1 (by simp [hmod])
theorem zeros_reps' {zs : List V} {z : Array Value} (h : Reps g zs z.toList) (n : Nat) :
    Reps g (zeros zs n) ((Array.range (n * zs.length)).map (fun k => z[k % z.size]!)).toList := by
  have := zeros_reps h n (n * zs.length) (Nat.le_refl _)
  rwa [List.take_of_length_le (by simp)] at this

theorem partsE_spec (hf : FrR g st w fr a.tmps) {sz : Nat} :
    ∀ {ps : List (Nat × Operand)} {qs : List (Nat × Opd)} {M : List (Nat × List V)}, cEls ps = some qs → partsE fr sz qs = some M → FillR g (fun i => some (i * sz, sz)) (ps.map fun (i, x) => (i, a.eval x)) M
  | [], qs, M, h, h' => by
    simp [cEls] at h; subst h
    simp [partsE] at h'; subst h'
    simp [FillR]
  | (i, x) :: ps, qs, M, h, h' => by
    simp only [cEls] at h
    cases h3 : cOpd x with
    | none => simp [h3] at h
    | some y =>
      cases h4 : cEls ps with
      | none => simp [h3, h4] at h
      | some r =>
        simp [h3, h4] at h; subst h
        simp only [partsE] at h'
        cases h5 : ev fr y with
        | none => simp [h5] at h'
        | some v =>
          cases h6 : v.cells? with
          | none => simp [h5, h6] at h'
          | some cs =>
            simp only [h5, h6] at h'
            cases h7 : Nat.beq cs.length sz with
            | false => simp [h7] at h'
            | true =>
              cases h8 : partsE fr sz r with
              | none => simp [h7, h8] at h'
              | some M' =>
                simp [h7, h8] at h'; subst h'
                obtain ⟨h9, h10⟩ := cells?_spec h6 (ev_sound hf h3 h5).1
                simp only [List.map_cons, FillR]
                exact ⟨i * sz, cs, M', rfl, by rw [beqT h7], h10, h9, partsE_spec hf h4 h8⟩

theorem cells_of_leaf {v : V} (h : leaf v = true) : v.cells = [v] := by cases v <;> simp_all [leaf, V.cells]
theorem chunks_spec {sz : Nat} : ∀ (k : Nat) (cs xs : List V), leafs cs = true → chunks sz k cs = some xs → xs.length = k ∧ cs.length = k * sz ∧ ∀ (i : Nat) (x : V), xs[i]? = some x → x.cells.length = sz ∧ ∀ (j : Nat) (v : V), x.cells[j]? = some v → cs[i * sz + j]? = some v
  | 0, [], xs, _, h => by simp [chunks] at h; subst h; simp
  | 0, _ :: _, xs, _, h => by simp [chunks] at h
  | k + 1, cs, xs, hl, h => by
    simp only [chunks, drops_eq] at h
    cases h1 : takes cs sz with
    | none => simp [h1] at h
    | some hd =>
      cases h2 : chunks sz k (cs.drop sz) with
      | none => simp [h1, h2] at h
      | some r =>
        simp only [h1, h2] at h
        obtain ⟨h3, h4⟩ := takes_spec _ _ _ h1
        obtain ⟨h5, h6, h7⟩ := chunks_spec k (cs.drop sz) r (leafs_drop _ hl) h2
        have hge : sz ≤ cs.length := by rw [h3] at h4; simp at h4; omega
        have key : ∃ x, xs = x :: r ∧ x.cells = hd := by
          have hlf : leafs hd = true := h3 ▸ leafs_take _ hl
          cases hd with
          | nil => simp at h; exact ⟨_, h.symm, rfl⟩
          | cons x t =>
            cases t with
            | nil => simp at h; exact ⟨x, h.symm, cells_of_leaf (leafs_get hlf 0 x rfl)⟩
            | cons y t => simp at h; exact ⟨_, h.symm, rfl⟩
        obtain ⟨x, rfl, hx⟩ := key
        refine ⟨by simp [h5], by simp at h6; rw [Nat.succ_mul]; omega, fun i y hi => ?_⟩
        cases i with
        | zero =>
          simp at hi; subst hi
          rw [hx]
          refine ⟨h4, fun j v hj => ?_⟩
          have hjl : j < sz := by have := (List.getElem?_eq_some_iff.1 hj).1; omega
          rw [h3, List.getElem?_take, if_pos hjl] at hj
          simpa using hj
        | succ i =>
          obtain ⟨h8, h9⟩ := h7 i y (by simpa using hi)
          refine ⟨h8, fun j v hj => ?_⟩
          have := h9 j v hj
          rw [List.getElem?_drop] at this
          rw [← this]; congr 1; rw [Nat.succ_mul]; omega
theorem pureAll_get : ∀ {vs : List V}, pureAll vs = true → ∀ (i : Nat) (v : V), vs[i]? = some v → pureV v = true
  | [], _, i, v, h => by simp at h
  | x :: xs, hl, i, v, h => by
    simp only [pureAll] at hl
    cases hx : pureV x with
    | false => simp [hx] at hl
    | true =>
      simp [hx] at hl
      cases i with
      | zero => simp at h; subst h; exact hx
      | succ i => exact pureAll_get hl i v (by simpa using h)

theorem did_bslice (hs : Sim P X g st w) (hf : FrR g st w fr a.tmps) {t : TypeId} {sz bts len : Nat} {zs : List V} {ps : Array (Nat × Operand)} {qs : List (Nat × Opd)} (hz : elzT P t = some (sz, bts, zs))
    (hq : cEls ps.toList = some qs) (hcap : Nat.ble (len * sz) 16777216 = true) (h : runOp X call yield fr st (.bslice sz len zs qs) = some (v, st', log, fr')) :
    DidV P X g st w fr a.tmps (Instr.buildSlice t len (ps.map fun (i, x) => (i, a.eval x))) v st' fr' := by
  simp only [runOp] at h
  obtain ⟨e, i, z, hu, hi, hsz, _, hzz, hrz, hlz, hlen⟩ := elz_spec hz g
  cases h1 : partsE fr sz qs with
  | none => simp [h1] at h
  | some M =>
    simp only [h1] at h
    cases h2 : fills (zeros zs len) M with
    | none => simp [h2] at h
    | some cs =>
      simp only [h2] at h
      have hzr := zeros_reps' hrz len
      rw [hlen] at hzr
      obtain ⟨uc, h7, h8, h9, h10⟩ := fills_spec (partsE_spec hf hq h1) h2 hzr (zeros_leafs hlz len)
      have hcap' := bleT hcap
      have hrun : (Instr.buildSlice t len (ps.map fun (i, x) => (i, a.eval x))).run P w = .ok (.slice (some ⟨w.heap.size, 0, none⟩) len len) { w with heap := w.heap.push (.cells uc e (0, 0)) } := by
        subst hsz
        have hc2 : ¬ (16777216 < len * i.size) := by omega
        by_cases h0 : len * i.size = 0
        · rw [h0] at h7
          have h7' : Instr.fill (fun j => some (j * i.size, i.size)) #[] (ps.toList.map fun x => (x.1, a.eval x.2)) = some uc := by
            simpa [Array.range_zero'] using h7
          simp [Instr.buildSlice, run_underlying hu, sizeOf, typeInfo, hi, h0, run_newRow, h7', Array.range_zero']
        · have h7' : Instr.fill (fun j => some (j * i.size, i.size)) ((Array.range (len * i.size)).map fun k => z.cells[k % z.cells.size]!) (ps.toList.map fun x => (x.1, a.eval x.2)) = some uc := h7
          simp [Instr.buildSlice, run_underlying hu, sizeOf, typeInfo, hi, h0, hc2, run_newRow, h7', zeroValue, hzz]
      have hw : Wpush w { w with heap := w.heap.push (.cells uc e (0, 0)) } (.cells uc e (0, 0)) := ⟨rfl, rfl, rfl, rfl⟩
      have hus : uc.size = len * sz := by rw [h10]; simp
      cases h11 : Nat.beq len 0 with
      | true =>
        have := beqT h11
        subst this
        simp [h11] at h
        obtain ⟨rfl, rfl, _, rfl⟩ := h
        exact DidV.step hs hf hrun (Step.garbage hs hw) (by simp only [Rep, RepL]; exact ⟨_, rfl⟩) rfl
      | false =>
        simp only [h11, cond_false] at h
        cases h12 : pureAll cs with
        | true =>
          simp only [h12, cond_true] at h
          cases h13 : chunks sz len cs with
          | none => simp [h13] at h
          | some xs =>
            simp [h13] at h
            obtain ⟨rfl, rfl, _, rfl⟩ := h
            have hst := Step.newFz hs hw (m := fun i => cs[i]?) fun i v hi => ⟨pureAll_get h12 i v hi, by
              obtain ⟨u, e1, e2⟩ := Reps_get h8 i v hi
              exact ⟨u, by simpa using e1, e2⟩⟩
            refine DidV.step hs hf hrun hst ?_ rfl
            obtain ⟨e1, e2, e3⟩ := chunks_spec len cs xs h9 h13
            simp only [Rep, RepL]
            refine ⟨w.heap.size, 0, len, fun i => cs[i]?, by simp [G.newFz], by rw [e1], by omega, fun _ => e1.symm, fun i x hi => ?_⟩
            obtain ⟨e4, e5⟩ := e3 i x hi
            exact ⟨e4, fun j v hj => by simpa using e5 j v hj⟩
        | false =>
          simp [h12] at h
          obtain ⟨rfl, rfl, _, rfl⟩ := h
          have hcl : cs.length = len * sz := by rw [Reps_length h8]; simp [hus]
          have hle : g.le (g.newLoc st.next w.heap.size 0 uc.size) := le_newLoc hs.loc_top
          have hst := Step.newLoc hs hw (some (.cells (len * sz) (T.ofList cs))) 0 uc.size (by
            intro bl hbl; cases hbl
            exact ⟨uc, e, rfl, rfl, by omega, hcl ▸ cellsR_ofList (h8.mono' hle) h9⟩)
          refine DidV.step hs hf hrun hst ?_ rfl
          simp only [Rep, RepL]
          exact ⟨w.heap.size, 0, uc.size, len, by simp [G.newLoc], rfl, by omega, by omega⟩

theorem did_mks (hs : Sim P X g st w) (hf : FrR g st w fr a.tmps) {t : TypeId} {sz bts : Nat} {zs : List V} {l c : Operand} (hz : elzT P t = some (sz, bts, zs))
    (h : runOp X call yield fr st (o2 (.mks sz bts zs) l c) = some (v, st', log, fr')) :
    DidV P X g st w fr a.tmps (Instr.makeSlice t (a.eval l) (a.eval c)) v st' fr' := by
  obtain ⟨l', c', hl, hc, h⟩ := o2_run h
  simp only [runOp] at h
  cases h1 : ev fr l' with
  | none => simp [h1] at h
  | some lv =>
    cases h2 : ev fr c' with
    | none => simp [h1, h2] at h
    | some cv =>
      simp only [h1, h2] at h
      cases h3 : nat? lv with
      | none => simp [h3] at h
      | some len =>
        cases h4 : nat? cv with
        | none => simp [h3, h4] at h
        | some cap =>
          simp only [h3, h4] at h
          cases h5 : Nat.ble len cap with
          | false => simp [h5] at h
          | true =>
            cases h6 : Nat.blt (cap * (bts + 1)) 1000000000000 with
            | false => simp [h5, h6] at h
            | true =>
              simp [h5, h6] at h
              obtain ⟨rfl, rfl, _, rfl⟩ := h
              have h5 := bleT h5
              have h6 := bltT h6
              have nat_of : ∀ {q : V} {n : Nat}, nat? q = some n → q = .int .i64 n := by
                intro q n hq
                unfold nat? at hq
                split at hq
                · cases hq; rfl
                · cases hq
              have e1 := (ev_sound hf hl h1).1
              have e2 := (ev_sound hf hc h2).1
              rw [nat_of h3] at e1
              rw [nat_of h4] at e2
              simp only [Rep, RepL] at e1 e2
              obtain ⟨e, i, z, hu, hi, hsz, hbt, hzz, hrz, hlz, hlen⟩ := elz_spec hz g
              subst hsz hbt
              have hcb : cap * i.bytes < 1000000000000 := by
                have : cap * i.bytes ≤ cap * (i.bytes + 1) := Nat.mul_le_mul_left _ (Nat.le_succ _)
                omega
              have hcs : cap < 1000000000000 := by
                have : cap ≤ cap * (i.bytes + 1) := by
                  have := Nat.mul_le_mul_left cap (Nat.le_add_left 1 i.bytes)
                  simpa using this
                omega
              have wl : IntKind.i64.wrap (len : Int) = len := by simp [IntKind.wrap, IntKind.signed, IntKind.bits]; omega
              have wc : IntKind.i64.wrap (cap : Int) = cap := by simp [IntKind.wrap, IntKind.signed, IntKind.bits]; omega
              have hrun : (Instr.makeSlice t (a.eval l) (a.eval c)).run P w = .ok (.slice (some ⟨w.heap.size, 0, none⟩) len cap)
                  { w with heap := w.heap.push (.cells ((Array.range (cap * i.size)).map fun k => z.cells[k % z.cells.size]!) e (0, 0)) } := by
                have hb1 : ¬ ((281474976710656 : Int) < (i.bytes : Int) * (cap : Int)) := by
                  have : ((cap * i.bytes : Nat) : Int) < 1000000000000 := by omega
                  rw [Int.natCast_mul, Int.mul_comm] at this
                  omega
                have hb2 : ¬ (140737488355328 < cap * i.bytes) := by omega
                have hb3 : ¬ ((cap : Int) < (len : Int)) := by omega
                have hb4 : ¬ ((cap : Int) < 0) := by omega
                have hb5 : ¬ ((len : Int) < 0) := by omega
                by_cases h0 : cap * i.size = 0
                · simp [Instr.makeSlice, run_underlying hu, e1, e2, asInt, asIntOf, typeInfo, hi, wl, wc, hb1, hb2, hb3, hb4, hb5, askRoom, roomBytes, sizeOf, h0, run_newRow, Array.range_zero']
                · simp [Instr.makeSlice, run_underlying hu, e1, e2, asInt, asIntOf, typeInfo, hi, wl, wc, hb1, hb2, hb3, hb4, hb5, askRoom, roomBytes, sizeOf, h0, run_newRow, zeroValue, hzz]
              have hw : Wpush w { w with heap := w.heap.push (.cells ((Array.range (cap * i.size)).map fun k => z.cells[k % z.cells.size]!) e (0, 0)) } (.cells ((Array.range (cap * i.size)).map fun k => z.cells[k % z.cells.size]!) e (0, 0)) := ⟨rfl, rfl, rfl, rfl⟩
              generalize hcr : ((Array.range (cap * i.size)).map fun k => z.cells[k % z.cells.size]!) = cr at hrun hw
              have hsize : cr.size = cap * i.size := by rw [← hcr]; simp
              have hmul : len * i.size ≤ cap * i.size := Nat.mul_le_mul_right _ h5
              have hle : g.le (g.newLoc st.next w.heap.size 0 cr.size) := le_newLoc hs.loc_top
              have hst := Step.newLoc hs hw (some (.cells (len * i.size) (T.ofList (zeros zs len)))) 0 cr.size (by
                intro bl hbl; cases hbl
                refine ⟨cr, e, rfl, rfl, by omega, ?_⟩
                have hz1 := zeros_reps hrz len (cap * i.size) (by rw [hlen]; exact hmul)
                rw [hcr, hlen] at hz1
                intro j hj
                have hjl : j < (zeros zs len).length := by rw [zeros_length, hlen]; exact hj
                have h7 : (zeros zs len)[j]? = some (zeros zs len)[j] := List.getElem?_eq_getElem hjl
                obtain ⟨u, h8, h9⟩ := Reps_get hz1 j _ h7
                refine ⟨_, u, by rw [T.get_ofList]; exact h7, leafs_get (zeros_leafs hlz len) j _ h7, ?_, h9.mono hle⟩
                rw [List.getElem?_take, if_pos hj] at h8
                simpa using h8)
              refine DidV.step hs hf hrun hst ?_ rfl
              simp only [Rep, RepL]
              exact ⟨w.heap.size, 0, cr.size, cap, by simp [G.newLoc], rfl, h5, by omega⟩
end
end Go.Ai
/-! Operations, fifth part: stores, fields, elements. -/
namespace Go.Ai
open Go
set_option linter.unusedSimpArgs false

section
variable {P : Program} {X : Env} {g g' : G} {st st' : St} {w w' : World} {fr fr' : T V} {log : List Tc} {v : V} {a : Act} {call : CallF} {yield : Nat → List V → St → R}

/-- a store where the cells lie -/
theorem run_storeVar {t : TypeId} {n : Nat} (hsz : sizeT P t = some n) {b o : Nat} {x : Value} {c : Array Value} {e : TypeId} (hh : w.heap[b]? = some (.cells c e (0, 0))) (hn : x.cells.size = n) (hle : o + n ≤ c.size)
    (h1 : ∀ u ∈ x.cells.toList, u.oneCell' = true) :
    (Instr.storeAt t (.pointer (some ⟨b, o, none⟩)) x).run P w = .ok () (w.setRow b (paste c.toList o x.cells.toList).toArray) := by
  have h2 := run_storeCells_at P b o e x.cells.toList 0 c w hh (by simp; omega) h1
  simp [Instr.storeAt, Instr.sureAddr, storeVar, run_sizeOf hsz, hn]
  simpa [paste] using h2

theorem did_store (hs : Sim P X g st w) (hf : FrR g st w fr a.tmps) {t : TypeId} {n : Nat} (hsz : sizeT P t = some n) {x y : Operand}
    (h : runOp X call yield fr st (o2 (.store n) x y) = some (v, st', log, fr')) :
    v = .junk ∧ DidU P X g st w fr a.tmps (Instr.storeAt t (a.eval x) (a.eval y)) st' fr' := by
  obtain ⟨x', y', hx, hy, h⟩ := o2_run h
  simp only [runOp, runStore] at h
  cases h1 : addr fr x' with
  | none => simp [h1] at h
  | some ad =>
    cases h2 : ev fr y' with
    | none => cases ad <;> simp [h1, h2] at h
    | some yv =>
      have had := addr_sound hf hx h1
      have hyr := (ev_sound hf hy h2).1
      cases ad with
      | loc slot off id cs =>
        simp only [h1, h2] at h
        cases h3 : yv.cells? with
        | none => simp [h3] at h
        | some new =>
          simp only [h3] at h
          cases h4 : Nat.beq new.length n with
          | false => simp [h4] at h
          | true =>
            simp only [h4, cond_true] at h
            cases h5 : overlay cs off new with
            | none => simp [h5] at h
            | some cs' =>
              simp [h5] at h
              obtain ⟨rfl, rfl, _, rfl⟩ := h
              refine ⟨rfl, ?_⟩
              obtain ⟨hslot, ⟨b, c, e, hl1, hl2, hl3, hl4, hl5⟩, hnl, b2, top, hl6, hl7⟩ := had
              rw [hl1] at hl6
              obtain ⟨rfl, _⟩ : b = b2 ∧ _ := by simpa using hl6
              obtain ⟨h6, h7⟩ := cells?_spec h3 hyr
              obtain ⟨h8, rfl⟩ := overlay_spec h5
              have h4 := beqT h4
              have hys : (a.eval y).cells.size = n := by have := Reps_length h7; simp at this; omega
              have hle : off + n ≤ c.size := by omega
              have hrun := run_storeVar (x := a.eval y) hsz hl3 hys hle (oneCells h7 h6)
              have hput := Wput.setRow (c' := (paste c.toList off (a.eval y).cells.toList).toArray) hl3
              rw [← hl7] at hrun
              generalize hc' : (paste c.toList off (a.eval y).cells.toList).toArray = c' at hrun hput
              have hcl : c'.toList = paste c.toList off (a.eval y).cells.toList := by rw [← hc']
              have hns : c'.size = c.size := by
                have := congrArg List.length hcl
                rw [paste_length (by simp; omega)] at this
                simpa using this
              have hcs : leafs cs = true := leafs_of fun i v hi => by
                obtain ⟨v2, u, e1, e2, _⟩ := hl5 i (List.getElem?_eq_some_iff.1 hi).1
                simp only [hi] at e1; cases e1; exact e2
              have hcr : Reps g cs c.toList := Reps_of (by simp; omega) fun i v u h1 h2 => by
                obtain ⟨v2, u2, e1, _, e3, e4⟩ := hl5 i (List.getElem?_eq_some_iff.1 h1).1
                simp only [h1] at e1; cases e1
                rw [Nat.zero_add] at e3
                simp only [Array.getElem?_toList] at h2
                rw [h2] at e3; cases e3; exact e4
              have hloc : LocR g (w.setRow b c') id (paste cs off new) := by
                refine ⟨b, c', e, by rw [hns]; exact hl1, hl2, hput.here, by rw [paste_length h8, hns, hl4], ?_⟩
                exact cellsR_list (by rw [hcl]; exact Reps_paste hcr h7) (leafs_paste hcs h6)
              have hfz : ∀ k m, g.fz k = some m → k ≠ b := fun k m hm e => by subst e; have := (hs.fz k m hm).1; rw [hl2] at this; cases this
              have hgl : ∀ k v, X.glob k = some v → k ≠ b := fun k v hk e => by subst e; have := (hs.glob k v hk).1; rw [hl2] at this; cases this
              have hsim : Sim P X g st (w.setRow b c') := by
                refine ⟨fun b l ho => by rw [hput.size]; exact hs.sz b l ho, hs.lt, hs.ht, hs.own, fun l bl e1 e2 => ?_, fun k m hm => ?_, fun k v hk => ?_⟩
                · obtain ⟨b', bs, tp, o', e3, e4, e5, e6⟩ := hs.blk l bl e1 e2
                  have hne : b' ≠ b := fun e7 => by
                    subst e7
                    rw [hl2] at e4; cases e4
                    exact hnl ⟨bl, e1, e2⟩
                  exact ⟨b', bs, tp, o', e3, e4, by rw [hput.other _ hne]; exact e5, e6⟩
                · obtain ⟨h0, c, e, f, h5, h6⟩ := hs.fz k m hm
                  exact ⟨h0, c, e, f, by rw [hput.other _ (hfz k m hm)]; exact h5, h6⟩
                · obtain ⟨h0, h9, c, e, f, u, h5, h6, h7⟩ := hs.glob k v hk
                  exact ⟨h0, h9, c, e, f, u, by rw [hput.other _ (hgl k v hk)]; exact h5, h6, h7⟩
              refine ⟨_, g, hrun, ⟨G.le.refl g, hsim, Nat.le_refl _, by rw [hput.size]; omega, fun k o hk hn => ⟨?_, rfl⟩, fun _ _ ho _ => .inl ho, fun _ _ hv => hv, hput.os, hput.out, hput.tape, fun _ _ _ h => h, fun _ _ _ h => h, ?_⟩, ?_⟩
              · rw [hput.other k fun e7 => by subst e7; exact (hn id hl2).2 ⟨slot, cs, hslot⟩]; exact hk
              · rintro id' ⟨i, cs2, hi⟩
                rw [T.get_set] at hi
                by_cases e7 : slot = i
                · rw [if_pos e7] at hi; cases hi; exact .inl ⟨slot, cs, hslot⟩
                · rw [if_neg e7] at hi; exact .inl ⟨i, cs2, hi⟩
              · refine ⟨fun i v' hi => ?_, fun i j id' c1 c2 e1 e2 => ?_⟩
                · rw [T.get_set] at hi
                  by_cases e7 : slot = i
                  · rw [if_pos e7] at hi; cases hi; subst e7
                    exact ⟨(hf.val _ _ hslot).1, hloc, hnl, by
                      obtain ⟨_, _, b3, top3, e8, e9⟩ := (hf.val _ _ hslot).2
                      exact ⟨b3, top3, e8, e9⟩⟩
                  · rw [if_neg e7] at hi
                    obtain ⟨e8, e9⟩ := hf.val i v' hi
                    refine ⟨e8, ?_⟩
                    cases v' <;> try exact e9
                    rename_i id' cs2
                    obtain ⟨⟨b', c2, t2, e10, e11, e12, e13, e14⟩, e15, e16⟩ := e9
                    refine ⟨⟨b', c2, t2, e10, e11, ?_, e13, e14⟩, e15, e16⟩
                    rw [hput.other _ fun e17 => ?_]
                    · exact e12
                    · subst e17
                      rw [hl2] at e11; cases e11
                      exact e7 (hf.apart _ _ _ _ _ hslot hi)
                · have key : ∀ k c, (fr.set slot (.loc id (paste cs off new))).get k = some (.loc id' c) → ∃ c, fr.get k = some (.loc id' c) := by
                    intro k c h
                    rw [T.get_set] at h
                    by_cases e : slot = k
                    · rw [if_pos e] at h; cases h; exact ⟨cs, e ▸ hslot⟩
                    · rw [if_neg e] at h; exact ⟨c, h⟩
                  obtain ⟨c1, e3⟩ := key i c1 e1
                  obtain ⟨c2, e4⟩ := key j c2 e2
                  exact hf.apart i j id' c1 c2 e3 e4
      | val av =>
        simp only [h1, h2] at h
        obtain ⟨v1', st1, log1, h', hr⟩ := r1_some h
        clear h
        have h := h'
        clear h'
        simp only [Prod.mk.injEq] at hr
        obtain ⟨rfl, rfl, _, rfl⟩ := hr
        obtain ⟨hra, hpa⟩ := had
        cases av <;> simp only [storeB] at h <;> try cases h
        case ptr l off =>
          cases h3 : st.blk l with
          | none => simp [h3] at h
          | some mt =>
            obtain ⟨m, tr⟩ := mt
            simp only [h3] at h
            cases h4 : yv.cells? with
            | none => simp [h4] at h
            | some new =>
              simp only [h4] at h
              cases h5 : Nat.beq new.length n with
              | false => simp [h5] at h
              | true =>
                cases h6 : Nat.ble (off + n) m with
                | false => simp [h5, h6] at h
                | true =>
                  simp [h5, h6] at h
                  obtain ⟨rfl, rfl, _⟩ := h
                  refine ⟨rfl, ?_⟩
                  have h5 := beqT h5
                  have h6 := bleT h6
                  simp only [Rep, RepL] at hra
                  obtain ⟨b, base, top, hl1, hl2⟩ := hra
                  have hbg := blk_get h3
                  obtain ⟨b2, base2, top2, ob, e1, e2, e3, e4⟩ := hs.blk l _ hbg rfl
                  rw [hl1] at e1
                  obtain ⟨rfl, rfl, rfl⟩ : b = b2 ∧ base = base2 ∧ top = top2 := by simpa using e1
                  obtain ⟨c, e, rfl, htop, hbm, hcr⟩ := e4
                  obtain ⟨h7, h8⟩ := cells?_spec h4 hyr
                  have hys : (a.eval y).cells.size = n := by have := Reps_length h8; simp at this; omega
                  have hrun := run_storeVar (x := a.eval y) (o := base + off) hsz e3 hys (by omega) (oneCells h8 h7)
                  rw [← hl2] at hrun
                  have hput := Wput.setRow (c' := (paste c.toList (base + off) (a.eval y).cells.toList).toArray) e3
                  have hns : (paste c.toList (base + off) (a.eval y).cells.toList).length = c.size := by rw [paste_length (by simp; omega)]; simp
                  have hst := Step.put hs hbg rfl hl1 hput (bl := .cells m (tr.fill off new)) (wr := marks st.lim (touch l m off n) st.wr) (lim := st.lim) fun _ => by
                    refine ⟨_, e, rfl, by rw [htop]; simp [hns], by simp [hns]; omega, fun i hi => ?_⟩
                    rw [T.get_fill]
                    have hnl : new.length = (a.eval y).cells.size := by omega
                    have hpg : (paste c.toList (base + off) (a.eval y).cells.toList).toArray[base + i]? = (if off ≤ i ∧ i < off + n then (a.eval y).cells.toList[i - off]? else c[base + i]?) := by
                      rw [List.getElem?_toArray, paste_get (by simp; omega)]
                      by_cases hin : off ≤ i ∧ i < off + n
                      · rw [if_pos (by simp; omega), if_pos hin]; congr 1; omega
                      · rw [if_neg (by simp; omega), if_neg hin]; simp
                    rw [hpg]
                    by_cases hin : off ≤ i ∧ i < off + n
                    · rw [if_pos (by omega), if_pos hin]
                      have hlt : i - off < new.length := by omega
                      have e5 : new[i - off]? = some new[i - off] := List.getElem?_eq_getElem hlt
                      obtain ⟨u, e6, e7⟩ := Reps_get h8 _ _ e5
                      exact ⟨_, u, e5, leafs_get h7 _ _ e5, e6, e7⟩
                    · rw [if_neg (by omega), if_neg hin]
                      exact hcr i hi
                  exact ⟨_, g, hrun, .ofStep hst, hf.step hs hst⟩
end
end Go.Ai
/-! Strings as numbers. -/
namespace Go.Ai
open Go

def val (l : List UInt8) : Nat := l.foldl (fun a b => a * 256 + b.toNat) 0
theorem foldl_from : ∀ (l : List UInt8) (s : Nat), l.foldl (fun a b => a * 256 + b.toNat) s = s * 256 ^ l.length + val l
  | [], s => by simp [val]
  | x :: l, s => by
    have h1 := foldl_from l (s * 256 + x.toNat)
    have h2 := foldl_from l (0 * 256 + x.toNat)
    simp only [List.foldl_cons, val, List.length_cons] at h1 h2 ⊢
    rw [h1, h2, Nat.pow_succ, Nat.add_mul, Nat.add_mul]
    simp only [Nat.zero_mul, Nat.zero_add]
    rw [show s * 256 * 256 ^ l.length = s * (256 ^ l.length * 256) from by rw [Nat.mul_assoc, Nat.mul_comm 256]]
    omega
theorem val_lt : ∀ l : List UInt8, val l < 256 ^ l.length
  | [] => by simp [val]
  | x :: l => by
    have h1 := foldl_from l (0 * 256 + x.toNat)
    have h2 := val_lt l
    have h3 : x.toNat < 256 := x.toNat_lt
    show l.foldl _ (0 * 256 + x.toNat) < _
    rw [h1, List.length_cons, Nat.pow_succ]
    have : (x.toNat + 1) * 256 ^ l.length ≤ 256 * 256 ^ l.length := Nat.mul_le_mul_right _ h3
    rw [Nat.add_mul] at this
    simp only [Nat.zero_mul, Nat.zero_add]
    omega
theorem enc_eq (l : List UInt8) : enc l = 256 ^ l.length + val l := by
  have := foldl_from l 1
  simpa [enc] using this
theorem val_append (a b : List UInt8) : val (a ++ b) = val a * 256 ^ b.length + val b := by
  unfold val
  rw [List.foldl_append]
  exact foldl_from b _
theorem enc_append (a b : List UInt8) : enc (a ++ b) = enc a * 256 ^ b.length + val b := by
  unfold enc
  rw [List.foldl_append]
  exact foldl_from b _
theorem pow_pos' (n : Nat) : 0 < 256 ^ n := Nat.pow_pos (by omega)
theorem slen_enc (l : List UInt8) : slen (enc l) = l.length := by
  unfold slen
  have h1 := enc_eq l
  have h2 := val_lt l
  have h3 : (256 : Nat) ^ l.length = 2 ^ (8 * l.length) := by rw [Nat.pow_mul]
  have h4 : Nat.log2 (enc l) = 8 * l.length := by
    have hne : enc l ≠ 0 := by have := pow_pos' l.length; omega
    have a1 : 8 * l.length ≤ Nat.log2 (enc l) := (Nat.le_log2 hne).2 (by omega)
    have a2 : Nat.log2 (enc l) < 8 * l.length + 1 := (Nat.log2_lt hne).2 (by rw [Nat.pow_succ]; omega)
    omega
  rw [h4]; omega
theorem scat_enc (a b : List UInt8) : scat (enc a) (enc b) = enc (a ++ b) := by
  unfold scat
  rw [slen_enc, enc_append, enc_eq b]
  omega
theorem div_enc (a b : List UInt8) : enc (a ++ b) / 256 ^ b.length = enc a := by
  rw [enc_append, Nat.mul_comm, Nat.mul_add_div (pow_pos' _), Nat.div_eq_of_lt (val_lt b)]; omega
theorem sat_enc (l : List UInt8) (i : Nat) (x : UInt8) (h : l[i]? = some x) : sat (enc l) i = x.toNat := by
  have hlt : i < l.length := (List.getElem?_eq_some_iff.1 h).1
  unfold sat
  rw [slen_enc]
  have e : l = (l.take i ++ [x]) ++ l.drop (i + 1) := by
    have h1 : l.drop i = x :: l.drop (i + 1) := by rw [List.drop_eq_getElem_cons hlt, (List.getElem?_eq_some_iff.1 h).2]
    rw [List.append_assoc, List.singleton_append, ← h1, List.take_append_drop]
  have hl : l.length - 1 - i = (l.drop (i + 1)).length := by simp; omega
  rw [hl]
  conv => lhs; rw [e]
  have e2 : ((l.take i ++ [x]) ++ l.drop (i + 1)).drop (i + 1) = l.drop (i + 1) := by rw [← e]
  rw [e2, div_enc, enc_append]
  have : x.toNat < 256 := x.toNat_lt
  simp [val]
theorem ssub_enc (l : List UInt8) (lo hi : Nat) (h1 : lo ≤ hi) (h2 : hi ≤ l.length) : ssub (enc l) lo hi = enc ((l.take hi).drop lo) := by
  unfold ssub
  rw [slen_enc]
  have e : l = l.take hi ++ l.drop hi := (List.take_append_drop _ _).symm
  have hl : l.length - hi = (l.drop hi).length := by simp
  rw [hl]
  have e1 : enc l / 256 ^ (l.drop hi).length = enc (l.take hi) := by
    conv => lhs; arg 1; rw [e]
    exact div_enc _ _
  rw [e1]
  have e3 : l.take hi = (l.take hi).take lo ++ (l.take hi).drop lo := (List.take_append_drop _ _).symm
  have hm : ((l.take hi).drop lo).length = hi - lo := by simp; omega
  conv => lhs; arg 1; arg 1; rw [e3]
  rw [enc_append, hm, Nat.mul_add_mod_self_right, Nat.mod_eq_of_lt (hm ▸ val_lt _), enc_eq ((l.take hi).drop lo), hm]
  omega
theorem enc_inj {a b : List UInt8} (h : enc a = enc b) : a = b := by
  have hl : a.length = b.length := by rw [← slen_enc a, ← slen_enc b, h]
  apply List.ext_getElem? 
  intro i
  by_cases hi : i < a.length
  · have h1 : a[i]? = some a[i] := List.getElem?_eq_getElem hi
    have h2 : b[i]? = some b[i] := List.getElem?_eq_getElem (hl ▸ hi)
    have h3 := sat_enc a i _ h1
    have h4 := sat_enc b i _ h2
    rw [h, h4] at h3
    rw [h1, h2]
    exact congrArg some (UInt8.toNat_inj.1 h3.symm)
  · rw [List.getElem?_eq_none (by omega), List.getElem?_eq_none (by omega)]
theorem enc_pos (l : List UInt8) : 0 < enc l := by rw [enc_eq]; have := pow_pos' l.length; omega

/-! the order -/
def pad (m : Nat) (l : List UInt8) : Nat := val l * 256 ^ (m - l.length)
theorem pad_lt (m : Nat) (l : List UInt8) (h : l.length ≤ m) : pad m l < 256 ^ m := by
  unfold pad
  have := val_lt l
  calc val l * 256 ^ (m - l.length) < 256 ^ l.length * 256 ^ (m - l.length) := Nat.mul_lt_mul_of_pos_right this (pow_pos' _)
    _ = 256 ^ m := by rw [← Nat.pow_add]; congr 1; omega
theorem pad_cons (m : Nat) (x : UInt8) (l : List UInt8) (h : l.length ≤ m) : pad (m + 1) (x :: l) = x.toNat * 256 ^ m + pad m l := by
  unfold pad
  have e : val (x :: l) = x.toNat * 256 ^ l.length + val l := by
    have := val_append [x] l
    simpa [val] using this
  rw [e, Nat.add_mul, Nat.mul_assoc, ← Nat.pow_add, List.length_cons, show m + 1 - (l.length + 1) = m - l.length from by omega, show l.length + (m - l.length) = m from by omega]
theorem bytesLess_pad : ∀ (m : Nat) (a b : List UInt8), a.length ≤ m → b.length ≤ m → (Op.bytesLess a b = true ↔ (pad m a < pad m b ∨ (pad m a = pad m b ∧ a.length < b.length)))
  | m, _, [], _, _ => by simp [Op.bytesLess, pad, val]
  | m, [], y :: b, _, _ => by
    simp only [Op.bytesLess, List.length_nil, List.length_cons, true_iff]
    have : pad m [] = 0 := by simp [pad, val]
    omega
  | 0, x :: a, y :: b, h, _ => by simp at h
  | m + 1, x :: a, y :: b, h1, h2 => by
    simp only [List.length_cons, Nat.add_le_add_iff_right] at h1 h2
    have ih := bytesLess_pad m a b h1 h2
    rw [pad_cons m x a h1, pad_cons m y b h2]
    have p1 := pad_lt m a h1
    have p2 := pad_lt m b h2
    simp only [Op.bytesLess, Bool.or_eq_true, decide_eq_true_eq, Bool.and_eq_true, beq_iff_eq, ih, List.length_cons, Nat.add_lt_add_iff_right]
    rw [UInt8.lt_iff_toNat_lt, ← UInt8.toNat_inj]
    have hx : x.toNat < y.toNat → x.toNat * 256 ^ m + 256 ^ m ≤ y.toNat * 256 ^ m := fun h => by
      have := Nat.mul_le_mul_right (256 ^ m) h
      rw [Nat.succ_mul] at this
      exact this
    have hy : y.toNat < x.toNat → y.toNat * 256 ^ m + 256 ^ m ≤ x.toNat * 256 ^ m := fun h => by
      have := Nat.mul_le_mul_right (256 ^ m) h
      rw [Nat.succ_mul] at this
      exact this
    rcases Nat.lt_trichotomy x.toNat y.toNat with h | h | h
    · have := hx h
      omega
    · rw [h]; omega
    · have := hy h
      omega
theorem scmp_enc (a b : List UInt8) : scmp (enc a) (enc b) = if a = b then 0 else if Op.bytesLess a b = true then -1 else 1 := by
  unfold scmp
  simp only [slen_enc]
  have e1 : (enc a - 256 ^ a.length) * 256 ^ (max a.length b.length - a.length) = pad (max a.length b.length) a := by rw [enc_eq, Nat.add_sub_cancel_left]; rfl
  have e2 : (enc b - 256 ^ b.length) * 256 ^ (max a.length b.length - b.length) = pad (max a.length b.length) b := by rw [enc_eq, Nat.add_sub_cancel_left]; rfl
  rw [e1, e2]
  have hm := bytesLess_pad (max a.length b.length) a b (Nat.le_max_left _ _) (Nat.le_max_right _ _)
  have hbeq : ∀ x y : Nat, Nat.beq x y = decide (x = y) := fun x y => by
    by_cases h : x = y
    · subst h; simp
    · cases hh : Nat.beq x y
      · simp [h]
      · exact absurd (Nat.eq_of_beq_eq_true hh) h
  have hblt : ∀ x y : Nat, Nat.blt x y = decide (x < y) := fun x y => by
    unfold Nat.blt
    by_cases h : x < y
    · rw [Nat.ble_eq_true_of_le h]; simp [h]
    · cases hh : Nat.ble x.succ y
      · simp [h]
      · exact absurd (Nat.le_of_ble_eq_true hh) h
  simp only [hbeq, hblt]
  by_cases hab : a = b
  · subst hab; simp
  · rw [if_neg hab]
    by_cases hp : pad (max a.length b.length) a = pad (max a.length b.length) b
    · have hl : a.length ≠ b.length := fun hl => by
        apply hab
        apply enc_inj
        unfold pad at hp
        rw [hl] at hp
        simp at hp
        rw [enc_eq, enc_eq, hp, hl]
      by_cases hlt : a.length < b.length
      · have : Op.bytesLess a b = true := hm.2 (.inr ⟨hp, hlt⟩)
        simp [hp, hl, hlt, this]
      · have : ¬ Op.bytesLess a b = true := fun h => by
          rcases hm.1 h with h | h <;> omega
        simp [hp, hl, hlt, this]
    · by_cases hlt : pad (max a.length b.length) a < pad (max a.length b.length) b
      · have : Op.bytesLess a b = true := hm.2 (.inl hlt)
        simp [hp, hlt, this]
      · have : ¬ Op.bytesLess a b = true := fun h => by
          rcases hm.1 h with h | h <;> omega
        simp [hp, hlt, this]
end Go.Ai
/-! Operations, sixth part: numbers, strings, comparisons. -/
namespace Go.Ai
open Go
set_option linter.unusedSimpArgs false

/-- what the environment's types are that may be compared behind an interface -/
def OkX (P : Program) (X : Env) : Prop := ∀ t, X.ok t = true → ∃ i e n, P.info? t = some i ∧ i.comparable = true ∧ P.underlying t = some (.pointer e) ∧ sizeT P e = some (n + 1)

section
variable {P : Program} {X : Env} {g g' : G} {st st' : St} {w w' : World} {fr fr' : T V} {log : List Tc} {v : V} {a : Act} {call : CallF} {yield : Nat → List V → St → R}

theorem ofSem_spec {s : Sem Value} {v : V} (h : ofSem s = some v) : ∃ u, s.run P w = .ok u w ∧ Rep g v u ∧ plain v = true := by
  cases s <;> simp only [ofSem] at h <;> try cases h
  rename_i u
  refine ⟨u, rfl, ?_⟩
  cases u <;> simp [ofScalar] at h <;> subst h <;> simp [Rep, RepL, plain]

theorem binOp_int (op : BinOp) (t : TypeId) (k k' : IntKind) (x y : Int) : binOp op t (.int k x) (.int k' y) = binOp op 0 (.int k x) (.int k' y) := by
  cases op <;> simp [binOp]

theorem binV_spec {op : BinOp} {t : TypeId} {x y v : V} {u u' : Value} (hx : Rep g x u) (hy : Rep g y u') (h : binV op x y = some v) :
    ∃ r, (binOp op t u u').run P w = .ok r w ∧ Rep g v r ∧ plain v = true ∧ ∀ ox oy, eqGuard op t ox oy u u' = pure () := by
  cases x <;> simp only [binV] at h <;> try cases h
  case int k x =>
    cases y <;> simp only at h <;> try cases h
    rename_i k' y
    simp only [Rep, RepL] at hx hy
    subst hx hy
    obtain ⟨r, h1, h2, h3⟩ := ofSem_spec (P := P) (w := w) (g := g) h
    exact ⟨r, by rw [binOp_int]; exact h1, h2, h3, fun ox oy => eqGuard_at_int ..⟩
  case str x =>
    cases y <;> simp only at h <;> try cases h
    rename_i y
    simp only [Rep, RepL] at hx hy
    obtain ⟨s, rfl, rfl⟩ := hx
    obtain ⟨s', rfl, rfl⟩ := hy
    have hg : ∀ ox oy, eqGuard op t ox oy (.string s) (.string s') = pure () := fun ox oy => eqGuard_at_string ..
    have hb : binOp op t (.string s) (.string s') = Op.stringOp op s s' := by cases op <;> rfl
    have heq : (Nat.beq (encArr s) (encArr s')) = (s.toList == s'.toList) := by
      rw [Lib.toList_data, Lib.toList_data]
      by_cases e : s.data.toList = s'.data.toList
      · simp [encArr, e]
      · have e1 : Nat.beq (encArr s) (encArr s') = false := beqF fun e2 => e (enc_inj e2)
        rw [e1]; symm; simpa using e
    have hcmp := scmp_enc s.data.toList s'.data.toList
    have hsz : ∀ q : ByteArray, q.size = q.data.toList.length := fun q => by cases q; rfl
    have hself : ∀ q : List UInt8, Op.bytesLess q q = false := by
      intro q
      induction q with
      | nil => rfl
      | cons x q ih => simp [Op.bytesLess, ih]
    have hl : ∀ b : Bool, ∃ r, (Sem.pure (Value.bool b) : Sem Value).run P w = .ok r w ∧ Rep g (.bool b) r ∧ plain (.bool b) = true ∧ ∀ ox oy, eqGuard op t ox oy (.string s) (.string s') = pure () :=
      fun b => ⟨_, rfl, by simp [Rep, RepL], rfl, hg⟩
    rw [hb]
    cases op <;> simp only [Op.stringOp] <;> simp only at h <;> try cases h
    case add =>
      cases hlt : Nat.blt (slen (encArr s) + slen (encArr s')) 1000000000000 with
      | false => simp [hlt] at h
      | true =>
        simp [hlt] at h; subst h
        have hlt := bltT hlt
        simp only [encArr, slen_enc] at hlt
        have hn : ¬ (((s.size + s'.size : Nat) : Int) > IntKind.i64.max) := by
          rw [hsz, hsz]; simp only [IntKind.max_i64]; omega
        rw [if_neg hn]
        refine ⟨.string (s ++ s'), rfl, ?_, rfl, hg⟩
        simp only [Rep, RepL]
        refine ⟨_, rfl, ?_⟩
        simp only [encArr]
        rw [scat_enc]
        simp
    case eql.refl => rw [heq]; exact hl _
    case neq.refl => rw [heq]; exact hl _
    all_goals
      refine ⟨_, rfl, ?_, rfl, hg⟩
      simp only [Rep, RepL, encArr, hcmp, Lib.toList_data]
      clear heq hcmp
      generalize s.data.toList = p
      generalize s'.data.toList = q
      congr 1
      by_cases e : p = q
      · subst e; simp [hself]
      · cases hbl : Op.bytesLess p q <;> simp [e]

theorem did_bin (hs : Sim P X g st w) (hf : FrR g st w fr a.tmps) {op : BinOp} {t : TypeId} {x y : Operand} (h : runOp X call yield fr st (o2 (.bin op) x y) = some (v, st', log, fr')) :
    DidV P X g st w fr a.tmps (do eqGuard op t x y (a.eval x) (a.eval y); binOp op t (a.eval x) (a.eval y)) v st' fr' := by
  obtain ⟨x', y', hx, hy, h⟩ := o2_run h
  simp only [runOp] at h
  cases h1 : ev fr x' with
  | none => simp [h1] at h
  | some xv =>
    cases h2 : ev fr y' with
    | none => simp [h1, h2] at h
    | some yv =>
      simp only [h1, h2] at h
      obtain ⟨v', h3, h4⟩ := v1_some h
      simp only [Prod.mk.injEq] at h4
      obtain ⟨rfl, rfl, _, rfl⟩ := h4
      obtain ⟨r, h5, h6, h7, h8⟩ := binV_spec (P := P) (w := w) (t := t) (ev_sound hf hx h1).1 (ev_sound hf hy h2).1 h3
      exact DidV.same hs hf (u := r) (by rw [h8]; simpa using h5) h6 h7

theorem did_un (hs : Sim P X g st w) (hf : FrR g st w fr a.tmps) {op : UnOp} {x : Operand} (h : runOp X call yield fr st (o1 (.un op) x) = some (v, st', log, fr')) :
    DidV P X g st w fr a.tmps (Op.unary op (a.eval x)) v st' fr' := by
  obtain ⟨x', hx, h⟩ := o1_run h
  simp only [runOp] at h
  cases h1 : ev fr x' with
  | none => simp [h1] at h
  | some xv =>
    simp only [h1] at h
    obtain ⟨v', h3, h4⟩ := v1_some h
    simp only [Prod.mk.injEq] at h4
    obtain ⟨rfl, rfl, _, rfl⟩ := h4
    have hx := (ev_sound hf hx h1).1
    cases xv <;> simp only [unV] at h3 <;> try cases h3
    all_goals
      simp only [Rep, RepL] at hx
      rw [hx]
      obtain ⟨r, h5, h6, h7⟩ := ofSem_spec (P := P) (w := w) (g := g) h3
      exact DidV.same hs hf (u := r) h5 h6 h7

/-! comparisons -/
theorem run_viewAt_cells {r : Nat} {c : Array Value} {e : TypeId} {f : Nat × Nat} (h : w.heap[r]? = some (.cells c e f)) : (viewAt r).run P w = .ok none w := by
  simp [viewAt, World.shape?, h]
theorem run_sameAddr_ne {b b' o o' : Nat} (hne : b ≠ b') {c c' : Array Value} {e e' : TypeId} (h : w.heap[b]? = some (.cells c e (0, 0))) (h' : w.heap[b']? = some (.cells c' e' (0, 0))) :
    (sameAddr ⟨b, o, none⟩ ⟨b', o', none⟩).run P w = .ok false w := by
  simp [sameAddr, hne, World.frozen?, h, h', noView, run_viewAt_cells h, run_viewAt_cells h', mayBeOne, stringish, World.shape?]
theorem run_sameAddr_eq {b o o' : Nat} : (sameAddr ⟨b, o, none⟩ ⟨b, o', none⟩).run P w = .ok (Nat.beq o o') w := by
  have : ((⟨b, o, none⟩ : Addr) == ⟨b, o', none⟩) = Nat.beq o o' := by
    by_cases e : o = o'
    · subst e; simp
    · rw [beqF e]; simp [e]
  simp [sameAddr, this]
theorem eqP_spec (hs : Sim P X g st w) {a i b j : Nat} {r : Bool} (h : eqP st a i b j = some r) {ba sa ta bb sb tb : Nat} (ha : g.loc a = some (ba, sa, ta)) (hb : g.loc b = some (bb, sb, tb)) :
    (sameAddr ⟨ba, sa + i, none⟩ ⟨bb, sb + j, none⟩).run P w = .ok r w := by
  unfold eqP at h
  cases h1 : Nat.beq a b with
  | true =>
    have := beqT h1
    subst this
    rw [ha] at hb
    obtain ⟨rfl, rfl, rfl⟩ : ba = bb ∧ sa = sb ∧ ta = tb := by simpa using hb
    simp [h1] at h; subst h
    rw [run_sameAddr_eq]
    congr 1
    by_cases e : i = j
    · subst e; simp
    · rw [beqF e, beqF (by omega)]
  | false =>
    simp only [h1, cond_false] at h
    cases h2 : st.blk a with
    | none => simp [h2] at h
    | some x =>
      cases h3 : st.blk b with
      | none => simp [h2, h3] at h
      | some y =>
        simp [h2, h3] at h; subst h
        obtain ⟨b1, s1, t1, o1, e1, e2, e3, e4⟩ := hs.blk a _ (blk_get h2) rfl
        obtain ⟨b2, s2, t2, o2, f1, f2, f3, f4⟩ := hs.blk b _ (blk_get h3) rfl
        rw [ha] at e1
        rw [hb] at f1
        obtain ⟨rfl, rfl, rfl⟩ : ba = b1 ∧ sa = s1 ∧ ta = t1 := by simpa using e1
        obtain ⟨rfl, rfl, rfl⟩ : bb = b2 ∧ sb = s2 ∧ tb = t2 := by simpa using f1
        obtain ⟨c, e, rfl, _⟩ := e4
        obtain ⟨c', e', rfl, _⟩ := f4
        refine run_sameAddr_ne (fun hh => ?_) e3 f3
        subst hh
        rw [e2] at f2
        have := Option.some.inj f2
        subst this
        simp at h1
theorem clsT_spec {t : TypeId} {cls : Nat} (h : clsT P t = some cls) :
    (cls = 0 ∧ P.underlying t = some .bool) ∨ (cls = 1 ∧ ∃ e n, P.underlying t = some (.pointer e) ∧ sizeT P e = some (n + 1)) ∨ (cls = 2 ∧ ∃ e, P.underlying t = some (.slice e)) ∨
    (cls = 3 ∧ ∃ k e, P.underlying t = some (.map k e)) ∨ (cls = 4 ∧ ∃ ms, P.underlying t = some (.interface ms)) := by
  unfold clsT at h
  cases hu : P.underlying t with
  | none => simp [hu] at h
  | some d =>
    cases d <;> simp [hu] at h
    case bool => exact .inl ⟨h.symm, rfl⟩
    case pointer e =>
      cases hz : sizeT P e with
      | none => simp [hz] at h
      | some n =>
        cases n with
        | zero => simp [hz] at h
        | succ n => simp [hz] at h; exact .inr (.inl ⟨h.symm, e, n, rfl, hz⟩)
    case slice e => exact .inr (.inr (.inl ⟨h.symm, e, rfl⟩))
    case map k e => exact .inr (.inr (.inr (.inl ⟨h.symm, k, e, rfl⟩)))
    case interface ms => exact .inr (.inr (.inr (.inr ⟨h.symm, ms, rfl⟩)))

theorem maxDepth_succ : ∃ d, Op.maxDepth = d + 2 := ⟨9998, rfl⟩
end
end Go.Ai
/-! Operations: addresses, fields, elements, what is made. -/
namespace Go.Ai
open Go
set_option linter.unusedSimpArgs false

section
variable {P : Program} {X : Env} {g g' : G} {st st' : St} {w w' : World} {fr fr' : T V} {log : List Tc} {v : V} {a : Act} {call : CallF} {yield : Nat → List V → St → R}

/-- an operation of one operand that changes nothing -/
theorem did1 (hs : Sim P X g st w) (hf : FrR g st w fr a.tmps) {x : Operand} {x' : Opd} (hx : cOpd x = some x') {f : V → Option V} {s : Value → Sem Value}
    (hok : ∀ xv r, f xv = some r → Rep g xv (a.eval x) → ∃ u, (s (a.eval x)).run P w = .ok u w ∧ Rep g r u ∧ plain r = true)
    (h : (match ev fr x' with | some x => v1 fr st (f x) | none => none) = some (v, st', log, fr')) : DidV P X g st w fr a.tmps (s (a.eval x)) v st' fr' := by
  cases h1 : ev fr x' with
  | none => simp [h1] at h
  | some xv =>
    simp only [h1] at h
    obtain ⟨v', h3, h4⟩ := v1_some h
    simp only [Prod.mk.injEq] at h4
    obtain ⟨rfl, rfl, _, rfl⟩ := h4
    obtain ⟨u, h5, h6, h7⟩ := hok xv _ h3 (ev_sound hf hx h1).1
    exact DidV.same hs hf h5 h6 h7

theorem did_nilc (hs : Sim P X g st w) (hf : FrR g st w fr a.tmps) {o : Oper} {x : Operand} (ho : o.op = .nilCheck x) (h : runOp X call yield fr st (o1 .nilc x) = some (v, st', log, fr')) :
    Did P X g st w fr a.tmps (execOp a.eval o) v st' fr' := by
  obtain ⟨x', hx, h⟩ := o1_run h
  simp only [runOp] at h
  have key : ∀ xv : V, ev fr x' = some xv → plain xv = true → (∃ ad, a.eval x = .pointer (some ad)) → some (xv, st, ([] : List Tc), fr) = some (v, st', log, fr') → Did P X g st w fr a.tmps (execOp a.eval o) v st' fr' := by
    intro xv h1 hp ⟨ad, h2⟩ h3
    simp only [Option.some.injEq, Prod.mk.injEq] at h3
    obtain ⟨rfl, rfl, _, rfl⟩ := h3
    have hr := (ev_sound hf hx h1).1
    refine ⟨a.eval x, w, g, .inl ?_, .ofStep (Step.refl hs), (VR_plain hp).2 hr, ⟨Fresh.plain hp, New.plain hp⟩, hf⟩
    simp [execOp, ho, h2]
  cases h1 : ev fr x' with
  | none => simp [h1] at h
  | some xv =>
    have hr := (ev_sound hf hx h1).1
    cases xv <;> simp only [h1] at h <;> try cases h
    · simp only [Rep, RepL] at hr; obtain ⟨_, _, _, _, hr⟩ := hr
      exact key _ h1 rfl ⟨_, hr⟩ rfl
    · simp only [Rep, RepL] at hr; obtain ⟨_, _, _, _, hr, _⟩ := hr
      exact key _ h1 rfl ⟨_, hr⟩ rfl

theorem did_mki (hs : Sim P X g st w) (hf : FrR g st w fr a.tmps) {t : TypeId} {d : TypeDesc} (hu : P.underlying t = some d) (hd : ∀ ms, d ≠ .interface ms) {x : Operand} (h : runOp X call yield fr st (o1 (.mki t) x) = some (v, st', log, fr')) :
    DidV P X g st w fr a.tmps (Instr.makeInterface t (a.eval x)) v st' fr' := by
  obtain ⟨x', hx, h⟩ := o1_run h
  simp only [runOp] at h
  cases h1 : ev fr x' with
  | none => simp [h1] at h
  | some xv =>
    simp [h1] at h
    obtain ⟨rfl, rfl, _, rfl⟩ := h
    have hr := (ev_sound hf hx h1).1
    refine DidV.same hs hf (u := .iface t (a.eval x)) ?_ (by simp only [Rep]; exact ⟨_, rfl, hr⟩) rfl
    cases d <;> first | (simp [Instr.makeInterface, run_underlying hu]; done) | exact absurd rfl (hd _)

theorem did_mkf (hs : Sim P X g st w) (hf : FrR g st w fr a.tmps) {f : FuncId} {xs ys : Array Operand} {xs' ys' : List Opd} (hx : cOpds xs = some xs') (hy : cOpds ys = some ys') (h : runOp X call yield fr st (.mkf f xs' ys') = some (v, st', log, fr')) :
    DidV P X g st w fr a.tmps (Instr.makeFunc (.func f) (xs.map a.eval) (ys.map a.eval)) v st' fr' := by
  simp only [runOp] at h
  cases h1 : evs fr xs' with
  | none => simp [h1] at h
  | some xv =>
    cases h2 : evs fr ys' with
    | none => simp [h1, h2] at h
    | some yv =>
      simp [h1, h2] at h
      obtain ⟨rfl, rfl, _, rfl⟩ := h
      exact DidV.same hs hf (u := .func (.func f) (xs.map a.eval) (ys.map a.eval)) rfl (by simp only [Rep, FnR]; exact ⟨_, _, _, rfl, rfl, evs_sound hf hx h1, evs_sound hf hy h2⟩) rfl

theorem did_mkm (hs : Sim P X g st w) (hf : FrR g st w fr a.tmps) {t : TypeId} (h : runOp X call yield fr st .mkm = some (v, st', log, fr')) :
    DidV P X g st w fr a.tmps (Instr.makeMap t none) v st' fr' := by
  simp [runOp] at h
  obtain ⟨rfl, rfl, _, rfl⟩ := h
  have hw : Wpush w { w with heap := w.heap.push (.map #[] 0) } (.map #[] 0) := ⟨rfl, rfl, rfl, rfl⟩
  have hst := Step.newLoc hs hw (some (.map [])) 0 0 (by
    intro bl hbl; cases hbl
    exact ⟨rfl, #[], 0, rfl, rfl⟩)
  refine DidV.step hs hf (u := .map (some w.heap.size)) (by simp [Instr.makeMap]) hst ?_ rfl
  simp only [Rep, RepL]
  exact ⟨w.heap.size, 0, by simp [G.newLoc], rfl⟩

/-! fields -/
theorem fieldPlace_run {f : Field} {n : Nat} (h : sizeT P f.type = some (n + 1)) {b o : Nat} : (fieldPlace ⟨b, o, none⟩ f).run P w = .ok ⟨b, o + f.offset, none⟩ w := by
  simp [fieldPlace, run_sizeOf h, add_plain]
theorem did_fa (hs : Sim P X g st w) (hf : FrR g st w fr a.tmps) {t : TypeId} {i off ft n : Nat} (hft : fieldT P t i = some (off, ft)) (hsz : sizeT P ft = some (n + 1)) {x : Operand}
    (h : runOp X call yield fr st (o1 (.fa off) x) = some (v, st', log, fr')) : DidV P X g st w fr a.tmps (Instr.fieldAt t (a.eval x) i) v st' fr' := by
  obtain ⟨x', hx, h⟩ := o1_run h
  simp only [runOp, runFa] at h
  obtain ⟨fs, fd, hu, hfd, rfl, rfl⟩ := fieldT_spec hft
  have hrun : ∀ b o, (Instr.fieldAt t (.pointer (some ⟨b, o, none⟩)) i).run P w = .ok (.pointer (some ⟨b, o + fd.offset, none⟩)) w := by
    intro b o
    simp [Instr.fieldAt, run_underlying hu, hfd, Instr.sureAddr, fieldPlace_run hsz]
  cases h1 : addr fr x' with
  | none => simp [h1] at h
  | some ad =>
    have had := addr_sound hf hx h1
    cases ad with
    | loc slot o id cs =>
      simp [h1] at h
      obtain ⟨rfl, rfl, _, rfl⟩ := h
      obtain ⟨_, _, _, b, top, h6, h7⟩ := had
      refine ⟨.pointer (some ⟨b, o + fd.offset, none⟩), w, g, by rw [h7]; exact hrun b o, .ofStep (Step.refl hs), ⟨b, top, h6, rfl⟩, ⟨?_, ?_⟩, hf⟩
      · intro _ _ e; cases e
      · intro _ _ e; cases e
    | val av =>
      simp only [h1] at h
      obtain ⟨v', h3, h4⟩ := v1_some h
      simp only [Prod.mk.injEq] at h4
      obtain ⟨rfl, rfl, _, rfl⟩ := h4
      obtain ⟨hr, _⟩ := had
      cases av <;> simp only [fieldA] at h3 <;> try cases h3
      · simp only [Rep, RepL] at hr
        obtain ⟨b, base, top, h5, h6⟩ := hr
        refine DidV.same hs hf (by rw [h6]; exact hrun _ _) ?_ rfl
        simp only [Rep, RepL]
        exact ⟨b, base, top, h5, by rw [Nat.add_assoc]⟩
      · simp only [Rep, RepL] at hr
        obtain ⟨b, o, m, h5, h6, h7⟩ := hr
        refine DidV.same hs hf (by rw [h6]; exact hrun _ _) ?_ rfl
        simp only [Rep, RepL]
        refine ⟨b, o + fd.offset, m, h5, rfl, fun j v hj => ?_⟩
        rw [drops_eq, List.getElem?_drop] at hj
        have := h7 _ _ hj
        rw [← this]; congr 1; omega

/-- of an aggregate's cells -/
theorem run_part {t : TypeId} {n : Nat} {b : Bool} (hsz : sizeT P t = some n) (hag : aggT P t = some b) {cs : Array Value} {off : Nat} (hle : off + n ≤ cs.size) (h1 : b = false → n = 1) :
    (part t cs off).run P w = .ok (if b then .agg ((cs.toList.drop off).take n).toArray else ((cs.toList.drop off).take n).headD undef) w := by
  cases b with
  | true =>
    simp [part, run_isAgg hag, run_sizeOf hsz]
    apply Array.ext'
    simp [List.extract_eq_take_drop] 
  | false =>
    have := h1 rfl
    subst this
    have hlt : off < cs.size := by omega
    have h2 : cs[off]? = some cs[off] := by simp [hlt]
    have h3 : (cs.toList.drop off).take 1 = [cs[off]] := by
      rw [List.drop_eq_getElem_cons (by simpa using hlt)]; simp
    simp [part, run_isAgg hag, h2, h3]
theorem partV_spec {t : TypeId} {n : Nat} {b : Bool} (hsz : sizeT P t = some n) (hag : aggT P t = some b) {off : Nat} {x r : V} {u : Value} (hr : Rep g x u) (h : partV off n b x = some r) :
    ∃ cs q, u = .agg cs ∧ (part t cs off).run P w = .ok q w ∧ Rep g r q ∧ plain r = true := by
  cases x <;> simp only [partV] at h <;> try cases h
  rename_i cs
  simp only [Rep] at hr
  obtain ⟨us, rfl, hl, hr⟩ := hr
  rw [drops_eq] at h
  cases h1 : takes (cs.drop off) n with
  | none => simp [h1] at h
  | some q =>
    simp only [h1] at h
    obtain ⟨h2, h3⟩ := takes_spec _ _ _ h1
    have hlen := Reps_length hr
    have hle : off + n ≤ us.size ∨ n = 0 := by
      rw [h2] at h3; simp at h3 hlen; omega
    have hq : Reps g q ((us.toList.drop off).take n) := by rw [h2]; exact Reps_take _ (Reps_drop _ hr)
    have hlq : leafs q = true := by rw [h2]; exact leafs_take _ (leafs_drop _ hl)
    obtain ⟨h4, h5, h6⟩ := whole_spec h hq hlq
    have hql := Reps_length hq
    by_cases h0 : n = 0
    · subst h0
      cases b with
      | true =>
        refine ⟨us, _, rfl, ?_, h5, h4⟩
        simp [part, run_isAgg hag, run_sizeOf hsz]
        exact Nat.min_le_left _ _
      | false => have := h6 rfl; simp at this
    · have hle : off + n ≤ us.size := by omega
      refine ⟨us, _, rfl, run_part hsz hag hle (fun hb => ?_), h5, h4⟩
      have := h6 hb
      rw [← hql, h3] at this
      exact this
theorem did_fld (hs : Sim P X g st w) (hf : FrR g st w fr a.tmps) {t : TypeId} {i off ft n : Nat} {b : Bool} (hft : fieldT P t i = some (off, ft)) (hsz : sizeT P ft = some n) (hag : aggT P ft = some b) {x : Operand}
    (h : runOp X call yield fr st (o1 (.fld off n b) x) = some (v, st', log, fr')) : DidV P X g st w fr a.tmps (Instr.field t (a.eval x) i) v st' fr' := by
  obtain ⟨x', hx, h⟩ := o1_run h
  simp only [runOp] at h
  obtain ⟨fs, fd, hu, hfd, rfl, rfl⟩ := fieldT_spec hft
  refine did1 (s := fun z => Instr.field t z i) hs hf hx (fun xv r h1 h2 => ?_) h
  obtain ⟨cs, q, h3, h4, h5, h6⟩ := partV_spec (w := w) hsz hag h2 h1
  refine ⟨q, ?_, h5, h6⟩
  rw [h3]
  simp [Instr.field, run_underlying hu, hfd, asAgg, h4]
end
end Go.Ai
/-! Operations: slicing, elements. -/
namespace Go.Ai
open Go
set_option linter.unusedSimpArgs false

section
variable {P : Program} {X : Env} {g g' : G} {st st' : St} {w w' : World} {fr fr' : T V} {log : List Tc} {v : V} {a : Act} {call : CallF} {yield : Nat → List V → St → R}

theorem nat?_spec {q : V} {n : Nat} (h : nat? q = some n) : q = .int .i64 n := by
  unfold nat? at h
  split at h
  · cases h; rfl
  · cases h
def goNat (n : Nat) : Value := .int .i64 n
theorem optN_spec (hf : FrR g st w fr a.tmps) {x : Option Operand} {x' : Option Opd} {r : Option Nat} (hx : cOpt x = some x') (h : optN fr x' = some r) : x.map a.eval = r.map goNat := by
  cases x with
  | none => simp [cOpt] at hx; subst hx; simp [optN] at h; subst h; rfl
  | some y =>
    simp only [cOpt] at hx
    cases hy : cOpd y with
    | none => simp [hy] at hx
    | some y' =>
      simp [hy] at hx; subst hx
      simp only [optN] at h
      cases h1 : ev fr y' with
      | none => simp [h1] at h
      | some v =>
        simp only [h1] at h
        cases h2 : nat? v with
        | none => simp [h2] at h
        | some n =>
          simp [h2] at h; subst h
          have := (ev_sound hf hy h1).1
          rw [nat?_spec h2] at this
          simp only [Rep, RepL] at this
          simp [this, goNat]
theorem run_sliceBound {n y : Nat} (h : n ≤ y) (c : BoundsCode) : (Instr.sliceBound (goNat n) y c).run P w = .ok n w := by
  have : (n : Int) ≤ (y : Int) := by omega
  simp [Instr.sliceBound, goNat, asIntOf, this]
theorem run_sliceBounds {isS : Bool} {len cap : Nat} (hlc : len ≤ cap) {lo hi mx : Option Nat} (h1 : lo.getD 0 ≤ hi.getD len) (h2 : hi.getD len ≤ len) (h3 : ∀ m, mx = some m → hi.isSome = true ∧ hi.getD len ≤ m ∧ m ≤ cap) :
    (Instr.sliceBounds isS len cap (lo.map goNat) (hi.map goNat) (mx.map goNat)).run P w = .ok (lo.getD 0, hi.getD len, mx.getD cap) w := by
  cases mx with
  | none =>
    cases hi with
    | none => cases lo <;> simp at h1 h2 <;> simp [Instr.sliceBounds, run_sliceBound, h1]
    | some h => cases lo <;> simp at h1 h2 <;> simp [Instr.sliceBounds, run_sliceBound, h1, Nat.le_trans h2 hlc]
  | some m =>
    obtain ⟨e1, e2, e3⟩ := h3 m rfl
    cases hi with
    | none => simp at e1
    | some h => cases lo <;> simp at h1 h2 e2 <;> simp [Instr.sliceBounds, run_sliceBound, h1, e2, e3]

theorem run_slice {t e : TypeId} {sz : Nat} (hu : P.underlying t = some (.slice e)) (hsz : sizeT P e = some sz) {ao : Option Addr} {len cap : Nat} (hlc : len ≤ cap) {lo hi mx : Option Nat} (h1 : lo.getD 0 ≤ hi.getD len) (h2 : hi.getD len ≤ len)
    (h3 : ∀ m, mx = some m → hi.isSome = true ∧ hi.getD len ≤ m ∧ m ≤ cap) :
    (Instr.sliceAt t (.slice ao len cap) (lo.map goNat) (hi.map goNat) (mx.map goNat)).run P w =
      .ok (.slice (if mx.getD cap = lo.getD 0 then ao else ao.map (·.add (lo.getD 0 * sz))) (hi.getD len - lo.getD 0) (mx.getD cap - lo.getD 0)) w := by
  have := run_sliceBounds (P := P) (w := w) (isS := true) hlc h1 h2 h3
  simp [Instr.sliceAt, Instr.slice, run_underlying hu, this, run_sizeOf hsz]

theorem sliceV_spec {t e : TypeId} {sz : Nat} (hu : P.underlying t = some (.slice e)) (hsz : sizeT P e = some sz) {x r : V} {u : Value} {lo hi mx : Option Nat} (hr : Rep g x u) (h : sliceV (some sz) x lo hi mx = some r) :
    ∃ q, (Instr.sliceAt t u (lo.map goNat) (hi.map goNat) (mx.map goNat)).run P w = .ok q w ∧ Rep g r q ∧ plain r = true := by
  unfold sliceV at h
  cases hok : sizeOk (some sz) x with
  | false => simp [hok] at h
  | true =>
    simp only [hok, cond_true] at h
    cases hlen : lenV x with
    | none => simp [hlen] at h
    | some len =>
      simp only [hlen] at h
      cases hb1 : Nat.blt len (hi.getD len) with
      | true => simp [hb1] at h
      | false =>
        cases hb2 : Nat.blt (hi.getD len) (lo.getD 0) with
        | true => simp [hb1, hb2] at h
        | false =>
          simp only [hb1, hb2, cond_false] at h
          have bltF : ∀ {a b : Nat}, Nat.blt a b = false → b ≤ a := by
            intro a b hq
            rcases Nat.lt_or_ge a b with h' | h'
            · unfold Nat.blt at hq
              rw [Nat.ble_eq_true_of_le h'] at hq
              cases hq
            · exact h'
          have l1 := bltF hb1
          have l2 := bltF hb2
          generalize hl : lo.getD 0 = l at h l2
          generalize ehh : hi.getD len = hh at h l1 l2
          -- the shape of what is sliced
          have main : ∀ (ao : Option Addr) (cap : Nat), u = .slice ao len cap → len ≤ cap → (∀ m, mx = some m → m ≤ cap) → (∃ q, q = Value.slice (if mx.getD cap = l then ao else ao.map (·.add (l * sz))) (hh - l) (mx.getD cap - l) ∧ Rep g r q ∧ plain r = true) →
              ∃ q, (Instr.sliceAt t u (lo.map goNat) (hi.map goNat) (mx.map goNat)).run P w = .ok q w ∧ Rep g r q ∧ plain r = true := by
            intro ao cap e1 e2 e3 ⟨q, e4, e5⟩
            refine ⟨q, ?_, e5⟩
            rw [e1, run_slice hu hsz e2 (by rw [hl, ehh]; exact l2) (by rw [ehh]; exact l1) (fun m hm => ?_), e4, hl, ehh]
            subst hm
            simp only at h
            cases hs : hi.isSome with
            | false => simp [hs] at h
            | true =>
              cases hm' : Nat.ble hh m with
              | false => simp [hs, hm'] at h
              | true => rw [ehh]; exact ⟨rfl, bleT hm', e3 m rfl⟩
          cases mx with
          | none =>
            simp only at h
            cases x <;> simp only [sliceP] at h <;> try (cases h; done)
            case str n => simp [sizeOk] at hok
            case nils =>
              cases h
              simp only [Rep, RepL] at hr; subst hr
              simp [lenV] at hlen; subst hlen
              refine main none 0 rfl (Nat.le_refl _) (fun m hm => by cases hm) ⟨_, rfl, ?_, rfl⟩
              have : l = 0 := by omega
              have : hh = 0 := by omega
              subst_vars
              simp [Rep, RepL, *]
            case emp =>
              cases h
              simp only [Rep, RepL] at hr; obtain ⟨ad, rfl⟩ := hr
              simp [lenV] at hlen; subst hlen
              refine main (some ad) 0 rfl (Nat.le_refl _) (fun m hm => by cases hm) ⟨_, rfl, ?_, rfl⟩
              have e1 : l = 0 := by omega
              have e2 : hh = 0 := by omega
              simp [Rep, RepL, e1, e2]
            case sl s xs tight =>
              simp only [sizeOk] at hok
              have := beqT hok
              subst this
              simp only [Rep, RepL] at hr
              obtain ⟨b, o, cap, m, h1, h2, h3, h4, h5⟩ := hr
              simp [lenV] at hlen
              subst hlen
              refine main _ cap h2 h3 (fun m hm => by cases hm) ⟨_, rfl, ?_⟩
              cases he : Nat.beq l xs.length with
              | true =>
                have := beqT he
                simp [he] at h; subst h
                have e1 : hh - l = 0 := by omega
                rw [e1]
                simp only [Rep, RepL]
                exact ⟨⟨_, _, rfl⟩, rfl⟩
              | false =>
                simp only [he, cond_false, drops_eq] at h
                have hne : l ≠ xs.length := fun e => by rw [e] at he; simp at he
                cases h6 : takes (xs.drop l) (hh - l) with
                | none => simp [h6] at h
                | some q =>
                  simp [h6] at h; subst h
                  obtain ⟨h7, h8⟩ := takes_spec _ _ _ h6
                  have hcl : ¬ (cap = l) := by omega
                  simp only [Option.getD_none, hcl, if_false, Option.map_some, add_plain, Rep, RepL]
                  refine ⟨⟨b, o + l * s, cap - l, m, h1, by rw [h8], by omega, fun ht => ?_, fun i x hi => ?_⟩, rfl⟩
                  · simp only [Bool.and_eq_true] at ht
                    have := h4 ht.1
                    have := beqT ht.2
                    omega
                  · have hil : i < hh - l := by have := (List.getElem?_eq_some_iff.1 hi).1; omega
                    rw [h7, List.getElem?_take, if_pos hil, List.getElem?_drop] at hi
                    obtain ⟨h9, h10⟩ := h5 _ x hi
                    refine ⟨h9, ?_⟩
                    rw [show o + l * s + i * s = o + (l + i) * s from by rw [Nat.add_mul]; omega]
                    exact h10
            case bytes n =>
              simp only [sizeOk] at hok
              have := beqT hok
              subst this
              simp only [Rep, RepL] at hr
              obtain ⟨b, o, cap, m, bs, h1, h2, h3, h4, h5⟩ := hr
              subst h2
              simp only [lenV, slen_enc, Option.some.injEq] at hlen
              subst hlen
              refine main _ cap h3 h4 (fun m hm => by cases hm) ⟨_, rfl, ?_⟩
              cases he : Nat.beq l bs.length with
              | true =>
                have := beqT he
                simp [he] at h; subst h
                have e1 : hh - l = 0 := by omega
                rw [e1]
                simp only [Rep, RepL]
                exact ⟨⟨_, _, rfl⟩, rfl⟩
              | false =>
                simp [he] at h; subst h
                have hne : l ≠ bs.length := fun e => by rw [e] at he; simp at he
                have hcl : ¬ (cap = l) := by omega
                simp only [Option.getD_none, hcl, if_false, Option.map_some, add_plain, Rep, RepL]
                have hln : ((bs.take hh).drop l).length = hh - l := by simp; omega
                refine ⟨⟨b, o + l * 1, cap - l, m, (bs.take hh).drop l, h1, (ssub_enc bs l hh l2 l1).symm, by rw [hln], by omega, fun i x hi => ?_⟩, rfl⟩
                have hil : i < hh - l := by have := (List.getElem?_eq_some_iff.1 hi).1; omega
                rw [List.getElem?_drop, List.getElem?_take, if_pos (by omega)] at hi
                have := h5 _ x hi
                rw [← this]; congr 1; omega
            case row s lb off ln =>
              simp only [sizeOk] at hok
              have := beqT hok
              subst this
              simp only [Rep, RepL] at hr
              obtain ⟨b, base, top, cap, h1, h2, h3, h4⟩ := hr
              simp [lenV] at hlen
              subst hlen
              refine main _ cap h2 h3 (fun m hm => by cases hm) ⟨_, rfl, ?_⟩
              cases he : Nat.beq l ln with
              | true =>
                have := beqT he
                simp [he] at h; subst h
                have e1 : hh - l = 0 := by omega
                rw [e1]
                simp only [Rep, RepL]
                exact ⟨⟨_, _, rfl⟩, rfl⟩
              | false =>
                simp [he] at h; subst h
                have hne : l ≠ ln := fun e => by rw [e] at he; simp at he
                have hcl : ¬ (cap = l) := by omega
                simp only [Option.getD_none, hcl, if_false, Option.map_some, add_plain, Rep, RepL]
                refine ⟨⟨b, base, top, cap - l, h1, by rw [Nat.add_assoc], by omega, ?_⟩, rfl⟩
                have : (cap - l) * s + l * s = cap * s := by rw [← Nat.add_mul]; congr 1; omega
                omega
          | some m =>
            simp only at h
            cases hs : hi.isSome with
            | false => simp [hs] at h
            | true =>
              cases hm' : Nat.ble hh m with
              | false => simp [hs, hm'] at h
              | true =>
                have hm'' := bleT hm'
                simp only [hs, hm', cond_true] at h main
                cases x <;> simp only [sliceM] at h <;> try (cases h; done)
                case nils =>
                  cases h0 : Nat.beq m 0 with
                  | false => simp [h0] at h
                  | true =>
                    have := beqT h0
                    subst this
                    simp at h; subst h
                    simp only [Rep, RepL] at hr; subst hr
                    simp [lenV] at hlen; subst hlen
                    refine main none 0 rfl (Nat.le_refl _) (fun m hm => by cases hm; exact Nat.le_refl _) ⟨_, rfl, ?_, rfl⟩
                    have e1 : l = 0 := by omega
                    have e2 : hh = 0 := by omega
                    simp [Rep, RepL, e1, e2]
                case emp =>
                  cases h0 : Nat.beq m 0 with
                  | false => simp [h0] at h
                  | true =>
                    have := beqT h0
                    subst this
                    simp at h; subst h
                    simp only [Rep, RepL] at hr; obtain ⟨ad, rfl⟩ := hr
                    simp [lenV] at hlen; subst hlen
                    refine main (some ad) 0 rfl (Nat.le_refl _) (fun m hm => by cases hm; exact Nat.le_refl _) ⟨_, rfl, ?_, rfl⟩
                    have e1 : l = 0 := by omega
                    have e2 : hh = 0 := by omega
                    simp [Rep, RepL, e1, e2]
                case non0 =>
                  cases h0 : Nat.beq m 0 with
                  | false => simp [h0] at h
                  | true =>
                    have := beqT h0
                    subst this
                    simp at h; subst h
                    simp only [Rep, RepL] at hr; obtain ⟨ad, c, rfl⟩ := hr
                    simp [lenV] at hlen; subst hlen
                    refine main ad c rfl (Nat.zero_le _) (fun m hm => by cases hm; exact Nat.zero_le _) ⟨_, rfl, ?_, rfl⟩
                    have e1 : l = 0 := by omega
                    have e2 : hh = 0 := by omega
                    simp [Rep, RepL, e1, e2]
                case sl s xs tight =>
                  cases h0 : Nat.beq m 0 with
                  | false => simp [h0] at h
                  | true =>
                    have := beqT h0
                    subst this
                    simp at h; subst h
                    simp only [Rep, RepL] at hr
                    obtain ⟨b, o, cap, m, h1, h2, h3, h4, h5⟩ := hr
                    simp [lenV] at hlen
                    subst hlen
                    refine main _ cap h2 h3 (fun m hm => by cases hm; exact Nat.zero_le _) ⟨_, rfl, ?_, rfl⟩
                    have e1 : l = 0 := by omega
                    have e2 : hh = 0 := by omega
                    simp [Rep, RepL, e1, e2]
                case row s lb off ln =>
                  simp only [sizeOk] at hok
                  have := beqT hok
                  subst this
                  simp only [Rep, RepL] at hr
                  obtain ⟨b, base, top, cap, h1, h2, h3, h4⟩ := hr
                  simp [lenV] at hlen
                  subst hlen
                  cases h0 : Nat.beq m 0 with
                  | true =>
                    have := beqT h0
                    subst this
                    simp at h; subst h
                    refine main _ cap h2 h3 (fun m hm => by cases hm; exact Nat.zero_le _) ⟨_, rfl, ?_, rfl⟩
                    have e1 : l = 0 := by omega
                    have e2 : hh = 0 := by omega
                    simp [Rep, RepL, e1, e2]
                  | false =>
                    cases h6 : Nat.beq m hh with
                    | false => simp [h0, h6] at h
                    | true =>
                      have := beqT h6
                      subst this
                      cases h7 : Nat.beq l m with
                      | true => simp [h0, h7] at h
                      | false =>
                        simp [h0, h7] at h; subst h
                        have hne : m ≠ l := fun e => by rw [e] at h7; simp at h7
                        refine main _ cap h2 h3 (fun m' hm => by cases hm; omega) ⟨_, rfl, ?_, rfl⟩
                        simp only [Option.getD_some, hne, if_false, Option.map_some, add_plain, Rep, RepL]
                        refine ⟨b, base, top, m - l, h1, by rw [Nat.add_assoc], Nat.le_refl _, ?_⟩
                        have : (m - l) * s + l * s = m * s := by rw [← Nat.add_mul]; congr 1; omega
                        have : m * s ≤ cap * s := Nat.mul_le_mul_right _ (by omega)
                        omega
end
end Go.Ai
/-! Operations: slices, elements, maps. -/
namespace Go.Ai
open Go
set_option linter.unusedSimpArgs false

section
variable {P : Program} {X : Env} {g g' : G} {st st' : St} {w w' : World} {fr fr' : T V} {log : List Tc} {v : V} {a : Act} {call : CallF} {yield : Nat → List V → St → R}

theorem sliceStr_spec {t : TypeId} (hu : P.underlying t = some .string) {n : Nat} {r : V} {u : Value} {lo hi mx : Option Nat} (hr : Rep g (.str n) u) (h : sliceV none (.str n) lo hi mx = some r) :
    ∃ q, (Instr.sliceAt t u (lo.map goNat) (hi.map goNat) (mx.map goNat)).run P w = .ok q w ∧ Rep g r q ∧ plain r = true := by
  simp only [Rep, RepL] at hr
  obtain ⟨s, rfl, rfl⟩ := hr
  have hsz : s.size = s.data.toList.length := by cases s; rfl
  simp only [sliceV, sizeOk, cond_true, lenV, encArr, slen_enc] at h
  cases hb1 : Nat.blt s.data.toList.length (hi.getD s.data.toList.length) with
  | true => simp only [hb1, cond_true] at h; cases h
  | false =>
    cases hb2 : Nat.blt (hi.getD s.data.toList.length) (lo.getD 0) with
    | true => simp only [hb1, hb2, cond_true, cond_false] at h; cases h
    | false =>
      simp only [hb1, hb2, cond_false] at h
      have bltF : ∀ {a b : Nat}, Nat.blt a b = false → b ≤ a := by
        intro a b hq
        rcases Nat.lt_or_ge a b with h' | h'
        · unfold Nat.blt at hq
          rw [Nat.ble_eq_true_of_le h'] at hq
          cases hq
        · exact h'
      have l1 := bltF hb1
      have l2 := bltF hb2
      cases mx with
      | some m =>
        simp only [sliceM] at h
        cases hi.isSome <;> cases Nat.ble (hi.getD s.data.toList.length) m <;> simp at h
      | none =>
        simp only [sliceP, Option.some.injEq] at h
        subst h
        have hb := run_sliceBounds (P := P) (w := w) (isS := false) (len := s.size) (cap := s.size) (Nat.le_refl _) (lo := lo) (hi := hi) (mx := none) (by rw [hsz]; exact l2) (by rw [hsz]; exact l1) (fun m hm => by cases hm)
        refine ⟨.string (s.extract (lo.getD 0) (hi.getD s.size)), ?_, ?_, rfl⟩
        · simp only [Option.map_none] at hb
          simp [Instr.sliceAt, Instr.slice, run_underlying hu, hb]
        · simp only [Rep, RepL]
          refine ⟨_, rfl, ?_⟩
          rw [ssub_enc _ _ _ l2 l1, encArr, hsz]
          congr 1
          simp [List.extract_eq_take_drop]
          rw [List.drop_take]

theorem did_slice (hs : Sim P X g st w) (hf : FrR g st w fr a.tmps) {t : TypeId} {sz : Option Nat} (ht : (P.underlying t = some .string ∧ sz = none) ∨ ∃ e n, P.underlying t = some (.slice e) ∧ sizeT P e = some n ∧ sz = some n)
    {x : Operand} {x' : Opd} {lo hi mx : Option Operand} {lo' hi' mx' : Option Opd} (hx : cOpd x = some x') (hlo : cOpt lo = some lo') (hhi : cOpt hi = some hi') (hmx : cOpt mx = some mx')
    (h : runOp X call yield fr st (.slice sz x' lo' hi' mx') = some (v, st', log, fr')) :
    DidV P X g st w fr a.tmps (Instr.sliceAt t (a.eval x) (lo.map a.eval) (hi.map a.eval) (mx.map a.eval)) v st' fr' := by
  simp only [runOp] at h
  cases h1 : ev fr x' with
  | none => simp [h1] at h
  | some xv =>
    cases h2 : optN fr lo' with
    | none => simp [h1, h2] at h
    | some l =>
      cases h3 : optN fr hi' with
      | none => simp [h1, h2, h3] at h
      | some hh =>
        cases h4 : optN fr mx' with
        | none => simp [h1, h2, h3, h4] at h
        | some m =>
          simp only [h1, h2, h3, h4] at h
          obtain ⟨v', h5, h6⟩ := v1_some h
          simp only [Prod.mk.injEq] at h6
          obtain ⟨rfl, rfl, _, rfl⟩ := h6
          rw [optN_spec hf hlo h2, optN_spec hf hhi h3, optN_spec hf hmx h4]
          have hr := (ev_sound hf hx h1).1
          rcases ht with ⟨hu, rfl⟩ | ⟨e, n, hu, hsz, rfl⟩
          · by_cases hstr : ∃ n, xv = .str n
            · obtain ⟨n, rfl⟩ := hstr
              obtain ⟨q, h7, h8, h9⟩ := sliceStr_spec (P := P) (w := w) hu hr h5
              exact DidV.same hs hf h7 h8 h9
            · have hok : sizeOk none xv = false := by cases xv <;> first | rfl | exact absurd ⟨_, rfl⟩ hstr
              simp [sliceV, hok] at h5
          · obtain ⟨q, h7, h8, h9⟩ := sliceV_spec (P := P) (w := w) hu hsz hr h5
            exact DidV.same hs hf h7 h8 h9
end
end Go.Ai
/-! Operations: elements, assertions, maps. -/
namespace Go.Ai
open Go
set_option linter.unusedSimpArgs false

section
variable {P : Program} {X : Env} {g g' : G} {st st' : St} {w w' : World} {fr fr' : T V} {log : List Tc} {v : V} {a : Act} {call : CallF} {yield : Nat → List V → St → R}

theorem did_ia (hs : Sim P X g st w) (hf : FrR g st w fr a.tmps) {t e : TypeId} {sz : Nat} (hu : P.underlying t = some (.slice e)) (hsz : sizeT P e = some sz) {x i : Operand}
    (h : runOp X call yield fr st (o2 (.ia sz) x i) = some (v, st', log, fr')) : DidV P X g st w fr a.tmps (Instr.indexAt t (a.eval x) (a.eval i)) v st' fr' := by
  obtain ⟨x', i', hx, hi, h⟩ := o2_run h
  simp only [runOp] at h
  cases h1 : ev fr x' with
  | none => simp [h1] at h
  | some xv =>
    cases h2 : ev fr i' with
    | none => simp [h1, h2] at h
    | some iv =>
      simp only [h1, h2] at h
      cases h3 : nat? iv with
      | none => simp [h3] at h
      | some n =>
        simp only [h3] at h
        obtain ⟨v', h4, h5⟩ := v1_some h
        simp only [Prod.mk.injEq] at h5
        obtain ⟨rfl, rfl, _, rfl⟩ := h5
        have hr := (ev_sound hf hx h1).1
        have hn := (ev_sound hf hi h2).1
        rw [nat?_spec h3] at hn
        simp only [Rep, RepL] at hn
        rw [hn]
        have hrun : ∀ (b o len cap : Nat), n < len → (Instr.indexAt t (.slice (some ⟨b, o, none⟩) len cap) (.int .i64 n)).run P w = .ok (.pointer (some ⟨b, o + n * sz, none⟩)) w := by
          intro b o len cap hl
          have : (n : Int) < (len : Int) := by omega
          simp [Instr.indexAt, asIntOf, run_underlying hu, run_sizeOf hsz, add_plain]
          intro hc
          omega
        have cells_at : ∀ (m : Nat → Option V) (o : Nat) (x : V), AtF m o x.cells → AtF m o x.cells := fun _ _ _ h => h
        cases xv <;> simp only [indexA] at h4 <;> try (cases h4; done)
        case sl s xs tight =>
          cases hb : Nat.beq s sz with
          | false => simp [hb] at h4
          | true =>
            have := beqT hb
            subst this
            simp only [hb, cond_true, nth?_eq] at h4
            cases h6 : xs[n]? with
            | none => simp [h6] at h4
            | some y =>
              simp [h6] at h4; subst h4
              simp only [Rep, RepL] at hr
              obtain ⟨b, o, cap, m, h7, h8, h9, h10, h11⟩ := hr
              rw [h8]
              obtain ⟨_, h12⟩ := h11 n y h6
              refine DidV.same hs hf (hrun b o _ cap (List.getElem?_eq_some_iff.1 h6).1) ?_ rfl
              simp only [Rep, RepL]
              exact ⟨b, _, m, h7, rfl, h12⟩
        case big s k tr =>
          cases hb : Nat.beq s sz with
          | false => simp [hb] at h4
          | true =>
            have := beqT hb
            subst this
            cases hlt : Nat.blt n k with
            | false => simp [hb, hlt] at h4
            | true =>
              simp only [hb, hlt, cond_true] at h4
              have hlt := bltT hlt
              simp only [Rep, RepL] at hr
              obtain ⟨b, o, cap, m, h7, h8, h9, h11⟩ := hr
              rw [h8]
              obtain ⟨y, h6, _, h12⟩ := h11 n hlt
              simp [h6] at h4; subst h4
              refine DidV.same hs hf (hrun b o _ cap hlt) ?_ rfl
              simp only [Rep, RepL]
              exact ⟨b, _, m, h7, rfl, h12⟩
        case bytes s =>
          cases hb : Nat.beq 1 sz with
          | false => simp [hb] at h4
          | true =>
            have := beqT hb
            subst this
            cases hlt : Nat.blt n (slen s) with
            | false => simp [hb, hlt] at h4
            | true =>
              simp [hb, hlt] at h4
              subst h4
              have hlt := bltT hlt
              simp only [Rep, RepL] at hr
              obtain ⟨b, o, cap, m, l, h7, rfl, h8, h9, h11⟩ := hr
              rw [slen_enc] at hlt
              rw [h8]
              have h6 : l[n]? = some l[n] := List.getElem?_eq_getElem hlt
              refine DidV.same hs hf (hrun b o _ cap hlt) ?_ rfl
              simp only [Rep, RepL]
              refine ⟨b, _, m, h7, rfl, fun j v hj => ?_⟩
              cases j with
              | zero =>
                simp at hj; subst hj
                rw [sat_enc l n _ h6]
                simpa using h11 n _ h6
              | succ j => simp at hj
        case row s l off len =>
          cases hb : Nat.beq s sz with
          | false => simp [hb] at h4
          | true =>
            have := beqT hb
            subst this
            cases hlt : Nat.blt n len with
            | false => simp [hb, hlt] at h4
            | true =>
              simp [hb, hlt] at h4
              subst h4
              have hlt := bltT hlt
              simp only [Rep, RepL] at hr
              obtain ⟨b, base, top, cap, h7, h8, h9, h10⟩ := hr
              rw [h8]
              refine DidV.same hs hf (hrun b _ _ cap hlt) ?_ rfl
              simp only [Rep, RepL]
              exact ⟨b, base, top, h7, by rw [Nat.add_assoc]⟩

theorem did_ix (hs : Sim P X g st w) (hf : FrR g st w fr a.tmps) {t : TypeId} (hu : P.underlying t = some .string) {x i : Operand}
    (h : runOp X call yield fr st (o2 .ix x i) = some (v, st', log, fr')) : DidV P X g st w fr a.tmps (Instr.index t (a.eval x) (a.eval i)) v st' fr' := by
  obtain ⟨x', i', hx, hi, h⟩ := o2_run h
  simp only [runOp] at h
  cases h1 : ev fr x' with
  | none => simp [h1] at h
  | some xv =>
    cases h2 : ev fr i' with
    | none => cases xv <;> simp [h1, h2] at h
    | some iv =>
      cases xv <;> simp only [h1, h2] at h <;> try (cases h; done)
      rename_i c
      cases h3 : nat? iv with
      | none => simp [h3] at h
      | some n =>
        simp only [h3] at h
        cases hlt : Nat.blt n (slen c) with
        | false => simp [hlt] at h
        | true =>
          simp [hlt] at h
          obtain ⟨rfl, rfl, _, rfl⟩ := h
          have hlt := bltT hlt
          have hr := (ev_sound hf hx h1).1
          have hn := (ev_sound hf hi h2).1
          rw [nat?_spec h3] at hn
          simp only [Rep, RepL] at hn hr
          obtain ⟨s, hr, rfl⟩ := hr
          rw [encArr, slen_enc] at hlt
          have h6 : s.data.toList[n]? = some s.data.toList[n] := List.getElem?_eq_getElem hlt
          have hsz : n < s.size := by cases s; exact hlt
          have h7 : s[n]? = some s.data.toList[n] := by
            rw [getElem?_pos s n hsz]; rfl
          refine DidV.same hs hf (u := .int .u8 (s.data.toList[n]).toNat) ?_ ?_ rfl
          · rw [hn, hr]
            simp [Instr.index, asIntOf, run_underlying hu, h7]
          · simp only [Rep, RepL, encArr, sat_enc _ n _ h6]

theorem did_ext (hs : Sim P X g st w) (hf : FrR g st w fr a.tmps) {x : Operand} {i : Nat} (h : runOp X call yield fr st (o1 (fun x => .ext x i) x) = some (v, st', log, fr')) :
    DidV P X g st w fr a.tmps (Instr.extract (a.eval x) i) v st' fr' := by
  obtain ⟨x', hx, h⟩ := o1_run h
  simp only [runOp] at h
  cases h1 : ev fr x' with
  | none => simp [h1] at h
  | some xv =>
    cases xv <;> simp only [h1] at h <;> try (cases h; done)
    rename_i vs
    obtain ⟨v', h4, h5⟩ := v1_some h
    simp only [Prod.mk.injEq] at h5
    obtain ⟨rfl, rfl, _, rfl⟩ := h5
    have hr := (ev_sound hf hx h1).1
    simp only [Rep] at hr
    obtain ⟨us, hr, hrs⟩ := hr
    rw [nth?_eq] at h4
    obtain ⟨u, h6, h7⟩ := Reps_get hrs i _ h4
    have h8 : us[i]? = some u := by simpa using h6
    have hp : plain v = true := by
      cases v <;> first | rfl | (simp [Rep, RepL] at h7)
    refine DidV.same hs hf (u := u) ?_ h7 hp
    rw [hr]
    simp [Instr.extract, h8]

theorem zeroV_spec {t : TypeId} {z : V} (h : zeroV P t = some z) (g : G) : ∃ u, (∀ w : World, (zeroValue t).run P w = .ok u w) ∧ Rep g z u ∧ plain z = true := by
  unfold zeroV at h
  cases hi : P.info? t with
  | none => simp [hi] at h
  | some i =>
    simp only [hi] at h
    cases hz : i.zero with
    | none => simp [hz] at h
    | some u =>
      simp only [hz] at h
      obtain ⟨h1, h2⟩ := valV_rep (g := g) h
      exact ⟨u, fun w => by simp [zeroValue, typeInfo, hi, hz], h1, h2⟩

theorem did_tas (hs : Sim P X g st w) (hf : FrR g st w fr a.tmps) {t st0 : TypeId} {d : TypeDesc} (hu : P.underlying t = some d) (hd : ∀ ms, d ≠ .interface ms) {z : V} (hz : zeroV P t = some z) {x : Operand}
    (h : runOp X call yield fr st (o1 (.tas t z) x) = some (v, st', log, fr')) : DidV P X g st w fr a.tmps (Instr.typeAssert (a.eval x) st0 t true) v st' fr' := by
  obtain ⟨x', hx, h⟩ := o1_run h
  simp only [runOp] at h
  obtain ⟨zu, hzr, hzz, hzp⟩ := zeroV_spec hz g
  cases h1 : ev fr x' with
  | none => simp [h1] at h
  | some xv =>
    have hr := (ev_sound hf hx h1).1
    cases xv <;> simp only [h1] at h <;> try (cases h; done)
    case nili =>
      simp at h
      obtain ⟨rfl, rfl, _, rfl⟩ := h
      simp only [Rep, RepL] at hr
      refine DidV.same hs hf (u := .tuple #[zu, .bool false]) ?_ (by simp only [Rep, Reps, RepL]; exact ⟨_, rfl, _, _, rfl, hzz, _, _, rfl, rfl, rfl⟩) rfl
      rw [hr]
      cases d <;> first | (simp [Instr.typeAssert, run_underlying hu, hzr]; done) | exact absurd rfl (hd _)
    case iface u y =>
      simp only [Rep] at hr
      obtain ⟨uy, hr, hy⟩ := hr
      cases hb : Nat.beq u t with
      | true =>
        have := beqT hb
        subst this
        simp at h
        obtain ⟨rfl, rfl, _, rfl⟩ := h
        refine DidV.same hs hf (u := .tuple #[uy, .bool true]) ?_ (by simp only [Rep, Reps, RepL]; exact ⟨_, rfl, _, _, rfl, hy, _, _, rfl, rfl, rfl⟩) rfl
        rw [hr]
        cases d <;> first | (simp [Instr.typeAssert, run_underlying hu]; done) | exact absurd rfl (hd _)
      | false =>
        have hne : u ≠ t := fun e => by subst e; simp at hb
        simp [hb] at h
        obtain ⟨rfl, rfl, _, rfl⟩ := h
        refine DidV.same hs hf (u := .tuple #[zu, .bool false]) ?_ (by simp only [Rep, Reps, RepL]; exact ⟨_, rfl, _, _, rfl, hzz, _, _, rfl, rfl, rfl⟩) rfl
        rw [hr]
        cases d <;> first | (simp [Instr.typeAssert, run_underlying hu, hne, hzr]; done) | exact absurd rfl (hd _)
end
end Go.Ai
/-! Operations: maps, lengths. -/
namespace Go.Ai
open Go
set_option linter.unusedSimpArgs false

section
variable {P : Program} {X : Env} {g g' : G} {st st' : St} {w w' : World} {fr fr' : T V} {log : List Tc} {v : V} {a : Act} {call : CallF} {yield : Nat → List V → St → R}

theorem beqB (s s' : ByteArray) : (s == s') = (s.data == s'.data) := by
  cases s; cases s'; rfl
theorem rep_plain {v : V} {u : Value} (h : Rep g v u) : plain v = true := by
  cases v <;> first | rfl | (simp [Rep, RepL] at h)

/-- a key of the type -/
def KeyR (P : Program) (ks : Bool) (t : TypeId) : Prop := if ks then P.underlying t = some .string else ∃ k, P.underlying t = some (.int k)
theorem keyT_spec {t : TypeId} {ks : Bool} (h : keyT P t = some ks) : KeyR P ks t := by
  unfold keyT at h
  cases hu : P.underlying t with
  | none => simp [hu] at h
  | some d => cases d <;> simp [hu] at h <;> subst h <;> simp [KeyR, hu]
theorem keyEq_spec {ks : Bool} {t : TypeId} (hk : KeyR P ks t) {d : TypeDesc} (hd : P.underlying t = some d) {k k' : V} {b : Bool} {u u' : Value} (ho : okKey ks k = true) (h : keyEq k k' = some b) (hr : Rep g k u) (hr' : Rep g k' u') :
    Instr.sameNow d u u' = some b ∧ (b = true → Instr.sameBits 10000 u' u = true) := by
  cases k <;> simp only [okKey] at ho <;> try (cases ho; done)
  case str n =>
    cases k' <;> simp only [keyEq] at h <;> try (cases h; done)
    simp only [Rep, RepL] at hr hr'
    obtain ⟨s, rfl, rfl⟩ := hr
    obtain ⟨s', rfl, rfl⟩ := hr'
    subst ho
    simp [KeyR] at hk
    rw [hk] at hd; cases hd
    simp at h; subst h
    have e1 : (s == s') = Nat.beq (encArr s) (encArr s') := by
      rw [beqB]
      by_cases e : s.data = s'.data
      · simp [encArr, e]
      · have e3 : Nat.beq (encArr s) (encArr s') = false := beqF fun e2 => e (Array.ext' (enc_inj e2))
        rw [e3]
        simpa using e
    refine ⟨by simp only [Instr.sameNow, e1], fun hb => ?_⟩
    rw [← e1, beqB] at hb
    simp only [Instr.sameBits, beqB]
    have : s.data = s'.data := by simpa using hb
    simp [this]
  case int kk n =>
    cases kk <;> simp only at ho <;> try (cases ho; done)
    cases k' <;> simp only [keyEq] at h <;> try (cases h; done)
    rename_i kk' m
    cases kk' <;> simp only at h <;> try (cases h; done)
    simp only [Rep, RepL] at hr hr'
    subst hr hr'
    have : ks = false := by simpa using ho
    subst this
    simp [KeyR] at hk
    obtain ⟨q, hk⟩ := hk
    rw [hk] at hd; cases hd
    simp at h; subst h
    refine ⟨by simp [Instr.sameNow], fun hb => ?_⟩
    have : n = m := by simpa using hb
    subst this
    simp [Instr.sameBits]
theorem findKey_spec {ks : Bool} {t : TypeId} (hk : KeyR P ks t) {d : TypeDesc} (hd : P.underlying t = some d) {k : V} {u : Value} (ho : okKey ks k = true) (hr : Rep g k u) :
    ∀ {es : List (V × V)} {ce : List MapEntry} {r : Option V} (j : Nat), MapR g es ce → findKey k es = some r →
      (∃ i e v, r = some v ∧ Instr.findNow d u ce j = some (some (j + i, e.val)) ∧ Rep g v e.val ∧ ce[i]? = some e ∧ Instr.sameBits 10000 e.key u = true ∧
        ∀ x ux, Rep g x ux → MapR g (putKey k x es) (ce.modify i fun e => { e with key := u, val := ux })) ∨
      (r = none ∧ Instr.findNow d u ce j = some none ∧ ∀ x ux b, Rep g x ux → MapR g (putKey k x es) (ce ++ [{ key := u, val := ux, born := b }]))
  | [], ce, r, j, hm, h => by
    simp [MapR] at hm; subst hm
    simp [findKey] at h; subst h
    exact .inr ⟨rfl, rfl, fun x ux b hx => by simp only [putKey, List.nil_append, MapR]; exact ⟨_, [], rfl, hr, hx, rfl⟩⟩
  | (k', v') :: es, ce, r, j, hm, h => by
    simp only [MapR] at hm
    obtain ⟨e, q, rfl, h1, h2, h3⟩ := hm
    simp only [findKey] at h
    cases hq : keyEq k k' with
    | none => simp [hq] at h
    | some b =>
      obtain ⟨h4, h5⟩ := keyEq_spec hk hd ho hq hr h1
      cases b with
      | true =>
        simp [hq] at h; subst h
        refine .inl ⟨0, e, v', rfl, by simp [Instr.findNow, h4], h2, rfl, h5 rfl, fun x ux hx => ?_⟩
        simp only [putKey, hq, List.modify_zero_cons, MapR]
        exact ⟨_, q, rfl, hr, hx, h3⟩
      | false =>
        simp only [hq] at h
        rcases findKey_spec hk hd ho hr (j + 1) h3 h with ⟨i, e', v, e1, e2, e3, e4, e5, e6⟩ | ⟨e1, e2, e3⟩
        · refine .inl ⟨i + 1, e', v, e1, by simp [Instr.findNow, h4, e2]; omega, e3, by simpa using e4, e5, fun x ux hx => ?_⟩
          simp only [putKey, hq, List.modify_succ_cons, MapR]
          exact ⟨e, _, rfl, h1, h2, e6 x ux hx⟩
        · refine .inr ⟨e1, by simp [Instr.findNow, h4, e2], fun x ux b hx => ?_⟩
          simp only [putKey, hq, List.cons_append, MapR]
          exact ⟨e, _, rfl, h1, h2, e3 x ux b hx⟩
theorem run_checkKey {ks : Bool} {t : TypeId} (hk : KeyR P ks t) {e : Bool} {n : Nat} {u : Value} : (Instr.checkKey e (n + 1) t u).run P w = .ok () w := by
  unfold KeyR at hk
  cases ks with
  | true => simp at hk; simp [Instr.checkKey, run_underlying hk]
  | false => simp at hk; obtain ⟨k, hk⟩ := hk; simp [Instr.checkKey, run_underlying hk]
theorem KeyR.und {ks : Bool} {t : TypeId} (hk : KeyR P ks t) : ∃ d, P.underlying t = some d := by
  unfold KeyR at hk
  cases ks with
  | true => simp at hk; exact ⟨_, hk⟩
  | false => simp at hk; obtain ⟨k, hk⟩ := hk; exact ⟨_, hk⟩
theorem ten_thousand : ∃ n, 10000 = n + 1 := ⟨9999, rfl⟩

/-- a map, where it lies -/
theorem map_at (hs : Sim P X g st w) {l : Nat} {es : List (V × V)} (h : st.heap.get l = some (.map es)) {u : Value} (hu : Rep g (.map l) u) :
    ∃ b top ce ck, u = .map (some b) ∧ g.loc l = some (b, 0, top) ∧ w.heap[b]? = some (.map ce ck) ∧ MapR g es ce.toList := by
  simp only [Rep, RepL] at hu
  obtain ⟨b, top, h1, h2⟩ := hu
  obtain ⟨b', base, tp, o, e1, e2, e3, e4⟩ := hs.blk l _ h rfl
  rw [h1] at e1
  obtain ⟨rfl, rfl, rfl⟩ : b = b' ∧ 0 = base ∧ top = tp := by simpa using e1
  obtain ⟨_, ce, ck, rfl, e5⟩ := e4
  exact ⟨b, top, ce, ck, h2, h1, e3, e5⟩
theorem run_getObj_map {b : Nat} {ce : Array MapEntry} {ck : Nat} (h : w.heap[b]? = some (.map ce ck)) : (getObj b).run P w = .ok (.map ce ck) w := by
  simp [getObj, Sem.run, h]
theorem run_setObj_map {b : Nat} {ce : Array MapEntry} {ck : Nat} {o : Obj} (h : w.heap[b]? = some (.map ce ck)) : (setObj b o).run P w = .ok () { w with heap := w.heap.setIfInBounds b o } := by
  simp [setObj, Sem.run, h]
theorem Wput.setObj {b : Nat} {o o' : Obj} (h : w.heap[b]? = some o') : Wput w { w with heap := w.heap.setIfInBounds b o } b o := by
  have hlt := lt_of_get h
  refine ⟨rfl, rfl, rfl, by simp, by simp [hlt], fun k hk => ?_⟩
  show (w.heap.setIfInBounds b o)[k]? = _
  exact Array.getElem?_setIfInBounds_ne (Ne.symm hk)

theorem run_findKey {t : TypeId} {d : TypeDesc} (hd : P.underlying t = some d) {u : Value} {es : List MapEntry} {r : Option (Nat × Value)} (h : Instr.findNow d u es 0 = some r) : (Instr.findKey t u es).run P w = .ok r w := by
  simp [Instr.findKey, run_underlying hd, h]

theorem did_look (hs : Sim P X g st w) (hf : FrR g st w fr a.tmps) {t kt et : TypeId} (hu : P.underlying t = some (.map kt et)) {ks : Bool} (hk : KeyR P ks kt) {z : V} (hz : zeroV P et = some z) {x i : Operand} {x' i' : Opd} (hx : cOpd x = some x') (hi : cOpd i = some i') {ok : Bool}
    (h : runOp X call yield fr st (.look ks z x' i' ok) = some (v, st', log, fr')) : DidV P X g st w fr a.tmps (Instr.lookup t (a.eval x) (a.eval i) ok) v st' fr' := by
  simp only [runOp] at h
  obtain ⟨zu, hzr, hzz, hzp⟩ := zeroV_spec hz g
  obtain ⟨d, hd⟩ := hk.und
  obtain ⟨n, hn⟩ := ten_thousand
  cases h1 : ev fr x' with
  | none => simp [h1] at h
  | some xv =>
    cases h2 : ev fr i' with
    | none => cases xv <;> simp [h1, h2] at h
    | some kv =>
      have hxr := (ev_sound hf hx h1).1
      have hkr := (ev_sound hf hi h2).1
      have fin : ∀ (r : V) (u : Value) (b : Bool), Rep g r u → (Instr.lookup t (a.eval x) (a.eval i) ok).run P w = .ok (if ok then .tuple #[u, .bool b] else u) w → (v, st', fr') = (bif ok then V.tuple [r, .bool b] else r, st, fr) → DidV P X g st w fr a.tmps (Instr.lookup t (a.eval x) (a.eval i) ok) v st' fr' := by
        intro r u b hr hrun he
        simp only [Prod.mk.injEq] at he
        obtain ⟨rfl, rfl, rfl⟩ := he
        cases ok with
        | true => exact DidV.same hs hf hrun (by simp only [Rep, Reps, RepL, cond_true, if_true]; exact ⟨_, rfl, _, _, rfl, hr, _, _, rfl, rfl, rfl⟩) rfl
        | false => exact DidV.same hs hf hrun (by simpa using hr) (by simpa using rep_plain hr)
      cases hok : okKey ks kv with
      | false => cases xv <;> simp [h1, h2, hok] at h
      | true =>
        cases xv <;> simp only [h1, h2, hok, cond_true] at h <;> try (cases h; done)
        case nilm =>
          simp only [Option.some.injEq, Prod.mk.injEq] at h
          obtain ⟨h3, h4, _, h5⟩ := h
          simp only [Rep, RepL] at hxr
          refine fin z zu false hzz ?_ (by rw [h3, h4, h5])
          rw [hxr, Instr.lookup, hn]
          have hfk : (Instr.findKey kt (a.eval i) []).run P w = .ok none w := run_findKey hd (by simp [Instr.findNow])
          simp [run_underlying hu, run_checkKey hk, hfk, hzr]
        case map l =>
          cases h3 : st.heap.get l with
          | none => simp [h3] at h
          | some bl =>
            cases bl <;> simp only [h3] at h <;> try (cases h; done)
            rename_i es
            obtain ⟨b, top, ce, ck, e1, e2, e3, e4⟩ := map_at hs h3 hxr
            cases h4 : findKey kv es with
            | none => simp [h4] at h
            | some r =>
              simp only [h4] at h
              rcases findKey_spec hk hd hok hkr 0 e4 h4 with ⟨i2, e, vv, rfl, f2, f3, f4, f5, f6⟩ | ⟨rfl, f2, f3⟩
              · simp only [Option.some.injEq, Prod.mk.injEq] at h
                obtain ⟨h5, h6, _, h7⟩ := h
                refine fin vv e.val true f3 ?_ (by rw [h5, h6, h7])
                rw [e1, Instr.lookup, hn]
                simp [run_underlying hu, run_getObj_map e3, run_checkKey hk, run_findKey hd f2]
              · simp only [Option.some.injEq, Prod.mk.injEq] at h
                obtain ⟨h5, h6, _, h7⟩ := h
                refine fin z zu false hzz ?_ (by rw [h5, h6, h7])
                rw [e1, Instr.lookup, hn]
                simp [run_underlying hu, run_getObj_map e3, run_checkKey hk, run_findKey hd f2, hzr]

theorem did_mput (hs : Sim P X g st w) (hf : FrR g st w fr a.tmps) {t kt et : TypeId} (hu : P.underlying t = some (.map kt et)) {ks : Bool} (hk : KeyR P ks kt) {m k x : Operand} {m' k' x' : Opd} (hm : cOpd m = some m') (hkk : cOpd k = some k') (hx : cOpd x = some x')
    (h : runOp X call yield fr st (.mput ks m' k' x') = some (v, st', log, fr')) : v = .junk ∧ DidU P X g st w fr a.tmps (Instr.mapUpdate t (a.eval m) (a.eval k) (a.eval x)) st' fr' := by
  simp only [runOp] at h
  obtain ⟨d, hd⟩ := hk.und
  obtain ⟨n, hn⟩ := ten_thousand
  cases h1 : ev fr m' with
  | none => simp [h1] at h
  | some mv =>
    cases h2 : ev fr k' with
    | none => cases mv <;> simp [h1, h2] at h
    | some kv =>
      cases h3 : ev fr x' with
      | none => cases mv <;> simp [h1, h2, h3] at h
      | some xv =>
        cases mv <;> simp only [h1, h2, h3] at h <;> try (cases h; done)
        rename_i l
        cases hok : okKey ks kv with
        | false => simp [hok] at h
        | true =>
          simp only [hok, cond_true] at h
          cases h4 : st.heap.get l with
          | none => simp [h4] at h
          | some bl =>
            cases bl <;> simp only [h4] at h <;> try (cases h; done)
            rename_i es
            cases h5 : findKey kv es with
            | none => simp [h5] at h
            | some r =>
              simp [h5] at h
              obtain ⟨rfl, rfl, _, rfl⟩ := h
              refine ⟨rfl, ?_⟩
              have hmr := (ev_sound hf hm h1).1
              have hkr := (ev_sound hf hkk h2).1
              have hxr := (ev_sound hf hx h3).1
              obtain ⟨b, top, ce, ck, e1, e2, e3, e4⟩ := map_at hs h4 hmr
              rcases findKey_spec hk hd hok hkr 0 e4 h5 with ⟨i2, e, vv, rfl, f2, f3, f4, f5, f6⟩ | ⟨rfl, f2, f3⟩
              · have hst := Step.put hs h4 rfl e2 (Wput.setObj (o := .map (ce.modify i2 fun e => { e with key := a.eval k, val := a.eval x }) ck) e3) (bl := .map (putKey kv xv es)) (wr := marks st.lim [(l, 0)] st.wr) (lim := st.lim) fun _ => ⟨rfl, _, _, rfl, by simpa using f6 xv _ hxr⟩
                refine ⟨_, g, ?_, .ofStep hst, hf.step hs hst⟩
                have f4' : ce[i2]? = some e := by simpa using f4
                rw [e1, Instr.mapUpdate, hn]
                simp [run_underlying hu, run_getObj_map e3, run_checkKey hk, run_findKey hd f2, f4', Instr.keyThatStays, f5, run_setObj_map e3]
              · have hst := Step.put hs h4 rfl e2 (Wput.setObj (o := .map (ce.push { key := a.eval k, val := a.eval x, born := ck }) (ck + 1)) e3) (bl := .map (putKey kv xv es)) (wr := marks st.lim [(l, 0)] st.wr) (lim := st.lim) fun _ => ⟨rfl, _, _, rfl, by simpa using f3 xv _ ck hxr⟩
                refine ⟨_, g, ?_, .ofStep hst, hf.step hs hst⟩
                rw [e1, Instr.mapUpdate, hn]
                simp [run_underlying hu, run_getObj_map e3, run_checkKey hk, run_findKey hd f2, run_setObj_map e3]

theorem did_rng (hs : Sim P X g st w) (hf : FrR g st w fr a.tmps) {t kt et : TypeId} (hu : P.underlying t = some (.map kt et)) {x : Operand} (h : runOp X call yield fr st (o1 .rng x) = some (v, st', log, fr')) :
    DidV P X g st w fr a.tmps (Instr.range t (a.eval x)) v st' fr' := by
  obtain ⟨x', hx, h⟩ := o1_run h
  simp only [runOp] at h
  cases h1 : ev fr x' with
  | none => simp [h1] at h
  | some xv =>
    cases xv <;> simp only [h1] at h <;> try (cases h; done)
    simp at h
    obtain ⟨rfl, rfl, _, rfl⟩ := h
    have hr := (ev_sound hf hx h1).1
    simp only [Rep, RepL] at hr
    have hw : Wpush w { w with heap := w.heap.push (.mapIter none 0 #[] 0) } (.mapIter none 0 #[] 0) := ⟨rfl, rfl, rfl, rfl⟩
    have hst := Step.newLoc hs hw (some .iter) 0 0 (by intro bl hbl; cases hbl; exact ⟨rfl, rfl⟩)
    refine DidV.step hs hf (u := .pointer (some ⟨w.heap.size, 0, none⟩)) ?_ hst ?_ rfl
    · rw [hr]; simp [Instr.range, run_underlying hu]
    · simp only [Rep, RepL]
      exact ⟨w.heap.size, 0, 0, by simp [G.newLoc], rfl⟩
theorem did_nxt (hs : Sim P X g st w) (hf : FrR g st w fr a.tmps) {ty : TypeId} {x : Operand} (h : runOp X call yield fr st (o1 .nxt x) = some (v, st', log, fr')) :
    DidV P X g st w fr a.tmps (Instr.next (a.eval x) false ty) v st' fr' := by
  obtain ⟨x', hx, h⟩ := o1_run h
  simp only [runOp] at h
  cases h1 : ev fr x' with
  | none => simp [h1] at h
  | some xv =>
    have hr := (ev_sound hf hx h1).1
    cases xv <;> simp only [h1] at h <;> try (cases h; done)
    rename_i l off
    cases off with
    | succ n => simp at h
    | zero =>
      simp only at h
      cases h3 : st.heap.get l with
      | none => simp [h3] at h
      | some bl =>
        cases bl <;> simp only [h3] at h <;> try (cases h; done)
        simp at h
        obtain ⟨rfl, rfl, _, rfl⟩ := h
        simp only [Rep, RepL] at hr
        obtain ⟨b, base, top, h4, h5⟩ := hr
        obtain ⟨b', bs, tp, o, e1, e2, e3, e4⟩ := hs.blk l _ h3 rfl
        rw [h4] at e1
        obtain ⟨rfl, rfl, rfl⟩ : b = b' ∧ base = bs ∧ top = tp := by simpa using e1
        obtain ⟨rfl, rfl⟩ := e4
        refine DidV.same hs hf (u := .tuple #[.bool false]) ?_ (by simp only [Rep, Reps, RepL]; exact ⟨_, rfl, _, _, rfl, rfl, rfl⟩) rfl
        rw [h5]
        have : (getObj b).run P w = .ok (.mapIter none 0 #[] 0) w := by simp [getObj, Sem.run, e3]
        simp [Instr.next, this]
end
end Go.Ai
/-! Operations: lengths, the lists behind slices, conversions. -/
namespace Go.Ai
open Go
set_option linter.unusedSimpArgs false

section
variable {P : Program} {X : Env} {g g' : G} {st st' : St} {w w' : World} {fr fr' : T V} {log : List Tc} {v : V} {a : Act} {call : CallF} {yield : Nat → List V → St → R}

theorem MapR_length : ∀ {es : List (V × V)} {ce : List MapEntry}, MapR g es ce → es.length = ce.length
  | [], ce, h => by simp [MapR] at h; subst h; rfl
  | (k, v) :: es, ce, h => by
    simp only [MapR] at h
    obtain ⟨e, q, rfl, _, _, h⟩ := h
    simp [MapR_length h]
theorem lenV_slice {x : V} {n : Nat} {u : Value} (h : lenV x = some n) (hns : ∀ c, x ≠ .str c) (hr : Rep g x u) : ∃ p cap, u = .slice p n cap ∧ n ≤ cap := by
  cases x <;> simp only [lenV] at h <;> try (cases h; done)
  case str c => exact absurd rfl (hns c)
  all_goals
    simp only [Rep, RepL] at hr
    simp only [Option.some.injEq] at h
    subst h
  · exact ⟨_, _, hr, Nat.le_refl _⟩
  · obtain ⟨_, hr⟩ := hr; exact ⟨_, _, hr, Nat.le_refl _⟩
  · obtain ⟨_, _, hr⟩ := hr; exact ⟨_, _, hr, Nat.zero_le _⟩
  · obtain ⟨_, _, _, _, _, hr, h, _⟩ := hr; exact ⟨_, _, hr, h⟩
  · obtain ⟨_, _, _, _, _, hr, h, _⟩ := hr; exact ⟨_, _, hr, h⟩
  · obtain ⟨_, _, _, _, _, _, rfl, hr, h, _⟩ := hr
    rw [slen_enc]
    exact ⟨_, _, hr, h⟩
  · obtain ⟨_, _, _, _, _, hr, h, _⟩ := hr; exact ⟨_, _, hr, h⟩
theorem did_len (hs : Sim P X g st w) (hf : FrR g st w fr a.tmps) {t ty : TypeId} {k : Nat} (hk : (k = 0 ∧ P.underlying t = some .string) ∨ (k = 1 ∧ ∃ e, P.underlying t = some (.slice e)) ∨ (k = 2 ∧ ∃ m e, P.underlying t = some (.map m e))) {x : Operand}
    (h : runOp X call yield fr st (o1 (.len k) x) = some (v, st', log, fr')) : DidV P X g st w fr a.tmps (Builtin.len_ #[t] ty #[a.eval x]) v st' fr' := by
  obtain ⟨x', hx, h⟩ := o1_run h
  simp only [runOp] at h
  cases h1 : ev fr x' with
  | none => simp [h1] at h
  | some xv =>
    simp only [h1] at h
    cases h2 : lenC st k xv with
    | none => simp [h2] at h
    | some nl =>
      obtain ⟨n, lg⟩ := nl
      simp [h2] at h
      obtain ⟨rfl, rfl, _, rfl⟩ := h
      have hr := (ev_sound hf hx h1).1
      refine DidV.same hs hf (u := goInt n) ?_ (by simp only [Rep, RepL, goInt, Int.ofNat_eq_natCast]) rfl
      rcases hk with ⟨rfl, hu⟩ | ⟨rfl, e, hu⟩ | ⟨rfl, m, e, hu⟩
      · simp only [lenC] at h2
        cases xv <;> simp only at h2 <;> try (cases h2; done)
        simp at h2
        obtain ⟨rfl, _⟩ := h2
        simp only [Rep, RepL] at hr
        obtain ⟨s, hr, rfl⟩ := hr
        rw [hr, encArr, slen_enc]
        have : s.data.toList.length = s.size := by cases s; rfl
        rw [this]
        simp [Builtin.len_, run_underlying hu]
      · simp only [lenC] at h2
        have hns : ∀ c, xv ≠ .str c := fun c e => by subst e; simp at h2
        have h3 : lenV xv = some n := by
          cases h4 : lenV xv with
          | none => cases xv <;> simp [h4] at h2
          | some n' => cases xv <;> simp [h4] at h2 <;> simp [h2]
        obtain ⟨p, cap, hr, _⟩ := lenV_slice h3 hns hr
        rw [hr]
        simp [Builtin.len_, run_underlying hu]
      · simp only [lenC] at h2
        cases xv <;> simp only at h2 <;> try (cases h2; done)
        case nilm =>
          simp at h2
          obtain ⟨rfl, _⟩ := h2
          simp only [Rep, RepL] at hr
          rw [hr]
          simp [Builtin.len_, run_underlying hu]
        case map l =>
          cases h3 : st.heap.get l with
          | none => simp [h3] at h2
          | some bl =>
            cases bl <;> simp only [h3] at h2 <;> try (cases h2; done)
            simp at h2
            obtain ⟨rfl, _⟩ := h2
            obtain ⟨b, top, ce, ck, e1, e2, e3, e4⟩ := map_at hs h3 hr
            have := MapR_length e4
            rw [e1]
            simp [Builtin.len_, run_underlying hu, run_getObj_map e3, this]
theorem did_cap (hs : Sim P X g st w) (hf : FrR g st w fr a.tmps) {t ty e : TypeId} (hu : P.underlying t = some (.slice e)) {x : Operand}
    (h : runOp X call yield fr st (o1 .cap x) = some (v, st', log, fr')) : DidV P X g st w fr a.tmps (Builtin.cap_ #[t] ty #[a.eval x]) v st' fr' := by
  obtain ⟨x', hx, h⟩ := o1_run h
  simp only [runOp] at h
  cases h1 : ev fr x' with
  | none => simp [h1] at h
  | some xv =>
    have hr := (ev_sound hf hx h1).1
    cases xv <;> simp only [h1] at h <;> try (cases h; done)
    all_goals
      simp at h
      obtain ⟨rfl, rfl, _, rfl⟩ := h
      refine DidV.same hs hf (u := goInt 0) ?_ (by simp only [Rep, RepL, goInt]) rfl
      simp only [Rep, RepL] at hr
    · rw [hr]; simp [Builtin.cap_, run_underlying hu]
    · obtain ⟨_, hr⟩ := hr; rw [hr]; simp [Builtin.cap_, run_underlying hu]
theorem minV_spec : ∀ {vs : List V} {v r : V} {us : List Value} {u : Value}, minV v vs = some r → Rep g v u → Reps g vs us → ∃ q, (us.foldlM Builtin.min2 u).run P w = .ok q w ∧ Rep g r q
  | [], v, r, us, u, h, hv, hs => by
    simp [Reps] at hs; subst hs
    cases v <;> simp [minV] at h <;> subst h <;> exact ⟨u, by simp, hv⟩
  | y :: vs, v, r, us, u, h, hv, hs => by
    simp only [Reps] at hs
    obtain ⟨uy, us', rfl, hy, hs⟩ := hs
    have hsh : ∃ n m, v = .int .i64 n ∧ y = .int .i64 m := by
      unfold minV at h
      split at h
      · rename_i e; cases e
      · rename_i e; cases e; exact ⟨_, _, rfl, rfl⟩
      · cases h
    obtain ⟨n, m, rfl, rfl⟩ := hsh
    simp only [minV] at h
    simp only [Rep, RepL] at hv hy
    subst hv hy
    obtain ⟨q, h1, h2⟩ := minV_spec (u := .int .i64 (bif decide (m < n) then m else n)) h (by simp only [Rep, RepL]) hs
    refine ⟨q, ?_, h2⟩
    have e : (if m < n then m else n) = (bif decide (m < n) then m else n) := by by_cases hh : m < n <;> simp [hh]
    simp only [List.foldlM_cons, Sem.run_bind, Builtin.min2, Sem.run_pure, Result.andThen_ok, e]
    exact h1
theorem did_min (hs : Sim P X g st w) (hf : FrR g st w fr a.tmps) {ts : Array TypeId} {ty : TypeId} {xs : Array Operand} {ys : List Opd} (hx : cOpds xs = some ys) (h : runOp X call yield fr st (.min ys) = some (v, st', log, fr')) :
    DidV P X g st w fr a.tmps (Builtin.min_ ts ty (xs.map a.eval)) v st' fr' := by
  simp only [runOp] at h
  cases h1 : evs fr ys with
  | none => simp [h1] at h
  | some vs =>
    have hr := evs_sound hf hx h1
    cases vs with
    | nil => simp [h1] at h
    | cons y vs =>
      simp only [h1] at h
      obtain ⟨v', h3, h4⟩ := v1_some h
      simp only [Prod.mk.injEq] at h4
      obtain ⟨rfl, rfl, _, rfl⟩ := h4
      simp only [Reps] at hr
      obtain ⟨u, us, hl, hu, hus⟩ := hr
      obtain ⟨q, h5, h6⟩ := minV_spec (P := P) (w := w) h3 hu hus
      refine DidV.same hs hf (u := q) ?_ h6 (rep_plain h6)
      simp only [Builtin.min_, hl]
      exact h5

/-! the cells of a slice -/
def SrcR (_P : Program) (g : G) (w : World) (sz : Nat) (u : Value) (n : Nat) (cs : List V) : Prop :=
  ∃ p cap us, u = .slice p n cap ∧ n ≤ cap ∧ Reps g cs us ∧ leafs cs = true ∧ us.length = n * sz ∧ (p = none → n = 0) ∧ ∀ ad, p = some ad → ∀ (j : Nat) (x : Value), us[j]? = some x → w.cell? (ad.add j) = some x
theorem flats_spec {sz : Nat} {m : Nat → Option V} {o : Nat} : ∀ {xs : List V} {cs : List V} (k : Nat), flats sz xs = some cs → (∀ i x, xs[i]? = some x → AtF m (o + (k + i) * sz) x.cells) → cs.length = xs.length * sz ∧ AtF m (o + k * sz) cs
  | [], cs, k, h, _ => by simp [flats] at h; subst h; exact ⟨by simp, fun i v hi => by simp at hi⟩
  | x :: xs, cs, k, h, hx => by
    simp only [flats] at h
    cases hb : Nat.beq x.cells.length sz with
    | false => simp [hb] at h
    | true =>
      have hb := beqT hb
      cases hr : flats sz xs with
      | none => simp [hr, hb] at h
      | some r =>
        simp [hr, hb] at h; subst h
        obtain ⟨h1, h2⟩ := flats_spec (k + 1) hr fun i x hi => by
          have := hx (i + 1) x (by simpa using hi)
          rwa [show k + (i + 1) = k + 1 + i from by omega] at this
        refine ⟨by simp [h1, hb, Nat.succ_mul]; omega, fun i v hi => ?_⟩
        rw [List.getElem?_append] at hi
        by_cases hlt : i < x.cells.length
        · rw [if_pos hlt] at hi
          have := hx 0 x rfl
          exact this i v hi
        · rw [if_neg hlt] at hi
          have := h2 _ _ hi
          rw [← this, Nat.succ_mul]
          congr 1; omega
theorem fz_src (hs : Sim P X g st w) {b o sz n cap : Nat} {m : Nat → Option V} (hm : g.fz b = some m) {cs : List V} (hl : cs.length = n * sz) (hat : AtF m o cs) (hn : n ≤ cap) : SrcR P g w sz (.slice (some ⟨b, o, none⟩) n cap) n cs := by
  obtain ⟨_, c, e, f, h1, h2⟩ := hs.fz b m hm
  obtain ⟨us, h3, h4, h5⟩ := Reps_of_cells (g := g) (cs := cs) (f := fun j => c[o + j]?) fun j v hj => (h2 _ _ (hat j v hj)).2
  refine ⟨_, cap, us, rfl, hn, h4, leafs_of fun i v hi => pureV_leaf (h2 _ _ (hat i v hi)).1, by omega, (by simp), fun ad had j x hj => ?_⟩
  cases had
  rw [add_plain]
  simp only [World.cell?, h1]
  simpa using h5 j x hj
theorem cellsOf_spec (hs : Sim P X g st w) {sz n : Nat} {x : V} {cs : List V} {u : Value} (h : cellsOf st sz x = some (n, cs)) (hr : Rep g x u) : SrcR P g w sz u n cs := by
  have nothing : ∀ (p : Option Addr) (cap : Nat), SrcR P g w sz (.slice p 0 cap) 0 [] := fun p cap => ⟨p, cap, [], rfl, Nat.zero_le _, by simp [Reps], rfl, by simp, fun _ => rfl, fun _ _ j x hj => by simp at hj⟩
  cases x <;> simp only [cellsOf] at h <;> try (cases h; done)
  case nils =>
    simp at h; obtain ⟨rfl, rfl⟩ := h
    simp only [Rep, RepL] at hr; subst hr
    exact nothing _ _
  case emp =>
    simp at h; obtain ⟨rfl, rfl⟩ := h
    simp only [Rep, RepL] at hr; obtain ⟨_, rfl⟩ := hr
    exact nothing _ _
  case non0 =>
    simp at h; obtain ⟨rfl, rfl⟩ := h
    simp only [Rep, RepL] at hr; obtain ⟨_, _, rfl⟩ := hr
    exact nothing _ _
  case sl s xs tight =>
    cases hb : Nat.beq s sz with
    | false => simp [hb] at h
    | true =>
      have := beqT hb
      subst this
      simp only [hb, cond_true] at h
      cases hfl : flats s xs with
      | none => simp [hfl] at h
      | some q =>
        simp [hfl] at h; obtain ⟨rfl, rfl⟩ := h
        simp only [Rep, RepL] at hr
        obtain ⟨b, o, cap, m, h1, rfl, h3, _, h5⟩ := hr
        obtain ⟨h6, h7⟩ := flats_spec (m := m) (o := o) 0 hfl fun i x hi => by simpa using (h5 i x hi).2
        exact fz_src hs h1 h6 (by simpa using h7) h3
  case big s k tr =>
    cases hb : Nat.beq s sz with
    | false => simp [hb] at h
    | true =>
      have := beqT hb
      subst this
      simp only [hb, cond_true] at h
      cases htk : tr.take 0 k with
      | none => simp [htk] at h
      | some xs =>
        simp only [htk] at h
        cases hfl : flats s xs with
        | none => simp [hfl] at h
        | some q =>
          simp [hfl] at h; obtain ⟨rfl, rfl⟩ := h
          simp only [Rep, RepL] at hr
          obtain ⟨b, o, cap, m, h1, rfl, h3, h5⟩ := hr
          obtain ⟨h8, h9⟩ := T.take_spec _ _ _ _ htk
          obtain ⟨h6, h7⟩ := flats_spec (m := m) (o := o) 0 hfl fun i x hi => by
            have hik : i < k := by have := (List.getElem?_eq_some_iff.1 hi).1; omega
            obtain ⟨y, e1, _, e2⟩ := h5 i hik
            have := h9 i hik
            rw [Nat.zero_add, e1, hi] at this
            cases this
            simpa using e2
          rw [h8] at h6
          exact fz_src hs h1 h6 (by simpa using h7) h3
  case row s l off len =>
    cases hb : Nat.beq s sz with
    | false => simp [hb] at h
    | true =>
      have := beqT hb
      subst this
      simp only [hb, cond_true] at h
      cases hc : st.cut l off (len * s) with
      | none => simp [hc] at h
      | some q =>
        simp [hc] at h; obtain ⟨rfl, rfl⟩ := h
        simp only [Rep, RepL] at hr
        obtain ⟨b, base, top, cap, h1, rfl, h3, h4⟩ := hr
        obtain ⟨h5, c, e, h6, h7⟩ := cut_cells hs hc h1
        obtain ⟨us, h8, h9, h10⟩ := Reps_of_cells (g := g) (cs := q) (f := fun j => c[base + (off + j)]?) fun j v hj => let ⟨u, e1, _, e2⟩ := h7 j v hj; ⟨u, e1, e2⟩
        refine ⟨_, cap, us, rfl, h3, h9, leafs_of fun i v hi => let ⟨_, _, e1, _⟩ := h7 i v hi; e1, by omega, (by simp), fun ad had j x hj => ?_⟩
        cases had
        rw [add_plain]
        simp only [World.cell?, h6]
        have := h10 j x hj
        simpa [Nat.add_assoc] using this
/-- the cells are read: here, or behind a draw -/
theorem SrcR.first {sz n : Nat} {u : Value} {cs : List V} (h : SrcR P g w sz u n cs) : ∃ us : List Value, Reps g cs us ∧ leafs cs = true ∧ us.length = n * sz ∧ ∀ w' : World, w'.heap = w.heap → (Builtin.firstCells sz n u).run P w' = .ok us.toArray w' := by
  obtain ⟨p, cap, us, rfl, h1, h2, h3, h4, h5, h6⟩ := h
  refine ⟨us, h2, h3, h4, fun w' hw => ?_⟩
  cases p with
  | none =>
    have := h5 rfl
    subst this
    simp at h4; subst h4
    simp [Builtin.firstCells]
  | some ad =>
    simp only [Builtin.firstCells]
    rw [← h4]
    exact run_loadCells_list (P := P) w' ad us fun j x hj => by
      have := h6 ad rfl j x hj
      simpa [World.cell?, hw] using this
theorem SrcR.len {sz n : Nat} {u : Value} {cs : List V} (h : SrcR P g w sz u n cs) : ∀ w' : World, (Builtin.lenOf u).run P w' = .ok n w' := by
  obtain ⟨p, cap, us, rfl, _⟩ := h
  intro w'; simp [Builtin.lenOf]
end
end Go.Ai
