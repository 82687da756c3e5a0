/-
  THE ABSTRACT MACHINE: its values, its heap, its code, what a run of it gives. Deterministic, executable, without a tape.
-/
import Derived.Orders
import Derived.Tactics
namespace Go.AM

/-- What one cell holds. -/
inductive SV where
  | int (k : IntKind) (n : Int)
  | bool (b : Bool)
  | str (s : ByteArray)
  | ptr (a : Option (Nat × Nat))
  | slice (a : Option (Nat × Nat)) (len cap esz : Nat)
  | map (r : Option Nat)
  | fn (f : Nat) (caps : List (Nat × Nat))
  | nilfn
  | bfn (f : Nat) (a : Nat × Nat)
  deriving DecidableEq, Inhabited

inductive Part where
  | s (x : SV)
  | agg (l : List SV)
  deriving DecidableEq, Inhabited

/-- What a slot holds. -/
inductive AV where
  | s (x : SV)
  | agg (l : List SV)
  | tup (l : List Part)
  deriving DecidableEq, Inhabited

abbrev undef : AV := .tup []

def Part.av : Part → AV
  | .s x => .s x
  | .agg l => .agg l

def AV.part? : AV → Option Part
  | .s x => some (.s x)
  | .agg l => some (.agg l)
  | .tup _ => none

def AV.cells? : AV → Option (List SV)
  | .s x => some [x]
  | .agg l => some l
  | .tup _ => none

inductive Blk where
  | dead
  | cells (ro : Bool) (l : List SV)
  | map (es : List (SV × Part))

structure AH where
  blk : Nat → Option Blk
  next : Nat

def upd (f : Nat → Option Blk) (b : Nat) (x : Option Blk) : Nat → Option Blk := fun c => if c = b then x else f c

def AH.set (H : AH) (b : Nat) (x : Blk) : AH := { H with blk := upd H.blk b (some x) }
def AH.bump (H : AH) (n : Nat) : AH := { H with next := H.next + n }

def AH.ld (H : AH) (b o : Nat) : Option SV :=
  match H.blk b with
  | some (.cells _ l) => l[o]?
  | _ => none

def AH.ldn (H : AH) (b o n : Nat) : Option (List SV) :=
  match H.blk b with
  | some (.cells _ l) => if o + n ≤ l.length then some ((l.drop o).take n) else none
  | _ => none

def splice (l : List SV) (o : Nat) (vs : List SV) : List SV := l.take o ++ (vs ++ l.drop (o + vs.length))

def AH.stn (H : AH) (b o : Nat) (vs : List SV) : Option AH :=
  match H.blk b with
  | some (.cells false l) => if o + vs.length ≤ l.length then some (H.set b (.cells false (splice l o vs))) else none
  | _ => none

def AH.new (H : AH) (id : Nat) (B : Blk) : Option AH :=
  match H.blk id with
  | none => some (H.set id B)
  | some _ => none

/-- Operands. -/
inductive Opd where
  | t (n : Nat)
  | c (v : AV)
  | g (n : Nat)
  deriving DecidableEq, Inhabited

/-- What is compared. -/
inductive EqK where
  | bool
  | str
  | ptr
  | slice
  | map
  | fn
  deriving DecidableEq, Inhabited

/-- Operations on the heap that are no stores of cells: maps; an array's slice. -/
inductive HOp where
  | makeMap
  | lookup (ok : Bool)
  | update
  | delete
  | slArr (len esz : Nat)
  deriving DecidableEq, Inhabited

inductive ROp where
  | move (x : Opd)
  | pick (c a b : Opd)
  | nilCheck (x : Opd)
  | newc (l : List SV)
  | box (x : Opd)
  | build (z : List SV) (ps : List (Nat × Nat × Opd))
  | buildSlice (esz len : Nat) (z : List SV) (ps : List (Nat × Nat × Opd))
  | load (m : Option Nat) (a : Opd)
  | store (n : Nat) (a v : Opd)
  | fieldAddr (off : Nat) (x : Opd)
  | field (m : Option Nat) (off : Nat) (x : Opd)
  | indexSl (esz : Nat) (x i : Opd)
  | indexArr (len esz : Nat) (x i : Opd)
  | index (len esz : Nat) (m : Option Nat) (x i : Opd)
  | slSl (esz : Nat) (x : Opd) (lo hi mx : Option Opd)
  | bin (op : BinOp) (x y : Opd)
  | eqs (k : EqK) (neg : Bool) (x y : Opd)
  | eqAgg (ks : List Bool) (neg : Bool) (x y : Opd)
  | un (op : UnOp) (x : Opd)
  | conv (k : IntKind) (x : Opd)
  | makeSlice (esz bytes : Nat) (z : List SV) (l c : Opd)
  | makeFunc (f : Nat) (caps : List Opd)
  | extract (i : Nat) (x : Opd)
  | len (x : Opd)
  | lenArr (n : Nat)
  | append (esz bytes : Nat) (s x : Opd)
  | copy (esz : Nat) (d s : Opd)
  | clear (esz : Nat) (z : List SV) (x : Opd)
  | minmax (mx : Bool) (x y : Opd)
  | call (f : Nat) (args : List Opd)
  | callv (x : Opd) (args : List Opd)
  | stuck
  | hop (h : HOp) (args : List Opd)
  | bindf (f : Nat) (x : Opd)
  deriving DecidableEq, Inhabited

/-- A load that may also come behind an effect: it is looked at again. -/
structure Watch where
  dst : Nat
  m : Option Nat
  a : Opd
  guard : Option (Nat × Bool)
  deriving DecidableEq, Inhabited

structure ROper where
  dst : Option Nat
  op : ROp
  guard : Option (Nat × Bool)
  idx : Nat
  watch : List Watch
  deriving DecidableEq, Inhabited

inductive RC where
  | skip
  | ret
  | exit (id : Nat)
  | region (n : Nat) (ops : List ROper)
  | seq (a b : RC)
  | cond (c : Opd) (a b : RC)
  | block (id : Nat) (a : RC)
  | loop (a : RC)
  deriving Inhabited

inductive RRes where
  | tmp (t : Nat)
  | cell (t : Nat) (m : Option Nat)
  deriving DecidableEq, Inhabited

structure RFunc where
  ntmps : Nat
  results : List RRes
  body : RC
  deriving Inhabited

inductive Ex where
  | norm
  | ret
  | out (id : Nat)
  deriving DecidableEq, Inhabited

/- ---- the operations ---- -/

def ev (T : List AV) : Opd → AV
  | .t n => T.getD n undef
  | .c v => v
  | .g n => .s (.ptr (some (n, 0)))

def put (T : List AV) (d : Option Nat) (v : AV) : List AV :=
  match d with
  | some d => T.set d v
  | none => T

def pickA (c a b : AV) : Option AV :=
  match c with
  | .s (.bool true) => some a
  | .s (.bool false) => some b
  | _ => none

def nilCheckA : AV → Option AV
  | .s (.ptr (some a)) => some (.s (.ptr (some a)))
  | .s (.fn f c) => some (.s (.fn f c))
  | _ => none

/-- Parts laid over cells. -/
def fillA : List SV → List (Nat × Nat × AV) → Option (List SV)
  | z, [] => some z
  | z, (off, size, v) :: rest =>
    match v.cells? with
    | some l => if l.length = size ∧ off + size ≤ z.length then fillA (splice z off l) rest else none
    | none => none

def buildA (z : List SV) (ps : List (Nat × Nat × AV)) : Option AV := (fillA z ps).map .agg

def loadA (m : Option Nat) (a : AV) (H : AH) : Option AV :=
  match a with
  | .s (.ptr (some (b, o))) =>
    match m with
    | none => (H.ld b o).map .s
    | some n => (H.ldn b o n).map .agg
  | _ => none

def storeA (n : Nat) (a v : AV) (H : AH) : Option AH :=
  match a with
  | .s (.ptr (some (b, o))) =>
    match v.cells? with
    | some l => if l.length = n then H.stn b o l else none
    | none => none
  | _ => none

def fieldAddrA (off : Nat) : AV → Option AV
  | .s (.ptr (some (b, o))) => some (.s (.ptr (some (b, o + off))))
  | _ => none

def partA (m : Option Nat) (l : List SV) (off : Nat) : Option AV :=
  match m with
  | none => (l[off]?).map .s
  | some n => if off + n ≤ l.length then some (.agg ((l.drop off).take n)) else none

def fieldA (m : Option Nat) (off : Nat) : AV → Option AV
  | .agg l => partA m l off
  | _ => none

def indexSlA (esz : Nat) (x i : AV) : Option AV :=
  match x, i with
  | .s (.slice (some (b, o)) len _ _), .s (.int _ n) => if 0 ≤ n ∧ n < (len : Int) then some (.s (.ptr (some (b, o + n.toNat * esz)))) else none
  | _, _ => none

def indexArrA (len esz : Nat) (x i : AV) : Option AV :=
  match x, i with
  | .s (.ptr (some (b, o))), .s (.int _ n) => if 0 ≤ n ∧ n < (len : Int) then some (.s (.ptr (some (b, o + n.toNat * esz)))) else none
  | _, _ => none

def indexA (len esz : Nat) (m : Option Nat) (x i : AV) : Option AV :=
  match x, i with
  | .agg l, .s (.int _ n) => if 0 ≤ n ∧ n < (len : Int) then partA m l (n.toNat * esz) else none
  | _, _ => none

/-- A bound of a slice expression: not there, or a number up to y. -/
def boundA (d y : Nat) : Option AV → Option Nat
  | none => some d
  | some (.s (.int _ n)) => if 0 ≤ n ∧ n ≤ (y : Int) then some n.toNat else none
  | some _ => none

def boundsA (len cap : Nat) (lo hi mx : Option AV) : Option (Nat × Nat × Nat) :=
  (boundA cap cap mx).bind fun m => (boundA len m hi).bind fun h => (boundA 0 h lo).bind fun l => some (l, h, m)

def addO (b o n : Nat) : Option (Nat × Nat) := some (b, o + n)

def slSlA (esz : Nat) (x : AV) (lo hi mx : Option AV) : Option AV :=
  match x with
  | .s (.slice none len cap _) => (boundsA len cap lo hi mx).bind fun (l, h, m) => some (.s (.slice none (h - l) (m - l) esz))
  | .s (.slice (some (b, o)) len cap e) => if e = esz then (boundsA len cap lo hi mx).bind fun (l, h, m) => some (.s (.slice (some (b, o + l * esz)) (h - l) (m - l) esz)) else none
  | _ => none

def arithA (op : BinOp) (k : IntKind) (x y : Int) : Option SV :=
  match op with
  | .add => some (.int k (k.wrap (x + y)))
  | .sub => some (.int k (k.wrap (x - y)))
  | .mul => some (.int k (k.wrap (x * y)))
  | .quo => if y = 0 then none else some (.int k (k.wrap (x.tdiv y)))
  | .rem => if y = 0 then none else some (.int k (x.tmod y))
  | .and => some (.int k (k.wrap (BitVec.ofInt k.bits x &&& BitVec.ofInt k.bits y).toNat))
  | .or => some (.int k (k.wrap (BitVec.ofInt k.bits x ||| BitVec.ofInt k.bits y).toNat))
  | .xor => some (.int k (k.wrap (BitVec.ofInt k.bits x ^^^ BitVec.ofInt k.bits y).toNat))
  | .andNot => some (.int k (k.wrap (BitVec.ofInt k.bits x &&& ~~~BitVec.ofInt k.bits y).toNat))
  | .eql => some (.bool (x == y))
  | .neq => some (.bool (x != y))
  | .lss => some (.bool (x < y))
  | .leq => some (.bool (x ≤ y))
  | .gtr => some (.bool (x > y))
  | .geq => some (.bool (x ≥ y))
  | .shl | .shr => none

def shiftA (left : Bool) (k : IntKind) (x y : Int) : Option SV :=
  if y < 0 then none
  else if left then some (.int k (k.wrap (x * 2 ^ (min y.toNat k.bits)))) else some (.int k (x.fdiv (2 ^ (min y.toNat k.bits))))

def binA (op : BinOp) (x y : AV) : Option AV :=
  match x, y with
  | .s (.int k a), .s (.int k' b) =>
    match op with
    | .shl => (shiftA true k a b).map .s
    | .shr => (shiftA false k a b).map .s
    | op => if k = k' then (arithA op k a b).map .s else none
  | _, _ => none

def eqsA (k : EqK) (ng : Bool) (x y : AV) : Option AV :=
  match k, x, y with
  | .bool, .s (.bool a), .s (.bool b) => some (.s (.bool (ng ^^ (a == b))))
  | .str, .s (.str a), .s (.str b) => some (.s (.bool (ng ^^ (a.data.toList == b.data.toList))))
  | .ptr, .s (.ptr none), .s (.ptr b) => some (.s (.bool (ng ^^ b.isNone)))
  | .ptr, .s (.ptr (some _)), .s (.ptr none) => some (.s (.bool ng))
  | .slice, .s (.slice none _ _ _), .s (.slice b _ _ _) => some (.s (.bool (ng ^^ b.isNone)))
  | .slice, .s (.slice (some _) _ _ _), .s (.slice none _ _ _) => some (.s (.bool ng))
  | .map, .s (.map none), .s (.map b) => some (.s (.bool (ng ^^ b.isNone)))
  | .map, .s (.map (some _)), .s (.map none) => some (.s (.bool ng))
  | .fn, .s .nilfn, .s .nilfn => some (.s (.bool (ng ^^ true)))
  | .fn, .s .nilfn, .s (.fn _ _) => some (.s (.bool ng))
  | .fn, .s (.fn _ _), .s .nilfn => some (.s (.bool ng))
  | _, _, _ => none

/-- Cells that are compared one by one: truths where it says so, else numbers. -/
def eqCells : List Bool → List SV → List SV → Option Bool
  | [], [], [] => some true
  | false :: ks, .int k a :: xs, .int k' b :: ys => if k = k' then (eqCells ks xs ys).map fun r => (a == b) && r else none
  | true :: ks, .bool a :: xs, .bool b :: ys => (eqCells ks xs ys).map fun r => (a == b) && r
  | _, _, _ => none

def eqAggA (ks : List Bool) (ng : Bool) (x y : AV) : Option AV :=
  match x, y with
  | .agg xs, .agg ys => (eqCells ks xs ys).map fun r => .s (.bool (ng ^^ r))
  | _, _ => none

def unA (op : UnOp) (x : AV) : Option AV :=
  match op, x with
  | .neg, .s (.int k n) => some (.s (.int k (k.wrap (0 - n))))
  | .xor, .s (.int k n) => some (.s (.int k (k.wrap (BitVec.ofInt k.bits (if k.signed then -1 else k.max) ^^^ BitVec.ofInt k.bits n).toNat)))
  | .not, .s (.bool b) => some (.s (.bool !b))
  | _, _ => none

def convA (k : IntKind) : AV → Option AV
  | .s (.int _ n) => some (.s (.int k (k.wrap n)))
  | _ => none

/-- A function with its receiver. -/
def bindA (f : Nat) : AV → Option AV
  | .s (.ptr (some a)) => some (.s (.bfn f a))
  | _ => none

def capsA : List AV → Option (List (Nat × Nat))
  | [] => some []
  | .s (.ptr (some a)) :: rest => (capsA rest).map (a :: ·)
  | _ => none

def extractA (i : Nat) : AV → Option AV
  | .tup ps => (ps[i]?).map Part.av
  | _ => none

def lenA : AV → Option AV
  | .s (.slice _ n _ _) => some (.s (.int .i64 n))
  | _ => none

def minmaxA (mx : Bool) (x y : AV) : Option AV :=
  match x, y with
  | .s (.int k a), .s (.int _ b) => some (.s (.int k (if mx then (if b > a then b else a) else (if b < a then b else a))))
  | _, _ => none

/-- The cells of a slice's elements. -/
def sliceCells (esz : Nat) (x : AV) (n : Nat) (H : AH) : Option (List SV) :=
  match x with
  | .s (.slice none _ _ _) => some []
  | .s (.slice (some (b, o)) len _ e) => if e = esz ∧ n ≤ len then H.ldn b o (n * esz) else none
  | _ => none

def slLen : AV → Option Nat
  | .s (.slice _ n _ _) => some n
  | _ => none

/-- append: in place within the capacity that is known; else the row moves to a new block, and the old one may not be used any more. -/
def appendA (esz bytes id : Nat) (s x : AV) (H : AH) : Option (AV × AH) :=
  match s with
  | .s (.slice none len _ _) =>
    (slLen x).bind fun n => (sliceCells esz x n H).bind fun new =>
      if (len + n) * bytes ≤ 70368744177664 then
        if n = 0 then some (.s (.slice none 0 0 esz), H) else (H.new id (.cells false new)).map fun H => (.s (.slice (some (id, 0)) n n esz), H)
      else none
  | .s (.slice (some (b, o)) len cap e) =>
    (slLen x).bind fun n => (sliceCells esz x n H).bind fun new =>
      if e = esz ∧ (len + n) * bytes ≤ 70368744177664 then
        if len + n ≤ cap then (H.stn b (o + len * esz) new).map fun H => (.s (.slice (some (b, o)) (len + n) cap esz), H)
        else match H.blk b with
          | some (.cells false l) =>
            if o + len * esz ≤ l.length then ((H.set b .dead).new id (.cells false ((l.drop o).take (len * esz) ++ new))).map fun H => (.s (.slice (some (id, 0)) (len + n) (len + n) esz), H)
            else none
          | _ => none
      else none
  | _ => none

def copyA (esz : Nat) (d s : AV) (H : AH) : Option (AV × AH) :=
  match d with
  | .s (.slice none len _ _) => (slLen s).bind fun n => (sliceCells esz s (min n len) H).bind fun _ => some (.s (.int .i64 (min n len : Nat)), H)
  | .s (.slice (some (b, o)) len _ e) =>
    (slLen s).bind fun n => (sliceCells esz s (min n len) H).bind fun new =>
      if e = esz then (H.stn b o new).map fun H => (.s (.int .i64 (min n len : Nat)), H) else none
  | _ => none

def repCells (z : List SV) : Nat → List SV
  | 0 => []
  | n + 1 => z ++ repCells z n

def clearA (esz : Nat) (z : List SV) (x : AV) (H : AH) : Option AH :=
  match x with
  | .s (.slice none _ _ _) => some H
  | .s (.slice (some (b, o)) n _ e) => if n = 0 then some H else if e = esz ∧ z.length = esz then H.stn b o (repCells z n) else none
  | _ => none

inductive Kind where
  | pure
  | load
  | alloc
  | eff
  deriving DecidableEq, Inhabited

def ROp.kind : ROp → Kind
  | .load .. => .load
  | .newc .. | .box .. | .buildSlice .. | .makeSlice .. => .alloc
  | .store .. | .append .. | .copy .. | .clear .. | .call .. | .callv .. | .hop .. => .eff
  | _ => .pure

def pureA (ρ : Opd → AV) : ROp → Option AV
  | .move x => some (ρ x)
  | .pick c a b => pickA (ρ c) (ρ a) (ρ b)
  | .nilCheck x => nilCheckA (ρ x)
  | .build z ps => buildA z (ps.map fun p => (p.1, p.2.1, ρ p.2.2))
  | .fieldAddr off x => fieldAddrA off (ρ x)
  | .field m off x => fieldA m off (ρ x)
  | .indexSl esz x i => indexSlA esz (ρ x) (ρ i)
  | .indexArr len esz x i => indexArrA len esz (ρ x) (ρ i)
  | .index len esz m x i => indexA len esz m (ρ x) (ρ i)
  | .slSl esz x lo hi mx => slSlA esz (ρ x) (lo.map ρ) (hi.map ρ) (mx.map ρ)
  | .bin op x y => binA op (ρ x) (ρ y)
  | .eqs k ng x y => eqsA k ng (ρ x) (ρ y)
  | .eqAgg ks ng x y => eqAggA ks ng (ρ x) (ρ y)
  | .un op x => unA op (ρ x)
  | .conv k x => convA k (ρ x)
  | .makeFunc f caps => (capsA (caps.map ρ)).map fun c => .s (.fn f c)
  | .bindf f x => bindA f (ρ x)
  | .extract i x => extractA i (ρ x)
  | .len x => lenA (ρ x)
  | .lenArr n => some (.s (.int .i64 n))
  | .minmax mx x y => minmaxA mx (ρ x) (ρ y)
  | _ => none

def loadO (ρ : Opd → AV) (H : AH) : ROp → Option AV
  | .load m a => loadA m (ρ a) H
  | _ => none

def makeA (esz bytes : Nat) (z : List SV) (l c : AV) : Option (List SV × Nat × Nat) :=
  match l, c with
  | .s (.int .i64 l), .s (.int .i64 c) =>
    if 0 ≤ l ∧ l ≤ c ∧ (bytes : Int) * c ≤ 281474976710656 ∧ c ≤ 281474976710656 ∧ z.length = esz then some (repCells z c.toNat, l.toNat, c.toNat) else none
  | _, _ => none

/-- A new block, and the value that names it. -/
def allocO (ρ : Opd → AV) (id : Nat) : ROp → Option (List SV × AV)
  | .newc l => some (l, .s (.ptr (some (id, 0))))
  | .box x => ((ρ x).cells?).map fun l => (l, .s (.ptr (some (id, 0))))
  | .buildSlice esz len z ps => (fillA z (ps.map fun p => (p.1, p.2.1, ρ p.2.2))).map fun l => (l, .s (.slice (some (id, 0)) len len esz))
  | .makeSlice esz bytes z l c => (makeA esz bytes z (ρ l) (ρ c)).map fun r => (r.1, .s (.slice (some (id, 0)) r.2.1 r.2.2 esz))
  | _ => none

/-- Where a number stands among a map's keys, and what it has. -/
def findK (k : IntKind) (n : Int) : List (SV × Part) → Nat → Option (Option (Nat × Part))
  | [], _ => some none
  | (.int k' n', p) :: es, i => if k = k' then (if n = n' then some (some (i, p)) else findK k n es (i + 1)) else none
  | _ :: _, _ => none

def hopA (h : HOp) (id : Nat) (args : List AV) (H : AH) : Option (AV × AH) :=
  match h, args with
  | .makeMap, [] => (H.new id (.map [])).map fun H => (.s (.map (some id)), H)
  | .lookup ok, [.s (.map (some r)), .s (.int k n)] =>
    match H.blk r with
    | some (.map es) =>
      match findK k n es 0 with
      | some (some (_, p)) => some (if ok then AV.tup [p, .s (.bool true)] else p.av, H)
      | _ => none
    | _ => none
  | .update, [.s (.map (some r)), .s (.int k n), v] =>
    match H.blk r, v.part? with
    | some (.map es), some p =>
      match findK k n es 0 with
      | some (some (i, _)) => some (undef, H.set r (.map (es.set i (.int k n, p))))
      | some none => some (undef, H.set r (.map (es ++ [(.int k n, p)])))
      | none => none
    | _, _ => none
  | .delete, [.s (.map (some r)), .s (.int k n)] =>
    match H.blk r with
    | some (.map es) =>
      match findK k n es 0 with
      | some (some (i, _)) => some (undef, H.set r (.map (es.eraseIdx i)))
      | some none => some (undef, H.set r (.map es))
      | none => none
    | _ => none
  | .slArr len esz, [.s (.ptr (some (b, o)))] =>
    match H.blk b with
    | some (.cells _ l) => if 0 < esz ∧ o + len * esz ≤ l.length then some (.s (.slice (some (b, o)) len len esz), H) else none
    | _ => none
  | _, _ => none

/-- What such an operation does to the heap. -/
theorem hopA_cases {h : HOp} {id : Nat} {args : List AV} {H H' : AH} {v : AV} (e : hopA h id args H = some (v, H')) :
    H' = H ∨ H.new id (.map []) = some H' ∨ ∃ r es es', H.blk r = some (.map es) ∧ H' = H.set r (.map es') := by
  unfold hopA at e
  split at e
  · simp only [Option.map_eq_some_iff, Prod.mk.injEq] at e
    obtain ⟨H1, h1, _, rfl⟩ := e
    exact .inr (.inl h1)
  · split at e
    · split at e
      · simp only [Option.some.injEq, Prod.mk.injEq] at e
        exact .inl e.2.symm
      · cases e
    · cases e
  · split at e
    · rename_i hb _
      split at e
      · simp only [Option.some.injEq, Prod.mk.injEq] at e
        exact .inr (.inr ⟨_, _, _, hb, e.2.symm⟩)
      · simp only [Option.some.injEq, Prod.mk.injEq] at e
        exact .inr (.inr ⟨_, _, _, hb, e.2.symm⟩)
      · cases e
    · cases e
  · split at e
    · rename_i hb
      split at e
      · simp only [Option.some.injEq, Prod.mk.injEq] at e
        exact .inr (.inr ⟨_, _, _, hb, e.2.symm⟩)
      · simp only [Option.some.injEq, Prod.mk.injEq] at e
        exact .inr (.inr ⟨_, _, _, hb, e.2.symm⟩)
      · cases e
    · cases e
  · split at e
    · split at e
      · simp only [Option.some.injEq, Prod.mk.injEq] at e
        exact .inl e.2.symm
      · cases e
    · cases e
  · cases e

section
variable (rec : Nat → List AV → AH → Option (AV × AH))

def effO (ρ : Opd → AV) (id : Nat) (H : AH) : ROp → Option (AV × AH)
  | .store n a v => (storeA n (ρ a) (ρ v) H).map fun H => (undef, H)
  | .append esz bytes s x => appendA esz bytes id (ρ s) (ρ x) H
  | .copy esz d s => copyA esz (ρ d) (ρ s) H
  | .clear esz z x => (clearA esz z (ρ x) H).map fun H => (undef, H)
  | .call f args => rec f (args.map ρ) H
  | .callv x args =>
    match ρ x with
    | .s (.fn f caps) => rec f (args.map ρ ++ caps.map fun a => .s (.ptr (some a))) H
    | .s (.bfn f a) => rec f (.s (.ptr (some a)) :: args.map ρ) H
    | _ => none
  | .hop h args => hopA h id (args.map ρ) H
  | _ => none

def opA (ρ : Opd → AV) (id : Nat) (H : AH) (o : ROp) : Option (AV × AH) :=
  match o.kind with
  | .pure => (pureA ρ o).map fun v => (v, H)
  | .load => (loadO ρ H o).map fun v => (v, H)
  | .alloc => (allocO ρ id o).bind fun r => (H.new id (.cells false r.1)).map fun H => (r.2, H)
  | .eff => effO rec ρ id H o

def wantedA (T : List AV) : Option (Nat × Bool) → Bool
  | none => true
  | some (t, b) => match T.getD t undef with
    | .s (.bool c) => c == b
    | _ => false

def watchOk (T : List AV) (H : AH) (w : Watch) : Bool :=
  if wantedA T w.guard then loadA w.m (ev T w.a) H = some (T.getD w.dst undef) else true

def stepA (base : Nat) (o : ROper) (T : List AV) (H : AH) : Option (List AV × AH) :=
  if wantedA T o.guard then (opA rec (ev T) (base + o.idx) H o.op).map fun r => (put T o.dst r.1, r.2) else some (put T o.dst undef, H)

def regA (base : Nat) : List ROper → List AV → AH → Option (List AV × AH)
  | [], T, H => some (T, H)
  | o :: os, T, H => (stepA rec base o T H).bind fun r => if o.watch.all (watchOk T r.2) then regA base os r.1 r.2 else none

def iterA (f : List AV → AH → Option (Ex × List AV × AH)) : Nat → List AV → AH → Option (Ex × List AV × AH)
  | 0, _, _ => none
  | n + 1, T, H => (f T H).bind fun r => match r.1 with
    | .norm => iterA f n r.2.1 r.2.2
    | _ => some r

def rcA (fuel : Nat) : RC → List AV → AH → Option (Ex × List AV × AH)
  | .skip, T, H => some (.norm, T, H)
  | .ret, T, H => some (.ret, T, H)
  | .exit id, T, H => some (.out id, T, H)
  | .region n ops, T, H => (regA rec H.next ops T (H.bump n)).map fun r => (.norm, r.1, r.2)
  | .seq a b, T, H => (rcA fuel a T H).bind fun r => match r.1 with
    | .norm => rcA fuel b r.2.1 r.2.2
    | _ => some r
  | .cond c a b, T, H => match ev T c with
    | .s (.bool true) => rcA fuel a T H
    | .s (.bool false) => rcA fuel b T H
    | _ => none
  | .block id a, T, H => (rcA fuel a T H).map fun r => (if r.1 = .out id then .norm else r.1, r.2)
  | .loop a, T, H => iterA (rcA fuel a) fuel T H

def resA1 (T : List AV) (H : AH) : RRes → Option AV
  | .tmp t => some (T.getD t undef)
  | .cell t m => loadA m (T.getD t undef) H

def partsA : List AV → Option (List Part)
  | [] => some []
  | v :: vs => (v.part?).bind fun p => (partsA vs).map (p :: ·)

def resA (rs : List RRes) (T : List AV) (H : AH) : Option AV :=
  match rs with
  | [r] => resA1 T H r
  | rs => (rs.mapM (resA1 T H)).bind fun vs => (partsA vs).map .tup
end

/-- The run of a function: n bounds the depth of calls and the rounds of loops. -/
def run (tab : Nat → Option RFunc) (ext : Nat → List AV → AH → Option (AV × AH)) : Nat → Nat → List AV → AH → Option (AV × AH)
  | 0, _, _, _ => none
  | n + 1, f, args, H =>
    match tab f with
    | none => ext f args H
    | some rf => (rcA (run tab ext n) n rf.body (args ++ List.replicate (rf.ntmps - args.length) undef) H).bind fun r =>
      match r.1 with
      | .out _ => none
      | _ => (resA rf.results r.2.1 r.2.2).map fun v => (v, r.2.2)

end Go.AM
