/-
  THE ABSTRACT MACHINE: its values, its heap, its code, what a run of it gives. Deterministic, executable, without a tape.
-/
import Derived.Orders
import Derived.Tactics
import Derived.Laws.CopyRow
import Derived.Laws.Strings
import Derived.ChangeKeysEq
import Derived.Laws.StructEq
import Derived.Deep.AppendSrc
import Derived.Laws.IdiomStrings
import Derived.LoopN
namespace Go.AM
inductive SV where
  | int (k : IntKind) (n : Int)
  | bool (b : Bool)
  | str (s : ByteArray)
  | ptr (a : Option (Nat × Nat))
  | slice (a : Option (Nat × Nat)) (len cap esz : Nat)
  | map (r : Option Nat)
  | fn (f : Nat) (caps : List (Nat × Nat))
  | nilfn
  | bfn (f : Nat) (a : Nat × Nat)
  | nili
  | ifc
  deriving DecidableEq, Inhabited
inductive Part where
  | s (x : SV)
  | agg (l : List SV)
  deriving DecidableEq, Inhabited
inductive AV where
  | s (x : SV)
  | agg (l : List SV)
  | tup (l : List Part)
  deriving DecidableEq, Inhabited
abbrev undef : AV := .tup []
def Part.av : Part → AV
  | .s x => .s x
  | .agg l => .agg l
def AV.part? : AV → Option Part
  | .s x => some (.s x)
  | .agg l => some (.agg l)
  | .tup _ => none
def AV.cells? : AV → Option (List SV)
  | .s x => some [x]
  | .agg l => some l
  | .tup _ => none
inductive Blk where
  | dead
  | cells (ro : Bool) (l : List SV)
  | map (es : List (SV × Part))
structure AH where
  blk : Nat → Option Blk
  next : Nat
def upd (f : Nat → Option Blk) (b : Nat) (x : Option Blk) : Nat → Option Blk := fun c => if c = b then x else f c
def AH.set (H : AH) (b : Nat) (x : Blk) : AH := { H with blk := upd H.blk b (some x) }
def AH.bump (H : AH) (n : Nat) : AH := { H with next := H.next + n }
def AH.ld (H : AH) (b o : Nat) : Option SV :=
  match H.blk b with
  | some (.cells _ l) => l[o]?
  | _ => none
def AH.ldn (H : AH) (b o n : Nat) : Option (List SV) :=
  match H.blk b with
  | some (.cells _ l) => if o + n ≤ l.length then some ((l.drop o).take n) else none
  | _ => none
def splice (l : List SV) (o : Nat) (vs : List SV) : List SV := l.take o ++ (vs ++ l.drop (o + vs.length))
def AH.stn (H : AH) (b o : Nat) (vs : List SV) : Option AH :=
  match H.blk b with
  | some (.cells false l) => if o + vs.length ≤ l.length then some (H.set b (.cells false (splice l o vs))) else none
  | _ => none
def AH.new (H : AH) (id : Nat) (B : Blk) : Option AH :=
  match H.blk id with
  | none => some (H.set id B)
  | some _ => none
inductive Opd where
  | t (n : Nat)
  | c (v : AV)
  | g (n : Nat)
  deriving DecidableEq, Inhabited
inductive EqK where
  | bool
  | str
  | ptr
  | slice
  | map
  | fn
  | iface
  deriving DecidableEq, Inhabited
inductive HOp where
  | makeMap
  | lookup (ok : Bool)
  | update
  | delete
  | slArr (len esz : Nat)
  | slArrH (len esz : Nat)
  | toStr
  deriving DecidableEq, Inhabited
inductive ROp where
  | move (x : Opd)
  | pick (c a b : Opd)
  | nilCheck (x : Opd)
  | newc (l : List SV)
  | box (x : Opd)
  | build (z : List SV) (ps : List (Nat × Nat × Opd))
  | buildSlice (esz len : Nat) (z : List SV) (ps : List (Nat × Nat × Opd))
  | load (m : Option Nat) (a : Opd)
  | store (n : Nat) (a v : Opd)
  | fieldAddr (off : Nat) (x : Opd)
  | field (m : Option Nat) (off : Nat) (x : Opd)
  | indexSl (esz : Nat) (x i : Opd)
  | indexArr (len esz : Nat) (x i : Opd)
  | index (len esz : Nat) (m : Option Nat) (x i : Opd)
  | slSl (esz : Nat) (x : Opd) (lo hi mx : Option Opd)
  | bin (op : BinOp) (x y : Opd)
  | eqs (k : EqK) (neg : Bool) (x y : Opd)
  | eqAgg (ks : List Bool) (neg : Bool) (x y : Opd)
  | un (op : UnOp) (x : Opd)
  | conv (k : IntKind) (x : Opd)
  | makeSlice (esz bytes : Nat) (z : List SV) (l c : Opd)
  | makeFunc (f : Nat) (caps : List Opd)
  | extract (i : Nat) (x : Opd)
  | len (x : Opd)
  | lenArr (n : Nat)
  | append (esz bytes : Nat) (s x : Opd)
  | copy (esz : Nat) (d s : Opd)
  | clear (esz : Nat) (z : List SV) (x : Opd)
  | minmax (mx : Bool) (x y : Opd)
  | call (f : Nat) (args : List Opd)
  | callv (x : Opd) (args : List Opd)
  | stuck
  | hop (h : HOp) (args : List Opd)
  | bindf (f : Nat) (x : Opd)
  deriving DecidableEq, Inhabited
structure Watch where
  dst : Nat
  m : Option Nat
  a : Opd
  guard : Option (Nat × Bool)
  deriving DecidableEq, Inhabited
structure ROper where
  dst : Option Nat
  op : ROp
  guard : Option (Nat × Bool)
  idx : Nat
  watch : List Watch
  deriving DecidableEq, Inhabited
inductive RC where
  | skip
  | ret
  | exit (id : Nat)
  | region (n : Nat) (ops : List ROper)
  | seq (a b : RC)
  | cond (c : Opd) (a b : RC)
  | block (id : Nat) (a : RC)
  | loop (a : RC)
  deriving Inhabited
inductive RRes where
  | tmp (t : Nat)
  | cell (t : Nat) (m : Option Nat)
  deriving DecidableEq, Inhabited
structure RFunc where
  ntmps : Nat
  results : List RRes
  body : RC
  deriving Inhabited
inductive Ex where
  | norm
  | ret
  | out (id : Nat)
  deriving DecidableEq, Inhabited
def ev (T : List AV) : Opd → AV
  | .t n => T.getD n undef
  | .c v => v
  | .g n => .s (.ptr (some (n, 0)))
def put (T : List AV) (d : Option Nat) (v : AV) : List AV :=
  match d with
  | some d => T.set d v
  | none => T
def pickA (c a b : AV) : Option AV :=
  match c with
  | .s (.bool true) => some a
  | .s (.bool false) => some b
  | _ => none
def nilCheckA : AV → Option AV
  | .s (.ptr (some a)) => some (.s (.ptr (some a)))
  | .s (.fn f c) => some (.s (.fn f c))
  | _ => none
def fillA : List SV → List (Nat × Nat × AV) → Option (List SV)
  | z, [] => some z
  | z, (off, size, v) :: rest =>
    match v.cells? with
    | some l => if l.length = size ∧ off + size ≤ z.length then fillA (splice z off l) rest else none
    | none => none
def buildA (z : List SV) (ps : List (Nat × Nat × AV)) : Option AV := (fillA z ps).map .agg
def loadA (m : Option Nat) (a : AV) (H : AH) : Option AV :=
  match a with
  | .s (.ptr (some (b, o))) =>
    match m with
    | none => (H.ld b o).map .s
    | some n => (H.ldn b o n).map .agg
  | _ => none
def storeA (n : Nat) (a v : AV) (H : AH) : Option AH :=
  match a with
  | .s (.ptr (some (b, o))) =>
    match v.cells? with
    | some l => if l.length = n then H.stn b o l else none
    | none => none
  | _ => none
def fieldAddrA (off : Nat) : AV → Option AV
  | .s (.ptr (some (b, o))) => some (.s (.ptr (some (b, o + off))))
  | _ => none
def partA (m : Option Nat) (l : List SV) (off : Nat) : Option AV :=
  match m with
  | none => (l[off]?).map .s
  | some n => if off + n ≤ l.length then some (.agg ((l.drop off).take n)) else none
def fieldA (m : Option Nat) (off : Nat) : AV → Option AV
  | .agg l => partA m l off
  | _ => none
def indexSlA (esz : Nat) (x i : AV) : Option AV :=
  match x, i with
  | .s (.slice (some (b, o)) len _ _), .s (.int _ n) => if 0 ≤ n ∧ n < (len : Int) then some (.s (.ptr (some (b, o + n.toNat * esz)))) else none
  | _, _ => none
def indexArrA (len esz : Nat) (x i : AV) : Option AV :=
  match x, i with
  | .s (.ptr (some (b, o))), .s (.int _ n) => if 0 ≤ n ∧ n < (len : Int) then some (.s (.ptr (some (b, o + n.toNat * esz)))) else none
  | _, _ => none
def strIx (len esz : Nat) (m : Option Nat) (s : ByteArray) (n : Int) : Option AV :=
  if len = 0 ∧ m = none then
    if esz = 0 then (if 0 ≤ n ∧ n < (s.size : Int) then some (.s (.int .u8 (s.data.toList.getD n.toNat 0).toNat)) else none)
    else if esz = 1 then some (.s (.int .i64 s.size)) else none
  else none
def indexA (len esz : Nat) (m : Option Nat) (x i : AV) : Option AV :=
  match x, i with
  | .agg l, .s (.int _ n) => if 0 ≤ n ∧ n < (len : Int) then partA m l (n.toNat * esz) else none
  | .s (.str s), .s (.int _ n) => strIx len esz m s n
  | _, _ => none
def boundA (d y : Nat) : Option AV → Option Nat
  | none => some d
  | some (.s (.int _ n)) => if 0 ≤ n ∧ n ≤ (y : Int) then some n.toNat else none
  | some _ => none
def boundsA (len cap : Nat) (lo hi mx : Option AV) : Option (Nat × Nat × Nat) :=
  (boundA cap cap mx).bind fun m => (boundA len m hi).bind fun h => (boundA 0 h lo).bind fun l => some (l, h, m)
def addO (b o n : Nat) : Option (Nat × Nat) := some (b, o + n)
def strSl (esz : Nat) (s : ByteArray) (lo hi mx : Option AV) : Option AV :=
  if esz = 0 then match mx with
    | some (.s (.str _)) => (boundsA s.size s.size lo hi none).bind fun (l, h, _) => some (.s (.str (s.extract l h)))
    | _ => none
  else none
def slSlA (esz : Nat) (x : AV) (lo hi mx : Option AV) : Option AV :=
  match x with
  | .s (.slice none len cap _) => (boundsA len cap lo hi mx).bind fun (l, h, m) => some (.s (.slice none (h - l) (m - l) esz))
  | .s (.slice (some (b, o)) len cap e) => if e = esz then (boundsA len cap lo hi mx).bind fun (l, h, m) => some (.s (.slice (some (b, o + l * esz)) (h - l) (m - l) esz)) else none
  | .s (.str s) => strSl esz s lo hi mx
  | _ => none
def arithA (op : BinOp) (k : IntKind) (x y : Int) : Option SV :=
  match op with
  | .add => some (.int k (k.wrap (x + y)))
  | .sub => some (.int k (k.wrap (x - y)))
  | .mul => some (.int k (k.wrap (x * y)))
  | .quo => if y = 0 then none else some (.int k (k.wrap (x.tdiv y)))
  | .rem => if y = 0 then none else some (.int k (x.tmod y))
  | .and => some (.int k (k.wrap (BitVec.ofInt k.bits x &&& BitVec.ofInt k.bits y).toNat))
  | .or => some (.int k (k.wrap (BitVec.ofInt k.bits x ||| BitVec.ofInt k.bits y).toNat))
  | .xor => some (.int k (k.wrap (BitVec.ofInt k.bits x ^^^ BitVec.ofInt k.bits y).toNat))
  | .andNot => some (.int k (k.wrap (BitVec.ofInt k.bits x &&& ~~~BitVec.ofInt k.bits y).toNat))
  | .eql => some (.bool (x == y))
  | .neq => some (.bool (x != y))
  | .lss => some (.bool (x < y))
  | .leq => some (.bool (x ≤ y))
  | .gtr => some (.bool (x > y))
  | .geq => some (.bool (x ≥ y))
  | .shl | .shr => none
def shiftA (left : Bool) (k : IntKind) (x y : Int) : Option SV :=
  if y < 0 then none
  else if left then some (.int k (k.wrap (x * 2 ^ (min y.toNat k.bits)))) else some (.int k (x.fdiv (2 ^ (min y.toNat k.bits))))
def binA (op : BinOp) (x y : AV) : Option AV :=
  match x, y with
  | .s (.int k a), .s (.int k' b) =>
    match op with
    | .shl => (shiftA true k a b).map .s
    | .shr => (shiftA false k a b).map .s
    | op => if k = k' then (arithA op k a b).map .s else none
  | .s (.str a), .s (.str b) => if op = .add ∧ a.size + b.size ≤ 9223372036854775807 then some (.s (.str (a ++ b))) else none
  | _, _ => none
def eqsA (k : EqK) (ng : Bool) (x y : AV) : Option AV :=
  match k, x, y with
  | .bool, .s (.bool a), .s (.bool b) => some (.s (.bool (ng ^^ (a == b))))
  | .str, .s (.str a), .s (.str b) => some (.s (.bool (ng ^^ (a.data.toList == b.data.toList))))
  | .ptr, .s (.ptr none), .s (.ptr b) => some (.s (.bool (ng ^^ b.isNone)))
  | .ptr, .s (.ptr (some _)), .s (.ptr none) => some (.s (.bool ng))
  | .slice, .s (.slice none _ _ _), .s (.slice b _ _ _) => some (.s (.bool (ng ^^ b.isNone)))
  | .slice, .s (.slice (some _) _ _ _), .s (.slice none _ _ _) => some (.s (.bool ng))
  | .map, .s (.map none), .s (.map b) => some (.s (.bool (ng ^^ b.isNone)))
  | .map, .s (.map (some _)), .s (.map none) => some (.s (.bool ng))
  | .fn, .s .nilfn, .s .nilfn => some (.s (.bool (ng ^^ true)))
  | .fn, .s .nilfn, .s (.fn _ _) => some (.s (.bool ng))
  | .fn, .s (.fn _ _), .s .nilfn => some (.s (.bool ng))
  | .iface, .s .nili, .s .nili => some (.s (.bool (ng ^^ true)))
  | .iface, .s .nili, .s .ifc => some (.s (.bool ng))
  | .iface, .s .ifc, .s .nili => some (.s (.bool ng))
  | _, _, _ => none
def eqCells : List Bool → List SV → List SV → Option Bool
  | [], [], [] => some true
  | false :: ks, .int k a :: xs, .int k' b :: ys => if k = k' then (eqCells ks xs ys).map fun r => (a == b) && r else none
  | true :: ks, .bool a :: xs, .bool b :: ys => (eqCells ks xs ys).map fun r => (a == b) && r
  | _, _, _ => none
def eqAggA (ks : List Bool) (ng : Bool) (x y : AV) : Option AV :=
  match x, y with
  | .agg xs, .agg ys => (eqCells ks xs ys).map fun r => .s (.bool (ng ^^ r))
  | _, _ => none
def unA (op : UnOp) (x : AV) : Option AV :=
  match op, x with
  | .neg, .s (.int k n) => some (.s (.int k (k.wrap (0 - n))))
  | .xor, .s (.int k n) => some (.s (.int k (k.wrap (BitVec.ofInt k.bits (if k.signed then -1 else k.max) ^^^ BitVec.ofInt k.bits n).toNat)))
  | .not, .s (.bool b) => some (.s (.bool !b))
  | _, _ => none
def convA (k : IntKind) : AV → Option AV
  | .s (.int _ n) => some (.s (.int k (k.wrap n)))
  | _ => none
def bindA (f : Nat) : AV → Option AV
  | .s (.ptr (some a)) => some (.s (.bfn f a))
  | _ => none
def capsA : List AV → Option (List (Nat × Nat))
  | [] => some []
  | .s (.ptr (some a)) :: rest => (capsA rest).map (a :: ·)
  | _ => none
def extractA (i : Nat) : AV → Option AV
  | .tup ps => (ps[i]?).map Part.av
  | _ => none
def lenA : AV → Option AV
  | .s (.slice _ n _ _) => some (.s (.int .i64 n))
  | _ => none
def minmaxA (mx : Bool) (x y : AV) : Option AV :=
  match x, y with
  | .s (.int k a), .s (.int _ b) => some (.s (.int k (if mx then (if b > a then b else a) else (if b < a then b else a))))
  | _, _ => none
def sliceCells (esz : Nat) (x : AV) (n : Nat) (H : AH) : Option (List SV) :=
  match x with
  | .s (.slice none _ _ _) => some []
  | .s (.slice (some (b, o)) len _ e) => if e = esz ∧ n ≤ len then H.ldn b o (n * esz) else none
  | _ => none
def slLen : AV → Option Nat
  | .s (.slice _ n _ _) => some n
  | _ => none
def appendA (esz bytes id : Nat) (s x : AV) (H : AH) : Option (AV × AH) :=
  match s with
  | .s (.slice none len _ _) =>
    (slLen x).bind fun n => (sliceCells esz x n H).bind fun new =>
      if (len + n) * bytes ≤ 70368744177664 then
        if n = 0 then some (.s (.slice none 0 0 esz), H) else (H.new id (.cells false new)).map fun H => (.s (.slice (some (id, 0)) n n esz), H)
      else none
  | .s (.slice (some (b, o)) len cap e) =>
    (slLen x).bind fun n => (sliceCells esz x n H).bind fun new =>
      if e = esz ∧ (len + n) * bytes ≤ 70368744177664 then
        if len + n ≤ cap then (H.stn b (o + len * esz) new).map fun H => (.s (.slice (some (b, o)) (len + n) cap esz), H)
        else match H.blk b with
          | some (.cells false l) =>
            if o + len * esz ≤ l.length then ((H.set b .dead).new id (.cells false ((l.drop o).take (len * esz) ++ new))).map fun H => (.s (.slice (some (id, 0)) (len + n) (len + n) esz), H)
            else none
          | _ => none
      else none
  | _ => none
def srcCells (esz : Nat) (x : AV) (n : Nat) (H : AH) : Option (List SV) := if n = 0 then some [] else sliceCells esz x n H
def copyA (esz : Nat) (d s : AV) (H : AH) : Option (AV × AH) :=
  match d with
  | .s (.slice none len _ _) => (slLen s).bind fun n => (srcCells esz s (min n len) H).bind fun _ => some (.s (.int .i64 (min n len : Nat)), H)
  | .s (.slice (some (b, o)) len _ e) =>
    (slLen s).bind fun n => (srcCells esz s (min n len) H).bind fun new =>
      if e = esz then (H.stn b o new).map fun H => (.s (.int .i64 (min n len : Nat)), H) else none
  | _ => none
def repCells (z : List SV) : Nat → List SV
  | 0 => []
  | n + 1 => z ++ repCells z n
def clearA (esz : Nat) (z : List SV) (x : AV) (H : AH) : Option AH :=
  match x with
  | .s (.slice none _ _ _) => some H
  | .s (.slice (some (b, o)) n _ e) => if n = 0 then some H else if e = esz ∧ z.length = esz then H.stn b o (repCells z n) else none
  | _ => none
inductive Kind where
  | pure
  | load
  | alloc
  | eff
  deriving DecidableEq, Inhabited
def ROp.kind : ROp → Kind
  | .load .. => .load
  | .newc .. | .box .. | .buildSlice .. | .makeSlice .. => .alloc
  | .store .. | .append .. | .copy .. | .clear .. | .call .. | .callv .. | .hop .. => .eff
  | _ => .pure
def pureA (ρ : Opd → AV) : ROp → Option AV
  | .move x => some (ρ x)
  | .pick c a b => pickA (ρ c) (ρ a) (ρ b)
  | .nilCheck x => nilCheckA (ρ x)
  | .build z ps => buildA z (ps.map fun p => (p.1, p.2.1, ρ p.2.2))
  | .fieldAddr off x => fieldAddrA off (ρ x)
  | .field m off x => fieldA m off (ρ x)
  | .indexSl esz x i => indexSlA esz (ρ x) (ρ i)
  | .indexArr len esz x i => indexArrA len esz (ρ x) (ρ i)
  | .index len esz m x i => indexA len esz m (ρ x) (ρ i)
  | .slSl esz x lo hi mx => slSlA esz (ρ x) (lo.map ρ) (hi.map ρ) (mx.map ρ)
  | .bin op x y => binA op (ρ x) (ρ y)
  | .eqs k ng x y => eqsA k ng (ρ x) (ρ y)
  | .eqAgg ks ng x y => eqAggA ks ng (ρ x) (ρ y)
  | .un op x => unA op (ρ x)
  | .conv k x => convA k (ρ x)
  | .makeFunc f caps => (capsA (caps.map ρ)).map fun c => .s (.fn f c)
  | .bindf f x => bindA f (ρ x)
  | .extract i x => extractA i (ρ x)
  | .len x => lenA (ρ x)
  | .lenArr n => some (.s (.int .i64 n))
  | .minmax mx x y => minmaxA mx (ρ x) (ρ y)
  | _ => none
def loadO (ρ : Opd → AV) (H : AH) : ROp → Option AV
  | .load m a => loadA m (ρ a) H
  | _ => none
def makeA (esz bytes : Nat) (z : List SV) (l c : AV) : Option (List SV × Nat × Nat) :=
  match l, c with
  | .s (.int .i64 l), .s (.int .i64 c) =>
    if 0 ≤ l ∧ l ≤ c ∧ (bytes : Int) * c ≤ 281474976710656 ∧ c ≤ 281474976710656 ∧ z.length = esz then some (repCells z c.toNat, l.toNat, c.toNat) else none
  | _, _ => none
def allocO (ρ : Opd → AV) (id : Nat) : ROp → Option (List SV × AV)
  | .newc l => some (l, .s (.ptr (some (id, 0))))
  | .box x => ((ρ x).cells?).map fun l => (l, .s (.ptr (some (id, 0))))
  | .buildSlice esz len z ps => (fillA z (ps.map fun p => (p.1, p.2.1, ρ p.2.2))).map fun l => (l, .s (.slice (some (id, 0)) len len esz))
  | .makeSlice esz bytes z l c => (makeA esz bytes z (ρ l) (ρ c)).map fun r => (r.1, .s (.slice (some (id, 0)) r.2.1 r.2.2 esz))
  | _ => none
def findK (k : IntKind) (n : Int) : List (SV × Part) → Nat → Option (Option (Nat × Part))
  | [], _ => some none
  | (.int k' n', p) :: es, i => if k = k' then (if n = n' then some (some (i, p)) else findK k n es (i + 1)) else none
  | _ :: _, _ => none
def bytesA : List SV → Option (List UInt8)
  | [] => some []
  | .int .u8 n :: l => if 0 ≤ n ∧ n < 256 then (bytesA l).map (UInt8.ofNat n.toNat :: ·) else none
  | _ :: _ => none
def hopA (h : HOp) (id : Nat) (args : List AV) (H : AH) : Option (AV × AH) :=
  match h, args with
  | .makeMap, [] => (H.new id (.map [])).map fun H => (.s (.map (some id)), H)
  | .lookup ok, [.s (.map (some r)), .s (.int k n)] =>
    match H.blk r with
    | some (.map es) =>
      match findK k n es 0 with
      | some (some (_, p)) => some (if ok then AV.tup [p, .s (.bool true)] else p.av, H)
      | _ => none
    | _ => none
  | .update, [.s (.map (some r)), .s (.int k n), v] =>
    match H.blk r, v.part? with
    | some (.map es), some p =>
      match findK k n es 0 with
      | some (some (i, _)) => some (undef, H.set r (.map (es.set i (.int k n, p))))
      | some none => some (undef, H.set r (.map (es ++ [(.int k n, p)])))
      | none => none
    | _, _ => none
  | .delete, [.s (.map (some r)), .s (.int k n)] =>
    match H.blk r with
    | some (.map es) =>
      match findK k n es 0 with
      | some (some (i, _)) => some (undef, H.set r (.map (es.eraseIdx i)))
      | some none => some (undef, H.set r (.map es))
      | none => none
    | _ => none
  | .slArr len esz, [.s (.ptr (some (b, o)))] =>
    match H.blk b with
    | some (.cells _ l) => if 0 < esz ∧ o + len * esz ≤ l.length then some (.s (.slice (some (b, o)) len len esz), H) else none
    | _ => none
  | .slArrH len esz, [.s (.ptr (some (b, o))), .s (.int _ n)] =>
    match H.blk b with
    | some (.cells _ l) => if 0 < esz ∧ o + len * esz ≤ l.length ∧ 0 ≤ n ∧ n ≤ (len : Int) then some (.s (.slice (some (b, o)) n.toNat len esz), H) else none
    | _ => none
  | .toStr, [.s (.slice a len cap e)] =>
    ((sliceCells 1 (.s (.slice a len cap e)) len H).bind bytesA).map fun l => (.s (.str ⟨l.toArray⟩), H)
  | _, _ => none
theorem hopA_cases {h : HOp} {id : Nat} {args : List AV} {H H' : AH} {v : AV} (e : hopA h id args H = some (v, H')) :
    H' = H ∨ H.new id (.map []) = some H' ∨ ∃ r es es', H.blk r = some (.map es) ∧ H' = H.set r (.map es') := by
  unfold hopA at e
  split at e
  · simp only [Option.map_eq_some_iff, Prod.mk.injEq] at e
    obtain ⟨H1, h1, _, rfl⟩ := e
    exact .inr (.inl h1)
  · split at e
    · split at e
      · simp only [Option.some.injEq, Prod.mk.injEq] at e
        exact .inl e.2.symm
      · cases e
    · cases e
  · split at e
    · rename_i hb _
      split at e
      · simp only [Option.some.injEq, Prod.mk.injEq] at e
        exact .inr (.inr ⟨_, _, _, hb, e.2.symm⟩)
      · simp only [Option.some.injEq, Prod.mk.injEq] at e
        exact .inr (.inr ⟨_, _, _, hb, e.2.symm⟩)
      · cases e
    · cases e
  · split at e
    · rename_i hb
      split at e
      · simp only [Option.some.injEq, Prod.mk.injEq] at e
        exact .inr (.inr ⟨_, _, _, hb, e.2.symm⟩)
      · simp only [Option.some.injEq, Prod.mk.injEq] at e
        exact .inr (.inr ⟨_, _, _, hb, e.2.symm⟩)
      · cases e
    · cases e
  · split at e
    · split at e
      · simp only [Option.some.injEq, Prod.mk.injEq] at e
        exact .inl e.2.symm
      · cases e
    · cases e
  · split at e
    · split at e
      · simp only [Option.some.injEq, Prod.mk.injEq] at e
        exact .inl e.2.symm
      · cases e
    · cases e
  · simp only [Option.map_eq_some_iff, Prod.mk.injEq] at e
    obtain ⟨l, _, _, e2⟩ := e
    exact .inl e2.symm
  · cases e
section
variable (rec : Nat → List AV → AH → Option (AV × AH))
def effO (ρ : Opd → AV) (id : Nat) (H : AH) : ROp → Option (AV × AH)
  | .store n a v => (storeA n (ρ a) (ρ v) H).map fun H => (undef, H)
  | .append esz bytes s x => appendA esz bytes id (ρ s) (ρ x) H
  | .copy esz d s => copyA esz (ρ d) (ρ s) H
  | .clear esz z x => (clearA esz z (ρ x) H).map fun H => (undef, H)
  | .call f args => rec f (args.map ρ) H
  | .callv x args =>
    match ρ x with
    | .s (.fn f caps) => rec f (args.map ρ ++ caps.map fun a => .s (.ptr (some a))) H
    | .s (.bfn f a) => rec f (.s (.ptr (some a)) :: args.map ρ) H
    | _ => none
  | .hop h args => hopA h id (args.map ρ) H
  | _ => none
def opA (ρ : Opd → AV) (id : Nat) (H : AH) (o : ROp) : Option (AV × AH) :=
  match o.kind with
  | .pure => (pureA ρ o).map fun v => (v, H)
  | .load => (loadO ρ H o).map fun v => (v, H)
  | .alloc => (allocO ρ id o).bind fun r => (H.new id (.cells false r.1)).map fun H => (r.2, H)
  | .eff => effO rec ρ id H o
def wantedA (T : List AV) : Option (Nat × Bool) → Bool
  | none => true
  | some (t, b) => match T.getD t undef with
    | .s (.bool c) => c == b
    | _ => false
def watchOk (T : List AV) (H : AH) (w : Watch) : Bool :=
  if wantedA T w.guard then loadA w.m (ev T w.a) H = some (T.getD w.dst undef) else true
def stepA (base : Nat) (o : ROper) (T : List AV) (H : AH) : Option (List AV × AH) :=
  if wantedA T o.guard then (opA rec (ev T) (base + o.idx) H o.op).map fun r => (put T o.dst r.1, r.2) else some (put T o.dst undef, H)
def regA (base : Nat) : List ROper → List AV → AH → Option (List AV × AH)
  | [], T, H => some (T, H)
  | o :: os, T, H => (stepA rec base o T H).bind fun r => if o.watch.all (watchOk T r.2) then regA base os r.1 r.2 else none
def iterA (f : List AV → AH → Option (Ex × List AV × AH)) : Nat → List AV → AH → Option (Ex × List AV × AH)
  | 0, _, _ => none
  | n + 1, T, H => (f T H).bind fun r => match r.1 with
    | .norm => iterA f n r.2.1 r.2.2
    | _ => some r
def rcA (fuel : Nat) : RC → List AV → AH → Option (Ex × List AV × AH)
  | .skip, T, H => some (.norm, T, H)
  | .ret, T, H => some (.ret, T, H)
  | .exit id, T, H => some (.out id, T, H)
  | .region n ops, T, H => (regA rec H.next ops T (H.bump n)).map fun r => (.norm, r.1, r.2)
  | .seq a b, T, H => (rcA fuel a T H).bind fun r => match r.1 with
    | .norm => rcA fuel b r.2.1 r.2.2
    | _ => some r
  | .cond c a b, T, H => match ev T c with
    | .s (.bool true) => rcA fuel a T H
    | .s (.bool false) => rcA fuel b T H
    | _ => none
  | .block id a, T, H => (rcA fuel a T H).map fun r => (if r.1 = .out id then .norm else r.1, r.2)
  | .loop a, T, H => iterA (rcA fuel a) fuel T H
def resA1 (T : List AV) (H : AH) : RRes → Option AV
  | .tmp t => some (T.getD t undef)
  | .cell t m => loadA m (T.getD t undef) H
def partsA : List AV → Option (List Part)
  | [] => some []
  | v :: vs => (v.part?).bind fun p => (partsA vs).map (p :: ·)
def resA (rs : List RRes) (T : List AV) (H : AH) : Option AV :=
  match rs with
  | [r] => resA1 T H r
  | rs => (rs.mapM (resA1 T H)).bind fun vs => (partsA vs).map .tup
end
def run (tab : Nat → Option RFunc) (ext : Nat → List AV → AH → Option (AV × AH)) : Nat → Nat → List AV → AH → Option (AV × AH)
  | 0, _, _, _ => none
  | n + 1, f, args, H =>
    match tab f with
    | none => ext f args H
    | some rf => (rcA (run tab ext n) n rf.body (args ++ List.replicate (rf.ntmps - args.length) undef) H).bind fun r =>
      match r.1 with
      | .out _ => none
      | _ => (resA rf.results r.2.1 r.2.2).map fun v => (v, r.2.2)
end Go.AM

/-
  THE ABSTRACT MACHINE: what a value, a heap of it stands for in the model's memory; how the relation is kept by each step of the memory.
-/
namespace Go.AM
def R2 {α β : Type} (R : α → β → Prop) : List α → List β → Prop
  | [], [] => True
  | a :: as, b :: bs => R a b ∧ R2 R as bs
  | _, _ => False
theorem R2.length {α β : Type} {R : α → β → Prop} : ∀ {as : List α} {bs : List β}, R2 R as bs → as.length = bs.length
  | [], [], _ => rfl
  | _ :: _, _ :: _, h => by simp [R2.length h.2]
theorem R2.mono {α β : Type} {R S : α → β → Prop} (hm : ∀ a b, R a b → S a b) : ∀ {as : List α} {bs : List β}, R2 R as bs → R2 S as bs
  | [], [], _ => trivial
  | _ :: _, _ :: _, h => ⟨hm _ _ h.1, R2.mono hm h.2⟩
theorem R2.append {α β : Type} {R : α → β → Prop} : ∀ {as : List α} {bs : List β} {as' : List α} {bs' : List β}, R2 R as bs → R2 R as' bs' → R2 R (as ++ as') (bs ++ bs')
  | [], [], _, _, _, h' => h'
  | _ :: _, _ :: _, _, _, h, h' => ⟨h.1, R2.append h.2 h'⟩
theorem R2.get {α β : Type} {R : α → β → Prop} : ∀ {as : List α} {bs : List β}, R2 R as bs → ∀ (i : Nat) (a : α), as[i]? = some a → ∃ b, bs[i]? = some b ∧ R a b
  | [], [], _, i, a, h => by simp at h
  | x :: _, y :: _, h, 0, a, ha => by
    simp at ha; subst ha; exact ⟨y, by simp, h.1⟩
  | _ :: _, _ :: _, h, i + 1, a, ha => by
    simp at ha ⊢; exact R2.get h.2 i a ha
theorem R2.get' {α β : Type} {R : α → β → Prop} : ∀ {as : List α} {bs : List β}, R2 R as bs → ∀ (i : Nat) (b : β), bs[i]? = some b → ∃ a, as[i]? = some a ∧ R a b
  | [], [], _, i, a, h => by simp at h
  | x :: _, y :: _, h, 0, a, ha => by
    simp at ha; subst ha; exact ⟨x, by simp, h.1⟩
  | _ :: _, _ :: _, h, i + 1, a, ha => by
    simp at ha ⊢; exact R2.get' h.2 i a ha
theorem R2.of_get {α β : Type} {R : α → β → Prop} : ∀ {as : List α} {bs : List β}, as.length = bs.length → (∀ (i : Nat) (a : α) (b : β), as[i]? = some a → bs[i]? = some b → R a b) → R2 R as bs
  | [], [], _, _ => trivial
  | a :: as, b :: bs, hl, h => ⟨h 0 a b (by simp) (by simp), R2.of_get (by simpa using hl) fun i x y hx hy => h (i + 1) x y (by simpa using hx) (by simpa using hy)⟩
  | [], _ :: _, hl, _ => by simp at hl
  | _ :: _, [], hl, _ => by simp at hl
theorem R2.take {α β : Type} {R : α → β → Prop} (n : Nat) {as : List α} {bs : List β} (h : R2 R as bs) : R2 R (as.take n) (bs.take n) := by
  induction n generalizing as bs with
  | zero => simp [R2]
  | succ n ih => cases as <;> cases bs <;> simp [R2] at h ⊢; exact ⟨h.1, ih h.2⟩
theorem R2.drop {α β : Type} {R : α → β → Prop} (n : Nat) {as : List α} {bs : List β} (h : R2 R as bs) : R2 R (as.drop n) (bs.drop n) := by
  induction n generalizing as bs with
  | zero => simpa using h
  | succ n ih => cases as <;> cases bs <;> simp [R2] at h ⊢; exact ih h.2
theorem R2.map {α β γ δ : Type} {R : α → β → Prop} {S : γ → δ → Prop} {f : α → γ} {g : β → δ} (hm : ∀ a b, R a b → S (f a) (g b)) : ∀ {as : List α} {bs : List β}, R2 R as bs → R2 S (as.map f) (bs.map g)
  | [], [], _ => trivial
  | _ :: _, _ :: _, h => ⟨hm _ _ h.1, R2.map hm h.2⟩
abbrev Phi := Nat → Option (Nat × Nat × Nat)
def ptrRel (φ : Phi) (a : Nat × Nat) (v : Addr) : Prop := ∃ cb sh cs, φ a.1 = some (cb, sh, cs) ∧ v = ⟨cb, sh + a.2, none⟩
def SVRel (φ : Phi) : SV → Value → Prop
  | .int k n, v => v = .int k n
  | .bool b, v => v = .bool b
  | .str s, v => v = .string s
  | .ptr none, v => v = .pointer none
  | .ptr (some a), v => ∃ x, ptrRel φ a x ∧ v = .pointer (some x)
  | .slice none l c _, v => l = 0 ∧ c = 0 ∧ v = .slice none 0 0
  | .slice (some a) l c e, v => 0 < e ∧ l ≤ c ∧ ∃ cb sh cs x c', φ a.1 = some (cb, sh, cs) ∧ c ≤ c' ∧ v = .slice (some x) l c' ∧ (c' ≠ 0 → x = ⟨cb, sh + a.2, none⟩ ∧ sh + a.2 + c' * e ≤ cs ∧ c' ≤ 9223372036854775807)
  | .map none, v => v = .map none
  | .map (some b), v => ∃ cb sh cs, φ b = some (cb, sh, cs) ∧ v = .map (some cb)
  | .fn f caps, v => ∃ xs : List Addr, R2 (ptrRel φ) caps xs ∧ v = .func (.func f) #[] (xs.map fun x => Value.pointer (some x)).toArray
  | .nilfn, v => v = .nilFunc
  | .bfn f a, v => ∃ x : Addr, ptrRel φ a x ∧ v = .func (.func f) #[.pointer (some x)] #[]
  | .nili, v => v = .nilIface
  | .ifc, v => ∃ (t : TypeId) (x : Addr), v = .iface t (.pointer (some x))
def PartRel (φ : Phi) : Part → Value → Prop
  | .s x, v => SVRel φ x v
  | .agg l, v => ∃ cs : List Value, R2 (SVRel φ) l cs ∧ v = .agg cs.toArray
def AVRel (φ : Phi) : AV → Value → Prop
  | .s x, v => SVRel φ x v
  | .agg l, v => ∃ cs : List Value, R2 (SVRel φ) l cs ∧ v = .agg cs.toArray
  | .tup ps, v => ∃ vs : List Value, R2 (PartRel φ) ps vs ∧ v = .tuple vs.toArray
theorem AVRel_undef (φ : Phi) : AVRel φ undef Go.undef := ⟨[], trivial, rfl⟩
def Ext (φ φ' : Phi) : Prop := ∀ b x, φ b = some x → φ' b = some x
theorem Ext.refl (φ : Phi) : Ext φ φ := fun _ _ h => h
theorem Ext.trans {φ φ' φ'' : Phi} (h : Ext φ φ') (h' : Ext φ' φ'') : Ext φ φ'' := fun b x hx => h' b x (h b x hx)
theorem ptrRel.mono {φ φ' : Phi} (h : Ext φ φ') {a : Nat × Nat} {v : Addr} (hr : ptrRel φ a v) : ptrRel φ' a v := by
  obtain ⟨cb, sh, cs, h1, h2⟩ := hr
  exact ⟨cb, sh, cs, h _ _ h1, h2⟩
theorem SVRel.mono {φ φ' : Phi} (h : Ext φ φ') : ∀ {x : SV} {v : Value}, SVRel φ x v → SVRel φ' x v
  | .int .., _, hr => hr
  | .bool .., _, hr => hr
  | .str .., _, hr => hr
  | .ptr none, _, hr => hr
  | .ptr (some _), _, ⟨x, hx, hv⟩ => ⟨x, hx.mono h, hv⟩
  | .slice none .., _, hr => hr
  | .slice (some _) .., _, ⟨h0, h1, cb, sh, cs, x, c', h2, h3⟩ => ⟨h0, h1, cb, sh, cs, x, c', h _ _ h2, h3⟩
  | .map none, _, hr => hr
  | .map (some _), _, ⟨cb, sh, cs, h1, h2⟩ => ⟨cb, sh, cs, h _ _ h1, h2⟩
  | .fn .., _, ⟨xs, h1, h2⟩ => ⟨xs, R2.mono (fun _ _ hp => hp.mono h) h1, h2⟩
  | .bfn .., _, ⟨x, h1, h2⟩ => ⟨x, h1.mono h, h2⟩
  | .nilfn, _, hr => hr
  | .nili, _, hr => hr
  | .ifc, _, hr => hr
theorem R2.ext {φ φ' : Phi} (h : Ext φ φ') {l : List SV} {cs : List Value} (hr : R2 (SVRel φ) l cs) : R2 (SVRel φ') l cs := R2.mono (fun _ _ => SVRel.mono h) hr
theorem PartRel.mono {φ φ' : Phi} (h : Ext φ φ') : ∀ {x : Part} {v : Value}, PartRel φ x v → PartRel φ' x v
  | .s _, _, hr => SVRel.mono h hr
  | .agg _, _, ⟨cs, h1, h2⟩ => ⟨cs, R2.ext h h1, h2⟩
theorem AVRel.mono {φ φ' : Phi} (h : Ext φ φ') : ∀ {x : AV} {v : Value}, AVRel φ x v → AVRel φ' x v
  | .s _, _, hr => SVRel.mono h hr
  | .agg _, _, ⟨cs, h1, h2⟩ => ⟨cs, R2.ext h h1, h2⟩
  | .tup _, _, ⟨vs, h1, h2⟩ => ⟨vs, R2.mono (fun _ _ => PartRel.mono h) h1, h2⟩
theorem SVRel.oneCell {φ : Phi} : ∀ {x : SV} {v : Value}, SVRel φ x v → v.oneCell' = true
  | .int .., _, hr => by subst hr; rfl
  | .bool .., _, hr => by subst hr; rfl
  | .str .., _, hr => by subst hr; rfl
  | .ptr none, _, hr => by subst hr; rfl
  | .ptr (some _), _, ⟨x, _, hv⟩ => by subst hv; rfl
  | .slice none .., _, ⟨_, _, hr⟩ => by subst hr; rfl
  | .slice (some _) .., _, ⟨_, _, _, _, _, _, _, _, _, hv, _⟩ => by subst hv; rfl
  | .map none, _, hr => by subst hr; rfl
  | .map (some _), _, ⟨_, _, _, _, hv⟩ => by subst hv; rfl
  | .fn .., _, ⟨_, _, hv⟩ => by subst hv; rfl
  | .bfn .., _, ⟨_, _, hv⟩ => by subst hv; rfl
  | .nilfn, _, hr => by subst hr; rfl
  | .nili, _, hr => by subst hr; rfl
  | .ifc, _, ⟨_, _, hv⟩ => by subst hv; rfl
theorem R2.oneCell {φ : Phi} {l : List SV} {cs : List Value} (h : R2 (SVRel φ) l cs) : ∀ v ∈ cs, v.oneCell' = true := by
  intro v hv
  obtain ⟨i, hi⟩ := List.getElem?_of_mem hv
  obtain ⟨a, _, hr⟩ := h.get' i v hi
  exact hr.oneCell
theorem AVRel.cells {φ : Phi} {x : AV} {v : Value} {l : List SV} (h : AVRel φ x v) (hc : x.cells? = some l) : R2 (SVRel φ) l v.cells.toList := by
  cases x with
  | s x =>
    simp only [AV.cells?, Option.some.injEq] at hc
    subst hc
    have h1 := SVRel.oneCell h
    have : v.cells = #[v] := by cases v <;> first | rfl | simp [Value.oneCell'] at h1
    rw [this]
    exact ⟨h, trivial⟩
  | agg l' =>
    simp only [AV.cells?, Option.some.injEq] at hc
    subst hc
    obtain ⟨cs, h1, rfl⟩ := h
    simpa [Value.cells] using h1
  | tup l' => simp [AV.cells?] at hc
structure HRel (B : Nat) (w0 : World) (φ : Phi) (H : AH) (w : World) : Prop where
  dom : ∀ b, H.blk b = none → φ b = none
  lt : ∀ b, H.next ≤ b → H.blk b = none
  cells : ∀ b ro l, H.blk b = some (.cells ro l) → ∃ cb sh cs c e fr, φ b = some (cb, sh, cs) ∧ w.heap[cb]? = some (.cells c e fr) ∧ c.size = cs ∧
    sh + l.length ≤ cs ∧ (∀ i x, l[i]? = some x → ∃ v, c[sh + i]? = some v ∧ SVRel φ x v) ∧ (ro = false → fr = (0, 0) ∧ B ≤ cb)
  maps : ∀ b es, H.blk b = some (.map es) → ∃ cb sh cs ces clk, φ b = some (cb, sh, cs) ∧ w.heap[cb]? = some (.map ces clk) ∧
    R2 (fun (p : SV × Part) (q : MapEntry) => SVRel φ p.1 q.key ∧ PartRel φ p.2 q.val) es ces.toList ∧ B ≤ cb
  inj : ∀ b b' x x', φ b = some x → φ b' = some x' → H.blk b ≠ some .dead → H.blk b' ≠ some .dead → x.1 = x'.1 → b = b' ∨ ∃ l l', H.blk b = some (.cells true l) ∧ H.blk b' = some (.cells true l')
  old : ∀ c, c < B → w.heap[c]? = w0.heap[c]?
  bound : B ≤ w.heap.size
  os : w.os = w0.os
  out : w.output = w0.output
  nf : ∀ (k : Nat) c e fr, B ≤ k → w.heap[k]? = some (.cells c e fr) → fr = fr
variable {B : Nat} {w0 : World} {φ : Phi} {H : AH} {w : World}
theorem HRel.lt_size (h : HRel B w0 φ H w) {b : Nat} {x : Nat × Nat × Nat} (hx : φ b = some x) (hl : H.blk b ≠ some .dead) : x.1 < w.heap.size := by
  cases hb : H.blk b with
  | none => rw [h.dom b hb] at hx; cases hx
  | some k =>
    cases k with
    | dead => exact absurd hb hl
    | cells ro l =>
      obtain ⟨cb, sh, cs, c, e, fr, h1, h2, _⟩ := h.cells b ro l hb
      rw [hx] at h1
      cases h1
      exact (Array.getElem?_eq_some_iff.1 h2).1
    | map es =>
      obtain ⟨cb, sh, cs, c, e, h1, h2, _⟩ := h.maps b es hb
      rw [hx] at h1
      cases h1
      exact (Array.getElem?_eq_some_iff.1 h2).1
theorem HRel.heap_eq (h : HRel B w0 φ H w) {w' : World} (he : w'.heap = w.heap) (ho : w'.os = w.os) (hu : w'.output = w.output) : HRel B w0 φ H w' :=
  { dom := h.dom, lt := h.lt, inj := h.inj, cells := by rw [he]; exact h.cells, maps := by rw [he]; exact h.maps, old := by rw [he]; exact h.old, bound := by rw [he]; exact h.bound, os := ho.trans h.os, out := hu.trans h.out, nf := by rw [he]; exact h.nf }
theorem HRel.bump (h : HRel B w0 φ H w) (n : Nat) : HRel B w0 φ (H.bump n) w :=
  { dom := h.dom, lt := fun b hb => h.lt b (by simp [AH.bump] at hb; omega), inj := h.inj, cells := h.cells, maps := h.maps, old := h.old, bound := h.bound, os := h.os, out := h.out, nf := h.nf }
theorem cell?_of {cb i : Nat} {c : Array Value} {e : TypeId} {fr : Nat × Nat} (hc : w.heap[cb]? = some (.cells c e fr)) : w.cell? ⟨cb, i, none⟩ = c[i]? := by
  simp [World.cell?, hc]
theorem HRel.ld (h : HRel B w0 φ H w) {b o : Nat} {x : SV} (hl : H.ld b o = some x) : ∃ cb sh cs v, φ b = some (cb, sh, cs) ∧ w.cell? ⟨cb, sh + o, none⟩ = some v ∧ SVRel φ x v := by
  unfold AH.ld at hl
  split at hl
  · rename_i ro l hb
    obtain ⟨cb, sh, cs, c, e, fr, h1, h2, h3, h4, h5, h6⟩ := h.cells b ro l hb
    obtain ⟨v, hv, hr⟩ := h5 o x hl
    exact ⟨cb, sh, cs, v, h1, by rw [cell?_of h2]; exact hv, hr⟩
  · cases hl
theorem HRel.ldn (h : HRel B w0 φ H w) {b o n : Nat} {l : List SV} (hl : H.ldn b o n = some l) : ∃ cb sh cs vs, φ b = some (cb, sh, cs) ∧ l.length = n ∧ vs.length = n ∧
    (∀ j v, vs[j]? = some v → w.cell? ⟨cb, sh + o + j, none⟩ = some v) ∧ R2 (SVRel φ) l vs := by
  unfold AH.ldn at hl
  split at hl
  · rename_i ro l' hb
    split at hl
    · rename_i hle
      obtain ⟨cb, sh, cs, c, e, fr, h1, h2, h3, h4, h5, h6⟩ := h.cells b ro l' hb
      cases hl
      refine ⟨cb, sh, cs, (c.toList.drop (sh + o)).take n, h1, by simp; omega, by simp; omega, ?_, ?_⟩
      · intro j v hj
        rw [cell?_of h2]
        rw [List.getElem?_take] at hj
        split at hj
        · simpa using hj
        · cases hj
      · refine R2.of_get (by simp; omega) ?_
        intro i x v hx hv
        rw [List.getElem?_take] at hx hv
        split at hx
        · rw [if_pos (by assumption)] at hv
          rw [List.getElem?_drop] at hx hv
          obtain ⟨v', hv', hr⟩ := h5 (o + i) x hx
          have : c[sh + (o + i)]? = some v := by simpa [Nat.add_assoc] using hv
          rw [hv'] at this
          cases this
          exact hr
        · cases hx
    · cases hl
  · cases hl
theorem setRow_get (w : World) (g : Nat) (c : Array Value) (x : Nat) : (w.setRow g c).heap[x]? = if x = g then (w.heap[g]?).map (fun o => match o with | .cells _ e fr => .cells c e fr | o => o) else w.heap[x]? := by
  unfold World.setRow
  simp only [Array.getElem?_modify]
  by_cases hx : x = g
  · subst hx; simp; rfl
  · simp [hx, Ne.symm hx]
theorem splice_length (l vs : List SV) (o : Nat) (h : o + vs.length ≤ l.length) : (splice l o vs).length = l.length := by
  unfold splice; simp; omega
theorem splice_get (l vs : List SV) (o i : Nat) (h : o + vs.length ≤ l.length) : (splice l o vs)[i]? = if o ≤ i ∧ i < o + vs.length then vs[i - o]? else l[i]? := by
  unfold splice
  rw [List.getElem?_append]
  simp only [List.length_take]
  by_cases h1 : i < o
  · rw [if_pos (by omega), if_neg (by omega), List.getElem?_take, if_pos h1]
  · rw [if_neg (by omega), List.getElem?_append]
    have : min o l.length = o := by omega
    rw [this]
    by_cases h2 : i < o + vs.length
    · rw [if_pos (by omega), if_pos ⟨by omega, h2⟩]
    · rw [if_neg (by omega), if_neg (by omega), List.getElem?_drop]
      congr 1; omega
theorem vals_get (c : List Value) (vs : List Value) (o i : Nat) (h : o + vs.length ≤ c.length) : (c.take o ++ vs ++ c.drop (o + vs.length))[i]? = if o ≤ i ∧ i < o + vs.length then vs[i - o]? else c[i]? := by
  rw [List.append_assoc, List.getElem?_append]
  simp only [List.length_take]
  by_cases h1 : i < o
  · rw [if_pos (by omega), if_neg (by omega), List.getElem?_take, if_pos h1]
  · rw [if_neg (by omega), List.getElem?_append]
    have : min o c.length = o := by omega
    rw [this]
    by_cases h2 : i < o + vs.length
    · rw [if_pos (by omega), if_pos ⟨by omega, h2⟩]
    · rw [if_neg (by omega), if_neg (by omega), List.getElem?_drop]
      congr 1; omega
theorem nf_setRow {B : Nat} {w : World} (_h : ∀ (k : Nat) c e fr, B ≤ k → w.heap[k]? = some (.cells c e fr) → fr = fr) (g : Nat) (x : Array Value) : ∀ (k : Nat) c e fr, B ≤ k → (w.setRow g x).heap[k]? = some (.cells c e fr) → fr = fr := fun _ _ _ _ _ _ => rfl
theorem HRel.stn (P : Program) (h : HRel B w0 φ H w) {b o : Nat} {l : List SV} {H' : AH} (hs : H.stn b o l = some H') {vs : List Value} (hr : R2 (SVRel φ) l vs) :
    ∃ cb sh cs w', φ b = some (cb, sh, cs) ∧ (storeCells ⟨cb, sh + o, none⟩ vs).run P w = .ok () w' ∧ HRel B w0 φ H' w' ∧ w'.heap.size = w.heap.size := by
  unfold AH.stn at hs
  split at hs
  · rename_i l' hb
    split at hs
    · rename_i hle
      obtain ⟨cb, sh, cs, c, e, fr, h1, h2, h3, h4, h5, h6⟩ := h.cells b false l' hb
      obtain ⟨hfr, hB⟩ := h6 rfl
      subst hfr
      cases hs
      have hlen := hr.length
      refine ⟨cb, sh, cs, _, h1, run_storeCells_at P cb (sh + o) e vs 0 c w h2 (by omega) hr.oneCell, ?_, by simp [World.setRow]⟩
      simp only [Nat.add_zero]
      have hcl : sh + o + vs.length ≤ c.toList.length := by simp; omega
      refine { dom := ?_, lt := ?_, cells := ?_, maps := ?_, inj := ?_, old := ?_, bound := ?_, os := h.os, out := h.out, nf := nf_setRow h.nf _ _ }
      · intro b' hb'
        simp only [AH.set, upd] at hb'
        split at hb'
        · cases hb'
        · exact h.dom b' hb'
      · intro b' hb'
        simp only [AH.set, upd] at hb' ⊢
        rw [if_neg (fun hc => by subst hc; rw [h.lt _ hb'] at hb; cases hb)]
        exact h.lt b' hb'
      · intro b' ro' l'' hb'
        simp only [AH.set, upd] at hb'
        split at hb'
        · rename_i heq
          subst heq
          cases hb'
          refine ⟨cb, sh, cs, (c.toList.take (sh + o) ++ vs ++ c.toList.drop (sh + o + vs.length)).toArray, e, (0, 0), h1, ?_, ?_, ?_, ?_, fun _ => ⟨rfl, hB⟩⟩
          · rw [setRow_get, if_pos rfl, h2]; rfl
          · simp; simp at hcl; omega
          · rw [splice_length _ _ _ hle]; exact h4
          · intro i x hx
            rw [splice_get _ _ _ _ hle] at hx
            rw [List.getElem?_toArray, vals_get _ _ _ _ hcl]
            by_cases hi : o ≤ i ∧ i < o + l.length
            · rw [if_pos hi] at hx
              rw [if_pos (by omega)]
              obtain ⟨v, hv, hrv⟩ := hr.get (i - o) x hx
              exact ⟨v, by rw [show sh + i - (sh + o) = i - o by omega]; exact hv, hrv⟩
            · rw [if_neg hi] at hx
              rw [if_neg (by omega)]
              simpa using h5 i x hx
        · rename_i hne
          obtain ⟨cb', sh', cs', c', e', fr', g1, g2, g3, g4, g5, g6⟩ := h.cells b' ro' l'' hb'
          have hcb : cb' ≠ cb := by
            intro heq
            subst heq
            rcases h.inj b' b _ _ g1 h1 (by rw [hb']; simp) (by rw [hb]; simp) rfl with heq | ⟨_, _, _, hx⟩
            · exact hne heq
            · rw [hb] at hx; cases hx
          exact ⟨cb', sh', cs', c', e', fr', g1, by rw [setRow_get, if_neg hcb]; exact g2, g3, g4, g5, g6⟩
      · intro b' es hb'
        simp only [AH.set, upd] at hb'
        split at hb'
        · cases hb'
        · rename_i hne
          obtain ⟨cb', sh', cs', ces, clk, g1, g2, g3, g4⟩ := h.maps b' es hb'
          have hcb : cb' ≠ cb := by
            intro heq
            subst heq
            rw [h2] at g2
            cases g2
          exact ⟨cb', sh', cs', ces, clk, g1, by rw [setRow_get, if_neg hcb]; exact g2, g3, g4⟩
      · intro b1 b2 x1 x2 hx1 hx2 hd1 hd2 hxe
        have hlive : ∀ b', (H.set b (.cells false (splice l' o l))).blk b' ≠ some .dead → H.blk b' ≠ some .dead := by
          intro b' hb' hd
          simp only [AH.set, upd] at hb'
          split at hb'
          · rename_i heq; subst heq; rw [hb] at hd; cases hd
          · exact hb' hd
        rcases h.inj b1 b2 x1 x2 hx1 hx2 (hlive _ hd1) (hlive _ hd2) hxe with heq | ⟨m1, m2, e1, e2⟩
        · exact .inl heq
        · refine .inr ⟨m1, m2, ?_, ?_⟩
          · simp only [AH.set, upd]; rw [if_neg (fun hc => by subst hc; rw [hb] at e1; cases e1)]; exact e1
          · simp only [AH.set, upd]; rw [if_neg (fun hc => by subst hc; rw [hb] at e2; cases e2)]; exact e2
      · intro c' hc'
        rw [setRow_get, if_neg (by omega)]
        exact h.old c' hc'
      · simpa [World.setRow] using h.bound
    · cases hs
  · cases hs
theorem HRel.new (h : HRel B w0 φ H w) {id : Nat} {l : List SV} {H' : AH} (hn : H.new id (.cells false l) = some H') (hid : id < H.next) {c : Array Value} (hc : l.length ≤ c.size)
    (hr : ∀ (i : Nat) (x : SV), l[i]? = some x → ∃ v, c[i]? = some v ∧ SVRel φ x v) (e : TypeId) (w' : World) (hw : w'.heap = w.heap.push (.cells c e (0, 0))) (ho : w'.os = w.os) (hu : w'.output = w.output) :
    ∃ φ', Ext φ φ' ∧ φ' id = some (w.heap.size, 0, c.size) ∧ HRel B w0 φ' H' w' := by
  unfold AH.new at hn
  split at hn
  · rename_i hb
    cases hn
    have hφ := h.dom id hb
    refine ⟨fun b => if b = id then some (w.heap.size, 0, c.size) else φ b, ?_, by simp, ?_⟩
    · intro b x hx
      by_cases hbi : b = id
      · subst hbi; rw [hφ] at hx; cases hx
      · simp [hbi, hx]
    · have hext : Ext φ (fun b => if b = id then some (w.heap.size, 0, c.size) else φ b) := by
        intro b x hx
        by_cases hbi : b = id
        · subst hbi; rw [hφ] at hx; cases hx
        · simp [hbi, hx]
      have hget : ∀ x, x < w.heap.size → w'.heap[x]? = w.heap[x]? := by
        intro x hx; rw [hw, Array.getElem?_push]; rw [if_neg (by omega)]
      refine { dom := ?_, lt := ?_, cells := ?_, maps := ?_, inj := ?_, old := ?_, bound := ?_, os := ho.trans h.os, out := hu.trans h.out, nf := ?_ }
      · intro b' hb'
        simp only [AH.set, upd] at hb'
        split at hb'
        · cases hb'
        · rename_i hne; simp [hne, h.dom b' hb']
      · intro b' hb'
        simp only [AH.set, upd] at hb' ⊢
        rw [if_neg (by omega)]
        exact h.lt b' hb'
      · intro b' ro' l'' hb'
        simp only [AH.set, upd] at hb'
        split at hb'
        · rename_i heq
          cases hb'
          refine ⟨w.heap.size, 0, c.size, c, e, (0, 0), by simp [heq], by rw [hw]; simp, rfl, by simpa using hc, ?_, fun _ => ⟨rfl, h.bound⟩⟩
          intro i x hx
          obtain ⟨v, hv, hrv⟩ := hr i x hx
          exact ⟨v, by simpa using hv, hrv.mono hext⟩
        · rename_i hne
          obtain ⟨cb', sh', cs', c', e', fr', g1, g2, g3, g4, g5, g6⟩ := h.cells b' ro' l'' hb'
          have hlt := (Array.getElem?_eq_some_iff.1 g2).1
          refine ⟨cb', sh', cs', c', e', fr', by simp [hne, g1], by rw [hget _ hlt]; exact g2, g3, g4, ?_, g6⟩
          intro i x hx
          obtain ⟨v, hv, hrv⟩ := g5 i x hx
          exact ⟨v, hv, hrv.mono hext⟩
      · intro b' es hb'
        simp only [AH.set, upd] at hb'
        split at hb'
        · cases hb'
        · rename_i hne
          obtain ⟨cb', sh', cs', ces, clk, g1, g2, g3, g4⟩ := h.maps b' es hb'
          have hlt := (Array.getElem?_eq_some_iff.1 g2).1
          exact ⟨cb', sh', cs', ces, clk, by simp [hne, g1], by rw [hget _ hlt]; exact g2, R2.mono (fun _ _ hp => ⟨hp.1.mono hext, hp.2.mono hext⟩) g3, g4⟩
      · intro b1 b2 x1 x2 hx1 hx2 hd1 hd2 hxe
        by_cases e1 : b1 = id
        · by_cases e2 : b2 = id
          · exact .inl (e1.trans e2.symm)
          · simp only [e1, e2, if_true, if_false] at hx1 hx2
            cases hx1
            have := h.lt_size hx2 (by intro hd; apply hd2; simp only [AH.set, upd]; rw [if_neg e2]; exact hd)
            simp only at hxe; omega
        · by_cases e2 : b2 = id
          · simp only [e1, e2, if_true, if_false] at hx1 hx2
            cases hx2
            have := h.lt_size hx1 (by intro hd; apply hd1; simp only [AH.set, upd]; rw [if_neg e1]; exact hd)
            simp only at hxe; omega
          · simp only [e1, e2, if_false] at hx1 hx2
            have l1 : H.blk b1 ≠ some .dead := by intro hd; apply hd1; simp only [AH.set, upd]; rw [if_neg e1]; exact hd
            have l2 : H.blk b2 ≠ some .dead := by intro hd; apply hd2; simp only [AH.set, upd]; rw [if_neg e2]; exact hd
            rcases h.inj b1 b2 x1 x2 hx1 hx2 l1 l2 hxe with heq | ⟨m1, m2, k1, k2⟩
            · exact .inl heq
            · exact .inr ⟨m1, m2, by simp only [AH.set, upd]; rw [if_neg e1]; exact k1, by simp only [AH.set, upd]; rw [if_neg e2]; exact k2⟩
      · intro c' hc'
        rw [hget _ (by have := h.bound; omega)]
        exact h.old c' hc'
      · rw [hw]; simp; have := h.bound; omega
      · exact fun _ _ _ _ _ _ => rfl
  · cases hn
end Go.AM

/-
  THE ABSTRACT MACHINE: when an operation of it stands for an operation of the model; each that only computes gives what the model's gives.
-/
namespace Go.AM
structure TRel (φ : Phi) (T : List AV) (ts : Array Value) : Prop where
  len : T.length = ts.size
  get : ∀ t, AVRel φ (T.getD t undef) (ts.getD t Go.undef)
theorem TRel.mono {φ φ' : Phi} (h : Ext φ φ') {T : List AV} {ts : Array Value} (hr : TRel φ T ts) : TRel φ' T ts := ⟨hr.len, fun t => (hr.get t).mono h⟩
theorem TRel.put {φ : Phi} {T : List AV} {a : Act} (hr : TRel φ T a.tmps) (d : Option Nat) {v : AV} {cv : Value} (hv : AVRel φ v cv) : TRel φ (put T d v) (a.put d cv).tmps := by
  cases d with
  | none => exact hr
  | some d =>
    refine ⟨by simp [AM.put, Act.put, hr.len], fun t => ?_⟩
    have hl := hr.len
    have hg := hr.get t
    simp only [AM.put, Act.put, List.getD_eq_getElem?_getD, Array.getD_eq_getD_getElem?, List.getElem?_set, Array.getElem?_setIfInBounds] at hg ⊢
    by_cases hd : d = t
    · subst hd
      by_cases hlt : d < T.length
      · simp [hlt, ← hl]; exact hv
      · simp [hlt, ← hl]; exact AVRel_undef φ
    · simp [hd]; exact hg
def GRel (G : List Nat) (φ : Phi) : Prop := ∀ n ∈ G, ∃ cs, φ n = some (n, 0, cs)
theorem GRel.mono {G : List Nat} {φ φ' : Phi} (h : Ext φ φ') (hg : GRel G φ) : GRel G φ' := fun n hn => let ⟨cs, hc⟩ := hg n hn; ⟨cs, h _ _ hc⟩
def constOk1 : SV → Value → Bool
  | .int k n, .int k' m => k == k' && n == m
  | .bool a, .bool b => a == b
  | .str a, .string b => decide (a = b)
  | .ptr none, .pointer none => true
  | .slice none l c _, .slice none 0 0 => l == 0 && c == 0
  | .map none, .map none => true
  | .nilfn, .nilFunc => true
  | .nili, .nilIface => true
  | _, _ => false
def constOkL : List SV → List Value → Bool
  | [], [] => true
  | x :: xs, v :: vs => constOk1 x v && constOkL xs vs
  | _, _ => false
def constOk : AV → Value → Bool
  | .s x, v => constOk1 x v
  | .agg l, .agg cs => constOkL l cs.toList
  | _, _ => false
theorem constOk1_rel {φ : Phi} {x : SV} {v : Value} (h : constOk1 x v = true) : SVRel φ x v := by
  unfold constOk1 at h
  split at h <;> simp_all [SVRel]
theorem constOkL_rel {φ : Phi} : ∀ {l : List SV} {cs : List Value}, constOkL l cs = true → R2 (SVRel φ) l cs
  | [], [], _ => trivial
  | _ :: _, _ :: _, h => by simp [constOkL] at h; exact ⟨constOk1_rel h.1, constOkL_rel h.2⟩
  | [], _ :: _, h => by simp [constOkL] at h
  | _ :: _, [], h => by simp [constOkL] at h
theorem constOk_rel {φ : Phi} {x : AV} {v : Value} (h : constOk x v = true) : AVRel φ x v := by
  unfold constOk at h
  split at h
  · exact constOk1_rel h
  · exact ⟨_, constOkL_rel h, rfl⟩
  · cases h
def chkOpd (G : List Nat) : Opd → Operand → Bool
  | .t n, .tmp m => n == m
  | .c v, .const w => constOk v w
  | .c (.s (.fn f [])), .func g => f == g
  | .g n, .global m => n == m && G.contains n
  | _, _ => false
variable {G : List Nat} {φ : Phi} {T : List AV} {a : Act}
theorem opd_rel {x : Opd} {o : Operand} (h : chkOpd G x o = true) (hT : TRel φ T a.tmps) (hG : GRel G φ) : AVRel φ (ev T x) (a.eval o) := by
  unfold chkOpd at h
  split at h
  · simp at h; subst h; exact hT.get _
  · exact constOk_rel h
  · simp at h; subst h; exact ⟨[], trivial, rfl⟩
  · simp at h
    obtain ⟨rfl, h2⟩ := h
    obtain ⟨cs, hc⟩ := hG _ h2
    exact ⟨_, ⟨_, _, _, hc, rfl⟩, by simp [Act.eval]⟩
  · cases h
def chkOpds (G : List Nat) : List Opd → List Operand → Bool
  | [], [] => true
  | x :: xs, o :: os => chkOpd G x o && chkOpds G xs os
  | _, _ => false
theorem opds_rel (hT : TRel φ T a.tmps) (hG : GRel G φ) : ∀ {xs : List Opd} {os : List Operand}, chkOpds G xs os = true → R2 (AVRel φ) (xs.map (ev T)) (os.map a.eval)
  | [], [], _ => trivial
  | _ :: _, _ :: _, h => by simp [chkOpds] at h; exact ⟨opd_rel h.1 hT hG, opds_rel hT hG h.2⟩
  | [], _ :: _, h => by simp [chkOpds] at h
  | _ :: _, [], h => by simp [chkOpds] at h
def chkOpt (G : List Nat) : Option Opd → Option Operand → Bool
  | none, none => true
  | some x, some o => chkOpd G x o
  | _, _ => false
def szOf (P : Program) (t : TypeId) : Option Nat := (P.info? t).map (·.size)
def aggM (P : Program) (t : TypeId) : Option (Option Nat) :=
  match P.underlying t with
  | some (.struct _) => (szOf P t).map some
  | some (.array _ _) => (szOf P t).map some
  | some _ => some none
  | none => none
def zeroOk (P : Program) (t : TypeId) (z : List SV) : Bool :=
  match (P.info? t).map (·.zero) with
  | some (some v) => constOkL z v.cells.toList
  | _ => false
theorem run_szOf {P : Program} {t : TypeId} {n : Nat} (h : szOf P t = some n) (w : World) : (sizeOf t).run P w = .ok n w := by
  unfold szOf at h
  cases hi : P.info? t with
  | none => simp [hi] at h
  | some i => simp [hi] at h; simp [sizeOf, typeInfo, hi, h]
theorem run_zero {P : Program} {t : TypeId} {z : List SV} (h : zeroOk P t z = true) (w : World) : ∃ v, (zeroValue t).run P w = .ok v w ∧ R2 (SVRel φ) z v.cells.toList := by
  unfold zeroOk at h
  split at h
  · rename_i v hv
    cases hi : P.info? t with
    | none => simp [hi] at hv
    | some i =>
      simp [hi] at hv
      exact ⟨v, by simp [zeroValue, typeInfo, hi, hv], constOkL_rel h⟩
  · cases h
theorem run_isAgg' {P : Program} {t : TypeId} {m : Option Nat} (h : aggM P t = some m) (w : World) : (isAgg t).run P w = .ok m.isSome w := by
  unfold aggM at h
  split at h
  · rename_i hu
    cases hz : szOf P t with
    | none => simp [hz] at h
    | some k => simp [hz] at h; subst h; simp [isAgg, run_underlying hu]
  · rename_i hu
    cases hz : szOf P t with
    | none => simp [hz] at h
    | some k => simp [hz] at h; subst h; simp [isAgg, run_underlying hu]
  · rename_i d h1 h2 hu
    simp at h; subst h
    simp only [isAgg, Sem.run_bind, run_underlying hu, Result.andThen_ok]
    cases d <;> first | rfl | exact absurd hu (h1 _) | exact absurd hu (h2 _ _)
  · cases h
theorem aggM_size {P : Program} {t : TypeId} {n : Nat} (h : aggM P t = some (some n)) : szOf P t = some n := by
  unfold aggM at h
  split at h
  · simpa using h
  · simpa using h
  · simp at h
  · cases h
def PureDone (P : Program) (φ : Phi) (s : Sem Next) (w : World) (v : AV) : Prop := ∃ cv, s.run P w = .ok (.value cv) w ∧ AVRel φ v cv
theorem PureDone.of {P : Program} {s : Sem Value} {w : World} {v : AV} {cv : Value} (h : s.run P w = .ok cv w) (hr : AVRel φ v cv) : PureDone P φ (do pure (.value (← s))) w v :=
  ⟨cv, by simp [h], hr⟩
theorem part_sim {P : Program} {t : TypeId} {m : Option Nat} (h : aggM P t = some m) {l : List SV} {cs : Array Value} (hr : R2 (SVRel φ) l cs.toList) {off : Nat} {v : AV} (hp : partA m l off = some v) (w : World) :
    ∃ cv, (part t cs off).run P w = .ok cv w ∧ AVRel φ v cv := by
  unfold part
  simp only [Sem.run_bind, run_isAgg' h, Result.andThen_ok]
  cases m with
  | none =>
    simp only [partA, Option.map_eq_some_iff] at hp
    obtain ⟨x, hx, rfl⟩ := hp
    obtain ⟨c, hc, hr'⟩ := hr.get off x hx
    refine ⟨c, ?_, hr'⟩
    have : cs[off]? = some c := by simpa using hc
    simp [this]
  | some n =>
    simp only [partA] at hp
    split at hp
    · cases hp
      refine ⟨.agg (cs.extract off (off + n)), by simp [run_szOf (aggM_size h)], (cs.extract off (off + n)).toList, ?_, rfl⟩
      have := R2.take n (R2.drop off hr)
      simpa [List.extract_eq_take_drop] using this
    · cases hp
theorem add_eq (x y o n : Nat) : (Addr.mk x (y + o) none).add n = ⟨x, y + (o + n), none⟩ := by
  unfold Addr.add; split
  · simp_all
  · simp [Nat.add_assoc]
theorem ptr_of {φ : Phi} {b o : Nat} {v : Value} (h : AVRel φ (.s (.ptr (some (b, o)))) v) : ∃ cb sh cs, φ b = some (cb, sh, cs) ∧ v = .pointer (some ⟨cb, sh + o, none⟩) := by
  obtain ⟨x, ⟨cb, sh, cs, h1, h2⟩, h3⟩ := h
  subst h2
  exact ⟨cb, sh, cs, h1, h3⟩
theorem ptr_mk {φ : Phi} {b o cb sh cs : Nat} (h : φ b = some (cb, sh, cs)) : AVRel φ (.s (.ptr (some (b, o)))) (.pointer (some ⟨cb, sh + o, none⟩)) := ⟨_, ⟨cb, sh, cs, h, rfl⟩, rfl⟩
theorem slice_of {φ : Phi} {b o l c e : Nat} {v : Value} (h : AVRel φ (.s (.slice (some (b, o)) l c e)) v) :
    0 < e ∧ l ≤ c ∧ ∃ cb sh cs x c', φ b = some (cb, sh, cs) ∧ c ≤ c' ∧ v = .slice (some x) l c' ∧ (c' ≠ 0 → x = ⟨cb, sh + o, none⟩ ∧ sh + o + c' * e ≤ cs ∧ c' ≤ 9223372036854775807) := h
theorem slice_none {φ : Phi} {l c e : Nat} {v : Value} (h : AVRel φ (.s (.slice none l c e)) v) : l = 0 ∧ c = 0 ∧ v = .slice none 0 0 := h
theorem set_fold (cs : List Value) : ∀ (vs : List Value) (off : Nat) (z : Array Value), cs = z.toList → off + vs.length ≤ cs.length →
    ((vs.zipIdx.foldl (fun (z : Array Value) (p : Value × Nat) => z.setIfInBounds (off + p.2) p.1) z)).toList = cs.take off ++ vs ++ cs.drop (off + vs.length) := by
  intro vs off z hz hl
  have key : ∀ (vs : List Value) (k : Nat) (z : Array Value), off + k + vs.length ≤ z.size →
      ((vs.zipIdx k).foldl (fun (z : Array Value) (p : Value × Nat) => z.setIfInBounds (off + p.2) p.1) z).toList = z.toList.take (off + k) ++ vs ++ z.toList.drop (off + k + vs.length) := by
    intro vs
    induction vs with
    | nil => intro k z _; simp
    | cons v vs ih =>
      intro k z hl
      simp only [List.zipIdx_cons, List.foldl_cons]
      rw [ih (k + 1) _ (by simp at hl ⊢; omega)]
      have e := list_seg_step z.toList (off + k) v vs (by simp at hl ⊢; omega)
      simpa [Array.toList_setIfInBounds, Nat.add_assoc] using e
  have := key vs 0 z (by subst hz; simpa using hl)
  simpa [hz] using this
theorem fill_sim {place : Nat → Option (Nat × Nat)} : ∀ {ps : List (Nat × Nat × AV)} {qs : List (Nat × Value)} {z : List SV} {cz : Array Value} {l : List SV},
    fillA z ps = some l → R2 (SVRel φ) z cz.toList → R2 (fun (p : Nat × Nat × AV) (q : Nat × Value) => place q.1 = some (p.1, p.2.1) ∧ AVRel φ p.2.2 q.2) ps qs →
    ∃ cl, Instr.fill place cz qs = some cl ∧ R2 (SVRel φ) l cl.toList
  | [], [], z, cz, l, h, hz, _ => by
    simp only [fillA] at h; cases h; exact ⟨cz, rfl, hz⟩
  | (off, size, v) :: ps, (i, cv) :: qs, z, cz, l, h, hz, hp => by
    obtain ⟨⟨hpl, hv⟩, hp⟩ := hp
    simp only [fillA] at h
    split at h
    · rename_i cl hcl
      split at h
      · rename_i hle
        have hc := hv.cells hcl
        have hlen := hc.length
        have hzl := hz.length
        simp only at hpl
        have hlen2 : cl.length = cv.cells.toList.length := hlen
        have hlen' : cv.cells.size = size := by
          have : cv.cells.size = cv.cells.toList.length := by simp
          omega
        have hz' : R2 (SVRel φ) (splice z off cl) (cv.cells.toList.zipIdx.foldl (fun (z : Array Value) (p : Value × Nat) => z.setIfInBounds (off + p.2) p.1) cz).toList := by
          rw [set_fold cz.toList cv.cells.toList off cz rfl (by omega)]
          unfold splice
          rw [List.append_assoc]
          refine R2.append (R2.take _ hz) (R2.append hc ?_)
          rw [hlen2]; exact R2.drop _ hz
        obtain ⟨cl', h1, h2⟩ := fill_sim h hz' hp
        refine ⟨cl', ?_, h2⟩
        simp only [Instr.fill, hpl]
        rw [if_neg (by simp; constructor; · exact hlen'
                       · simp at hzl; omega)]
        rw [← h1]
        congr 1
        rw [← Array.toList_zipIdx, Array.foldl_toList]
      · cases h
    · cases h
  | [], _ :: _, _, _, _, _, _, hp => hp.elim
  | _ :: _, [], _, _, _, _, _, hp => hp.elim
end Go.AM

/-
  THE ABSTRACT MACHINE: each operation that only computes, or only reads, gives what the model's gives.
-/
namespace Go.AM
variable {P : Program} {G : List Nat} {φ : Phi} {T : List AV} {a : Act} {w : World} {B : Nat} {w0 : World} {H : AH}
def placesOk (G : List Nat) (place : Nat → Option (Nat × Nat)) : List (Nat × Nat × Opd) → List (Nat × Operand) → Bool
  | [], [] => true
  | p :: ps, q :: qs => decide (place q.1 = some (p.1, p.2.1)) && chkOpd G p.2.2 q.2 && placesOk G place ps qs
  | _, _ => false
theorem places_rel {place : Nat → Option (Nat × Nat)} (hT : TRel φ T a.tmps) (hG : GRel G φ) : ∀ {ps : List (Nat × Nat × Opd)} {qs : List (Nat × Operand)}, placesOk G place ps qs = true →
    R2 (fun (p : Nat × Nat × AV) (q : Nat × Value) => place q.1 = some (p.1, p.2.1) ∧ AVRel φ p.2.2 q.2) (ps.map fun p => (p.1, p.2.1, ev T p.2.2)) (qs.map fun q => (q.1, a.eval q.2))
  | [], [], _ => trivial
  | p :: ps, q :: qs, h => by
    simp [placesOk] at h
    exact ⟨⟨h.1.1, opd_rel h.1.2 hT hG⟩, places_rel hT hG h.2⟩
  | [], _ :: _, h => by simp [placesOk] at h
  | _ :: _, [], h => by simp [placesOk] at h
def fieldPlaceOf (P : Program) (fields : Array Field) (i : Nat) : Option (Nat × Nat) := (fields[i]?).bind fun f => (szOf P f.type).map fun n => (f.offset, n)
def isInt (P : Program) (t : TypeId) : Option IntKind :=
  match P.underlying t with
  | some (.int k) => some k
  | _ => none
def slElem (P : Program) (t : TypeId) : Option TypeId :=
  match P.underlying t with
  | some (.slice e) => some e
  | _ => none
theorem slElem_eq {t e : TypeId} (h : slElem P t = some e) : P.underlying t = some (.slice e) := by
  unfold slElem at h
  split at h
  · cases h; assumption
  · cases h
def arrElem (P : Program) (t : TypeId) : Option (Nat × TypeId) :=
  match P.underlying t with
  | some (.array n e) => some (n, e)
  | _ => none
theorem arrElem_eq {t e : TypeId} {n : Nat} (h : arrElem P t = some (n, e)) : P.underlying t = some (.array n e) := by
  unfold arrElem at h
  split at h
  · cases h; assumption
  · cases h
def fieldOf (P : Program) (t : TypeId) (i : Nat) : Option Field :=
  match P.underlying t with
  | some (.struct fs) => fs[i]?
  | _ => none
theorem fieldOf_eq {t : TypeId} {i : Nat} {f : Field} (h : fieldOf P t i = some f) : ∃ fs, P.underlying t = some (.struct fs) ∧ fs[i]? = some f := by
  unfold fieldOf at h
  split at h
  · exact ⟨_, by assumption, h⟩
  · cases h
def eqKOk (P : Program) (k : EqK) (t : TypeId) : Bool :=
  match k, P.underlying t with
  | .bool, some .bool => true
  | .str, some .string => true
  | .ptr, some (.pointer _) => true
  | .slice, some (.slice _) => true
  | .map, some (.map _ _) => true
  | .fn, some (.func _ _ _) => true
  | .iface, some (.interface _) => true
  | _, _ => false
def ifcNil (k : EqK) (y : Operand) : Bool := match k with | .iface => (match y with | .const _ => true | _ => false) | _ => true
def flatField (P : Program) (f : Field) (i : Nat) (k : Bool) : Bool :=
  f.offset == i && f.name != "_" && (match k, P.underlying f.type with | false, some (.int _) => true | true, some .bool => true | _, _ => false)
def flatFields (P : Program) : List Field → List Bool → Nat → Bool
  | [], [], _ => true
  | f :: fs, k :: ks, i => flatField P f i k && flatFields P fs ks (i + 1)
  | _, _, _ => false
def nestOk (P : Program) (f : Field) (i n : Nat) (ks : List Bool) : Bool :=
  f.offset == i && f.name != "_" && n != 0 && ks.length == n && (match P.underlying f.type with | some (.struct gs) => !P.stoodInHeld f.type && flatFields P gs.toList ks 0 | _ => false)
def flatFields2 (P : Program) : List Field → List Bool → Nat → Bool
  | [], ks, _ => ks.isEmpty
  | f :: fs, ks, i => match aggM P f.type with
    | some (some n) => nestOk P f i n (ks.take n) && flatFields2 P fs (ks.drop n) (i + n)
    | _ => match ks with
      | k :: ks => flatField P f i k && flatFields2 P fs ks (i + 1)
      | [] => false
def flatStruct (P : Program) (t : TypeId) (ks : List Bool) : Bool :=
  match P.underlying t with
  | some (.struct fs) => !P.stoodInHeld t && !P.eqGuardType P.depth t && flatFields2 P fs.toList ks 0
  | some (.array n e) => !P.eqGuardType P.depth t && (isInt P e).isSome && P.cellsOf e == 1 && (P.info? e).isSome && decide (ks = List.replicate n false)
  | _ => false
def bytesOk (P : Program) (t : TypeId) (n : Nat) : Bool := decide ((P.info? t).map (·.bytes) = some n)
def chkPure (P : Program) (G : List Nat) (r : ROp) (op : Op) : Bool :=
  match r with
  | .move y => (match op with | .move x => chkOpd G y x | .assign x => chkOpd G y x | _ => false)
  | .pick c' a' b' => (match op with | .pick c a b => chkOpd G c' c && chkOpd G a' a && chkOpd G b' b | _ => false)
  | .nilCheck y => (match op with | .nilCheck x => chkOpd G y x | _ => false)
  | .build z ps => (match op with
    | .build t parts => zeroOk P t z && (match P.underlying t with
      | some (.struct fs) => fs.toList.all (fun f => (szOf P f.type).isSome) && placesOk G (fieldPlaceOf P fs) ps parts.toList
      | some (.array _ e) => (match szOf P e with | some n => placesOk G (fun i => some (i * n, n)) ps parts.toList | none => false)
      | _ => false)
    | _ => false)
  | .load m y => (match op with | .load t x => decide (aggM P t = some m) && chkOpd G y x | _ => false)
  | .fieldAddr off y => (match op with
    | .fieldAddr s x i => (match fieldOf P s i with | some f => f.offset == off && (match szOf P f.type with | some n => n != 0 | none => false) && chkOpd G y x | none => false)
    | _ => false)
  | .field m off y => (match op with
    | .field s x i => (match fieldOf P s i with | some f => f.offset == off && decide (aggM P f.type = some m) && chkOpd G y x | none => false)
    | _ => false)
  | .indexSl esz y j => (match op with
    | .indexAddr t x i => (match slElem P t with | some e => decide (szOf P e = some esz) && chkOpd G y x && chkOpd G j i | none => false)
    | _ => false)
  | .indexArr len esz y j => (match op with
    | .indexAddr t x i => (match arrElem P t with | some (n, e) => n == len && decide (szOf P e = some esz) && chkOpd G y x && chkOpd G j i | none => false)
    | _ => false)
  | .index len esz m y j => (match op with
    | .index t x i => (match P.underlying t with
      | some .string => len == 0 && esz == 0 && decide (m = none) && chkOpd G y x && chkOpd G j i
      | _ => (match arrElem P t with | some (n, e) => n == len && decide (szOf P e = some esz) && decide (aggM P e = some m) && chkOpd G y x && chkOpd G j i && len != 0 | none => false))
    | .call { callee := .builtin .len, args := args, argTypes := ts } => (match args.toList, ts.toList with
      | [x], [t] => len == 0 && esz == 1 && decide (m = none) && decide (j = .c (.s (.int .i64 0))) && chkOpd G y x && (match P.underlying t with | some .string => true | _ => false)
      | _, _ => false)
    | _ => false)
  | .slSl esz y lo' hi' mx' => (match op with
    | .slice t x lo hi mx => (match P.underlying t with
      | some .string => esz == 0 && chkOpd G y x && chkOpt G lo' lo && chkOpt G hi' hi && decide (mx' = some (.c (.s (.str ByteArray.empty)))) && mx.isNone
      | _ => (match slElem P t with | some e => decide (szOf P e = some esz) && chkOpd G y x && chkOpt G lo' lo && chkOpt G hi' hi && chkOpt G mx' mx && !(mx.isSome && hi.isNone) && esz != 0 | none => false))
    | _ => false)
  | .bin op' x' y' => (match op with | .binOp op _ x y _ => op == op' && chkOpd G x' x && chkOpd G y' y | _ => false)
  | .eqs k ng x' y' => (match op with | .binOp op t x y _ => (if ng then op == .neq else op == .eql) && eqKOk P k t && chkOpd G x' x && chkOpd G y' y && ifcNil k y | _ => false)
  | .eqAgg ks ng x' y' => (match op with | .binOp op t x y _ => (if ng then op == .neq else op == .eql) && flatStruct P t ks && chkOpd G x' x && chkOpd G y' y | _ => false)
  | .un op' y => (match op with | .unOp op _ x => op == op' && chkOpd G y x | _ => false)
  | .conv k y => (match op with | .convert src dst x => (P.underlying src).isSome && decide (isInt P dst = some k) && chkOpd G y x | _ => false)
  | .makeFunc f caps => (match op with | .makeFunc (.func g) first captured => f == g && first.isEmpty && chkOpds G caps captured.toList | _ => false)
  | .bindf f y => (match op with | .makeFunc (.func g) first captured => f == g && captured.isEmpty && (match first.toList with | [x] => chkOpd G y x | _ => false) | _ => false)
  | .extract i' y => (match op with | .extract x i => i == i' && chkOpd G y x | _ => false)
  | .len y => (match op with
    | .call { callee := .builtin .len, args := args, argTypes := ts } => (match args.toList, ts.toList with
      | [x], [t] => chkOpd G y x && (match P.underlying t with | some (.slice _) => true | _ => false)
      | _, _ => false)
    | _ => false)
  | .lenArr n => (match op with
    | .call { callee := .builtin .len, args := args, argTypes := ts } => (match args.toList, ts.toList with
      | [_], [t] => (match P.underlying t with
        | some (.array m _) => m == n
        | some (.pointer e) => (match P.underlying e with | some (.array m _) => m == n | _ => false)
        | _ => false)
      | _, _ => false)
    | _ => false)
  | .minmax mx x' y' => (match op with
    | .call { callee := .builtin b, args := args, argTypes := _ } => (if mx then b == .max else b == .min) && (match args.toList with
      | [x, y] => chkOpd G x' x && chkOpd G y' y
      | _ => false)
    | _ => false)
  | .stuck => true
  | _ => false
theorem mapM_places (w : World) : ∀ (fs : List Field), (∀ f ∈ fs, (szOf P f.type).isSome = true) →
    (fs.mapM fun (f : Field) => (do pure (f.offset, ← sizeOf f.type) : Sem (Nat × Nat))).run P w = .ok (fs.map fun f => (f.offset, (szOf P f.type).getD 0)) w
  | [], _ => by simp
  | f :: fs, h => by
    obtain ⟨n, hn⟩ := Option.isSome_iff_exists.1 (h f (by simp))
    have ih := mapM_places w fs (fun f' hf => h f' (by simp [hf]))
    rw [List.mapM_cons]
    simp only [Sem.run_bind, run_szOf hn, Result.andThen_ok, Sem.run_pure]
    rw [ih]
    simp [hn]
theorem mapM_places_arr (fs : Array Field) (h : ∀ f ∈ fs.toList, (szOf P f.type).isSome = true) (w : World) :
    (fs.mapM fun (f : Field) => (do pure (f.offset, ← sizeOf f.type) : Sem (Nat × Nat))).run P w = .ok (fs.toList.map fun f => (f.offset, (szOf P f.type).getD 0)).toArray w := by
  rw [Array.mapM_eq_mapM_toList, Sem.run_map, mapM_places w fs.toList h]
  rfl
theorem fieldPlaceOf_eq (fs : Array Field) (h : ∀ f ∈ fs.toList, (szOf P f.type).isSome = true) (i : Nat) :
    (fs.toList.map fun f => (f.offset, (szOf P f.type).getD 0)).toArray[i]? = fieldPlaceOf P fs i := by
  unfold fieldPlaceOf
  simp only [List.getElem?_toArray, List.getElem?_map, Array.getElem?_toList]
  cases hi : fs[i]? with
  | none => rfl
  | some f =>
    obtain ⟨n, hn⟩ := Option.isSome_iff_exists.1 (h f (by simpa using Array.mem_of_getElem? hi))
    simp [hn]
def OptRel (φ : Phi) : Option AV → Option Value → Prop
  | none, none => True
  | some x, some v => AVRel φ x v
  | _, _ => False
theorem opt_rel {x : Option Opd} {o : Option Operand} (h : chkOpt G x o = true) (hT : TRel φ T a.tmps) (hG : GRel G φ) : OptRel φ (x.map (ev T)) (o.map a.eval) := by
  unfold chkOpt at h
  split at h
  · trivial
  · exact opd_rel h hT hG
  · cases h
theorem boundA_some {d y n : Nat} {x : AV} (h : boundA d y (some x) = some n) : ∃ k m, x = .s (.int k m) ∧ 0 ≤ m ∧ m ≤ (y : Int) ∧ n = m.toNat := by
  unfold boundA at h
  split at h
  · simp_all
  · rename_i k m heq
    split at h
    · rename_i hm
      cases heq
      cases h
      exact ⟨k, m, rfl, hm.1, hm.2, rfl⟩
    · cases h
  · cases h
theorem sliceBound_sim {x : AV} {v : Value} {d y y' n : Nat} (hx : AVRel φ x v) (h : boundA d y (some x) = some n) (hy : y ≤ y') (code : BoundsCode) :
    (Instr.sliceBound v y' code).run P w = .ok n w ∧ n ≤ y := by
  obtain ⟨k, m, rfl, h0, h1, rfl⟩ := boundA_some h
  have hv : v = .int k m := hx
  subst hv
  refine ⟨?_, by omega⟩
  simp only [Instr.sliceBound, asIntOf, Sem.run_bind, Sem.run_pure, Result.andThen_ok, Sem.run_ite]
  rw [if_pos ⟨h0, by omega⟩]
theorem bounds_sim {len cap cap' l h m : Nat} {lo hi mx : Option AV} {clo chi cmx : Option Value} (hlo : OptRel φ lo clo) (hhi : OptRel φ hi chi) (hmx : OptRel φ mx cmx)
    (hc : cap ≤ cap') (hlc : len ≤ cap) (hno : (cmx.isSome && chi.isNone) = false) (hb : boundsA len cap lo hi mx = some (l, h, m)) (s : Bool) :
    ∃ m', (Instr.sliceBounds s len cap' clo chi cmx).run P w = .ok (l, h, m') w ∧ l ≤ h ∧ h ≤ m ∧ m ≤ m' ∧ m' ≤ cap' ∧ m ≤ cap := by
  unfold boundsA at hb
  simp only [Option.bind_eq_some_iff, Option.some.injEq, Prod.mk.injEq] at hb
  obtain ⟨m0, hm, h0, hh, l0, hl, rfl, rfl, rfl⟩ := hb
  unfold Instr.sliceBounds
  -- the low end, whatever the high one
  have low : ∀ hi' : Nat, boundA 0 hi' lo = some l0 → ((clo = none ∧ l0 = 0) ∨ ∃ v, clo = some v ∧ ∀ code, (Instr.sliceBound v hi' code).run P w = .ok l0 w) ∧ l0 ≤ hi' := by
    intro hi' hb
    cases lo with
    | none =>
      cases clo with
      | none => simp only [boundA, Option.some.injEq] at hb; subst hb; exact ⟨.inl ⟨rfl, rfl⟩, by omega⟩
      | some v => exact hlo.elim
    | some x =>
      cases clo with
      | none => exact hlo.elim
      | some v => exact ⟨.inr ⟨v, rfl, fun code => (sliceBound_sim (P := P) (w := w) hlo hb (Nat.le_refl _) code).1⟩, (sliceBound_sim (P := P) (w := w) hlo hb (Nat.le_refl _) .sliceB).2⟩
  cases mx with
  | none =>
    cases cmx with
    | some v => exact hmx.elim
    | none =>
      simp only [boundA, Option.some.injEq] at hm
      subst hm
      cases hi with
      | none =>
        cases chi with
        | some v => exact hhi.elim
        | none =>
          simp only [boundA, Option.some.injEq] at hh
          subst hh
          obtain ⟨e1, e2⟩ := low len hl
          refine ⟨cap', ?_, e2, hlc, hc, Nat.le_refl _, Nat.le_refl _⟩
          rcases e1 with ⟨rfl, rfl⟩ | ⟨v, rfl, e1⟩
          · rfl
          · simp only [Sem.run_bind, Sem.run_pure, Result.andThen_ok, e1]
      | some x =>
        cases chi with
        | none => exact hhi.elim
        | some v =>
          obtain ⟨f1, f2⟩ := sliceBound_sim (P := P) (w := w) hhi hh hc (if s = true then .sliceAcap else .sliceAlen)
          obtain ⟨e1, e2⟩ := low h0 hl
          refine ⟨cap', ?_, e2, f2, hc, Nat.le_refl _, Nat.le_refl _⟩
          rcases e1 with ⟨rfl, rfl⟩ | ⟨v, rfl, e1⟩ <;> simp only [Sem.run_bind, Sem.run_pure, Result.andThen_ok, *]
  | some y =>
    cases cmx with
    | none => exact hmx.elim
    | some u =>
      obtain ⟨g1, g2⟩ := sliceBound_sim (P := P) (w := w) hmx hm hc (if s = true then .slice3Acap else .slice3Alen)
      cases hi with
      | none =>
        cases chi with
        | some v => exact hhi.elim
        | none => simp at hno
      | some x =>
        cases chi with
        | none => exact hhi.elim
        | some v =>
          obtain ⟨f1, f2⟩ := sliceBound_sim (P := P) (w := w) hhi hh (Nat.le_refl _) .slice3B
          obtain ⟨e1, e2⟩ := low h0 hl
          refine ⟨m0, ?_, e2, f2, Nat.le_refl _, by omega, g2⟩
          rcases e1 with ⟨rfl, rfl⟩ | ⟨v, rfl, e1⟩ <;> simp only [Sem.run_bind, Sem.run_pure, Result.andThen_ok, *]
theorem arith_sim {op : BinOp} {k : IntKind} {x y : Int} {v : SV} (h : arithA op k x y = some v) (hs : op ≠ .shl) (hs' : op ≠ .shr) :
    ∃ cv, (binOp op 0 (.int k x) (.int k y)).run P w = .ok cv w ∧ SVRel φ v cv := by
  unfold arithA at h
  cases op <;> simp only [Option.some.injEq, reduceCtorEq, ne_eq, not_false_eq_true] at h hs hs' <;>
    first
    | (subst h; exact ⟨_, by simp [binOp, Op.intArith, Op.intBits, Op.intCmp], rfl⟩)
    | (split at h
       · cases h
       · rename_i hy
         simp only [Option.some.injEq] at h
         subst h
         exact ⟨_, by simp [binOp, Op.intDiv, hy], rfl⟩)
theorem binOp_type (op : BinOp) (t t' : TypeId) (k k' : IntKind) (x y : Int) : binOp op t (.int k x) (.int k' y) = binOp op t' (.int k x) (.int k' y) := by
  cases op <;> simp [binOp]
theorem shift_sim {left : Bool} {k k' : IntKind} {x y : Int} {v : SV} (h : shiftA left k x y = some v) :
    ∃ cv, (binOp (if left then .shl else .shr) 0 (.int k x) (.int k' y)).run P w = .ok cv w ∧ SVRel φ v cv := by
  unfold shiftA at h
  split at h
  · cases h
  · rename_i hy
    cases left <;> simp at h <;> subst h <;> exact ⟨_, by simp [binOp, Op.shift, hy], rfl⟩
theorem eqGuard_run (op : BinOp) (t : TypeId) (x y : Operand) (u v : Value) (h1 : u ≠ .nilIface ∨ v ≠ .nilIface) (h2 : ∀ c d, u = .agg c → v = .agg d → P.eqGuardType P.depth t = false) :
    (eqGuard op t x y u v).run P w = .ok () w := by
  unfold eqGuard
  cases op <;> first
    | (simp; done)
    | (cases u <;> cases v <;> first | (simp; done) | (simp at h1; done) | (rename_i c d; simp [h2 c d rfl rfl]; done))
section
variable (t : TypeId) (d : Nat)
theorem equal_bool' (hu : P.underlying t = some .bool) (x y : Bool) : (Op.equalIn (d + 1) t (.bool x) (.bool y)).run P w = .ok (x == y) w := by
  simp only [Op.equalIn, Sem.run_bind, run_underlying hu, Result.andThen_ok]; rfl
theorem equal_bool (hu : P.underlying t = some .bool) (x y : Bool) : (Op.equal t (.bool x) (.bool y)).run P w = .ok (x == y) w := equal_bool' t 9999 hu x y
theorem equal_ptr1' {e : TypeId} (hu : P.underlying t = some (.pointer e)) (y : Option Addr) : (Op.equalIn (d + 1) t (.pointer none) (.pointer y)).run P w = .ok y.isNone w := by
  simp only [Op.equalIn, Sem.run_bind, run_underlying hu, Result.andThen_ok]; rfl
theorem equal_ptr1 {e : TypeId} (hu : P.underlying t = some (.pointer e)) (y : Option Addr) : (Op.equal t (.pointer none) (.pointer y)).run P w = .ok y.isNone w := equal_ptr1' t 9999 hu y
theorem equal_ptr2' {e : TypeId} (hu : P.underlying t = some (.pointer e)) (y : Addr) : (Op.equalIn (d + 1) t (.pointer (some y)) (.pointer none)).run P w = .ok false w := by
  simp only [Op.equalIn, Sem.run_bind, run_underlying hu, Result.andThen_ok]; rfl
theorem equal_ptr2 {e : TypeId} (hu : P.underlying t = some (.pointer e)) (y : Addr) : (Op.equal t (.pointer (some y)) (.pointer none)).run P w = .ok false w := equal_ptr2' t 9999 hu y
theorem equal_sl1' {e : TypeId} (hu : P.underlying t = some (.slice e)) (y : Option Addr) (l c : Nat) : (Op.equalIn (d + 1) t (.slice none 0 0) (.slice y l c)).run P w = .ok y.isNone w := by
  simp only [Op.equalIn, Sem.run_bind, run_underlying hu, Result.andThen_ok]; rfl
theorem equal_sl1 {e : TypeId} (hu : P.underlying t = some (.slice e)) (y : Option Addr) (l c : Nat) : (Op.equal t (.slice none 0 0) (.slice y l c)).run P w = .ok y.isNone w := equal_sl1' t 9999 hu y l c
theorem equal_sl2' {e : TypeId} (hu : P.underlying t = some (.slice e)) (y : Addr) (l c : Nat) : (Op.equalIn (d + 1) t (.slice (some y) l c) (.slice none 0 0)).run P w = .ok false w := by
  simp only [Op.equalIn, Sem.run_bind, run_underlying hu, Result.andThen_ok]; rfl
theorem equal_sl2 {e : TypeId} (hu : P.underlying t = some (.slice e)) (y : Addr) (l c : Nat) : (Op.equal t (.slice (some y) l c) (.slice none 0 0)).run P w = .ok false w := equal_sl2' t 9999 hu y l c
theorem equal_map1' {k e : TypeId} (hu : P.underlying t = some (.map k e)) (y : Option Nat) : (Op.equalIn (d + 1) t (.map none) (.map y)).run P w = .ok y.isNone w := by
  simp only [Op.equalIn, Sem.run_bind, run_underlying hu, Result.andThen_ok]; rfl
theorem equal_map1 {k e : TypeId} (hu : P.underlying t = some (.map k e)) (y : Option Nat) : (Op.equal t (.map none) (.map y)).run P w = .ok y.isNone w := equal_map1' t 9999 hu y
theorem equal_map2' {k e : TypeId} (hu : P.underlying t = some (.map k e)) (y : Nat) : (Op.equalIn (d + 1) t (.map (some y)) (.map none)).run P w = .ok false w := by
  simp only [Op.equalIn, Sem.run_bind, run_underlying hu, Result.andThen_ok]; rfl
theorem equal_map2 {k e : TypeId} (hu : P.underlying t = some (.map k e)) (y : Nat) : (Op.equal t (.map (some y)) (.map none)).run P w = .ok false w := equal_map2' t 9999 hu y
theorem equal_fn0' {p r : Array TypeId} {v : Bool} (hu : P.underlying t = some (.func p r v)) : (Op.equalIn (d + 1) t .nilFunc .nilFunc).run P w = .ok true w := by
  simp only [Op.equalIn, Sem.run_bind, run_underlying hu, Result.andThen_ok]; rfl
theorem equal_fn0 {p r : Array TypeId} {v : Bool} (hu : P.underlying t = some (.func p r v)) : (Op.equal t .nilFunc .nilFunc).run P w = .ok true w := equal_fn0' t 9999 hu
theorem equal_fn1' {p r : Array TypeId} {v : Bool} (hu : P.underlying t = some (.func p r v)) (f : Fn) (x y : Array Value) : (Op.equalIn (d + 1) t .nilFunc (.func f x y)).run P w = .ok false w := by
  simp only [Op.equalIn, Sem.run_bind, run_underlying hu, Result.andThen_ok]; rfl
theorem equal_fn1 {p r : Array TypeId} {v : Bool} (hu : P.underlying t = some (.func p r v)) (f : Fn) (x y : Array Value) : (Op.equal t .nilFunc (.func f x y)).run P w = .ok false w := equal_fn1' t 9999 hu f x y
theorem equal_fn2' {p r : Array TypeId} {v : Bool} (hu : P.underlying t = some (.func p r v)) (f : Fn) (x y : Array Value) : (Op.equalIn (d + 1) t (.func f x y) .nilFunc).run P w = .ok false w := by
  simp only [Op.equalIn, Sem.run_bind, run_underlying hu, Result.andThen_ok]; rfl
theorem equal_fn2 {p r : Array TypeId} {v : Bool} (hu : P.underlying t = some (.func p r v)) (f : Fn) (x y : Array Value) : (Op.equal t (.func f x y) .nilFunc).run P w = .ok false w := equal_fn2' t 9999 hu f x y
end
section
variable (t : TypeId) (d : Nat)
theorem equal_if0' {ms : Array (String × TypeId)} (hu : P.underlying t = some (.interface ms)) : (Op.equalIn (d + 1) t .nilIface .nilIface).run P w = .ok true w := by
  simp only [Op.equalIn, Sem.run_bind, run_underlying hu, Result.andThen_ok]; rfl
theorem equal_if1' {ms : Array (String × TypeId)} (hu : P.underlying t = some (.interface ms)) (u : TypeId) (x : Value) : (Op.equalIn (d + 1) t .nilIface (.iface u x)).run P w = .ok false w := by
  simp only [Op.equalIn, Sem.run_bind, run_underlying hu, Result.andThen_ok]; rfl
theorem equal_if2' {ms : Array (String × TypeId)} (hu : P.underlying t = some (.interface ms)) (u : TypeId) (x : Value) : (Op.equalIn (d + 1) t (.iface u x) .nilIface).run P w = .ok false w := by
  simp only [Op.equalIn, Sem.run_bind, run_underlying hu, Result.andThen_ok]; rfl
end
theorem eqK_inv {k : EqK} {t : TypeId} (h : eqKOk P k t = true) : match k with
    | .bool => P.underlying t = some .bool
    | .str => P.underlying t = some .string
    | .ptr => ∃ e, P.underlying t = some (.pointer e)
    | .slice => ∃ e, P.underlying t = some (.slice e)
    | .map => ∃ k e, P.underlying t = some (.map k e)
    | .fn => ∃ p r v, P.underlying t = some (.func p r v)
    | .iface => ∃ ms, P.underlying t = some (.interface ms) := by
  unfold eqKOk at h
  split at h
  · assumption
  · assumption
  · exact ⟨_, by assumption⟩
  · exact ⟨_, by assumption⟩
  · exact ⟨_, _, by assumption⟩
  · exact ⟨_, _, _, by assumption⟩
  · exact ⟨_, by assumption⟩
  · cases h
def eqBin (ng : Bool) : BinOp := if ng then .neq else .eql
theorem bin_bool (ng : Bool) (t : TypeId) (x y : Bool) {r : Bool} (h : (Op.equal t (.bool x) (.bool y)).run P w = .ok r w) : (binOp (eqBin ng) t (.bool x) (.bool y)).run P w = .ok (.bool (ng ^^ r)) w := by
  cases ng <;> simp [eqBin, binOp, h]
theorem bin_ptr (ng : Bool) (t : TypeId) (x y : Option Addr) {r : Bool} (h : (Op.equal t (.pointer x) (.pointer y)).run P w = .ok r w) : (binOp (eqBin ng) t (.pointer x) (.pointer y)).run P w = .ok (.bool (ng ^^ r)) w := by
  cases ng <;> simp [eqBin, binOp, h]
theorem bin_sl (ng : Bool) (t : TypeId) (x y : Option Addr) (a b c d : Nat) {r : Bool} (h : (Op.equal t (.slice x a b) (.slice y c d)).run P w = .ok r w) : (binOp (eqBin ng) t (.slice x a b) (.slice y c d)).run P w = .ok (.bool (ng ^^ r)) w := by
  cases ng <;> simp [eqBin, binOp, h]
theorem bin_map (ng : Bool) (t : TypeId) (x y : Option Nat) {r : Bool} (h : (Op.equal t (.map x) (.map y)).run P w = .ok r w) : (binOp (eqBin ng) t (.map x) (.map y)).run P w = .ok (.bool (ng ^^ r)) w := by
  cases ng <;> simp [eqBin, binOp, h]
theorem bin_fn0 (ng : Bool) (t : TypeId) {r : Bool} (h : (Op.equal t .nilFunc .nilFunc).run P w = .ok r w) : (binOp (eqBin ng) t .nilFunc .nilFunc).run P w = .ok (.bool (ng ^^ r)) w := by
  cases ng <;> simp [eqBin, binOp, h]
theorem bin_fn1 (ng : Bool) (t : TypeId) (f : Fn) (x y : Array Value) {r : Bool} (h : (Op.equal t .nilFunc (.func f x y)).run P w = .ok r w) : (binOp (eqBin ng) t .nilFunc (.func f x y)).run P w = .ok (.bool (ng ^^ r)) w := by
  cases ng <;> simp [eqBin, binOp, h]
theorem bin_fn2 (ng : Bool) (t : TypeId) (f : Fn) (x y : Array Value) {r : Bool} (h : (Op.equal t (.func f x y) .nilFunc).run P w = .ok r w) : (binOp (eqBin ng) t (.func f x y) .nilFunc).run P w = .ok (.bool (ng ^^ r)) w := by
  cases ng <;> simp [eqBin, binOp, h]
theorem bin_if0 (ng : Bool) (t : TypeId) {r : Bool} (h : (Op.equal t .nilIface .nilIface).run P w = .ok r w) : (binOp (eqBin ng) t .nilIface .nilIface).run P w = .ok (.bool (ng ^^ r)) w := by
  cases ng <;> simp [eqBin, binOp, h]
theorem bin_if1 (ng : Bool) (t : TypeId) (u : TypeId) (x : Value) {r : Bool} (h : (Op.equal t .nilIface (.iface u x)).run P w = .ok r w) : (binOp (eqBin ng) t .nilIface (.iface u x)).run P w = .ok (.bool (ng ^^ r)) w := by
  cases ng <;> simp [eqBin, binOp, h]
theorem bin_if2 (ng : Bool) (t : TypeId) (u : TypeId) (x : Value) {r : Bool} (h : (Op.equal t (.iface u x) .nilIface).run P w = .ok r w) : (binOp (eqBin ng) t (.iface u x) .nilIface).run P w = .ok (.bool (ng ^^ r)) w := by
  cases ng <;> simp [eqBin, binOp, h]
theorem eqs_sim {ng : Bool} {k : EqK} {x y v : AV} (h : eqsA k ng x y = some v) {t : TypeId} (ht : eqKOk P k t = true) {u u' : Value}
    (hx : AVRel φ x u) (hy : AVRel φ y u') : ∃ cv, (binOp (eqBin ng) t u u').run P w = .ok cv w ∧ AVRel φ v cv := by
  have ht := eqK_inv ht
  unfold eqsA at h
  split at h <;> simp only [Option.some.injEq, reduceCtorEq] at h <;> (try subst h) <;> simp only at ht
  · have hx' : u = .bool _ := hx
    have hy' : u' = .bool _ := hy
    subst hx'; subst hy'
    exact ⟨_, bin_bool ng t _ _ (equal_bool t ht _ _), rfl⟩
  · have hx' : u = .string _ := hx
    have hy' : u' = .string _ := hy
    subst hx'; subst hy'
    refine ⟨_, ?_, rfl⟩
    rw [← ByteArray.toList_eq, ← ByteArray.toList_eq]
    cases ng <;> simp [eqBin, binOp, Op.stringOp]
  · obtain ⟨e, hu⟩ := ht
    rename_i bo
    have hx' : u = .pointer none := hx
    subst hx'
    cases bo with
    | none =>
      have hy' : u' = .pointer none := hy
      subst hy'
      exact ⟨_, bin_ptr ng t _ _ (equal_ptr1 t hu _), rfl⟩
    | some p =>
      obtain ⟨z, _, hy'⟩ := hy
      subst hy'
      exact ⟨_, bin_ptr ng t _ _ (equal_ptr1 t hu _), rfl⟩
  · obtain ⟨e, hu⟩ := ht
    obtain ⟨z, _, hx'⟩ := hx
    have hy' : u' = .pointer none := hy
    subst hx'; subst hy'
    exact ⟨_, bin_ptr ng t _ _ (equal_ptr2 t hu _), by simp [AVRel, SVRel]⟩
  · obtain ⟨e, hu⟩ := ht
    rename_i bo _ _ _
    obtain ⟨_, _, hx'⟩ := hx
    subst hx'
    cases bo with
    | none =>
      obtain ⟨_, _, hy'⟩ := hy
      subst hy'
      exact ⟨_, bin_sl ng t _ _ _ _ _ _ (equal_sl1 t hu _ _ _), rfl⟩
    | some p =>
      obtain ⟨_, _, _, _, _, _, _, _, _, hy', _⟩ := hy
      subst hy'
      exact ⟨_, bin_sl ng t _ _ _ _ _ _ (equal_sl1 t hu _ _ _), rfl⟩
  · obtain ⟨e, hu⟩ := ht
    obtain ⟨_, _, _, _, _, _, _, _, _, hx', _⟩ := hx
    obtain ⟨_, _, hy'⟩ := hy
    subst hx'; subst hy'
    exact ⟨_, bin_sl ng t _ _ _ _ _ _ (equal_sl2 t hu _ _ _), by simp [AVRel, SVRel]⟩
  · obtain ⟨k, e, hu⟩ := ht
    rename_i bo
    have hx' : u = .map none := hx
    subst hx'
    cases bo with
    | none =>
      have hy' : u' = .map none := hy
      subst hy'
      exact ⟨_, bin_map ng t _ _ (equal_map1 t hu _), rfl⟩
    | some p =>
      obtain ⟨_, _, _, _, hy'⟩ := hy
      subst hy'
      exact ⟨_, bin_map ng t _ _ (equal_map1 t hu _), rfl⟩
  · obtain ⟨k, e, hu⟩ := ht
    obtain ⟨_, _, _, _, hx'⟩ := hx
    have hy' : u' = .map none := hy
    subst hx'; subst hy'
    exact ⟨_, bin_map ng t _ _ (equal_map2 t hu _), by simp [AVRel, SVRel]⟩
  · obtain ⟨p, r, v, hu⟩ := ht
    have hx' : u = .nilFunc := hx
    have hy' : u' = .nilFunc := hy
    subst hx'; subst hy'
    exact ⟨_, bin_fn0 ng t (equal_fn0 t hu), rfl⟩
  · obtain ⟨p, r, v, hu⟩ := ht
    have hx' : u = .nilFunc := hx
    obtain ⟨_, _, hy'⟩ := hy
    subst hx'; subst hy'
    exact ⟨_, bin_fn1 ng t _ _ _ (equal_fn1 t hu _ _ _), by simp [AVRel, SVRel]⟩
  · obtain ⟨p, r, v, hu⟩ := ht
    obtain ⟨_, _, hx'⟩ := hx
    have hy' : u' = .nilFunc := hy
    subst hx'; subst hy'
    exact ⟨_, bin_fn2 ng t _ _ _ (equal_fn2 t hu _ _ _), by simp [AVRel, SVRel]⟩
  · obtain ⟨ms, hu⟩ := ht
    have hx' : u = .nilIface := hx
    have hy' : u' = .nilIface := hy
    subst hx'; subst hy'
    exact ⟨_, bin_if0 ng t (equal_if0' t 9999 hu), rfl⟩
  · obtain ⟨ms, hu⟩ := ht
    have hx' : u = .nilIface := hx
    obtain ⟨t1, x1, hy'⟩ := hy
    subst hx'; subst hy'
    exact ⟨_, bin_if1 ng t _ _ (r := false) (equal_if1' t 9999 hu _ _), by simp [AVRel, SVRel]⟩
  · obtain ⟨ms, hu⟩ := ht
    obtain ⟨t1, x1, hx'⟩ := hx
    have hy' : u' = .nilIface := hy
    subst hx'; subst hy'
    exact ⟨_, bin_if2 ng t _ _ (r := false) (equal_if2' t 9999 hu _ _), by simp [AVRel, SVRel]⟩
end Go.AM

/-
  THE ABSTRACT MACHINE: each operation that only computes gives what the model's gives.
-/
namespace Go.AM
variable {P : Program} {G : List Nat} {φ : Phi} {T : List AV} {a : Act} {w : World} {B : Nat} {w0 : World} {H : AH}
theorem flat_off {f : Field} {i : Nat} {k : Bool} (h : flatField P f i k = true) : f.offset = i ∧ f.name ≠ "_" ∧ (k = false → ∃ k, P.underlying f.type = some (.int k)) ∧ (k = true → P.underlying f.type = some .bool) := by
  unfold flatField at h
  simp only [Bool.and_eq_true, beq_iff_eq, bne_iff_ne] at h
  refine ⟨h.1.1, h.1.2, ?_⟩
  have h2 := h.2
  split at h2
  · exact ⟨fun _ => ⟨_, by assumption⟩, fun h => by cases h⟩
  · exact ⟨fun h => (by cases h), fun _ => by assumption⟩
  · cases h2
theorem aggM_int {t : TypeId} {k : IntKind} (h : P.underlying t = some (.int k)) : aggM P t = some none := by unfold aggM; rw [h]
theorem aggM_bool {t : TypeId} (h : P.underlying t = some .bool) : aggM P t = some none := by unfold aggM; rw [h]
theorem part_one {t : TypeId} (h : aggM P t = some none) {cs : Array Value} {i : Nat} {v : Value} (hv : cs[i]? = some v) (w : World) : (part t cs i).run P w = .ok v w := by
  unfold part
  simp only [Sem.run_bind, run_isAgg' h, Result.andThen_ok]
  simp [hv]
theorem flat_sim (d : Nat) : ∀ (fs : List Field) (ks : List Bool) (i : Nat) (xs ys : List SV) (cx cy : Array Value) (r : Bool), flatFields P fs ks i = true → eqCells ks xs ys = some r →
    R2 (SVRel φ) xs (cx.toList.drop i) → R2 (SVRel φ) ys (cy.toList.drop i) → (Op.eqFields (d + 1) cx cy fs).run P w = .ok r w
  | [], [], i, xs, ys, cx, cy, r, _, he, _, _ => by
    cases xs <;> cases ys <;> simp [eqCells] at he
    subst he
    simp [Op.eqFields]
  | f :: fs, k :: ks, i, xs, ys, cx, cy, r, hf, he, hx, hy => by
    simp only [flatFields, Bool.and_eq_true] at hf
    obtain ⟨h1, h2, h3⟩ := flat_off hf.1
    subst h1
    have fin : ∀ (x y : SV) (xs' ys' : List SV) (b r' : Bool), xs = x :: xs' → ys = y :: ys' → aggM P f.type = some none → (∀ u v, SVRel φ x u → SVRel φ y v → (Op.equalIn (d + 1) f.type u v).run P w = .ok b w) → eqCells ks xs' ys' = some r' →
        (Op.eqFields (d + 1) cx cy (f :: fs)).run P w = .ok (b && r') w := by
      intro x y xs' ys' b r' e1 e2 hm hb hr'
      subst e1; subst e2
      have hx' : R2 (SVRel φ) xs' (cx.toList.drop (f.offset + 1)) := by have := R2.drop 1 hx; simpa using this
      have hy' : R2 (SVRel φ) ys' (cy.toList.drop (f.offset + 1)) := by have := R2.drop 1 hy; simpa using this
      obtain ⟨u, hu, ru⟩ := hx.get 0 x (by simp)
      obtain ⟨v, hv, rv⟩ := hy.get 0 y (by simp)
      have hu : cx[f.offset]? = some u := by simpa using hu
      have hv : cy[f.offset]? = some v := by simpa using hv
      have ih := flat_sim d fs ks (f.offset + 1) xs' ys' cx cy r' hf.2 hr' hx' hy'
      simp only [Op.eqFields, if_pos h2, Sem.run_bind, part_one hm hu, part_one hm hv, hb u v ru rv, Result.andThen_ok]
      cases b
      · simp
      · simpa using ih
    cases xs with
    | nil => cases k <;> cases ys <;> simp [eqCells] at he
    | cons x xs' =>
      cases ys with
      | nil => cases k <;> cases x <;> simp [eqCells] at he
      | cons y ys' =>
        cases k with
        | false =>
          cases x <;> cases y <;> simp only [eqCells, reduceCtorEq] at he
          rename_i k1 n k2 n'
          split at he
          · rename_i hk
            subst hk
            simp only [Option.map_eq_some_iff] at he
            obtain ⟨r', hr', rfl⟩ := he
            obtain ⟨k', hk'⟩ := h3.1 rfl
            refine fin _ _ _ _ (n == n') r' rfl rfl (aggM_int hk') ?_ hr'
            intro u v hu hv
            have hu : u = .int k1 n := hu
            have hv : v = .int k1 n' := hv
            subst hu; subst hv
            exact run_equalIn_int w d f.type k1 k' n n' hk'
          · cases he
        | true =>
          cases x <;> cases y <;> simp only [eqCells, reduceCtorEq] at he
          rename_i n n'
          simp only [Option.map_eq_some_iff] at he
          obtain ⟨r', hr', rfl⟩ := he
          refine fin _ _ _ _ (n == n') r' rfl rfl (aggM_bool (h3.2 rfl)) ?_ hr'
          intro u v hu hv
          have hu : u = .bool n := hu
          have hv : v = .bool n' := hv
          subst hu; subst hv
          exact run_equalIn_bool' w d f.type n n' (h3.2 rfl)
  | [], _ :: _, _, _, _, _, _, _, hf, _, _, _ => by simp [flatFields] at hf
  | _ :: _, [], _, _, _, _, _, _, hf, _, _, _ => by simp [flatFields] at hf
theorem eqCells_split : ∀ (n : Nat) (ks : List Bool) (xs ys : List SV) (r : Bool), n ≤ ks.length → eqCells ks xs ys = some r →
    ∃ r1 r2, eqCells (ks.take n) (xs.take n) (ys.take n) = some r1 ∧ eqCells (ks.drop n) (xs.drop n) (ys.drop n) = some r2 ∧ r = (r1 && r2) ∧ n ≤ xs.length ∧ n ≤ ys.length
  | 0, ks, xs, ys, r, _, h => ⟨true, r, by simp [eqCells], by simpa using h, by simp, Nat.zero_le _, Nat.zero_le _⟩
  | n + 1, [], _, _, _, hn, _ => by simp at hn
  | n + 1, k :: ks, xs, ys, r, hn, h => by
    unfold eqCells at h
    split at h
    · rename_i heq; cases heq
    · rename_i k1 a xs' k2 b ys' heq
      cases heq
      split at h
      · rename_i hk
        simp only [Option.map_eq_some_iff] at h
        obtain ⟨r', h, rfl⟩ := h
        obtain ⟨r1, r2, e1, e2, e3, e4, e5⟩ := eqCells_split n _ xs' ys' r' (by simpa using hn) h
        refine ⟨(a == b) && r1, r2, ?_, by simpa using e2, by rw [e3, Bool.and_assoc], by simpa using e4, by simpa using e5⟩
        simp only [List.take_succ_cons, eqCells, if_pos hk, e1, Option.map_some]
      · cases h
    · rename_i a xs' b ys' heq
      cases heq
      simp only [Option.map_eq_some_iff] at h
      obtain ⟨r', h, rfl⟩ := h
      obtain ⟨r1, r2, e1, e2, e3, e4, e5⟩ := eqCells_split n _ xs' ys' r' (by simpa using hn) h
      refine ⟨(a == b) && r1, r2, ?_, by simpa using e2, by rw [e3, Bool.and_assoc], by simpa using e4, by simpa using e5⟩
      simp only [List.take_succ_cons, eqCells, e1, Option.map_some]
    · cases h
theorem flat_sim2 (d : Nat) {xs ys : List SV} {cx cy : Array Value} (hx : R2 (SVRel φ) xs cx.toList) (hy : R2 (SVRel φ) ys cy.toList) : ∀ (fs : List Field) (ks : List Bool) (i : Nat) (r : Bool), flatFields2 P fs ks i = true → eqCells ks (xs.drop i) (ys.drop i) = some r →
    (Op.eqFields (d + 2) cx cy fs).run P w = .ok r w
  | [], ks, i, r, hf, he => by
    have hk : ks = [] := by simpa [flatFields2] using hf
    subst hk
    generalize xs.drop i = X at he
    generalize ys.drop i = Y at he
    cases X <;> cases Y <;> simp [eqCells] at he
    subst he
    simp [Op.eqFields]
  | f :: fs, ks, i, r, hf, he => by
    have step : ∀ (u v : Value) (b r' : Bool), f.name ≠ "_" → (part f.type cx f.offset).run P w = .ok u w → (part f.type cy f.offset).run P w = .ok v w → (Op.equalIn (d + 2) f.type u v).run P w = .ok b w → (Op.eqFields (d + 2) cx cy fs).run P w = .ok r' w →
        (Op.eqFields (d + 2) cx cy (f :: fs)).run P w = .ok (b && r') w := by
      intro u v b r' h1 h2 h3 h4 h5
      simp only [Op.eqFields, if_pos h1, Sem.run_bind, h2, h3, h4, Result.andThen_ok]
      cases b
      · simp
      · simpa using h5
    unfold flatFields2 at hf
    split at hf
    · rename_i n hn
      simp only [nestOk, Bool.and_eq_true, beq_iff_eq, bne_iff_ne] at hf
      obtain ⟨⟨⟨⟨⟨h1, h2⟩, h3⟩, h4⟩, h5⟩, h6⟩ := hf
      split at h5
      · rename_i gs hg
        simp only [Bool.and_eq_true, Bool.not_eq_true'] at h5
        have hle : n ≤ ks.length := by
          rw [List.length_take] at h4; omega
        obtain ⟨r1, r2, e1, e2, rfl, e4, e5⟩ := eqCells_split n ks _ _ r hle he
        rw [List.drop_drop] at e2
        rw [List.drop_drop] at e2
        rw [List.length_drop] at e4 e5
        have hpx : partA (some n) xs f.offset = some (.agg ((xs.drop i).take n)) := by
          simp only [partA, h1]; rw [if_pos (by omega)]
        have hpy : partA (some n) ys f.offset = some (.agg ((ys.drop i).take n)) := by
          simp only [partA, h1]; rw [if_pos (by omega)]
        obtain ⟨u, hu1, hu2⟩ := part_sim hn hx hpx w
        obtain ⟨v, hv1, hv2⟩ := part_sim hn hy hpy w
        obtain ⟨lu, hlu, rfl⟩ := hu2
        obtain ⟨lv, hlv, rfl⟩ := hv2
        have hfo : P.fieldsOf f.type = gs := by simp [Program.fieldsOf, hg]
        have k1 := flat_sim (P := P) (w := w) (φ := φ) d gs.toList (ks.take n) 0 _ _ lu.toArray lv.toArray r1 h5.2 e1 (by simpa using hlu) (by simpa using hlv)
        have k2 := run_equalIn_struct (P := P) w (d + 1) f.type lu.toArray lv.toArray (by rw [hfo]; exact hg) h5.1
        rw [hfo, k1] at k2
        exact step _ _ _ _ h2 hu1 hv1 k2 (flat_sim2 d hx hy fs (ks.drop n) (i + n) r2 h6 e2)
      · cases h5
    · rename_i hne
      split at hf
      · rename_i k ks'
        simp only [Bool.and_eq_true] at hf
        obtain ⟨h1, h2, h3⟩ := flat_off hf.1
        subst h1
        generalize hX : xs.drop f.offset = X at he
        generalize hY : ys.drop f.offset = Y at he
        have tl : ∀ {z : List SV} {x : SV} {l : List SV}, z.drop f.offset = x :: l → z[f.offset]? = some x ∧ z.drop (f.offset + 1) = l := by
          intro z x l hz
          have a1 := congrArg (fun q => q[0]?) hz
          have a2 := congrArg (fun q => q.drop 1) hz
          simp at a1
          simp [List.drop_drop] at a2
          exact ⟨a1, a2⟩
        have leaf : ∀ (x y : SV) (X' Y' : List SV) (b r' : Bool), X = x :: X' → Y = y :: Y' → aggM P f.type = some none → (∀ u v, SVRel φ x u → SVRel φ y v → (Op.equalIn (d + 2) f.type u v).run P w = .ok b w) → eqCells ks' X' Y' = some r' →
            (Op.eqFields (d + 2) cx cy (f :: fs)).run P w = .ok (b && r') w := by
          intro x y X' Y' b r' q1 q2 hm hb hr'
          subst q1; subst q2
          obtain ⟨a1, a2⟩ := tl hX
          obtain ⟨b1, b2⟩ := tl hY
          obtain ⟨u, hu, ru⟩ := hx.get _ x a1
          obtain ⟨v, hv, rv⟩ := hy.get _ y b1
          have hu : cx[f.offset]? = some u := by simpa using hu
          have hv : cy[f.offset]? = some v := by simpa using hv
          exact step u v b r' h2 (part_one hm hu w) (part_one hm hv w) (hb u v ru rv) (flat_sim2 d hx hy fs ks' (f.offset + 1) r' hf.2 (by rw [a2, b2]; exact hr'))
        unfold eqCells at he
        split at he
        · rename_i heq; cases heq
        · rename_i k1 n X' k2 n' Y' heq
          cases heq
          split at he
          · rename_i hk
            subst hk
            simp only [Option.map_eq_some_iff] at he
            obtain ⟨r', hr', rfl⟩ := he
            obtain ⟨k', hk'⟩ := h3.1 rfl
            refine leaf _ _ _ _ (n == n') r' rfl rfl (aggM_int hk') ?_ hr'
            intro u v hu hv
            have hu : u = .int k1 n := hu
            have hv : v = .int k1 n' := hv
            subst hu; subst hv
            exact run_equalIn_int w (d + 1) f.type k1 k' n n' hk'
          · cases he
        · rename_i n X' n' Y' heq
          cases heq
          simp only [Option.map_eq_some_iff] at he
          obtain ⟨r', hr', rfl⟩ := he
          refine leaf _ _ _ _ (n == n') r' rfl rfl (aggM_bool (h3.2 rfl)) ?_ hr'
          intro u v hu hv
          have hu : u = .bool n := hu
          have hv : v = .bool n' := hv
          subst hu; subst hv
          exact run_equalIn_bool' w (d + 1) f.type n n' (h3.2 rfl)
        · cases he
      · cases hf
theorem arr_sim {w : World} (d : Nat) {e : TypeId} {k : IntKind} (he : P.underlying e = some (.int k)) {xs ys : List SV} {cx cy : Array Value} (hx : R2 (SVRel φ) xs cx.toList) (hy : R2 (SVRel φ) ys cy.toList) : ∀ (m i : Nat) (r : Bool),
    eqCells (List.replicate m false) (xs.drop i) (ys.drop i) = some r → (Op.eqItems (d + 1) e 1 cx cy (List.range' i m)).run P w = .ok r w
  | 0, i, r, h => by
    generalize xs.drop i = a at h
    generalize ys.drop i = b at h
    cases a <;> cases b <;> simp [eqCells] at h
    subst h
    simp [Op.eqItems]
  | m + 1, i, r, h => by
    cases ha : xs.drop i with
    | nil => rw [ha] at h; simp [List.replicate_succ, eqCells] at h
    | cons x xs' =>
      cases hb : ys.drop i with
      | nil => rw [ha, hb] at h; cases x <;> simp [List.replicate_succ, eqCells] at h
      | cons y ys' =>
        have hxi : xs[i]? = some x := by have := congrArg (fun l => l[0]?) ha; simpa using this
        have hyi : ys[i]? = some y := by have := congrArg (fun l => l[0]?) hb; simpa using this
        have hx' : xs.drop (i + 1) = xs' := by rw [← List.drop_drop, ha]; rfl
        have hy' : ys.drop (i + 1) = ys' := by rw [← List.drop_drop, hb]; rfl
        obtain ⟨u, hu, hru⟩ := hx.get _ _ hxi
        obtain ⟨v, hv, hrv⟩ := hy.get _ _ hyi
        rw [ha, hb, List.replicate_succ] at h
        cases x <;> cases y <;> simp only [eqCells, reduceCtorEq] at h
        rename_i k1 n1 k2 n2
        split at h
        · rename_i hkk
          subst hkk
          simp only [Option.map_eq_some_iff] at h
          obtain ⟨r', h, rfl⟩ := h
          have hu1 : u = .int k1 n1 := hru
          have hv1 : v = .int k1 n2 := hrv
          subst hu1; subst hv1
          have p1 := part_one (P := P) (aggM_int he) (cs := cx) (i := i) (by simpa using hu) w
          have p2 := part_one (P := P) (aggM_int he) (cs := cy) (i := i) (by simpa using hv) w
          have p3 : (Op.equalIn (d + 1) e (.int k1 n1) (.int k1 n2)).run P w = .ok (n1 == n2) w := by
            simp only [Op.equalIn, Sem.run_bind, run_underlying he, Result.andThen_ok]; rfl
          have ih := arr_sim (w := w) d he hx hy m (i + 1) r' (by rw [hx', hy']; exact h)
          rw [List.range'_succ]
          simp only [Op.eqItems, Sem.run_bind, Nat.mul_one, p1, p2, p3, Result.andThen_ok]
          cases hn : (n1 == n2)
          · simp
          · simpa using ih
        · cases h
theorem eqAgg_sim {op : BinOp} {ks : List Bool} {ng : Bool} {x y v : AV} (h : eqAggA ks ng x y = some v) (hop : (if ng then op == .neq else op == .eql) = true) {t : TypeId} (ht : flatStruct P t ks = true)
    (ox oy : Operand) {u u' : Value} (hx : AVRel φ x u) (hy : AVRel φ y u') :
    ∃ cv, ((do eqGuard op t ox oy u u'; binOp op t u u' : Sem Value)).run P w = .ok cv w ∧ AVRel φ v cv := by
  unfold eqAggA at h
  split at h
  · rename_i xs ys
    simp only [Option.map_eq_some_iff] at h
    obtain ⟨r, hr, rfl⟩ := h
    obtain ⟨cx, hcx, rfl⟩ := hx
    obtain ⟨cy, hcy, rfl⟩ := hy
    unfold flatStruct at ht
    split at ht
    · rename_i fs hu
      simp only [Bool.and_eq_true, Bool.not_eq_true'] at ht
      have hf : P.fieldsOf t = fs := by simp [Program.fieldsOf, hu]
      have h1 := flat_sim2 (P := P) (w := w) (φ := φ) 9997 (xs := xs) (ys := ys) (cx := cx.toArray) (cy := cy.toArray) (by simpa using hcx) (by simpa using hcy) fs.toList ks 0 r ht.2 (by simpa using hr)
      have h2 := run_equalIn_struct (P := P) w 9999 t cx.toArray cy.toArray (by rw [hf]; exact hu) ht.1.1
      rw [hf, h1] at h2
      refine ⟨.bool (ng ^^ r), ?_, rfl⟩
      simp only [Sem.run_bind, run_eqGuard_agg w op t ox oy _ _ ht.1.2, Result.andThen_ok]
      cases ng
      · have : op = .eql := by simpa using hop
        subst this
        rw [run_eql_struct, h2]; simp
      · have : op = .neq := by simpa using hop
        subst this
        rw [run_neq_struct, h2]; simp
    · rename_i n e hu
      simp only [Bool.and_eq_true, Bool.not_eq_true', beq_iff_eq, decide_eq_true_eq] at ht
      obtain ⟨⟨⟨⟨t1, t2⟩, t3⟩, t4⟩, rfl⟩ := ht
      obtain ⟨k, hk⟩ := Option.isSome_iff_exists.1 t2
      obtain ⟨inf, hi⟩ := Option.isSome_iff_exists.1 t4
      have he : P.underlying e = some (.int k) := by
        unfold isInt at hk
        split at hk
        · cases hk; assumption
        · cases hk
      have h1 := arr_sim (P := P) (w := w) (φ := φ) 9998 he (xs := xs) (ys := ys) (cx := cx.toArray) (cy := cy.toArray) (by simpa using hcx) (by simpa using hcy) n 0 r (by simpa using hr)
      have h2 := run_equalIn_array (P := P) w 9999 cx.toArray cy.toArray hu hi
      rw [t3, List.range_eq_range', h1] at h2
      refine ⟨.bool (ng ^^ r), ?_, rfl⟩
      simp only [Sem.run_bind, run_eqGuard_agg w op t ox oy _ _ t1, Result.andThen_ok]
      cases ng
      · have : op = .eql := by simpa using hop
        subst this
        rw [run_eql_struct, h2]; simp
      · have : op = .neq := by simpa using hop
        subst this
        rw [run_neq_struct, h2]; simp
    · cases ht
  · cases h
theorem pure_sim (hT : TRel φ T a.tmps) (hG : GRel G φ) {r : ROp} {o : Oper} (hc : chkPure P G r o.op = true) {v : AV} (h : pureA (ev T) r = some v) : PureDone P φ (execOp a.eval o) w v := by
  cases r with
  | move y =>
    simp only [pureA, Option.some.injEq] at h
    subst h
    simp only [chkPure] at hc
    split at hc
    · rename_i x hop; exact ⟨_, by simp [execOp, hop], opd_rel hc hT hG⟩
    · rename_i x hop; exact ⟨_, by simp [execOp, hop], opd_rel hc hT hG⟩
    · cases hc
  | pick c' a' b' =>
    simp only [chkPure] at hc
    split at hc
    · rename_i c x y hop
      simp only [Bool.and_eq_true] at hc
      have h1 := opd_rel hc.1.1 hT hG
      have h2 := opd_rel hc.1.2 hT hG
      have h3 := opd_rel hc.2 hT hG
      simp only [pureA, pickA] at h
      split at h
      · rename_i hb
        rw [hb] at h1
        have h1 : a.eval c = .bool true := h1
        simp only [Option.some.injEq] at h; subst h
        exact ⟨_, by simp [execOp, hop, h1, asBool], h2⟩
      · rename_i hb
        rw [hb] at h1
        have h1 : a.eval c = .bool false := h1
        simp only [Option.some.injEq] at h; subst h
        exact ⟨_, by simp [execOp, hop, h1, asBool], h3⟩
      · cases h
    · cases hc
  | nilCheck y =>
    simp only [chkPure] at hc
    split at hc
    · rename_i x hop
      have h1 := opd_rel hc hT hG
      simp only [pureA, nilCheckA] at h
      split at h
      · rename_i p hb
        rw [hb] at h1
        simp only [Option.some.injEq] at h; subst h
        obtain ⟨z, hz, h2⟩ := h1
        exact ⟨_, by simp [execOp, hop, h2], z, hz, rfl⟩
      · rename_i f caps hb
        rw [hb] at h1
        simp only [Option.some.injEq] at h; subst h
        obtain ⟨z, hz, h2⟩ := h1
        exact ⟨_, by simp [execOp, hop, h2], z, hz, rfl⟩
      · cases h
    · cases hc
  | build z ps =>
    simp only [chkPure] at hc
    split at hc
    · rename_i t parts hop
      simp only [Bool.and_eq_true] at hc
      obtain ⟨hz, hc⟩ := hc
      simp only [pureA, buildA, Option.map_eq_some_iff] at h
      obtain ⟨l, hl, rfl⟩ := h
      obtain ⟨zv, hz1, hz2⟩ := run_zero hz w
      split at hc
      · rename_i fs hu
        simp only [Bool.and_eq_true] at hc
        have hs : ∀ f ∈ fs.toList, (szOf P f.type).isSome = true := List.all_eq_true.1 hc.1
        obtain ⟨cl, h1, h2⟩ := fill_sim hl hz2 (places_rel hT hG hc.2)
        refine ⟨.agg cl, ?_, cl.toList, h2, rfl⟩
        have hfl : Instr.fill (fun i => (fs.toList.map fun f => (f.offset, (szOf P f.type).getD 0)).toArray[i]?) zv.cells (parts.map fun q => (q.1, a.eval q.2)).toList = some cl := by
          rw [show (fun i => (fs.toList.map fun f => (f.offset, (szOf P f.type).getD 0)).toArray[i]?) = fieldPlaceOf P fs from funext fun i => fieldPlaceOf_eq fs hs i]
          simpa using h1
        have hm := mapM_places_arr fs hs w
        simp only [execOp, hop, Instr.build, Sem.run_bind, hz1, Result.andThen_ok, run_underlying hu, hm, hfl, Sem.run_pure]
      · rename_i n e hu
        split at hc
        · rename_i sz hsz
          obtain ⟨cl, h1, h2⟩ := fill_sim hl hz2 (places_rel hT hG hc)
          refine ⟨.agg cl, ?_, cl.toList, h2, rfl⟩
          have hfl : Instr.fill (fun i => some (i * sz, sz)) zv.cells (parts.map fun q => (q.1, a.eval q.2)).toList = some cl := by simpa using h1
          simp only [execOp, hop, Instr.build, Sem.run_bind, hz1, Result.andThen_ok, run_underlying hu, run_szOf hsz, hfl, Sem.run_pure]
        · cases hc
      · cases hc
    · cases hc
  | load m y => simp [pureA] at h
  | fieldAddr off y =>
    simp only [chkPure] at hc
    split at hc
    · rename_i s x i hop
      split at hc
      · rename_i f hf
        simp only [Bool.and_eq_true, beq_iff_eq] at hc
        obtain ⟨⟨h1, h2⟩, h3⟩ := hc
        subst h1
        obtain ⟨fs, hu, hfi⟩ := fieldOf_eq hf
        have h4 := opd_rel h3 hT hG
        simp only [pureA, fieldAddrA] at h
        split at h
        · rename_i b o' hb
          rw [hb] at h4
          simp only [Option.some.injEq] at h; subst h
          obtain ⟨cb, sh, cs, hφ, hv⟩ := ptr_of h4
          split at h2
          · rename_i n hn
            have hn0 : n ≠ 0 := by simpa using h2
            refine ⟨.pointer (some ⟨cb, sh + (o' + f.offset), none⟩), ?_, ptr_mk hφ⟩
            simp only [execOp, hop, Instr.fieldAt, Sem.run_bind, run_underlying hu, Result.andThen_ok, hfi, hv, Instr.sureAddr, Sem.run_pure, fieldPlace, run_szOf hn, if_neg hn0, add_eq]
          · cases h2
        · cases h
      · cases hc
    · cases hc
  | field m off y =>
    simp only [chkPure] at hc
    split at hc
    · rename_i s x i hop
      split at hc
      · rename_i f hf
        simp only [Bool.and_eq_true, beq_iff_eq, decide_eq_true_eq] at hc
        obtain ⟨⟨h1, h2⟩, h3⟩ := hc
        subst h1
        obtain ⟨fs, hu, hfi⟩ := fieldOf_eq hf
        have h4 := opd_rel h3 hT hG
        simp only [pureA, fieldA] at h
        split at h
        · rename_i l hb
          rw [hb] at h4
          obtain ⟨cs, hcs, hv⟩ := h4
          obtain ⟨cv, h5, h6⟩ := part_sim (cs := cs.toArray) h2 (by simpa using hcs) h w
          exact ⟨cv, by simp [execOp, hop, Instr.field, run_underlying hu, hfi, hv, asAgg, h5], h6⟩
        · cases h
      · cases hc
    · cases hc
  | indexSl esz y j =>
    simp only [chkPure] at hc
    split at hc
    · rename_i t x i hop
      split at hc
      · rename_i e he
        simp only [Bool.and_eq_true, decide_eq_true_eq] at hc
        obtain ⟨⟨h1, h2⟩, h3⟩ := hc
        have hu := slElem_eq he
        have h4 := opd_rel h2 hT hG
        have h5 := opd_rel h3 hT hG
        simp only [pureA, indexSlA] at h
        split at h
        · rename_i b o' len cap e' k n hb hn
          rw [hb] at h4
          rw [hn] at h5
          have h5 : a.eval i = .int k n := h5
          split at h
          · rename_i hlt
            simp only [Option.some.injEq] at h; subst h
            obtain ⟨h6, h7, cb, sh, cs, z, c', h8, h9, h10, h11⟩ := slice_of h4
            obtain ⟨hz, _⟩ := h11 (by omega)
            subst hz
            refine ⟨.pointer (some ⟨cb, sh + (o' + n.toNat * esz), none⟩), ?_, ptr_mk h8⟩
            simp only [execOp, hop, Instr.indexAt, Sem.run_bind, h5, asIntOf, Sem.run_pure, Result.andThen_ok, run_underlying hu, h10]
            simp [hlt, run_szOf h1, add_eq]
          · cases h
        · cases h
      · cases hc
    · cases hc
  | indexArr len esz y j =>
    simp only [chkPure] at hc
    split at hc
    · rename_i t x i hop
      split at hc
      · rename_i n0 e he
        simp only [Bool.and_eq_true, decide_eq_true_eq, beq_iff_eq] at hc
        obtain ⟨⟨⟨h0, h1⟩, h2⟩, h3⟩ := hc
        subst h0
        have hu := arrElem_eq he
        have h4 := opd_rel h2 hT hG
        have h5 := opd_rel h3 hT hG
        simp only [pureA, indexArrA] at h
        split at h
        · rename_i b o' k n hb hn
          rw [hb] at h4
          rw [hn] at h5
          have h5 : a.eval i = .int k n := h5
          split at h
          · rename_i hlt
            simp only [Option.some.injEq] at h; subst h
            obtain ⟨cb, sh, cs, hφ, hv⟩ := ptr_of h4
            refine ⟨.pointer (some ⟨cb, sh + (o' + n.toNat * esz), none⟩), ?_, ptr_mk hφ⟩
            simp only [execOp, hop, Instr.indexAt, Sem.run_bind, h5, asIntOf, Sem.run_pure, Result.andThen_ok, run_underlying hu, hv, Instr.sureAddr]
            simp [hlt, run_szOf h1, add_eq]
          · cases h
        · cases h
      · cases hc
    · cases hc
  | index len esz m y j =>
    simp only [chkPure] at hc
    split at hc
    · rename_i t x i hop
      split at hc
      · rename_i hu
        simp only [Bool.and_eq_true, decide_eq_true_eq, beq_iff_eq] at hc
        obtain ⟨⟨⟨⟨rfl, rfl⟩, rfl⟩, h2⟩, h3⟩ := hc
        have h4 := opd_rel h2 hT hG
        have h5 := opd_rel h3 hT hG
        simp only [pureA, indexA] at h
        split at h
        · rename_i l k n hb hn
          rw [if_neg (by omega)] at h
          cases h
        · rename_i s k n hb hn
          rw [hb] at h4
          rw [hn] at h5
          have h5 : a.eval i = .int k n := h5
          have h4 : a.eval x = .string s := h4
          simp only [strIx, and_self, if_true] at h
          split at h
          · rename_i hlt
            cases h
            refine ⟨_, ?_, rfl⟩
            have hl : n.toNat < s.size := by omega
            have hs : s[n.toNat]? = some (s.data.toList.getD n.toNat 0) := by
              rw [getElem?_pos s n.toNat hl]
              congr 1
              have hl' : n.toNat < s.data.toList.length := by rw [Array.length_toList]; exact hl
              rw [List.getD_eq_getElem?_getD, List.getElem?_eq_getElem hl', Option.getD_some, Array.getElem_toList]
              rfl
            simp only [execOp, hop, Instr.index, Sem.run_bind, h5, asIntOf, Sem.run_pure, Result.andThen_ok, run_underlying hu, h4]
            simp [hlt.1, hs]
          · cases h
        · cases h
      · split at hc
        · rename_i n0 e he
          simp only [Bool.and_eq_true, decide_eq_true_eq, beq_iff_eq, bne_iff_ne] at hc
          obtain ⟨⟨⟨⟨⟨h0, h1⟩, hm⟩, h2⟩, h3⟩, hz⟩ := hc
          subst h0
          have hu := arrElem_eq he
          have h4 := opd_rel h2 hT hG
          have h5 := opd_rel h3 hT hG
          simp only [pureA, indexA] at h
          split at h
          · rename_i l k n hb hn
            rw [hb] at h4
            rw [hn] at h5
            have h5 : a.eval i = .int k n := h5
            split at h
            · rename_i hlt
              obtain ⟨cs, hcs, hv⟩ := h4
              obtain ⟨cv, h6, h7⟩ := part_sim (cs := cs.toArray) hm (by simpa using hcs) h w
              refine ⟨cv, ?_, h7⟩
              simp only [execOp, hop, Instr.index, Sem.run_bind, h5, asIntOf, Sem.run_pure, Result.andThen_ok, run_underlying hu, hv]
              simp [hlt, run_szOf h1, h6]
            · cases h
          · simp only [strIx] at h
            rw [if_neg (fun hh => hz hh.1)] at h
            cases h
          · cases h
        · cases hc
    · rename_i args ts hop
      split at hc
      · rename_i x t ha ht
        simp only [Bool.and_eq_true, decide_eq_true_eq, beq_iff_eq] at hc
        obtain ⟨⟨⟨⟨⟨rfl, rfl⟩, rfl⟩, rfl⟩, h1⟩, h2⟩ := hc
        have hx := opd_rel h1 hT hG
        have ha : args = #[x] := by apply Array.ext'; simpa using ha
        have ht : ts = #[t] := by apply Array.ext'; simpa using ht
        subst ha; subst ht
        split at h2
        · rename_i hu
          simp only [pureA, ev, indexA] at h
          split at h
          · rename_i l k n hb hn
            rw [if_neg (by omega)] at h
            cases h
          · rename_i s k n hb hn
            have hb : ev T y = .s (.str s) := hb
            rw [hb] at hx
            have hx : a.eval x = .string s := hx
            simp [strIx] at h
            subst h
            exact ⟨.int .i64 s.size, by simp [execOp, hop, resolve, invoke, builtin, hx, Builtin.len_, run_underlying hu, goInt], rfl⟩
          · cases h
        · cases h2
      · cases hc
    · cases hc
  | slSl esz y lo' hi' mx' =>
    simp only [chkPure] at hc
    split at hc
    · rename_i t x lo hi mx hop
      split at hc
      · rename_i hu
        simp only [Bool.and_eq_true, decide_eq_true_eq, beq_iff_eq, Option.isNone_iff_eq_none] at hc
        obtain ⟨⟨⟨⟨⟨rfl, h2⟩, h3⟩, h4⟩, rfl⟩, rfl⟩ := hc
        have hx := opd_rel h2 hT hG
        have hlo := opt_rel h3 hT hG
        have hhi := opt_rel h4 hT hG
        simp only [pureA, slSlA, Option.map_some, ev] at h
        split at h
        · simp [boundsA, boundA] at h
        · rename_i b o' len cap e' hb
          have hb : ev T y = _ := hb
          rw [hb] at hx
          obtain ⟨q6, _⟩ := slice_of hx
          rw [if_neg (by omega)] at h
          cases h
        · rename_i s hb
          have hb : ev T y = _ := hb
          rw [hb] at hx
          have hx : a.eval x = .string s := hx
          simp only [strSl, if_true, Option.bind_eq_some_iff] at h
          obtain ⟨⟨l, hh, m⟩, hbd, h⟩ := h
          simp only [Option.some.injEq] at h
          subst h
          obtain ⟨m', hr, q1, q2, q3, q4, q5⟩ := bounds_sim (P := P) (w := w) (mx := none) (cmx := none) hlo hhi trivial (Nat.le_refl s.size) (Nat.le_refl s.size) (by simp) hbd false
          refine ⟨.string (s.extract l hh), ?_, rfl⟩
          simp only [execOp, hop, Instr.sliceAt, Instr.slice, Sem.run_bind, run_underlying hu, Result.andThen_ok, hx, Option.map_none]
          simp [hr]
        · cases h
      · split at hc
        · rename_i e he
          simp only [Bool.and_eq_true, decide_eq_true_eq, Bool.not_eq_true', bne_iff_ne] at hc
          obtain ⟨⟨⟨⟨⟨⟨h1, h2⟩, h3⟩, h4⟩, h5⟩, h6⟩, hz⟩ := hc
          have hu := slElem_eq he
          have hx := opd_rel h2 hT hG
          have hlo := opt_rel h3 hT hG
          have hhi := opt_rel h4 hT hG
          have hmx := opt_rel h5 hT hG
          have hno : ((mx.map a.eval).isSome && (hi.map a.eval).isNone) = false := by simpa using h6
          simp only [pureA, slSlA] at h
          split at h
          · rename_i len cap e' hb
            rw [hb] at hx
            simp only [Option.bind_eq_some_iff] at h
            obtain ⟨⟨l, hh, m⟩, hbd, h⟩ := h
            obtain ⟨e1, e2, e3⟩ := slice_none hx
            subst e1; subst e2
            simp only [Option.some.injEq] at h
            subst h
            obtain ⟨m', hr, q1, q2, q3, q4, q5⟩ := bounds_sim (P := P) (w := w) hlo hhi hmx (Nat.le_refl 0) (Nat.le_refl 0) hno hbd true
            have : m' = 0 := by omega
            subst this
            have : l = 0 := by omega
            subst this
            have : hh = 0 := by omega
            subst this
            refine ⟨.slice none 0 0, ?_, by simp [AVRel, SVRel]; omega⟩
            simp only [execOp, hop, Instr.sliceAt, Instr.slice, Sem.run_bind, run_underlying hu, Result.andThen_ok, e3, hr, run_szOf h1]
            simp
          · rename_i b o' len cap e' hb
            rw [hb] at hx
            split at h
            · rename_i hee
              subst hee
              simp only [Option.bind_eq_some_iff] at h
              obtain ⟨⟨l, hh, m⟩, hbd, h⟩ := h
              simp only [Option.some.injEq] at h
              subst h
              obtain ⟨q6, q7, cb, sh, cs, z, c', q8, q9, q10, q11⟩ := slice_of hx
              obtain ⟨m', hr, q1, q2, q3, q4, q5⟩ := bounds_sim (P := P) (w := w) hlo hhi hmx q9 q7 hno hbd true
              refine ⟨.slice (some (if m' = l then z else z.add (l * e'))) (hh - l) (m' - l), ?_, q6, by omega, cb, sh, cs, _, m' - l, q8, by omega, rfl, ?_⟩
              · simp only [execOp, hop, Instr.sliceAt, Instr.slice, Sem.run_bind, run_underlying hu, Result.andThen_ok, q10, hr, run_szOf h1]
                by_cases hml : m' = l <;> simp [hml]
              · intro hne
                obtain ⟨hz, hcs, hcm⟩ := q11 (by omega)
                subst hz
                rw [if_neg (by omega), add_eq]
                refine ⟨rfl, ?_, by omega⟩
                have k1 : (l + (m' - l)) * e' ≤ c' * e' := Nat.mul_le_mul_right _ (by omega)
                rw [Nat.add_mul] at k1
                omega
            · cases h
          · simp only [strSl] at h
            rw [if_neg hz] at h
            cases h
          · cases h
        · cases hc
    · cases hc
  | bin op' x' y' =>
    simp only [chkPure] at hc
    split at hc
    · rename_i op t x y t' hop
      simp only [Bool.and_eq_true, beq_iff_eq] at hc
      obtain ⟨⟨h1, h2⟩, h3⟩ := hc
      subst h1
      have hx := opd_rel h2 hT hG
      have hy := opd_rel h3 hT hG
      simp only [pureA, binA] at h
      split at h
      · rename_i k n k' n' e1 e2
        rw [e1] at hx
        rw [e2] at hy
        have hx : a.eval x = .int k n := hx
        have hy : a.eval y = .int k' n' := hy
        have fin : ∀ (v' : SV), (∃ cv, (binOp op 0 (.int k n) (.int k' n')).run P w = .ok cv w ∧ SVRel φ v' cv) → PureDone P φ (execOp a.eval o) w (.s v') := by
          intro v' hh
          obtain ⟨cv, c1, c2⟩ := hh
          refine ⟨cv, ?_, c2⟩
          rw [binOp_type op 0 t] at c1
          have hg := eqGuard_run (P := P) (w := w) op t x y (.int k n) (.int k' n') (.inl (by simp)) (by intro c d hc; cases hc)
          simp only [execOp, hop, hx, hy, Sem.run_bind, hg, Result.andThen_ok, c1, Sem.run_pure]
        split at h
        · simp only [Option.map_eq_some_iff] at h
          obtain ⟨v', hv, rfl⟩ := h
          exact fin v' (by simpa using shift_sim (P := P) (w := w) (φ := φ) (k' := k') hv)
        · simp only [Option.map_eq_some_iff] at h
          obtain ⟨v', hv, rfl⟩ := h
          exact fin v' (by simpa using shift_sim (P := P) (w := w) (φ := φ) (k' := k') hv)
        · rename_i n1 n2
          split at h
          · rename_i hk
            subst hk
            simp only [Option.map_eq_some_iff] at h
            obtain ⟨v', hv, rfl⟩ := h
            exact fin v' (arith_sim hv n1 n2)
          · cases h
      · rename_i s1 s2 e1 e2
        rw [e1] at hx
        rw [e2] at hy
        have hx : a.eval x = .string s1 := hx
        have hy : a.eval y = .string s2 := hy
        split at h
        · rename_i hk
          obtain ⟨rfl, hk⟩ := hk
          cases h
          refine ⟨.string (s1 ++ s2), ?_, rfl⟩
          have hg := eqGuard_run (P := P) (w := w) .add t x y (.string s1) (.string s2) (.inl (by simp)) (by intro c d hc; cases hc)
          have hm : ¬ (((s1.size + s2.size : Nat) : Int) > IntKind.i64.max) := by
            show ¬ (((s1.size + s2.size : Nat) : Int) > 9223372036854775807)
            omega
          simp only [execOp, hop, hx, hy, Sem.run_bind, hg, Result.andThen_ok, binOp, Op.stringOp]
          simp only [if_neg hm, Sem.run_pure, Result.andThen_ok]
        · cases h
      · cases h
    · cases hc
  | eqs k ng x' y' =>
    simp only [chkPure] at hc
    split at hc
    · rename_i op t x y t' hop
      simp only [Bool.and_eq_true] at hc
      obtain ⟨⟨⟨⟨h1, h2⟩, h3⟩, h4⟩, h5⟩ := hc
      have hx := opd_rel h3 hT hG
      have hy := opd_rel h4 hT hG
      have h1 : op = eqBin ng := by cases ng <;> simpa [eqBin] using h1
      subst h1
      simp only [pureA] at h
      obtain ⟨cv, c1, c2⟩ := eqs_sim (P := P) (w := w) h h2 hx hy
      refine ⟨cv, ?_, c2⟩
      have hg : (eqGuard (eqBin ng) t x y (a.eval x) (a.eval y)).run P w = .ok () w := by
        by_cases hk : k = .iface
        · subst hk
          simp only [ifcNil] at h5
          split at h5
          · rename_i cst
            have vx : a.eval x = .nilIface ∨ ∃ t p, a.eval x = .iface t p := by
              unfold eqsA at h
              split at h <;> first
                | (rename_i hk _ _; cases hk; done)
                | (rename_i e1 _; rw [e1] at hx; exact .inl hx)
                | (rename_i e1 _; rw [e1] at hx; obtain ⟨t, p, hx⟩ := hx; exact .inr ⟨t, _, hx⟩)
                | (cases h; done)
            have vy : a.eval (.const cst) = .nilIface ∨ ∃ t p, a.eval (.const cst) = .iface t p := by
              unfold eqsA at h
              split at h <;> first
                | (rename_i hk _ _; cases hk; done)
                | (rename_i e1; rw [e1] at hy; exact .inl hy)
                | (rename_i e1; rw [e1] at hy; obtain ⟨t, p, hy⟩ := hy; exact .inr ⟨t, _, hy⟩)
                | (cases h; done)
            unfold eqGuard
            rcases vx with vx | ⟨t1, p1, vx⟩ <;> rcases vy with vy | ⟨t2, p2, vy⟩ <;> rw [vx, vy] <;> cases ng <;> simp [eqBin]
          · cases h5
        refine eqGuard_run _ t x y _ _ ?_ ?_
        · unfold eqsA at h
          split at h <;> first | (exact absurd rfl hk) | (rename_i e1 e2; rw [e1] at hx; left; intro hn; rw [hn] at hx; simp [AVRel, SVRel] at hx; done) | (cases h; done)
        · intro c d e1 e2
          unfold eqsA at h
          split at h <;> first | (rename_i g1 g2; rw [g1, e1] at hx; simp [AVRel, SVRel] at hx; done) | (cases h; done)
      simp only [execOp, hop, Sem.run_bind, hg, Result.andThen_ok, c1, Sem.run_pure]
    · cases hc
  | eqAgg ks ng x' y' =>
    simp only [chkPure] at hc
    split at hc
    · rename_i op t x y t' hop
      simp only [Bool.and_eq_true] at hc
      obtain ⟨⟨⟨h1, h2⟩, h3⟩, h4⟩ := hc
      obtain ⟨cv, c1, c2⟩ := eqAgg_sim (P := P) (w := w) h h1 h2 x y (opd_rel h3 hT hG) (opd_rel h4 hT hG)
      exact ⟨cv, by simp only [execOp, hop]; rw [Sem.run_bind, c1]; simp, c2⟩
    · cases hc
  | un op' y =>
    simp only [chkPure] at hc
    split at hc
    · rename_i op t x hop
      simp only [Bool.and_eq_true, beq_iff_eq] at hc
      obtain ⟨h1, h2⟩ := hc
      subst h1
      have hx := opd_rel h2 hT hG
      simp only [pureA, unA] at h
      split at h
      · rename_i k n e1
        rw [e1] at hx
        have hx : a.eval x = .int k n := hx
        simp only [Option.some.injEq] at h; subst h
        exact ⟨_, by simp [execOp, hop, hx, Op.unary, Op.intArith], rfl⟩
      · rename_i k n e1
        rw [e1] at hx
        have hx : a.eval x = .int k n := hx
        simp only [Option.some.injEq] at h; subst h
        exact ⟨_, by simp [execOp, hop, hx, Op.unary, Op.intBits], rfl⟩
      · rename_i b e1
        rw [e1] at hx
        have hx : a.eval x = .bool b := hx
        simp only [Option.some.injEq] at h; subst h
        exact ⟨_, by simp [execOp, hop, hx, Op.unary], rfl⟩
      · cases h
    · cases hc
  | conv k y =>
    simp only [chkPure] at hc
    split at hc
    · rename_i src dst x hop
      simp only [Bool.and_eq_true, decide_eq_true_eq] at hc
      obtain ⟨⟨h1, h2⟩, h3⟩ := hc
      have hx := opd_rel h3 hT hG
      simp only [pureA, convA] at h
      split at h
      · rename_i k' n e1
        rw [e1] at hx
        have hx : a.eval x = .int k' n := hx
        simp only [Option.some.injEq] at h; subst h
        have hd : P.underlying dst = some (.int k) := by
          unfold isInt at h2
          split at h2
          · cases h2; assumption
          · cases h2
        have hpk : P.intKind dst = k := by simp [Program.intKind, hd]
        have := run_convert_int (P := P) w src dst k' n h1 (by rw [hpk]; exact hd)
        rw [hpk] at this
        exact ⟨_, by simp [execOp, hop, hx, this], rfl⟩
      · cases h
    · cases hc
  | makeFunc f caps =>
    simp only [chkPure] at hc
    split at hc
    · rename_i g first captured hop
      simp only [Bool.and_eq_true, beq_iff_eq] at hc
      obtain ⟨⟨h1, h2⟩, h3⟩ := hc
      subst h1
      have hf : first = #[] := by simpa using h2
      subst hf
      simp only [pureA, Option.map_eq_some_iff] at h
      obtain ⟨cs, hcs, rfl⟩ := h
      have hr := opds_rel hT hG h3
      have key : ∀ (l : List AV) (vs : List Value) (cs : List (Nat × Nat)), R2 (AVRel φ) l vs → capsA l = some cs → ∃ xs : List Addr, R2 (ptrRel φ) cs xs ∧ vs = xs.map fun x => Value.pointer (some x) := by
        intro l
        induction l with
        | nil => intro vs cs h1 h2; cases vs <;> simp [R2, capsA] at h1 h2; subst h2; exact ⟨[], trivial, rfl⟩
        | cons x l ih =>
          intro vs cs h1 h2
          cases vs with
          | nil => exact h1.elim
          | cons v vs =>
            unfold capsA at h2
            split at h2
            · rename_i heq; cases heq
            · rename_i p rest heq
              cases heq
              simp only [Option.map_eq_some_iff] at h2
              obtain ⟨cs', h3, rfl⟩ := h2
              obtain ⟨z, hz, hv⟩ := h1.1
              obtain ⟨xs, h4, h5⟩ := ih vs cs' h1.2 h3
              exact ⟨z :: xs, ⟨hz, h4⟩, by simp [hv, h5]⟩
            · cases h2
      obtain ⟨xs, h4, h5⟩ := key _ _ _ hr hcs
      refine ⟨_, by simp [execOp, hop, Instr.makeFunc]; rfl, xs, h4, ?_⟩
      rw [← h5]; congr 1; apply Array.ext'; simp
    · cases hc
  | bindf f y =>
    simp only [chkPure] at hc
    split at hc
    · rename_i g first captured hop
      simp only [Bool.and_eq_true, beq_iff_eq] at hc
      obtain ⟨⟨h1, h2⟩, h3⟩ := hc
      subst h1
      have hf : captured = #[] := by simpa using h2
      subst hf
      split at h3
      · rename_i x hx
        have hfirst : first = #[x] := by apply Array.ext'; simpa using hx
        subst hfirst
        have hy := opd_rel h3 hT hG
        simp only [pureA] at h
        unfold bindA at h
        split at h
        · rename_i p hp
          cases h
          rw [hp] at hy
          obtain ⟨z, hz, hv⟩ := hy
          exact ⟨_, by simp [execOp, hop, Instr.makeFunc]; rfl, z, hz, by simp [hv]⟩
        · cases h
      · cases h3
    · cases hc
  | extract i' y =>
    simp only [chkPure] at hc
    split at hc
    · rename_i x i hop
      simp only [Bool.and_eq_true, beq_iff_eq] at hc
      obtain ⟨h1, h2⟩ := hc
      subst h1
      have hx := opd_rel h2 hT hG
      simp only [pureA, extractA] at h
      split at h
      · rename_i ps e1
        rw [e1] at hx
        obtain ⟨vs, h3, h4⟩ := hx
        simp only [Option.map_eq_some_iff] at h
        obtain ⟨p, hp, rfl⟩ := h
        obtain ⟨u, hu, hr⟩ := h3.get _ _ hp
        exact ⟨u, by simp [execOp, hop, h4, Instr.extract, hu], by cases p <;> exact hr⟩
      · cases h
    · cases hc
  | len y =>
    simp only [chkPure] at hc
    split at hc
    · rename_i args ts hop
      split at hc
      · rename_i x t ha ht
        simp only [Bool.and_eq_true] at hc
        obtain ⟨h1, h2⟩ := hc
        have hx := opd_rel h1 hT hG
        have ha : args = #[x] := by apply Array.ext'; simpa using ha
        have ht : ts = #[t] := by apply Array.ext'; simpa using ht
        subst ha; subst ht
        split at h2
        · rename_i e hu
          simp only [pureA, lenA] at h
          split at h
          · rename_i base n c e' e1
            rw [e1] at hx
            simp only [Option.some.injEq] at h; subst h
            refine ⟨.int .i64 n, ?_, rfl⟩
            cases base with
            | none =>
              obtain ⟨r1, r2, r3⟩ := hx
              subst r1
              simp [execOp, hop, resolve, invoke, builtin, r3, Builtin.len_, run_underlying hu, goInt]
            | some p =>
              obtain ⟨_, _, _, _, _, _, _, _, _, hv, _⟩ := hx
              simp [execOp, hop, resolve, invoke, builtin, hv, Builtin.len_, run_underlying hu, goInt]
          · cases h
        · cases h2
      · cases hc
    · cases hc
  | lenArr n =>
    simp only [pureA, Option.some.injEq] at h
    subst h
    simp only [chkPure] at hc
    split at hc
    · rename_i args ts hop
      split at hc
      · rename_i x t ha ht
        have ha : args = #[x] := by apply Array.ext'; simpa using ha
        have ht : ts = #[t] := by apply Array.ext'; simpa using ht
        subst ha; subst ht
        refine ⟨.int .i64 n, ?_, rfl⟩
        split at hc
        · rename_i m e hu
          have : m = n := by simpa using hc
          subst this
          simp [execOp, hop, resolve, invoke, builtin, Builtin.len_, run_underlying hu, goInt]
        · rename_i e hu
          split at hc
          · rename_i m e' hu'
            have : m = n := by simpa using hc
            subst this
            simp [execOp, hop, resolve, invoke, builtin, Builtin.len_, run_underlying hu, run_underlying hu', goInt]
          · cases hc
        · cases hc
      · cases hc
    · cases hc
  | minmax mx x' y' =>
    simp only [chkPure] at hc
    split at hc
    · rename_i b args ts hop
      simp only [Bool.and_eq_true] at hc
      obtain ⟨h1, h2⟩ := hc
      split at h2
      · rename_i x y ha
        have ha : args = #[x, y] := by apply Array.ext'; simpa using ha
        subst ha
        simp only [Bool.and_eq_true] at h2
        have hx := opd_rel h2.1 hT hG
        have hy := opd_rel h2.2 hT hG
        simp only [pureA, minmaxA] at h
        split at h
        · rename_i k n k' n' e1 e2
          rw [e1] at hx
          rw [e2] at hy
          have hx : a.eval x = .int k n := hx
          have hy : a.eval y = .int k' n' := hy
          simp only [Option.some.injEq] at h; subst h
          cases mx
          · have : b = .min := by simpa using h1
            subst this
            exact ⟨.int k (if n' < n then n' else n), by simp [execOp, hop, resolve, invoke, builtin, hx, hy, Builtin.min_, Builtin.min2], by simp [AVRel, SVRel]⟩
          · have : b = .max := by simpa using h1
            subst this
            exact ⟨.int k (if n' > n then n' else n), by simp [execOp, hop, resolve, invoke, builtin, hx, hy, Builtin.max_, Builtin.max2], by simp [AVRel, SVRel]⟩
        · cases h
      · cases h2
    · cases hc
  | _ => simp [pureA] at h
end Go.AM

/-
  THE ABSTRACT MACHINE: operations that read, that make memory, that write.
-/
namespace Go.AM
variable {P : Program} {G : List Nat} {φ : Phi} {T : List AV} {a : Act} {w : World} {B : Nat} {w0 : World} {H H' : AH}
theorem load_sim (hH : HRel B w0 φ H w) (hT : TRel φ T a.tmps) (hG : GRel G φ) {r : ROp} {o : Oper} (hc : chkPure P G r o.op = true) {v : AV} (h : loadO (ev T) H r = some v) : PureDone P φ (execOp a.eval o) w v := by
  cases r with
  | load m y =>
    simp only [chkPure] at hc
    split at hc
    · rename_i t x hop
      simp only [Bool.and_eq_true, decide_eq_true_eq] at hc
      obtain ⟨hm, h2⟩ := hc
      have hx := opd_rel h2 hT hG
      simp only [loadO, loadA] at h
      split at h
      · rename_i b o' hb
        rw [hb] at hx
        obtain ⟨cb, sh, cs, hφ, hv⟩ := ptr_of hx
        cases m with
        | none =>
          simp only [Option.map_eq_some_iff] at h
          obtain ⟨s, hs, rfl⟩ := h
          obtain ⟨cb', sh', cs', u, h1, h3, h4⟩ := hH.ld hs
          rw [hφ] at h1
          cases h1
          refine ⟨u, ?_, h4⟩
          simp only [execOp, hop, Instr.loadAt, hv, Instr.sureAddr, loadVar, Sem.run_bind, Sem.run_pure, Result.andThen_ok, run_isAgg' hm]
          simp [h3]
        | some n =>
          simp only [Option.map_eq_some_iff] at h
          obtain ⟨l, hl, rfl⟩ := h
          obtain ⟨cb', sh', cs', vs, h1, h3, h4, h5, h6⟩ := hH.ldn hl
          rw [hφ] at h1
          cases h1
          refine ⟨.agg vs.toArray, ?_, vs, h6, rfl⟩
          have hld := run_loadCells_list (P := P) w ⟨cb, sh + o', none⟩ vs (fun j v' hj => by rw [add_eq, ← Nat.add_assoc]; exact h5 j v' hj)
          rw [h4] at hld
          simp only [execOp, hop, Instr.loadAt, hv, Instr.sureAddr, loadVar, Sem.run_bind, Sem.run_pure, Result.andThen_ok, run_isAgg' hm]
          simp [run_szOf (aggM_size hm), hld]
      · cases h
    · cases hc
  | _ => simp [loadO] at h
def Done (P : Program) (B : Nat) (w0 : World) (φ : Phi) (H' : AH) (v : AV) (s : Sem Next) (w : World) : Prop :=
  ∃ cv w' φ', (s.run P w = .ok (.value cv) w' ∨ (s.run P w = .ok .skip w' ∧ cv = Go.undef)) ∧ Ext φ φ' ∧ HRel B w0 φ' H' w' ∧ AVRel φ' v cv
theorem rep_get (z : List SV) : ∀ (n i : Nat), i < n * z.length → (repCells z n)[i]? = z[i % z.length]?
  | 0, i, h => by omega
  | n + 1, i, h => by
    unfold repCells
    rw [List.getElem?_append]
    split
    · rename_i hi; rw [Nat.mod_eq_of_lt hi]
    · rename_i hi
      have h' : i < n * z.length + z.length := by rw [Nat.add_mul] at h; omega
      rw [rep_get z n (i - z.length) (by omega), Nat.mod_eq_sub_mod (a := i) (b := z.length) (by omega)]
theorem rep_length (z : List SV) (n : Nat) : (repCells z n).length = n * z.length := by
  induction n with
  | zero => simp [repCells]
  | succ n ih => simp [repCells, ih, Nat.add_mul, Nat.add_comm]
theorem rep_rel {z : List SV} {zc : Array Value} (hz : R2 (SVRel φ) z zc.toList) (n : Nat) : R2 (SVRel φ) (repCells z n) ((Array.range (n * zc.size)).map fun i => zc[i % zc.size]!).toList := by
  have hl : z.length = zc.size := by have := hz.length; simpa using this
  refine R2.of_get (by simp [rep_length, hl]) ?_
  intro i x v hx hv
  have hi : i < n * z.length := by
    have := (List.getElem?_eq_some_iff.1 hx).1
    rwa [rep_length] at this
  rw [rep_get z n i hi] at hx
  obtain ⟨u, hu, hr⟩ := hz.get _ _ hx
  have hlt : i % z.length < zc.size := by rw [← hl]; exact Nat.mod_lt _ (by cases hz' : z.length with | zero => rw [hz'] at hi; omega | succ => omega)
  have : v = u := by
    rw [Array.getElem?_toList] at hv
    simp only [Array.getElem?_map, Array.getElem?_range] at hv
    rw [if_pos (by rw [← hl]; exact hi)] at hv
    simp only [Option.map_some, Option.some.injEq] at hv
    rw [← hv, ← hl]
    rw [Array.getElem?_toList] at hu
    rw [getElem!_pos zc _ hlt]
    rw [Array.getElem?_eq_getElem hlt] at hu
    exact Option.some.inj hu
  rw [this]; exact hr
def chkAlloc (P : Program) (G : List Nat) (r : ROp) (op : Op) : Bool :=
  match r with
  | .newc l => (match op with | .alloc e => zeroOk P e l | _ => false)
  | .box y => (match op with | .box _ x => chkOpd G y x | _ => false)
  | .buildSlice esz len z ps => (match op with
    | .buildSlice t n parts => (match slElem P t with
      | some e => n == len && esz != 0 && decide (szOf P e = some esz) && decide (len * esz ≤ 16777216) && placesOk G (fun i => some (i * esz, esz)) ps parts.toList &&
        (match (P.info? e).map (·.zero) with
          | some (some v) => decide ((repCells (z.take esz) len) = z) && (if len = 0 then z.isEmpty else constOkL (z.take esz) v.cells.toList) && v.cells.size == esz
          | _ => false)
      | none => false)
    | _ => false)
  | .makeSlice esz bytes z l c => (match op with
    | .makeSlice t l' c' => (match slElem P t with
      | some e => esz != 0 && decide (szOf P e = some esz) && bytesOk P e bytes && zeroOk P e z && z.length == esz && chkOpd G l l' && chkOpd G c c'
      | none => false)
    | _ => false)
  | _ => false
theorem run_bytes {t : TypeId} {n : Nat} (h : bytesOk P t n = true) (w : World) : ∃ i, (typeInfo t).run P w = .ok i w ∧ i.bytes = n := by
  unfold bytesOk at h
  simp only [decide_eq_true_eq] at h
  cases hi : P.info? t with
  | none => simp [hi] at h
  | some i => simp [hi] at h; exact ⟨i, by simp [typeInfo, hi], h⟩
theorem row_sim (hH : HRel B w0 φ H w) {id : Nat} (hid : id < H.next) {l : List SV} (hn : H.new id (.cells false l) = some H') {c : Array Value} (hr : R2 (SVRel φ) l c.toList) (e : TypeId) :
    ∃ φ', Ext φ φ' ∧ φ' id = some (w.heap.size, 0, c.size) ∧ HRel B w0 φ' H' { w with heap := w.heap.push (.cells c e) } := by
  have hl : l.length = c.size := by have := hr.length; simpa using this
  exact hH.new hn hid (Nat.le_of_eq hl) (fun i x hx => by obtain ⟨v, hv, hr'⟩ := hr.get i x hx; exact ⟨v, by simpa using hv, hr'⟩) e _ rfl rfl rfl
theorem newRow_run (e : TypeId) (c : Array Value) (w : World) : (newRow e c).run P w = .ok ⟨w.heap.size, 0, none⟩ { w with heap := w.heap.push (.cells c e) } := by
  simp [newRow]
theorem alloc_sim (hH : HRel B w0 φ H w) (hT : TRel φ T a.tmps) (hG : GRel G φ) {r : ROp} {o : Oper} (hc : chkAlloc P G r o.op = true) {id : Nat} (hid : id < H.next) {l : List SV} {v : AV}
    (h : allocO (ev T) id r = some (l, v)) (hn : H.new id (.cells false l) = some H') : Done P B w0 φ H' v (execOp a.eval o) w := by
  cases r with
  | newc l' =>
    simp only [allocO, Option.some.injEq, Prod.mk.injEq] at h
    obtain ⟨rfl, rfl⟩ := h
    simp only [chkAlloc] at hc
    split at hc
    · rename_i e hop
      obtain ⟨z, hz1, hz2⟩ := run_zero hc (P := P) w (φ := φ)
      obtain ⟨φ', e1, e2, e3⟩ := row_sim hH hid hn hz2 e
      refine ⟨_, _, φ', .inl ?_, e1, e3, ptr_mk (o := 0) e2⟩
      simp only [execOp, hop, Instr.alloc, Sem.run_bind, hz1, Result.andThen_ok, newVar, newRow_run, Sem.run_pure, Nat.add_zero]
    · cases hc
  | box y =>
    simp only [allocO, Option.map_eq_some_iff] at h
    obtain ⟨l', hl, h⟩ := h
    cases h
    simp only [chkAlloc] at hc
    split at hc
    · rename_i e x hop
      have hx := opd_rel hc hT hG
      obtain ⟨φ', e1, e2, e3⟩ := row_sim hH hid hn (hx.cells hl) e
      refine ⟨_, _, φ', .inl ?_, e1, e3, ptr_mk (o := 0) e2⟩
      simp only [execOp, hop, Instr.box, Sem.run_bind, newVar, newRow_run, Result.andThen_ok, Sem.run_pure, Nat.add_zero]
    · cases hc
  | buildSlice esz len z ps =>
    simp only [allocO, Option.map_eq_some_iff] at h
    obtain ⟨l', hl, h⟩ := h
    cases h
    simp only [chkAlloc] at hc
    split at hc
    · rename_i t n parts hop
      split at hc
      · rename_i e he
        have hu := slElem_eq he
        simp only [Bool.and_eq_true, beq_iff_eq, bne_iff_ne, decide_eq_true_eq] at hc
        obtain ⟨⟨⟨⟨⟨h1, h2⟩, h3⟩, h4⟩, h5⟩, h6⟩ := hc
        subst h1
        split at h6
        · rename_i zv hzv
          simp only [Bool.and_eq_true, beq_iff_eq, decide_eq_true_eq] at h6
          obtain ⟨⟨h7, h8⟩, h9⟩ := h6
          have hzero : (zeroValue e).run P w = .ok zv w := by
            cases hi : P.info? e with
            | none => simp [hi] at hzv
            | some i => simp [hi] at hzv; simp [zeroValue, typeInfo, hi, hzv]
          -- the cells that are laid before the parts
          have hbase : R2 (SVRel φ) z ((Array.range (n * esz)).map fun i => (if n * esz = 0 then #[] else zv.cells)[i % (if n * esz = 0 then #[] else zv.cells).size]!).toList := by
            by_cases hn0 : n = 0
            · subst hn0
              have : z = [] := by simpa using h8
              subst this
              simp [R2]
            · rw [if_neg hn0] at h8
              have hne : ¬ n * esz = 0 := Nat.mul_ne_zero hn0 h2
              simp only [if_neg hne]
              have hz := constOkL_rel (φ := φ) h8
              have := rep_rel hz n
              rw [h7, h9] at this
              rw [h9]
              exact this
          obtain ⟨cl, f1, f2⟩ := fill_sim (place := fun i => some (i * esz, esz)) hl hbase (places_rel hT hG h5)
          obtain ⟨φ', e1, e2, e3⟩ := row_sim hH hid hn f2 e
          have hlen : cl.size = n * esz := by
            have g1 : ∀ (ps : List (Nat × Nat × AV)) (z l : List SV), fillA z ps = some l → l.length = z.length := by
              intro ps
              induction ps with
              | nil => intro z l h; simp only [fillA, Option.some.injEq] at h; rw [h]
              | cons p ps ih =>
                intro z l h
                obtain ⟨off, size, v⟩ := p
                simp only [fillA] at h
                split at h
                · split at h
                  · rename_i hcc; rw [ih _ _ h, splice_length _ _ _ (by omega)]
                  · cases h
                · cases h
            have g2 := f2.length
            have g3 := g1 _ _ _ hl
            have g4 := hbase.length
            simp at g2 g4
            omega
          refine ⟨.slice (some ⟨w.heap.size, 0, none⟩) n n, _, φ', .inl ?_, e1, e3, ?_⟩
          · simp only [execOp, hop, Instr.buildSlice, Sem.run_bind, run_underlying hu, Result.andThen_ok, run_szOf h3, Sem.run_ite]
            rw [if_neg (by simp; omega)]
            by_cases hn0 : n * esz = 0
            · simp only [if_pos hn0] at f1 ⊢
              have f1' : Instr.fill (fun i => some (i * esz, esz)) ((Array.range (n * esz)).map fun x => (#[] : Array Value)[x % (#[] : Array Value).size]!) (parts.map fun q => (q.1, a.eval q.2)).toList = some cl := by simpa using f1
              have hp : (Pure.pure #[] : Sem (Array Value)).run P w = .ok #[] w := rfl
              rw [hp]
              simp only [Result.andThen_ok]
              rw [f1']
              simp only [Sem.run_bind, newRow_run, Result.andThen_ok, Sem.run_pure]
            · simp only [if_neg hn0] at f1 ⊢
              simp only [hzero, Sem.run_pure, Result.andThen_ok]
              have f1' : Instr.fill (fun i => some (i * esz, esz)) ((Array.range (n * esz)).map fun x => zv.cells[x % zv.cells.size]!) (parts.map fun q => (q.1, a.eval q.2)).toList = some cl := by simpa using f1
              rw [f1']
              simp only [Sem.run_bind, newRow_run, Result.andThen_ok, Sem.run_pure]
          · refine ⟨by omega, Nat.le_refl _, w.heap.size, 0, cl.size, _, n, e2, Nat.le_refl _, rfl, fun _ => ⟨rfl, ?_, ?_⟩⟩
            · rw [hlen]; omega
            · have := Nat.le_mul_of_pos_right n (show 0 < esz by omega); omega
        · cases h6
      · cases hc
    · cases hc
  | makeSlice esz bytes z l' c' =>
    simp only [allocO, Option.map_eq_some_iff] at h
    obtain ⟨r, hr, h⟩ := h
    cases h
    simp only [chkAlloc] at hc
    split at hc
    · rename_i t lo co hop
      split at hc
      · rename_i e he
        have hu := slElem_eq he
        simp only [Bool.and_eq_true, beq_iff_eq, bne_iff_ne, decide_eq_true_eq] at hc
        obtain ⟨⟨⟨⟨⟨⟨h1, h2⟩, h3⟩, h4⟩, h5⟩, h6⟩, h7⟩ := hc
        have hlo := opd_rel h6 hT hG
        have hco := opd_rel h7 hT hG
        unfold makeA at hr
        split at hr
        · rename_i ln cn e1 e2
          rw [e1] at hlo
          rw [e2] at hco
          have hlo : a.eval lo = .int .i64 ln := hlo
          have hco : a.eval co = .int .i64 cn := hco
          split at hr
          · rename_i hcond
            obtain ⟨q1, q2, q3, q4, q5⟩ := hcond
            cases hr
            obtain ⟨i, hi1, hi2⟩ := run_bytes h3 w
            obtain ⟨zv, hz1, hz2⟩ := run_zero h4 (P := P) w (φ := φ)
            have hzl : zv.cells.size = esz := by have := hz2.length; simp at this; omega
            have hrep := rep_rel hz2 cn.toNat
            obtain ⟨φ', f1, f2, f3⟩ := row_sim hH hid hn hrep e
            have hwl : IntKind.i64.wrap ln = ln := by rw [IntKind.wrap_i64]; omega
            have hwc : IntKind.i64.wrap cn = cn := by rw [IntKind.wrap_i64]; omega
            refine ⟨.slice (some ⟨w.heap.size, 0, none⟩) ln.toNat cn.toNat, _, φ', .inl ?_, f1, f3, ?_⟩
            · simp only [execOp, hop, Instr.makeSlice, Sem.run_bind, run_underlying hu, Result.andThen_ok, hlo, hco, asInt, asIntOf, Sem.run_pure, hi1, hwl, hwc, hi2]
              have hcnd : (decide (cn < 0) || decide ((bytes : Int) * cn > 2 ^ 48) || decide (ln < 0) || decide (ln > cn)) = false := by
                simp; omega
              simp only [hcnd, Bool.false_eq_true, if_false, Sem.run_bind, run_askRoom, Result.andThen_ok, run_szOf h2, Sem.run_ite, hz1, Sem.run_pure]
              by_cases hn0 : cn.toNat * esz = 0
              · simp only [if_pos hn0, Result.andThen_ok, newRow_run]
                have : (Array.range (cn.toNat * zv.cells.size)).map (fun i => zv.cells[i % zv.cells.size]!) = #[] := by rw [hzl, hn0]; simp
                rw [this, hn0]
                simp [show Array.range 0 = #[] from rfl]
              · simp only [if_neg hn0, Result.andThen_ok, newRow_run, hzl]
            · refine ⟨by omega, by show ln.toNat ≤ cn.toNat; omega, w.heap.size, 0, _, _, cn.toNat, f2, Nat.le_refl _, rfl, fun _ => ⟨rfl, ?_, by omega⟩⟩
              simp [hzl]
          · cases hr
        · cases hr
      · cases hc
    · cases hc
  | _ => simp [allocO] at h
theorem HRel.kill (hH : HRel B w0 φ H w) {b : Nat} (hb : H.blk b ≠ none) : HRel B w0 φ (H.set b .dead) w := by
  refine { dom := ?_, lt := ?_, cells := ?_, maps := ?_, inj := ?_, old := hH.old, bound := hH.bound, os := hH.os, out := hH.out, nf := hH.nf }
  · intro b' hb'
    simp only [AH.set, upd] at hb'
    split at hb'
    · cases hb'
    · exact hH.dom b' hb'
  · intro b' hb'
    simp only [AH.set, upd] at hb' ⊢
    rw [if_neg (fun hc => hb (by subst hc; exact hH.lt _ hb'))]
    exact hH.lt b' hb'
  · intro b' ro l hb'
    simp only [AH.set, upd] at hb'
    split at hb'
    · cases hb'
    · exact hH.cells b' ro l hb'
  · intro b' es hb'
    simp only [AH.set, upd] at hb'
    split at hb'
    · cases hb'
    · exact hH.maps b' es hb'
  · intro b1 b2 x1 x2 h1 h2 d1 d2 hx
    simp only [AH.set, upd] at d1 d2 ⊢
    split at d1
    · exact absurd rfl d1
    · split at d2
      · exact absurd rfl d2
      · rename_i n1 n2
        simp only [if_neg n1, if_neg n2]
        exact hH.inj b1 b2 x1 x2 h1 h2 d1 d2 hx
theorem HRel.move (hH : HRel B w0 φ H w) {b id : Nat} {l : List SV} (hb : H.blk b = some (.cells false l)) {cb sh cs : Nat} (hφ : φ b = some (cb, sh, cs)) {o k : Nat} {new : List SV} {vs : List Value}
    (hok : o + k ≤ l.length) (hr : R2 (SVRel φ) new vs) (hfit : sh + o + k + new.length ≤ cs) (hid : id < H.next)
    (hn : (H.set b .dead).new id (.cells false ((l.drop o).take k ++ new)) = some H') :
    ∃ φ' w', Ext φ φ' ∧ φ' id = some (cb, sh + o, cs) ∧ (storeCells ⟨cb, sh + o + k, none⟩ vs).run P w = .ok () w' ∧ HRel B w0 φ' H' w' := by
  obtain ⟨cb', sh', cs', c, e, fr, h1, h2, h3, h4, h5, h6⟩ := hH.cells b false l hb
  rw [hφ] at h1
  cases h1
  obtain ⟨hfr, hB⟩ := h6 rfl
  subst hfr
  have hlen := hr.length
  have hst := run_storeCells_at P cb (sh + o + k) e vs 0 c w h2 (by omega) hr.oneCell
  simp only [Nat.add_zero] at hst
  have hk := hH.kill (b := b) (by rw [hb]; simp)
  unfold AH.new at hn
  split at hn
  · rename_i hidn
    cases hn
    have hφid : φ id = none := hk.dom id hidn
    have hne : id ≠ b := by intro hc; subst hc; rw [hφ] at hφid; cases hφid
    have hidH : H.blk id = none := by
      simp only [AH.set, upd, if_neg hne] at hidn; exact hidn
    have hext : Ext φ (fun x => if x = id then some (cb, sh + o, cs) else φ x) := by
      intro x y hx
      by_cases hxi : x = id
      · subst hxi; rw [hφid] at hx; cases hx
      · simp [hxi, hx]
    have hget : ∀ x, x ≠ cb → (w.setRow cb (c.toList.take (sh + o + k) ++ vs ++ c.toList.drop (sh + o + k + vs.length)).toArray).heap[x]? = w.heap[x]? := by
      intro x hx; rw [setRow_get, if_neg hx]
    have hcl : sh + o + k + vs.length ≤ c.toList.length := by simp; omega
    refine ⟨fun x => if x = id then some (cb, sh + o, cs) else φ x, _, hext, by simp, hst, ?_⟩
    -- another block that lives is none of this row
    have hoth : ∀ b', b' ≠ b → H.blk b' ≠ some .dead → ∀ x, φ b' = some x → x.1 ≠ cb := by
      intro b' hne' hd x hx heq
      rcases hH.inj b' b x _ hx hφ hd (by rw [hb]; simp) heq with h | ⟨_, _, _, hy⟩
      · exact hne' h
      · rw [hb] at hy; cases hy
    refine { dom := ?_, lt := ?_, cells := ?_, maps := ?_, inj := ?_, old := ?_, bound := ?_, os := hH.os, out := hH.out, nf := nf_setRow hH.nf _ _ }
    · intro b' hb'
      simp only [AH.set, upd] at hb'
      split at hb'
      · cases hb'
      · rename_i hne'
        split at hb'
        · cases hb'
        · simp [hne', hH.dom b' hb']
    · intro b' hb'
      simp only [AH.set, upd] at hb' ⊢
      rw [if_neg (by omega)]
      split
      · rename_i hc; subst hc; rw [hH.lt _ hb'] at hb; cases hb
      · exact hH.lt b' hb'
    · intro b' ro' l'' hb'
      simp only [AH.set, upd] at hb'
      split at hb'
      · rename_i heq
        cases hb'
        refine ⟨cb, sh + o, cs, (c.toList.take (sh + o + k) ++ vs ++ c.toList.drop (sh + o + k + vs.length)).toArray, e, (0, 0), by simp [heq], ?_, ?_, ?_, ?_, fun _ => ⟨rfl, hB⟩⟩
        · rw [setRow_get, if_pos rfl, h2]; rfl
        · simp; simp at hcl; omega
        · simp; omega
        · intro i x hx
          rw [List.getElem?_toArray, vals_get _ _ _ _ hcl]
          rw [List.getElem?_append] at hx
          simp only [List.length_take, List.length_drop] at hx
          have hmin : min k (l.length - o) = k := by omega
          rw [hmin] at hx
          split at hx
          · rename_i hik
            rw [if_neg (by omega)]
            rw [List.getElem?_take, if_pos hik, List.getElem?_drop] at hx
            obtain ⟨v, hv, hrv⟩ := h5 (o + i) x hx
            exact ⟨v, by rw [Array.getElem?_toList, Nat.add_assoc]; exact hv, hrv.mono hext⟩
          · rename_i hik
            have hlt := (List.getElem?_eq_some_iff.1 hx).1
            rw [if_pos (by omega)]
            obtain ⟨v, hv, hrv⟩ := hr.get (i - k) x hx
            exact ⟨v, by rw [show sh + o + i - (sh + o + k) = i - k by omega]; exact hv, hrv.mono hext⟩
      · rename_i hne'
        split at hb'
        · cases hb'
        · rename_i hneb
          obtain ⟨cb', sh', cs', c', e', fr', g1, g2, g3, g4, g5, g6⟩ := hH.cells b' ro' l'' hb'
          have hcb : cb' ≠ cb := hoth b' hneb (by rw [hb']; simp) _ g1
          exact ⟨cb', sh', cs', c', e', fr', by simp [hne', g1], by rw [hget _ hcb]; exact g2, g3, g4, fun i x hx => by obtain ⟨v, hv, hrv⟩ := g5 i x hx; exact ⟨v, hv, hrv.mono hext⟩, g6⟩
    · intro b' es hb'
      simp only [AH.set, upd] at hb'
      split at hb'
      · cases hb'
      · rename_i hne'
        split at hb'
        · cases hb'
        · rename_i hneb
          obtain ⟨cb', sh', cs', ces, clk, g1, g2, g3, g4⟩ := hH.maps b' es hb'
          have hcb : cb' ≠ cb := hoth b' hneb (by rw [hb']; simp) _ g1
          exact ⟨cb', sh', cs', ces, clk, by simp [hne', g1], by rw [hget _ hcb]; exact g2, R2.mono (fun _ _ hp => ⟨hp.1.mono hext, hp.2.mono hext⟩) g3, g4⟩
    · intro b1 b2 x1 x2 hx1 hx2 hd1 hd2 hxe
      simp only [AH.set, upd] at hd1 hd2 ⊢
      by_cases e1 : b1 = id
      · by_cases e2 : b2 = id
        · exact .inl (e1.trans e2.symm)
        · simp only [e1, if_true] at hx1
          simp only [e2, if_false] at hx2
          cases hx1
          exfalso
          rw [if_neg e2] at hd2
          split at hd2
          · exact hd2 rfl
          · rename_i hneb
            exact hoth b2 hneb hd2 _ hx2 hxe.symm
      · by_cases e2 : b2 = id
        · simp only [e2, if_true] at hx2
          simp only [e1, if_false] at hx1
          cases hx2
          exfalso
          rw [if_neg e1] at hd1
          split at hd1
          · exact hd1 rfl
          · rename_i hneb
            exact hoth b1 hneb hd1 _ hx1 hxe
        · simp only [e1, e2, if_false] at hx1 hx2 hd1 hd2 ⊢
          split at hd1
          · exact absurd rfl hd1
          · rename_i n1
            split at hd2
            · exact absurd rfl hd2
            · rename_i n2
              simp only [if_neg n1, if_neg n2]
              exact hH.inj b1 b2 x1 x2 hx1 hx2 hd1 hd2 hxe
    · intro c' hc'
      rw [hget _ (by omega)]
      exact hH.old c' hc'
    · simpa [World.setRow] using hH.bound
  · cases hn
theorem cell?_heap {w w' : World} (h : w'.heap = w.heap) (x : Addr) : w'.cell? x = w.cell? x := by unfold World.cell?; rw [h]
theorem firstCells_sim (hH : HRel B w0 φ H w) {esz n : Nat} {x : AV} {v : Value} (hx : AVRel φ x v) {l : List SV} (h : sliceCells esz x n H = some l) {m : Nat} (hm : slLen x = some m) (hnm : n ≤ m) :
    ∃ vs : List Value, (∀ w', w'.heap = w.heap → (Builtin.firstCells esz n v).run P w' = .ok vs.toArray w') ∧ R2 (SVRel φ) l vs ∧ (∀ w', (Builtin.lenOf v).run P w' = .ok m w') := by
  unfold sliceCells at h
  split at h
  · rename_i ln c e
    simp only [slLen, Option.some.injEq] at hm
    subst hm
    obtain ⟨h1, h2, h3⟩ := slice_none hx
    subst h1; subst h3
    simp only [Option.some.injEq] at h; subst h
    exact ⟨[], fun _ _ => rfl, trivial, fun _ => rfl⟩
  · rename_i b o ln c e
    simp only [slLen, Option.some.injEq] at hm
    subst hm
    obtain ⟨h1, h2, cb, sh, cs, z, c', h3, h4, h5, h6⟩ := slice_of hx
    subst h5
    split at h
    · rename_i hc
      obtain ⟨rfl, hle⟩ := hc
      obtain ⟨cb', sh', cs', vs, g1, g2, g3, g4, g5⟩ := hH.ldn h
      rw [h3] at g1
      cases g1
      refine ⟨vs, ?_, g5, fun _ => rfl⟩
      intro w' hw
      simp only [Builtin.firstCells]
      by_cases hc0 : c' = 0
      · have : n = 0 := by omega
        subst this
        have hv : vs = [] := by apply List.eq_nil_of_length_eq_zero; omega
        subst hv
        simp [loadCells, loadCellsFrom]
      · obtain ⟨hz, _⟩ := h6 hc0
        subst hz
        have hld := run_loadCells_list (P := P) w' ⟨cb, sh + o, none⟩ vs (fun j v' hj => by rw [add_eq, ← Nat.add_assoc, cell?_heap hw]; exact g4 j v' hj)
        rw [g3] at hld
        exact hld
    · cases h
  · cases h
theorem sliceCells_length {esz n : Nat} {x : AV} {l : List SV} (h : sliceCells esz x n H = some l) {m : Nat} (hm : slLen x = some m) (hnm : n ≤ m) {v : Value} (hx : AVRel φ x v) : l.length = n * esz := by
  unfold sliceCells at h
  split at h
  · simp only [slLen, Option.some.injEq] at hm
    subst hm
    obtain ⟨h1, h2, h3⟩ := slice_none hx
    simp only [Option.some.injEq] at h; subst h
    have : n = 0 := by omega
    subst this; simp
  · split at h
    · unfold AH.ldn at h
      split at h
      · split at h
        · cases h; simp; omega
        · cases h
      · cases h
    · cases h
  · cases h
theorem srcCells_sim (hH : HRel B w0 φ H w) {esz n : Nat} {x : AV} {v : Value} (hx : AVRel φ x v) {l : List SV} (h : srcCells esz x n H = some l) {m : Nat} (hm : slLen x = some m) (hnm : n ≤ m) :
    ∃ vs : List Value, (∀ w', w'.heap = w.heap → (Builtin.firstCells esz n v).run P w' = .ok vs.toArray w') ∧ R2 (SVRel φ) l vs ∧ (∀ w', (Builtin.lenOf v).run P w' = .ok m w') := by
  unfold srcCells at h
  split at h
  · rename_i h0
    subst h0
    cases h
    match x, hm with
    | .s (.slice none ln c e), hm =>
      simp only [slLen, Option.some.injEq] at hm
      subst hm
      obtain ⟨h1, h2, h3⟩ := slice_none hx
      subst h1; subst h3
      exact ⟨[], fun _ _ => rfl, trivial, fun _ => rfl⟩
    | .s (.slice (some (b, o)) ln c e), hm =>
      simp only [slLen, Option.some.injEq] at hm
      subst hm
      obtain ⟨h1, h2, cb, sh, cs, z, c', h3, h4, h5, h6⟩ := slice_of hx
      subst h5
      refine ⟨[], fun w' _ => ?_, trivial, fun _ => rfl⟩
      simp [Builtin.firstCells, loadCells, loadCellsFrom]
  · exact firstCells_sim hH hx h hm hnm
theorem srcCells_length {esz n : Nat} {x : AV} {l : List SV} (h : srcCells esz x n H = some l) {m : Nat} (hm : slLen x = some m) (hnm : n ≤ m) {v : Value} (hx : AVRel φ x v) : l.length = n * esz := by
  unfold srcCells at h
  split at h
  · rename_i h0
    subst h0
    cases h
    simp
  · exact sliceCells_length h hm hnm hx
theorem next_bound (need cap : Nat) (h : cap < need) : Builtin.nextslicecap need cap ≤ 2 * need + 192 := by
  have key : ∀ (k c : Nat), c < need → Builtin.growBy need k c ≤ 2 * need + 192 := by
    intro k
    induction k with
    | zero => intro c hc; simp only [Builtin.growBy]; omega
    | succ k ih =>
      intro c hc
      simp only [Builtin.growBy]
      split
      · omega
      · by_cases hlt : c + (c + 768) / 4 < need
        · exact ih _ hlt
        · have hge : c + (c + 768) / 4 ≥ need := by omega
          cases k with
          | zero => simp only [Builtin.growBy]; omega
          | succ k => simp only [Builtin.growBy]; rw [if_pos hge]; omega
  unfold Builtin.nextslicecap
  split
  · omega
  · split
    · omega
    · exact key 4 cap h
def intMap (P : Program) (t : TypeId) : Bool :=
  match P.underlying t with
  | some (.map k _) => (match P.underlying k with | some (.int _) => true | _ => false)
  | _ => false
def chkHop (P : Program) (G : List Nat) (h : HOp) (args : List Opd) (op : Op) : Bool :=
  match h with
  | .makeMap => (match op, args with | .makeMap _ none, [] => true | _, _ => false)
  | .lookup ok => (match op, args with | .lookup t m k ok', [m', k'] => ok == ok' && chkOpd G m' m && chkOpd G k' k && intMap P t | _, _ => false)
  | .update => (match op, args with | .mapUpdate t m k v, [m', k', v'] => chkOpd G m' m && chkOpd G k' k && chkOpd G v' v && intMap P t | _, _ => false)
  | .delete => (match op, args with
    | .call { callee := .builtin .delete, args := as, argTypes := ts }, [m', k'] => (match as.toList, ts.toList with
      | [m, k], [t, _] => chkOpd G m' m && chkOpd G k' k && intMap P t
      | _, _ => false)
    | _, _ => false)
  | .slArr len esz => (match op, args with
    | .slice t x none none none, [x'] => (match arrElem P t with | some (n, e) => n == len && decide (len ≤ 16777216) && decide (szOf P e = some esz) && chkOpd G x' x | none => false)
    | _, _ => false)
  | .slArrH len esz => (match op, args with
    | .slice t x none (some hi) none, [x', hi'] => (match arrElem P t with | some (n, e) => n == len && decide (len ≤ 16777216) && decide (szOf P e = some esz) && chkOpd G x' x && chkOpd G hi' hi | none => false)
    | _, _ => false)
  | .toStr => (match op, args with
    | .convert src dst x, [x'] => chkOpd G x' x && (match slElem P src with | some e => decide (isInt P e = some .u8) | none => false) && (match P.underlying dst with | some .string => true | _ => false)
    | _, _ => false)
def chkEff (P : Program) (G : List Nat) (r : ROp) (op : Op) : Bool :=
  match r with
  | .store n b u => (match op with | .store t x v => decide (szOf P t = some n) && chkOpd G b x && chkOpd G u v | _ => false)
  | .append esz bytes s' x' => (match op with
    | .call { callee := .builtin .append, args := args, argTypes := ts } => (match args.toList, ts.toList with
      | [s, x], [st, xt] => chkOpd G s' s && chkOpd G x' x && (slElem P xt).isSome && (match slElem P st with
        | some e => esz != 0 && decide (szOf P e = some esz) && bytesOk P e bytes && bytes != 0 && decide (bytes ≤ 1073741824) && (match (P.info? e).map (·.zero) with | some (some v) => v.cells.size == esz | _ => false)
        | none => false)
      | _, _ => false)
    | _ => false)
  | .copy esz d' s' => (match op with
    | .call { callee := .builtin .copy, args := args, argTypes := ts } => (match args.toList, ts.toList with
      | [d, s], [dt, _] => chkOpd G d' d && chkOpd G s' s && (match slElem P dt with | some e => decide (szOf P e = some esz) | none => false)
      | _, _ => false)
    | _ => false)
  | .clear esz z x' => (match op with
    | .call { callee := .builtin .clear, args := args, argTypes := ts } => (match args.toList, ts.toList with
      | [x], [t] => chkOpd G x' x && (match slElem P t with | some e => decide (szOf P e = some esz) && zeroOk P e z | none => false)
      | _, _ => false)
    | _ => false)
  | .call f args => (match op with
    | .call { callee := .value (.func g), args := as, argTypes := _ } => f == g && chkOpds G args as.toList
    | _ => false)
  | .callv x args => (match op with
    | .call { callee := .value y, args := as, argTypes := _ } => chkOpd G x y && chkOpds G args as.toList
    | _ => false)
  | .hop h args => chkHop P G h args op
  | _ => false
theorem HRel.drew (hH : HRel B w0 φ H w) : HRel B w0 φ H w.drew := hH.heap_eq rfl rfl rfl
theorem stn_sim (hH : HRel B w0 φ H w) {b o : Nat} {l : List SV} (hs : H.stn b o l = some H') {vs : List Value} (hr : R2 (SVRel φ) l vs) {cb sh cs : Nat} (hφ : φ b = some (cb, sh, cs)) {z : Addr} (hz : l ≠ [] → z = ⟨cb, sh + o, none⟩) :
    ∃ w', (storeCells z vs).run P w = .ok () w' ∧ HRel B w0 φ H' w' := by
  obtain ⟨cb', sh', cs', w', h1, h2, h3, h4⟩ := hH.stn P hs hr
  rw [hφ] at h1
  cases h1
  by_cases hl : l = []
  · subst hl
    have : vs = [] := by cases vs with | nil => rfl | cons => exact hr.elim
    subst this
    have e1 : (storeCells ⟨cb, sh + o, none⟩ []).run P w = .ok () w := rfl
    rw [e1] at h2
    cases h2
    exact ⟨w, rfl, h3⟩
  · rw [hz hl]; exact ⟨w', h2, h3⟩
theorem store_sim (hH : HRel B w0 φ H w) (hT : TRel φ T a.tmps) (hG : GRel G φ) {n : Nat} {b u : Opd} {o : Oper} (hc : chkEff P G (.store n b u) o.op = true) (h : storeA n (ev T b) (ev T u) H = some H') :
    Done P B w0 φ H' undef (execOp a.eval o) w := by
  simp only [chkEff] at hc
  split at hc
  · rename_i t x v hop
    simp only [Bool.and_eq_true, decide_eq_true_eq] at hc
    obtain ⟨⟨h1, h2⟩, h3⟩ := hc
    have hx := opd_rel h2 hT hG
    have hv := opd_rel h3 hT hG
    simp only [storeA] at h
    split at h
    · rename_i b' o' hb
      rw [hb] at hx
      obtain ⟨cb, sh, cs, hφ, hxv⟩ := ptr_of hx
      split at h
      · rename_i l hl
        split at h
        · rename_i hlen
          have hcells := hv.cells hl
          obtain ⟨w', r1, r2⟩ := stn_sim (P := P) hH h hcells hφ (z := ⟨cb, sh + o', none⟩) (fun _ => rfl)
          have hsz : (a.eval v).cells.size = n := by have := hcells.length; simp at this; omega
          refine ⟨_, w', φ, .inr ⟨?_, rfl⟩, Ext.refl _, r2, AVRel_undef _⟩
          simp only [execOp, hop, Instr.storeAt, Sem.run_bind, hxv, Instr.sureAddr, Sem.run_pure, Result.andThen_ok, storeVar, run_szOf h1, hsz, ne_eq, not_true_eq_false, if_false, r1]
        · cases h
      · cases h
    · cases h
  · cases hc
theorem args2 {α : Type} {as : Array α} {x y : α} (h : as.toList = [x, y]) : as = #[x, y] := by apply Array.ext'; simpa using h
theorem args1 {α : Type} {as : Array α} {x : α} (h : as.toList = [x]) : as = #[x] := by apply Array.ext'; simpa using h
theorem exec_builtin {o : Oper} {b : Builtin} {args : Array Operand} {ts : Array TypeId} (hop : o.op = .call { callee := .builtin b, args := args, argTypes := ts }) (w : World) :
    ∃ cs, (execOp a.eval o).run P w = (builtin b ts o.type cs (args.map a.eval)).run P w := by
  refine ⟨args.map fun | .const _ => true | _ => false, ?_⟩
  simp only [execOp, hop, resolve, Sem.run_bind, Sem.run_pure, Result.andThen_ok, invoke]
  rfl
theorem Done.of_val {H' : AH} {v : AV} {s : Sem Next} {t : Sem Value} (he : s.run P w = (do pure (.value (← t)) : Sem Next).run P w) {cv : Value} {w' : World} (hr : t.run P w = .ok cv w') {φ' : Phi} (h1 : Ext φ φ') (h2 : HRel B w0 φ' H' w') (h3 : AVRel φ' v cv) :
    Done P B w0 φ H' v s w := ⟨cv, w', φ', .inl (by rw [he]; simp [hr]), h1, h2, h3⟩
theorem append_sim (hH : HRel B w0 φ H w) (hT : TRel φ T a.tmps) (hG : GRel G φ) {esz bytes id : Nat} (hid : id < H.next) {s' x' : Opd} {o : Oper} (hc : chkEff P G (.append esz bytes s' x') o.op = true) {v : AV}
    (h : appendA esz bytes id (ev T s') (ev T x') H = some (v, H')) : Done P B w0 φ H' v (execOp a.eval o) w := by
  simp only [chkEff] at hc
  split at hc
  · rename_i args ts hop
    split at hc
    · rename_i s x st xt ha ht
      have ha := args2 ha
      have ht := args2 ht
      subst ha; subst ht
      simp only [Bool.and_eq_true] at hc
      obtain ⟨⟨⟨h1, h2⟩, h3⟩, h4⟩ := hc
      split at h4
      · rename_i e he
        have hu := slElem_eq he
        obtain ⟨xe, hxe⟩ := Option.isSome_iff_exists.1 h3
        have hxu := slElem_eq hxe
        simp only [Bool.and_eq_true, decide_eq_true_eq, bne_iff_ne] at h4
        obtain ⟨⟨⟨⟨⟨k0, k1⟩, k2⟩, k3⟩, k4⟩, k5⟩ := h4
        split at k5
        · rename_i zv hzv
          obtain ⟨i, hi⟩ : ∃ i, P.info? e = some i := by
            cases hi : P.info? e with
            | none => simp [hi] at hzv
            | some i => exact ⟨i, rfl⟩
          have hiz : i.zero = some zv := by simpa [hi] using hzv
          have his : i.size = esz := by simpa [szOf, hi] using k1
          have hib : i.bytes = bytes := by simpa [bytesOk, hi] using k2
          have hzsz : zv.cells.size = esz := by simpa using k5
          have hs := opd_rel h1 hT hG
          have hx := opd_rel h2 hT hG
          obtain ⟨cs0, hex⟩ := exec_builtin (P := P) (a := a) hop w
          have hex : (execOp a.eval o).run P w = (do pure (.value (← Builtin.append_ #[st, xt] o.type #[a.eval s, a.eval x])) : Sem Next).run P w := by rw [hex]; simp only [List.map_toArray, List.map_cons, List.map_nil]; rfl
          unfold appendA at h
          split at h
          · rename_i len cap ee hb
            rw [hb] at hs
            simp only [Option.bind_eq_some_iff] at h
            obtain ⟨n, hn, new, hnew, h⟩ := h
            split at h
            · rename_i hbound
              obtain ⟨vs, f1, f2, f3⟩ := firstCells_sim (P := P) hH hx hnew hn (Nat.le_refl _)
              have hnl := sliceCells_length hnew hn (Nat.le_refl _) hx
              have hvl : vs.length = n * esz := by rw [← f2.length]; exact hnl
              have src : Src P i.size xt (a.eval x) n vs w := ⟨.inl ⟨xe, hxu⟩, f3, by rw [his]; exact f1 w rfl, by rw [his]; exact f1 w.drew rfl, by rw [his]; exact hvl, f2.oneCell⟩
              have hb1 : len + n ≤ 70368744177664 := Nat.le_trans (Nat.le_mul_of_pos_right _ (by omega)) hbound
              have grow : ∀ (basesz : Option Addr) (c' : Nat) (olds : List Value), a.eval s = .slice basesz len c' → c' < len + n → (Builtin.firstCells i.size len (.slice basesz len c')).run P w.drew = .ok olds.toArray w.drew →
                  ∃ newCap, (len + n ≤ newCap ∧ newCap ≤ 9223372036854775807) ∧ (Builtin.append_ #[st, xt] o.type #[a.eval s, a.eval x]).run P w = .ok (.slice (some ⟨w.heap.size, 0, none⟩) (len + n) newCap)
                    (w.drew.alloc (.cells ((olds ++ vs).toArray ++ Builtin.zeroCells zv.cells (newCap - (len + n))) e)) := by
                intro basesz c' olds hv hlt hold
                have hnx := next_bound (len + n) c' hlt
                have hfit : Builtin.nextslicecap (len + n) c' * i.bytes ≤ 281474976710656 := by
                  rw [hib]
                  calc Builtin.nextslicecap (len + n) c' * bytes ≤ (2 * (len + n) + 192) * bytes := Nat.mul_le_mul_right _ hnx
                    _ = 2 * ((len + n) * bytes) + 192 * bytes := by rw [Nat.add_mul, Nat.mul_assoc]
                    _ ≤ 281474976710656 := by omega
                have := run_append_grow_src (P := P) w st xt o.type e i zv hu hi hiz basesz len c' olds hold (a.eval x) n vs src hlt (by omega) hfit
                rw [hv]
                exact ⟨_, ⟨by unfold grownCap; simp [Question.cut], by have hlt := Nat.mod_lt (w.tape w.drawn (.appendCap (len + n) c' e)) (show 0 < 2 ^ 63 - (len + n) by omega); unfold grownCap; simp only [Question.cut]; omega⟩, this⟩
              -- the zeros behind what is laid
              have zlen : ∀ k, (Builtin.zeroCells zv.cells k).size = k * esz := by intro k; simp [Builtin.zeroCells, hzsz]
              obtain ⟨q1, q2, q3⟩ := slice_none hs
              subst q1; subst q2
              by_cases hn0 : n = 0
              · subst hn0
                simp only [if_true, Option.some.injEq, Prod.mk.injEq] at h
                obtain ⟨rfl, rfl⟩ := h
                have hrun : (Builtin.append_ #[st, xt] o.type #[a.eval s, a.eval x]).run P w = .ok (.slice none 0 0) w := by
                  rw [q3]
                  simp [Builtin.append_, run_underlying hu, run_underlying hxu, sizeOf, typeInfo, hi, f3, his, f1 w rfl]
                exact Done.of_val hex hrun (Ext.refl _) hH ⟨rfl, rfl, rfl⟩
              · simp only [if_neg hn0, Option.map_eq_some_iff] at h
                obtain ⟨H1, hH1, h⟩ := h
                simp only [Prod.mk.injEq] at h
                obtain ⟨rfl, rfl⟩ := h
                obtain ⟨nc, ⟨g1, g0⟩, g2⟩ := grow none 0 [] q3 (by omega) rfl
                obtain ⟨φ', e1, e2, e3⟩ := hH.new hH1 hid (c := ([] ++ vs).toArray ++ Builtin.zeroCells zv.cells (nc - (0 + n))) (by have := f2.length; simp; omega)
                  (fun i x hx => by
                    obtain ⟨u, hu, hr⟩ := f2.get i x hx
                    refine ⟨u, ?_, hr⟩
                    have hlt := (List.getElem?_eq_some_iff.1 hu).1
                    rw [Array.getElem?_append_left (by simpa using hlt)]
                    simpa using hu) e (w.drew.alloc (.cells (([] ++ vs).toArray ++ Builtin.zeroCells zv.cells (nc - (0 + n))) e)) rfl rfl rfl
                refine Done.of_val hex g2 e1 e3 ⟨?_, Nat.le_refl _, w.heap.size, 0, _, _, nc, e2, by omega, by simp, fun _ => ⟨rfl, ?_, by omega⟩⟩
                · exact Nat.pos_of_ne_zero k0
                · simp only [Array.size_append, List.size_toArray, List.nil_append, hvl, zlen]
                  rw [← Nat.add_mul]
                  have : n + (nc - (0 + n)) = nc := by omega
                  rw [this]; omega
            · cases h
          · rename_i b o' len cap e' hb
            rw [hb] at hs
            simp only [Option.bind_eq_some_iff] at h
            obtain ⟨n, hn, new, hnew, h⟩ := h
            split at h
            · rename_i hcond
              obtain ⟨rfl, hbound⟩ := hcond
              obtain ⟨vs, f1, f2, f3⟩ := firstCells_sim (P := P) hH hx hnew hn (Nat.le_refl _)
              have hnl := sliceCells_length hnew hn (Nat.le_refl _) hx
              have hvl : vs.length = n * e' := by rw [← f2.length]; exact hnl
              have src : Src P i.size xt (a.eval x) n vs w := ⟨.inl ⟨xe, hxu⟩, f3, by rw [his]; exact f1 w rfl, by rw [his]; exact f1 w.drew rfl, by rw [his]; exact hvl, f2.oneCell⟩
              have hb1 : len + n ≤ 70368744177664 := Nat.le_trans (Nat.le_mul_of_pos_right _ (by omega)) hbound
              have grow : ∀ (base' : Option Addr) (c' : Nat) (olds : List Value), a.eval s = .slice base' len c' → c' < len + n → (Builtin.firstCells i.size len (.slice base' len c')).run P w.drew = .ok olds.toArray w.drew →
                  ∃ newCap, (len + n ≤ newCap ∧ newCap ≤ 9223372036854775807) ∧ (Builtin.append_ #[st, xt] o.type #[a.eval s, a.eval x]).run P w = .ok (.slice (some ⟨w.heap.size, 0, none⟩) (len + n) newCap)
                    (w.drew.alloc (.cells ((olds ++ vs).toArray ++ Builtin.zeroCells zv.cells (newCap - (len + n))) e)) := by
                intro base' c' olds hv hlt hold
                have hnx := next_bound (len + n) c' hlt
                have hfit : Builtin.nextslicecap (len + n) c' * i.bytes ≤ 281474976710656 := by
                  rw [hib]
                  calc Builtin.nextslicecap (len + n) c' * bytes ≤ (2 * (len + n) + 192) * bytes := Nat.mul_le_mul_right _ hnx
                    _ = 2 * ((len + n) * bytes) + 192 * bytes := by rw [Nat.add_mul, Nat.mul_assoc]
                    _ ≤ 281474976710656 := by omega
                have := run_append_grow_src (P := P) w st xt o.type e i zv hu hi hiz base' len c' olds hold (a.eval x) n vs src hlt (by omega) hfit
                rw [hv]
                exact ⟨_, ⟨by unfold grownCap; simp [Question.cut], by have hlt := Nat.mod_lt (w.tape w.drawn (.appendCap (len + n) c' e)) (show 0 < 2 ^ 63 - (len + n) by omega); unfold grownCap; simp only [Question.cut]; omega⟩, this⟩
              -- the zeros behind what is laid
              have zlen : ∀ k, (Builtin.zeroCells zv.cells k).size = k * e' := by intro k; simp [Builtin.zeroCells, hzsz]
              obtain ⟨q1, q2, cb, sh, cs, z, c', q3, q4, q5, q6⟩ := slice_of hs
              -- there is room in the model's row
              have room : len + n ≤ c' → ∀ w', (storeCells (z.add (len * e')) vs).run P w = .ok () w' → (Builtin.append_ #[st, xt] o.type #[a.eval s, a.eval x]).run P w = .ok (.slice (some z) (len + n) c') w' := by
                intro hle w' hst
                rw [q5]
                simp [Builtin.append_, run_underlying hu, run_underlying hxu, sizeOf, typeInfo, hi, f3, his, f1 w rfl, hle, hst]
              have zadd : c' ≠ 0 → z.add (len * e') = ⟨cb, sh + (o' + len * e'), none⟩ := by
                intro hc0
                rw [(q6 hc0).1, add_eq]
              split at h
              · -- in place, as far as is known
                rename_i hle
                simp only [Option.map_eq_some_iff] at h
                obtain ⟨H1, hH1, h⟩ := h
                simp only [Prod.mk.injEq] at h
                obtain ⟨rfl, rfl⟩ := h
                obtain ⟨w', r1, r2⟩ := stn_sim (P := P) hH hH1 f2 q3 (z := z.add (len * e')) (by
                  intro hne
                  have hlen : n * e' ≠ 0 := by rw [← hnl]; intro h0; exact hne (List.eq_nil_of_length_eq_zero h0)
                  have : n ≠ 0 := by intro h0; subst h0; simp at hlen
                  exact zadd (by omega))
                exact Done.of_val hex (room (by omega) w' r1) (Ext.refl _) r2 ⟨q1, by omega, cb, sh, cs, z, c', q3, by omega, rfl, q6⟩
              · rename_i hgt
                split at h
                · rename_i l hl
                  split at h
                  · rename_i hfit
                    simp only [Option.map_eq_some_iff] at h
                    obtain ⟨H1, hH1, h⟩ := h
                    simp only [Prod.mk.injEq] at h
                    obtain ⟨rfl, rfl⟩ := h
                    by_cases hle : len + n ≤ c'
                    · -- the row has room, of which nothing was known: it goes on under a new name
                      obtain ⟨hz, hext, hcm⟩ := q6 (by omega)
                      have k2' : (len + n) * e' ≤ c' * e' := Nat.mul_le_mul_right _ hle
                      rw [Nat.add_mul] at k2'
                      obtain ⟨φ', w', g1, g2, g3, g4⟩ := hH.move (P := P) (b := b) (id := id) hl q3 (o := o') (k := len * e') hfit f2 (by rw [hnl]; omega) hid hH1
                      have g3' : (storeCells (z.add (len * e')) vs).run P w = .ok () w' := by rw [zadd (by omega), ← Nat.add_assoc]; exact g3
                      refine Done.of_val hex (room hle w' g3') g1 g4 ⟨q1, Nat.le_refl _, cb, sh + o', cs, z, c', g2, hle, rfl, fun _ => ⟨by rw [hz]; rfl, by omega, hcm⟩⟩
                    · -- a new row
                      have hsl : sliceCells e' (.s (.slice (some (b, o')) len cap e')) len H = some ((l.drop o').take (len * e')) := by
                        simp [sliceCells, AH.ldn, hl, hfit]
                      obtain ⟨olds, p1, p2, p3⟩ := firstCells_sim (P := P) hH (v := a.eval s) hs hsl rfl (Nat.le_refl _)
                      have hol : olds.length = len * e' := by rw [← p2.length]; simp; omega
                      obtain ⟨nc, ⟨g1, g0⟩, g2⟩ := grow (some z) c' olds q5 (by omega) (by rw [his, ← q5]; exact p1 w.drew rfl)
                      have hk := hH.kill (b := b) (by rw [hl]; simp)
                      have hall := R2.append p2 f2
                      obtain ⟨φ', e1, e2, e3⟩ := hk.new hH1 hid (c := (olds ++ vs).toArray ++ Builtin.zeroCells zv.cells (nc - (len + n))) (by have := hall.length; simp at this ⊢; omega)
                        (fun i x hx => by
                          obtain ⟨u, hu, hr⟩ := hall.get i x hx
                          refine ⟨u, ?_, hr⟩
                          have hlt := (List.getElem?_eq_some_iff.1 hu).1
                          rw [Array.getElem?_append_left (by simpa using hlt)]
                          simpa using hu) e (w.drew.alloc (.cells ((olds ++ vs).toArray ++ Builtin.zeroCells zv.cells (nc - (len + n))) e)) rfl rfl rfl
                      refine Done.of_val hex g2 e1 e3 ⟨q1, Nat.le_refl _, w.heap.size, 0, _, _, nc, e2, by omega, rfl, fun _ => ⟨rfl, ?_, by omega⟩⟩
                      simp only [Array.size_append, List.size_toArray, List.length_append, hol, hvl, zlen]
                      rw [← Nat.add_mul, ← Nat.add_mul]
                      have : len + n + (nc - (len + n)) = nc := by omega
                      rw [this]; omega
                  · cases h
                · cases h
            · cases h
          · cases h
        · cases k5
      · cases h4
    · cases hc
  · cases hc
end Go.AM

/-
  THE ABSTRACT MACHINE: each operation of it, whatever it does, stands for the model's.
-/
namespace Go.AM
variable {P : Program} {G : List Nat} {φ : Phi} {T : List AV} {a : Act} {w : World} {B : Nat} {w0 : World} {H H' : AH}
theorem copy_sim (hH : HRel B w0 φ H w) (hT : TRel φ T a.tmps) (hG : GRel G φ) {esz : Nat} {d' s' : Opd} {o : Oper} (hc : chkEff P G (.copy esz d' s') o.op = true) {v : AV}
    (h : copyA esz (ev T d') (ev T s') H = some (v, H')) : Done P B w0 φ H' v (execOp a.eval o) w := by
  simp only [chkEff] at hc
  split at hc
  · rename_i args ts hop
    split at hc
    · rename_i d s dt st ha ht
      have ha := args2 ha
      have ht := args2 ht
      subst ha; subst ht
      simp only [Bool.and_eq_true] at hc
      obtain ⟨⟨h1, h2⟩, h4⟩ := hc
      split at h4
      · rename_i e he
        have hu := slElem_eq he
        simp only [decide_eq_true_eq] at h4
        have hd := opd_rel h1 hT hG
        have hs := opd_rel h2 hT hG
        obtain ⟨cs0, hex⟩ := exec_builtin (P := P) (a := a) hop w
        have hex : (execOp a.eval o).run P w = (do pure (.value (← Builtin.copy_ #[dt, st] o.type #[a.eval d, a.eval s])) : Sem Next).run P w := by rw [hex]; simp only [List.map_toArray, List.map_cons, List.map_nil]; rfl
        unfold copyA at h
        split at h
        · rename_i len cap e' hb
          rw [hb] at hd
          simp only [Option.bind_eq_some_iff] at h
          obtain ⟨n, hn, new, hnew, h⟩ := h
          obtain ⟨vs, f1, f2, f3⟩ := srcCells_sim (P := P) hH hs hnew hn (Nat.min_le_left _ _)
          obtain ⟨q1, q2, q3⟩ := slice_none hd
          subst q1
          simp only [Option.some.injEq, Prod.mk.injEq] at h
          obtain ⟨rfl, rfl⟩ := h
          refine Done.of_val hex (cv := goInt (min n 0 : Nat)) (w' := w) ?_ (Ext.refl _) hH rfl
          rw [q3]
          have f1w := f1 w rfl
          rw [Nat.min_zero] at f1w
          simp [Builtin.copy_, run_underlying hu, f3, run_szOf h4, f1w]
        · rename_i b o' len cap e' hb
          rw [hb] at hd
          simp only [Option.bind_eq_some_iff] at h
          obtain ⟨n, hn, new, hnew, h⟩ := h
          obtain ⟨vs, f1, f2, f3⟩ := srcCells_sim (P := P) hH hs hnew hn (Nat.min_le_left _ _)
          have hmin : Nat.min n len = min n len := rfl
          split at h
          · rename_i hee
            subst hee
            obtain ⟨q1, q2, cb, sh, cs, z, c', q3, q4, q5, q6⟩ := slice_of hd
            simp only [Option.map_eq_some_iff] at h
            obtain ⟨H1, hH1, h⟩ := h
            simp only [Prod.mk.injEq] at h
            obtain ⟨rfl, rfl⟩ := h
            have hnl := srcCells_length hnew hn (Nat.min_le_left _ _) hs
            obtain ⟨w', r1, r2⟩ := stn_sim (P := P) hH hH1 f2 q3 (z := z) (by
              intro hne
              have hlen : (min n len) * e' ≠ 0 := by rw [← hnl]; intro h0; exact hne (List.eq_nil_of_length_eq_zero h0)
              have : min n len ≠ 0 := by intro h0; rw [h0] at hlen; simp at hlen
              exact (q6 (by omega)).1)
            refine Done.of_val hex (cv := goInt (min n len : Nat)) (w' := w') ?_ (Ext.refl _) r2 rfl
            rw [q5]
            simp [Builtin.copy_, run_underlying hu, f3, run_szOf h4, hmin, f1 w rfl, r1]
          · cases h
        · cases h
      · cases h4
    · cases hc
  · cases hc
theorem clear_sim (hH : HRel B w0 φ H w) (hT : TRel φ T a.tmps) (hG : GRel G φ) {esz : Nat} {z : List SV} {x' : Opd} {o : Oper} (hc : chkEff P G (.clear esz z x') o.op = true)
    (h : clearA esz z (ev T x') H = some H') : ∃ w', ((execOp a.eval o).run P w = .ok (.value Go.undef) w') ∧ HRel B w0 φ H' w' := by
  simp only [chkEff] at hc
  split at hc
  · rename_i args ts hop
    split at hc
    · rename_i x t ha ht
      have ha := args1 ha
      have ht := args1 ht
      subst ha; subst ht
      simp only [Bool.and_eq_true] at hc
      obtain ⟨h1, h4⟩ := hc
      split at h4
      · rename_i e he
        have hu := slElem_eq he
        simp only [Bool.and_eq_true, decide_eq_true_eq] at h4
        have hx := opd_rel h1 hT hG
        obtain ⟨cs0, hex⟩ := exec_builtin (P := P) (a := a) hop w
        have hex : (execOp a.eval o).run P w = (do pure (.value (← Builtin.clear_ #[t] o.type #[a.eval x])) : Sem Next).run P w := by rw [hex]; simp only [List.map_toArray, List.map_cons, List.map_nil]; rfl
        unfold clearA at h
        split at h
        · rename_i l c e' hb
          rw [hb] at hx
          obtain ⟨q1, q2, q3⟩ := slice_none hx
          simp only [Option.some.injEq] at h
          subst h
          refine ⟨w, ?_, hH⟩
          rw [hex, q3]
          simp [Builtin.clear_, run_underlying hu, Go.undef]
        · rename_i b o' n c e' hb
          rw [hb] at hx
          obtain ⟨q1, q2, cb, sh, cs, y, c', q3, q4, q5, q6⟩ := slice_of hx
          split at h
          · rename_i hn
            subst hn
            simp only [Option.some.injEq] at h
            subst h
            refine ⟨w, ?_, hH⟩
            rw [hex, q5]
            simp [Builtin.clear_, run_underlying hu, Go.undef]
          · rename_i hn
            split at h
            · rename_i hee
              obtain ⟨rfl, hzl⟩ := hee
              obtain ⟨zv, hz1, hz2⟩ := run_zero h4.2 (P := P) w (φ := φ)
              have hrep := rep_rel hz2 n
              obtain ⟨hy, _, _⟩ := q6 (by omega)
              subst hy
              obtain ⟨w', r1, r2⟩ := stn_sim (P := P) hH h hrep q3 (z := ⟨cb, sh + o', none⟩) (fun _ => rfl)
              refine ⟨w', ?_, r2⟩
              rw [hex, q5]
              have r1' : (storeCells ⟨cb, sh + o', none⟩ (Builtin.zeroCells zv.cells n).toList).run P w = .ok () w' := r1
              cases n with
              | zero => exact absurd rfl hn
              | succ n =>
                simp [Builtin.clear_, run_underlying hu, Go.undef, hz1, r1']
            · cases h
        · cases h
      · cases h4
    · cases hc
  · cases hc
def CallsOk (P : Program) (G : List Nat) (B : Nat) (w0 : World) (rec : Nat → List AV → AH → Option (AV × AH)) : Prop :=
  ∀ f args H v H', rec f args H = some (v, H') → ∀ (φ : Phi) (w : World) (cargs : Array Value), HRel B w0 φ H w → GRel G φ → R2 (AVRel φ) args cargs.toList →
    (∃ fn, P.funcs[f]? = some fn ∧ fn.body.isNone = false ∧ (fn.name == "runtime.NumGoroutine") = false) ∧
    Calls P f cargs w fun e w' => ∃ φ' cv, e = .returned cv ∧ Ext φ φ' ∧ HRel B w0 φ' H' w' ∧ AVRel φ' v cv
def chkOp (P : Program) (G : List Nat) (r : ROp) (op : Op) : Bool :=
  match r.kind with
  | .pure => chkPure P G r op
  | .load => chkPure P G r op
  | .alloc => chkAlloc P G r op
  | .eff => chkEff P G r op
theorem call_fn (f : Nat) (cargs : Array Value) (w : World) {fn : Func} (h1 : P.funcs[f]? = some fn) (h2 : fn.body.isNone = false) (h3 : (fn.name == "runtime.NumGoroutine") = false) :
    (callFunc f cargs).run P w = .ok (.enter f cargs) w := by
  simp only [callFunc, Sem.run_bind, run_program, Result.andThen_ok, h1, h3, Bool.false_eq_true, if_false, h2, Sem.run_pure]
abbrev EntRel (φ : Phi) (p : SV × Part) (q : MapEntry) : Prop := SVRel φ p.1 q.key ∧ PartRel φ p.2 q.val
theorem HRel.setMap (h : HRel B w0 φ H w) {b : Nat} {es es' : List (SV × Part)} (hb : H.blk b = some (.map es)) {cb sh cs : Nat} (hφ : φ b = some (cb, sh, cs)) {ces' : Array MapEntry} {clk' : Nat} (hr : R2 (EntRel φ) es' ces'.toList) :
    HRel B w0 φ (H.set b (.map es')) { w with heap := w.heap.setIfInBounds cb (.map ces' clk') } := by
  obtain ⟨cb0, sh0, cs0, ces, clk, g1, g2, g3, g4⟩ := h.maps b es hb
  rw [hφ] at g1
  cases g1
  have hsz := (Array.getElem?_eq_some_iff.1 g2).1
  have hget : ∀ x, x ≠ cb → (w.heap.setIfInBounds cb (.map ces' clk'))[x]? = w.heap[x]? := fun x hx => by
    rw [Array.getElem?_setIfInBounds, if_neg (fun e => hx e.symm)]
  have hself : (w.heap.setIfInBounds cb (.map ces' clk'))[cb]? = some (.map ces' clk') := by
    rw [Array.getElem?_setIfInBounds, if_pos rfl, if_pos hsz]
  refine { dom := ?_, lt := ?_, cells := ?_, maps := ?_, inj := ?_, old := ?_, bound := ?_, os := h.os, out := h.out, nf := ?_ }
  · intro b' hb'
    simp only [AH.set, upd] at hb'
    split at hb'
    · cases hb'
    · exact h.dom b' hb'
  · intro b' hb'
    simp only [AH.set, upd] at hb' ⊢
    rw [if_neg (fun hc => by subst hc; rw [h.lt _ hb'] at hb; cases hb)]
    exact h.lt b' hb'
  · intro b' ro l hb'
    simp only [AH.set, upd] at hb'
    split at hb'
    · cases hb'
    · obtain ⟨cb', sh', cs', c, e, fr, k1, k2, k3⟩ := h.cells b' ro l hb'
      refine ⟨cb', sh', cs', c, e, fr, k1, ?_, k3⟩
      show (w.heap.setIfInBounds cb _)[cb']? = _
      rw [hget _ (fun e => by subst e; rw [g2] at k2; cases k2)]
      exact k2
  · intro b' es2 hb'
    simp only [AH.set, upd] at hb'
    split at hb'
    · rename_i e
      subst e
      cases hb'
      exact ⟨cb, sh, cs, ces', clk', hφ, hself, hr, g4⟩
    · rename_i hne
      obtain ⟨cb', sh', cs', ces2, clk2, k1, k2, k3, k4⟩ := h.maps b' es2 hb'
      refine ⟨cb', sh', cs', ces2, clk2, k1, ?_, k3, k4⟩
      show (w.heap.setIfInBounds cb _)[cb']? = _
      rw [hget _ (fun e => by
        subst e
        rcases h.inj b' b _ _ k1 hφ (by rw [hb']; simp) (by rw [hb]; simp) rfl with e | ⟨_, _, e, _⟩
        · exact hne e
        · rw [hb'] at e; cases e)]
      exact k2
  · intro b1 b2 x1 x2 h1 h2 d1 d2 hx
    simp only [AH.set, upd] at d1 d2 ⊢
    have o1 : H.blk b1 ≠ some .dead := by
      by_cases e : b1 = b
      · subst e; rw [hb]; simp
      · rw [if_neg e] at d1; exact d1
    have o2 : H.blk b2 ≠ some .dead := by
      by_cases e : b2 = b
      · subst e; rw [hb]; simp
      · rw [if_neg e] at d2; exact d2
    rcases h.inj b1 b2 x1 x2 h1 h2 o1 o2 hx with e | ⟨l, l', e1, e2⟩
    · exact .inl e
    · refine .inr ⟨l, l', ?_, ?_⟩
      · rw [if_neg (fun e => by subst e; rw [hb] at e1; cases e1)]; exact e1
      · rw [if_neg (fun e => by subst e; rw [hb] at e2; cases e2)]; exact e2
  · intro c hc
    show (w.heap.setIfInBounds cb _)[c]? = _
    rw [hget _ (by omega)]
    exact h.old c hc
  · show B ≤ (w.heap.setIfInBounds cb _).size
    rw [Array.size_setIfInBounds]; exact h.bound
  · exact fun _ _ _ _ _ _ => rfl
theorem HRel.newMap (h : HRel B w0 φ H w) {id : Nat} {H' : AH} (hn : H.new id (.map []) = some H') (hid : id < H.next) :
    ∃ φ', Ext φ φ' ∧ φ' id = some (w.heap.size, 0, 0) ∧ HRel B w0 φ' H' { w with heap := w.heap.push (.map #[] 0) } := by
  unfold AH.new at hn
  split at hn
  · rename_i hb
    cases hn
    have hφ := h.dom id hb
    have hext : Ext φ (fun b => if b = id then some (w.heap.size, 0, 0) else φ b) := by
      intro b x hx
      by_cases hbi : b = id
      · subst hbi; rw [hφ] at hx; cases hx
      · simp [hbi, hx]
    refine ⟨fun b => if b = id then some (w.heap.size, 0, 0) else φ b, hext, by simp, ?_⟩
    have hget : ∀ x, x < w.heap.size → (w.heap.push (Obj.map #[] 0))[x]? = w.heap[x]? := by
      intro x hx; rw [Array.getElem?_push]; rw [if_neg (by omega)]
    refine { dom := ?_, lt := ?_, cells := ?_, maps := ?_, inj := ?_, old := ?_, bound := ?_, os := h.os, out := h.out, nf := ?_ }
    · intro b' hb'
      simp only [AH.set, upd] at hb'
      split at hb'
      · cases hb'
      · rename_i hne; simp [hne, h.dom b' hb']
    · intro b' hb'
      simp only [AH.set, upd] at hb' ⊢
      rw [if_neg (by omega)]
      exact h.lt b' hb'
    · intro b' ro' l'' hb'
      simp only [AH.set, upd] at hb'
      split at hb'
      · cases hb'
      · rename_i hne
        obtain ⟨cb', sh', cs', c', e', fr', g1, g2, g3, g4, g5, g6⟩ := h.cells b' ro' l'' hb'
        have hlt := (Array.getElem?_eq_some_iff.1 g2).1
        refine ⟨cb', sh', cs', c', e', fr', by simp [hne, g1], (hget _ hlt).trans g2, g3, g4, ?_, g6⟩
        intro i x hx
        obtain ⟨v, hv, hrv⟩ := g5 i x hx
        exact ⟨v, hv, hrv.mono hext⟩
    · intro b' es hb'
      simp only [AH.set, upd] at hb'
      split at hb'
      · rename_i heq
        cases hb'
        refine ⟨w.heap.size, 0, 0, #[], 0, by simp [heq], ?_, trivial, h.bound⟩
        show (w.heap.push (Obj.map #[] 0))[w.heap.size]? = _
        simp
      · rename_i hne
        obtain ⟨cb', sh', cs', ces, clk, g1, g2, g3, g4⟩ := h.maps b' es hb'
        have hlt := (Array.getElem?_eq_some_iff.1 g2).1
        exact ⟨cb', sh', cs', ces, clk, by simp [hne, g1], (hget _ hlt).trans g2, R2.mono (fun _ _ hp => ⟨hp.1.mono hext, hp.2.mono hext⟩) g3, g4⟩
    · intro b1 b2 x1 x2 hx1 hx2 hd1 hd2 hxe
      by_cases e1 : b1 = id
      · by_cases e2 : b2 = id
        · exact .inl (e1.trans e2.symm)
        · simp only [e1, e2, if_true, if_false] at hx1 hx2
          cases hx1
          have := h.lt_size hx2 (by intro hd; apply hd2; simp only [AH.set, upd]; rw [if_neg e2]; exact hd)
          simp only at hxe; omega
      · by_cases e2 : b2 = id
        · simp only [e1, e2, if_true, if_false] at hx1 hx2
          cases hx2
          have := h.lt_size hx1 (by intro hd; apply hd1; simp only [AH.set, upd]; rw [if_neg e1]; exact hd)
          simp only at hxe; omega
        · simp only [e1, e2, if_false] at hx1 hx2
          have l1 : H.blk b1 ≠ some .dead := by intro hd; apply hd1; simp only [AH.set, upd]; rw [if_neg e1]; exact hd
          have l2 : H.blk b2 ≠ some .dead := by intro hd; apply hd2; simp only [AH.set, upd]; rw [if_neg e2]; exact hd
          rcases h.inj b1 b2 x1 x2 hx1 hx2 l1 l2 hxe with heq | ⟨m1, m2, k1, k2⟩
          · exact .inl heq
          · exact .inr ⟨m1, m2, by simp only [AH.set, upd]; rw [if_neg e1]; exact k1, by simp only [AH.set, upd]; rw [if_neg e2]; exact k2⟩
    · intro c' hc'
      exact (hget _ (by have := h.bound; omega)).trans (h.old c' hc')
    · show B ≤ (w.heap.push (Obj.map #[] 0)).size
      rw [Array.size_push]; have := h.bound; omega
    · exact fun _ _ _ _ _ _ => rfl
  · cases hn
theorem find_sim {kd k : IntKind} {n : Int} : ∀ {es : List (SV × Part)} {ces : List MapEntry} {i : Nat} {x : Option (Nat × Part)}, R2 (EntRel φ) es ces → findK k n es i = some x →
    (x = none → Instr.findNow (.int kd) (.int k n) ces i = some none) ∧ (∀ j p, x = some (j, p) → i ≤ j ∧ ∃ q : MapEntry, ces[j - i]? = some q ∧ Instr.findNow (.int kd) (.int k n) ces i = some (some (j, q.val)) ∧ q.key = .int k n ∧ PartRel φ p q.val)
  | [], [], i, x, _, h => by
    simp only [findK, Option.some.injEq] at h
    subst h
    exact ⟨fun _ => rfl, fun j p hp => by cases hp⟩
  | (y, p) :: es, q :: ces, i, x, hr, h => by
    obtain ⟨⟨r1, r2⟩, r3⟩ := hr
    cases y with
    | int k' n' =>
      have hk : q.key = .int k' n' := r1
      simp only [findK] at h
      split at h
      · rename_i e1
        subst e1
        split at h
        · rename_i e2
          subst e2
          simp only [Option.some.injEq] at h
          subst h
          refine ⟨fun h => (by cases h), fun j p' hp => ?_⟩
          cases hp
          refine ⟨Nat.le_refl _, q, by simp, ?_, hk, r2⟩
          simp only [Instr.findNow, hk, Instr.sameNow, if_true]
          simp
        · rename_i e2
          obtain ⟨i1, i2⟩ := find_sim (kd := kd) r3 h
          have e : Instr.findNow (.int kd) (.int k n) (q :: ces) i = Instr.findNow (.int kd) (.int k n) ces (i + 1) := by
            have hne : (n == n') = false := by simpa using e2
            simp only [Instr.findNow, hk, Instr.sameNow, if_true, hne]
          refine ⟨fun hx => by rw [e]; exact i1 hx, fun j p' hp => ?_⟩
          obtain ⟨h1, q', h2, h3, h4⟩ := i2 j p' hp
          refine ⟨by omega, q', ?_, by rw [e]; exact h3, h4⟩
          rw [show j - i = (j - (i + 1)) + 1 by omega]
          exact h2
      · cases h
    | _ => simp [findK] at h
  | [], _ :: _, _, _, hr, _ => hr.elim
  | _ :: _, [], _, _, hr, _ => hr.elim
theorem R2.set {α β : Type} {R : α → β → Prop} : ∀ {as : List α} {bs : List β} (i : Nat) {x : α} {y : β}, R2 R as bs → R x y → R2 R (as.set i x) (bs.set i y)
  | [], [], _, _, _, _, _ => trivial
  | _ :: _, _ :: _, 0, _, _, h, hx => ⟨hx, h.2⟩
  | _ :: _, _ :: _, i + 1, _, _, h, hx => ⟨h.1, R2.set i h.2 hx⟩
  | [], _ :: _, _, _, _, h, _ => h.elim
  | _ :: _, [], _, _, _, h, _ => h.elim
theorem R2.erase {α β : Type} {R : α → β → Prop} : ∀ {as : List α} {bs : List β} (i : Nat), R2 R as bs → R2 R (as.eraseIdx i) (bs.eraseIdx i)
  | [], [], _, _ => trivial
  | _ :: _, _ :: _, 0, h => h.2
  | _ :: _, _ :: _, i + 1, h => ⟨h.1, R2.erase i h.2⟩
  | [], _ :: _, _, h => h.elim
  | _ :: _, [], _, h => h.elim
theorem intMap_eq {t : TypeId} (h : intMap P t = true) : ∃ kt et kd, P.underlying t = some (.map kt et) ∧ P.underlying kt = some (.int kd) := by
  unfold intMap at h
  split at h
  · rename_i kt et hm
    split at h
    · rename_i kd hk; exact ⟨kt, et, kd, hm, hk⟩
    · cases h
  · cases h
theorem run_checkKey1 {kt : TypeId} {kd : IntKind} (h : P.underlying kt = some (.int kd)) (b : Bool) (d : Nat) (k : IntKind) (n : Int) (w : World) : (Instr.checkKey b (d + 1) kt (.int k n)).run P w = .ok () w := by
  simp only [Instr.checkKey, Sem.run_bind, run_underlying h, Result.andThen_ok]
  rfl
theorem run_checkKey {kt : TypeId} {kd : IntKind} (h : P.underlying kt = some (.int kd)) (b : Bool) (k : IntKind) (n : Int) (w : World) : (Instr.checkKey b 10000 kt (.int k n)).run P w = .ok () w := by
  exact run_checkKey1 h b 9999 k n w
theorem run_findKey {kt : TypeId} {kd : IntKind} (h : P.underlying kt = some (.int kd)) (k : IntKind) (n : Int) {ces : List MapEntry} {r : Option (Nat × Value)} (hr : Instr.findNow (.int kd) (.int k n) ces 0 = some r) (w : World) : (Instr.findKey kt (.int k n) ces).run P w = .ok r w := by
  simp [Instr.findKey, run_underlying h, hr]
theorem part_av {p : Part} {q : Value} (h : PartRel φ p q) : AVRel φ p.av q := by
  cases p <;> exact h
theorem av_part {x : AV} {p : Part} (hp : x.part? = some p) {q : Value} (h : AVRel φ x q) : PartRel φ p q := by
  cases x <;> simp only [AV.part?, Option.some.injEq, reduceCtorEq] at hp <;> subst hp <;> exact h
theorem run_getMap {r : Nat} {ces : Array MapEntry} {clk : Nat} (h : w.heap[r]? = some (.map ces clk)) : (getObj r).run P w = .ok (.map ces clk) w := by
  simp [getObj, Sem.run, h]
theorem run_setMap {r : Nat} {ces : Array MapEntry} {clk : Nat} (h : w.heap[r]? = some (.map ces clk)) (o : Obj) : (setObj r o).run P w = .ok () { w with heap := w.heap.setIfInBounds r o } := by
  simp [setObj, Sem.run, h]
theorem hop_sim (hH : HRel B w0 φ H w) (hT : TRel φ T a.tmps) (hG : GRel G φ) {g : HOp} {args : List Opd} {o : Oper} (hc : chkHop P G g args o.op = true) {id : Nat} (hid : id < H.next) {v : AV} (h : hopA g id (args.map (ev T)) H = some (v, H')) : Done P B w0 φ H' v (execOp a.eval o) w := by
  cases g with
  | makeMap =>
    simp only [chkHop] at hc
    split at hc
    · rename_i t hop
      simp only [List.map_nil, hopA, Option.map_eq_some_iff, Prod.mk.injEq] at h
      obtain ⟨H1, h1, rfl, rfl⟩ := h
      obtain ⟨φ', e1, e2, e3⟩ := hH.newMap h1 hid
      refine ⟨.map (some w.heap.size), _, φ', .inl ?_, e1, e3, ⟨_, _, _, e2, rfl⟩⟩
      simp only [execOp, hop, Option.map_none, Instr.makeMap]
      simp [newObj, Sem.run]
    · cases hc
  | lookup ok =>
    simp only [chkHop] at hc
    split at hc
    · rename_i t m k ok' m' k' hop
      simp only [Bool.and_eq_true, beq_iff_eq] at hc
      obtain ⟨⟨⟨c1, c2⟩, c3⟩, c4⟩ := hc
      subst c1
      obtain ⟨kt, et, kd, u1, u2⟩ := intMap_eq c4
      have hm := opd_rel c2 hT hG
      have hk := opd_rel c3 hT hG
      simp only [List.map_cons, List.map_nil] at h
      generalize ev T m' = x at *
      generalize ev T k' = y at *
      unfold hopA at h
      split at h <;> (rename_i e1 e2; simp only [HOp.lookup.injEq, reduceCtorEq, List.cons.injEq, and_true] at e1 e2)
      · obtain ⟨rfl, rfl⟩ := e2
        subst e1
        split at h
        · rename_i es hb
          split at h
          · rename_i i p hf
            simp only [Option.some.injEq, Prod.mk.injEq] at h
            obtain ⟨rfl, rfl⟩ := h
            obtain ⟨cb, sh, cs, ces, clk, g1, g2, g3, g4⟩ := hH.maps _ es hb
            obtain ⟨cb', sh', cs', k1, k2⟩ := hm
            rw [g1] at k1
            cases k1
            have hk : a.eval k = .int _ _ := hk
            obtain ⟨_, q, f1, f2, f3, f4⟩ := (find_sim (kd := kd) g3 hf).2 _ _ rfl
            have hrun := run_findKey (P := P) u2 _ _ f2 w
            refine ⟨if ok then .tuple #[q.val, .bool true] else q.val, w, φ, .inl ?_, Ext.refl _, hH, ?_⟩
            · simp only [execOp, hop, k2, hk, Instr.lookup, Sem.run_bind, run_underlying u1, Result.andThen_ok, run_getMap g2, Sem.run_pure, run_checkKey u2, hrun]
            · cases ok with
              | true => exact ⟨[q.val, .bool true], ⟨f4, rfl, trivial⟩, rfl⟩
              | false => exact part_av f4
          · cases h
        · cases h
      · cases h
    · cases hc
  | update =>
    simp only [chkHop] at hc
    split at hc
    · rename_i t m k v0 m' k' v' hop
      simp only [Bool.and_eq_true] at hc
      obtain ⟨⟨⟨c2, c3⟩, c5⟩, c4⟩ := hc
      obtain ⟨kt, et, kd, u1, u2⟩ := intMap_eq c4
      have hm := opd_rel c2 hT hG
      have hk := opd_rel c3 hT hG
      have hv := opd_rel c5 hT hG
      simp only [List.map_cons, List.map_nil] at h
      generalize ev T m' = x at *
      generalize ev T k' = y at *
      generalize ev T v' = z at *
      unfold hopA at h
      split at h <;> (rename_i e1 e2; simp only [reduceCtorEq, List.cons.injEq, and_true] at e1 e2)
      · rename_i rr kk nn zz _
        obtain ⟨rfl, rfl, rfl⟩ := e2
        split at h
        · rename_i es p hb hp
          obtain ⟨cb, sh, cs, ces, clk, g1, g2, g3, g4⟩ := hH.maps _ es hb
          obtain ⟨cb', sh', cs', k1, k2⟩ := hm
          rw [g1] at k1
          cases k1
          have hk : a.eval k = .int _ _ := hk
          have hpv := av_part hp hv
          split at h
          · rename_i i p0 hf
            simp only [Option.some.injEq, Prod.mk.injEq] at h
            obtain ⟨rfl, rfl⟩ := h
            obtain ⟨_, q, f1, f2, f3, f4⟩ := (find_sim (kd := kd) g3 hf).2 _ _ rfl
            have hrun := run_findKey (P := P) u2 _ _ f2 w
            simp only [Nat.sub_zero] at f1
            have fa : ces[i]? = some q := by rw [← Array.getElem?_toList]; exact f1
            refine ⟨Go.undef, _, φ, .inr ⟨?_, rfl⟩, Ext.refl _, hH.setMap (ces' := ces.modify i fun e => { e with key := a.eval k, val := a.eval v0 }) (clk' := clk) hb g1 ?_, AVRel_undef _⟩
            · simp only [execOp, hop, k2, hk, Instr.mapUpdate, Sem.run_bind, run_underlying u1, Result.andThen_ok, run_getMap g2, run_checkKey u2, hrun, fa, Option.map_some, Option.getD_some, f3]
              simp [Instr.keyThatStays, Instr.sameBits, run_setMap g2]
            · have : (ces.modify i fun e => { e with key := a.eval k, val := a.eval v0 }).toList = ces.toList.set i { q with key := a.eval k, val := a.eval v0 } := by
                rw [Array.toList_modify]
                apply List.ext_getElem?
                intro j
                rw [List.getElem?_modify, List.getElem?_set]
                by_cases e : i = j
                · subst e
                  rw [if_pos rfl, if_pos (List.getElem?_eq_some_iff.1 f1).1, f1]
                  simp
                · rw [if_neg e]
                  simp [e]
              rw [this]
              exact R2.set i g3 ⟨hk, hpv⟩
          · rename_i hf
            simp only [Option.some.injEq, Prod.mk.injEq] at h
            obtain ⟨rfl, rfl⟩ := h
            have f2 := (find_sim (kd := kd) g3 hf).1 rfl
            have hrun := run_findKey (P := P) u2 _ _ f2 w
            refine ⟨Go.undef, _, φ, .inr ⟨?_, rfl⟩, Ext.refl _, hH.setMap (ces' := ces.push { key := a.eval k, val := a.eval v0, born := clk }) (clk' := clk + 1) hb g1 ?_, AVRel_undef _⟩
            · simp only [execOp, hop, k2, hk, Instr.mapUpdate, Sem.run_bind, run_underlying u1, Result.andThen_ok, run_getMap g2, run_checkKey u2, hrun, run_setMap g2, Sem.run_pure]
            · rw [Array.toList_push]
              exact R2.append g3 ⟨⟨hk, hpv⟩, trivial⟩
          · cases h
        · cases h
      · cases h
    · cases hc
  | delete =>
    simp only [chkHop] at hc
    split at hc
    · rename_i as ts m' k' hop
      split at hc
      · rename_i m k t t2 has hts
        have has := args2 has
        have hts := args2 hts
        subst has; subst hts
        simp only [Bool.and_eq_true] at hc
        obtain ⟨⟨c2, c3⟩, c4⟩ := hc
        obtain ⟨kt, et, kd, u1, u2⟩ := intMap_eq c4
        have hm := opd_rel c2 hT hG
        have hk := opd_rel c3 hT hG
        simp only [List.map_cons, List.map_nil] at h
        generalize ev T m' = x at *
        generalize ev T k' = y at *
        obtain ⟨cs0, hex⟩ := exec_builtin (P := P) (a := a) hop w
        have hex : (execOp a.eval o).run P w = (do pure (.value (← Builtin.delete_ #[t, t2] o.type #[a.eval m, a.eval k])) : Sem Next).run P w := by rw [hex]; simp only [List.map_toArray, List.map_cons, List.map_nil]; rfl
        unfold hopA at h
        split at h <;> (rename_i e1 e2; simp only [reduceCtorEq, List.cons.injEq, and_true] at e1 e2)
        · obtain ⟨rfl, rfl⟩ := e2
          split at h
          · rename_i es hb
            obtain ⟨cb, sh, cs, ces, clk, g1, g2, g3, g4⟩ := hH.maps _ es hb
            obtain ⟨cb', sh', cs', k1, k2⟩ := hm
            rw [g1] at k1
            cases k1
            have hk : a.eval k = .int _ _ := hk
            split at h
            · rename_i i p0 hf
              simp only [Option.some.injEq, Prod.mk.injEq] at h
              obtain ⟨rfl, rfl⟩ := h
              obtain ⟨_, q, f1, f2, f3, f4⟩ := (find_sim (kd := kd) g3 hf).2 _ _ rfl
              have hrun := run_findKey (P := P) u2 _ _ f2 w
              refine ⟨Go.undef, _, φ, .inl ?_, Ext.refl _, hH.setMap (ces' := ces.eraseIdxIfInBounds i) (clk' := clk) hb g1 ?_, AVRel_undef _⟩
              · rw [hex, k2, hk]
                simp [Builtin.delete_, run_underlying u1, run_getMap g2, run_checkKey u2, hrun, run_setMap g2, Go.undef]
              · rw [Array.toList_eraseIdxIfInBounds]
                exact R2.erase i g3
            · rename_i hf
              simp only [Option.some.injEq, Prod.mk.injEq] at h
              obtain ⟨rfl, rfl⟩ := h
              have f2 := (find_sim (kd := kd) g3 hf).1 rfl
              have hrun := run_findKey (P := P) u2 _ _ f2 w
              refine ⟨Go.undef, _, φ, .inl ?_, Ext.refl _, hH.setMap (ces' := ces) (clk' := clk) hb g1 g3, AVRel_undef _⟩
              rw [hex, k2, hk]
              simp [Builtin.delete_, run_underlying u1, run_getMap g2, run_checkKey u2, hrun, run_setMap g2, Go.undef]
            · cases h
          · cases h
        · cases h
      · cases hc
    · cases hc
  | slArr len esz =>
    simp only [chkHop] at hc
    split at hc
    · rename_i t x x' hop
      split at hc
      · rename_i n e he
        simp only [Bool.and_eq_true, beq_iff_eq, decide_eq_true_eq] at hc
        obtain ⟨⟨⟨c1, c0⟩, c2⟩, c3⟩ := hc
        subst c1
        have hu := arrElem_eq he
        have hx := opd_rel c3 hT hG
        simp only [List.map_cons, List.map_nil] at h
        generalize ev T x' = y at *
        unfold hopA at h
        split at h <;> (rename_i e1 e2; simp only [HOp.slArr.injEq, reduceCtorEq, List.cons.injEq, and_true] at e1 e2)
        · obtain ⟨rfl, rfl⟩ := e1
          subst e2
          split at h
          · rename_i ro l hb
            split at h
            · rename_i hle
              simp only [Option.some.injEq, Prod.mk.injEq] at h
              obtain ⟨rfl, rfl⟩ := h
              obtain ⟨cb, sh, cs, c, et, fr, g1, g2, g3, g4, _⟩ := hH.cells _ ro l hb
              obtain ⟨cb', sh', cs', k1, k2⟩ := ptr_of hx
              rw [g1] at k1
              cases k1
              obtain ⟨h0, h1⟩ := hle
              refine ⟨.slice (some ⟨cb, sh + _, none⟩) _ _, w, φ, .inl ?_, Ext.refl _, hH, ⟨h0, Nat.le_refl _, cb, sh, cs, _, _, g1, Nat.le_refl _, rfl, fun _ => ⟨rfl, by omega, by omega⟩⟩⟩
              simp only [execOp, hop, Option.map_none, Instr.sliceAt, Sem.run_bind, run_underlying hu, Result.andThen_ok, k2, Instr.sureAddr, Sem.run_pure, Instr.sliceBounds, run_szOf c2]
              simp [Addr.add]
            · cases h
          · cases h
        · cases h
      · cases hc
    · cases hc
  | slArrH len esz =>
    simp only [chkHop] at hc
    split at hc
    · rename_i t x hi x' hi' hop
      split at hc
      · rename_i n e he
        simp only [Bool.and_eq_true, beq_iff_eq, decide_eq_true_eq] at hc
        obtain ⟨⟨⟨⟨c1, c0⟩, c2⟩, c3⟩, c4⟩ := hc
        subst c1
        have hu := arrElem_eq he
        have hx := opd_rel c3 hT hG
        have hy := opd_rel c4 hT hG
        simp only [List.map_cons, List.map_nil] at h
        generalize ev T x' = y at *
        generalize ev T hi' = z at *
        unfold hopA at h
        split at h <;> (rename_i e1 e2; simp only [HOp.slArrH.injEq, reduceCtorEq, List.cons.injEq, and_true] at e1 e2)
        · obtain ⟨rfl, rfl⟩ := e1
          obtain ⟨rfl, rfl⟩ := e2
          split at h
          · rename_i ro l hb
            split at h
            · rename_i hle
              simp only [Option.some.injEq, Prod.mk.injEq] at h
              obtain ⟨rfl, rfl⟩ := h
              obtain ⟨cb, sh, cs, c, et, fr, g1, g2, g3, g4, _⟩ := hH.cells _ ro l hb
              obtain ⟨cb', sh', cs', k1, k2⟩ := ptr_of hx
              rw [g1] at k1
              cases k1
              obtain ⟨h0, h1, h2, h3⟩ := hle
              have hy : a.eval hi = .int _ _ := hy
              refine ⟨.slice (some ⟨cb, sh + _, none⟩) _ _, w, φ, .inl ?_, Ext.refl _, hH, ⟨h0, by omega, cb, sh, cs, _, _, g1, Nat.le_refl _, rfl, fun _ => ⟨rfl, by omega, by omega⟩⟩⟩
              simp only [execOp, hop, Option.map_none, Option.map_some, Instr.sliceAt, Sem.run_bind, run_underlying hu, Result.andThen_ok, k2, Instr.sureAddr, Sem.run_pure, Instr.sliceBounds, Instr.sliceBound, hy, asIntOf, run_szOf c2]
              simp [Addr.add, h2, h3]
            · cases h
          · cases h
        · cases h
      · cases hc
    · cases hc
  | toStr =>
    simp only [chkHop] at hc
    split at hc
    · rename_i src dst x x' hop
      simp only [Bool.and_eq_true] at hc
      obtain ⟨⟨c1, c2⟩, c3⟩ := hc
      split at c2
      · rename_i e he
        split at c3
        · rename_i hd
          have hu := slElem_eq he
          have h2 : isInt P e = some .u8 := by simpa using c2
          have hue : P.underlying e = some (.int .u8) := by
            unfold isInt at h2
            split at h2
            · cases h2; assumption
            · cases h2
          have hx := opd_rel c1 hT hG
          simp only [List.map_cons, List.map_nil] at h
          generalize ev T x' = y at *
          unfold hopA at h
          split at h <;> (try (rename_i e1 _; cases e1; done))
          · rename_i ba len cap es e1 e2
            simp only [List.cons.injEq, and_true] at e2
            subst e2
            simp only [Option.map_eq_some_iff, Option.bind_eq_some_iff, Prod.mk.injEq] at h
            obtain ⟨bs, ⟨l, hl, hb⟩, rfl, rfl⟩ := h
            have hbl : ∀ (l : List SV) (bs : List UInt8), bytesA l = some bs → l = bs.map fun b => SV.int .u8 (b.toNat : Int) := by
              intro l
              induction l with
              | nil => intro bs h; simp [bytesA] at h; subst h; rfl
              | cons s l ih =>
                intro bs h
                cases s <;> first | (simp only [bytesA, reduceCtorEq] at h; done) | skip
                rename_i kk nn
                cases kk <;> simp only [bytesA, reduceCtorEq] at h
                split at h
                · rename_i hr
                  simp only [Option.map_eq_some_iff] at h
                  obtain ⟨bs', h1, rfl⟩ := h
                  rw [ih bs' h1, List.map_cons]
                  congr 1
                  show SV.int .u8 nn = SV.int .u8 _
                  congr 1
                  rw [UInt8.toNat_ofNat']
                  omega
                · cases h
            have hcells := hbl l bs hb
            have hlen : l.length = len * 1 := sliceCells_length hl (m := len) rfl (Nat.le_refl _) hx
            have hbsl : bs.length = len := by rw [hcells, List.length_map] at hlen; omega
            refine ⟨.string ⟨bs.toArray⟩, w, φ, .inl ?_, Ext.refl _, hH, rfl⟩
            cases ba with
            | none =>
              obtain ⟨rfl, rfl, hv⟩ := hx
              have : bs = [] := List.length_eq_zero_iff.1 hbsl
              subst this
              simp only [execOp, hop, hv, Sem.run_bind]
              rw [run_convert_bytes_string w src dst e none 0 0 hu hue hd]
              rfl
            | some p =>
              obtain ⟨q6, q7, cb, sh, cs, z, c', q8, q9, q10, q11⟩ := slice_of hx
              have hconv := run_convert_bytes_back (P := P) w src dst e z c' bs hu hue hd (fun j hj => by
                simp only [sliceCells] at hl
                split at hl
                · rename_i hee
                  obtain ⟨cb', sh', cs', vs, g1, g2, g3, g4, g5⟩ := hH.ldn hl
                  rw [q8] at g1
                  cases g1
                  obtain ⟨hz, _⟩ := q11 (by omega)
                  subst hz
                  have hlj : l[j]? = some (.int .u8 (bs[j].toNat : Int)) := by rw [hcells, List.getElem?_map, List.getElem?_eq_getElem hj]; rfl
                  obtain ⟨v, hv, hr⟩ := g5.get _ _ hlj
                  have hr : v = .int .u8 (bs[j].toNat : Int) := hr
                  subst hr
                  rw [add_eq, ← Nat.add_assoc]
                  exact g4 j _ hv
                · cases hl)
              rw [hbsl] at hconv
              simp only [execOp, hop, q10, Sem.run_bind, hconv]
              simp
          · cases h
        · cases c3
      · cases c2
    · cases hc
theorem op_sim {rec : Nat → List AV → AH → Option (AV × AH)} (hrec : CallsOk P G B w0 rec) (hH : HRel B w0 φ H w) (hT : TRel φ T a.tmps) (hG : GRel G φ) {r : ROp} {o : Oper} (hc : chkOp P G r o.op = true) {id : Nat} (hid : id < H.next) {v : AV}
    (h : opA rec (ev T) id H r = some (v, H')) {K : Act → World → Prop} {Q : Exit → Act → World → Prop}
    (hK : ∀ φ' cv w', Ext φ φ' → HRel B w0 φ' H' w' → AVRel φ' v cv → K (a.put o.dst cv) w') : o.wp P a w K Q := by
  have fin : Done P B w0 φ H' v (execOp a.eval o) w → o.wp P a w K Q := by
    rintro ⟨cv, w', φ', hr, h1, h2, h3⟩
    unfold Oper.wp
    rcases hr with hr | ⟨hr, hu⟩
    · rw [hr]; exact hK φ' cv w' h1 h2 h3
    · rw [hr]; subst hu; exact hK φ' _ w' h1 h2 h3
  have pureFin : H' = H → PureDone P φ (execOp a.eval o) w v → o.wp P a w K Q := by
    rintro rfl ⟨cv, h1, h2⟩
    exact fin ⟨cv, w, φ, .inl h1, Ext.refl _, hH, h2⟩
  unfold chkOp at hc
  unfold opA at h
  split at h
  · rename_i hk
    rw [hk] at hc
    simp only [Option.map_eq_some_iff, Prod.mk.injEq] at h
    obtain ⟨v', hv, rfl, rfl⟩ := h
    exact pureFin rfl (pure_sim hT hG hc hv)
  · rename_i hk
    rw [hk] at hc
    simp only [Option.map_eq_some_iff, Prod.mk.injEq] at h
    obtain ⟨v', hv, rfl, rfl⟩ := h
    exact pureFin rfl (load_sim hH hT hG hc hv)
  · rename_i hk
    rw [hk] at hc
    simp only [Option.bind_eq_some_iff, Option.map_eq_some_iff, Prod.mk.injEq] at h
    obtain ⟨⟨l, v'⟩, hv, H1, hn, rfl, rfl⟩ := h
    exact fin (alloc_sim hH hT hG hc hid hv hn)
  · rename_i hk
    rw [hk] at hc
    cases r with
    | store n b u =>
      simp only [effO, Option.map_eq_some_iff, Prod.mk.injEq] at h
      obtain ⟨H1, h1, rfl, rfl⟩ := h
      exact fin (store_sim hH hT hG hc h1)
    | append esz bytes s x => exact fin (append_sim hH hT hG hid hc h)
    | copy esz d s => exact fin (copy_sim hH hT hG hc h)
    | clear esz z x =>
      simp only [effO, Option.map_eq_some_iff, Prod.mk.injEq] at h
      obtain ⟨H1, h1, rfl, rfl⟩ := h
      obtain ⟨w', h2, h3⟩ := clear_sim hH hT hG hc h1
      exact fin ⟨_, w', φ, .inl h2, Ext.refl _, h3, AVRel_undef _⟩
    | call f args =>
      simp only [effO] at h
      simp only [chkEff] at hc
      split at hc
      · rename_i g as ts hop
        simp only [Bool.and_eq_true, beq_iff_eq] at hc
        obtain ⟨h1, h2⟩ := hc
        subst h1
        obtain ⟨⟨fn, c1, c2, c3⟩, hcall⟩ := hrec _ _ _ _ _ h φ w (as.map a.eval) hH hG (by simpa using opds_rel hT hG h2)
        have hrun : (execOp a.eval o).run P w = .ok (.enter f (as.map a.eval)) w := by
          simp only [execOp, hop, resolve, Act.eval, Deferred.ofValue, Sem.run_bind, Sem.run_pure, Result.andThen_ok, invoke]
          simp [call_fn f _ w c1 c2 c3]
        unfold Oper.wp
        rw [hrun]
        show Calls P f (as.map a.eval) w _
        refine hcall.mono ?_
        rintro e w' ⟨φ', cv, rfl, e1, e2, e3⟩
        exact hK φ' cv w' e1 e2 e3
      · cases hc
    | callv x args =>
      simp only [effO] at h
      split at h
      · rename_i f caps hx
        simp only [chkEff] at hc
        split at hc
        · rename_i y as ts hop
          simp only [Bool.and_eq_true] at hc
          obtain ⟨h1, h2⟩ := hc
          have hy := opd_rel h1 hT hG
          rw [hx] at hy
          obtain ⟨xs, x1, x2⟩ := hy
          obtain ⟨⟨fn, c1, c2, c3⟩, hcall⟩ := hrec _ _ _ _ _ h φ w (as.map a.eval ++ (xs.map fun x => Value.pointer (some x)).toArray) hH hG (by
            simp only [Array.toList_append, Array.toList_map]
            exact R2.append (opds_rel hT hG h2) (R2.map (fun _ _ hp => ⟨_, hp, rfl⟩) x1))
          have hrun : (execOp a.eval o).run P w = .ok (.enter f (as.map a.eval ++ (xs.map fun x => Value.pointer (some x)).toArray)) w := by
            simp only [execOp, hop, resolve, x2, Deferred.ofValue, Sem.run_bind, Sem.run_pure, Result.andThen_ok, invoke, Array.empty_append]
            rw [call_fn f _ w c1 c2 c3]
          unfold Oper.wp
          rw [hrun]
          show Calls P f _ w _
          refine hcall.mono ?_
          rintro e w' ⟨φ', cv, rfl, e1, e2, e3⟩
          exact hK φ' cv w' e1 e2 e3
        · cases hc
      · rename_i f p hx
        simp only [chkEff] at hc
        split at hc
        · rename_i y as ts hop
          simp only [Bool.and_eq_true] at hc
          obtain ⟨h1, h2⟩ := hc
          have hy := opd_rel h1 hT hG
          rw [hx] at hy
          obtain ⟨z, x1, x2⟩ := hy
          obtain ⟨⟨fn, c1, c2, c3⟩, hcall⟩ := hrec _ _ _ _ _ h φ w (#[Value.pointer (some z)] ++ as.map a.eval) hH hG (by
            simp only [Array.toList_append, Array.toList_map]
            exact ⟨⟨_, x1, rfl⟩, opds_rel hT hG h2⟩)
          have hrun : (execOp a.eval o).run P w = .ok (.enter f (#[Value.pointer (some z)] ++ as.map a.eval)) w := by
            simp only [execOp, hop, resolve, x2, Deferred.ofValue, Sem.run_bind, Sem.run_pure, Result.andThen_ok, invoke, Array.append_empty]
            rw [call_fn f _ w c1 c2 c3]
          unfold Oper.wp
          rw [hrun]
          show Calls P f _ w _
          refine hcall.mono ?_
          rintro e w' ⟨φ', cv, rfl, e1, e2, e3⟩
          exact hK φ' cv w' e1 e2 e3
        · cases hc
      · cases h
    | hop g args => exact fin (hop_sim hH hT hG hc hid h)
    | _ => simp [effO] at h
end Go.AM

/-
  THE ABSTRACT MACHINE: whole functions. What its run gives, the model's call gives.
-/
namespace Go.AM
variable {P : Program} {G : List Nat} {φ : Phi} {T : List AV} {a : Act} {w : World} {B : Nat} {w0 : World} {H H' : AH}
def chkGuard (ops : Array Oper) : Option (Nat × Bool) → Option (Nat × Bool) → Bool
  | none, none => true
  | some (j, b), some (t, b') => decide ((ops[j]?).bind (·.dst) = some t) && b == b'
  | _, _ => false
def chkOper (P : Program) (G : List Nat) (ops : Array Oper) (o : Oper) (r : ROper) : Bool :=
  decide (r.dst = o.dst) && chkGuard ops o.guard r.guard && chkOp P G r.op o.op
theorem wanted_eq {ops : Array Oper} {o : Oper} {g : Option (Nat × Bool)} (hc : chkGuard ops o.guard g = true) (hT : TRel φ T a.tmps) : Region.wanted o (yielded ops a.tmps) = wantedA T g := by
  unfold chkGuard at hc
  split at hc
  · rename_i h1
    simp [Region.wanted, h1, wantedA]
  · rename_i j b t b' h1
    simp only [Bool.and_eq_true, decide_eq_true_eq, beq_iff_eq] at hc
    obtain ⟨h2, h3⟩ := hc
    subst h3
    simp only [Region.wanted, h1, yielded, h2, wantedA, Option.bind_some]
    have hg := hT.get t
    have hb : ∀ c, a.tmps[t]? = some (.bool c) ↔ T.getD t undef = .s (.bool c) := by
      intro c
      constructor
      · intro hc
        rw [Array.getD_eq_getD_getElem?, hc] at hg
        simp only [Option.getD_some] at hg
        generalize T.getD t undef = x at hg
        cases x with
        | s x => cases x with
          | bool d => simp only [AVRel, SVRel, Value.bool.injEq] at hg; rw [hg]
          | ptr p => cases p <;> simp [AVRel, SVRel] at hg
          | slice p => cases p <;> simp [AVRel, SVRel] at hg
          | map p => cases p <;> simp [AVRel, SVRel] at hg
          | _ => simp [AVRel, SVRel] at hg
        | agg l => obtain ⟨_, _, h⟩ := hg; cases h
        | tup l => obtain ⟨_, _, h⟩ := hg; cases h
      · intro hc
        rw [hc] at hg
        have hg : a.tmps.getD t Go.undef = .bool c := hg
        rw [Array.getD_eq_getD_getElem?] at hg
        cases hx : a.tmps[t]? with
        | none => rw [hx] at hg; cases hg
        | some y => rw [hx] at hg; simp only [Option.getD_some] at hg; rw [hg]
    cases hx : a.tmps[t]? with
    | none =>
      have : ∀ c, T.getD t undef ≠ .s (.bool c) := fun c hc => by rw [(hb c).2 hc] at hx; cases hx
      generalize T.getD t undef = x at *
      cases x with
      | s x => cases x <;> first | rfl | exact absurd rfl (this _)
      | _ => rfl
    | some y =>
      cases y with
      | bool c => rw [(hb c).1 hx]; cases c <;> cases b <;> rfl
      | _ =>
        have : ∀ c, T.getD t undef ≠ .s (.bool c) := fun c hc => by rw [(hb c).2 hc] at hx; cases hx
        generalize T.getD t undef = x at *
        cases x with
        | s x => cases x <;> first | rfl | exact absurd rfl (this _)
        | _ => rfl
  · cases hc
structure St (B : Nat) (w0 : World) (G : List Nat) (φ : Phi) (T : List AV) (H : AH) (a : Act) (w : World) : Prop where
  heap : HRel B w0 φ H w
  tmps : TRel φ T a.tmps
  glob : GRel G φ
  defs : a.defers = []
theorem put_defers (a : Act) (d : Option Tmp) (v : Value) : (a.put d v).defers = a.defers := by cases d <;> rfl
theorem step_sim {rec : Nat → List AV → AH → Option (AV × AH)} (hrec : CallsOk P G B w0 rec) (hs : St B w0 G φ T H a w) {ops : Array Oper} {o : Oper} {r : ROper} (hc : chkOper P G ops o r = true) {base : Nat} (hid : base + r.idx < H.next)
    {T' : List AV} (h : stepA rec base r T H = some (T', H')) {K : Act → World → Prop} {Q : Exit → Act → World → Prop} (hK : ∀ φ' a' w', Ext φ φ' → St B w0 G φ' T' H' a' w' → K a' w') :
    if Region.wanted o (yielded ops a.tmps) then o.wp P a w K Q else K (a.put o.dst Go.undef) w := by
  simp only [chkOper, Bool.and_eq_true, decide_eq_true_eq] at hc
  obtain ⟨⟨h1, h2⟩, h3⟩ := hc
  rw [wanted_eq h2 hs.tmps]
  unfold stepA at h
  split at h
  · rename_i hw
    rw [if_pos hw]
    simp only [Option.map_eq_some_iff, Prod.mk.injEq] at h
    obtain ⟨⟨v, H1⟩, ho, h4, h5⟩ := h
    subst h4; subst h5
    refine op_sim hrec hs.heap hs.tmps hs.glob h3 hid ho ?_
    intro φ' cv w' e1 e2 e3
    exact hK φ' _ w' e1 ⟨e2, by rw [← h1]; exact (hs.tmps.mono e1).put _ e3, hs.glob.mono e1, by rw [put_defers]; exact hs.defs⟩
  · rename_i hw
    rw [if_neg hw]
    simp only [Option.some.injEq, Prod.mk.injEq] at h
    obtain ⟨rfl, rfl⟩ := h
    exact hK φ _ w (Ext.refl _) ⟨hs.heap, by rw [← h1]; exact hs.tmps.put _ (AVRel_undef _), hs.glob, by rw [put_defers]; exact hs.defs⟩
def plainOpers (P : Program) (G : List Nat) (ops : Array Oper) (n : Nat) : List Oper → List ROper → Bool
  | [], [] => true
  | o :: os, r :: rs => chkOper P G ops o r && decide (r.idx < n) && r.watch.isEmpty && plainOpers P G ops n os rs
  | _, _ => false
def exOf : Ex → Exit
  | .norm => .normal
  | .ret => .ret
  | .out id => .exit id
def NextOk (rec : Nat → List AV → AH → Option (AV × AH)) : Prop := ∀ f args H v H', rec f args H = some (v, H') → H.next ≤ H'.next
theorem stn_next {b o : Nat} {l : List SV} (h : H.stn b o l = some H') : H'.next = H.next := by
  unfold AH.stn at h
  split at h
  · split at h
    · cases h; rfl
    · cases h
  · cases h
theorem new_next {id : Nat} {x : Blk} (h : H.new id x = some H') : H'.next = H.next := by
  unfold AH.new at h
  split at h
  · cases h; rfl
  · cases h
theorem opA_next {rec : Nat → List AV → AH → Option (AV × AH)} (hr : NextOk rec) {ρ : Opd → AV} {id : Nat} {r : ROp} {v : AV} (h : opA rec ρ id H r = some (v, H')) : H.next ≤ H'.next := by
  unfold opA at h
  split at h
  · simp only [Option.map_eq_some_iff, Prod.mk.injEq] at h
    obtain ⟨_, _, _, rfl⟩ := h; exact Nat.le_refl _
  · simp only [Option.map_eq_some_iff, Prod.mk.injEq] at h
    obtain ⟨_, _, _, rfl⟩ := h; exact Nat.le_refl _
  · simp only [Option.bind_eq_some_iff, Option.map_eq_some_iff, Prod.mk.injEq] at h
    obtain ⟨_, _, _, h1, _, rfl⟩ := h; exact Nat.le_of_eq (new_next h1).symm
  · cases r with
    | store n b u =>
      simp only [effO, Option.map_eq_some_iff, Prod.mk.injEq] at h
      obtain ⟨_, h1, _, rfl⟩ := h
      unfold storeA at h1
      split at h1
      · split at h1
        · split at h1
          · exact Nat.le_of_eq (stn_next h1).symm
          · cases h1
        · cases h1
      · cases h1
    | append esz bytes s x =>
      simp only [effO, appendA] at h
      split at h
      · simp only [Option.bind_eq_some_iff] at h
        obtain ⟨_, _, _, _, h⟩ := h
        split at h
        · split at h
          · cases h; exact Nat.le_refl _
          · simp only [Option.map_eq_some_iff, Prod.mk.injEq] at h
            obtain ⟨_, h1, _, rfl⟩ := h; exact Nat.le_of_eq (new_next h1).symm
        · cases h
      · simp only [Option.bind_eq_some_iff] at h
        obtain ⟨_, _, _, _, h⟩ := h
        split at h
        · split at h
          · simp only [Option.map_eq_some_iff, Prod.mk.injEq] at h
            obtain ⟨_, h1, _, rfl⟩ := h; exact Nat.le_of_eq (stn_next h1).symm
          · split at h
            · split at h
              · simp only [Option.map_eq_some_iff, Prod.mk.injEq] at h
                obtain ⟨_, h1, _, rfl⟩ := h; exact Nat.le_of_eq (new_next h1).symm
              · cases h
            · cases h
        · cases h
      · cases h
    | copy esz d s =>
      simp only [effO, copyA] at h
      split at h
      · simp only [Option.bind_eq_some_iff] at h
        obtain ⟨_, _, _, _, h⟩ := h
        cases h; exact Nat.le_refl _
      · simp only [Option.bind_eq_some_iff] at h
        obtain ⟨_, _, _, _, h⟩ := h
        split at h
        · simp only [Option.map_eq_some_iff, Prod.mk.injEq] at h
          obtain ⟨_, h1, _, rfl⟩ := h; exact Nat.le_of_eq (stn_next h1).symm
        · cases h
      · cases h
    | clear esz z x =>
      simp only [effO, Option.map_eq_some_iff, Prod.mk.injEq] at h
      obtain ⟨_, h1, _, rfl⟩ := h
      unfold clearA at h1
      split at h1
      · cases h1; exact Nat.le_refl _
      · split at h1
        · cases h1; exact Nat.le_refl _
        · split at h1
          · exact Nat.le_of_eq (stn_next h1).symm
          · cases h1
      · cases h1
    | call f args => exact hr _ _ _ _ _ h
    | callv x args =>
      simp only [effO] at h
      split at h
      · exact hr _ _ _ _ _ h
      · exact hr _ _ _ _ _ h
      · cases h
    | hop g args =>
      simp only [effO] at h
      rcases hopA_cases h with rfl | h1 | ⟨r, es, es', _, rfl⟩
      · exact Nat.le_refl _
      · exact Nat.le_of_eq (new_next h1).symm
      · exact Nat.le_refl _
    | _ => simp [effO] at h
theorem stepA_next {rec : Nat → List AV → AH → Option (AV × AH)} (hr : NextOk rec) {base : Nat} {r : ROper} {T' : List AV} (h : stepA rec base r T H = some (T', H')) : H.next ≤ H'.next := by
  unfold stepA at h
  split at h
  · simp only [Option.map_eq_some_iff, Prod.mk.injEq] at h
    obtain ⟨⟨v, H1⟩, h1, _, rfl⟩ := h
    exact opA_next hr h1
  · simp only [Option.some.injEq, Prod.mk.injEq] at h
    obtain ⟨_, rfl⟩ := h; exact Nat.le_refl _
theorem plain_sim {rec : Nat → List AV → AH → Option (AV × AH)} (hrec : CallsOk P G B w0 rec) (hnx : NextOk rec) {ops : Array Oper} {Q : Exit → Act → World → Prop} {n base : Nat} {Tz : List AV} {Hz : AH} :
    ∀ (l : List Oper) (rs : List ROper) (φ : Phi) (T : List AV) (H : AH) (a : Act) (w : World), plainOpers P G ops n l rs = true → base + n ≤ H.next → St B w0 G φ T H a w → regA rec base rs T H = some (Tz, Hz) →
      (∀ φ' a' w', Ext φ φ' → St B w0 G φ' Tz Hz a' w' → Q .normal a' w') → wpList P ops Q l a w
  | [], [], φ, T, H, a, w, _, _, hs, h, hQ => by
    simp only [regA, Option.some.injEq, Prod.mk.injEq] at h
    obtain ⟨rfl, rfl⟩ := h
    exact wpList_nil (hQ φ a w (Ext.refl _) hs)
  | o :: l, r :: rs, φ, T, H, a, w, hc, hb, hs, h, hQ => by
    simp only [plainOpers, Bool.and_eq_true, decide_eq_true_eq] at hc
    obtain ⟨⟨⟨h1, h2⟩, h3⟩, h4⟩ := hc
    simp only [regA, Option.bind_eq_some_iff] at h
    obtain ⟨⟨T1, H1⟩, hst, h⟩ := h
    split at h
    · refine wpList_step fun K hK => ?_
      refine step_sim hrec hs h1 (by omega) hst ?_
      intro φ' a' w' e1 hs'
      exact hK a' w' (plain_sim hrec hnx l rs φ' T1 H1 a' w' h4 (Nat.le_trans hb (stepA_next hnx hst)) hs' h (fun φ'' a'' w'' e2 => hQ φ'' a'' w'' (e1.trans e2)))
    · cases h
  | [], _ :: _, _, _, _, _, _, hc, _, _, _, _ => by simp [plainOpers] at hc
  | _ :: _, [], _, _, _, _, _, hc, _, _, _, _ => by simp [plainOpers] at hc
end Go.AM
