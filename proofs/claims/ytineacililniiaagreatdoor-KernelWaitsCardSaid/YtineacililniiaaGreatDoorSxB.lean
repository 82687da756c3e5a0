/-
  THE SYMBOLIC MACHINE: its values, its operations, its run: true, if every way ends where what comes behind says so.
-/
import Derived.Test.YtineacililniiaaGreatDoorSxA
namespace Go.AM

inductive XV where
  | s (x : SV)
  | y (k : IntKind) (n : SI)

inductive XPart where
  | s (x : XV)
  | agg (l : List XV)

inductive XAV where
  | s (x : XV)
  | agg (l : List XV)
  | tup (l : List XPart)

abbrev xundef : XAV := .tup []

inductive XBlk where
  | dead
  | cells (ro : Bool) (l : List XV)
  | map (es : List (SV × XPart))

/-- Of the names from lo to below gc not all that lies there is told. -/
structure XS where
  h : Tr XBlk
  next : Nat
  facts : List Fact
  gc : Nat := 0
  lo : Nat := 0

noncomputable def XV.ofs : List SV → List XV
  | [] => []
  | x :: l => .s x :: XV.ofs l

noncomputable def XAV.of : AV → XAV
  | .s x => .s (.s x)
  | .agg l => .agg (XV.ofs l)
  | .tup l => .tup (l.map fun p => match p with | .s x => .s (.s x) | .agg l => .agg (XV.ofs l))

/-- Concrete ones as they are. -/
noncomputable def concL : List XV → Option (List SV)
  | [] => some []
  | .s x :: l => match concL l with | some l => some (x :: l) | none => none
  | .y _ _ :: _ => none

noncomputable def XAV.conc : XAV → Option AV
  | .s (.s x) => some (.s x)
  | .agg l => match concL l with | some l => some (.agg l) | none => none
  | _ => none

noncomputable def XAV.cells? : XAV → Option (List XV)
  | .s x => some [x]
  | .agg l => some l
  | .tup _ => none

noncomputable def XAV.part? : XAV → Option XPart
  | .s x => some (.s x)
  | .agg l => some (.agg l)
  | .tup _ => none

noncomputable def XPart.av : XPart → XAV
  | .s x => .s x
  | .agg l => .agg l

abbrev XT := Tr XAV
noncomputable def XT.at (T : XT) (n : Nat) : XAV := match T.get n with | some v => v | none => xundef
noncomputable def evX (T : XT) : Opd → XAV
  | .t n => XT.at T n
  | .c v => .of v
  | .g n => .s (.s (.ptr (some (n, 0))))

abbrev XK := XAV → XS → Bool

/- ---- ways that part ---- -/
noncomputable def XS.fact (st : XS) (n : SI) (lo hi : Option Int) : XS := { st with facts := addFact st.facts n.l (shiftO (-n.c) lo) (shiftO (-n.c) hi) }

/-- Below nought, or not. -/
noncomputable def split2 (st : XS) (d : SI) (kneg kge : XS → Bool) : Bool :=
  match signOf (rng st.facts d) with
  | .neg => kneg st
  | .ge => kge st
  | .bad => true
  | .unk => match signOf (rngV st.facts d) with
    | .neg => kneg st
    | .ge => kge st
    | .bad => true
    | .unk => kneg (st.fact d none (some (-1))) && kge (st.fact d (some 0) none)

/-- Nought, or not. -/
noncomputable def split0 (st : XS) (d : SI) (kz kn : XS → Bool) : Bool :=
  split2 st d kn fun st => split2 st ⟨-1 + d.c, d.l⟩ kz kn

noncomputable def allFrom : Nat → Int → (Int → Bool) → Bool
  | 0, _, _ => true
  | n + 1, v, f => f v && allFrom n (v + 1) f

/-- Each number that it may be. -/
noncomputable def withSI (st : XS) (n : SI) (k : Int → XS → Bool) : Bool :=
  match rng st.facts n with
  | (some lo, some hi) => match Int.leb (hi - lo) 300 with
    | true => allFrom (hi - lo + 1).toNat lo fun v => k v (st.fact n (some v) (some v))
    | false => false
  | _ => false

noncomputable def withInt (st : XS) (x : XAV) (k : IntKind → Int → XS → Bool) : Bool :=
  match x with
  | .s (.s (.int kd n)) => k kd n st
  | .s (.y kd n) => withSI st n (k kd)
  | _ => false

noncomputable def withOpt (st : XS) (x : Option XAV) (k : Option AV → XS → Bool) : Bool :=
  match x with
  | none => k none st
  | some x => withInt st x fun kd n st => k (some (.s (.int kd n))) st

/-- A number, if it fits. -/
noncomputable def mkInt (st : XS) (kd : IntKind) (n : SI) (k : XK) : Bool :=
  match n.l with
  | [] => k (.s (.s (.int kd (kd.wrap n.c)))) st
  | _ => match rng st.facts n with
    | (some lo, some hi) => (Int.leb kd.min lo && Int.leb hi kd.max) && k (.s (.y kd n)) st
    | _ => false

noncomputable def toSI : XAV → Option (IntKind × SI)
  | .s (.s (.int k n)) => some (k, ⟨n, []⟩)
  | .s (.y k n) => some (k, n)
  | _ => none

noncomputable def kBool (b : Bool) (k : XK) (st : XS) : Bool := k (.s (.s (.bool b))) st

noncomputable def kindEqb : IntKind → IntKind → Bool
  | .i8, .i8 | .i16, .i16 | .i32, .i32 | .i64, .i64 | .u8, .u8 | .u16, .u16 | .u32, .u32 | .u64, .u64 => true
  | _, _ => false

/-- The value worked out before it goes on. -/
noncomputable def forceV (v : XAV) (k : XK) (st : XS) : Bool :=
  match v with
  | .s x => match x with
    | .s z => k (.s (.s z)) st
    | .y kd n => k (.s (.y kd n)) st
  | .agg l => k (.agg l) st
  | .tup l => k (.tup l) st

noncomputable def forceI (n : Int) (k : Int → Bool) : Bool :=
  match n with
  | .ofNat m => match m with | 0 => k (.ofNat 0) | m + 1 => k (.ofNat (Nat.succ m))
  | .negSucc m => match m with | 0 => k (.negSucc 0) | m + 1 => k (.negSucc (Nat.succ m))

noncomputable def kO (o : Option SV) (k : XK) (st : XS) : Bool :=
  match o with
  | some v => match v with
    | .int kd n => forceI n fun n => k (.s (.s (.int kd n))) st
    | .bool b => cond b (k (.s (.s (.bool true))) st) (k (.s (.s (.bool false))) st)
    | v => k (.s (.s v)) st
  | none => false

/-- Two numbers that are known. -/
noncomputable def binC (op : BinOp) (k : IntKind) (a : Int) (k' : IntKind) (b : Int) : Option SV :=
  match op with
  | .shl => shiftA true k a b
  | .shr => shiftA false k a b
  | op => match kindEqb k k' with
    | false => none
    | true => match op with
      | .add => some (.int k (wrapF k (a + b)))
      | .sub => some (.int k (wrapF k (a - b)))
      | .eql => some (.bool (Int.eqb a b))
      | .neq => some (.bool (!Int.eqb a b))
      | .lss => some (.bool (Int.leb (a + 1) b))
      | .leq => some (.bool (Int.leb a b))
      | .gtr => some (.bool (Int.leb (b + 1) a))
      | .geq => some (.bool (Int.leb b a))
      | op => arithA op k a b

/-- Both numbers tried out. -/
noncomputable def bothX (op : BinOp) (x y : XAV) (st : XS) (k : XK) : Bool :=
  withInt st x fun k1 n1 st => withInt st y fun k2 n2 st =>
    kO (binC op k1 n1 k2 n2) k st

noncomputable def isVar : SI → Option Nat
  | ⟨0, [(.v i, 1)]⟩ => some i
  | _ => none

noncomputable def symX (op : BinOp) (x y : XAV) (k1 : IntKind) (a b : SI) (st : XS) (k : XK) : Bool :=
  match op with
  | .add => mkInt st k1 (a.add b) k
  | .sub => mkInt st k1 (a.sub b) k
  | .mul => match a.l, b.l with
    | [], _ => mkInt st k1 (b.scale a.c) k
    | _, [] => mkInt st k1 (a.scale b.c) k
    | _, _ => bothX op x y st k
  | .lss => split2 st (a.sub b) (kBool true k) (kBool false k)
  | .geq => split2 st (a.sub b) (kBool false k) (kBool true k)
  | .gtr => split2 st (b.sub a) (kBool true k) (kBool false k)
  | .leq => split2 st (b.sub a) (kBool false k) (kBool true k)
  | .eql => split0 st (a.sub b) (kBool true k) (kBool false k)
  | .neq => split0 st (a.sub b) (kBool false k) (kBool true k)
  | .rem => match isVar a, b with
    | some i, ⟨.ofNat (m + 1), []⟩ => k (.s (.y k1 ⟨0, [(.md i (m + 1), 1)]⟩)) st
    | _, _ => bothX op x y st k
  | _ => bothX op x y st k

/-- Two numbers of which one is not known. -/
noncomputable def binS (op : BinOp) (x y : XAV) (st : XS) (k : XK) : Bool :=
  match toSI x with
  | some (k1, a) => match toSI y with
    | some (k2, b) => match kindEqb k1 k2 with
      | false => bothX op x y st k
      | true => symX op x y k1 a b st k
    | none => false
  | none => false

noncomputable def intOf : XAV → Option (IntKind × Int)
  | .s x => match x with
    | .s z => match z with
      | .int k n => some (k, n)
      | _ => none
    | .y _ _ => none
  | _ => none

noncomputable def binX (op : BinOp) (x y : XAV) (st : XS) (k : XK) : Bool :=
  match intOf x with
  | some p => match intOf y with
    | some q => kO (binC op p.1 p.2 q.1 q.2) k st
    | none => binS op x y st k
  | none => binS op x y st k

noncomputable def convX (kd : IntKind) (x : XAV) (st : XS) (k : XK) : Bool :=
  match x with
  | .s (.s (.int _ n)) => forceI (wrapF kd n) fun n => k (.s (.s (.int kd n))) st
  | .s (.y _ n) => match rng st.facts n with
    | (some lo, some hi) => match Int.leb kd.min lo && Int.leb hi kd.max with
      | true => k (.s (.y kd n)) st
      | false => withSI st n fun v st => k (.s (.s (.int kd (kd.wrap v)))) st
    | _ => false
  | _ => false

noncomputable def minmaxX (mx : Bool) (x y : XAV) (st : XS) (k : XK) : Bool :=
  match toSI x, toSI y with
  | some (k1, a), some (_, b) => match mx with
    | true => split2 st (a.sub b) (k (match b.l with | [] => .s (.s (.int k1 b.c)) | _ => .s (.y k1 b))) (k x)
    | false => split2 st (b.sub a) (k (match b.l with | [] => .s (.s (.int k1 b.c)) | _ => .s (.y k1 b))) (k x)
  | _, _ => false

/- ---- cells ---- -/
/-- A part of a list, worked out. -/
noncomputable def takeS {α : Type} : List α → Nat → Option (List α)
  | _, 0 => some []
  | [], _ + 1 => none
  | x :: l, n + 1 => match takeS l n with | some r => some (x :: r) | none => none
noncomputable def subS {α : Type} : List α → Nat → Nat → Option (List α)
  | l, 0, n => takeS l n
  | [], _ + 1, _ => none
  | _ :: l, o + 1, n => subS l o n
/-- A list with some of its items set, worked out. -/
noncomputable def overS {α : Type} : List α → List α → Option (List α)
  | l, [] => some l
  | [], _ :: _ => none
  | _ :: l, v :: vs => match overS l vs with | some r => some (v :: r) | none => none
noncomputable def setS {α : Type} : List α → Nat → List α → Option (List α)
  | l, 0, vs => overS l vs
  | [], _ + 1, _ => none
  | x :: l, o + 1, vs => match setS l o vs with | some r => some (x :: r) | none => none
noncomputable def catS {α : Type} : List α → List α → Option (List α)
  | [], m => some m
  | x :: l, m => match catS l m with | some r => some (x :: r) | none => none
noncomputable def getS {α : Type} : List α → Nat → Option α
  | [], _ => none
  | x :: _, 0 => some x
  | _ :: l, n + 1 => getS l n

noncomputable def partX (m : Option Nat) (l : List XV) (off : Nat) : Option XAV :=
  match m with
  | none => match getS l off with | some x => some (.s x) | none => none
  | some n => match subS l off n with | some r => some (.agg r) | none => none

noncomputable def loadX (m : Option Nat) (a : XAV) (st : XS) : Option XAV :=
  match a with
  | .s (.s (.ptr (some p))) => match st.h.get p.1 with
    | some (.cells _ l) => partX m l p.2
    | _ => none
  | _ => none

noncomputable def fillX : List XV → List (Nat × Nat × XAV) → Option (List XV)
  | z, [] => some z
  | z, (off, size, v) :: rest =>
    match v.cells? with
    | some l => match Nat.beq l.length size with | true => (match setS z off l with | some z => fillX z rest | none => none) | false => none
    | none => none

noncomputable def putBlk (st : XS) (b : Nat) (x : XBlk) (k : XS → Bool) : Bool :=
  match st.h.set x b with
  | some h => k ⟨h, st.next, st.facts, st.gc, st.lo⟩
  | none => false

noncomputable def newX (st : XS) (id : Nat) (l : List XV) (k : XS → Bool) : Bool :=
  match st.h.get id with
  | none => cond (cond (Nat.blt id st.lo) true (Nat.ble st.gc id)) (putBlk st id (.cells false l) k) false
  | some _ => false

noncomputable def stnX (st : XS) (b o : Nat) (vs : List XV) (k : XS → Bool) : Bool :=
  match st.h.get b with
  | some (.cells false l) => match setS l o vs with
    | some r => putBlk st b (.cells false r) k
    | none => false
  | _ => false

noncomputable def ldnX (st : XS) (b o n : Nat) : Option (List XV) :=
  match st.h.get b with
  | some (.cells _ l) => subS l o n
  | _ => none

noncomputable def sliceX (esz : Nat) (x : XAV) (n : Nat) (st : XS) : Option (List XV) :=
  match x with
  | .s (.s (.slice none _ _ _)) => some []
  | .s (.s (.slice (some (b, o)) len _ e)) => match Nat.beq e esz && Nat.ble n len with | true => ldnX st b o (n * esz) | false => none
  | _ => none

noncomputable def slLenX : XAV → Option Nat
  | .s (.s (.slice _ n _ _)) => some n
  | _ => none

noncomputable def appendX (esz bytes id : Nat) (s x : XAV) (st : XS) (k : XK) : Bool :=
  match s, slLenX x with
  | .s (.s (.slice none len _ _)), some n => match sliceX esz x n st with
    | some new => match Nat.ble ((len + n) * bytes) 70368744177664 with
      | true => match n with
        | 0 => k (.s (.s (.slice none 0 0 esz))) st
        | n + 1 => newX st id new fun st => k (.s (.s (.slice (some (id, 0)) (n + 1) (n + 1) esz))) st
      | false => false
    | none => false
  | .s (.s (.slice (some (b, o)) len cap e)), some n => match sliceX esz x n st with
    | some new => match Nat.beq e esz && Nat.ble ((len + n) * bytes) 70368744177664 with
      | true => match Nat.ble (len + n) cap with
        | true => stnX st b (o + len * esz) new fun st => k (.s (.s (.slice (some (b, o)) (len + n) cap esz))) st
        | false => match st.h.get b with
          | some (.cells false l) => match subS l o (len * esz) with
            | some old => match catS old new with
              | some all => putBlk st b .dead fun st => newX st id all fun st => k (.s (.s (.slice (some (id, 0)) (len + n) (len + n) esz))) st
              | none => false
            | none => false
          | _ => false
      | false => false
    | none => false
  | _, _ => false

noncomputable def natMin (a b : Nat) : Nat := match Nat.ble a b with | true => a | false => b

noncomputable def copyX (esz : Nat) (d s : XAV) (st : XS) (k : XK) : Bool :=
  match d, slLenX s with
  | .s (.s (.slice none len _ _)), some n => match sliceX esz s (natMin n len) st with
    | some _ => k (.s (.s (.int .i64 (natMin n len : Nat)))) st
    | none => false
  | .s (.s (.slice (some (b, o)) len _ e)), some n => match sliceX esz s (natMin n len) st with
    | some new => Nat.beq e esz && stnX st b o new fun st => k (.s (.s (.int .i64 (natMin n len : Nat)))) st
    | none => false
  | _, _ => false

noncomputable def clearX (esz : Nat) (z : List SV) (x : XAV) (st : XS) (k : XS → Bool) : Bool :=
  match x with
  | .s (.s (.slice none _ _ _)) => k st
  | .s (.s (.slice (some (b, o)) n _ e)) => match n with
    | 0 => k st
    | n + 1 => (Nat.beq e esz && Nat.beq z.length esz) && stnX st b o (XV.ofs (repCells z (n + 1))) k
  | _ => false

/- ---- maps; an array's slice ---- -/
noncomputable def findKX (k : IntKind) (n : Int) : List (SV × XPart) → Nat → Option (Option (Nat × XPart))
  | [], _ => some none
  | (.int k' n', p) :: es, i => match kindEqb k k' with
    | true => (match Int.eqb n n' with | true => some (some (i, p)) | false => findKX k n es (i + 1))
    | false => none
  | _ :: _, _ => none

noncomputable def mapOf (x : XAV) (st : XS) : Option (Nat × List (SV × XPart)) :=
  match x with
  | .s (.s (.map (some r))) => match st.h.get r with
    | some (.map es) => some (r, es)
    | _ => none
  | _ => none

noncomputable def lookX (ok : Bool) (m key : XAV) (st : XS) (k : XK) : Bool :=
  match mapOf m st with
  | some q => withInt st key fun kd n st => match findKX kd n q.2 0 with
    | some (some p) => cond ok (k (.tup [p.2, .s (.s (.bool true))]) st) (forceV p.2.av k st)
    | _ => false
  | none => false

noncomputable def updX (m key v : XAV) (st : XS) (k : XS → Bool) : Bool :=
  match mapOf m st with
  | some q => match v.part? with
    | some p => withInt st key fun kd n st => match findKX kd n q.2 0 with
      | some (some r) => putBlk st q.1 (.map (q.2.set r.1 (.int kd n, p))) k
      | some none => putBlk st q.1 (.map (q.2 ++ [(.int kd n, p)])) k
      | none => false
    | none => false
  | none => false

noncomputable def delX (m key : XAV) (st : XS) (k : XS → Bool) : Bool :=
  match mapOf m st with
  | some q => withInt st key fun kd n st => match findKX kd n q.2 0 with
    | some (some r) => putBlk st q.1 (.map (q.2.eraseIdx r.1)) k
    | some none => putBlk st q.1 (.map q.2) k
    | none => false
  | none => false

noncomputable def slArrX (len esz : Nat) (x : XAV) (st : XS) (k : XK) : Bool :=
  match x with
  | .s (.s (.ptr (some p))) => match st.h.get p.1 with
    | some (.cells _ l) => match Nat.blt 0 esz && Nat.ble (p.2 + len * esz) l.length with
      | true => k (.s (.s (.slice (some (p.1, p.2)) len len esz))) st
      | false => false
    | _ => false
  | _ => false

noncomputable def hopX (h : HOp) (id : Nat) (args : List XAV) (st : XS) (k : XK) : Bool :=
  match h with
  | .makeMap => (match args with
    | [] => (match st.h.get id with | none => cond (cond (Nat.blt id st.lo) true (Nat.ble st.gc id)) (putBlk st id (.map []) fun st => k (.s (.s (.map (some id)))) st) false | some _ => false)
    | _ => false)
  | .lookup ok => (match args with | [m, key] => lookX ok m key st k | _ => false)
  | .update => (match args with | [m, key, v] => updX m key v st fun st => k xundef st | _ => false)
  | .delete => (match args with | [m, key] => delX m key st fun st => k xundef st | _ => false)
  | .slArr len esz => (match args with | [x] => slArrX len esz x st k | _ => false)

/-- Cells compared one by one. -/
noncomputable def eqCellsX : List Bool → List XV → List XV → XS → (Bool → XS → Bool) → Bool
  | [], [], [], st, k => k true st
  | false :: ks, x :: xs, y :: ys, st, k => match toSI (.s x), toSI (.s y) with
    | some (k1, a), some (k2, b) => kindEqb k1 k2 && split0 st (a.sub b) (fun st => eqCellsX ks xs ys st k) (fun st => eqCellsX ks xs ys st fun _ st => k false st)
    | _, _ => false
  | true :: ks, .s (.bool a) :: xs, .s (.bool b) :: ys, st, k => eqCellsX ks xs ys st fun r st => k ((a == b) && r) st
  | _, _, _, _, _ => false

noncomputable def XAV.fnOf : XAV → Option (Nat × List (Nat × Nat))
  | .s (.s (.fn f caps)) => some (f, caps)
  | _ => none

noncomputable def XAV.bfnOf : XAV → Option (Nat × (Nat × Nat))
  | .s (.s (.bfn f a)) => some (f, a)
  | _ => none

noncomputable def ptrs : List (Nat × Nat) → List XAV
  | [] => []
  | a :: l => .s (.s (.ptr (some a))) :: ptrs l

noncomputable def concAll : List XAV → Option (List AV)
  | [] => some []
  | x :: l => match x.conc, concAll l with | some a, some r => some (a :: r) | _, _ => none

noncomputable def partsX : List XAV → Option (List XPart)
  | [] => some []
  | v :: vs => match v.part?, partsX vs with | some p, some r => some (p :: r) | _, _ => none

noncomputable def kOpt (o : Option AV) (k : XK) (st : XS) : Bool :=
  match o with
  | some v => match v with
    | .s v => kO (some v) k st
    | v => k (.of v) st
  | none => false

section
variable (callX : Nat → List XAV → XS → XK → Bool)

noncomputable def oPick (c a b : XAV) (st : XS) (k : XK) : Bool :=
  match c with
  | .s (.s (.bool t)) => cond t (forceV a k st) (forceV b k st)
  | _ => false
noncomputable def oConc (f : AV → Option AV) (x : XAV) (st : XS) (k : XK) : Bool := match x.conc with | some a => kOpt (f a) k st | none => false
noncomputable def oNew (l : List XV) (id : Nat) (v : AV) (st : XS) (k : XK) : Bool := newX st id l fun st => k (.of v) st
noncomputable def oBox (x : XAV) (id : Nat) (st : XS) (k : XK) : Bool := match x.cells? with | some l => oNew l id (.s (.ptr (some (id, 0)))) st k | none => false
noncomputable def oBuild (z : List SV) (ps : List (Nat × Nat × XAV)) (st : XS) (k : XK) : Bool := match fillX (XV.ofs z) ps with | some l => k (.agg l) st | none => false
noncomputable def oBuildSl (esz len : Nat) (z : List SV) (ps : List (Nat × Nat × XAV)) (id : Nat) (st : XS) (k : XK) : Bool := match fillX (XV.ofs z) ps with | some l => oNew l id (.s (.slice (some (id, 0)) len len esz)) st k | none => false
noncomputable def oLoad (m : Option Nat) (a : XAV) (st : XS) (k : XK) : Bool := match loadX m a st with | some v => k v st | none => false
noncomputable def oStore (n : Nat) (a v : XAV) (st : XS) (k : XK) : Bool :=
  match a with
  | .s (.s (.ptr (some p))) => match v.cells? with
    | some l => Nat.beq l.length n && stnX st p.1 p.2 l fun st => k xundef st
    | none => false
  | _ => false
noncomputable def oField (m : Option Nat) (off : Nat) (x : XAV) (st : XS) (k : XK) : Bool :=
  match x with
  | .agg l => match partX m l off with | some v => k v st | none => false
  | _ => false
noncomputable def inB (n : Int) (len : Nat) : Bool := match n with | .ofNat a => Nat.blt a len | .negSucc _ => false
noncomputable def oIndexSl (esz : Nat) (x i : XAV) (st : XS) (k : XK) : Bool :=
  match x with
  | .s (.s (.slice (some p) len _ _)) => withInt st i fun _ n st => inB n len && k (.s (.s (.ptr (some (p.1, p.2 + n.toNat * esz))))) st
  | _ => false
noncomputable def oIndexArr (len esz : Nat) (x i : XAV) (st : XS) (k : XK) : Bool :=
  match x with
  | .s (.s (.ptr (some p))) => withInt st i fun _ n st => inB n len && k (.s (.s (.ptr (some (p.1, p.2 + n.toNat * esz))))) st
  | _ => false
noncomputable def oIndex (len esz : Nat) (m : Option Nat) (x i : XAV) (st : XS) (k : XK) : Bool :=
  match x with
  | .agg l => withInt st i fun _ n st => inB n len && match partX m l (n.toNat * esz) with | some v => k v st | none => false
  | _ => false
noncomputable def oSl (esz : Nat) (x : XAV) (lo hi mx : Option XAV) (st : XS) (k : XK) : Bool :=
  match x.conc with
  | some a => withOpt st lo fun lo st => withOpt st hi fun hi st => withOpt st mx fun mx st => kOpt (slSlA esz a lo hi mx) k st
  | none => false
noncomputable def oEqs (kd : EqK) (ng : Bool) (x y : XAV) (st : XS) (k : XK) : Bool :=
  match x.conc with
  | some a => match y.conc with
    | some b => kOpt (eqsA kd ng a b) k st
    | none => false
  | none => false
noncomputable def oEqAgg (ks : List Bool) (ng : Bool) (x y : XAV) (st : XS) (k : XK) : Bool :=
  match x with
  | .agg xs => match y with
    | .agg ys => eqCellsX ks xs ys st fun r st => k (.s (.s (.bool (ng ^^ r)))) st
    | _ => false
  | _ => false
noncomputable def oMake (esz bytes : Nat) (z : List SV) (l c : XAV) (id : Nat) (st : XS) (k : XK) : Bool :=
  withInt st l fun k1 n1 st => withInt st c fun k2 n2 st => match makeA esz bytes z (.s (.int k1 n1)) (.s (.int k2 n2)) with
    | some r => oNew (XV.ofs r.1) id (.s (.slice (some (id, 0)) r.2.1 r.2.2 esz)) st k
    | none => false
noncomputable def oFunc (f : Nat) (caps : List XAV) (st : XS) (k : XK) : Bool :=
  match concAll caps with
  | some cs => match capsA cs with
    | some c => k (.s (.s (.fn f c))) st
    | none => false
  | none => false
noncomputable def oExtract (i : Nat) (x : XAV) (st : XS) (k : XK) : Bool :=
  match x with
  | .tup ps => match getS ps i with | some p => k p.av st | none => false
  | _ => false
noncomputable def oClear (esz : Nat) (z : List SV) (x : XAV) (st : XS) (k : XK) : Bool := clearX esz z x st fun st => k xundef st
noncomputable def oCallv (x : XAV) (args : List XAV) (st : XS) (k : XK) : Bool := match x.fnOf with
  | some p => callX p.1 (args ++ ptrs p.2) st k
  | none => match x.bfnOf with
    | some p => callX p.1 (.s (.s (.ptr (some p.2))) :: args) st k
    | none => false

noncomputable def evs (ρ : Opd → XAV) : List Opd → List XAV
  | [] => []
  | x :: l => ρ x :: evs ρ l
noncomputable def evPs (ρ : Opd → XAV) : List (Nat × Nat × Opd) → List (Nat × Nat × XAV)
  | [] => []
  | p :: l => (p.1, p.2.1, ρ p.2.2) :: evPs ρ l
noncomputable def evO (ρ : Opd → XAV) : Option Opd → Option XAV
  | none => none
  | some x => some (ρ x)

noncomputable def opX (ρ : Opd → XAV) (id : Nat) (st : XS) (k : XK) (o : ROp) : Bool :=
  ROp.casesOn (motive := fun _ => Bool) o
    (fun x => forceV (ρ x) k st)
    (fun c a b => oPick (ρ c) (ρ a) (ρ b) st k)
    (fun x => oConc nilCheckA (ρ x) st k)
    (fun l => oNew (XV.ofs l) id (.s (.ptr (some (id, 0)))) st k)
    (fun x => oBox (ρ x) id st k)
    (fun z ps => oBuild z (evPs ρ ps) st k)
    (fun esz len z ps => oBuildSl esz len z (evPs ρ ps) id st k)
    (fun m a => oLoad m (ρ a) st k)
    (fun n a v => oStore n (ρ a) (ρ v) st k)
    (fun off x => oConc (fieldAddrA off) (ρ x) st k)
    (fun m off x => oField m off (ρ x) st k)
    (fun esz x i => oIndexSl esz (ρ x) (ρ i) st k)
    (fun len esz x i => oIndexArr len esz (ρ x) (ρ i) st k)
    (fun len esz m x i => oIndex len esz m (ρ x) (ρ i) st k)
    (fun esz x lo hi mx => oSl esz (ρ x) (evO ρ lo) (evO ρ hi) (evO ρ mx) st k)
    (fun op x y => binX op (ρ x) (ρ y) st k)
    (fun kd ng x y => oEqs kd ng (ρ x) (ρ y) st k)
    (fun ks ng x y => oEqAgg ks ng (ρ x) (ρ y) st k)
    (fun op x => oConc (unA op) (ρ x) st k)
    (fun kd x => convX kd (ρ x) st k)
    (fun esz bytes z l c => oMake esz bytes z (ρ l) (ρ c) id st k)
    (fun f caps => oFunc f (evs ρ caps) st k)
    (fun i x => oExtract i (ρ x) st k)
    (fun x => oConc lenA (ρ x) st k)
    (fun n => k (.s (.s (.int .i64 n))) st)
    (fun esz bytes s x => appendX esz bytes id (ρ s) (ρ x) st k)
    (fun esz d s => copyX esz (ρ d) (ρ s) st k)
    (fun esz z x => oClear esz z (ρ x) st k)
    (fun mx x y => minmaxX mx (ρ x) (ρ y) st k)
    (fun f args => callX f (evs ρ args) st k)
    (fun x args => oCallv callX (ρ x) (evs ρ args) st k)
    false
    (fun h args => hopX h id (evs ρ args) st k)
    (fun f x => oConc (bindA f) (ρ x) st k)

noncomputable def gdX (v : XAV) (b : Bool) : Bool :=
  match v with
  | .s (.s (.bool c)) => match c, b with | true, true => true | false, false => true | _, _ => false
  | _ => false

noncomputable def svEqb (a b : SV) : Bool := decide (a = b)
noncomputable def xvEqb : XV → XV → Bool
  | .s (.int k a), .s (.int k' b) => kindEqb k k' && Int.eqb a b
  | .s a, .s b => svEqb a b
  | .y k a, .y k' b => kindEqb k k' && a.eqb b
  | _, _ => false
noncomputable def xlEqb : List XV → List XV → Bool
  | [], [] => true
  | x :: l, y :: m => xvEqb x y && xlEqb l m
  | _, _ => false
noncomputable def xaEqb : XAV → XAV → Bool
  | .s x, .s y => xvEqb x y
  | .agg l, .agg m => xlEqb l m
  | _, _ => false

noncomputable def watchX (T : XT) (st : XS) : List Watch → Bool
  | [] => true
  | w :: ws => (match (match w.guard with | none => true | some (t, b) => gdX (XT.at T t) b) with
    | true => (match loadX w.m (evX T w.a) st with | some v => xaEqb v (XT.at T w.dst) | none => false)
    | false => true) && watchX T st ws

noncomputable def putX (nt : Nat) (T : XT) (d : Option Nat) (v : XAV) (k : XT → Bool) : Bool :=
  match d with
  | none => k T
  | some d => match Nat.blt d nt with
    | true => match T.set v d with | some T => k T | none => false
    | false => false

noncomputable def gOk (T : XT) (g : Option (Nat × Bool)) : Bool := match g with | none => true | some p => gdX (XT.at T p.1) p.2

noncomputable def stepX (nt base : Nat) (o : ROper) (T : XT) (st : XS) (k : XT → XS → Bool) : Bool :=
  cond (gOk T o.guard) (opX callX (evX T) (base + o.idx) st (fun v st => cond (watchX T st o.watch) (putX nt T o.dst v fun T => k T st) false) o.op)
    (cond (watchX T st o.watch) (putX nt T o.dst xundef fun T => k T st) false)

noncomputable def regX (nt base : Nat) (l : List ROper) : XT → XS → (XT → XS → Bool) → Bool :=
  List.rec (motive := fun _ => XT → XS → (XT → XS → Bool) → Bool) (fun T st k => k T st) (fun o _ ih T st k => stepX callX nt base o T st fun T st => ih T st k) l

noncomputable def iterX (f : XT → XS → (Ex → XT → XS → Bool) → Bool) (n : Nat) : XT → XS → (Ex → XT → XS → Bool) → Bool :=
  Nat.rec (motive := fun _ => XT → XS → (Ex → XT → XS → Bool) → Bool) (fun _ _ _ => false) (fun _ ih T st k => f T st fun e T st => Ex.casesOn (motive := fun _ => Bool) e (ih T st k) (k .ret T st) (fun id => k (.out id) T st)) n

noncomputable def oCond (c : XAV) (a b : Bool) : Bool :=
  match c with
  | .s (.s (.bool t)) => cond t a b
  | _ => false

noncomputable def rcX (nt fuel : Nat) (c : RC) : XT → XS → (Ex → XT → XS → Bool) → Bool :=
  RC.rec (motive := fun _ => XT → XS → (Ex → XT → XS → Bool) → Bool)
    (fun T st k => k .norm T st)
    (fun T st k => k .ret T st)
    (fun id T st k => k (.out id) T st)
    (fun n ops T st k => regX callX nt st.next ops T ⟨st.h, Nat.add st.next n, st.facts, st.gc, st.lo⟩ (k .norm))
    (fun _ _ ia ib T st k => ia T st fun e T st => Ex.casesOn (motive := fun _ => Bool) e (ib T st k) (k .ret T st) (fun id => k (.out id) T st))
    (fun c _ _ ia ib T st k => oCond (evX T c) (ia T st k) (ib T st k))
    (fun id _ ia T st k => ia T st fun e T st => Ex.casesOn (motive := fun _ => Bool) e (k .norm T st) (k .ret T st) (fun id' => cond (Nat.beq id' id) (k .norm T st) (k (.out id') T st)))
    (fun _ ia T st k => iterX ia fuel T st k) c

noncomputable def res1X (T : XT) (st : XS) : RRes → Option XAV
  | .tmp t => some (XT.at T t)
  | .cell t m => loadX m (XT.at T t) st

noncomputable def resLX (T : XT) (st : XS) : List RRes → Option (List XAV)
  | [] => some []
  | r :: rs => match res1X T st r, resLX T st rs with | some v, some l => some (v :: l) | _, _ => none

noncomputable def resX (rs : List RRes) (T : XT) (st : XS) (k : XK) : Bool :=
  match rs with
  | [r] => (match res1X T st r with | some v => k v st | none => false)
  | rs => match resLX T st rs with
    | some vs => (match partsX vs with | some ps => k (.tup ps) st | none => false)
    | none => false

noncomputable def fillT : Nat → List XAV → XT → Option XT
  | _, [], T => some T
  | i, v :: vs, T => match T.set v i with | some T => fillT (i + 1) vs T | none => none
end

noncomputable def runFn (callX : Nat → List XAV → XS → XK → Bool) (n : Nat) (rf : RFunc) (args : List XAV) (st : XS) (k : XK) : Bool :=
  match Nat.ble args.length rf.ntmps with
  | false => false
  | true => match fillT 0 args .e with
    | none => false
    | some T => rcX callX rf.ntmps n rf.body T st fun e T st => Ex.casesOn (motive := fun _ => Bool) e (resX rf.results T st k) (resX rf.results T st k) (fun _ => false)

noncomputable def runX (tab : Nat → Option RFunc) (n : Nat) : Nat → List XAV → XS → XK → Bool :=
  Nat.rec (motive := fun _ => Nat → List XAV → XS → XK → Bool) (fun _ _ _ _ => false) (fun n ih f args st k => match tab f with
    | none => false
    | some rf => runFn ih n rf args st k) n

end Go.AM
