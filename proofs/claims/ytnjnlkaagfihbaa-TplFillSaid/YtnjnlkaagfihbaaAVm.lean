/- The value machine: a small interpreter over values for the model's code, its operations resolved. Definitions alone. -/
import Derived.Calls
set_option linter.all false
namespace Gv
open Go

/-- A cell without references into the machine's heap. -/
inductive PV where
  | bool (b : Bool)
  | int (k : IntKind) (n : Int)
  | flt (k : FloatKind) (b : Nat)
  | cpx (k : FloatKind) (re im : Nat)
  | str (s : List UInt8)
  | nilp | nilm | nilf | nili
  | fn (f : FuncId)
  | list (z : Nat) (l : List (List PV))
  | pp (cs : List PV) (o : Nat)
  /-- anything -/
  | opq
  deriving Inhabited

/-- A cell. -/
inductive C where
  | p (v : PV)
  | nils
  | ptr (k o : Nat)
  | slc (k o n z : Nat)
  | map (k : Nat)
  /-- a function with the places that it captured -/
  | clo (f : FuncId) (caps : List (Nat × Nat))
  /-- an empty slice without room, nil or not -/
  | e0
  /-- anything -/
  | dead
  deriving Inhabited

/-- A value of a call without references. -/
inductive PVal where
  | one (v : PV)
  | agg (cs : List PV)
  deriving Inhabited

/-- A slot's value. -/
inductive AV where
  | u
  | p (v : PV)
  | pa (cs : List PV)
  | r (c : C)
  | ag (cs : List C)
  /-- several results: each a cell, or a row of cells -/
  | tup (l : List (Bool × List C))
  deriving Inhabited

/-- What is told of a block's array: may it bear the mark of a string's bytes; its elements' type. -/
structure Tag where
  mark : Bool
  ty : TypeId
  deriving Inhabited, DecidableEq

inductive Blk where
  /-- the first frz cells are not written any more -/
  | cells (m : Tag) (frz : Nat) (cs : List C)
  | map (es : List (PVal × PVal))
  deriving Inhabited

/-- The slots: a tree. -/
inductive T where
  | lf
  | nd (v : AV) (l r : T)
  deriving Inhabited

abbrev Reg := List Bool

def T.get : T → Reg → AV
  | .lf, _ => .u
  | .nd v _ _, [] => v
  | .nd _ l _, false :: q => l.get q
  | .nd _ _ r, true :: q => r.get q

def T.set : T → Reg → AV → T
  | .lf, [], v => .nd v .lf .lf
  | .lf, false :: q, v => .nd .u (T.set .lf q v) .lf
  | .lf, true :: q, v => .nd .u .lf (T.set .lf q v)
  | .nd _ l r, [], v => .nd v l r
  | .nd x l r, false :: q, v => .nd x (T.set l q v) r
  | .nd x l r, true :: q, v => .nd x l (T.set r q v)

def pathGo : Nat → Nat → Reg
  | 0, _ => []
  | d + 1, m => if m ≤ 1 then [] else (m % 2 == 1) :: pathGo d (m / 2)

/-- The way to slot n: the digits of n + 1 behind the first, the lowest first. -/
def path (n : Nat) : Reg := pathGo 64 (n + 1)

abbrev Hp := List (Nat × Blk)

def Hp.get : Hp → Nat → Option Blk
  | [], _ => none
  | (k, b) :: h, k' => if k' = k then some b else Hp.get h k'

def Hp.del : Hp → Nat → Hp
  | [], _ => []
  | (k, b) :: h, k' => if k' = k then Hp.del h k' else (k, b) :: Hp.del h k'

/-- Put a block: in its place, or at the end. -/
def Hp.put : Hp → Nat → Blk → Hp
  | [], k', b' => [(k', b')]
  | (k, b) :: h, k', b' => if k' = k then (k, b') :: h else (k, b) :: Hp.put h k' b'

abbrev Upd := List (Nat × Option Blk)

def Hp.upd : Hp → Upd → Hp
  | h, [] => h
  | h, (k, some b) :: u => Hp.upd (h.put k b) u
  | h, (k, none) :: u => Hp.upd (h.del k) u

/-- Slots, blocks, the next new key, how many keys came in. -/
structure St where
  tm : T
  hp : Hp
  nx : Nat
  ar : Nat
  deriving Inhabited

def upto : Nat → List Nat
  | 0 => []
  | n + 1 => upto n ++ [n]

/-- Operands. -/
inductive Opd where
  | t (r : Reg)
  | c (v : AV)
  deriving Inhabited

inductive Cls where
  | bool | ptr | slc | map | fnc
  deriving Inhabited

/-- Kinds of cells that are compared. -/
inductive Kd where
  | bool | int | str
  deriving Inhabited, DecidableEq

/-- Kinds of keys. -/
inductive KT where
  | one (k : Kd)
  | agg (ks : List Kd)
  deriving Inhabited

inductive Ext where
  | idxByteStr | same
  deriving Inhabited

inductive VOp where
  | mov (x : Opd)
  | pick (c a b : Opd)
  | alloc (t : TypeId) (z : List C)
  | box (t : TypeId) (x : Opd)
  | build (z : List C) (ps : List (Nat × Nat × Opd))
  | bsl (t : TypeId) (z : Nat) (cs : List C) (len : Nat) (ps : List (Nat × Nat × Opd))
  | load (n : Nat) (agg : Bool) (x : Opd)
  | store (n : Nat) (x v : Opd)
  | nilchk (x : Opd)
  | bin (o : BinOp) (x y : Opd)
  | eqv (c : Cls) (neg : Bool) (x y : Opd)
  | eqa (ks : List Kd) (neg : Bool) (x y : Opd)
  | un (o : UnOp) (x : Opd)
  | conv (k : IntKind) (x : Opd)
  | b2s (x : Opd)
  | s2b (t : TypeId) (x : Opd)
  /-- a text as a text -/
  | same (x : Opd)
  /-- a pointer to t as an unsafe.Pointer, or back -/
  | uptr (t n : Nat) (x : Opd)
  | clo (f : FuncId) (caps : List Opd)
  | mkmap
  | mksl (t : TypeId) (z : Nat) (zero : List C) (len cap : Opd)
  | substr (x : Opd) (lo hi : Option Opd)
  | subsl (z : Nat) (x : Opd) (lo hi : Option Opd)
  | subarr (n z : Nat) (x : Opd) (lo hi : Option Opd)
  | faddr (o : Nat) (x : Opd)
  | field (o n : Nat) (agg : Bool) (x : Opd)
  | iaddr (z : Nat) (x i : Opd)
  | aaddr (len z : Nat) (x i : Opd)
  | sidx (x i : Opd)
  | aidx (len z : Nat) (agg : Bool) (x i : Opd)
  | look (kt : KT) (zero : AV) (ok : Bool) (m k : Opd)
  | mapupd (kt : KT) (m k v : Opd)
  | extr (x : Opd) (i : Nat)
  | call (f : FuncId) (args : List Opd)
  | callv (x : Opd) (args : List Opd)
  | ext (e : Ext) (args : List Opd)
  | lenstr (x : Opd)
  | lensl (x : Opd)
  | lenmap (x : Opd)
  | lenarr (n : Nat)
  | app (t : TypeId) (z : Nat) (x y : Opd)
  | mx (x : Opd) (l : List Opd)
  | mn (x : Opd) (l : List Opd)
  | sdata (x : Opd)
  | ustr (t : TypeId) (x n : Opd)
  | delm (kt : KT) (m k : Opd)
  | clr (z : Nat) (zero : List C) (x : Opd)
  | bad
  deriving Inhabited

structure VOper where
  dst : Option Reg
  op : VOp
  guard : Option (Reg × Bool)
  /-- the operations that must stand ahead (closed under what stands ahead of them); empty where the region keeps the text's order -/
  anc : List Nat
  deriving Inhabited

/-- Which slots are kept at a loop's head. -/
inductive Mask where
  | lf
  | nd (b : Bool) (l r : Mask)
  deriving Inhabited

def T.mask : T → Mask → T
  | .lf, _ => .lf
  | .nd _ _ _, .lf => .lf
  | .nd v l r, .nd b l' r' => .nd (if b then v else .u) (l.mask l') (r.mask r')

inductive VCode where
  | skip
  | region (draw : Bool) (ops : List VOper)
  | seq (a b : VCode)
  | cond (c : Opd) (a b : VCode)
  | block (id : Nat) (c : VCode)
  | loop (m : Mask) (c : VCode)
  | exit (id : Nat)
  | ret
  | bad
  deriving Inhabited

inductive VRes where
  | tmp (r : Reg)
  | cell (r : Reg) (n : Nat) (agg : Bool)
  deriving Inhabited

/-- Functions of the library that are told, not run. -/
inductive Prim where
  | clone (t : TypeId) (z : Nat) | sortInts | cut | join | itoa
  deriving Inhabited, DecidableEq

inductive VMode where
  | borrow | freeze | heap | prim (p : Prim)
  /-- told: a function of values -/
  | told (g : List PVal → Option (List PVal))
  /-- told: a function of values and of what they reach -/
  | toldH (g : List AV → Hp → Nat → Option (List AV × Hp × Nat))
  deriving Inhabited

structure VFn where
  mode : VMode
  nargs : Nat
  body : VCode
  res : List VRes
  deriving Inhabited

inductive Exit where
  | normal | exit (id : Nat) | ret
  deriving Inhabited

/-! Operands, cells. -/
def St.ev (s : St) : Opd → AV
  | .t r => s.tm.get r
  | .c v => v

def AV.ofPVal : PVal → AV
  | .one v => .p v
  | .agg cs => .pa cs

def AV.cells : AV → Option (List C)
  | .p v => some [.p v]
  | .pa cs => some (cs.map .p)
  | .r c => some [c]
  | .ag cs => some cs
  | _ => none

def AV.ofC : C → AV
  | .p v => .p v
  | c => .r c

def allP : List C → Option (List PV)
  | [] => some []
  | .p v :: l => (allP l).map (v :: ·)
  | _ :: _ => none

def AV.ofCs (cs : List C) : AV :=
  match allP cs with
  | some l => .pa l
  | none => .ag cs

/-- A part of several results. -/
def AV.part? : AV → Option (Bool × List C)
  | .p v => some (false, [.p v])
  | .pa cs => some (true, cs.map .p)
  | .r c => some (false, [c])
  | .ag cs => some (true, cs)
  | _ => none

/-- A call's results as one value. -/
def AV.ofList : List AV → Option AV
  | [v] => some v
  | l => (mapL l).map .tup
where
  mapL : List AV → Option (List (Bool × List C))
    | [] => some []
    | v :: l => match v.part?, mapL l with
      | some x, some xs => some (x :: xs)
      | _, _ => none

def AV.int? : AV → Option (IntKind × Int)
  | .p (.int k n) => some (k, n)
  | _ => none

def AV.bool? : AV → Option Bool
  | .p (.bool b) => some b
  | _ => none

def AV.str? : AV → Option (List UInt8)
  | .p (.str s) => some s
  | _ => none

/-- Write cells into a row of cells. -/
def putCells : List C → Nat → List C → List C
  | cs, _, [] => cs
  | cs, o, v :: vs => putCells (cs.set o v) (o + 1) vs

def fillParts (z : List C) : List (Nat × Nat × AV) → Option (List C)
  | [] => some z
  | (o, n, v) :: ps =>
    match v.cells with
    | some vs => if vs.length = n ∧ o + n ≤ z.length then fillParts (putCells z o vs) ps else none
    | none => none

def repl (n : Nat) (z : List C) : List C :=
  match n with
  | 0 => []
  | n + 1 => z ++ repl n z

/-! References: what is reached, renaming. -/
def C.refs : C → List Nat
  | .ptr k _ => [k]
  | .slc k _ _ _ => [k]
  | .map k => [k]
  | .clo _ caps => caps.map Prod.fst
  | _ => []

def renCaps (ρ : Nat → Option Nat) : List (Nat × Nat) → Option (List (Nat × Nat))
  | [] => some []
  | (k, o) :: l => match ρ k, renCaps ρ l with
    | some k', some l' => some ((k', o) :: l')
    | _, _ => none

def C.ren (ρ : Nat → Option Nat) : C → C
  | .ptr k o => match ρ k with | some k' => .ptr k' o | none => .dead
  | .slc k o n z => match ρ k with | some k' => .slc k' o n z | none => .dead
  | .map k => match ρ k with | some k' => .map k' | none => .dead
  | .clo f caps => match renCaps ρ caps with | some l => .clo f l | none => .dead
  | c => c

def Blk.ren (ρ : Nat → Option Nat) : Blk → Blk
  | .cells m f cs => .cells m f (cs.map (C.ren ρ))
  | .map es => .map es

def AV.ren (ρ : Nat → Option Nat) : AV → AV
  | .r c => .r (c.ren ρ)
  | .ag cs => .ag (cs.map (C.ren ρ))
  | .tup l => .tup (l.map fun (g, cs) => (g, cs.map (C.ren ρ)))
  | v => v

def AV.refs : AV → List Nat
  | .r c => c.refs
  | .ag cs => cs.flatMap C.refs
  | .tup l => l.flatMap fun (_, cs) => cs.flatMap C.refs
  | _ => []

def T.ren (ρ : Nat → Option Nat) : T → T
  | .lf => .lf
  | .nd v l r => .nd (v.ren ρ) (l.ren ρ) (r.ren ρ)

def T.refs : T → List Nat
  | .lf => []
  | .nd v l r => v.refs ++ (l.refs ++ r.refs)

def Blk.refs : Blk → List Nat
  | .cells _ _ cs => cs.flatMap C.refs
  | .map _ => []

/-- What is reached from some keys, in the order in which it is met. -/
def reach (h : Hp) : Nat → List Nat → List Nat → Option (List Nat)
  | 0, _, _ => none
  | n + 1, todo, seen =>
    match todo with
    | [] => some seen
    | k :: todo =>
      if seen.contains k then reach h n todo seen
      else match Hp.get h k with
        | some b => reach h n (b.refs ++ todo) (seen ++ [k])
        | none => reach h n todo seen

def reachAll (h : Hp) (roots : List Nat) : Option (List Nat) := reach h 100000 roots []

/-- A renaming: key 'l[i]' becomes 'a + i'. -/
def place (a : Nat) : List Nat → Nat → Option Nat
  | [], _ => none
  | k :: l, k' => if k' = k then some a else place (a + 1) l k'

/-- The blocks of some keys, renamed, with keys from a on. -/
def pack (h : Hp) (ρ : Nat → Option Nat) : Nat → List Nat → Hp
  | _, [] => []
  | a, k :: l =>
    match Hp.get h k with
    | some b => (a, b.ren ρ) :: pack h ρ (a + 1) l
    | none => pack h ρ (a + 1) l

/-- Keep what is reached: keys below a stay where they are. -/
def gcKeys (a : Nat) (h : Hp) (roots : List Nat) : Option (List Nat) :=
  (reachAll h (upto a ++ roots)).map fun l => l.filter fun k => ! decide (k < a)

def gcRen (a : Nat) (ks : List Nat) : Nat → Option Nat := fun k => if k < a then some k else place a ks k

def gc (a : Nat) (h : Hp) (ks : List Nat) : Hp :=
  pack h (gcRen a ks) 0 (upto a ++ ks)

/-! Reading a value without references off the heap. -/
def rowsOf (z : Nat) : Nat → List PV → List (List PV)
  | 0, _ => []
  | n + 1, l => l.take z :: rowsOf z n (l.drop z)

def mapO {α β : Type} (f : α → Option β) : List α → Option (List β)
  | [] => some []
  | x :: l => match f x, mapO f l with
    | some v, some vs => some (v :: vs)
    | _, _ => none

def snap (h : Hp) : Nat → C → Option PV
  | 0, _ => none
  | d + 1, c =>
    match c with
    | .p v => some v
    | .nils => some (.list 0 [])
    | .e0 => some (.list 0 [])
    | .slc k o n z =>
      if n = 0 then some (.list 0 []) else
      match Hp.get h k with
      | some (.cells _ _ cs) => if o + n * z ≤ cs.length then (mapO (snap h d) ((cs.drop o).take (n * z))).map fun l => .list z (rowsOf z n l) else none
      | _ => none
    | .ptr k o =>
      match Hp.get h k with
      | some (.cells _ _ cs) => (mapO (snap h d) cs).map fun l => .pp l o
      | _ => none
    | _ => some .opq

def depth : Nat := 40

def AV.snap (h : Hp) : AV → Option PVal
  | .p v => some (.one v)
  | .pa cs => some (.agg cs)
  | .r c => (Gv.snap h depth c).map .one
  | .ag cs => (mapO (Gv.snap h depth) cs).map .agg
  | _ => none

/-- Rows end in their blocks: all is frozen that is reached. -/
def freezeUpd (h : Hp) : List Nat → Upd
  | [] => []
  | k :: l =>
    match Hp.get h k with
    | some (.cells m _ cs) => (k, some (.cells m cs.length cs)) :: freezeUpd h l
    | _ => freezeUpd h l

def PV.scalar : PV → Bool
  | .bool _ | .int _ _ | .str _ | .flt _ _ | .cpx _ _ _ | .nilp | .nili | .nilf | .nilm => true
  | _ => false

def AV.scalar : AV → Bool
  | .p v => v.scalar
  | .pa cs => cs.all PV.scalar
  | _ => false

/-! Comparing. -/
def PV.eqk? : Kd → PV → PV → Option Bool
  | .bool, .bool a, .bool b => some (a == b)
  | .int, .int k a, .int k' b => if k = k' then some (a == b) else none
  | .str, .str a, .str b => some (a == b)
  | _, _, _ => none

def eqK? : List Kd → List PV → List PV → Option Bool
  | [], [], [] => some true
  | k :: ks, a :: l, b :: m => match PV.eqk? k a b, eqK? ks l m with
    | some x, some y => some (x && y)
    | _, _ => none
  | _, _, _ => none

def PVal.eq? : KT → PVal → PVal → Option Bool
  | .one k, .one a, .one b => PV.eqk? k a b
  | .agg ks, .agg a, .agg b => eqK? ks a b
  | _, _, _ => none

def AV.pval? : AV → Option PVal
  | .p v => some (.one v)
  | .pa cs => some (.agg cs)
  | _ => none

def findE (kt : KT) (k : PVal) : List (PVal × PVal) → Option (Option PVal)
  | [] => some none
  | (k', v) :: es => match PVal.eq? kt k k' with
    | some true => some (some v)
    | some false => findE kt k es
    | none => none

def setE (kt : KT) (k v : PVal) : List (PVal × PVal) → Option (List (PVal × PVal))
  | [] => some [(k, v)]
  | (k', v') :: es => match PVal.eq? kt k k' with
    | some true => some ((k, v) :: es)
    | some false => (setE kt k v es).map ((k', v') :: ·)
    | none => none

def delE (kt : KT) (k : PVal) : List (PVal × PVal) → Option (List (PVal × PVal))
  | [] => some []
  | (k', v') :: es => match PVal.eq? kt k k' with
    | some true => some es
    | some false => (delE kt k es).map ((k', v') :: ·)
    | none => none

/-! Operations. -/
def binInt (o : BinOp) (k : IntKind) (x y : Int) : Option PV :=
  match o with
  | .add => some (.int k (k.wrap (x + y)))
  | .sub => some (.int k (k.wrap (x - y)))
  | .mul => some (.int k (k.wrap (x * y)))
  | .quo => if y = 0 then none else some (.int k (k.wrap (x.tdiv y)))
  | .rem => if y = 0 then none else some (.int k (x.tmod y))
  | .and => some (.int k (k.wrap (BitVec.ofInt k.bits x &&& BitVec.ofInt k.bits y).toNat))
  | .or => some (.int k (k.wrap (BitVec.ofInt k.bits x ||| BitVec.ofInt k.bits y).toNat))
  | .xor => some (.int k (k.wrap (BitVec.ofInt k.bits x ^^^ BitVec.ofInt k.bits y).toNat))
  | .andNot => some (.int k (k.wrap (BitVec.ofInt k.bits x &&& ~~~ BitVec.ofInt k.bits y).toNat))
  | .eql => some (.bool (x == y))
  | .neq => some (.bool (x != y))
  | .lss => some (.bool (decide (x < y)))
  | .leq => some (.bool (decide (x ≤ y)))
  | .gtr => some (.bool (decide (x > y)))
  | .geq => some (.bool (decide (x ≥ y)))
  | _ => none

def shiftInt (o : BinOp) (k : IntKind) (x y : Int) : Option PV :=
  if y < 0 then none else
  match o with
  | .shl => some (.int k (k.wrap (x * 2 ^ (min y.toNat k.bits))))
  | .shr => some (.int k (x.fdiv (2 ^ (min y.toNat k.bits))))
  | _ => none

def maxStr : Nat := 1000000000000

def binStr (o : BinOp) (x y : List UInt8) : Option PV :=
  match o with
  | .add => if x.length + y.length ≤ maxStr then some (.str (x ++ y)) else none
  | .eql => some (.bool (x == y))
  | .neq => some (.bool (!(x == y)))
  | .lss => some (.bool (Op.bytesLess x y))
  | .leq => some (.bool (Op.bytesLess x y || x == y))
  | .gtr => some (.bool (!(Op.bytesLess x y || x == y)))
  | .geq => some (.bool (!Op.bytesLess x y))
  | _ => none

def binAV (o : BinOp) (x y : AV) : Option PV :=
  match x, y with
  | .p (.int k a), .p (.int k' b) =>
    match o with
    | .shl | .shr => shiftInt o k a b
    | _ => if k = k' then binInt o k a b else none
  | .p (.str a), .p (.str b) => binStr o a b
  | _, _ => none

def isNilP : AV → Option Bool
  | .p .nilp => some true
  | .p (.pp _ _) => some false
  | .r (.ptr _ _) => some false
  | _ => none

def eqPtr (h : Hp) (x y : AV) : Option Bool :=
  match x, y with
  | .p .nilp, y => isNilP y
  | x, .p .nilp => isNilP x
  | .r (.ptr k o), .r (.ptr k' o') => if k = k' ∧ (h.get k).isSome = true then some (o == o') else none
  | _, _ => none

def isNilS : AV → Option Bool
  | .r .nils => some true
  | .r (.slc _ _ _ _) => some false
  | .p (.list _ (_ :: _)) => some false
  | _ => none

def isNilM : AV → Option Bool
  | .p .nilm => some true
  | .r (.map _) => some false
  | _ => none

def isNilF : AV → Option Bool
  | .p .nilf => some true
  | .p (.fn _) => some false
  | .r (.clo _ _) => some false
  | _ => none

def eqAV (h : Hp) (c : Cls) (x y : AV) : Option Bool :=
  match c with
  | .bool => match x, y with
    | .p (.bool a), .p (.bool b) => some (a == b)
    | _, _ => none
  | .ptr => eqPtr h x y
  | .slc => match x, y with
    | .r .nils, y => isNilS y
    | x, .r .nils => isNilS x
    | _, _ => none
  | .map => match x, y with
    | .p .nilm, y => isNilM y
    | x, .p .nilm => isNilM x
    | _, _ => none
  | .fnc => match x, y with
    | .p .nilf, y => isNilF y
    | x, .p .nilf => isNilF x
    | _, _ => none

def unAV (o : UnOp) (x : AV) : Option PV :=
  match o, x with
  | .neg, .p (.int k n) => binInt .sub k 0 n
  | .xor, .p (.int k n) => binInt .xor k (if k.signed then -1 else k.max) n
  | .not, .p (.bool b) => some (.bool (!b))
  | _, _ => none

def loadP (n : Nat) (agg : Bool) (cs : List PV) (o : Nat) : Option AV :=
  if o + n ≤ cs.length then
    if agg then some (.pa ((cs.drop o).take n)) else (cs[o]?).map .p
  else none

def loadC (n : Nat) (agg : Bool) (cs : List C) (o : Nat) : Option AV :=
  if o + n ≤ cs.length then
    if agg then some (AV.ofCs ((cs.drop o).take n)) else (cs[o]?).map AV.ofC
  else none

def Hp.cells? (h : Hp) (k : Nat) : Option (Tag × Nat × List C) :=
  match h.get k with
  | some (.cells m f cs) => some (m, f, cs)
  | _ => none

def maxLen : Nat := 16777216

def rowBytes : List C → Option (List UInt8)
  | [] => some []
  | .p (.int .u8 n) :: l => (rowBytes l).map (UInt8.ofNat n.toNat :: ·)
  | _ :: _ => none

def pvBytes : List (List PV) → Option (List UInt8)
  | [] => some []
  | [.int .u8 n] :: l => (pvBytes l).map (UInt8.ofNat n.toNat :: ·)
  | _ :: _ => none

def strCells (s : List UInt8) : List C := s.map fun b => .p (.int .u8 b.toNat)

/-- The cells of what is appended. -/
def appCells (h : Hp) (z : Nat) : AV → Option (Nat × List C)
  | .p (.str s) => if z = 1 then some (s.length, strCells s) else none
  | .p (.list z' l) => if l.isEmpty then some (0, []) else if z' = z then some (l.length, l.flatten.map .p) else none
  | .r .nils => some (0, [])
  | .r .e0 => some (0, [])
  | .r (.slc k o n z') =>
    if n = 0 then some (0, []) else
    if z' = z then
      match h.cells? k with
      | some (_, _, cs) => if o + n * z ≤ cs.length then some (n, (cs.drop o).take (n * z)) else none
      | none => none
    else none
  | _ => none

def bound? (x : Option AV) (d : Nat) : Option Int :=
  match x with
  | none => some d
  | some (.p (.int _ n)) => some n
  | _ => none

def idxByte (b : UInt8) : List UInt8 → Nat → Int
  | [], _ => -1
  | c :: l, i => if c = b then i else idxByte b l (i + 1)

def foldMx : Int → List AV → IntKind → Option Int
  | a, [], _ => some a
  | a, .p (.int k n) :: l, k' => if k = k' then foldMx (if n > a then n else a) l k' else none
  | _, _ :: _, _ => none

def foldMn : Int → List AV → IntKind → Option Int
  | a, [], _ => some a
  | a, .p (.int k n) :: l, k' => if k = k' then foldMn (if n < a then n else a) l k' else none
  | _, _ :: _, _ => none

/-! What an operation other than a call does: the slot's value, the heap's change. -/
def st_mov (s : St) (x : Opd) : Option (AV × Upd) := some (s.ev x, [])

def st_pick (s : St) (c : Opd) (a : Opd) (b : Opd) : Option (AV × Upd) := (s.ev c).bool?.map fun t => (if t then s.ev a else s.ev b, [])

def st_alloc (s : St) (fk : Nat) (t : TypeId) (z : List C) : Option (AV × Upd) := some (.r (.ptr fk 0), [(fk, some (.cells ⟨false, t⟩ 0 z))])

def st_box (s : St) (fk : Nat) (t : TypeId) (x : Opd) : Option (AV × Upd) := (s.ev x).cells.map fun cs => (.r (.ptr fk 0), [(fk, some (.cells ⟨false, t⟩ 0 cs))])

def st_build (s : St) (z : List C) (ps : List (Nat × Nat × Opd)) : Option (AV × Upd) := (fillParts z (ps.map fun (o, n, x) => (o, n, s.ev x))).map fun cs => (AV.ofCs cs, [])

def st_bsl (s : St) (fk : Nat) (t : TypeId) (z : Nat) (cs : List C) (len : Nat) (ps : List (Nat × Nat × Opd)) : Option (AV × Upd) := (fillParts cs (ps.map fun (o, n, x) => (o, n, s.ev x))).map fun cs => (.r (.slc fk 0 len z), [(fk, some (.cells ⟨false, t⟩ 0 cs))])

def st_load (s : St) (n : Nat) (agg : Bool) (x : Opd) : Option (AV × Upd) :=
    match s.ev x with
    | .p (.pp cs o) => (loadP n agg cs o).map (·, [])
    | .r (.ptr k o) => match s.hp.cells? k with
      | some (_, _, cs) => (loadC n agg cs o).map (·, [])
      | none => none
    | _ => none

def st_store (s : St) (n : Nat) (x : Opd) (v : Opd) : Option (AV × Upd) :=
    match s.ev x, (s.ev v).cells with
    | .r (.ptr k o), some vs => match s.hp.cells? k with
      | some (m, f, cs) => if vs.length = n ∧ o + n ≤ cs.length ∧ f ≤ o then some (.u, [(k, some (.cells m f (putCells cs o vs)))]) else none
      | none => none
    | _, _ => none

def st_nilchk (s : St) (x : Opd) : Option (AV × Upd) :=
    match s.ev x with
    | .p (.pp cs o) => some (.p (.pp cs o), [])
    | .r (.ptr k o) => some (.r (.ptr k o), [])
    | _ => none

def st_bin (s : St) (o : BinOp) (x : Opd) (y : Opd) : Option (AV × Upd) := (binAV o (s.ev x) (s.ev y)).map fun v => (.p v, [])

def st_eqv (s : St) (c : Cls) (neg : Bool) (x : Opd) (y : Opd) : Option (AV × Upd) := (eqAV s.hp c (s.ev x) (s.ev y)).map fun b => (.p (.bool (if neg then !b else b)), [])

def st_eqa (s : St) (ks : List Kd) (neg : Bool) (x : Opd) (y : Opd) : Option (AV × Upd) := match s.ev x, s.ev y with
    | .pa a, .pa b => (eqK? ks a b).map fun r => (.p (.bool (if neg then !r else r)), [])
    | _, _ => none

def st_un (s : St) (o : UnOp) (x : Opd) : Option (AV × Upd) := (unAV o (s.ev x)).map fun v => (.p v, [])

def st_conv (s : St) (k : IntKind) (x : Opd) : Option (AV × Upd) := match s.ev x with
    | .p (.int _ n) => some (.p (.int k (k.wrap n)), [])
    | _ => none

def st_b2s (s : St) (x : Opd) : Option (AV × Upd) := match s.ev x with
    | .p (.list z l) => if l.isEmpty then some (.p (.str []), []) else if z = 1 then (pvBytes l).map fun b => (.p (.str b), []) else none
    | .r .nils => some (.p (.str []), [])
    | .r .e0 => some (.p (.str []), [])
    | .r (.slc k o n z) => if n = 0 then some (.p (.str []), []) else if z = 1 then
        match s.hp.cells? k with
        | some (_, _, cs) => if o + n ≤ cs.length then (rowBytes ((cs.drop o).take n)).map fun b => (.p (.str b), []) else none
        | none => none
      else none
    | _ => none

def st_s2b (s : St) (fk : Nat) (t : TypeId) (x : Opd) : Option (AV × Upd) := match s.ev x with
    | .p (.str b) => some (.r (.slc fk 0 b.length 1), [(fk, some (.cells ⟨true, t⟩ 0 (strCells b)))])
    | _ => none

def st_same (s : St) (x : Opd) : Option (AV × Upd) := match s.ev x with
    | .p (.str b) => some (.p (.str b), [])
    | _ => none

def st_uptr (s : St) (t : Nat) (n : Nat) (x : Opd) : Option (AV × Upd) := match s.ev x with
    | .p .nilp => some (.p .nilp, [])
    | .r (.ptr k o) => match s.hp.cells? k with
      | some (m, _, cs) => if m.ty = t ∧ o = 0 ∧ n ≤ cs.length ∧ 0 < n then some (.r (.ptr k o), []) else none
      | none => none
    | _ => none

def st_clo (s : St) (f : FuncId) (caps : List Opd) : Option (AV × Upd) := (mapO (fun x => match s.ev x with | .r (.ptr k o) => some (k, o) | _ => none) caps).map fun l => (.r (.clo f l), [])

def st_mkmap (s : St) (fk : Nat)  : Option (AV × Upd) := some (.r (.map fk), [(fk, some (.map []))])

def st_mksl (s : St) (fk : Nat) (t : TypeId) (z : Nat) (zero : List C) (len : Opd) (cap : Opd) : Option (AV × Upd) := match s.ev len, s.ev cap with
    | .p (.int _ n), .p (.int _ c) => if 0 ≤ n ∧ n ≤ c ∧ c ≤ maxLen ∧ n = c then some (.r (.slc fk 0 n.toNat z), [(fk, some (.cells ⟨false, t⟩ 0 (repl n.toNat zero)))]) else none
    | _, _ => none

def st_substr (s : St) (x : Opd) (lo : Option Opd) (hi : Option Opd) : Option (AV × Upd) := match s.ev x with
    | .p (.str b) => match bound? (lo.map s.ev) 0, bound? (hi.map s.ev) b.length with
      | some l, some h => if 0 ≤ l ∧ l ≤ h ∧ h ≤ b.length then some (.p (.str ((b.drop l.toNat).take (h - l).toNat)), []) else none
      | _, _ => none
    | _ => none

def st_subsl (s : St) (z : Nat) (x : Opd) (lo : Option Opd) (hi : Option Opd) : Option (AV × Upd) := match s.ev x with
    | .p (.list z' rows) => match bound? (lo.map s.ev) 0, bound? (hi.map s.ev) rows.length with
      | some l, some h => if 0 ≤ l ∧ l ≤ h ∧ h ≤ rows.length ∧ (z' = z ∨ rows.isEmpty = true) then some (.p (.list z' ((rows.drop l.toNat).take (h - l).toNat)), []) else none
      | _, _ => none
    | .r .nils => match bound? (lo.map s.ev) 0, bound? (hi.map s.ev) 0 with
      | some l, some h => if l = 0 ∧ h = 0 then some (.r .nils, []) else none
      | _, _ => none
    | .r .e0 => match bound? (lo.map s.ev) 0, bound? (hi.map s.ev) 0 with
      | some l, some h => if l = 0 ∧ h = 0 then some (.r .e0, []) else none
      | _, _ => none
    | .r (.slc k o n z') => match bound? (lo.map s.ev) 0, bound? (hi.map s.ev) n with
      | some l, some h => if 0 ≤ l ∧ l ≤ h ∧ h ≤ n ∧ z' = z then some (.r (.slc k (o + l.toNat * z) (h - l).toNat z), []) else none
      | _, _ => none
    | _ => none

def st_subarr (s : St) (len : Nat) (z : Nat) (x : Opd) (lo : Option Opd) (hi : Option Opd) : Option (AV × Upd) := match s.ev x with
    | .r (.ptr k o) => match bound? (lo.map s.ev) 0, bound? (hi.map s.ev) len with
      | some l, some h => match s.hp.cells? k with
        | some (_, _, cs) => if 0 ≤ l ∧ l ≤ h ∧ h ≤ len ∧ o + len * z ≤ cs.length then some (.r (.slc k (o + l.toNat * z) (h - l).toNat z), []) else none
        | none => none
      | _, _ => none
    | _ => none

def st_faddr (s : St) (o : Nat) (x : Opd) : Option (AV × Upd) := match s.ev x with
    | .p (.pp cs o') => some (.p (.pp cs (o' + o)), [])
    | .r (.ptr k o') => some (.r (.ptr k (o' + o)), [])
    | _ => none

def st_field (s : St) (o : Nat) (n : Nat) (agg : Bool) (x : Opd) : Option (AV × Upd) := match s.ev x with
    | .pa cs => (loadP n agg cs o).map (·, [])
    | .ag cs => (loadC n agg cs o).map (·, [])
    | _ => none

def st_iaddr (s : St) (z : Nat) (x : Opd) (i : Opd) : Option (AV × Upd) := match s.ev x, s.ev i with
    | .p (.list z' rows), .p (.int _ i) => if 0 ≤ i ∧ z' = z then match rows[i.toNat]? with
        | some row => some (.p (.pp row 0), [])
        | none => none
      else none
    | .r (.slc k o n z'), .p (.int _ i) => if 0 ≤ i ∧ i < n ∧ z' = z ∧ (s.hp.get k).isSome = true then some (.r (.ptr k (o + i.toNat * z)), []) else none
    | _, _ => none

def st_aaddr (s : St) (len : Nat) (z : Nat) (x : Opd) (i : Opd) : Option (AV × Upd) := match s.ev x, s.ev i with
    | .p (.pp cs o), .p (.int _ i) => if 0 ≤ i ∧ i < len then some (.p (.pp cs (o + i.toNat * z)), []) else none
    | .r (.ptr k o), .p (.int _ i) => if 0 ≤ i ∧ i < len then some (.r (.ptr k (o + i.toNat * z)), []) else none
    | _, _ => none

def st_sidx (s : St) (x : Opd) (i : Opd) : Option (AV × Upd) := match s.ev x, s.ev i with
    | .p (.str b), .p (.int _ i) => if 0 ≤ i then (b[i.toNat]?).map fun c => (.p (.int .u8 c.toNat), []) else none
    | _, _ => none

def st_aidx (s : St) (len : Nat) (z : Nat) (agg : Bool) (x : Opd) (i : Opd) : Option (AV × Upd) := match s.ev x, s.ev i with
    | .pa cs, .p (.int _ i) => if 0 ≤ i ∧ i < len then (loadP z agg cs (i.toNat * z)).map (·, []) else none
    | _, _ => none

def st_look (s : St) (kt : KT) (zero : AV) (ok : Bool) (m : Opd) (k : Opd) : Option (AV × Upd) := match s.ev m, (s.ev k).pval? with
    | .r (.map q), some key => match s.hp.get q with
      | some (.map es) => if (PVal.eq? kt key key).isSome = true then match findE kt key es with
        | some (some v) => if ok then (AV.ofList [AV.ofPVal v, .p (.bool true)]).map (·, []) else some (AV.ofPVal v, [])
        | some none => if ok then (AV.ofList [zero, .p (.bool false)]).map (·, []) else some (zero, [])
        | none => none
        else none
      | _ => none
    | _, _ => none

def st_mapupd (s : St) (kt : KT) (m : Opd) (k : Opd) (v : Opd) : Option (AV × Upd) := match s.ev m, (s.ev k).pval?, (s.ev v).pval? with
    | .r (.map q), some key, some val => match s.hp.get q with
      | some (.map es) => if (PVal.eq? kt key key).isSome = true then (setE kt key val es).map fun es' => (.u, [(q, some (.map es'))]) else none
      | _ => none
    | _, _, _ => none

def st_extr (s : St) (x : Opd) (i : Nat) : Option (AV × Upd) := match s.ev x with
    | .tup l => match l[i]? with
      | some (true, cs) => some (AV.ofCs cs, [])
      | some (false, [c]) => some (AV.ofC c, [])
      | _ => none
    | _ => none

def st_lenstr (s : St) (x : Opd) : Option (AV × Upd) := (s.ev x).str?.map fun b => (.p (.int .i64 b.length), [])

def st_lensl (s : St) (x : Opd) : Option (AV × Upd) := match s.ev x with
    | .p (.list _ l) => some (.p (.int .i64 l.length), [])
    | .r .nils => some (.p (.int .i64 0), [])
    | .r .e0 => some (.p (.int .i64 0), [])
    | .r (.slc _ _ n _) => some (.p (.int .i64 n), [])
    | _ => none

def st_lenmap (s : St) (x : Opd) : Option (AV × Upd) := match s.ev x with
    | .p .nilm => some (.p (.int .i64 0), [])
    | .r (.map q) => match s.hp.get q with
      | some (.map es) => some (.p (.int .i64 es.length), [])
      | _ => none
    | _ => none

def st_lenarr (s : St) (n : Nat) : Option (AV × Upd) := some (.p (.int .i64 n), [])

def st_app (s : St) (fk : Nat) (t : TypeId) (z : Nat) (x : Opd) (y : Opd) : Option (AV × Upd) :=
    match appCells s.hp z (s.ev y) with
    | none => none
    | some (m, new) =>
      if m = 0 then
        match s.ev x with
        | .r .nils => some (.r .nils, [])
        | .r .e0 => some (.r .e0, [])
        | .r (.slc k o n z') => some (.r (.slc k o n z'), [])
        | .p (.list z' l) => some (.p (.list z' l), [])
        | _ => none
      else
        match s.ev x with
        | .r .nils => if m ≤ maxLen then some (.r (.slc fk 0 m z), [(fk, some (.cells ⟨false, t⟩ 0 new))]) else none
        | .r .e0 => if m ≤ maxLen then some (.r (.slc fk 0 m z), [(fk, some (.cells ⟨false, t⟩ 0 new))]) else none
        | .r (.slc k o n z') =>
          match s.hp.cells? k with
          | some (mk, f, cs) =>
            if mk.ty = t ∧ o = 0 ∧ z' = z ∧ n * z ≤ cs.length ∧ f ≤ n * z ∧ n + m ≤ maxLen then
              some (.r (.slc fk 0 (n + m) z), [(k, none), (fk, some (.cells mk f (cs.take (n * z) ++ new)))])
            else none
          | none => none
        | _ => none

def st_mx (s : St) (x : Opd) (l : List Opd) : Option (AV × Upd) := match s.ev x with
    | .p (.int k n) => (foldMx n (l.map s.ev) k).map fun m => (.p (.int k m), [])
    | _ => none

def st_mn (s : St) (x : Opd) (l : List Opd) : Option (AV × Upd) := match s.ev x with
    | .p (.int k n) => (foldMn n (l.map s.ev) k).map fun m => (.p (.int k m), [])
    | _ => none

def st_sdata (s : St) (x : Opd) : Option (AV × Upd) := match s.ev x with
    | .r .nils => some (.p .nilp, [])
    | .r (.slc k o n z) => if n ≠ 0 ∧ (s.hp.get k).isSome = true then some (.r (.ptr k o), []) else none
    | _ => none

def st_ustr (s : St) (t : TypeId) (x : Opd) (n : Opd) : Option (AV × Upd) := match s.ev x, s.ev n with
    | .p .nilp, .p (.int .i64 n) => if n = 0 then some (.p (.str []), []) else none
    | .r (.ptr k o), .p (.int .i64 n) => if 0 < n ∧ n ≤ maxLen then
        match s.hp.cells? k with
        | some (m, f, cs) => if o = 0 ∧ n.toNat ≤ cs.length ∧ m = ⟨false, t⟩ then (rowBytes (cs.take n.toNat)).map fun b => (.p (.str b), [(k, some (.cells m (max f n.toNat) cs))]) else none
        | none => none
      else none
    | _, _ => none

def st_delm (s : St) (kt : KT) (m : Opd) (k : Opd) : Option (AV × Upd) := match s.ev m, (s.ev k).pval? with
    | .r (.map q), some key => match s.hp.get q with
      | some (.map es) => if (PVal.eq? kt key key).isSome = true then (delE kt key es).map fun es' => (.u, [(q, some (.map es'))]) else none
      | _ => none
    | _, _ => none

def st_clr (s : St) (z : Nat) (zero : List C) (x : Opd) : Option (AV × Upd) := match s.ev x with
    | .r .nils => some (.u, [])
    | .r .e0 => some (.u, [])
    | .r (.slc k o n z') => if n = 0 then some (.u, []) else
      match s.hp.cells? k with
      | some (m, f, cs) => if z' = z ∧ f ≤ o ∧ o + n * z ≤ cs.length ∧ zero.length = z then some (.u, [(k, some (.cells m f (putCells cs o (repl n zero))))]) else none
      | none => none
    | .p (.list _ l) => if l.isEmpty then some (.u, []) else none
    | _ => none

def st_ext (s : St) (e : Ext) (args : List Opd) : Option (AV × Upd) := match e, args.map s.ev with
    | .idxByteStr, [.p (.str b), .p (.int .u8 c)] => some (.p (.int .i64 (idxByte (UInt8.ofNat c.toNat) b 0)), [])
    | .same, [x] => match x with
      | .p .nilp => some (.p .nilp, [])
      | .r (.ptr k o) => some (.r (.ptr k o), [])
      | _ => none
    | _, _ => none

def step (s : St) (fk : Nat) : VOp → Option (AV × Upd)
  | .mov x => st_mov s x
  | .pick c a b => st_pick s c a b
  | .alloc t z => st_alloc s fk t z
  | .box t x => st_box s fk t x
  | .build z ps => st_build s z ps
  | .bsl t z cs len ps => st_bsl s fk t z cs len ps
  | .load n agg x => st_load s n agg x
  | .store n x v => st_store s n x v
  | .nilchk x => st_nilchk s x
  | .bin o x y => st_bin s o x y
  | .eqv c neg x y => st_eqv s c neg x y
  | .eqa ks neg x y => st_eqa s ks neg x y
  | .un o x => st_un s o x
  | .conv k x => st_conv s k x
  | .b2s x => st_b2s s x
  | .s2b t x => st_s2b s fk t x
  | .same x => st_same s x
  | .uptr t n x => st_uptr s t n x
  | .clo f caps => st_clo s f caps
  | .mkmap => st_mkmap s fk
  | .mksl t z zero len cap => st_mksl s fk t z zero len cap
  | .substr x lo hi => st_substr s x lo hi
  | .subsl z x lo hi => st_subsl s z x lo hi
  | .subarr len z x lo hi => st_subarr s len z x lo hi
  | .faddr o x => st_faddr s o x
  | .field o n agg x => st_field s o n agg x
  | .iaddr z x i => st_iaddr s z x i
  | .aaddr len z x i => st_aaddr s len z x i
  | .sidx x i => st_sidx s x i
  | .aidx len z agg x i => st_aidx s len z agg x i
  | .look kt zero ok m k => st_look s kt zero ok m k
  | .mapupd kt m k v => st_mapupd s kt m k v
  | .extr x i => st_extr s x i
  | .lenstr x => st_lenstr s x
  | .lensl x => st_lensl s x
  | .lenmap x => st_lenmap s x
  | .lenarr n => st_lenarr s n
  | .app t z x y => st_app s fk t z x y
  | .mx x l => st_mx s x l
  | .mn x l => st_mn s x l
  | .sdata x => st_sdata s x
  | .ustr t x n => st_ustr s t x n
  | .delm kt m k => st_delm s kt m k
  | .clr z zero x => st_clr s z zero x
  | .ext e args => st_ext s e args
  | .call _ _ | .callv _ _ | .bad => none

/-- An operation's operands. -/
def VOp.opds : VOp → List Opd
  | .mov x | .box _ x | .load _ _ x | .nilchk x | .un _ x | .conv _ x | .b2s x | .s2b _ x | .same x | .uptr _ _ x | .faddr _ x | .field _ _ _ x | .extr x _ | .lenstr x | .lensl x | .lenmap x | .sdata x | .clr _ _ x => [x]
  | .pick c a b => [c, a, b]
  | .alloc _ _ | .mkmap | .lenarr _ | .bad => []
  | .build _ ps | .bsl _ _ _ _ ps => ps.map fun (_, _, x) => x
  | .store _ x v => [x, v]
  | .bin _ x y | .eqv _ _ x y | .eqa _ _ x y | .iaddr _ x y | .aaddr _ _ x y | .sidx x y | .aidx _ _ _ x y | .app _ _ x y | .ustr _ x y | .delm _ x y | .mksl _ _ _ x y | .look _ _ _ x y => [x, y]
  | .clo _ l | .call _ l | .ext _ l => l
  | .substr x lo hi | .subsl _ x lo hi | .subarr _ _ x lo hi => x :: (lo.toList ++ hi.toList)
  | .mapupd _ m k v => [m, k, v]
  | .callv x l | .mx x l | .mn x l => x :: l

/-- As 'reach', but with the keys that stand for nothing. -/
def visit (h : Hp) : Nat → List Nat → List Nat → Option (List Nat)
  | 0, _, _ => none
  | n + 1, todo, seen =>
    match todo with
    | [] => some seen
    | k :: todo =>
      if seen.contains k then visit h n todo seen
      else match Hp.get h k with
        | some b => visit h n (b.refs ++ todo) (seen ++ [k])
        | none => visit h n todo (seen ++ [k])

/-- The keys that an operation reads. -/
def foot (s : St) : VOp → Option (List Nat)
  | .load _ _ x | .store _ x _ | .look _ _ _ x _ | .mapupd _ x _ _ | .lenmap x | .b2s x | .uptr _ _ x | .ustr _ x _ | .delm _ x _ | .clr _ _ x | .subarr _ _ x _ _ | .iaddr _ x _ | .sdata x => some (s.ev x).refs
  | .app _ _ x y => some ((s.ev x).refs ++ (s.ev y).refs)
  | .eqv _ _ x y => some ((s.ev x).refs ++ (s.ev y).refs)
  | .call _ args => visit s.hp 100000 ((args.map s.ev).flatMap AV.refs) []
  | .callv x args => visit s.hp 100000 ((args.map s.ev).flatMap AV.refs ++ (s.ev x).refs) []
  | _ => some []

/-! Calls. -/
def putArgs : T → Nat → List AV → T
  | t, _, [] => t
  | t, n, v :: l => putArgs (t.set (path n) v) (n + 1) l

def readRes (s : St) : VRes → Option AV
  | .tmp r => some (s.tm.get r)
  | .cell r n agg => match s.tm.get r with
    | .r (.ptr k o) => match s.hp.cells? k with
      | some (_, _, cs) => loadC n agg cs o
      | none => none
    | _ => none

def readAll (s : St) : List VRes → Option (List AV)
  | [] => some []
  | x :: l => match readRes s x, readAll s l with
    | some v, some vs => some (v :: vs)
    | _, _ => none

abbrev Rec := VCode → St → Option (Exit × St)
abbrev Fns := FuncId → Option VFn

def snapAll (h : Hp) : List AV → Option (List PVal)
  | [] => some []
  | v :: l => match v.snap h, snapAll h l with
    | some x, some xs => some (x :: xs)
    | _, _ => none

/-- A call on values alone. -/
def pcallW (F : Fns) (rec : Rec) (f : FuncId) (args : List PVal) : Option (List PVal) :=
  match F f with
  | none => none
  | some fn =>
    if args.length ≤ fn.nargs then
      match rec fn.body { tm := putArgs .lf 0 (args.map AV.ofPVal), hp := [], nx := 0, ar := 0 } with
      | some (.normal, s) | some (.ret, s) =>
        match readAll s fn.res with
        | some vs => snapAll s.hp vs
        | none => none
      | _ => none
    else none

/-- A call with a heap of its own: keys 0 .. a-1 are what the arguments reach. -/
def icallW (F : Fns) (rec : Rec) (f : FuncId) (args : List AV) (h : Hp) (a : Nat) : Option (List AV × Hp × Nat) :=
  match F f with
  | none => none
  | some fn =>
    if args.length ≤ fn.nargs then
      match rec fn.body { tm := putArgs .lf 0 args, hp := h, nx := a, ar := a } with
      | some (.normal, s) | some (.ret, s) =>
        match readAll s fn.res with
        | some vs =>
          match gcKeys a s.hp (vs.flatMap AV.refs) with
          | some ks => some (vs.map (AV.ren (gcRen a ks)), gc a s.hp ks, ks.length)
          | none => none
        | none => none
      | _ => none
    else none

/-- Back from a call: key i < a is l[i] again, others are fk, fk + 1, .. -/
def backRen (l : List Nat) (fk : Nat) : Nat → Option Nat := fun k => if k < l.length then l[k]? else some (fk + (k - l.length))

def backOld (h' : Hp) (ρ : Nat → Option Nat) : Nat → List Nat → Upd
  | _, [] => []
  | i, k :: l => (k, (Hp.get h' i).map (Blk.ren ρ)) :: backOld h' ρ (i + 1) l

def backNew (h' : Hp) (ρ : Nat → Option Nat) : Nat → Nat → Nat → Upd
  | 0, _, _ => []
  | p + 1, i, fk => (fk, (Hp.get h' i).map (Blk.ren ρ)) :: backNew h' ρ p (i + 1) (fk + 1)

def backUpd (h' : Hp) (ρ : Nat → Option Nat) (fk : Nat) (l : List Nat) (p : Nat) : Upd := backOld h' ρ 0 l ++ backNew h' ρ p l.length fk

def stride : Nat := 32

def insInt (n : Int) : List Int → List Int
  | [] => [n]
  | m :: l => if n ≤ m then n :: m :: l else m :: insInt n l

def sortInt : List Int → List Int
  | [] => []
  | n :: l => insInt n (sortInt l)

def intsOf : List C → Option (List Int)
  | [] => some []
  | .p (.int .i64 n) :: l => (intsOf l).map (n :: ·)
  | _ :: _ => none

def isPre : List UInt8 → List UInt8 → Bool
  | [], _ => true
  | _ :: _, [] => false
  | a :: l, b :: m => a == b && isPre l m

/-- What stands ahead of a text, and behind it. -/
def cutAt (sep : List UInt8) : List UInt8 → Option (List UInt8 × List UInt8)
  | [] => if sep.isEmpty then some ([], []) else none
  | b :: l => if isPre sep (b :: l) then some ([], (b :: l).drop sep.length) else (cutAt sep l).map fun (x, y) => (b :: x, y)

def strRows : List (List PV) → Option (List (List UInt8))
  | [] => some []
  | [.str s] :: l => (strRows l).map (s :: ·)
  | _ :: _ => none

def joinStr (sep : List UInt8) : List (List UInt8) → List UInt8
  | [] => []
  | [s] => s
  | s :: l => s ++ (sep ++ joinStr sep l)

def digit (n : Nat) : UInt8 := UInt8.ofNat (48 + n % 10)

def primStep (p : Prim) (h : Hp) (fk : Nat) (args : List AV) : Option (AV × Upd) :=
  match p, args with
  | .clone t z, [x] =>
    match appCells h z x with
    | some (m, new) => if m = 0 then some (.r .e0, []) else if m ≤ maxLen then some (.r (.slc fk 0 m z), [(fk, some (.cells ⟨false, t⟩ 0 new))]) else none
    | none => none
  | .sortInts, [x] =>
    match x with
    | .r .nils | .r .e0 => some (.tup [], [])
    | .r (.slc k o n z) => if z = 1 then
        match h.cells? k with
        | some (m, f, cs) => if f ≤ o ∧ o + n ≤ cs.length then (intsOf ((cs.drop o).take n)).map fun l => (.tup [], [(k, some (.cells m f (putCells cs o ((sortInt l).map fun i => .p (.int .i64 i)))))]) else none
        | none => none
      else none
    | _ => none
  | .cut, [.p (.str s), .p (.str sep)] =>
    if s.length ≤ maxLen then
      match cutAt sep s with
      | some (x, y) => (AV.ofList [.p (.str x), .p (.str y), .p (.bool true)]).map (·, [])
      | none => (AV.ofList [.p (.str s), .p (.str []), .p (.bool false)]).map (·, [])
    else none
  | .join, [x, .p (.str sep)] =>
    match x.snap h with
    | some (.one (.list z l)) => if l.isEmpty = true ∨ z = 1 then
        match strRows l with
        | some ss => if (joinStr sep ss).length ≤ maxStr then some (.p (.str (joinStr sep ss)), []) else none
        | none => none
      else none
    | _ => none
  | .itoa, [.p (.int .i64 n)] =>
    if 0 ≤ n ∧ n < 10 then some (.p (.str [digit n.toNat]), [])
    else if 0 ≤ n ∧ n < 100 then some (.p (.str [digit (n.toNat / 10), digit n.toNat]), [])
    else none
  | _, _ => none

def doCall (F : Fns) (rec : Rec) (s : St) (fk : Nat) (f : FuncId) (args : List AV) : Option (AV × Upd) :=
  match F f with
  | none => none
  | some fn =>
    match fn.mode with
    | .prim p => primStep p s.hp fk args
    | .told g =>
      match snapAll s.hp args, reachAll s.hp (args.flatMap AV.refs) with
      | some xs, some ks =>
        match g xs with
        | some vs => (AV.ofList (vs.map AV.ofPVal)).map (·, if ks.isEmpty || vs.all fun v => (AV.ofPVal v).scalar then [] else freezeUpd s.hp ks)
        | none => none
      | _, _ => none
    | .toldH g =>
      match reachAll s.hp (args.flatMap AV.refs) with
      | some ks =>
        match g (args.map (AV.ren (place 0 ks))) (pack s.hp (place 0 ks) 0 ks) ks.length with
        | some (vs, h', p) =>
          if p ≤ stride then (AV.ofList (vs.map (AV.ren (backRen ks fk)))).map (·, backUpd h' (backRen ks fk) fk ks p)
          else none
        | none => none
      | none => none
    | .heap =>
      match reachAll s.hp (args.flatMap AV.refs) with
      | some ks =>
        match icallW F rec f (args.map (AV.ren (place 0 ks))) (pack s.hp (place 0 ks) 0 ks) ks.length with
        | some (vs, h', p) =>
          if p ≤ stride then (AV.ofList (vs.map (AV.ren (backRen ks fk)))).map (·, backUpd h' (backRen ks fk) fk ks p)
          else none
        | none => none
      | none => none
    | .borrow =>
      match snapAll s.hp args, reachAll s.hp (args.flatMap AV.refs) with
      | some xs, some ks =>
        match pcallW F rec f xs with
        | some vs => if ks.isEmpty || vs.all fun v => (AV.ofPVal v).scalar then (AV.ofList (vs.map AV.ofPVal)).map (·, []) else none
        | none => none
      | _, _ => none
    | .freeze =>
      match snapAll s.hp args, reachAll s.hp (args.flatMap AV.refs) with
      | some xs, some ks =>
        match pcallW F rec f xs with
        | some vs => (AV.ofList (vs.map AV.ofPVal)).map (·, freezeUpd s.hp ks)
        | none => none
      | _, _ => none

def opStep (F : Fns) (rec : Rec) (s : St) (fk : Nat) : VOp → Option (AV × Upd)
  | .call f args => doCall F rec s fk f (args.map s.ev)
  | .callv x args => match s.ev x with
    | .r (.clo f caps) => doCall F rec s fk f (args.map s.ev ++ caps.map fun (k, o) => .r (.ptr k o))
    | .p (.fn f) => doCall F rec s fk f (args.map s.ev)
    | _ => none
  | o => step s fk o

def St.put (s : St) (dst : Option Reg) (v : AV) : St :=
  match dst with
  | some r => { s with tm := s.tm.set r v }
  | none => s

def wanted (s : St) : Option (Reg × Bool) → Option Bool
  | none => some true
  | some (r, b) => match s.tm.get r with
    | .p (.bool b') => some (b' == b)
    | .tup [] => some false
    | _ => none

def apart (l m : List Nat) : Bool := l.all fun k => !m.contains k

/-- What went before, in a region that draws: the place, the keys that were read, the keys that were written. -/
abbrev Log := List (Nat × List Nat × List Nat)

def logOk (anc : List Nat) (R W : List Nat) : Log → Bool
  | [] => true
  | (i, R', W') :: l => (anc.contains i || (apart W' (R ++ W) && apart R' W)) && logOk anc R W l

def runOps (F : Fns) (rec : Rec) (draw : Bool) (base : Nat) : Nat → List VOper → Log → St → Option St
  | _, [], _, s => some s
  | i, o :: l, log, s =>
    match wanted s o.guard with
    | some true =>
      match opStep F rec s (base + stride * i) o.op with
      | some (v, u) =>
        if draw then
          match foot s o.op with
          | some R =>
            if logOk o.anc R (u.map Prod.fst) log then
              runOps F rec draw base (i + 1) l ((i, R, u.map Prod.fst) :: log) ({ s with hp := s.hp.upd u }.put o.dst v)
            else none
          | none => none
        else runOps F rec draw base (i + 1) l log ({ s with hp := s.hp.upd u }.put o.dst v)
      | none => none
    | some false => runOps F rec draw base (i + 1) l log (s.put o.dst (.tup []))
    | none => none

/-- The slots that an operation looks at. -/
def VOper.uses (o : VOper) : List Reg :=
  (o.op.opds.filterMap fun | .t r => some r | .c _ => none) ++ (match o.guard with | some (r, _) => [r] | none => [])

/-- Of two operations, one must stand ahead, or neither has to do with the other's slots. -/
def slotsFine (a : VOper) (i : Nat) (b : VOper) : Bool :=
  b.anc.contains i || ((match a.dst with | some d => !(b.uses.contains d) && !(b.dst == some d) | none => true) && match b.dst with | some d => !(a.uses.contains d) | none => true)

def fineOps : List VOper → List (VOper × Nat) → Nat → Bool
  | [], _, _ => true
  | o :: l, before, j => (before.all fun (a, i) => slotsFine a i o) && fineOps l ((o, j) :: before) (j + 1)

def VCode.fine : VCode → Bool
  | .region true ops => fineOps ops [] 0
  | .seq a b => a.fine && b.fine
  | .cond _ a b => a.fine && b.fine
  | .block _ c => c.fine
  | .loop _ c => c.fine
  | _ => true

/-- At a loop's head: what is dead goes; keys below a stay. -/
def norm (m : Mask) (s : St) : Option St :=
  match gcKeys s.ar s.hp (s.tm.mask m).refs with
  | some ks => some { tm := (s.tm.mask m).ren (gcRen s.ar ks), hp := gc s.ar s.hp ks, nx := s.ar + ks.length, ar := s.ar }
  | none => none

def execN (F : Fns) (rec : Rec) : Rec
  | .skip, s => some (.normal, s)
  | .region draw ops, s =>
    match runOps F rec draw s.nx 0 ops [] s with
    | some s' => some (.normal, { s' with nx := s.nx + stride * ops.length })
    | none => none
  | .seq x y, s =>
    match execN F rec x s with
    | some (.normal, s') => execN F rec y s'
    | r => r
  | .cond c x y, s =>
    match (s.ev c).bool? with
    | some true => execN F rec x s
    | some false => execN F rec y s
    | none => none
  | .block id c, s =>
    match execN F rec c s with
    | some (.exit id', s') => if id' = id then some (.normal, s') else some (.exit id', s')
    | r => r
  | .loop m c, s =>
    match norm m s with
    | some s1 =>
      match execN F rec c s1 with
      | some (.normal, s') => rec (.loop m c) s'
      | r => r
    | none => none
  | .exit id, s => some (.exit id, s)
  | .ret, s => some (.ret, s)
  | .bad, _ => none

/-- By rounds: each call and each turn of a loop costs one. -/
def run (F : Fns) : Nat → Rec
  | 0 => fun _ _ => none
  | n + 1 => execN F (run F n)

def pcallN (F : Fns) (n : Nat) : FuncId → List PVal → Option (List PVal) := pcallW F (run F n)

end Gv
