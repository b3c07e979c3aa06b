/- From the model's code to the value machine's: the types' facts are looked up here. -/
import Derived.Test.YtnjnlkaagfihbaaAVm
set_option linter.all false
namespace Gv
open Go

def constC : Value → Option C
  | .bool b => some (.p (.bool b))
  | .int k n => some (.p (.int k n))
  | .float k b => some (.p (.flt k b))
  | .complex k a b => some (.p (.cpx k a b))
  | .string s => some (.p (.str s.data.toList))
  | .pointer none => some (.p .nilp)
  | .slice none 0 0 => some .nils
  | .map none => some (.p .nilm)
  | .nilFunc => some (.p .nilf)
  | .nilIface => some (.p .nili)
  | .func (.func f) ⟨[]⟩ ⟨[]⟩ => some (.p (.fn f))
  | _ => none

def constCs : List Value → Option (List C)
  | [] => some []
  | v :: l => match constC v, constCs l with
    | some c, some cs => some (c :: cs)
    | _, _ => none

def constAV : Value → Option AV
  | .agg cs => (constCs cs.toList).map AV.ofCs
  | v => (constC v).map AV.ofC

/-- A type's zero, cell by cell. -/
def zeroC (P : Program) (t : TypeId) : Option (List C) :=
  match (P.info? t).bind (·.zero) with
  | some v => match constCs v.cells.toList with
    | some cs => if cs.length = P.cellsOf t then some cs else none
    | none => none
  | none => none

def isAggT (P : Program) (t : TypeId) : Option Bool :=
  match P.underlying t with
  | some (.struct _) | some (.array _ _) => some true
  | some _ => some false
  | none => none

def cOpd : Operand → Option Opd
  | .tmp t => if t < 100000 then some (.t (path t)) else none
  | .const v => (constAV v).map .c
  | .func f => some (.c (.p (.fn f)))
  | .global _ => none

def cOpds : List Operand → Option (List Opd)
  | [] => some []
  | x :: l => match cOpd x, cOpds l with
    | some c, some cs => some (c :: cs)
    | _, _ => none

def cOpt : Option Operand → Option (Option Opd)
  | none => some none
  | some x => (cOpd x).map some

/-- A struct's fields' kinds, if they stand one behind the other from o on. -/
def fieldsK (P : Program) (fl : TypeId → Option (List Kd)) : List Field → Nat → Option (List Kd)
  | [], _ => some []
  | f :: fs, o =>
    if f.offset = o ∧ f.name ≠ "_" then
      match fl f.type, fieldsK P fl fs (o + P.cellsOf f.type) with
      | some a, some b => if a.length = P.cellsOf f.type then some (a ++ b) else none
      | _, _ => none
    else none

def replK (n : Nat) (ks : List Kd) : List Kd :=
  match n with
  | 0 => []
  | n + 1 => ks ++ replK n ks

/-- The cells' kinds, where '==' at a type is that of its cells, one by one. -/
def flatK (P : Program) : Nat → TypeId → Option (List Kd)
  | 0, _ => none
  | d + 1, t =>
    match P.underlying t with
    | some .bool => if P.cellsOf t = 1 then some [.bool] else none
    | some (.int _) => if P.cellsOf t = 1 then some [.int] else none
    | some .string => if P.cellsOf t = 1 then some [.str] else none
    | some (.struct fs) => if P.stoodInHeld t = true then none else
      match fieldsK P (flatK P d) fs.toList 0 with
      | some ks => if ks.length = P.cellsOf t then some ks else none
      | none => none
    | some (.array n e) =>
      match flatK P d e with
      | some ks => if ks.length = P.cellsOf e ∧ P.cellsOf t = n * P.cellsOf e then some (replK n ks) else none
      | none => none
    | _ => none

def keyT (P : Program) (d : Nat) (t : TypeId) : Option KT :=
  match isAggT P t, flatK P d t with
  | some true, some ks => some (.agg ks)
  | some false, some [k] => some (.one k)
  | _, _ => none

def flatDepth : Nat := 12

/-- Where parts go that are built: their offset and size. -/
def cParts (place : Nat → Option (Nat × Nat)) : List (Nat × Operand) → Option (List (Nat × Nat × Opd))
  | [] => some []
  | (i, x) :: l => match place i, cOpd x, cParts place l with
    | some (o, n), some v, some r => some ((o, n, v) :: r)
    | _, _, _ => none

def cBuild (P : Program) (t : TypeId) (ps : Array (Nat × Operand)) : Option VOp :=
  match zeroC P t with
  | none => none
  | some z =>
    match P.underlying t with
    | some (.struct fs) => if fs.toList.all (fun f => (P.info? f.type).isSome) then (cParts (fun i => (fs[i]?).map fun f => (f.offset, P.cellsOf f.type)) ps.toList).map (.build z) else none
    | some (.array _ e) => if (P.info? e).isSome then (cParts (fun i => some (i * P.cellsOf e, P.cellsOf e)) ps.toList).map (.build z) else none
    | _ => none

def cEq (P : Program) (t : TypeId) : Option Cls :=
  match P.underlying t with
  | some .bool => some .bool
  | some (.pointer e) => if P.cellsOf e = 0 then none else some .ptr
  | some (.slice _) => some .slc
  | some (.map _ _) => some .map
  | some (.func _ _ _) => some .fnc
  | _ => none

def cBin (P : Program) (o : BinOp) (t : TypeId) (x y : Operand) : Option VOp :=
  match cOpd x, cOpd y with
  | some x, some y =>
    match P.underlying t with
    | some (.int _) | some .string => some (.bin o x y)
    | some (.struct _) | some (.array _ _) =>
      if P.eqGuardType P.depth t = false then
        match o, flatK P flatDepth t with
        | .eql, some ks => some (.eqa ks false x y)
        | .neq, some ks => some (.eqa ks true x y)
        | _, _ => none
      else none
    | _ => match o with
      | .eql => (cEq P t).map fun c => .eqv c false x y
      | .neq => (cEq P t).map fun c => .eqv c true x y
      | _ => none
  | _, _ => none

def cConv (P : Program) (s d : TypeId) (x : Operand) : Option VOp :=
  match cOpd x, P.underlying s, P.underlying d with
  | some x, some (.int _), some (.int k) => some (.conv k x)
  | some x, some .string, some .string => some (.same x)
  | some x, some (.slice e), some .string => match P.underlying e with
    | some (.int .u8) => some (.b2s x)
    | _ => none
  | some x, some .string, some (.slice e) => match P.underlying e with
    | some (.int .u8) => if P.cellsOf e = 1 then some (.s2b e x) else none
    | _ => none
  | some x, some (.pointer e), some .unsafePointer => some (.uptr e (P.cellsOf e) x)
  | some x, some .unsafePointer, some (.pointer e) => some (.uptr e (P.cellsOf e) x)
  | _, _, _ => none

def extOf (name : String) : Option Ext :=
  if name = "internal/bytealg.IndexByteString" then some .idxByteStr
  else if name = "internal/abi.NoEscape" then some .same
  else none

def cBuiltin (P : Program) (b : Builtin) (ts : Array TypeId) (args : List Operand) : Option VOp :=
  match b, cOpds args with
  | .len, some [x] => match (ts[0]?).bind P.underlying with
    | some .string => some (.lenstr x)
    | some (.slice _) => some (.lensl x)
    | some (.map _ _) => some (.lenmap x)
    | some (.array n _) => some (.lenarr n)
    | _ => none
  | .append, some [x, y] => match (ts[0]?).bind P.underlying, (ts[1]?).bind P.underlying with
    | some (.slice e), some u =>
      (match u with | .int _ => none | _ => if P.cellsOf e ≠ 0 ∧ P.bytesOf e ≠ 0 ∧ P.bytesOf e ≤ 65536 ∧ (zeroC P e).isSome = true then some (.app e (P.cellsOf e) x y) else none)
    | _, _ => none
  | .max, some (x :: l) => some (.mx x l)
  | .min, some (x :: l) => some (.mn x l)
  | .unsafeSliceData, some [x] => some (.sdata x)
  | .unsafeString, some [x, n] => match (ts[0]?).bind P.underlying with
    | some (.pointer e) => match P.underlying e with
      | some (.int .u8) => if P.cellsOf e = 1 then some (.ustr e x n) else none
      | _ => none
    | _ => none
  | .delete, some [m, k] => match (ts[0]?).bind P.underlying with
    | some (.map k' _) => (keyT P flatDepth k').map fun kt => .delm kt m k
    | _ => none
  | .clear, some [x] => match (ts[0]?).bind P.underlying with
    | some (.slice e) => (zeroC P e).map fun z => .clr (P.cellsOf e) z x
    | _ => none
  | _, _ => none

def cOp (P : Program) (o : Oper) : Option VOp :=
  match o.op with
  | .move x | .assign x => (cOpd x).map .mov
  | .pick c a b => match cOpd c, cOpd a, cOpd b with
    | some c, some a, some b => some (.pick c a b)
    | _, _, _ => none
  | .alloc e => (zeroC P e).map (.alloc e)
  | .box e x => (cOpd x).map (.box e)
  | .build t ps => cBuild P t ps
  | .buildSlice t len ps => match P.underlying t with
    | some (.slice e) => match zeroC P e, cParts (fun i => some (i * P.cellsOf e, P.cellsOf e)) ps.toList with
      | some z, some ps => if len * P.cellsOf e ≤ 16777216 ∧ P.cellsOf e ≠ 0 then some (.bsl e (P.cellsOf e) (repl len z) len ps) else none
      | _, _ => none
    | _ => none
  | .load t a => match cOpd a, isAggT P t with
    | some a, some g => if g = true ∨ P.cellsOf t = 1 then some (.load (P.cellsOf t) g a) else none
    | _, _ => none
  | .store t a v => match cOpd a, cOpd v, P.info? t with
    | some a, some v, some _ => some (.store (P.cellsOf t) a v)
    | _, _, _ => none
  | .nilCheck x => (cOpd x).map .nilchk
  | .binOp op t x y _ => cBin P op t x y
  | .unOp op _ x => (cOpd x).map (.un op)
  | .convert s d x => cConv P s d x
  | .makeFunc (.func f) ⟨[]⟩ caps => (cOpds caps.toList).map (.clo f)
  | .makeMap _ none => some .mkmap
  | .makeSlice t l c => match P.underlying t, cOpd l, cOpd c with
    | some (.slice e), some l, some c => match zeroC P e with
      | some z => if P.cellsOf e ≠ 0 ∧ P.bytesOf e ≤ 65536 then some (.mksl e (P.cellsOf e) z l c) else none
      | none => none
    | _, _, _ => none
  | .slice t x lo hi none => match cOpd x, cOpt lo, cOpt hi with
    | some x, some lo, some hi => match P.underlying t with
      | some .string => some (.substr x lo hi)
      | some (.slice e) => if P.cellsOf e ≠ 0 then some (.subsl (P.cellsOf e) x lo hi) else none
      | some (.array n e) => if P.cellsOf e ≠ 0 then some (.subarr n (P.cellsOf e) x lo hi) else none
      | some (.pointer a) => match P.underlying a with
        | some (.array n e) => if P.cellsOf e ≠ 0 then some (.subarr n (P.cellsOf e) x lo hi) else none
        | _ => none
      | _ => none
    | _, _, _ => none
  | .fieldAddr t x f => match P.underlying t, cOpd x with
    | some (.struct fs), some x => match fs[f]? with
      | some g => if P.cellsOf g.type ≠ 0 then some (.faddr g.offset x) else none
      | none => none
    | _, _ => none
  | .field t x f => match P.underlying t, cOpd x with
    | some (.struct fs), some x => match fs[f]? with
      | some g => match isAggT P g.type with
        | some a => if a = true ∨ P.cellsOf g.type = 1 then some (.field g.offset (P.cellsOf g.type) a x) else none
        | none => none
      | none => none
    | _, _ => none
  | .indexAddr t x i => match P.underlying t, cOpd x, cOpd i with
    | some (.slice e), some x, some i => if P.cellsOf e ≠ 0 then some (.iaddr (P.cellsOf e) x i) else none
    | some (.array n e), some x, some i => if P.cellsOf e ≠ 0 then some (.aaddr n (P.cellsOf e) x i) else none
    | _, _, _ => none
  | .index t x i => match P.underlying t, cOpd x, cOpd i with
    | some .string, some x, some i => some (.sidx x i)
    | some (.array n e), some x, some i => match isAggT P e with
      | some a => if a = true ∨ P.cellsOf e = 1 then some (.aidx n (P.cellsOf e) a x i) else none
      | none => none
    | _, _, _ => none
  | .lookup t m k ok => match P.underlying t, cOpd m, cOpd k with
    | some (.map kt et), some m, some k =>
      match keyT P flatDepth kt, (P.info? et).bind (·.zero) with
      | some kt, some z => (constAV z).map fun z => .look kt z ok m k
      | _, _ => none
    | _, _, _ => none
  | .mapUpdate t m k v => match P.underlying t, cOpd m, cOpd k, cOpd v with
    | some (.map kt _), some m, some k, some v => (keyT P flatDepth kt).map fun kt => .mapupd kt m k v
    | _, _, _, _ => none
  | .extract x i => (cOpd x).map fun x => .extr x i
  | .call c => match c.callee with
    | .builtin b => cBuiltin P b c.argTypes c.args.toList
    | .value (.func f) => match P.funcs[f]?, cOpds c.args.toList with
      | some fn, some args =>
        if fn.name = "runtime.NumGoroutine" then none
        else if fn.body.isNone then (if (Extern.findNext fn).isNone then (extOf fn.name).map fun e => .ext e args else none)
        else some (.call f args)
      | _, _ => none
    | .value x => match cOpd x, cOpds c.args.toList with
      | some x, some args => some (.callv x args)
      | _, _ => none
    | _ => none
  | _ => none

/-- What must stand ahead of each operation, whatever the order. -/
def ancs (ops : List Oper) : List (List Nat) :=
  ops.foldl (fun acc o => acc ++ [((o.after.toList.filter (Region.binds .any)).flatMap fun e => e.on :: acc.getD e.on []).eraseDups]) []

def drawOk (ops : List Oper) : Bool :=
  ops.zipIdx.all fun (o, j) => o.after.toList.all fun e => !Region.binds .any e || decide (e.on < j)

def cGuard (ops : List Oper) (o : Oper) : Option (Option (Reg × Bool)) :=
  match o.guard with
  | none => some none
  | some (j, b) => match (ops[j]?).bind (·.dst) with
    | some d => if d < 100000 then some (some (path d, b)) else none
    | none => none

def cOper (P : Program) (ops : List Oper) (an : List Nat) (o : Oper) : VOper :=
  match cGuard ops o, cOp P o with
  | some g, some v => { dst := o.dst.map path, op := v, guard := g, anc := an }
  | some g, none => { dst := o.dst.map path, op := .bad, guard := g, anc := an }
  | none, _ => { dst := none, op := .bad, guard := none, anc := an }

def cOpers (P : Program) (ops : List Oper) (draw : Bool) : List VOper :=
  if draw then (ops.zip (ancs ops)).map fun (o, an) => cOper P ops an o
  else ops.map fun o => cOper P ops [] o

/-- nt: how many slots there are. -/
def cCode (P : Program) (nt : Nat) : Code → VCode
  | .skip => .skip
  | .region _ ops draw => if (!draw || drawOk ops.toList) && ops.toList.all (fun o => o.dst.all fun d => decide (d < nt)) then .region draw (cOpers P ops.toList draw) else .bad
  | .seq a b => .seq (cCode P nt a) (cCode P nt b)
  | .cond c a b => match cOpd c with
    | some c => .cond c (cCode P nt a) (cCode P nt b)
    | none => .bad
  | .block id c => .block id (cCode P nt c)
  | .loop c => .loop .lf (cCode P nt c)
  | .exit id => .exit id
  | .ret => .ret
  | _ => .bad

def cRes (P : Program) : ResultVar → Option VRes
  | .tmp t => if t < 100000 then some (.tmp (path t)) else none
  | .cell t ty => if t < 100000 then match isAggT P ty with
    | some g => if g = true ∨ P.cellsOf ty = 1 then some (.cell (path t) (P.cellsOf ty) g) else none
    | none => none
    else none

def cRess (P : Program) : List ResultVar → Option (List VRes)
  | [] => some []
  | x :: l => match cRes P x, cRess P l with
    | some c, some cs => some (c :: cs)
    | _, _ => none

/-- Masks struck. -/
def VCode.bare : VCode → VCode
  | .seq a b => .seq a.bare b.bare
  | .cond c a b => .cond c a.bare b.bare
  | .block id c => .block id c.bare
  | .loop _ c => .loop .lf c.bare
  | c => c

/-- Is this the function's form? -/
def fitsB (P : Program) (fn : Func) (v : VFn) : Option VCode :=
  match fn.body with
  | some c =>
    match cRess P fn.results.toList with
    | some rs => if fn.ntmps ≤ 100000 ∧ fn.params.size + fn.nfree ≤ fn.ntmps ∧ v.nargs = fn.params.size + fn.nfree ∧ (rs.length == v.res.length) = true then some (cCode P fn.ntmps c) else none
    | none => none
  | none => none

end Gv
