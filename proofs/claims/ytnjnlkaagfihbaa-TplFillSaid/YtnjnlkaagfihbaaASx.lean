/- The machine's operations, for simp: one rule for each form, none with a condition. -/
import Derived.Test.YtnjnlkaagfihbaaALim
set_option linter.all false
namespace Gv
open Go

/-! Operations as functions of values. -/
abbrev AU := Option (AV × Upd)
def aPick (c a b : AV) : AU := c.bool?.map fun t => (if t then a else b, [])
def aBox (fk : Nat) (t : TypeId) (x : AV) : AU := x.cells.map fun cs => (.r (.ptr fk 0), [(fk, some (.cells ⟨false, t⟩ 0 cs))])
def aBuild (z : List C) (ps : List (Nat × Nat × AV)) : AU := (fillParts z ps).map fun cs => (AV.ofCs cs, [])
def aBsl (fk : Nat) (t : TypeId) (z : Nat) (cs : List C) (len : Nat) (ps : List (Nat × Nat × AV)) : AU := (fillParts cs ps).map fun cs => (.r (.slc fk 0 len z), [(fk, some (.cells ⟨false, t⟩ 0 cs))])
def aLoad (h : Hp) (n : Nat) (agg : Bool) (x : AV) : AU :=
  match x with
  | .p (.pp cs o) => (loadP n agg cs o).map (·, [])
  | .r (.ptr k o) => match h.cells? k with
    | some (_, _, cs) => (loadC n agg cs o).map (·, [])
    | none => none
  | _ => none
def aStore (h : Hp) (n : Nat) (x v : AV) : AU :=
  match x, v.cells with
  | .r (.ptr k o), some vs => match h.cells? k with
    | some (m, f, cs) => if vs.length = n ∧ o + n ≤ cs.length ∧ f ≤ o then some (.u, [(k, some (.cells m f (putCells cs o vs)))]) else none
    | none => none
  | _, _ => none
def aNilchk (x : AV) : AU :=
  match x with
  | .p (.pp cs o) => some (.p (.pp cs o), [])
  | .r (.ptr k o) => some (.r (.ptr k o), [])
  | _ => none
def aBin (o : BinOp) (x y : AV) : AU := (binAV o x y).map fun v => (.p v, [])
def aEqv (h : Hp) (c : Cls) (neg : Bool) (x y : AV) : AU := (eqAV h c x y).map fun b => (.p (.bool (if neg then !b else b)), [])
def aEqa (ks : List Kd) (neg : Bool) (x y : AV) : AU := match x, y with
    | .pa a, .pa b => (eqK? ks a b).map fun r => (.p (.bool (if neg then !r else r)), [])
    | _, _ => none
def aUn (o : UnOp) (x : AV) : AU := (unAV o x).map fun v => (.p v, [])
def aConv (k : IntKind) (x : AV) : AU := match x with
    | .p (.int _ n) => some (.p (.int k (k.wrap n)), [])
    | _ => none
def aB2s (h : Hp) (x : AV) : AU := match x with
    | .p (.list z l) => if l.isEmpty then some (.p (.str []), []) else if z = 1 then (pvBytes l).map fun b => (.p (.str b), []) else none
    | .r .nils => some (.p (.str []), [])
    | .r .e0 => some (.p (.str []), [])
    | .r (.slc k o n z) => if n = 0 then some (.p (.str []), []) else if z = 1 then
        match h.cells? k with
        | some (_, _, cs) => if o + n ≤ cs.length then (rowBytes ((cs.drop o).take n)).map fun b => (.p (.str b), []) else none
        | none => none
      else none
    | _ => none
def aS2b (fk : Nat) (t : TypeId) (x : AV) : AU := match x with
    | .p (.str b) => some (.r (.slc fk 0 b.length 1), [(fk, some (.cells ⟨true, t⟩ 0 (strCells b)))])
    | _ => none
def aSame (x : AV) : AU := match x with
    | .p (.str b) => some (.p (.str b), [])
    | _ => none
def aUptr (h : Hp) (t n : Nat) (x : AV) : AU := match x with
    | .p .nilp => some (.p .nilp, [])
    | .r (.ptr k o) => match h.cells? k with
      | some (m, _, cs) => if m.ty = t ∧ o = 0 ∧ n ≤ cs.length ∧ 0 < n then some (.r (.ptr k o), []) else none
      | none => none
    | _ => none
def aMksl (fk : Nat) (t : TypeId) (z : Nat) (zero : List C) (len cap : AV) : AU := match len, cap with
    | .p (.int _ n), .p (.int _ c) => if 0 ≤ n ∧ n ≤ c ∧ c ≤ maxLen ∧ n = c then some (.r (.slc fk 0 n.toNat z), [(fk, some (.cells ⟨false, t⟩ 0 (repl n.toNat zero)))]) else none
    | _, _ => none
def aSubstr (x : AV) (lo hi : Option AV) : AU := match x with
    | .p (.str b) => match bound? lo 0, bound? hi b.length with
      | some l, some h => if 0 ≤ l ∧ l ≤ h ∧ h ≤ b.length then some (.p (.str ((b.drop l.toNat).take (h - l).toNat)), []) else none
      | _, _ => none
    | _ => none
def aSubsl (z : Nat) (x : AV) (lo hi : Option AV) : AU := match x with
    | .p (.list z' rows) => match bound? lo 0, bound? hi rows.length with
      | some l, some h => if 0 ≤ l ∧ l ≤ h ∧ h ≤ rows.length ∧ (z' = z ∨ rows.isEmpty = true) then some (.p (.list z' ((rows.drop l.toNat).take (h - l).toNat)), []) else none
      | _, _ => none
    | .r .nils => match bound? lo 0, bound? hi 0 with
      | some l, some h => if l = 0 ∧ h = 0 then some (.r .nils, []) else none
      | _, _ => none
    | .r .e0 => match bound? lo 0, bound? hi 0 with
      | some l, some h => if l = 0 ∧ h = 0 then some (.r .e0, []) else none
      | _, _ => none
    | .r (.slc k o n z') => match bound? lo 0, bound? hi n with
      | some l, some h => if 0 ≤ l ∧ l ≤ h ∧ h ≤ n ∧ z' = z then some (.r (.slc k (o + l.toNat * z) (h - l).toNat z), []) else none
      | _, _ => none
    | _ => none
def aSubarr (hp : Hp) (len z : Nat) (x : AV) (lo hi : Option AV) : AU := match x with
    | .r (.ptr k o) => match bound? lo 0, bound? hi len with
      | some l, some h => match hp.cells? k with
        | some (_, _, cs) => if 0 ≤ l ∧ l ≤ h ∧ h ≤ len ∧ o + len * z ≤ cs.length then some (.r (.slc k (o + l.toNat * z) (h - l).toNat z), []) else none
        | none => none
      | _, _ => none
    | _ => none
def aFaddr (o : Nat) (x : AV) : AU := match x with
    | .p (.pp cs o') => some (.p (.pp cs (o' + o)), [])
    | .r (.ptr k o') => some (.r (.ptr k (o' + o)), [])
    | _ => none
def aField (o n : Nat) (agg : Bool) (x : AV) : AU := match x with
    | .pa cs => (loadP n agg cs o).map (·, [])
    | .ag cs => (loadC n agg cs o).map (·, [])
    | _ => none
def aIaddr (h : Hp) (z : Nat) (x i : AV) : AU := match x, i with
    | .p (.list z' rows), .p (.int _ i) => if 0 ≤ i ∧ z' = z then match rows[i.toNat]? with
        | some row => some (.p (.pp row 0), [])
        | none => none
      else none
    | .r (.slc k o n z'), .p (.int _ i) => if 0 ≤ i ∧ i < n ∧ z' = z ∧ (h.get k).isSome = true then some (.r (.ptr k (o + i.toNat * z)), []) else none
    | _, _ => none
def aAaddr (len z : Nat) (x i : AV) : AU := match x, i with
    | .p (.pp cs o), .p (.int _ i) => if 0 ≤ i ∧ i < len then some (.p (.pp cs (o + i.toNat * z)), []) else none
    | .r (.ptr k o), .p (.int _ i) => if 0 ≤ i ∧ i < len then some (.r (.ptr k (o + i.toNat * z)), []) else none
    | _, _ => none
def aSidx (x i : AV) : AU := match x, i with
    | .p (.str b), .p (.int _ i) => if 0 ≤ i then (b[i.toNat]?).map fun c => (.p (.int .u8 c.toNat), []) else none
    | _, _ => none
def aAidx (len z : Nat) (agg : Bool) (x i : AV) : AU := match x, i with
    | .pa cs, .p (.int _ i) => if 0 ≤ i ∧ i < len then (loadP z agg cs (i.toNat * z)).map (·, []) else none
    | _, _ => none
def aLook (h : Hp) (kt : KT) (zero : AV) (ok : Bool) (m k : AV) : AU := match m, k.pval? with
    | .r (.map q), some key => match h.get q with
      | some (.map es) => if (PVal.eq? kt key key).isSome = true then match findE kt key es with
        | some (some v) => if ok then (AV.ofList [AV.ofPVal v, .p (.bool true)]).map (·, []) else some (AV.ofPVal v, [])
        | some none => if ok then (AV.ofList [zero, .p (.bool false)]).map (·, []) else some (zero, [])
        | none => none
        else none
      | _ => none
    | _, _ => none
def aMapupd (h : Hp) (kt : KT) (m k v : AV) : AU := match m, k.pval?, v.pval? with
    | .r (.map q), some key, some val => match h.get q with
      | some (.map es) => if (PVal.eq? kt key key).isSome = true then (setE kt key val es).map fun es' => (.u, [(q, some (.map es'))]) else none
      | _ => none
    | _, _, _ => none
def aExtr (x : AV) (i : Nat) : AU := match x with
    | .tup l => match l[i]? with
      | some (true, cs) => some (AV.ofCs cs, [])
      | some (false, [c]) => some (AV.ofC c, [])
      | _ => none
    | _ => none
def aLenstr (x : AV) : AU := x.str?.map fun b => (.p (.int .i64 b.length), [])
def aLensl (x : AV) : AU := match x with
    | .p (.list _ l) => some (.p (.int .i64 l.length), [])
    | .r .nils => some (.p (.int .i64 0), [])
    | .r .e0 => some (.p (.int .i64 0), [])
    | .r (.slc _ _ n _) => some (.p (.int .i64 n), [])
    | _ => none
def aLenmap (h : Hp) (x : AV) : AU := match x with
    | .p .nilm => some (.p (.int .i64 0), [])
    | .r (.map q) => match h.get q with
      | some (.map es) => some (.p (.int .i64 es.length), [])
      | _ => none
    | _ => none
def aApp (h : Hp) (fk : Nat) (t : TypeId) (z : Nat) (x y : AV) : AU :=
    match appCells h z y with
    | none => none
    | some (m, new) =>
      if m = 0 then
        match x with
        | .r .nils => some (.r .nils, [])
        | .r .e0 => some (.r .e0, [])
        | .r (.slc k o n z') => some (.r (.slc k o n z'), [])
        | .p (.list z' l) => some (.p (.list z' l), [])
        | _ => none
      else
        match x with
        | .r .nils => if m ≤ maxLen then some (.r (.slc fk 0 m z), [(fk, some (.cells ⟨false, t⟩ 0 new))]) else none
        | .r .e0 => if m ≤ maxLen then some (.r (.slc fk 0 m z), [(fk, some (.cells ⟨false, t⟩ 0 new))]) else none
        | .r (.slc k o n z') =>
          match h.cells? k with
          | some (mk, f, cs) =>
            if mk.ty = t ∧ o = 0 ∧ z' = z ∧ n * z ≤ cs.length ∧ f ≤ n * z ∧ n + m ≤ maxLen then
              some (.r (.slc fk 0 (n + m) z), [(k, none), (fk, some (.cells mk f (cs.take (n * z) ++ new)))])
            else none
          | none => none
        | _ => none
def aMx (x : AV) (l : List AV) : AU := match x with
    | .p (.int k n) => (foldMx n l k).map fun m => (.p (.int k m), [])
    | _ => none
def aMn (x : AV) (l : List AV) : AU := match x with
    | .p (.int k n) => (foldMn n l k).map fun m => (.p (.int k m), [])
    | _ => none
def aSdata (h : Hp) (x : AV) : AU := match x with
    | .r .nils => some (.p .nilp, [])
    | .r (.slc k o n z) => if n ≠ 0 ∧ (h.get k).isSome = true then some (.r (.ptr k o), []) else none
    | _ => none
def aUstr (h : Hp) (t : TypeId) (x n : AV) : AU := match x, n with
    | .p .nilp, .p (.int .i64 n) => if n = 0 then some (.p (.str []), []) else none
    | .r (.ptr k o), .p (.int .i64 n) => if 0 < n ∧ n ≤ maxLen then
        match h.cells? k with
        | some (m, f, cs) => if o = 0 ∧ n.toNat ≤ cs.length ∧ m = ⟨false, t⟩ then (rowBytes (cs.take n.toNat)).map fun b => (.p (.str b), [(k, some (.cells m (max f n.toNat) cs))]) else none
        | none => none
      else none
    | _, _ => none

section
variable (F : Fns) (rec : Rec) (s : St) (fk : Nat)
@[simp] theorem op_mov (x : Opd) : opStep F rec s fk (.mov x) = some (s.ev x, []) := rfl
@[simp] theorem op_pick (c a b : Opd) : opStep F rec s fk (.pick c a b) = aPick (s.ev c) (s.ev a) (s.ev b) := rfl
@[simp] theorem op_alloc (t : TypeId) (z : List C) : opStep F rec s fk (.alloc t z) = some (.r (.ptr fk 0), [(fk, some (.cells ⟨false, t⟩ 0 z))]) := rfl
@[simp] theorem op_box (t : TypeId) (x : Opd) : opStep F rec s fk (.box t x) = aBox fk t (s.ev x) := rfl
@[simp] theorem op_build (z : List C) (ps : List (Nat × Nat × Opd)) : opStep F rec s fk (.build z ps) = aBuild z (ps.map fun x => (x.1, x.2.1, s.ev x.2.2)) := rfl
@[simp] theorem op_bsl (t : TypeId) (z : Nat) (cs : List C) (len : Nat) (ps : List (Nat × Nat × Opd)) : opStep F rec s fk (.bsl t z cs len ps) = aBsl fk t z cs len (ps.map fun x => (x.1, x.2.1, s.ev x.2.2)) := rfl
@[simp] theorem op_load (n : Nat) (g : Bool) (x : Opd) : opStep F rec s fk (.load n g x) = aLoad s.hp n g (s.ev x) := rfl
@[simp] theorem op_store (n : Nat) (x v : Opd) : opStep F rec s fk (.store n x v) = aStore s.hp n (s.ev x) (s.ev v) := rfl
@[simp] theorem op_nilchk (x : Opd) : opStep F rec s fk (.nilchk x) = aNilchk (s.ev x) := rfl
@[simp] theorem op_bin (o : BinOp) (x y : Opd) : opStep F rec s fk (.bin o x y) = aBin o (s.ev x) (s.ev y) := rfl
@[simp] theorem op_eqv (c : Cls) (g : Bool) (x y : Opd) : opStep F rec s fk (.eqv c g x y) = aEqv s.hp c g (s.ev x) (s.ev y) := rfl
@[simp] theorem op_eqa (c : List Kd) (g : Bool) (x y : Opd) : opStep F rec s fk (.eqa c g x y) = aEqa c g (s.ev x) (s.ev y) := rfl
@[simp] theorem op_un (o : UnOp) (x : Opd) : opStep F rec s fk (.un o x) = aUn o (s.ev x) := rfl
@[simp] theorem op_conv (k : IntKind) (x : Opd) : opStep F rec s fk (.conv k x) = aConv k (s.ev x) := rfl
@[simp] theorem op_b2s (x : Opd) : opStep F rec s fk (.b2s x) = aB2s s.hp (s.ev x) := rfl
@[simp] theorem op_s2b (t : TypeId) (x : Opd) : opStep F rec s fk (.s2b t x) = aS2b fk t (s.ev x) := rfl
@[simp] theorem op_same (x : Opd) : opStep F rec s fk (.same x) = aSame (s.ev x) := rfl
@[simp] theorem op_uptr (t n : Nat) (x : Opd) : opStep F rec s fk (.uptr t n x) = aUptr s.hp t n (s.ev x) := rfl
@[simp] theorem op_clo (f : FuncId) (l : List Opd) : opStep F rec s fk (.clo f l) = (mapO (fun x => match x with | AV.r (.ptr k o) => some (k, o) | _ => none) (l.map s.ev)).map fun l => (.r (.clo f l), []) := by
  show (mapO _ l).map _ = _
  congr 1
  induction l with
  | nil => rfl
  | cons x l ih => simp only [mapO, List.map_cons, ih]; rfl
@[simp] theorem op_mkmap : opStep F rec s fk .mkmap = some (.r (.map fk), [(fk, some (.map []))]) := rfl
@[simp] theorem op_mksl (t : TypeId) (z : Nat) (zero : List C) (x y : Opd) : opStep F rec s fk (.mksl t z zero x y) = aMksl fk t z zero (s.ev x) (s.ev y) := rfl
@[simp] theorem op_substr (x : Opd) (lo hi : Option Opd) : opStep F rec s fk (.substr x lo hi) = aSubstr (s.ev x) (lo.map s.ev) (hi.map s.ev) := rfl
@[simp] theorem op_subsl (z : Nat) (x : Opd) (lo hi : Option Opd) : opStep F rec s fk (.subsl z x lo hi) = aSubsl z (s.ev x) (lo.map s.ev) (hi.map s.ev) := rfl
@[simp] theorem op_subarr (n z : Nat) (x : Opd) (lo hi : Option Opd) : opStep F rec s fk (.subarr n z x lo hi) = aSubarr s.hp n z (s.ev x) (lo.map s.ev) (hi.map s.ev) := rfl
@[simp] theorem op_faddr (o : Nat) (x : Opd) : opStep F rec s fk (.faddr o x) = aFaddr o (s.ev x) := rfl
@[simp] theorem op_field (o n : Nat) (g : Bool) (x : Opd) : opStep F rec s fk (.field o n g x) = aField o n g (s.ev x) := rfl
@[simp] theorem op_iaddr (z : Nat) (x y : Opd) : opStep F rec s fk (.iaddr z x y) = aIaddr s.hp z (s.ev x) (s.ev y) := rfl
@[simp] theorem op_aaddr (n z : Nat) (x y : Opd) : opStep F rec s fk (.aaddr n z x y) = aAaddr n z (s.ev x) (s.ev y) := rfl
@[simp] theorem op_sidx (x y : Opd) : opStep F rec s fk (.sidx x y) = aSidx (s.ev x) (s.ev y) := rfl
@[simp] theorem op_aidx (n z : Nat) (g : Bool) (x y : Opd) : opStep F rec s fk (.aidx n z g x y) = aAidx n z g (s.ev x) (s.ev y) := rfl
@[simp] theorem op_look (kt : KT) (z : AV) (ok : Bool) (x y : Opd) : opStep F rec s fk (.look kt z ok x y) = aLook s.hp kt z ok (s.ev x) (s.ev y) := rfl
@[simp] theorem op_mapupd (kt : KT) (x y z : Opd) : opStep F rec s fk (.mapupd kt x y z) = aMapupd s.hp kt (s.ev x) (s.ev y) (s.ev z) := rfl
@[simp] theorem op_extr (x : Opd) (i : Nat) : opStep F rec s fk (.extr x i) = aExtr (s.ev x) i := rfl
@[simp] theorem op_lenstr (x : Opd) : opStep F rec s fk (.lenstr x) = aLenstr (s.ev x) := rfl
@[simp] theorem op_lensl (x : Opd) : opStep F rec s fk (.lensl x) = aLensl (s.ev x) := rfl
@[simp] theorem op_lenmap (x : Opd) : opStep F rec s fk (.lenmap x) = aLenmap s.hp (s.ev x) := rfl
@[simp] theorem op_lenarr (n : Nat) : opStep F rec s fk (.lenarr n) = some (.p (.int .i64 n), []) := rfl
@[simp] theorem op_app (t : TypeId) (z : Nat) (x y : Opd) : opStep F rec s fk (.app t z x y) = aApp s.hp fk t z (s.ev x) (s.ev y) := rfl
@[simp] theorem op_mx (x : Opd) (l : List Opd) : opStep F rec s fk (.mx x l) = aMx (s.ev x) (l.map s.ev) := rfl
@[simp] theorem op_mn (x : Opd) (l : List Opd) : opStep F rec s fk (.mn x l) = aMn (s.ev x) (l.map s.ev) := rfl
@[simp] theorem op_sdata (x : Opd) : opStep F rec s fk (.sdata x) = aSdata s.hp (s.ev x) := rfl
@[simp] theorem op_ustr (t : TypeId) (x n : Opd) : opStep F rec s fk (.ustr t x n) = aUstr s.hp t (s.ev x) (s.ev n) := rfl
@[simp] theorem op_ext (e : Ext) (l : List Opd) : opStep F rec s fk (.ext e l) = match e, l.map s.ev with
    | .idxByteStr, [.p (.str b), .p (.int .u8 c)] => some (.p (.int .i64 (idxByte (UInt8.ofNat c.toNat) b 0)), [])
    | .same, [x] => match x with
      | .p .nilp => some (.p .nilp, [])
      | .r (.ptr k o) => some (.r (.ptr k o), [])
      | _ => none
    | _, _ => none := rfl
@[simp] theorem op_call (f : FuncId) (l : List Opd) : opStep F rec s fk (.call f l) = doCall F rec s fk f (l.map s.ev) := rfl
def aCallv (F : Fns) (rec : Rec) (s : St) (fk : Nat) (x : AV) (l : List AV) : AU := match x with
  | .r (.clo f caps) => doCall F rec s fk f (l ++ caps.map fun (k, o) => .r (.ptr k o))
  | .p (.fn f) => doCall F rec s fk f l
  | _ => none
@[simp] theorem op_callv (x : Opd) (l : List Opd) : opStep F rec s fk (.callv x l) = aCallv F rec s fk (s.ev x) (l.map s.ev) := rfl
@[simp] theorem aCallv_clo (f : FuncId) (caps : List (Nat × Nat)) (l : List AV) : aCallv F rec s fk (.r (.clo f caps)) l = doCall F rec s fk f (l ++ caps.map fun x => .r (.ptr x.1 x.2)) := rfl
@[simp] theorem aCallv_fn (f : FuncId) (l : List AV) : aCallv F rec s fk (.p (.fn f)) l = doCall F rec s fk f l := rfl
end

/-! Each form. -/
theorem int_beq (x y : Int) : (x == y) = decide (x = y) := by by_cases h : x = y <;> simp [h]
section
variable (h : Hp) (fk : Nat) (k : IntKind) (a b : Int) (x y : List UInt8)
@[simp] theorem aPick_b (t : Bool) (a b : AV) : aPick (.p (.bool t)) a b = some (if t then a else b, []) := rfl
@[simp] theorem aBox_p (t : TypeId) (v : PV) : aBox fk t (.p v) = some (.r (.ptr fk 0), [(fk, some (.cells ⟨false, t⟩ 0 [.p v]))]) := rfl
@[simp] theorem aBox_pa (t : TypeId) (l : List PV) : aBox fk t (.pa l) = some (.r (.ptr fk 0), [(fk, some (.cells ⟨false, t⟩ 0 (l.map C.p)))]) := rfl
@[simp] theorem aBox_r (t : TypeId) (c : C) : aBox fk t (.r c) = some (.r (.ptr fk 0), [(fk, some (.cells ⟨false, t⟩ 0 [c]))]) := rfl
@[simp] theorem aBox_ag (t : TypeId) (l : List C) : aBox fk t (.ag l) = some (.r (.ptr fk 0), [(fk, some (.cells ⟨false, t⟩ 0 l))]) := rfl
@[simp] theorem cells_p (v : PV) : (AV.p v).cells = some [.p v] := rfl
@[simp] theorem cells_pa (l : List PV) : (AV.pa l).cells = some (l.map C.p) := rfl
@[simp] theorem cells_r (c : C) : (AV.r c).cells = some [c] := rfl
@[simp] theorem cells_ag (l : List C) : (AV.ag l).cells = some l := rfl
@[simp] theorem fill_nil (z : List C) : fillParts z [] = some z := rfl
@[simp] theorem fill_cons (z : List C) (o n : Nat) (v : AV) (ps : List (Nat × Nat × AV)) : fillParts z ((o, n, v) :: ps) = bnd v.cells fun vs => if vs.length = n ∧ o + n ≤ z.length then fillParts (putCells z o vs) ps else none := by
  rw [fillParts]; cases v.cells <;> rfl
@[simp] theorem aBuild_eq (z : List C) (ps : List (Nat × Nat × AV)) : aBuild z ps = bnd (fillParts z ps) fun cs => some (AV.ofCs cs, []) := by
  unfold aBuild; cases fillParts z ps <;> rfl
@[simp] theorem aBsl_eq (t : TypeId) (z : Nat) (cs : List C) (len : Nat) (ps : List (Nat × Nat × AV)) : aBsl fk t z cs len ps = bnd (fillParts cs ps) fun cs => some (.r (.slc fk 0 len z), [(fk, some (.cells ⟨false, t⟩ 0 cs))]) := by
  unfold aBsl; cases fillParts cs ps <;> rfl
@[simp] theorem put_nil' (cs : List C) (o : Nat) : putCells cs o [] = cs := rfl
@[simp] theorem put_cons' (cs : List C) (o : Nat) (v : C) (l : List C) : putCells cs o (v :: l) = putCells (cs.set o v) (o + 1) l := rfl
@[simp] theorem aLoad_pp (n : Nat) (g : Bool) (l : List PV) (o : Nat) : aLoad h n g (.p (.pp l o)) = bnd (loadP n g l o) fun v => some (v, []) := by
  show (loadP n g l o).map _ = _; cases loadP n g l o <;> rfl
@[simp] theorem aLoad_ptr (n : Nat) (g : Bool) (q o : Nat) : aLoad h n g (.r (.ptr q o)) = bnd (h.cells? q) fun x => bnd (loadC n g x.2.2 o) fun v => some (v, []) := by
  simp only [aLoad]; cases h.cells? q with
  | none => rfl
  | some x => obtain ⟨_, _, cs⟩ := x; simp only [bnd_some]; cases loadC n g cs o <;> rfl
@[simp] theorem aStore_ptr (n q o : Nat) (v : AV) : aStore h n (.r (.ptr q o)) v = bnd v.cells fun vs => bnd (h.cells? q) fun x => if vs.length = n ∧ o + n ≤ x.2.2.length ∧ x.2.1 ≤ o then some (.u, [(q, some (.cells x.1 x.2.1 (putCells x.2.2 o vs)))]) else none := by
  simp only [aStore]; cases v.cells with
  | none => rfl
  | some vs => cases hh : h.cells? q <;> simp [hh]
@[simp] theorem aNilchk_pp (l : List PV) (o : Nat) : aNilchk (.p (.pp l o)) = some (.p (.pp l o), []) := rfl
@[simp] theorem aNilchk_ptr (q o : Nat) : aNilchk (.r (.ptr q o)) = some (.r (.ptr q o), []) := rfl
theorem aBin_i (o : BinOp) (ho : o ≠ .shl) (ho' : o ≠ .shr) : aBin o (.p (.int k a)) (.p (.int k b)) = bnd (binInt o k a b) fun v => some (.p v, []) := by
  cases o <;> first | exact absurd rfl ho | exact absurd rfl ho' | (simp only [aBin, binAV, if_true]; cases binInt _ k a b <;> rfl)
@[simp] theorem aBin_add : aBin .add (.p (.int k a)) (.p (.int k b)) = some (.p (.int k (k.wrap (a + b))), []) := aBin_i k a b _ (by simp) (by simp)
@[simp] theorem aBin_sub : aBin .sub (.p (.int k a)) (.p (.int k b)) = some (.p (.int k (k.wrap (a - b))), []) := aBin_i k a b _ (by simp) (by simp)
@[simp] theorem aBin_mul : aBin .mul (.p (.int k a)) (.p (.int k b)) = some (.p (.int k (k.wrap (a * b))), []) := aBin_i k a b _ (by simp) (by simp)
theorem aBin_quo : aBin .quo (.p (.int k a)) (.p (.int k b)) = if b = 0 then none else some (.p (.int k (k.wrap (a.tdiv b))), []) := by
  rw [aBin_i k a b _ (by simp) (by simp)]; simp only [binInt]; split <;> rfl
theorem aBin_rem : aBin .rem (.p (.int k a)) (.p (.int k b)) = if b = 0 then none else some (.p (.int k (a.tmod b)), []) := by
  rw [aBin_i k a b _ (by simp) (by simp)]; simp only [binInt]; split <;> rfl
theorem aBin_and : aBin .and (.p (.int k a)) (.p (.int k b)) = some (.p (.int k (k.wrap (BitVec.ofInt k.bits a &&& BitVec.ofInt k.bits b).toNat)), []) := aBin_i k a b _ (by simp) (by simp)
theorem aBin_or : aBin .or (.p (.int k a)) (.p (.int k b)) = some (.p (.int k (k.wrap (BitVec.ofInt k.bits a ||| BitVec.ofInt k.bits b).toNat)), []) := aBin_i k a b _ (by simp) (by simp)
theorem aBin_xor : aBin .xor (.p (.int k a)) (.p (.int k b)) = some (.p (.int k (k.wrap (BitVec.ofInt k.bits a ^^^ BitVec.ofInt k.bits b).toNat)), []) := aBin_i k a b _ (by simp) (by simp)
@[simp] theorem aBin_eql : aBin .eql (.p (.int k a)) (.p (.int k b)) = some (.p (.bool (decide (a = b))), []) := by
  rw [aBin_i k a b _ (by simp) (by simp)]; simp only [binInt, int_beq]; rfl
@[simp] theorem aBin_neq : aBin .neq (.p (.int k a)) (.p (.int k b)) = some (.p (.bool (!decide (a = b))), []) := by
  rw [aBin_i k a b _ (by simp) (by simp)]; simp only [binInt, bne, int_beq]; rfl
@[simp] theorem aBin_lss : aBin .lss (.p (.int k a)) (.p (.int k b)) = some (.p (.bool (decide (a < b))), []) := aBin_i k a b _ (by simp) (by simp)
@[simp] theorem aBin_leq : aBin .leq (.p (.int k a)) (.p (.int k b)) = some (.p (.bool (decide (a ≤ b))), []) := aBin_i k a b _ (by simp) (by simp)
@[simp] theorem aBin_gtr : aBin .gtr (.p (.int k a)) (.p (.int k b)) = some (.p (.bool (decide (a > b))), []) := aBin_i k a b _ (by simp) (by simp)
@[simp] theorem aBin_geq : aBin .geq (.p (.int k a)) (.p (.int k b)) = some (.p (.bool (decide (a ≥ b))), []) := aBin_i k a b _ (by simp) (by simp)
theorem aBin_shl (k' : IntKind) : aBin .shl (.p (.int k a)) (.p (.int k' b)) = if b < 0 then none else some (.p (.int k (k.wrap (a * 2 ^ (min b.toNat k.bits)))), []) := by
  simp only [aBin, binAV, shiftInt]; split <;> rfl
theorem aBin_shr (k' : IntKind) : aBin .shr (.p (.int k a)) (.p (.int k' b)) = if b < 0 then none else some (.p (.int k (a.fdiv (2 ^ (min b.toNat k.bits)))), []) := by
  simp only [aBin, binAV, shiftInt]; split <;> rfl
theorem aBin_cat0 : aBin .add (.p (.str x)) (.p (.str y)) = if x.length + y.length ≤ maxStr then some (.p (.str (x ++ y)), []) else none := by
  simp only [aBin, binAV, binStr]; split <;> rfl
theorem aBin_cat (h : x.length + y.length < 1000000) : aBin .add (.p (.str x)) (.p (.str y)) = some (.p (.str (x ++ y)), []) := by
  rw [aBin_cat0, if_pos (by simp only [maxStr]; omega)]
theorem list_beq (x y : List UInt8) : (x == y) = decide (x = y) := by by_cases h : x = y <;> simp [h]
@[simp] theorem aBin_seql : aBin .eql (.p (.str x)) (.p (.str y)) = some (.p (.bool (decide (x = y))), []) := by rw [← list_beq]; rfl
@[simp] theorem aBin_sneq : aBin .neq (.p (.str x)) (.p (.str y)) = some (.p (.bool (!decide (x = y))), []) := by rw [← list_beq]; rfl
@[simp] theorem aEqv_b (g p q : Bool) : aEqv h .bool g (.p (.bool p)) (.p (.bool q)) = some (.p (.bool (if g then !(p == q) else p == q)), []) := rfl
@[simp] theorem aEqv_eq (c : Cls) (g : Bool) (x y : AV) : aEqv h c g x y = bnd (eqAV h c x y) fun b => some (.p (.bool (if g then !b else b)), []) := by
  unfold aEqv; cases eqAV h c x y <;> rfl
@[simp] theorem aEqa_pa (ks : List Kd) (g : Bool) (l m : List PV) : aEqa ks g (.pa l) (.pa m) = bnd (eqK? ks l m) fun r => some (.p (.bool (if g then !r else r)), []) := by
  simp only [aEqa]; cases eqK? ks l m <;> rfl
@[simp] theorem eqK_nil : eqK? [] [] [] = some true := rfl
@[simp] theorem eqK_int (ks : List Kd) (l m : List PV) : eqK? (.int :: ks) (.int k a :: l) (.int k b :: m) = bnd (eqK? ks l m) fun r => some (decide (a = b) && r) := by
  rw [← int_beq]; simp only [eqK?, PV.eqk?, if_true]; cases eqK? ks l m <;> rfl
@[simp] theorem eqK_str (ks : List Kd) (l m : List PV) : eqK? (.str :: ks) (.str x :: l) (.str y :: m) = bnd (eqK? ks l m) fun r => some (decide (x = y) && r) := by
  rw [← list_beq]; simp only [eqK?, PV.eqk?]; cases eqK? ks l m <;> rfl
@[simp] theorem eqK_bool (ks : List Kd) (p q : Bool) (l m : List PV) : eqK? (.bool :: ks) (.bool p :: l) (.bool q :: m) = bnd (eqK? ks l m) fun r => some (p == q && r) := by
  simp only [eqK?, PV.eqk?]; cases eqK? ks l m <;> rfl
@[simp] theorem aUn_not (p : Bool) : aUn .not (.p (.bool p)) = some (.p (.bool (!p)), []) := rfl
@[simp] theorem aUn_neg : aUn .neg (.p (.int k a)) = some (.p (.int k (k.wrap (0 - a))), []) := rfl
theorem aUn_xor : aUn .xor (.p (.int k a)) = some (.p (.int k (k.wrap (BitVec.ofInt k.bits a ^^^ BitVec.ofInt k.bits (if k.signed then -1 else k.max)).toNat)), []) := by
  simp only [aUn, unAV, binInt]; rw [BitVec.xor_comm]; rfl
@[simp] theorem aConv_int (k' : IntKind) : aConv k' (.p (.int k a)) = some (.p (.int k' (k'.wrap a)), []) := rfl
@[simp] theorem aSame_s : aSame (.p (.str x)) = some (.p (.str x), []) := rfl
@[simp] theorem aS2b_s (t : TypeId) : aS2b fk t (.p (.str x)) = some (.r (.slc fk 0 x.length 1), [(fk, some (.cells ⟨true, t⟩ 0 (strCells x)))]) := rfl
@[simp] theorem aB2s_list (z : Nat) (l : List (List PV)) : aB2s h (.p (.list z l)) = if l.isEmpty then some (.p (.str []), []) else if z = 1 then bnd (pvBytes l) fun b => some (.p (.str b), []) else none := by
  simp only [aB2s]; split <;> try rfl
  split <;> try rfl
  cases pvBytes l <;> rfl
@[simp] theorem aB2s_nils : aB2s h (.r .nils) = some (.p (.str []), []) := rfl
@[simp] theorem aB2s_e0 : aB2s h (.r .e0) = some (.p (.str []), []) := rfl
@[simp] theorem aB2s_slc (q o n z : Nat) : aB2s h (.r (.slc q o n z)) = if n = 0 then some (.p (.str []), []) else if z = 1 then bnd (h.cells? q) fun c => if o + n ≤ c.2.2.length then bnd (rowBytes ((c.2.2.drop o).take n)) fun b => some (.p (.str b), []) else none else none := by
  simp only [aB2s]
  cases h.cells? q with
  | none => rfl
  | some c => obtain ⟨_, _, cs⟩ := c; simp only [bnd_some]; cases rowBytes ((cs.drop o).take n) <;> rfl
@[simp] theorem rowBytes_nil : rowBytes [] = some [] := rfl
@[simp] theorem rowBytes_cons (l : List C) : rowBytes (.p (.int .u8 a) :: l) = bnd (rowBytes l) fun b => some (UInt8.ofNat a.toNat :: b) := by
  simp only [rowBytes]; cases rowBytes l <;> rfl
@[simp] theorem aMksl_i (t : TypeId) (z : Nat) (zero : List C) (k' : IntKind) : aMksl fk t z zero (.p (.int k a)) (.p (.int k' b)) = if 0 ≤ a ∧ a ≤ b ∧ b ≤ maxLen ∧ a = b then some (.r (.slc fk 0 a.toNat z), [(fk, some (.cells ⟨false, t⟩ 0 (repl a.toNat zero)))]) else none := rfl
@[simp] theorem bound_none (d : Nat) : bound? none d = some (d : Int) := rfl
@[simp] theorem bound_some (d : Nat) : bound? (some (.p (.int k a))) d = some a := rfl
@[simp] theorem aSubstr_s (lo hi : Option AV) : aSubstr (.p (.str x)) lo hi = bnd (bound? lo 0) fun l => bnd (bound? hi x.length) fun m => if 0 ≤ l ∧ l ≤ m ∧ m ≤ x.length then some (.p (.str ((x.drop l.toNat).take (m - l).toNat)), []) else none := by
  simp only [aSubstr]; cases bound? lo 0 <;> cases bound? hi x.length <;> rfl
@[simp] theorem aSubsl_list (z z' : Nat) (rows : List (List PV)) (lo hi : Option AV) : aSubsl z (.p (.list z' rows)) lo hi = bnd (bound? lo 0) fun l => bnd (bound? hi rows.length) fun m => if 0 ≤ l ∧ l ≤ m ∧ m ≤ rows.length ∧ (z' = z ∨ rows.isEmpty = true) then some (.p (.list z' ((rows.drop l.toNat).take (m - l).toNat)), []) else none := by
  simp only [aSubsl]; cases bound? lo 0 <;> cases bound? hi rows.length <;> rfl
@[simp] theorem aSubsl_nils (z : Nat) (lo hi : Option AV) : aSubsl z (.r .nils) lo hi = bnd (bound? lo 0) fun l => bnd (bound? hi 0) fun m => if l = 0 ∧ m = 0 then some (.r .nils, []) else none := by
  simp only [aSubsl]; cases bound? lo 0 <;> cases bound? hi 0 <;> rfl
@[simp] theorem aSubsl_e0 (z : Nat) (lo hi : Option AV) : aSubsl z (.r .e0) lo hi = bnd (bound? lo 0) fun l => bnd (bound? hi 0) fun m => if l = 0 ∧ m = 0 then some (.r .e0, []) else none := by
  simp only [aSubsl]; cases bound? lo 0 <;> cases bound? hi 0 <;> rfl
@[simp] theorem aSubsl_slc (z q o n z' : Nat) (lo hi : Option AV) : aSubsl z (.r (.slc q o n z')) lo hi = bnd (bound? lo 0) fun l => bnd (bound? hi n) fun m => if 0 ≤ l ∧ l ≤ m ∧ m ≤ n ∧ z' = z then some (.r (.slc q (o + l.toNat * z) (m - l).toNat z), []) else none := by
  simp only [aSubsl]; cases bound? lo 0 <;> cases bound? hi n <;> rfl
@[simp] theorem aSubarr_ptr (len z q o : Nat) (lo hi : Option AV) : aSubarr h len z (.r (.ptr q o)) lo hi = bnd (bound? lo 0) fun l => bnd (bound? hi len) fun m => bnd (h.cells? q) fun c => if 0 ≤ l ∧ l ≤ m ∧ m ≤ len ∧ o + len * z ≤ c.2.2.length then some (.r (.slc q (o + l.toNat * z) (m - l).toNat z), []) else none := by
  simp only [aSubarr]; cases bound? lo 0 <;> cases bound? hi len <;> cases h.cells? q <;> rfl
@[simp] theorem aFaddr_pp (o : Nat) (l : List PV) (o' : Nat) : aFaddr o (.p (.pp l o')) = some (.p (.pp l (o' + o)), []) := rfl
@[simp] theorem aFaddr_ptr (o q o' : Nat) : aFaddr o (.r (.ptr q o')) = some (.r (.ptr q (o' + o)), []) := rfl
@[simp] theorem aField_pa (o n : Nat) (g : Bool) (l : List PV) : aField o n g (.pa l) = bnd (loadP n g l o) fun v => some (v, []) := by
  show (loadP n g l o).map _ = _; cases loadP n g l o <;> rfl
@[simp] theorem aField_ag (o n : Nat) (g : Bool) (l : List C) : aField o n g (.ag l) = bnd (loadC n g l o) fun v => some (v, []) := by
  show (loadC n g l o).map _ = _; cases loadC n g l o <;> rfl
@[simp] theorem aIaddr_list (z z' : Nat) (rows : List (List PV)) : aIaddr h z (.p (.list z' rows)) (.p (.int k a)) = if 0 ≤ a ∧ z' = z then bnd (rows[a.toNat]?) fun row => some (.p (.pp row 0), []) else none := by
  simp only [aIaddr]; split <;> try rfl
  cases rows[a.toNat]? <;> rfl
@[simp] theorem aIaddr_slc (z q o n z' : Nat) : aIaddr h z (.r (.slc q o n z')) (.p (.int k a)) = if 0 ≤ a ∧ a < n ∧ z' = z ∧ (h.get q).isSome = true then some (.r (.ptr q (o + a.toNat * z)), []) else none := rfl
@[simp] theorem aAaddr_pp (len z o : Nat) (l : List PV) : aAaddr len z (.p (.pp l o)) (.p (.int k a)) = if 0 ≤ a ∧ a < len then some (.p (.pp l (o + a.toNat * z)), []) else none := rfl
@[simp] theorem aAaddr_ptr (len z q o : Nat) : aAaddr len z (.r (.ptr q o)) (.p (.int k a)) = if 0 ≤ a ∧ a < len then some (.r (.ptr q (o + a.toNat * z)), []) else none := rfl
@[simp] theorem aSidx_s : aSidx (.p (.str x)) (.p (.int k a)) = if 0 ≤ a then bnd (x[a.toNat]?) fun c => some (.p (.int .u8 c.toNat), []) else none := by
  simp only [aSidx]; split <;> try rfl
  cases x[a.toNat]? <;> rfl
@[simp] theorem aAidx_pa (len z : Nat) (g : Bool) (l : List PV) : aAidx len z g (.pa l) (.p (.int k a)) = if 0 ≤ a ∧ a < len then bnd (loadP z g l (a.toNat * z)) fun v => some (v, []) else none := by
  simp only [aAidx]; split <;> try rfl
  cases loadP z g l (a.toNat * z) <;> rfl
@[simp] theorem pval_p (v : PV) : (AV.p v).pval? = some (.one v) := rfl
@[simp] theorem pval_pa (l : List PV) : (AV.pa l).pval? = some (.agg l) := rfl
@[simp] theorem aLook_m (kt : KT) (z : AV) (ok : Bool) (q : Nat) (key : AV) : aLook h kt z ok (.r (.map q)) key = bnd key.pval? fun key => match h.get q with
      | some (.map es) => if (PVal.eq? kt key key).isSome = true then bnd (findE kt key es) fun r => match r with
        | some v => if ok then bnd (AV.ofList [AV.ofPVal v, .p (.bool true)]) fun x => some (x, []) else some (AV.ofPVal v, [])
        | none => if ok then bnd (AV.ofList [z, .p (.bool false)]) fun x => some (x, []) else some (z, [])
        else none
      | _ => none := by
  simp only [aLook]
  cases key.pval? with
  | none => rfl
  | some key =>
    simp only [bnd_some]
    cases h.get q with
    | none => rfl
    | some b =>
      cases b with
      | cells _ _ _ => rfl
      | map es =>
        simp only
        split <;> try rfl
        cases findE kt key es with
        | none => rfl
        | some r => cases r with
          | none => simp only [bnd_some]; split <;> try rfl
                    cases AV.ofList [z, AV.p (PV.bool false)] <;> rfl
          | some v => simp only [bnd_some]; split <;> try rfl
                      cases AV.ofList [AV.ofPVal v, AV.p (PV.bool true)] <;> rfl
@[simp] theorem aMapupd_m (kt : KT) (q : Nat) (key v : AV) : aMapupd h kt (.r (.map q)) key v = bnd key.pval? fun key => bnd v.pval? fun v => match h.get q with
      | some (.map es) => if (PVal.eq? kt key key).isSome = true then bnd (setE kt key v es) fun es' => some (.u, [(q, some (.map es'))]) else none
      | _ => none := by
  simp only [aMapupd]
  cases key.pval? with
  | none => rfl
  | some key =>
    cases v.pval? with
    | none => rfl
    | some v =>
      simp only [bnd_some]
      cases h.get q with
      | none => rfl
      | some b =>
        cases b with
        | cells _ _ _ => rfl
        | map es => simp only; split <;> try rfl
                    cases setE kt key v es <;> rfl
@[simp] theorem aExtr_0 (g : Bool × List C) (l : List (Bool × List C)) : aExtr (.tup (g :: l)) 0 = aExtr (.tup [g]) 0 := rfl
@[simp] theorem aExtr_s (g : Bool × List C) (l : List (Bool × List C)) (i : Nat) : aExtr (.tup (g :: l)) (i + 1) = aExtr (.tup l) i := by
  simp [aExtr]
@[simp] theorem aExtr_t (cs : List C) : aExtr (.tup [(true, cs)]) 0 = some (AV.ofCs cs, []) := rfl
@[simp] theorem aExtr_f (c : C) : aExtr (.tup [(false, [c])]) 0 = some (AV.ofC c, []) := rfl
@[simp] theorem aLenstr_s : aLenstr (.p (.str x)) = some (.p (.int .i64 x.length), []) := rfl
@[simp] theorem aLensl_list (z : Nat) (l : List (List PV)) : aLensl (.p (.list z l)) = some (.p (.int .i64 l.length), []) := rfl
@[simp] theorem aLensl_nils : aLensl (.r .nils) = some (.p (.int .i64 0), []) := rfl
@[simp] theorem aLensl_e0 : aLensl (.r .e0) = some (.p (.int .i64 0), []) := rfl
@[simp] theorem aLensl_slc (q o n z : Nat) : aLensl (.r (.slc q o n z)) = some (.p (.int .i64 n), []) := rfl
@[simp] theorem appCells_str : appCells h 1 (.p (.str x)) = some (x.length, strCells x) := rfl
theorem appCells_list (z z' : Nat) (l : List (List PV)) : appCells h z (.p (.list z' l)) = if l.isEmpty then some (0, []) else if z' = z then some (l.length, l.flatten.map .p) else none := rfl
@[simp] theorem appCells_nils (z : Nat) : appCells h z (.r .nils) = some (0, []) := rfl
@[simp] theorem appCells_e0 (z : Nat) : appCells h z (.r .e0) = some (0, []) := rfl
@[simp] theorem appCells_slc (z q o n z' : Nat) : appCells h z (.r (.slc q o n z')) = if n = 0 then some (0, []) else if z' = z then bnd (h.cells? q) fun c => if o + n * z ≤ c.2.2.length then some (n, (c.2.2.drop o).take (n * z)) else none else none := by
  simp only [appCells]; cases h.cells? q <;> rfl
@[simp] theorem aApp_nils (t : TypeId) (z : Nat) (y : AV) : aApp h fk t z (.r .nils) y = bnd (appCells h z y) fun w => if w.1 = 0 then some (.r .nils, []) else if w.1 ≤ maxLen then some (.r (.slc fk 0 w.1 z), [(fk, some (.cells ⟨false, t⟩ 0 w.2))]) else none := by
  simp only [aApp]; cases appCells h z y <;> rfl
@[simp] theorem aApp_e0 (t : TypeId) (z : Nat) (y : AV) : aApp h fk t z (.r .e0) y = bnd (appCells h z y) fun w => if w.1 = 0 then some (.r .e0, []) else if w.1 ≤ maxLen then some (.r (.slc fk 0 w.1 z), [(fk, some (.cells ⟨false, t⟩ 0 w.2))]) else none := by
  simp only [aApp]; cases appCells h z y <;> rfl
@[simp] theorem aApp_slc (t : TypeId) (z q o n z' : Nat) (y : AV) : aApp h fk t z (.r (.slc q o n z')) y = bnd (appCells h z y) fun w => if w.1 = 0 then some (.r (.slc q o n z'), []) else bnd (h.cells? q) fun c => if c.1.ty = t ∧ o = 0 ∧ z' = z ∧ n * z ≤ c.2.2.length ∧ c.2.1 ≤ n * z ∧ n + w.1 ≤ maxLen then some (.r (.slc fk 0 (n + w.1) z), [(q, none), (fk, some (.cells c.1 c.2.1 (c.2.2.take (n * z) ++ w.2)))]) else none := by
  simp only [aApp]; cases appCells h z y with
  | none => rfl
  | some w => simp only [bnd_some]; split <;> try rfl
              cases h.cells? q <;> rfl
@[simp] theorem foldMx_nil : foldMx a [] k = some a := rfl
@[simp] theorem foldMx_cons (l : List AV) : foldMx a (.p (.int k b) :: l) k = foldMx (if b > a then b else a) l k := by simp [foldMx]
@[simp] theorem foldMn_nil : foldMn a [] k = some a := rfl
@[simp] theorem foldMn_cons (l : List AV) : foldMn a (.p (.int k b) :: l) k = foldMn (if b < a then b else a) l k := by simp [foldMn]
@[simp] theorem aMx_i (l : List AV) : aMx (.p (.int k a)) l = bnd (foldMx a l k) fun m => some (.p (.int k m), []) := by
  simp only [aMx]; cases foldMx a l k <;> rfl
@[simp] theorem aMn_i (l : List AV) : aMn (.p (.int k a)) l = bnd (foldMn a l k) fun m => some (.p (.int k m), []) := by
  simp only [aMn]; cases foldMn a l k <;> rfl
@[simp] theorem allP_nil : allP [] = some [] := rfl
@[simp] theorem allP_p (v : PV) (l : List C) : allP (.p v :: l) = bnd (allP l) fun l => some (v :: l) := by
  simp only [allP]; cases allP l <;> rfl
@[simp] theorem allP_ptr (q o : Nat) (l : List C) : allP (.ptr q o :: l) = none := rfl
@[simp] theorem allP_slc (q o n z : Nat) (l : List C) : allP (.slc q o n z :: l) = none := rfl
@[simp] theorem allP_nils (l : List C) : allP (.nils :: l) = none := rfl
@[simp] theorem allP_e0 (l : List C) : allP (.e0 :: l) = none := rfl
@[simp] theorem allP_map (q : Nat) (l : List C) : allP (.map q :: l) = none := rfl
@[simp] theorem allP_mapp (l : List PV) : allP (l.map C.p) = some l := by
  induction l with
  | nil => rfl
  | cons v l ih => simp [ih]
def ofCs' (cs : List C) : Option (List PV) → AV
  | some l => .pa l
  | none => .ag cs
@[simp] theorem ofCs_eq (cs : List C) : AV.ofCs cs = ofCs' cs (allP cs) := by
  unfold AV.ofCs ofCs'; cases allP cs <;> rfl
@[simp] theorem ofCs'_some (cs : List C) (l : List PV) : ofCs' cs (some l) = .pa l := rfl
@[simp] theorem ofCs'_none (cs : List C) : ofCs' cs none = .ag cs := rfl
@[simp] theorem ofC_p (v : PV) : AV.ofC (.p v) = .p v := rfl
@[simp] theorem ofC_ptr (q o : Nat) : AV.ofC (.ptr q o) = .r (.ptr q o) := rfl
@[simp] theorem ofC_slc (q o n z : Nat) : AV.ofC (.slc q o n z) = .r (.slc q o n z) := rfl
@[simp] theorem ofC_nils : AV.ofC .nils = .r .nils := rfl
@[simp] theorem ofC_e0 : AV.ofC .e0 = .r .e0 := rfl
@[simp] theorem ofC_map (q : Nat) : AV.ofC (.map q) = .r (.map q) := rfl
@[simp] theorem ofC_clo (f : FuncId) (l : List (Nat × Nat)) : AV.ofC (.clo f l) = .r (.clo f l) := rfl
@[simp] theorem loadP_1 (n o : Nat) (l : List PV) : loadP n false l o = if o + n ≤ l.length then bnd (l[o]?) fun v => some (.p v) else none := by
  simp only [loadP]; split <;> try rfl
  simp only [Bool.false_eq_true, if_false]; cases l[o]? <;> rfl
@[simp] theorem loadP_n (n o : Nat) (l : List PV) : loadP n true l o = if o + n ≤ l.length then some (.pa ((l.drop o).take n)) else none := by
  simp only [loadP, if_true]
@[simp] theorem loadC_1 (n o : Nat) (l : List C) : loadC n false l o = if o + n ≤ l.length then bnd (l[o]?) fun v => some (AV.ofC v) else none := by
  simp only [loadC]; split <;> try rfl
  simp only [Bool.false_eq_true, if_false]; cases l[o]? <;> rfl
@[simp] theorem loadC_n (n o : Nat) (l : List C) : loadC n true l o = if o + n ≤ l.length then some (AV.ofCs ((l.drop o).take n)) else none := by
  simp only [loadC, if_true]
@[simp] theorem bool_p (p : Bool) : (AV.p (.bool p)).bool? = some p := rfl
@[simp] theorem eqAV_bool (p q : Bool) : eqAV h .bool (.p (.bool p)) (.p (.bool q)) = some (p == q) := rfl
@[simp] theorem eqAV_ptr (x y : AV) : eqAV h .ptr x y = eqPtr h x y := rfl
@[simp] theorem eqAV_slc1 (y : AV) : eqAV h .slc (.r .nils) y = isNilS y := rfl
@[simp] theorem eqAV_slc2 (x : AV) : eqAV h .slc x (.r .nils) = isNilS x := by
  simp only [eqAV]
  cases x <;> try rfl
  rename_i c; cases c <;> rfl
@[simp] theorem isNilS_nils : isNilS (.r .nils) = some true := rfl
@[simp] theorem isNilS_slc (q o n z : Nat) : isNilS (.r (.slc q o n z)) = some false := rfl
@[simp] theorem eqPtr_nil (y : AV) : eqPtr h (.p .nilp) y = isNilP y := rfl
@[simp] theorem eqPtr_nil2 (q o : Nat) : eqPtr h (.r (.ptr q o)) (.p .nilp) = some false := rfl
@[simp] theorem eqPtr_ptr (q o q' o' : Nat) : eqPtr h (.r (.ptr q o)) (.r (.ptr q' o')) = if q = q' ∧ (h.get q).isSome = true then some (o == o') else none := rfl
@[simp] theorem aUptr_nil (t n : Nat) : aUptr h t n (.p .nilp) = some (.p .nilp, []) := rfl
@[simp] theorem aUptr_ptr (t n q o : Nat) : aUptr h t n (.r (.ptr q o)) = bnd (h.cells? q) fun c => if c.1.ty = t ∧ o = 0 ∧ n ≤ c.2.2.length ∧ 0 < n then some (.r (.ptr q o), []) else none := by
  simp only [aUptr]; cases h.cells? q <;> rfl
@[simp] theorem aSdata_nils : aSdata h (.r .nils) = some (.p .nilp, []) := rfl
@[simp] theorem aSdata_slc (q o n z : Nat) : aSdata h (.r (.slc q o n z)) = if n ≠ 0 ∧ (h.get q).isSome = true then some (.r (.ptr q o), []) else none := rfl
@[simp] theorem aUstr_nil (t : Nat) : aUstr h t (.p .nilp) (.p (.int .i64 a)) = if a = 0 then some (.p (.str []), []) else none := rfl
@[simp] theorem aUstr_ptr (t q o : Nat) : aUstr h t (.r (.ptr q o)) (.p (.int .i64 a)) = if 0 < a ∧ a ≤ maxLen then bnd (h.cells? q) fun c => if o = 0 ∧ a.toNat ≤ c.2.2.length ∧ c.1 = ⟨false, t⟩ then bnd (rowBytes (c.2.2.take a.toNat)) fun b => some (.p (.str b), [(q, some (.cells c.1 (max c.2.1 a.toNat) c.2.2))]) else none else none := by
  simp only [aUstr]; split <;> try rfl
  cases h.cells? q with
  | none => rfl
  | some c => obtain ⟨m, f, cs⟩ := c; simp only [bnd_some]; split <;> try rfl
              cases rowBytes (cs.take a.toNat) <;> rfl
@[simp] theorem isNilP_nil : isNilP (.p .nilp) = some true := rfl
@[simp] theorem isNilP_ptr (q o : Nat) : isNilP (.r (.ptr q o)) = some false := rfl
@[simp] theorem isNilP_pp (l : List PV) (o : Nat) : isNilP (.p (.pp l o)) = some false := rfl
end

section
variable (h : Hp)
@[simp] theorem aLenmap_m (q : Nat) : aLenmap h (.r (.map q)) = match h.get q with | some (.map es) => some (.p (.int .i64 es.length), []) | _ => none := rfl
end

/-! States, heaps. -/
section
variable (s : St) (h : Hp)
attribute [simp] List.filter_cons
attribute [simp ↓] X_skip X_exit X_ret X_region X_seq X_cond X_block X_loop XR_nil XR_op XR_opd XR_g XR_gd
@[simp] theorem get_lf (q : Reg) : T.get .lf q = .u := by cases q <;> rfl
@[simp] theorem get_nd (v : AV) (l r : T) : T.get (.nd v l r) [] = v := rfl
@[simp] theorem get_l (v : AV) (l r : T) (q : Reg) : T.get (.nd v l r) (false :: q) = l.get q := rfl
@[simp] theorem get_r (v : AV) (l r : T) (q : Reg) : T.get (.nd v l r) (true :: q) = r.get q := rfl
@[simp] theorem set_lf (v : AV) : T.set .lf [] v = .nd v .lf .lf := rfl
@[simp] theorem set_lfl (v : AV) (q : Reg) : T.set .lf (false :: q) v = .nd .u (T.set .lf q v) .lf := rfl
@[simp] theorem set_lfr (v : AV) (q : Reg) : T.set .lf (true :: q) v = .nd .u .lf (T.set .lf q v) := rfl
@[simp] theorem set_nd (x v : AV) (l r : T) : T.set (.nd x l r) [] v = .nd v l r := rfl
@[simp] theorem set_l (x v : AV) (l r : T) (q : Reg) : T.set (.nd x l r) (false :: q) v = .nd x (T.set l q v) r := rfl
@[simp] theorem set_r (x v : AV) (l r : T) (q : Reg) : T.set (.nd x l r) (true :: q) v = .nd x l (T.set r q v) := rfl
@[simp] theorem get_set' (v : AV) : ∀ (t : T) (q q' : Reg), (t.set q v).get q' = if q' = q then v else t.get q'
  | .lf, [], q' => by
    cases q' with
    | nil => simp
    | cons b q' => cases b <;> simp
  | .lf, false :: q, q' => by
    cases q' with
    | nil => simp
    | cons b q' => cases b <;> simp [get_set' v .lf q]
  | .lf, true :: q, q' => by
    cases q' with
    | nil => simp
    | cons b q' => cases b <;> simp [get_set' v .lf q]
  | .nd x l r, [], q' => by
    cases q' with
    | nil => simp
    | cons b q' => cases b <;> simp
  | .nd x l r, false :: q, q' => by
    cases q' with
    | nil => simp
    | cons b q' => cases b <;> simp [get_set' v l q]
  | .nd x l r, true :: q, q' => by
    cases q' with
    | nil => simp
    | cons b q' => cases b <;> simp [get_set' v r q]
@[simp] theorem mask_lf (m : Mask) : T.mask .lf m = .lf := rfl
@[simp] theorem mask_nlf (v : AV) (l r : T) : T.mask (.nd v l r) .lf = .lf := rfl
@[simp] theorem mask_nt (v : AV) (l r : T) (m m' : Mask) : T.mask (.nd v l r) (.nd true m m') = .nd v (l.mask m) (r.mask m') := rfl
@[simp] theorem mask_nf (v : AV) (l r : T) (m m' : Mask) : T.mask (.nd v l r) (.nd false m m') = .nd .u (l.mask m) (r.mask m') := rfl
@[simp] theorem ren_lf (ρ : Nat → Option Nat) : T.ren ρ .lf = .lf := rfl
@[simp] theorem ren_nd (ρ : Nat → Option Nat) (v : AV) (l r : T) : T.ren ρ (.nd v l r) = .nd (v.ren ρ) (l.ren ρ) (r.ren ρ) := rfl
@[simp] theorem refs_lf : T.refs .lf = [] := rfl
@[simp] theorem refs_nd (v : AV) (l r : T) : T.refs (.nd v l r) = v.refs ++ (l.refs ++ r.refs) := rfl
section
variable (ρ : Nat → Option Nat)
@[simp] theorem arefs_u : AV.refs .u = [] := rfl
@[simp] theorem arefs_p (v : PV) : AV.refs (.p v) = [] := rfl
@[simp] theorem arefs_pa (v : List PV) : AV.refs (.pa v) = [] := rfl
@[simp] theorem arefs_r (c : C) : AV.refs (.r c) = c.refs := rfl
@[simp] theorem arefs_ag (l : List C) : AV.refs (.ag l) = l.flatMap C.refs := rfl
@[simp] theorem arefs_tup (l : List (Bool × List C)) : AV.refs (.tup l) = l.flatMap fun x => x.2.flatMap C.refs := rfl
@[simp] theorem crefs_p (v : PV) : C.refs (.p v) = [] := rfl
@[simp] theorem crefs_nils : C.refs .nils = [] := rfl
@[simp] theorem crefs_e0 : C.refs .e0 = [] := rfl
@[simp] theorem crefs_dead : C.refs .dead = [] := rfl
@[simp] theorem crefs_ptr (q o : Nat) : C.refs (.ptr q o) = [q] := rfl
@[simp] theorem crefs_slc (q o n z : Nat) : C.refs (.slc q o n z) = [q] := rfl
@[simp] theorem crefs_map (q : Nat) : C.refs (.map q) = [q] := rfl
@[simp] theorem crefs_clo (f : FuncId) (l : List (Nat × Nat)) : C.refs (.clo f l) = l.map Prod.fst := rfl
@[simp] theorem crefs_ps (l : List PV) : (l.map C.p).flatMap C.refs = [] := by simp
@[simp] theorem aren_u : AV.ren ρ .u = .u := rfl
@[simp] theorem aren_p (v : PV) : AV.ren ρ (.p v) = .p v := rfl
@[simp] theorem aren_pa (v : List PV) : AV.ren ρ (.pa v) = .pa v := rfl
@[simp] theorem aren_r (c : C) : AV.ren ρ (.r c) = .r (c.ren ρ) := rfl
@[simp] theorem aren_ag (l : List C) : AV.ren ρ (.ag l) = .ag (l.map (C.ren ρ)) := rfl
@[simp] theorem aren_tup (l : List (Bool × List C)) : AV.ren ρ (.tup l) = .tup (l.map fun x => (x.1, x.2.map (C.ren ρ))) := rfl
@[simp] theorem cren_p (v : PV) : C.ren ρ (.p v) = .p v := rfl
@[simp] theorem cren_nils : C.ren ρ .nils = .nils := rfl
@[simp] theorem cren_e0 : C.ren ρ .e0 = .e0 := rfl
@[simp] theorem cren_dead : C.ren ρ .dead = .dead := rfl
def mkPtr (o : Nat) : Option Nat → C | some k => .ptr k o | none => .dead
def mkSlc (o n z : Nat) : Option Nat → C | some k => .slc k o n z | none => .dead
def mkMap : Option Nat → C | some k => .map k | none => .dead
@[simp] theorem mkPtr_s (o k : Nat) : mkPtr o (some k) = .ptr k o := rfl
@[simp] theorem mkSlc_s (o n z k : Nat) : mkSlc o n z (some k) = .slc k o n z := rfl
@[simp] theorem mkMap_s (k : Nat) : mkMap (some k) = .map k := rfl
@[simp] theorem cren_ptr (q o : Nat) : C.ren ρ (.ptr q o) = mkPtr o (ρ q) := by simp only [C.ren]; cases ρ q <;> rfl
@[simp] theorem cren_slc (q o n z : Nat) : C.ren ρ (.slc q o n z) = mkSlc o n z (ρ q) := by simp only [C.ren]; cases ρ q <;> rfl
@[simp] theorem cren_map (q : Nat) : C.ren ρ (.map q) = mkMap (ρ q) := by simp only [C.ren]; cases ρ q <;> rfl
@[simp] theorem cren_clo (f : FuncId) (l : List (Nat × Nat)) : C.ren ρ (.clo f l) = match renCaps ρ l with | some l => .clo f l | none => .dead := rfl
@[simp] theorem cren_ps (l : List PV) : (l.map C.p).map (C.ren ρ) = l.map C.p := by simp
@[simp] theorem bren_cells (m : Tag) (f : Nat) (cs : List C) : Blk.ren ρ (.cells m f cs) = .cells m f (cs.map (C.ren ρ)) := rfl
@[simp] theorem bren_map (es : List (PVal × PVal)) : Blk.ren ρ (.map es) = .map es := rfl
@[simp] theorem brefs_cells (m : Tag) (f : Nat) (cs : List C) : Blk.refs (.cells m f cs) = cs.flatMap C.refs := rfl
@[simp] theorem brefs_map (es : List (PVal × PVal)) : Blk.refs (.map es) = [] := rfl
end
@[simp] theorem hget_nil (k : Nat) : Hp.get [] k = none := rfl
@[simp] theorem hget_cons (k k' : Nat) (b : Blk) : Hp.get ((k, b) :: h) k' = if k' = k then some b else Hp.get h k' := rfl
@[simp] theorem hput_nil (k : Nat) (b : Blk) : Hp.put [] k b = [(k, b)] := rfl
@[simp] theorem hput_cons (k k' : Nat) (b b' : Blk) : Hp.put ((k, b) :: h) k' b' = if k' = k then (k, b') :: h else (k, b) :: Hp.put h k' b' := rfl
@[simp] theorem hdel_nil (k : Nat) : Hp.del [] k = [] := rfl
@[simp] theorem hdel_cons (k k' : Nat) (b : Blk) : Hp.del ((k, b) :: h) k' = if k' = k then Hp.del h k' else (k, b) :: Hp.del h k' := rfl
@[simp] theorem hupd_nil : Hp.upd h [] = h := by cases h <;> rfl
@[simp] theorem hupd_s (k : Nat) (b : Blk) (u : Upd) : Hp.upd h ((k, some b) :: u) = Hp.upd (h.put k b) u := by cases h <;> rfl
@[simp] theorem hupd_n (k : Nat) (u : Upd) : Hp.upd h ((k, none) :: u) = Hp.upd (h.del k) u := by cases h <;> rfl
@[simp] theorem cells_nil (k : Nat) : Hp.cells? [] k = none := rfl
@[simp] theorem cells_cons (k k' : Nat) (m : Tag) (f : Nat) (cs : List C) : Hp.cells? ((k, .cells m f cs) :: h) k' = if k' = k then some (m, f, cs) else Hp.cells? h k' := by
  simp only [Hp.cells?, Hp.get]; split
  · rename_i h1; split at h1
    · rename_i e; simp only [if_pos e]; cases h1; rfl
    · rename_i e; simp only [if_neg e, h1]
  · rename_i h1; split at h1
    · rename_i e; exact absurd rfl (h1 _ _ _)
    · rename_i e; simp only [if_neg e]
@[simp] theorem cells_consm (k k' : Nat) (es : List (PVal × PVal)) : Hp.cells? ((k, .map es) :: h) k' = if k' = k then none else Hp.cells? h k' := by
  simp only [Hp.cells?, Hp.get]; by_cases e : k' = k <;> simp [e]
@[simp] theorem ev_t (r : Reg) : s.ev (.t r) = s.tm.get r := rfl
@[simp] theorem ev_c (v : AV) : s.ev (.c v) = v := rfl
@[simp] theorem put_some (r : Reg) (v : AV) : s.put (some r) v = { s with tm := s.tm.set r v } := rfl
@[simp] theorem put_none (v : AV) : s.put none v = s := rfl
@[simp] theorem wanted_none : wanted s none = some true := rfl
def wantAV (b : Bool) : AV → Option Bool | .p (.bool b') => some (b' == b) | .tup [] => some false | _ => none
@[simp] theorem wantAV_b (b b' : Bool) : wantAV b (.p (.bool b')) = some (b' == b) := rfl
@[simp] theorem wantAV_t (b : Bool) : wantAV b (.tup []) = some false := rfl
@[simp] theorem wanted_some (r : Reg) (b : Bool) : wanted s (some (r, b)) = wantAV b (s.tm.get r) := by
  unfold wanted wantAV; rfl
@[simp] theorem putArgs_nil (t : T) (n : Nat) : putArgs t n [] = t := rfl
@[simp] theorem putArgs_cons (t : T) (n : Nat) (v : AV) (l : List AV) : putArgs t n (v :: l) = putArgs (t.set (path n) v) (n + 1) l := rfl
@[simp] theorem path_0 : path 0 = [] := rfl
@[simp] theorem path_1 : path 1 = [false] := rfl
@[simp] theorem path_2 : path 2 = [true] := rfl
@[simp] theorem path_3 : path 3 = [false, false] := rfl
@[simp] theorem path_4 : path 4 = [true, false] := rfl
@[simp] theorem path_5 : path 5 = [false, true] := rfl
@[simp] theorem path_6 : path 6 = [true, true] := rfl
@[simp] theorem path_7 : path 7 = [false, false, false] := rfl
@[simp] theorem ofPVal_one (v : PV) : AV.ofPVal (.one v) = .p v := rfl
@[simp] theorem ofPVal_agg (v : List PV) : AV.ofPVal (.agg v) = .pa v := rfl
@[simp] theorem readAll_nil : readAll s [] = some [] := rfl
@[simp] theorem readAll_cons (x : VRes) (l : List VRes) : readAll s (x :: l) = bnd (readRes s x) fun v => bnd (readAll s l) fun vs => some (v :: vs) := by
  simp only [readAll]; cases readRes s x <;> cases readAll s l <;> rfl
@[simp] theorem readRes_tmp (r : Reg) : readRes s (.tmp r) = some (s.tm.get r) := rfl
@[simp] theorem readRes_cell (r : Reg) (n : Nat) (agg : Bool) : readRes s (.cell r n agg) = bnd (aLoad s.hp n agg (match s.tm.get r with | .r c => .r c | _ => .u)) fun x => some x.1 := by
  simp only [readRes]
  cases s.tm.get r <;> try rfl
  rename_i c; cases c <;> try rfl
  rename_i k o; simp only [aLoad]; cases s.hp.cells? k with
  | none => rfl
  | some x => obtain ⟨_, _, cs⟩ := x; simp only; cases loadC n agg cs o <;> rfl
@[simp] theorem snapAll_nil : snapAll h [] = some [] := rfl
@[simp] theorem snapAll_cons (v : AV) (l : List AV) : snapAll h (v :: l) = bnd (v.snap h) fun x => bnd (snapAll h l) fun xs => some (x :: xs) := by
  simp only [snapAll]; cases v.snap h <;> cases snapAll h l <;> rfl
@[simp] theorem AVsnap_p (v : PV) : (AV.p v).snap h = some (.one v) := rfl
@[simp] theorem AVsnap_pa (cs : List PV) : (AV.pa cs).snap h = some (.agg cs) := rfl
@[simp] theorem AVsnap_r (c : C) : (AV.r c).snap h = bnd (snap h depth c) fun v => some (.one v) := by
  show (snap h depth c).map _ = _; cases snap h depth c <;> rfl
@[simp] theorem AVsnap_ag (cs : List C) : (AV.ag cs).snap h = bnd (mapO (snap h depth) cs) fun v => some (.agg v) := by
  show (mapO (snap h depth) cs).map _ = _; cases mapO (snap h depth) cs <;> rfl
theorem depth_eq : depth = 40 := rfl
@[simp] theorem snap_p (d : Nat) (v : PV) : snap h (d + 1) (.p v) = some v := rfl
@[simp] theorem snap_dp (v : PV) : snap h depth (.p v) = some v := rfl
@[simp] theorem snap_nils : snap h depth .nils = some (.list 0 []) := rfl
@[simp] theorem snap_e0 : snap h depth .e0 = some (.list 0 []) := rfl
@[simp] theorem snap_map (k : Nat) : snap h depth (.map k) = some .opq := rfl
@[simp] theorem snap_slc (k o n z : Nat) : snap h depth (.slc k o n z) = if n = 0 then some (.list 0 []) else bnd (h.cells? k) fun x => if o + n * z ≤ x.2.2.length then bnd (mapO (snap h 39) ((x.2.2.drop o).take (n * z))) fun l => some (.list z (rowsOf z n l)) else none := by
  rw [show depth = 39 + 1 from rfl, snap]
  by_cases e : n = 0
  · simp [e]
  · simp only [e, if_false, Hp.cells?]
    cases Hp.get h k with
    | none => rfl
    | some b =>
      cases b with
      | map _ => rfl
      | cells m f cs => simp only [bnd_some]; split <;> try rfl
                        cases mapO (snap h 39) ((cs.drop o).take (n * z)) <;> rfl
@[simp] theorem mapO_nil {α β : Type} (f : α → Option β) : mapO f [] = some [] := rfl
@[simp] theorem mapO_cons {α β : Type} (f : α → Option β) (x : α) (l : List α) : mapO f (x :: l) = bnd (f x) fun v => bnd (mapO f l) fun vs => some (v :: vs) := by
  simp only [mapO]; cases f x <;> cases mapO f l <;> rfl
@[simp] theorem mapO_ps (d : Nat) (l : List PV) : mapO (snap h (d + 1)) (l.map C.p) = some l := by
  induction l with
  | nil => rfl
  | cons v l ih => simp [ih]
@[simp] theorem mapO_ps39 (l : List PV) : mapO (snap h 39) (l.map C.p) = some l := mapO_ps h 38 l
@[simp] theorem mapO_psd (l : List PV) : mapO (snap h depth) (l.map C.p) = some l := mapO_ps h 39 l
@[simp] theorem ofList_one (v : AV) : AV.ofList [v] = some v := rfl
@[simp] theorem ofList_nil : AV.ofList [] = some (.tup []) := rfl
@[simp] theorem ofList_two (v w : AV) (l : List AV) : AV.ofList (v :: w :: l) = bnd (AV.ofList.mapL (v :: w :: l)) fun l => some (.tup l) := by
  show (AV.ofList.mapL (v :: w :: l)).map AV.tup = _; cases AV.ofList.mapL (v :: w :: l) <;> rfl
@[simp] theorem mapL_nil : AV.ofList.mapL [] = some [] := rfl
@[simp] theorem mapL_cons (v : AV) (l : List AV) : AV.ofList.mapL (v :: l) = bnd v.part? fun x => bnd (AV.ofList.mapL l) fun xs => some (x :: xs) := by
  simp only [AV.ofList.mapL]; cases v.part? <;> cases AV.ofList.mapL l <;> rfl
@[simp] theorem part_p (v : PV) : AV.part? (.p v) = some (false, [.p v]) := rfl
@[simp] theorem part_pa (v : List PV) : AV.part? (.pa v) = some (true, v.map C.p) := rfl
@[simp] theorem part_r (c : C) : AV.part? (.r c) = some (false, [c]) := rfl
@[simp] theorem part_ag (v : List C) : AV.part? (.ag v) = some (true, v) := rfl
@[simp] theorem scalar_b (b : Bool) : AV.scalar (.p (.bool b)) = true := rfl
@[simp] theorem scalar_i (k : IntKind) (n : Int) : AV.scalar (.p (.int k n)) = true := rfl
@[simp] theorem scalar_s (s : List UInt8) : AV.scalar (.p (.str s)) = true := rfl
@[simp] theorem reachAll_nil : reachAll h [] = some [] := rfl
theorem reachAll_def (l : List Nat) : reachAll h l = reach h 100000 l [] := rfl
@[simp] theorem reachAll_cons (k : Nat) (l : List Nat) : reachAll h (k :: l) = reach h 100000 (k :: l) [] := rfl
@[simp] theorem reach_nil (n : Nat) (seen : List Nat) : reach h (n + 1) [] seen = some seen := rfl
def reachB (h : Hp) (n : Nat) (k : Nat) (todo seen : List Nat) : Option Blk → Option (List Nat)
  | some b => reach h n (b.refs ++ todo) (seen ++ [k])
  | none => reach h n todo seen
@[simp] theorem reach_cons (n k : Nat) (todo seen : List Nat) : reach h (n + 1) (k :: todo) seen = if seen.contains k then reach h n todo seen else reachB h n k todo seen (Hp.get h k) := by
  rw [reach]; split
  · rfl
  · unfold reachB; cases Hp.get h k <;> rfl
@[simp] theorem reachB_s (n k : Nat) (todo seen : List Nat) (b : Blk) : reachB h n k todo seen (some b) = reach h n (b.refs ++ todo) (seen ++ [k]) := rfl
@[simp] theorem reachB_n (n k : Nat) (todo seen : List Nat) : reachB h n k todo seen none = reach h n todo seen := rfl
@[simp] theorem upto_0 : upto 0 = [] := rfl
@[simp] theorem upto_1 : upto 1 = [0] := rfl
@[simp] theorem upto_2 : upto 2 = [0, 1] := rfl
@[simp] theorem upto_3 : upto 3 = [0, 1, 2] := rfl
@[simp] theorem upto_4 : upto 4 = [0, 1, 2, 3] := rfl
@[simp] theorem upto_5 : upto 5 = [0, 1, 2, 3, 4] := rfl
@[simp] theorem upto_6 : upto 6 = [0, 1, 2, 3, 4, 5] := rfl
@[simp] theorem gcKeys_suc (a : Nat) (roots : List Nat) : gcKeys (a + 1) h roots = bnd (reachAll h (upto (a + 1) ++ roots)) fun l => some (l.filter fun k => ! decide (k < a + 1)) := by
  unfold gcKeys; cases reachAll h (upto (a + 1) ++ roots) <;> rfl
@[simp] theorem gcRen_eq (a : Nat) (ks : List Nat) (k : Nat) : gcRen a ks k = if k < a then some k else place a ks k := rfl
@[simp] theorem place_nil (a k : Nat) : place a [] k = none := rfl
@[simp] theorem place_cons (a k k' : Nat) (l : List Nat) : place a (k :: l) k' = if k' = k then some a else place (a + 1) l k' := rfl
@[simp] theorem gc_eq (a : Nat) (ks : List Nat) : gc a h ks = pack h (gcRen a ks) 0 (upto a ++ ks) := rfl
@[simp] theorem pack_nil (ρ : Nat → Option Nat) (a : Nat) : pack h ρ a [] = [] := rfl
def packB (h : Hp) (ρ : Nat → Option Nat) (a : Nat) (l : List Nat) : Option Blk → Hp
  | some b => (a, b.ren ρ) :: pack h ρ (a + 1) l
  | none => pack h ρ (a + 1) l
@[simp] theorem pack_cons (ρ : Nat → Option Nat) (a k : Nat) (l : List Nat) : pack h ρ a (k :: l) = packB h ρ a l (Hp.get h k) := by
  rw [pack]; unfold packB; cases Hp.get h k <;> rfl
@[simp] theorem packB_s (ρ : Nat → Option Nat) (a : Nat) (l : List Nat) (b : Blk) : packB h ρ a l (some b) = (a, b.ren ρ) :: pack h ρ (a + 1) l := rfl
@[simp] theorem packB_n (ρ : Nat → Option Nat) (a : Nat) (l : List Nat) : packB h ρ a l none = pack h ρ (a + 1) l := rfl
@[simp] theorem backRen_eq (l : List Nat) (fk k : Nat) : backRen l fk k = if k < l.length then l[k]? else some (fk + (k - l.length)) := rfl
@[simp] theorem backUpd_eq (h' : Hp) (ρ : Nat → Option Nat) (fk : Nat) (l : List Nat) (p : Nat) : backUpd h' ρ fk l p = backOld h' ρ 0 l ++ backNew h' ρ p l.length fk := rfl
@[simp] theorem backOld_nil (h' : Hp) (ρ : Nat → Option Nat) (i : Nat) : backOld h' ρ i [] = [] := rfl
@[simp] theorem backOld_cons (h' : Hp) (ρ : Nat → Option Nat) (i k : Nat) (l : List Nat) : backOld h' ρ i (k :: l) = (k, (Hp.get h' i).map (Blk.ren ρ)) :: backOld h' ρ (i + 1) l := rfl
@[simp] theorem backNew_0 (h' : Hp) (ρ : Nat → Option Nat) (i fk : Nat) : backNew h' ρ 0 i fk = [] := rfl
@[simp] theorem backNew_s (h' : Hp) (ρ : Nat → Option Nat) (p i fk : Nat) : backNew h' ρ (p + 1) i fk = (fk, (Hp.get h' i).map (Blk.ren ρ)) :: backNew h' ρ p (i + 1) (fk + 1) := rfl
@[simp] theorem freezeUpd_nil : freezeUpd h [] = [] := rfl
def freezeB (h : Hp) (k : Nat) (l : List Nat) : Option Blk → Upd
  | some (.cells m _ cs) => (k, some (.cells m cs.length cs)) :: freezeUpd h l
  | _ => freezeUpd h l
@[simp] theorem freezeUpd_cons (k : Nat) (l : List Nat) : freezeUpd h (k :: l) = freezeB h k l (Hp.get h k) := by
  rw [freezeUpd]; unfold freezeB
  cases Hp.get h k with
  | none => rfl
  | some b => cases b <;> rfl
@[simp] theorem freezeB_s (k : Nat) (l : List Nat) (m : Tag) (f : Nat) (cs : List C) : freezeB h k l (some (.cells m f cs)) = (k, some (.cells m cs.length cs)) :: freezeUpd h l := rfl
@[simp] theorem freezeB_n (k : Nat) (l : List Nat) : freezeB h k l none = freezeUpd h l := rfl
@[simp] theorem stride_eq : stride = 32 := rfl
@[simp] theorem foot_load (n : Nat) (g : Bool) (x : Opd) : foot s (.load n g x) = some (s.ev x).refs := rfl
@[simp] theorem foot_store (n : Nat) (x v : Opd) : foot s (.store n x v) = some (s.ev x).refs := rfl
@[simp] theorem foot_look (kt : KT) (z : AV) (ok : Bool) (x y : Opd) : foot s (.look kt z ok x y) = some (s.ev x).refs := rfl
@[simp] theorem foot_mapupd (kt : KT) (x y z : Opd) : foot s (.mapupd kt x y z) = some (s.ev x).refs := rfl
@[simp] theorem foot_lenmap (x : Opd) : foot s (.lenmap x) = some (s.ev x).refs := rfl
@[simp] theorem foot_b2s (x : Opd) : foot s (.b2s x) = some (s.ev x).refs := rfl
@[simp] theorem foot_uptr (t n : Nat) (x : Opd) : foot s (.uptr t n x) = some (s.ev x).refs := rfl
@[simp] theorem foot_ustr (t : Nat) (x n : Opd) : foot s (.ustr t x n) = some (s.ev x).refs := rfl
@[simp] theorem foot_subarr (n z : Nat) (x : Opd) (l m : Option Opd) : foot s (.subarr n z x l m) = some (s.ev x).refs := rfl
@[simp] theorem foot_iaddr (z : Nat) (x i : Opd) : foot s (.iaddr z x i) = some (s.ev x).refs := rfl
@[simp] theorem foot_sdata (x : Opd) : foot s (.sdata x) = some (s.ev x).refs := rfl
@[simp] theorem foot_app (t z : Nat) (x y : Opd) : foot s (.app t z x y) = some ((s.ev x).refs ++ (s.ev y).refs) := rfl
@[simp] theorem foot_eqv (c : Cls) (g : Bool) (x y : Opd) : foot s (.eqv c g x y) = some ((s.ev x).refs ++ (s.ev y).refs) := rfl
@[simp] theorem foot_call (f : FuncId) (l : List Opd) : foot s (.call f l) = visit s.hp 100000 ((l.map s.ev).flatMap AV.refs) [] := rfl
@[simp] theorem foot_callv (x : Opd) (l : List Opd) : foot s (.callv x l) = visit s.hp 100000 ((l.map s.ev).flatMap AV.refs ++ (s.ev x).refs) [] := rfl
@[simp] theorem visit_nil (n : Nat) (seen : List Nat) : visit h (n + 1) [] seen = some seen := rfl
def visitB (h : Hp) (n : Nat) (k : Nat) (todo seen : List Nat) : Option Blk → Option (List Nat)
  | some b => visit h n (b.refs ++ todo) (seen ++ [k])
  | none => visit h n todo (seen ++ [k])
@[simp] theorem visit_cons (n k : Nat) (todo seen : List Nat) : visit h (n + 1) (k :: todo) seen = if seen.contains k then visit h n todo seen else visitB h n k todo seen (Hp.get h k) := by
  rw [visit]; split
  · rfl
  · unfold visitB; cases Hp.get h k <;> rfl
@[simp] theorem visitB_s (n k : Nat) (todo seen : List Nat) (b : Blk) : visitB h n k todo seen (some b) = visit h n (b.refs ++ todo) (seen ++ [k]) := rfl
@[simp] theorem visitB_n (n k : Nat) (todo seen : List Nat) : visitB h n k todo seen none = visit h n todo (seen ++ [k]) := rfl
section
variable (n : Nat) (g : Bool) (x y v : Opd)
@[simp] theorem foot_mov : foot s (.mov x) = some [] := rfl
@[simp] theorem foot_pick : foot s (.pick x y v) = some [] := rfl
@[simp] theorem foot_alloc (z : List C) : foot s (.alloc n z) = some [] := rfl
@[simp] theorem foot_box : foot s (.box n x) = some [] := rfl
@[simp] theorem foot_build (z : List C) (ps : List (Nat × Nat × Opd)) : foot s (.build z ps) = some [] := rfl
@[simp] theorem foot_bsl (t z' : Nat) (z : List C) (m : Nat) (ps : List (Nat × Nat × Opd)) : foot s (.bsl t z' z m ps) = some [] := rfl
@[simp] theorem foot_nilchk : foot s (.nilchk x) = some [] := rfl
@[simp] theorem foot_bin (o : BinOp) : foot s (.bin o x y) = some [] := rfl
@[simp] theorem foot_eqa (l : List Kd) : foot s (.eqa l g x y) = some [] := rfl
@[simp] theorem foot_un (o : UnOp) : foot s (.un o x) = some [] := rfl
@[simp] theorem foot_conv (k : IntKind) : foot s (.conv k x) = some [] := rfl
@[simp] theorem foot_s2b (t : Nat) : foot s (.s2b t x) = some [] := rfl
@[simp] theorem foot_same : foot s (.same x) = some [] := rfl
@[simp] theorem foot_clo (l : List Opd) : foot s (.clo n l) = some [] := rfl
@[simp] theorem foot_mkmap : foot s .mkmap = some [] := rfl
@[simp] theorem foot_mksl (t z : Nat) (l : List C) : foot s (.mksl t z l x y) = some [] := rfl
@[simp] theorem foot_substr (a b : Option Opd) : foot s (.substr x a b) = some [] := rfl
@[simp] theorem foot_subsl (a b : Option Opd) : foot s (.subsl n x a b) = some [] := rfl
@[simp] theorem foot_faddr : foot s (.faddr n x) = some [] := rfl
@[simp] theorem foot_field (m : Nat) : foot s (.field n m g x) = some [] := rfl
@[simp] theorem foot_aaddr (m : Nat) : foot s (.aaddr n m x y) = some [] := rfl
@[simp] theorem foot_sidx : foot s (.sidx x y) = some [] := rfl
@[simp] theorem foot_aidx (m : Nat) : foot s (.aidx n m g x y) = some [] := rfl
@[simp] theorem foot_extr : foot s (.extr x n) = some [] := rfl
@[simp] theorem foot_lenstr : foot s (.lenstr x) = some [] := rfl
@[simp] theorem foot_lensl : foot s (.lensl x) = some [] := rfl
@[simp] theorem foot_lenarr : foot s (.lenarr n) = some [] := rfl
@[simp] theorem foot_mx (l : List Opd) : foot s (.mx x l) = some [] := rfl
@[simp] theorem foot_mn (l : List Opd) : foot s (.mn x l) = some [] := rfl
@[simp] theorem foot_ext (e : Ext) (l : List Opd) : foot s (.ext e l) = some [] := rfl
end
@[simp] theorem logOk_nil (anc R W : List Nat) : logOk anc R W [] = true := rfl
@[simp] theorem logOk_cons (anc R W : List Nat) (i : Nat) (R' W' : List Nat) (l : Log) : logOk anc R W ((i, R', W') :: l) = ((anc.contains i || (apart W' (R ++ W) && apart R' W)) && logOk anc R W l) := rfl
@[simp high] theorem logOk_pure (anc : List Nat) : ∀ l : Log, logOk anc [] [] l = true
  | [] => rfl
  | (i, R', W') :: l => by
    have h : ∀ l : List Nat, apart l [] = true := by intro l; simp [apart]
    rw [logOk_cons, logOk_pure anc l, List.append_nil, h, h]; simp
@[simp high] theorem logOk_skip (anc R W : List Nat) (i : Nat) (l : Log) : logOk anc R W ((i, [], []) :: l) = logOk anc R W l := by
  rw [logOk_cons]; simp [apart]
@[simp] theorem apart_eq (l m : List Nat) : apart l m = l.all fun k => !m.contains k := rfl
@[simp] theorem gcKeys_zero (roots : List Nat) : gcKeys 0 h roots = reachAll h roots := by
  unfold gcKeys; simp only [upto, List.nil_append]
  cases reachAll h roots with
  | none => rfl
  | some l => simp
@[simp] theorem norm_eq (m : Mask) : norm m s = bnd (gcKeys s.ar s.hp (s.tm.mask m).refs) fun ks => some { tm := (s.tm.mask m).ren (gcRen s.ar ks), hp := gc s.ar s.hp ks, nx := s.ar + ks.length, ar := s.ar } := by
  unfold norm; cases gcKeys s.ar s.hp (s.tm.mask m).refs <;> rfl
@[simp] theorem gc_nil (h : Hp) : gc 0 h [] = [] := rfl
variable {F : Fns} {f : FuncId} {fn : VFn} (fk : Nat) (args : List AV)
abbrev CallB (F : Fns) (f : FuncId) : Prop := ∀ (s : St) (fk : Nat) (args : List AV), doCall F (lim F) s fk f args = bnd (snapAll s.hp args) fun xs => bnd (reachAll s.hp (args.flatMap AV.refs)) fun ks => bnd (pcall F f xs) fun vs => if ks.isEmpty || vs.all fun v => (AV.ofPVal v).scalar then bnd (AV.ofList (vs.map AV.ofPVal)) fun x => some (x, []) else none
abbrev CallF (F : Fns) (f : FuncId) : Prop := ∀ (s : St) (fk : Nat) (args : List AV), doCall F (lim F) s fk f args = bnd (snapAll s.hp args) fun xs => bnd (reachAll s.hp (args.flatMap AV.refs)) fun ks => bnd (pcall F f xs) fun vs => bnd (AV.ofList (vs.map AV.ofPVal)) fun x => some (x, freezeUpd s.hp ks)
abbrev CallH (F : Fns) (f : FuncId) : Prop := ∀ (s : St) (fk : Nat) (args : List AV), doCall F (lim F) s fk f args = bnd (reachAll s.hp (args.flatMap AV.refs)) fun ks => bnd (icall F f (args.map (AV.ren (place 0 ks))) (pack s.hp (place 0 ks) 0 ks) ks.length) fun x => if x.2.2 ≤ stride then bnd (AV.ofList (x.1.map (AV.ren (backRen ks fk)))) fun y => some (y, backUpd x.2.1 (backRen ks fk) fk ks x.2.2) else none
abbrev CallP (F : Fns) (f : FuncId) (p : Prim) : Prop := ∀ (s : St) (fk : Nat) (args : List AV), doCall F (lim F) s fk f args = primStep p s.hp fk args
@[simp] theorem get0 {α : Type} (a : α) (l : List α) : (a :: l)[0]? = some a := rfl
theorem doCall_borrow (hf : F f = some fn) (hm : fn.mode = .borrow) : doCall F (lim F) s fk f args = bnd (snapAll s.hp args) fun xs => bnd (reachAll s.hp (args.flatMap AV.refs)) fun ks => bnd (pcall F f xs) fun vs => if ks.isEmpty || vs.all fun v => (AV.ofPVal v).scalar then bnd (AV.ofList (vs.map AV.ofPVal)) fun x => some (x, []) else none := by
  unfold doCall pcall; rw [hf]; simp only [hm]
  cases snapAll s.hp args <;> cases reachAll s.hp (args.flatMap AV.refs) <;> try rfl
  simp only [bnd_some]
  rename_i xs ks
  cases pcallW F (lim F) f xs <;> try rfl
  simp only [bnd_some]; split
  · rename_i vs _; cases AV.ofList (vs.map AV.ofPVal) <;> rfl
  · rfl
theorem doCall_freeze (hf : F f = some fn) (hm : fn.mode = .freeze) : doCall F (lim F) s fk f args = bnd (snapAll s.hp args) fun xs => bnd (reachAll s.hp (args.flatMap AV.refs)) fun ks => bnd (pcall F f xs) fun vs => bnd (AV.ofList (vs.map AV.ofPVal)) fun x => some (x, freezeUpd s.hp ks) := by
  unfold doCall pcall; rw [hf]; simp only [hm]
  cases snapAll s.hp args <;> cases reachAll s.hp (args.flatMap AV.refs) <;> try rfl
  simp only [bnd_some]
  rename_i xs ks
  cases pcallW F (lim F) f xs <;> try rfl
  simp only [bnd_some]
  rename_i vs; cases AV.ofList (vs.map AV.ofPVal) <;> rfl
theorem doCall_heap (hf : F f = some fn) (hm : fn.mode = .heap) : doCall F (lim F) s fk f args = bnd (reachAll s.hp (args.flatMap AV.refs)) fun ks => bnd (icall F f (args.map (AV.ren (place 0 ks))) (pack s.hp (place 0 ks) 0 ks) ks.length) fun x => if x.2.2 ≤ stride then bnd (AV.ofList (x.1.map (AV.ren (backRen ks fk)))) fun y => some (y, backUpd x.2.1 (backRen ks fk) fk ks x.2.2) else none := by
  unfold doCall icall; rw [hf]; simp only [hm]
  cases reachAll s.hp (args.flatMap AV.refs) <;> try rfl
  simp only [bnd_some]
  rename_i ks
  cases icallW F (lim F) f (args.map (AV.ren (place 0 ks))) (pack s.hp (place 0 ks) 0 ks) ks.length <;> try rfl
  rename_i x; obtain ⟨vs, h', p⟩ := x
  simp only [bnd_some]; split
  · cases AV.ofList (vs.map (AV.ren (backRen ks fk))) <;> rfl
  · rfl
theorem doCall_prim {p : Prim} (hf : F f = some fn) (hm : fn.mode = .prim p) : doCall F (lim F) s fk f args = primStep p s.hp fk args := by
  unfold doCall; rw [hf]; simp only [hm]
end
end Gv
