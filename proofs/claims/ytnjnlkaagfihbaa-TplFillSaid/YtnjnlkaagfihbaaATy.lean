/- The program's values as plain data. -/
import Derived.Test.YtnjnlkaagfihbaaASx
set_option linter.all false
namespace Gv
open Go

abbrev PV.i (n : Int) : PV := .int .i64 n
abbrev PV.b8 (n : Nat) : PV := .int .u8 n
abbrev PV.b64 (n : Nat) : PV := .int .u64 n
/-- A list's value: rows of z cells. -/
def PV.l (z : Nat) (rows : List (List PV)) : PV := .list (if rows.isEmpty then 0 else z) rows

/-- A set of bytes: four words. -/
structure S4 where
  a : Nat
  b : Nat
  c : Nat
  d : Nat
  deriving DecidableEq
def S4.enc (s : S4) : List PV := [.b64 s.a, .b64 s.b, .b64 s.c, .b64 s.d]
def S4.zero : S4 := ⟨0, 0, 0, 0⟩
def S4.word (s : S4) (i : Nat) : Nat := if i = 0 then s.a else if i = 1 then s.b else if i = 2 then s.c else s.d
def S4.setW (s : S4) (i v : Nat) : S4 := if i = 0 then { s with a := v } else if i = 1 then { s with b := v } else if i = 2 then { s with c := v } else { s with d := v }
def S4.wf (s : S4) : Prop := s.a < 2 ^ 64 ∧ s.b < 2 ^ 64 ∧ s.c < 2 ^ 64 ∧ s.d < 2 ^ 64
def p2 (k : Nat) : Nat := 2 ^ k
theorem p2_lt {k : Nat} (h : k < 64) : p2 k < 18446744073709551616 := Nat.pow_lt_pow_right (n := 64) (by omega) h
def wd (b : Nat) : Nat := b / 64
def bt (b : Nat) : Nat := b % 64
theorem wd_lt {b : Nat} (h : b < 256) : wd b < 4 := by unfold wd; omega
theorem bt_lt (b : Nat) : bt b < 64 := by unfold bt; omega
def S4.has (s : S4) (b : Nat) : Bool := (s.word (wd b)).testBit (bt b)
/-- One byte more. -/
def S4.put (s : S4) (b : Nat) : S4 := s.setW (wd b) (s.word (wd b) ||| p2 (bt b))
theorem S4.zero_enc : [PV.int .u64 0, PV.int .u64 0, PV.int .u64 0, PV.int .u64 0] = S4.zero.enc := rfl
theorem S4.zero_encC : [C.p (PV.int .u64 0), C.p (PV.int .u64 0), C.p (PV.int .u64 0), C.p (PV.int .u64 0)] = S4.zero.enc.map C.p := rfl
def setOf (l : List Nat) : S4 := l.foldl S4.put .zero
@[simp] theorem S4.enc_len (s : S4) : s.enc.length = 4 := rfl
theorem S4.enc_get (s : S4) {i : Nat} (h : i < 4) : s.enc[i]? = some (.b64 (s.word i)) := by
  match i, h with
  | 0, _ => rfl
  | 1, _ => rfl
  | 2, _ => rfl
  | 3, _ => rfl
theorem S4.enc_set (s : S4) {i : Nat} (h : i < 4) (v : Nat) : s.enc.set i (.b64 v) = (s.setW i v).enc := by
  match i, h with
  | 0, _ => rfl
  | 1, _ => rfl
  | 2, _ => rfl
  | 3, _ => rfl

/-- An expression. -/
inductive Rx where
  | mk (kind min max n : Int) (s : S4) (kids : List Rx)
def Rx.kind : Rx → Int | .mk k _ _ _ _ _ => k
def Rx.min : Rx → Int | .mk _ k _ _ _ _ => k
def Rx.max : Rx → Int | .mk _ _ k _ _ _ => k
def Rx.n : Rx → Int | .mk _ _ _ k _ _ => k
def Rx.s : Rx → S4 | .mk _ _ _ _ k _ => k
def Rx.kids : Rx → List Rx | .mk _ _ _ _ _ k => k

mutual
def Rx.enc : Rx → List PV
  | .mk k a b n s l => [.i k, .i a, .i b, .i n, .b64 s.a, .b64 s.b, .b64 s.c, .b64 s.d, .l 9 (Rx.encs l)]
def Rx.encs : List Rx → List (List PV)
  | [] => []
  | r :: l => r.enc :: Rx.encs l
end
theorem Rx.encs_map : ∀ l : List Rx, Rx.encs l = l.map Rx.enc
  | [] => by simp [Rx.encs]
  | r :: l => by simp [Rx.encs, Rx.encs_map l]
theorem Rx.enc_eq (r : Rx) : r.enc = [.i r.kind, .i r.min, .i r.max, .i r.n, .b64 r.s.a, .b64 r.s.b, .b64 r.s.c, .b64 r.s.d, .l 9 (Rx.encs r.kids)] := by
  obtain ⟨k, a, b, n, s, l⟩ := r; simp [Rx.enc, Rx.kind, Rx.min, Rx.max, Rx.n, Rx.s, Rx.kids]
@[simp] theorem Rx.encs_len (l : List Rx) : (Rx.encs l).length = l.length := by simp [Rx.encs_map]
@[simp] theorem Rx.encs_get (l : List Rx) (i : Nat) : (Rx.encs l)[i]? = (l[i]?).map Rx.enc := by simp [Rx.encs_map]
@[simp] theorem Rx.encs_getE (l : List Rx) (i : Nat) (h : i < (Rx.encs l).length) : (Rx.encs l)[i] = (l[i]'(by simpa using h)).enc := by simp [Rx.encs_map]
@[simp] theorem Rx.enc_len (r : Rx) : r.enc.length = 9 := by simp [Rx.enc_eq]
@[simp] theorem Rx.enc_take (r : Rx) : r.enc.take 9 = r.enc := List.take_of_length_le (by simp)
theorem put_all : ∀ (vs cs pre : List C), cs.length = vs.length → putCells (pre ++ cs) pre.length vs = pre ++ vs
  | [], cs, pre, h => by simp at h; subst h; simp
  | v :: vs, [], pre, h => by simp at h
  | v :: vs, c :: cs, pre, h => by
    simp only [put_cons']
    have := put_all vs cs (pre ++ [v]) (by simpa using h)
    simp at this
    simpa using this
@[simp] theorem put_enc9 (a b c d e f g h i : C) (r : Rx) : putCells [a, b, c, d, e, f, g, h, i] 0 (r.enc.map C.p) = r.enc.map C.p := put_all _ _ [] (by simp)
@[simp] theorem put_enc4 (a b c d : C) (s : S4) : putCells [a, b, c, d] 0 (s.enc.map C.p) = s.enc.map C.p := put_all _ _ [] (by simp)
section
variable (h : Hp) (z : Nat) (rows : List (List PV))
@[simp] theorem aLensl_l : aLensl (.p (.l z rows)) = some (.p (.int .i64 rows.length), []) := rfl
@[simp] theorem aIaddr_l (k : IntKind) (a : Int) : aIaddr h z (.p (.l z rows)) (.p (.int k a)) = if 0 ≤ a then bnd (rows[a.toNat]?) fun row => some (.p (.pp row 0), []) else none := by
  unfold PV.l; rw [aIaddr_list]
  cases rows with
  | nil => simp
  | cons x l => simp
end

@[simp] theorem cren_comp (ρ : Nat → Option Nat) : C.ren ρ ∘ C.p = C.p := rfl
theorem wrap64 {n : Int} (h : -9223372036854775808 ≤ n) (h' : n ≤ 9223372036854775807) : IntKind.wrap .i64 n = n := by
  simp only [IntKind.wrap, IntKind.bits, IntKind.signed]; simp; omega
theorem wrapu8 {n : Int} (h : 0 ≤ n) (h' : n < 256) : IntKind.wrap .u8 n = n := by
  simp only [IntKind.wrap, IntKind.bits, IntKind.signed]; simp; omega
theorem wrapu64 {n : Int} (h : 0 ≤ n) (h' : n < 18446744073709551616) : IntKind.wrap .u64 n = n := by
  simp only [IntKind.wrap, IntKind.bits, IntKind.signed]; simp; omega
theorem tdivN (a b : Nat) : Int.tdiv (a : Int) (b : Int) = ((a / b : Nat) : Int) := by
  rw [Int.tdiv_eq_ediv_of_nonneg (by omega)]; rfl
theorem tmodN (a b : Nat) : Int.tmod (a : Int) (b : Int) = ((a % b : Nat) : Int) := by
  rw [Int.tmod_eq_emod_of_nonneg (by omega)]; rfl
theorem tdiv64 (a : Nat) : Int.tdiv (a : Int) 64 = (wd a : Nat) := tdivN a 64
theorem tmod64 (a : Nat) : Int.tmod (a : Int) 64 = (bt a : Nat) := tmodN a 64
/-- Casts are not pushed into these. -/
def lowb (w : Nat) : Nat := w % 2
def shrN (w k : Nat) : Nat := w / 2 ^ k
theorem ofInt_nat (w n : Nat) : (BitVec.ofInt n (w : Int)).toNat = w % 2 ^ n := by simp
@[simp] theorem aBin_and1 (w : Nat) : aBin .and (.p (.int .u64 w)) (.p (.int .u64 1)) = some (.p (.int .u64 (lowb w : Nat)), []) := by
  unfold lowb
  rw [aBin_and]
  have : (BitVec.ofInt IntKind.u64.bits (w : Int) &&& BitVec.ofInt IntKind.u64.bits 1).toNat = w % 2 := by
    rw [BitVec.toNat_and, ofInt_nat, show (1 : Int) = ((1 : Nat) : Int) from rfl, ofInt_nat, show IntKind.u64.bits = 64 from rfl, show 1 % 2 ^ 64 = 1 from rfl, Nat.and_one_is_mod]
    omega
  rw [this, wrapu64 (by omega) (by omega)]
theorem aBin_or64 {x y : Nat} (hx : x < 18446744073709551616) (hy : y < 18446744073709551616) : aBin .or (.p (.int .u64 x)) (.p (.int .u64 y)) = some (.p (.int .u64 (x ||| y : Nat)), []) := by
  rw [aBin_or]
  have : (BitVec.ofInt IntKind.u64.bits (x : Int) ||| BitVec.ofInt IntKind.u64.bits (y : Int)).toNat = x ||| y := by
    rw [BitVec.toNat_or, ofInt_nat, ofInt_nat, show IntKind.u64.bits = 64 from rfl, Nat.mod_eq_of_lt (by omega), Nat.mod_eq_of_lt (by omega)]
  rw [this, wrapu64 (by omega)]
  have := Nat.or_lt_two_pow (n := 64) hx hy
  omega
theorem aBin_shl1 {k : Nat} (hk : k < 64) : aBin .shl (.p (.int .u64 1)) (.p (.int .u8 k)) = some (.p (.int .u64 (p2 k : Nat)), []) := by
  unfold p2
  rw [aBin_shl, if_neg (by omega)]
  have h2 : (2 : Int) ^ k < 18446744073709551616 := by
    have : 2 ^ k < 2 ^ 64 := Nat.pow_lt_pow_right (by omega) hk
    have h3 : ((2 ^ k : Nat) : Int) = 2 ^ k := by simp
    omega
  have h0 : (0 : Int) ≤ 2 ^ k := Int.pow_nonneg (by omega)
  rw [show min (k : Int).toNat IntKind.u64.bits = k by simp [IntKind.bits]; omega, wrapu64 (by omega) (by omega)]
  simp
theorem aBin_shr64 {k w : Nat} (hk : k < 64) : aBin .shr (.p (.int .u64 w)) (.p (.int .u8 k)) = some (.p (.int .u64 (shrN w k : Nat)), []) := by
  unfold shrN
  rw [aBin_shr, if_neg (by omega), show min (k : Int).toNat IntKind.u64.bits = k by simp [IntKind.bits]; omega]
  rw [Int.fdiv_eq_ediv_of_nonneg _ (Int.pow_nonneg (by omega))]
  simp
@[simp] theorem cast_and1 (w k : Nat) : decide (((lowb (shrN w k) : Nat) : Int) = 1) = w.testBit k := by
  unfold lowb shrN
  rw [Nat.testBit_eq_decide_div_mod_eq]
  rcases Nat.mod_two_eq_zero_or_one (w / 2 ^ k) with h | h <;> simp [h]

theorem aBin_quo64 {b : Nat} (hb : b < 256) : aBin .quo (.p (.int .u8 b)) (.p (.int .u8 64)) = some (.p (.int .u8 (wd b : Nat)), []) := by
  rw [aBin_quo, if_neg (by omega), tdiv64, wrapu8 (by omega) (by have := wd_lt hb; omega)]
theorem aBin_rem64 (b : Nat) : aBin .rem (.p (.int .u8 b)) (.p (.int .u8 64)) = some (.p (.int .u8 (bt b : Nat)), []) := by
  rw [aBin_rem, if_neg (by omega), tmod64]
theorem S4.enc_setC (s : S4) {i : Nat} (h : i < 4) (v : Nat) : (s.enc.map C.p).set i (.p (.int .u64 v)) = (s.setW i v).enc.map C.p := by
  rw [← S4.enc_set s h, List.map_set]
@[simp] theorem S4.take (s : S4) : (s.enc.map C.p).take 4 = s.enc.map C.p := rfl
@[simp] theorem Rx.takeC (r : Rx) : (r.enc.map C.p).take 9 = r.enc.map C.p := List.take_of_length_le (by simp)

def bytesOf (l : List Nat) : List UInt8 := l.map UInt8.ofNat
def ints (l : List Int) : List (List PV) := l.map fun n => [.i n]
@[simp] theorem ints_len (l : List Int) : (ints l).length = l.length := by simp [ints]
@[simp] theorem ints_get (l : List Int) (i : Nat) : (ints l)[i]? = (l[i]?).map fun n => [.i n] := by simp [ints]
@[simp] theorem ints_getE (l : List Int) (i : Nat) (h : i < (ints l).length) : (ints l)[i] = [.i (l[i]'(by simpa using h))] := by simp [ints]

/-- Induction over expressions and their kids. -/
theorem Rx.ind {P : Rx → Prop} (h : ∀ k a b n s l, (∀ x ∈ l, P x) → P (.mk k a b n s l)) : ∀ r, P r
  | .mk k a b n s l => h k a b n s l fun x _ => Rx.ind h x
theorem drop_get {α : Type} {l : List α} {i : Nat} {x : α} (h : l[i]? = some x) : l.drop i = x :: l.drop (i + 1) := by
  obtain ⟨h1, h2⟩ := List.getElem?_eq_some_iff.1 h
  rw [List.drop_eq_getElem_cons h1, h2]
theorem getE {α : Type} {l : List α} {i : Nat} {a : α} (h : l[i]? = some a) (h' : i < l.length) : l[i]'h' = a := by
  rw [List.getElem?_eq_getElem h'] at h; exact Option.some.inj h
theorem get_at {α : Type} {l : List α} {i : Nat} (h : i < l.length) : ∃ x, l[i] = x ∧ l[i]? = some x ∧ x ∈ l ∧ l.drop i = x :: l.drop (i + 1) :=
  ⟨l[i], rfl, by simp, by simp, List.drop_eq_getElem_cons h⟩
end Gv
