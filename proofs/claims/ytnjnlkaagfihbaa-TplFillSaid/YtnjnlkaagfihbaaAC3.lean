/- strings.Builder. -/
import Derived.Test.YtnjnlkaagfihbaaAC2
set_option linter.all false
namespace Gv
open Go
set_option maxRecDepth 100000

@[simp] theorem strCells_len (s : List UInt8) : (strCells s).length = s.length := by simp [strCells]
@[simp] theorem strCells_app (s x : List UInt8) : strCells s ++ strCells x = strCells (s ++ x) := by simp [strCells]
@[simp] theorem strCells_take (s : List UInt8) : (strCells s).take s.length = strCells s := List.take_of_length_le (by simp)
@[simp] theorem strCells_takec (c : UInt8) (s : List UInt8) : (strCells (c :: s)).take (s.length + 1) = strCells (c :: s) := List.take_of_length_le (by simp)
@[simp] theorem strCells_refs (s : List UInt8) : (strCells s).flatMap C.refs = [] := by simp [strCells]
@[simp] theorem strCells_ren (ρ : Nat → Option Nat) (s : List UInt8) : (strCells s).map (C.ren ρ) = strCells s := by simp [strCells]
@[simp] theorem strCells_bytes (s : List UInt8) : rowBytes (strCells s) = some s := by
  induction s with
  | nil => rfl
  | cons c s ih =>
    have : strCells (c :: s) = C.p (.int .u8 c.toNat) :: strCells s := rfl
    rw [this, rowBytes_cons, ih]; simp

abbrev bT : Tag := ⟨false, t_strings_Builder⟩
abbrev uT : Tag := ⟨false, t_uint8⟩
theorem copy0 : icall F f_strings_Builder_copyCheck [.r (.ptr 0 0)] [(0, .cells bT 0 [.p .nilp, .nils])] 1 = some ([], [(0, .cells bT 0 [.ptr 0 0, .nils])], 0) := by
  rw [icall_X (fn := ir_strings_Builder_copyCheck) rfl _ _ _ (by simp)]
  simp -implicitDefEqProofs [b_strings_Builder_copyCheck]
theorem copy1 : icall F f_strings_Builder_copyCheck [.r (.ptr 0 0)] [(0, .cells bT 0 [.ptr 0 0, .nils])] 1 = some ([], [(0, .cells bT 0 [.ptr 0 0, .nils])], 0) := by
  rw [icall_X (fn := ir_strings_Builder_copyCheck) rfl _ _ _ (by simp)]
  simp -implicitDefEqProofs [b_strings_Builder_copyCheck]
theorem copy2 (n : Nat) (s : List UInt8) : icall F f_strings_Builder_copyCheck [.r (.ptr 0 0)] [(0, .cells bT 0 [.ptr 0 0, .slc 1 0 n 1]), (1, .cells uT 0 (strCells s))] 2 = some ([], [(0, .cells bT 0 [.ptr 0 0, .slc 1 0 n 1]), (1, .cells uT 0 (strCells s))], 0) := by
  rw [icall_X (fn := ir_strings_Builder_copyCheck) rfl _ _ _ (by simp)]
  simp -implicitDefEqProofs [b_strings_Builder_copyCheck]

/-- What is written into a builder: not yet anything, or a text. -/
def bdH : Option (List UInt8) → Hp
  | none => [(0, .cells bT 0 [.p .nilp, .nils])]
  | some [] => [(0, .cells bT 0 [.ptr 0 0, .nils])]
  | some (b :: s) => [(0, .cells bT 0 [.ptr 0 0, .slc 1 0 (s.length + 1) 1]), (1, .cells uT 0 (strCells (b :: s)))]
def bdT : Option (List UInt8) → List UInt8 | none => [] | some s => s

theorem wstr_ne (o : Option (List UInt8)) (b : UInt8) (x : List UInt8) (hl : (bdT o).length + x.length < 1000000) :
    icall F f_strings_Builder_WriteString [.r (.ptr 0 0), .p (.str (b :: x))] (bdH o) (if bdT o = [] then 1 else 2) = some ([.p (.i (x.length + 1)), .p .nili],
      (if bdT o = [] then [(0, .cells bT 0 [.ptr 0 0, .slc 1 0 (x.length + 1) 1]), (1, .cells uT 0 (strCells (b :: x)))] else [(0, .cells bT 0 [.ptr 0 0, .slc 2 0 ((bdT o).length + (x.length + 1)) 1]), (2, .cells uT 0 (strCells (bdT o ++ b :: x)))]), 1) := by
  rw [icall_X (fn := ir_strings_Builder_WriteString) rfl _ _ _ (by simp)]
  match o with
  | none => simp -implicitDefEqProofs (disch := omega) [b_strings_Builder_WriteString, bdH, bdT, copy0, if_pos, maxLen] at hl ⊢
  | some [] => simp -implicitDefEqProofs (disch := omega) [b_strings_Builder_WriteString, bdH, bdT, copy1, if_pos, maxLen] at hl ⊢
  | some (c :: s) =>
    simp only [bdT, List.length_cons] at hl
    simp -implicitDefEqProofs (disch := omega) [b_strings_Builder_WriteString, bdH, bdT, copy2, if_pos, maxLen]
theorem wstr_e (o : Option (List UInt8)) :
    icall F f_strings_Builder_WriteString [.r (.ptr 0 0), .p (.str [])] (bdH o) (if bdT o = [] then 1 else 2) = some ([.p (.i 0), .p .nili], bdH (some (bdT o)), 0) := by
  rw [icall_X (fn := ir_strings_Builder_WriteString) rfl _ _ _ (by simp)]
  match o with
  | none => simp -implicitDefEqProofs (disch := omega) [b_strings_Builder_WriteString, bdH, bdT, copy0]
  | some [] => simp -implicitDefEqProofs (disch := omega) [b_strings_Builder_WriteString, bdH, bdT, copy1]
  | some (c :: s) =>
    simp -implicitDefEqProofs [b_strings_Builder_WriteString, bdH, bdT, copy2]
/-- The builder's heap, its text handed out. -/
def bdZ : Option (List UInt8) → Hp
  | some (b :: s) => [(0, .cells bT 0 [.ptr 0 0, .slc 1 0 (s.length + 1) 1]), (1, .cells uT (s.length + 1) (strCells (b :: s)))]
  | o => bdH o
theorem bstr (o : Option (List UInt8)) (hl : (bdT o).length < 1000000) :
    icall F f_strings_Builder_String [.r (.ptr 0 0)] (bdH o) (if bdT o = [] then 1 else 2) = some ([.p (.str (bdT o))], bdZ o, 0) := by
  rw [icall_X (fn := ir_strings_Builder_String) rfl _ _ _ (by simp)]
  match o with
  | none => simp -implicitDefEqProofs (disch := omega) [b_strings_Builder_String, bdZ, bdH, bdT]
  | some [] => simp -implicitDefEqProofs (disch := omega) [b_strings_Builder_String, bdZ, bdH, bdT]
  | some (c :: s) =>
    simp only [bdT, List.length_cons] at hl
    simp -implicitDefEqProofs (disch := omega) [b_strings_Builder_String, bdZ, bdH, bdT, if_pos, maxLen]

section
variable (b c : UInt8) (x s : List UInt8)
theorem w0e : icall F f_strings_Builder_WriteString [.r (.ptr 0 0), .p (.str [])] [(0, .cells bT 0 [.p .nilp, .nils])] 1 = some ([.p (.i 0), .p .nili], [(0, .cells bT 0 [.ptr 0 0, .nils])], 0) := wstr_e none
theorem w1e : icall F f_strings_Builder_WriteString [.r (.ptr 0 0), .p (.str [])] [(0, .cells bT 0 [.ptr 0 0, .nils])] 1 = some ([.p (.i 0), .p .nili], [(0, .cells bT 0 [.ptr 0 0, .nils])], 0) := wstr_e (some [])
theorem w2e : icall F f_strings_Builder_WriteString [.r (.ptr 0 0), .p (.str [])] [(0, .cells bT 0 [.ptr 0 0, .slc 1 0 (s.length + 1) 1]), (1, .cells uT 0 (strCells (c :: s)))] 2 = some ([.p (.i 0), .p .nili], [(0, .cells bT 0 [.ptr 0 0, .slc 1 0 (s.length + 1) 1]), (1, .cells uT 0 (strCells (c :: s)))], 0) := wstr_e (some (c :: s))
theorem w0n (h : x.length < 1000000) : icall F f_strings_Builder_WriteString [.r (.ptr 0 0), .p (.str (b :: x))] [(0, .cells bT 0 [.p .nilp, .nils])] 1 = some ([.p (.i (x.length + 1)), .p .nili], [(0, .cells bT 0 [.ptr 0 0, .slc 1 0 (x.length + 1) 1]), (1, .cells uT 0 (strCells (b :: x)))], 1) := wstr_ne none b x (by simp [bdT]; omega)
theorem w1n (h : x.length < 1000000) : icall F f_strings_Builder_WriteString [.r (.ptr 0 0), .p (.str (b :: x))] [(0, .cells bT 0 [.ptr 0 0, .nils])] 1 = some ([.p (.i (x.length + 1)), .p .nili], [(0, .cells bT 0 [.ptr 0 0, .slc 1 0 (x.length + 1) 1]), (1, .cells uT 0 (strCells (b :: x)))], 1) := wstr_ne (some []) b x (by simp [bdT]; omega)
theorem w2n (h : s.length + x.length + 1 < 1000000) : icall F f_strings_Builder_WriteString [.r (.ptr 0 0), .p (.str (b :: x))] [(0, .cells bT 0 [.ptr 0 0, .slc 1 0 (s.length + 1) 1]), (1, .cells uT 0 (strCells (c :: s)))] 2 = some ([.p (.i (x.length + 1)), .p .nili], [(0, .cells bT 0 [.ptr 0 0, .slc 2 0 (s.length + (x.length + 1) + 1) 1]), (2, .cells uT 0 (strCells (c :: (s ++ b :: x))))], 1) := by
  have := wstr_ne (some (c :: s)) b x (by simp [bdT]; omega)
  simp only [bdT, bdH, List.length_cons, reduceCtorEq, if_false, List.cons_append] at this
  rw [this, show s.length + 1 + (x.length + 1) = s.length + (x.length + 1) + 1 by omega]
theorem b0s : icall F f_strings_Builder_String [.r (.ptr 0 0)] [(0, .cells bT 0 [.p .nilp, .nils])] 1 = some ([.p (.str [])], [(0, .cells bT 0 [.p .nilp, .nils])], 0) := bstr none (by decide)
theorem b1s : icall F f_strings_Builder_String [.r (.ptr 0 0)] [(0, .cells bT 0 [.ptr 0 0, .nils])] 1 = some ([.p (.str [])], [(0, .cells bT 0 [.ptr 0 0, .nils])], 0) := bstr (some []) (by decide)
theorem b2s (h : s.length < 100000) : icall F f_strings_Builder_String [.r (.ptr 0 0)] [(0, .cells bT 0 [.ptr 0 0, .slc 1 0 (s.length + 1) 1]), (1, .cells uT 0 (strCells (c :: s)))] 2 = some ([.p (.str (c :: s))], [(0, .cells bT 0 [.ptr 0 0, .slc 1 0 (s.length + 1) 1]), (1, .cells uT (s.length + 1) (strCells (c :: s)))], 0) := bstr (some (c :: s)) (by simp [bdT]; omega)
end
end Gv
