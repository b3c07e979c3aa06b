/- Texts and replacements of numbers. -/
import Derived.Test.YtnjnlkaagfihbaaAC1
set_option linter.all false
namespace Gv
open Go
set_option maxRecDepth 100000

def letters : List Nat := [97, 98, 97, 99, 98, 46, 97, 32]
def letter (n : Int) : Nat := letters.getD (within n 0 7).toNat 0
/-- What Text makes. -/
def text (l : List Int) (most : Nat) : List UInt8 := (l.take most).map fun n => UInt8.ofNat (letter n)

theorem letters_get (n : Int) : [C.p (PV.int .u8 97), C.p (PV.int .u8 98), C.p (PV.int .u8 97), C.p (PV.int .u8 99), C.p (PV.int .u8 98), C.p (PV.int .u8 46), C.p (PV.int .u8 97), C.p (PV.int .u8 32)][(within n 0 7).toNat]? = some (.p (.b8 (letter n))) := by
  have h1 := within_ge n 0 7 (by omega)
  have h2 := within_le n 0 7 (by omega)
  unfold letter
  obtain ⟨m, hm⟩ : ∃ m : Nat, within n 0 7 = m := ⟨(within n 0 7).toNat, by omega⟩
  rw [hm] at h2 ⊢
  have : m ≤ 7 := by omega
  match m, this with
  | 0, _ => rfl
  | 1, _ => rfl
  | 2, _ => rfl
  | 3, _ => rfl
  | 4, _ => rfl
  | 5, _ => rfl
  | 6, _ => rfl
  | 7, _ => rfl
theorem aBin_cat1 {x : List UInt8} (h : x.length < 100000) (b : UInt8) : aBin .add (.p (.str x)) (.p (.str [b])) = some (.p (.str (x ++ [b])), []) := aBin_cat _ _ (by simp; omega)
theorem text_loop {β : Type} (z : Nat) (l : List Int) (most : Nat) (hz : z = 1 ∨ l = []) (hm : most < 1000) : ∀ (d i : Nat) (acc : List UInt8), i + d = min l.length most → acc.length + d < 100000 →
   ∃ s' : St, (∀ k : Exit → St → Option β, @XL β F { tm := T.nd (AV.p (PV.list z (ints l))) (T.nd (AV.p (PV.i ↑most)) T.lf (T.nd (AV.p (PV.str acc)) T.lf T.lf)) (T.nd AV.u T.lf (T.nd (AV.p (PV.int IntKind.i64 i)) T.lf T.lf)), hp := [], nx := 0, ar := 0 } ⟨(m_glosskeep_Text_0, c_glosskeep_Text_0)⟩ ⟨k⟩ = k (.exit 0) s') ∧ s'.tm.get r5 = .p (.str (acc ++ ((l.drop i).take d).map fun n => UInt8.ofNat (letter n))) ∧ s'.hp = []
  | 0, i, acc, hi, ha => by
    by_cases h1 : i < l.length
    · have h2 : ¬ i < most := by omega
      refine ⟨?s, fun k => ?h, ?p⟩
      case h => rw [XL_eq]; simp (disch := omega) [c_glosskeep_Text_0, h1, h2]; rfl
      case p => simp
    · refine ⟨?s2, fun k => ?h2, ?p2⟩
      case h2 => rw [XL_eq]; simp (disch := omega) [c_glosskeep_Text_0, h1]; rfl
      case p2 => simp
  | d + 1, i, acc, hi, ha => by
    obtain ⟨x, hx, hx', hmm, hd⟩ := get_at (l := l) (i := i) (by omega)
    have hz' : z = 1 := by rcases hz with h | h; exact h; subst h; simp at hmm
    subst hz'
    have h1 : i < l.length := by omega
    have h2 : i < most := by omega
    have w1 := within_ge x 0 7 (by omega)
    have w2 := within_le x 0 7 (by omega)
    obtain ⟨s', ih, hp⟩ := text_loop (β := β) 1 l most hz hm d (i + 1) (acc ++ [UInt8.ofNat (letter x)]) (by omega) (by simp; omega)
    refine ⟨s', fun k => ?_, ?_⟩
    · rw [XL_eq]
      have ih := ih k
      simp at ih
      simp (disch := omega) [c_glosskeep_Text_0, h1, h2, hx, within_pc, letters_get, if_pos, if_neg, wrap64, aBin_cat1, ih]
    · rw [hp.1, hd]; simp [hp.2]
theorem text_pc (z : Nat) (l : List Int) (most : Nat) (hz : z = 1 ∨ l = []) (hm : most < 1000) : pcall F f_glosskeep_Text [.one (.list z (ints l)), .one (.i most)] = some [.one (.str (text l most))] := by
  rw [pcall_X (fn := ir_glosskeep_Text) rfl _ (by simp)]
  obtain ⟨s', ih, h1, h2⟩ := text_loop (β := List PVal) z l most hz hm (min l.length most) 0 [] (by omega) (by simp; omega)
  simp at ih h1
  simp (disch := omega) [b_glosskeep_Text, ih, h1]
  have e : l.take (min l.length most) = l.take most := by
    by_cases h : l.length ≤ most
    · rw [show min l.length most = l.length by omega, List.take_length, List.take_of_length_le h]
    · rw [show min l.length most = most by omega]
  simp only [text, ← List.map_take, Nat.min_comm most, e]

/-- Pieces of a replacement. -/
structure Pc where
  g : Int
  lit : List UInt8
  deriving DecidableEq
def Pc.enc (p : Pc) : List PV := [.i p.g, .str p.lit]
def encP (l : List Pc) : List (List PV) := l.map Pc.enc
@[simp] theorem encP_len (l : List Pc) : (encP l).length = l.length := by simp [encP]
@[simp] theorem encP_get (l : List Pc) (i : Nat) : (encP l)[i]? = (l[i]?).map Pc.enc := by simp [encP]
@[simp] theorem encP_getE (l : List Pc) (i : Nat) (h : i < (encP l).length) : (encP l)[i] = (l[i]'(by simpa using h)).enc := by simp [encP]

/-- Where a match stands: eight numbers. -/
def mt (m : List Int) : List PV := m.map PV.i
def slice {α : Type} (s : List α) (a b : Nat) : List α := (s.drop a).take (b - a)
/-- What a group is. -/
def group (m : List Int) (s : List UInt8) (n : Int) : List UInt8 :=
  if 0 ≤ n ∧ n < 4 then
    let a := m.getD (2 * n.toNat) 0; let b := m.getD (2 * n.toNat + 1) 0
    if 0 ≤ a ∧ a ≤ b ∧ b ≤ s.length then slice s a.toNat b.toNat else []
  else []
theorem group_pc (m : List Int) (hm : m.length = 8) (s : List UInt8) (n : Int) : pcall F f_find_Group [.agg (mt m), .one (.str s), .one (.i n)] = some [.one (.str (group m s n))] := by
  rw [pcall_X (fn := ir_find_Group) rfl _ (by simp)]
  by_cases h1 : n < 0
  · have : group m s n = [] := by unfold group; rw [if_neg (by omega)]
    simp -implicitDefEqProofs (disch := omega) [b_find_Group, h1, this]
  · by_cases h2 : n ≥ 4
    · have : group m s n = [] := by unfold group; rw [if_neg (by omega)]
      simp -implicitDefEqProofs (disch := omega) [b_find_Group, h1, h2, this]
    · obtain ⟨i, rfl⟩ : ∃ i : Nat, n = i := ⟨n.toNat, by omega⟩
      have hl : (mt m).length = 8 := by simp [mt, hm]
      obtain ⟨a, ha⟩ : ∃ a, m[2 * i]? = some a := ⟨_, List.getElem?_eq_getElem (by omega)⟩
      obtain ⟨b, hb⟩ : ∃ b, m[2 * i + 1]? = some b := ⟨_, List.getElem?_eq_getElem (by omega)⟩
      have g0 : ((mt m).map C.p)[i * 2]? = some (.p (.i a)) := by
        rw [Nat.mul_comm, List.getElem?_map, mt, List.getElem?_map, ha]; rfl
      have g1 : ((mt m).map C.p)[i * 2 + 1]? = some (.p (.i b)) := by
        rw [Nat.mul_comm, List.getElem?_map, mt, List.getElem?_map, hb]; rfl
      have e : group m s i = if 0 ≤ a ∧ a ≤ b ∧ b ≤ s.length then slice s a.toNat b.toNat else [] := by
        unfold group; rw [if_pos (by omega)]
        simp only [List.getD_eq_getElem?_getD, Int.toNat_natCast, ha, hb, Option.getD_some]
      by_cases c1 : a < 0
      · rw [e, if_neg (by omega)]
        simp -implicitDefEqProofs (disch := omega) [b_find_Group, h1, h2, if_pos, if_neg, decide_eq_true, decide_eq_false, hl, g0, g1, c1]
      · by_cases c2 : a > b
        · rw [e, if_neg (by omega)]
          simp -implicitDefEqProofs (disch := omega) [b_find_Group, h1, h2, if_pos, if_neg, decide_eq_true, decide_eq_false, hl, g0, g1, c1, c2]
        · by_cases c3 : b > s.length
          · rw [e, if_neg (by omega)]
            simp -implicitDefEqProofs (disch := omega) [b_find_Group, h1, h2, if_pos, if_neg, decide_eq_true, decide_eq_false, hl, g0, g1, c1, c2, c3]
          · rw [e, if_pos (by omega)]
            simp -implicitDefEqProofs (disch := omega) [b_find_Group, h1, h2, if_pos, if_neg, decide_eq_true, decide_eq_false, hl, g0, g1, c1, c2, c3]
            rw [slice, show (b - a).toNat = b.toNat - a.toNat by omega]
end Gv
