/- Replacements that may be. -/
import Derived.Test.YtnjnlkaagfihbaaAC4
set_option linter.all false
namespace Gv
open Go
set_option maxRecDepth 100000
def okPc (g : Int) (prev : Bool) (p : Pc) : Bool :=
  if p.g = -1 then !(decide (p.lit = []) || decide (p.lit.length > 400) || prev) else decide (0 ≤ p.g) && decide (p.g ≤ g) && decide (p.lit = [])
def rightFrom (g : Int) : Bool → List Pc → Bool
  | _, [] => true
  | prev, p :: l => okPc g prev p && rightFrom g (decide (p.g = -1)) l
def prevAt (l : List Pc) (i : Nat) : Bool := match i with | 0 => false | i + 1 => match l[i]? with | some p => decide (p.g = -1) | none => false
def rightSt (z : Nat) (l : List Pc) (g : Int) (i : Nat) : St := { tm := T.nd (AV.p (PV.list z (encP l))) (T.nd (AV.p (PV.i g)) (T.nd AV.u (T.nd (AV.p (PV.list z (encP l))) T.lf T.lf) T.lf) (T.nd AV.u (T.nd (AV.p (PV.int IntKind.i64 i)) T.lf T.lf) T.lf)) (T.nd AV.u (T.nd AV.u (T.nd (AV.p (PV.int IntKind.i64 ↑l.length)) T.lf T.lf) T.lf) T.lf), hp := [], nx := 0, ar := 0 }
def IsRet (s' : St) : Prop := s'.tm.get r4 = .p (.bool false)
theorem tright_step {β : Type} (z : Nat) (l : List Pc) (g : Int) (hz : z = 2 ∨ l = []) (hl : l.length < 1000000) (i : Nat) (hi : i < l.length) :
   (okPc g (prevAt l i) l[i] = true → ∀ k : Exit → St → Option β, @XL β F (rightSt z l g i) ⟨(m_tpl_Right_0, c_tpl_Right_0)⟩ ⟨k⟩ = @XL β F (rightSt z l g (i + 1)) ⟨(m_tpl_Right_0, c_tpl_Right_0)⟩ ⟨k⟩) ∧
   (okPc g (prevAt l i) l[i] = false → ∃ s', IsRet s' ∧ ∀ k : Exit → St → Option β, @XL β F (rightSt z l g i) ⟨(m_tpl_Right_0, c_tpl_Right_0)⟩ ⟨k⟩ = k .ret s') := by
  obtain ⟨x, ex, hx', hmm, hd⟩ := get_at hi
  have hz' : z = 2 := by rcases hz with h | h; exact h; subst h; simp at hmm
  subst hz'
  rw [ex]
  have hp : 0 < i → ∃ y, l[i - 1]? = some y ∧ l[i-1] = y ∧ (prevAt l i = decide (y.g = -1)) := by
    intro h
    obtain ⟨j, rfl⟩ : ∃ j, i = j + 1 := ⟨i - 1, by omega⟩
    refine ⟨l[j], by simp, by simp, ?_⟩
    simp [prevAt, show j < l.length by omega]
  have e1 : 0 < i → ((i : Int) - 1).toNat = i - 1 := by omega
  constructor
  · intro ho k
    unfold okPc at ho
    by_cases h1 : x.g = -1
    · rw [if_pos h1] at ho
      simp at ho
      obtain ⟨⟨h2, h3⟩, h4⟩ := ho
      rw [XL_eq]
      by_cases h5 : 0 < i
      · obtain ⟨y, hy, hy', hy2⟩ := hp h5
        rw [h4] at hy2
        have hy3 : ¬ y.g = -1 := by simpa using hy2.symm
        simp -implicitDefEqProofs (disch := omega) [rightSt, c_tpl_Right_0, hi, ex, h1, h2, h3, h5, e1 h5, hy', hy3, if_pos, if_neg, wrap64, decide_eq_true, decide_eq_false]
      · simp -implicitDefEqProofs (disch := omega) [rightSt, c_tpl_Right_0, hi, ex, h1, h2, h3, h5, if_pos, if_neg, wrap64, decide_eq_true, decide_eq_false]
    · rw [if_neg h1] at ho
      simp at ho
      obtain ⟨⟨h2, h3⟩, h4⟩ := ho
      rw [XL_eq]
      simp -implicitDefEqProofs (disch := omega) [rightSt, c_tpl_Right_0, hi, ex, h1, h4, if_pos, if_neg, wrap64, decide_eq_true, decide_eq_false]
  · intro ho
    unfold okPc at ho
    by_cases h1 : x.g = -1
    · rw [if_pos h1] at ho
      by_cases h2 : x.lit = []
      · refine ⟨?s1, ?p1, fun k => ?h1⟩
        case h1 => rw [XL_eq]; simp -implicitDefEqProofs (disch := omega) [rightSt, c_tpl_Right_0, hi, ex, h1, h2, if_pos, if_neg, wrap64, decide_eq_true, decide_eq_false]; rfl
        case p1 => simp [IsRet]
      · by_cases h3 : 400 < x.lit.length
        · refine ⟨?s2, ?p2, fun k => ?h2⟩
          case h2 => rw [XL_eq]; simp -implicitDefEqProofs (disch := omega) [rightSt, c_tpl_Right_0, hi, ex, h1, h2, h3, if_pos, if_neg, wrap64, decide_eq_true, decide_eq_false]; rfl
          case p2 => simp [IsRet]
        · have h4 : prevAt l i = true := by simpa [h2, h3] using ho
          have h5 : 0 < i := by
            cases i with
            | zero => simp [prevAt] at h4
            | succ i => omega
          obtain ⟨y, hy, hy', hy2⟩ := hp h5
          have hy3 : y.g = -1 := by simpa [h4] using hy2.symm
          refine ⟨?s3, ?p3, fun k => ?h3⟩
          case h3 => rw [XL_eq]; simp -implicitDefEqProofs (disch := omega) [rightSt, c_tpl_Right_0, hi, ex, h1, h2, h3, h5, e1 h5, hy', hy3, if_pos, if_neg, wrap64, decide_eq_true, decide_eq_false]; rfl
          case p3 => simp [IsRet]
    · rw [if_neg h1] at ho
      by_cases h2 : x.g < 0
      · refine ⟨?s4, ?p4, fun k => ?h4⟩
        case h4 => rw [XL_eq]; simp -implicitDefEqProofs (disch := omega) [rightSt, c_tpl_Right_0, hi, ex, h1, h2, if_pos, if_neg, wrap64, decide_eq_true, decide_eq_false]; rfl
        case p4 => simp [IsRet]
      · by_cases h3 : g < x.g
        · refine ⟨?s5, ?p5, fun k => ?h5⟩
          case h5 => rw [XL_eq]; simp -implicitDefEqProofs (disch := omega) [rightSt, c_tpl_Right_0, hi, ex, h1, h2, h3, if_pos, if_neg, wrap64, decide_eq_true, decide_eq_false]; rfl
          case p5 => simp [IsRet]
        · have h4 : ¬ x.lit = [] := by
            intro h; simp [h, show 0 ≤ x.g by omega, show x.g ≤ g by omega] at ho
          refine ⟨?s6, ?p6, fun k => ?h6⟩
          case h6 => rw [XL_eq]; simp -implicitDefEqProofs (disch := omega) [rightSt, c_tpl_Right_0, hi, ex, h1, h2, h3, h4, if_pos, if_neg, wrap64, decide_eq_true, decide_eq_false]; rfl
          case p6 => simp [IsRet]
theorem tright_loop {β : Type} (z : Nat) (l : List Pc) (g : Int) (hz : z = 2 ∨ l = []) (hl : l.length < 1000000) : ∀ (d i : Nat), i + d = l.length →
   (rightFrom g (prevAt l i) (l.drop i) = true → ∃ s', ∀ k : Exit → St → Option β, @XL β F (rightSt z l g i) ⟨(m_tpl_Right_0, c_tpl_Right_0)⟩ ⟨k⟩ = k (.exit 0) s') ∧
   (rightFrom g (prevAt l i) (l.drop i) = false → ∃ s', IsRet s' ∧ ∀ k : Exit → St → Option β, @XL β F (rightSt z l g i) ⟨(m_tpl_Right_0, c_tpl_Right_0)⟩ ⟨k⟩ = k .ret s')
  | 0, i, hi => by
    have : i = l.length := by omega
    subst this
    constructor
    · intro _
      refine ⟨?s, fun k => ?h⟩
      case h => rw [XL_eq]; simp -implicitDefEqProofs (disch := omega) [rightSt, c_tpl_Right_0]; rfl
    · simp [rightFrom]
  | d + 1, i, hi => by
    have hi' : i < l.length := by omega
    obtain ⟨x, ex, hx', hmm, hd⟩ := get_at hi'
    obtain ⟨ha, hb⟩ := tright_step (β := β) z l g hz hl i hi'
    obtain ⟨ia, ib⟩ := tright_loop (β := β) z l g hz hl d (i + 1) (by omega)
    have e : prevAt l (i + 1) = decide (x.g = -1) := by simp [prevAt, hx', hi', ex]
    rw [ex] at ha hb
    rw [e] at ia ib
    rw [hd, rightFrom]
    constructor
    · intro h
      simp only [Bool.and_eq_true] at h
      obtain ⟨s', hs⟩ := ia h.2
      exact ⟨s', fun k => by rw [ha h.1 k, hs]⟩
    · intro h
      by_cases h1 : okPc g (prevAt l i) x = true
      · rw [h1, Bool.true_and] at h
        obtain ⟨s', hr, hs⟩ := ib h
        exact ⟨s', hr, fun k => by rw [ha h1 k, hs]⟩
      · exact hb (by simpa using h1)
theorem tright_pc (z : Nat) (l : List Pc) (g : Int) (hz : z = 2 ∨ l = []) (hl : l.length < 1000000) : pcall F f_tpl_Right [.one (.list z (encP l)), .one (.i g)] = some [.one (.bool (rightFrom g false l))] := by
  rw [pcall_X (fn := ir_tpl_Right) rfl _ (by simp)]
  obtain ⟨ia, ib⟩ := tright_loop (β := List PVal) z l g hz hl l.length 0 (by omega)
  simp only [prevAt, List.drop_zero] at ia ib
  cases h : rightFrom g false l with
  | true =>
    obtain ⟨s', hs⟩ := ia h
    simp [rightSt] at hs
    simp -implicitDefEqProofs (disch := omega) [b_tpl_Right, hs]
  | false =>
    obtain ⟨s', hr, hs⟩ := ib h
    simp [rightSt] at hs
    simp [IsRet] at hr
    simp -implicitDefEqProofs (disch := omega) [b_tpl_Right, hs, hr]
end Gv
