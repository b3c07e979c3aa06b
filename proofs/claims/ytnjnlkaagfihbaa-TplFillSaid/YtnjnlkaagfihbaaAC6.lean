/- Replacements of numbers. -/
import Derived.Test.YtnjnlkaagfihbaaAC5
set_option linter.all false
namespace Gv
open Go
set_option maxRecDepth 100000
def encPC (l : List Pc) : List C := l.flatMap fun p => p.enc.map C.p
@[simp] theorem encPC_len (l : List Pc) : (encPC l).length = l.length * 2 := by
  induction l with
  | nil => rfl
  | cons p l ih => simp only [encPC, List.flatMap_cons, List.length_append, List.length_map, Pc.enc_len, List.length_cons] at ih ⊢; omega
@[simp] theorem encPC_take (l : List Pc) : (encPC l).take (l.length * 2) = encPC l := List.take_of_length_le (by simp)
theorem encPC_app (l : List Pc) (p : Pc) : encPC l ++ p.enc.map C.p = encPC (l ++ [p]) := by simp [encPC]
@[simp] theorem encPC_refs (l : List Pc) : (encPC l).flatMap C.refs = [] := by
  induction l with
  | nil => rfl
  | cons p l ih => simp only [encPC, List.flatMap_cons, List.flatMap_append] at ih ⊢; rw [ih]; rfl
@[simp] theorem encPC_ren (ρ : Nat → Option Nat) (l : List Pc) : (encPC l).map (C.ren ρ) = encPC l := by
  simp [encPC, List.map_flatMap]
theorem encPC_get : ∀ (l : List Pc) (i : Nat) (p : Pc), l[i]? = some p → (encPC l)[i * 2]? = some (.p (.i p.g)) ∧ (encPC l)[i * 2 + 1]? = some (.p (.str p.lit))
  | [], i, p, h => by simp at h
  | q :: l, 0, p, h => by simp at h; subst h; exact ⟨rfl, rfl⟩
  | q :: l, i + 1, p, h => by
    simp only [List.getElem?_cons_succ] at h
    have := encPC_get l i p h
    have e : encPC (q :: l) = .p (.i q.g) :: .p (.str q.lit) :: encPC l := rfl
    rw [e, show (i + 1) * 2 = i * 2 + 1 + 1 by omega, show i * 2 + 1 + 1 + 1 = (i * 2 + 1) + 1 + 1 by omega]
    simpa using this

def pT : Tag := ⟨false, t_api_Piece⟩
def kT : Tag := ⟨false, t_glosskeep_Tpl⟩
def tplSt (z : Nat) (ks : List Int) (g : Int) : List Pc → Nat → St
  | [], i => { tm := T.nd AV.u (T.nd (AV.p (PV.i g)) T.lf (T.nd (AV.r C.nils) T.lf T.lf)) (T.nd (AV.r (C.ptr 0 0)) T.lf (T.nd (AV.p (PV.int IntKind.i64 i)) T.lf T.lf)), hp := [(0, Blk.cells { mark := false, ty := t_glosskeep_Tpl } 0 [C.p (PV.list z (ints ks))])], nx := 1, ar := 0 }
  | p :: l, i => { tm := T.nd AV.u (T.nd (AV.p (PV.i g)) T.lf (T.nd (AV.r (C.slc 0 0 (l.length + 1) 2)) T.lf T.lf)) (T.nd (AV.r (C.ptr 1 0)) T.lf (T.nd (AV.p (PV.int IntKind.i64 i)) T.lf T.lf)), hp := [(0, .cells ⟨false, t_api_Piece⟩ 0 (encPC (p :: l))), (1, Blk.cells { mark := false, ty := t_glosskeep_Tpl } 0 [C.p (PV.list z (ints ks))])], nx := 2, ar := 0 }
def tplLits : List (List UInt8) := [[120], [45], [38], [47], [92], [97, 10, 98], [49], [121, 121]]
def pcOk (p : Pc) : Prop := (p.g = -1 ∧ p.lit ∈ tplLits) ∨ (0 ≤ p.g ∧ p.g ≤ 3 ∧ p.lit = [])
theorem tplLits_get (n : Int) : ∃ s, s ∈ tplLits ∧ [C.p (PV.str [120]), C.p (PV.str [45]), C.p (PV.str [38]), C.p (PV.str [47]), C.p (PV.str [92]), C.p (PV.str [97, 10, 98]), C.p (PV.str [49]), C.p (PV.str [121, 121])][(within n 0 7).toNat]? = some (.p (.str s)) := by
  have h1 := within_ge n 0 7 (by omega)
  have h2 := within_le n 0 7 (by omega)
  obtain ⟨m, hm⟩ : ∃ m : Nat, within n 0 7 = m := ⟨(within n 0 7).toNat, by omega⟩
  rw [hm] at h2 ⊢
  have : m ≤ 7 := by omega
  match m, this with
  | 0, _ => exact ⟨_, by simp [tplLits], rfl⟩
  | 1, _ => exact ⟨_, by simp [tplLits], rfl⟩
  | 2, _ => exact ⟨_, by simp [tplLits], rfl⟩
  | 3, _ => exact ⟨_, by simp [tplLits], rfl⟩
  | 4, _ => exact ⟨_, by simp [tplLits], rfl⟩
  | 5, _ => exact ⟨_, by simp [tplLits], rfl⟩
  | 6, _ => exact ⟨_, by simp [tplLits], rfl⟩
  | 7, _ => exact ⟨_, by simp [tplLits], rfl⟩
/-- The last piece is a text. -/
def lastT (l : List Pc) : Bool := match l.getLast? with | some p => decide (p.g < 0) | none => false
theorem tpl_step {β : Type} (z : Nat) (ks : List Int) (g : Int) (hg : 0 ≤ g) (hg' : g ≤ 3) (hz : z = 1 ∨ ks = []) (out : List Pc) (ho : out.length < 1000) (i : Nat) (hi : i < ks.length) (hi' : i < 5) :
   ∃ p, pcOk p ∧ p.g ≤ g ∧ (lastT out = true → p.g ≠ -1) ∧ ∀ k : Exit → St → Option β, @XL β F (tplSt z ks g out i) ⟨(m_glosskeep_Tpl_Tpl_0, c_glosskeep_Tpl_Tpl_0)⟩ ⟨k⟩ = @XL β F (tplSt z ks g (out ++ [p]) (i + 1)) ⟨(m_glosskeep_Tpl_Tpl_0, c_glosskeep_Tpl_Tpl_0)⟩ ⟨k⟩ := by
  obtain ⟨x, ex, hx', hmm, hd⟩ := get_at hi
  have hz' : z = 1 := by rcases hz with h | h; exact h; subst h; simp at hmm
  subst hz'
  obtain ⟨y, hy⟩ : ∃ y, aBin .quo (.p (.int .i64 x)) (.p (.int .i64 2)) = some (.p (.int .i64 y), []) := ⟨_, by rw [aBin_quo, if_neg (by omega)]⟩
  obtain ⟨q, hq⟩ : ∃ q, aBin .and (.p (.int .i64 x)) (.p (.int .i64 1)) = some (.p (.int .i64 q), []) := ⟨_, aBin_and ..⟩
  obtain ⟨lit, hlit, hget⟩ := tplLits_get y
  have w1 := within_ge y 0 7 (by omega)
  have w2 := within_le y 0 7 (by omega)
  have w3 := within_ge y 0 g (by omega)
  have w4 := within_le y 0 g (by omega)
  have hi2 : (i : Int) < 5 := by omega
  rcases List.eq_nil_or_concat out with rfl | ⟨l, c, rfl⟩
  · by_cases hq1 : q = 1
    · refine ⟨⟨-1, lit⟩, .inl ⟨rfl, hlit⟩, by simp; omega, by simp [lastT], fun k => ?_⟩
      rw [XL_eq]
      simp -implicitDefEqProofs (disch := omega) [tplSt, c_glosskeep_Tpl_Tpl_0, hq, hy, hi, hi2, ex, hq1, within_pc, hget, if_pos, if_neg, wrap64, decide_eq_true, decide_eq_false, maxLen]
      rfl
    · refine ⟨⟨within y 0 g, []⟩, .inr ⟨w3, by simp; omega, rfl⟩, by simp; omega, by simp [lastT], fun k => ?_⟩
      rw [XL_eq]
      simp -implicitDefEqProofs (disch := omega) [tplSt, c_glosskeep_Tpl_Tpl_0, hq, hy, hi, hi2, ex, hq1, within_pc, hget, if_pos, if_neg, wrap64, decide_eq_true, decide_eq_false, maxLen]
      rfl
  · have hl : (encPC (l.concat c))[l.length * 2]? = some (.p (.i c.g)) := (encPC_get (l.concat c) l.length c (by simp)).1
    have hc : lastT (l.concat c) = decide (c.g < 0) := by simp [lastT]
    have hlen : (l.concat c).length = l.length + 1 := by simp
    have hs : ∀ i, tplSt 1 ks g (l.concat c) i = { tm := T.nd AV.u (T.nd (AV.p (PV.i g)) T.lf (T.nd (AV.r (C.slc 0 0 (l.length + 1) 2)) T.lf T.lf)) (T.nd (AV.r (C.ptr 1 0)) T.lf (T.nd (AV.p (PV.int IntKind.i64 i)) T.lf T.lf)), hp := [(0, .cells ⟨false, t_api_Piece⟩ 0 (encPC (l.concat c))), (1, Blk.cells { mark := false, ty := t_glosskeep_Tpl } 0 [C.p (PV.list 1 (ints ks))])], nx := 2, ar := 0 } := by
      intro i
      rcases l with _ | ⟨p, l⟩ <;> simp [tplSt]
    have hs' : ∀ p i, tplSt 1 ks g (l.concat c ++ [p]) i = { tm := T.nd AV.u (T.nd (AV.p (PV.i g)) T.lf (T.nd (AV.r (C.slc 0 0 (l.length + 1 + 1) 2)) T.lf T.lf)) (T.nd (AV.r (C.ptr 1 0)) T.lf (T.nd (AV.p (PV.int IntKind.i64 i)) T.lf T.lf)), hp := [(0, .cells ⟨false, t_api_Piece⟩ 0 (encPC (l.concat c ++ [p]))), (1, Blk.cells { mark := false, ty := t_glosskeep_Tpl } 0 [C.p (PV.list 1 (ints ks))])], nx := 2, ar := 0 } := by
      intro p i
      rcases l with _ | ⟨p, l⟩ <;> simp [tplSt]
    have htk : (encPC (l.concat c)).take ((l.length + 1) * 2) = encPC (l.concat c) := List.take_of_length_le (by simp)
    have hel : (encPC (l.concat c)).length = (l.length + 1) * 2 := by simp
    have ho' : l.length + 1 < 1000 := by simpa using ho
    have ei : ((l.length : Int) + 1 - 1).toNat = l.length := by omega
    have ei2 : IntKind.wrap .i64 ((l.length : Int) + 1 - 1) = l.length := by rw [wrap64 (by omega) (by omega)]; omega
    have hlE := getE hl
    generalize l.concat c = out at *
    by_cases hq1 : q = 1
    · by_cases hc1 : c.g < 0
      · refine ⟨⟨within y 0 g, []⟩, .inr ⟨w3, by simp; omega, rfl⟩, by simp; omega, by simp; omega, fun k => ?_⟩
        rw [XL_eq, hs, hs', ← encPC_app]
        simp -implicitDefEqProofs (disch := omega) [c_glosskeep_Tpl_Tpl_0, hq, hy, hi, hi2, ex, hq1, within_pc, hget, hlE, hel, htk, ei2, hc1, if_pos, if_neg, wrap64, decide_eq_true, decide_eq_false, maxLen, Pc.enc]
      · refine ⟨⟨-1, lit⟩, .inl ⟨rfl, hlit⟩, by simp; omega, by simp [hc, hc1], fun k => ?_⟩
        rw [XL_eq, hs, hs', ← encPC_app]
        simp -implicitDefEqProofs (disch := omega) [c_glosskeep_Tpl_Tpl_0, hq, hy, hi, hi2, ex, hq1, within_pc, hget, hlE, hel, htk, ei2, hc1, if_pos, if_neg, wrap64, decide_eq_true, decide_eq_false, maxLen, Pc.enc]
    · refine ⟨⟨within y 0 g, []⟩, .inr ⟨w3, by simp; omega, rfl⟩, by simp; omega, by simp; omega, fun k => ?_⟩
      rw [XL_eq, hs, hs', ← encPC_app]
      by_cases hc1 : c.g < 0 <;>
      simp -implicitDefEqProofs (disch := omega) [c_glosskeep_Tpl_Tpl_0, hq, hy, hi, hi2, ex, hq1, within_pc, hget, hlE, hel, htk, ei2, hc1, if_pos, if_neg, wrap64, decide_eq_true, decide_eq_false, maxLen, Pc.enc]
/-- Pieces that may be, one behind the other. -/
def TplOk (g : Int) : List Pc → Prop
  | [] => True
  | [p] => pcOk p ∧ p.g ≤ g
  | p :: q :: l => pcOk p ∧ p.g ≤ g ∧ ¬ (p.g = -1 ∧ q.g = -1) ∧ TplOk g (q :: l)
theorem TplOk.snoc {g : Int} {p : Pc} (hp : pcOk p) (hg : p.g ≤ g) : ∀ {l : List Pc}, TplOk g l → (lastT l = true → p.g ≠ -1) → TplOk g (l ++ [p])
  | [], _, _ => ⟨hp, hg⟩
  | [q], h, hl => by
    refine ⟨h.1, h.2, fun ⟨h1, h2⟩ => hl (by simp [lastT, h1]) h2, hp, hg⟩
  | q :: r :: l, h, hl => by
    have := TplOk.snoc hp hg h.2.2.2 (by simpa [lastT] using hl)
    exact ⟨h.1, h.2.1, h.2.2.1, this⟩
theorem tpl_loop {β : Type} (z : Nat) (ks : List Int) (g : Int) (hg : 0 ≤ g) (hg' : g ≤ 3) (hz : z = 1 ∨ ks = []) : ∀ (d i : Nat) (out : List Pc), i + d = min ks.length 5 → out.length = i → TplOk g out →
   ∃ out' s', TplOk g out' ∧ out'.length = min ks.length 5 ∧ s'.tm.get r5 = (match out' with | [] => .r .nils | _ :: l => .r (.slc 0 0 (l.length + 1) 2)) ∧ (s'.hp = match out' with | [] => [(0, .cells kT 0 [.p (.list z (ints ks))])] | _ :: _ => [(0, .cells pT 0 (encPC out')), (1, .cells kT 0 [.p (.list z (ints ks))])]) ∧
     ∀ k : Exit → St → Option β, @XL β F (tplSt z ks g out i) ⟨(m_glosskeep_Tpl_Tpl_0, c_glosskeep_Tpl_Tpl_0)⟩ ⟨k⟩ = k (.exit 0) s'
  | 0, i, out, hi, ho, hok => by
    by_cases h1 : i < ks.length
    · have h2 : ¬ (i : Int) < 5 := by omega
      rcases out with _ | ⟨p, l⟩
      · exact absurd ho (by simp; omega)
      · refine ⟨p :: l, ?s1, hok, by omega, ?p1, ?q1, fun k => ?h1⟩
        case h1 => rw [XL_eq]; simp -implicitDefEqProofs (disch := omega) [tplSt, c_glosskeep_Tpl_Tpl_0, h1, h2]; rfl
        case p1 => simp
        case q1 => simp [pT, kT]
    · rcases out with _ | ⟨p, l⟩
      · refine ⟨[], ?s2, hok, by omega, ?p2, ?q2, fun k => ?h2⟩
        case h2 => rw [XL_eq]; simp -implicitDefEqProofs (disch := omega) [tplSt, c_glosskeep_Tpl_Tpl_0, h1]; rfl
        case p2 => simp
        case q2 => simp [pT, kT]
      · refine ⟨p :: l, ?s3, hok, by omega, ?p3, ?q3, fun k => ?h3⟩
        case h3 => rw [XL_eq]; simp -implicitDefEqProofs (disch := omega) [tplSt, c_glosskeep_Tpl_Tpl_0, h1]; rfl
        case p3 => simp
        case q3 => simp [pT, kT]
  | d + 1, i, out, hi, ho, hok => by
    obtain ⟨p, h1, h2, h3, h4⟩ := tpl_step (β := β) z ks g hg hg' hz out (by omega) i (by omega) (by omega)
    obtain ⟨out', s', a1, a2, a3, a4, a5⟩ := tpl_loop (β := β) z ks g hg hg' hz d (i + 1) (out ++ [p]) (by omega) (by simp [ho]) (hok.snoc h1 h2 h3)
    exact ⟨out', s', a1, a2, a3, a4, fun k => by rw [h4 k, a5 k]⟩
theorem encPC_snap (h : Hp) (l : List Pc) : mapO (Gv.snap h 39) (encPC l) = some (l.flatMap Pc.enc) := by
  have : encPC l = (l.flatMap Pc.enc).map C.p := by simp [encPC, List.map_flatMap]
  rw [this, mapO_ps39]
theorem rows_encP : ∀ l : List Pc, rowsOf 2 l.length (l.flatMap Pc.enc) = encP l
  | [] => rfl
  | p :: l => by
    have e : (p :: l).flatMap Pc.enc = p.enc ++ l.flatMap Pc.enc := by simp
    rw [e, List.length_cons, rowsOf, List.take_left' (by simp), List.drop_left' (by simp), rows_encP l]; rfl
theorem tpl_pc (z : Nat) (ks : List Int) (g : Int) (hg : 0 ≤ g) (hg' : g ≤ 3) (hz : z = 1 ∨ ks = []) : ∃ l, TplOk g l ∧ l.length ≤ 5 ∧ pcall F f_glosskeep_Tpl_Tpl [.agg [.list z (ints ks)], .one (.i g)] = some [.one (.l 2 (encP l))] := by
  obtain ⟨out', s', a1, a2, a3, a4, a5⟩ := tpl_loop (β := List PVal) z ks g hg hg' hz (min ks.length 5) 0 [] (by omega) rfl trivial
  refine ⟨out', a1, by omega, ?_⟩
  rw [pcall_X (fn := ir_glosskeep_Tpl_Tpl) rfl _ (by simp)]
  simp [tplSt] at a5
  rcases out' with _ | ⟨p, l⟩
  · simp at a3 a4
    simp -implicitDefEqProofs (disch := omega) [b_glosskeep_Tpl_Tpl, a5, a3, a4]
    rfl
  · simp at a3 a4
    have hr := rows_encP (p :: l)
    rw [List.length_cons] at hr
    have ht : (encPC (p :: l)).take ((l.length + 1) * 2) = encPC (p :: l) := List.take_of_length_le (by simp)
    simp -implicitDefEqProofs (disch := omega) [b_glosskeep_Tpl_Tpl, a5, a3, a4, ht, encPC_snap]
    rw [show p.enc ++ List.flatMap Pc.enc l = (p :: l).flatMap Pc.enc by simp, hr]; rfl
end Gv
