/- Replacements. -/
import Derived.Test.YtnjnlkaagfihbaaAC3
set_option linter.all false
namespace Gv
open Go
set_option maxRecDepth 100000
def fill1 (m : List Int) (s : List UInt8) (p : Pc) : List UInt8 := if p.g = -1 then p.lit else group m s p.g
def fill (l : List Pc) (m : List Int) (s : List UInt8) : List UInt8 := l.flatMap (fill1 m s)
@[simp] theorem Pc.enc_len (p : Pc) : p.enc.length = 2 := rfl
@[simp] theorem Pc.enc_take (p : Pc) : p.enc.take 2 = p.enc := rfl
@[simp] theorem Pc.takeC (p : Pc) : (p.enc.map C.p).take 2 = p.enc.map C.p := rfl
@[simp] theorem put_enc2 (a b : C) (p : Pc) : putCells [a, b] 0 (p.enc.map C.p) = p.enc.map C.p := rfl
@[simp] theorem Pc.enc_0 (p : Pc) : (p.enc.map C.p)[0]? = some (.p (.i p.g)) := rfl
@[simp] theorem Pc.enc_1 (p : Pc) : (p.enc.map C.p)[1]? = some (.p (.str p.lit)) := rfl
@[simp] theorem Pc.encp_0 (p : Pc) : p.enc[0]? = some (.i p.g) := rfl
@[simp] theorem Pc.encp_1 (p : Pc) : p.enc[1]? = some (.str p.lit) := rfl
@[simp] theorem mt_len (m : List Int) : (mt m).length = m.length := by simp [mt]
def mT : Tag := ⟨false, t_api_Match⟩
def bdN : Option (List UInt8) → Nat | some (_ :: _) => 2 | _ => 1
def fillSt (z : Nat) (l : List Pc) (m : List Int) (s : List UInt8) (o : Option (List UInt8)) (i : Nat) : St :=
  { tm := T.nd AV.u (T.nd AV.u (T.nd AV.u (T.nd (AV.r (C.ptr 0 0)) T.lf T.lf) (T.nd (AV.p (PV.int IntKind.i64 ↑l.length)) T.lf T.lf)) T.lf) (T.nd (AV.p (PV.str s)) (T.nd (AV.r (C.ptr (bdN o) 0)) T.lf (T.nd (AV.p (PV.int IntKind.i64 i)) T.lf T.lf)) (T.nd AV.u (T.nd (AV.p (PV.list z (encP l))) T.lf T.lf) T.lf)),
    hp := bdH o ++ [(bdN o, .cells ⟨false, t_api_Match⟩ 0 (List.map C.p (mt m)))], nx := bdN o + 1, ar := 0 }
theorem fill_step {β : Type} (z : Nat) (l : List Pc) (m : List Int) (hm : m.length = 8) (s : List UInt8) (hz : z = 2 ∨ l = []) (hl : l.length < 1000000) (o : Option (List UInt8)) (i : Nat) (hi : i < l.length) (k : Exit → St → Option β) (hx : (bdT o).length + (fill1 m s l[i]).length < 1000000) :
   @XL β F (fillSt z l m s o i) ⟨(m_tpl_Fill_0, c_tpl_Fill_0)⟩ ⟨k⟩ = @XL β F (fillSt z l m s (some (bdT o ++ fill1 m s l[i])) (i + 1)) ⟨(m_tpl_Fill_0, c_tpl_Fill_0)⟩ ⟨k⟩ := by
  obtain ⟨x, ex, hx', hmm, hd⟩ := get_at hi
  have hz' : z = 2 := by rcases hz with h | h; exact h; subst h; simp at hmm
  subst hz'
  rw [ex] at hx ⊢
  have hmt : ((mt m).map C.p).take 8 = (mt m).map C.p := List.take_of_length_le (by simp [hm])
  generalize ey : fill1 m s x = y at hx ⊢
  unfold fill1 at ey
  have hg' : ∀ t : List UInt8, group m s x.g = t → pcall F f_find_Group [.agg (mt m), .one (.str s), .one (.i x.g)] = some [.one (.str t)] := fun t e => e ▸ group_pc m hm s x.g
  by_cases hg : x.g = -1
  · rw [if_pos hg] at ey
    rcases o with _ | _ | ⟨c, t⟩ <;> rcases y with _ | ⟨b, y⟩ <;> simp only [bdT, List.length_cons, List.length_nil] at hx <;> rw [XL_eq] <;>
      simp -implicitDefEqProofs (disch := omega) [fillSt, bdH, bdN, bdT, c_tpl_Fill_0, hi, ex, hg, ey, w0e, w1e, w2e, w0n, w1n, w2n, if_pos, if_neg, wrap64]
  · rw [if_neg hg] at ey
    have hg' := hg' _ ey
    rcases o with _ | _ | ⟨c, t⟩ <;> rcases y with _ | ⟨b, y⟩ <;> simp only [bdT, List.length_cons, List.length_nil] at hx <;> rw [XL_eq] <;>
      simp -implicitDefEqProofs (disch := omega) [fillSt, bdH, bdN, bdT, c_tpl_Fill_0, hi, ex, hg, hmt, hm, hg', w0e, w1e, w2e, w0n, w1n, w2n, if_pos, if_neg, wrap64]
theorem fill_loop {β : Type} (z : Nat) (l : List Pc) (m : List Int) (hm : m.length = 8) (s : List UInt8) (hz : z = 2 ∨ l = []) (hl : l.length < 1000000) : ∀ (d i : Nat) (o : Option (List UInt8)), i + d = l.length → (bdT o).length + (fill (l.drop i) m s).length < 1000000 →
   ∃ o', bdT o' = bdT o ++ fill (l.drop i) m s ∧ ∀ k : Exit → St → Option β, @XL β F (fillSt z l m s o i) ⟨(m_tpl_Fill_0, c_tpl_Fill_0)⟩ ⟨k⟩ = @XL β F (fillSt z l m s o' l.length) ⟨(m_tpl_Fill_0, c_tpl_Fill_0)⟩ ⟨k⟩
  | 0, i, o, hi, hx => by
    have : i = l.length := by omega
    subst this
    exact ⟨o, by simp [fill], fun k => rfl⟩
  | d + 1, i, o, hi, hx => by
    obtain ⟨x, ex, hx', hmm, hd⟩ := get_at (l := l) (i := i) (by omega)
    have e : fill (l.drop i) m s = fill1 m s x ++ fill (l.drop (i + 1)) m s := by rw [hd]; simp [fill]
    rw [e] at hx ⊢
    obtain ⟨o', h1, h2⟩ := fill_loop (β := β) z l m hm s hz hl d (i + 1) (some (bdT o ++ fill1 m s x)) (by omega) (by simp [bdT] at hx ⊢; omega)
    refine ⟨o', by rw [h1]; simp [bdT], fun k => ?_⟩
    rw [fill_step z l m hm s hz hl o i (by omega) k (by rw [ex]; simp at hx; omega), ex, h2]
theorem fill_pc (z : Nat) (l : List Pc) (m : List Int) (hm : m.length = 8) (s : List UInt8) (hz : z = 2 ∨ l = []) (hl : l.length < 1000000) (hf : (fill l m s).length < 100000) : pcall F f_tpl_Fill [.one (.list z (encP l)), .agg (mt m), .one (.str s)] = some [.one (.str (fill l m s))] := by
  rw [pcall_X (fn := ir_tpl_Fill) rfl _ (by simp)]
  obtain ⟨o', h1, h2⟩ := fill_loop (β := List PVal) z l m hm s hz hl l.length 0 none (by omega) (by simp [bdT]; omega)
  simp only [bdT, List.nil_append, List.drop_zero] at h1
  rw [← h1] at hf ⊢
  rcases o' with _ | _ | ⟨c, t⟩ <;> simp only [bdT, List.length_cons] at hf ⊢ <;> simp [fillSt, bdH, bdN, mT] at h2 <;>
    simp -implicitDefEqProofs (disch := omega) [b_tpl_Fill, h2] <;> rw [XL_eq] <;> simp -implicitDefEqProofs (disch := omega) [c_tpl_Fill_0, b0s, b1s, b2s]
end Gv
