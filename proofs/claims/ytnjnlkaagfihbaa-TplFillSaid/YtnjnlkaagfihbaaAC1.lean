/- Sets of bytes. -/
import Derived.Test.YtnjnlkaagfihbaaATy
import Derived.Test.YtnjnlkaagfihbaaAIrAp1
set_option linter.all false
namespace Gv
open Go
set_option maxRecDepth 100000

def within (n lo hi : Int) : Int :=
  let m := n.tmod (hi - lo + 1)
  lo + (if m < 0 then m + hi - lo + 1 else m)
theorem within_pc (n lo hi : Int) (h : lo ≤ hi) (h1 : -1000 ≤ lo) (h2 : hi ≤ 1000) : pcall F f_glossbook_Within [.one (.int .i64 n), .one (.int .i64 lo), .one (.int .i64 hi)] = some [.one (.int .i64 (within n lo hi))] := by
  rw [pcall_X (fn := ir_glossbook_Within) rfl _ (by simp)]
  have h3 : n.tmod (hi - lo + 1) < hi - lo + 1 := Int.tmod_lt_of_pos _ (by omega)
  have h4 : -(hi - lo + 1) < n.tmod (hi - lo + 1) := Int.lt_tmod_of_pos _ (by omega)
  have h5 : hi - lo + 1 ≠ 0 := by omega
  by_cases h6 : n.tmod (hi - lo + 1) < 0 <;>
  simp (disch := omega) [b_glossbook_Within, aBin_rem, wrap64, h6, h5, within]
  all_goals omega
theorem within_ge (n lo hi : Int) (h : lo ≤ hi) : lo ≤ within n lo hi := by
  have h3 : n.tmod (hi - lo + 1) < hi - lo + 1 := Int.tmod_lt_of_pos _ (by omega)
  have h4 : -(hi - lo + 1) < n.tmod (hi - lo + 1) := Int.lt_tmod_of_pos _ (by omega)
  unfold within; simp only; split <;> omega
theorem within_le (n lo hi : Int) (h : lo ≤ hi) : within n lo hi ≤ hi := by
  have h3 : n.tmod (hi - lo + 1) < hi - lo + 1 := Int.tmod_lt_of_pos _ (by omega)
  have h4 : -(hi - lo + 1) < n.tmod (hi - lo + 1) := Int.lt_tmod_of_pos _ (by omega)
  unfold within; simp only; split <;> omega

theorem has_pc (s : S4) (b : Nat) (hb : b < 256) : pcall F f_bset_Has [.agg s.enc, .one (.b8 b)] = some [.one (.bool (s.has b))] := by
  rw [pcall_X (fn := ir_bset_Has) rfl _ (by simp)]
  have h1 := wd_lt hb
  have h2 := bt_lt b
  simp (disch := omega) [b_bset_Has, aBin_quo64, aBin_rem64, S4.enc_get, aBin_shr64, if_pos, if_neg, decide_eq_true, decide_eq_false]
  rfl

theorem S4.word_lt {s : S4} (h : s.wf) (i : Nat) : s.word i < 18446744073709551616 := by
  obtain ⟨h1, h2, h3, h4⟩ := h
  unfold S4.word; repeat' split
  all_goals omega
theorem S4.setW_wf {s : S4} (h : s.wf) (i : Nat) {v : Nat} (hv : v < 18446744073709551616) : (s.setW i v).wf := by
  obtain ⟨h1, h2, h3, h4⟩ := h
  unfold S4.setW; repeat' split
  all_goals (refine ⟨?_, ?_, ?_, ?_⟩ <;> simp only <;> omega)
theorem S4.put_wf {s : S4} (h : s.wf) {b : Nat} (hb : b < 256) : (s.put b).wf :=
  S4.setW_wf h _ (Nat.or_lt_two_pow (n := 64) (S4.word_lt h _) (p2_lt (bt_lt b)))
theorem S4.zero_wf : S4.zero.wf := by refine ⟨?_, ?_, ?_, ?_⟩ <;> decide
theorem setOf_wf {l : List Nat} (h : ∀ b ∈ l, b < 256) : (setOf l).wf := by
  have : ∀ (l : List Nat) (s : S4), s.wf → (∀ b ∈ l, b < 256) → (l.foldl S4.put s).wf := by
    intro l
    induction l with
    | nil => intro s hs _; exact hs
    | cons b l ih => intro s hs h; exact ih _ (S4.put_wf hs (h b (by simp))) fun b hb => h b (by simp [hb])
  exact this l _ S4.zero_wf h

theorem of_loop {β : Type} (z : Nat) (bs : List Nat) (hb : ∀ b ∈ bs, b < 256) (hz : z = 1 ∨ bs = []) (hl : bs.length < 1000000) (k : Exit → St → Option β) : ∀ (d i : Nat) (acc : S4), i + d = bs.length → acc.wf → 
   @XL β F { tm := T.nd AV.u (T.nd AV.u (T.nd (AV.r (C.ptr 0 0)) (T.nd (AV.p (PV.int IntKind.i64 ↑bs.length)) T.lf T.lf) T.lf) T.lf) (T.nd (AV.r (C.ptr 1 0)) (T.nd AV.u (T.nd (AV.p (PV.int IntKind.i64 i)) T.lf T.lf) T.lf) (T.nd (AV.p (PV.list z (List.map (fun b => [PV.b8 b]) bs))) T.lf T.lf)), hp := [(0, Blk.cells { mark := false, ty := t_api_Set } 0 (acc.enc.map C.p)), (1, Blk.cells { mark := false, ty := t_api_Set } 0 (S4.zero.enc.map C.p))], nx := 2, ar := 0 } ⟨(m_bset_Of_0, c_bset_Of_0)⟩ ⟨k⟩
    = k (Exit.exit 0) { tm := T.nd AV.u (T.nd AV.u (T.nd (AV.r (C.ptr 0 0)) (T.nd (AV.p (PV.int IntKind.i64 ↑bs.length)) T.lf T.lf) T.lf) (T.nd AV.u (T.nd (AV.p (PV.bool false)) T.lf T.lf) T.lf)) (T.nd (AV.r (C.ptr 1 0)) (T.nd AV.u (T.nd (AV.p (PV.int IntKind.i64 ↑bs.length)) T.lf T.lf) T.lf) (T.nd (AV.p (PV.list z (List.map (fun b => [PV.b8 b]) bs))) T.lf T.lf)), hp := [(0, Blk.cells { mark := false, ty := t_api_Set } 0 (List.map C.p ((bs.drop i).foldl S4.put acc).enc)), (1, Blk.cells { mark := false, ty := t_api_Set } 0 (List.map C.p S4.zero.enc))], nx := 34, ar := 0 }
  | 0, i, acc, hi, ha => by
    have : i = bs.length := by omega
    subst this
    rw [XL_eq]
    simp (disch := omega) [c_bset_Of_0, decide_eq_false]
  | d + 1, i, acc, hi, ha => by
    obtain ⟨x, hx, hx', hm, hd⟩ := get_at (l := bs) (i := i) (by omega)
    have hb' := hb x hm
    have h1 := wd_lt hb'
    have h2 := bt_lt x
    have h3 := S4.word_lt ha (wd x)
    have h4 := p2_lt h2
    have hz' : z = 1 := by rcases hz with h | h; exact h; subst h; simp at hm
    subst hz'
    have hp : acc.setW (wd x) (acc.word (wd x) ||| p2 (bt x)) = acc.put x := rfl
    have ih := of_loop 1 bs hb hz hl k d (i + 1) (acc.put x) (by omega) (S4.put_wf ha hb')
    rw [XL_eq]
    simp (disch := omega) [c_bset_Of_0, decide_eq_true, hx, aBin_quo64, aBin_rem64, S4.enc_get, S4.enc_setC, aBin_shl1, hp, aBin_or64, if_pos, if_neg, wrap64]
    simp at ih
    rw [ih, hd, List.foldl_cons]
theorem of_pc (z : Nat) (bs : List Nat) (hb : ∀ b ∈ bs, b < 256) (hz : z = 1 ∨ bs = []) (hl : bs.length < 1000000) : pcall F f_bset_Of [.one (.list z (bs.map fun b => [.b8 b]))] = some [.agg (setOf bs).enc] := by
  rw [pcall_X (fn := ir_bset_Of) rfl _ (by simp)]
  have := fun k => of_loop (β := List PVal) z bs hb hz hl k bs.length 0 .zero (by omega) S4.zero_wf
  simp at this
  simp (disch := omega) [b_bset_Of, S4.zero_encC, this]
  rfl
end Gv
