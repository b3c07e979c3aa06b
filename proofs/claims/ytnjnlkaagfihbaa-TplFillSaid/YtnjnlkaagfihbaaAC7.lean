/- The law TplFill. -/
import Derived.Test.YtnjnlkaagfihbaaAC6
set_option linter.all false
namespace Gv
open Go
set_option maxRecDepth 100000
/-- Where the loop over the match's spans stands. -/
def tfA (zs : Nat) (ss : List Int) (cut : Int) (s : List UInt8) (l : List Pc) (m : List Int) (i : Nat) : St :=
  { tm := T.nd AV.u (T.nd AV.u (T.nd (AV.p (PV.i cut)) T.lf (T.nd (AV.r (C.ptr 0 0)) T.lf T.lf)) (T.nd AV.u (T.nd (AV.p (PV.str s)) T.lf T.lf) T.lf)) (T.nd (AV.p (PV.list zs (ints ss))) T.lf (T.nd AV.u (T.nd (AV.p (PV.l 2 (encP l))) T.lf (T.nd (AV.p (PV.int IntKind.i64 i)) T.lf T.lf)) T.lf)),
    hp := [(0, Blk.cells { mark := false, ty := t_api_Match } 0 ((mt m).map C.p))], nx := 1, ar := 0 }
theorem mt_set (m : List Int) (i : Nat) (a b : Int) : (((mt m).map C.p).set (i * 2) (.p (.int .i64 a))).set (i * 2 + 1) (.p (.int .i64 b)) = (mt ((m.set (i * 2) a).set (i * 2 + 1) b)).map C.p := by
  simp [mt, List.map_set]
theorem tfA_step {β : Type} (zs : Nat) (ss : List Int) (cut : Int) (s : List UInt8) (hs : s.length ≤ 10) (l : List Pc) (hzs : zs = 1 ∨ ss = []) (m : List Int) (hm : m.length = 8) (i : Nat) (hi : i < 4) :
   ∃ m' : List Int, m'.length = 8 ∧ ∀ k : Exit → St → Option β, @XL β F (tfA zs ss cut s l m i) ⟨(m_glosslaw7_TplFill_0, c_glosslaw7_TplFill_0)⟩ ⟨k⟩ = @XL β F (tfA zs ss cut s l m' (i + 1)) ⟨(m_glosslaw7_TplFill_0, c_glosslaw7_TplFill_0)⟩ ⟨k⟩ := by
  have hi4 : (i : Int) < 4 := by omega
  have hml : (mt m).length = 8 := by simp [hm]
  by_cases hi2 : i < ss.length
  · obtain ⟨x, ex, hx', hmm, hd⟩ := get_at hi2
    have hz' : zs = 1 := by rcases hzs with h | h; exact h; subst h; simp at hmm
    subst hz'
    obtain ⟨y, hy⟩ : ∃ y, aBin .quo (.p (.int .i64 x)) (.p (.int .i64 8)) = some (.p (.int .i64 y), []) := ⟨_, by rw [aBin_quo, if_neg (by omega)]⟩
    obtain ⟨q, hq⟩ : ∃ q, aBin .and (.p (.int .i64 x)) (.p (.int .i64 1)) = some (.p (.int .i64 q), []) := ⟨_, aBin_and ..⟩
    by_cases hq1 : q = 1
    · have w1 := within_ge x 0 s.length (by omega)
      have w2 := within_le x 0 s.length (by omega)
      obtain ⟨a, ha⟩ : ∃ a, within x 0 s.length = a := ⟨_, rfl⟩
      rw [ha] at w1 w2
      have p1 := within_pc x 0 s.length (by omega) (by omega) (by omega)
      have p2 := within_pc y a s.length (by omega) (by omega) (by omega)
      rw [ha] at p1
      generalize within y a s.length = b at p2
      refine ⟨((((m.set (i * 2) (-1)).set (i * 2 + 1) (-1)).set (i * 2) a).set (i * 2 + 1) b), by simp [hm], fun k => ?_⟩
      rw [XL_eq]
      simp -implicitDefEqProofs (disch := omega) [tfA, c_glosslaw7_TplFill_0, hi2, hi4, hm, ex, hq, hq1, hy, p1, p2, if_pos, if_neg, wrap64, mt_set]
    · refine ⟨((m.set (i * 2) (-1)).set (i * 2 + 1) (-1)), by simp [hm], fun k => ?_⟩
      rw [XL_eq]
      simp -implicitDefEqProofs (disch := omega) [tfA, c_glosslaw7_TplFill_0, hi2, hi4, hm, ex, hq, hq1, hy, if_pos, if_neg, wrap64, mt_set]
  · refine ⟨((m.set (i * 2) (-1)).set (i * 2 + 1) (-1)), by simp [hm], fun k => ?_⟩
    rw [XL_eq]
    simp -implicitDefEqProofs (disch := omega) [tfA, c_glosslaw7_TplFill_0, hi2, hi4, hm, if_pos, if_neg, wrap64, mt_set]
theorem tfA_all {β : Type} (zs : Nat) (ss : List Int) (cut : Int) (s : List UInt8) (hs : s.length ≤ 10) (l : List Pc) (hzs : zs = 1 ∨ ss = []) :
   ∃ m' : List Int, m'.length = 8 ∧ ∀ k : Exit → St → Option β, @XL β F (tfA zs ss cut s l [0, 0, 0, 0, 0, 0, 0, 0] 0) ⟨(m_glosslaw7_TplFill_0, c_glosslaw7_TplFill_0)⟩ ⟨k⟩ = @XL β F (tfA zs ss cut s l m' 4) ⟨(m_glosslaw7_TplFill_0, c_glosslaw7_TplFill_0)⟩ ⟨k⟩ := by
  obtain ⟨m1, h1, e1⟩ := tfA_step (β := β) zs ss cut s hs l hzs [0, 0, 0, 0, 0, 0, 0, 0] rfl 0 (by omega)
  obtain ⟨m2, h2, e2⟩ := tfA_step (β := β) zs ss cut s hs l hzs m1 h1 1 (by omega)
  obtain ⟨m3, h3, e3⟩ := tfA_step (β := β) zs ss cut s hs l hzs m2 h2 2 (by omega)
  obtain ⟨m4, h4, e4⟩ := tfA_step (β := β) zs ss cut s hs l hzs m3 h3 3 (by omega)
  exact ⟨m4, h4, fun k => by rw [e1, e2, e3, e4]⟩
def tfB (s : List UInt8) (l : List Pc) (m : List Int) (c : Int) (want : List UInt8) (i : Nat) : St :=
  { tm := T.nd AV.u (T.nd AV.u (T.nd AV.u (T.nd AV.u (T.nd (AV.p (PV.str want)) T.lf T.lf) (T.nd AV.u (T.nd AV.u (T.nd (AV.p (PV.int IntKind.i64 i)) T.lf T.lf) T.lf) T.lf)) (T.nd (AV.r (C.ptr 0 0)) T.lf T.lf)) (T.nd AV.u (T.nd (AV.p (PV.str s)) T.lf T.lf) (T.nd AV.u (T.nd AV.u (T.nd AV.u (T.nd (AV.p (PV.l 2 (encP l))) T.lf T.lf) T.lf) T.lf) T.lf))) (T.nd AV.u T.lf (T.nd AV.u (T.nd (AV.p (PV.l 2 (encP l))) T.lf T.lf) (T.nd (AV.p (PV.int IntKind.i64 c)) (T.nd AV.u (T.nd AV.u (T.nd (AV.p (PV.int IntKind.i64 ↑l.length)) T.lf T.lf) T.lf) T.lf) T.lf))),
    hp := [(0, Blk.cells { mark := false, ty := t_api_Match } 0 (List.map C.p (mt m)))], nx := 1, ar := 0 }
theorem slice_len {α : Type} (s : List α) (a b : Nat) : (slice s a b).length ≤ s.length := by simp [slice]; omega
theorem group_len (m : List Int) (s : List UInt8) (n : Int) : (group m s n).length ≤ s.length := by
  unfold group; split
  · simp only; split
    · exact slice_len ..
    · simp
  · simp
theorem pcOk.lit_len {p : Pc} (h : pcOk p) : p.lit.length ≤ 3 := by
  rcases h with ⟨_, h⟩ | ⟨_, _, h⟩
  · simp [tplLits] at h; rcases h with h | h | h | h | h | h | h | h <;> rw [h] <;> simp
  · rw [h]; simp
theorem TplOk.mem {g : Int} : ∀ {l : List Pc}, TplOk g l → ∀ p ∈ l, pcOk p ∧ p.g ≤ g
  | [], _, p, h => by simp at h
  | [q], h, p, hp => by simp at hp; subst hp; exact h
  | q :: r :: l, h, p, hp => by
    rcases List.mem_cons.1 hp with rfl | hp
    · exact ⟨h.1, h.2.1⟩
    · exact TplOk.mem h.2.2.2 p hp
theorem fill1_len {m : List Int} {s : List UInt8} {p : Pc} (h : pcOk p) (hs : s.length ≤ 10) : (fill1 m s p).length ≤ 10 := by
  unfold fill1; split
  · have := h.lit_len; omega
  · have := group_len m s p.g; omega
theorem fill_len {m : List Int} {s : List UInt8} (hs : s.length ≤ 10) : ∀ {l : List Pc}, (∀ p ∈ l, pcOk p) → (fill l m s).length ≤ 10 * l.length
  | [], _ => by simp [fill]
  | p :: l, h => by
    have := fill_len (m := m) hs (l := l) fun p hp => h p (by simp [hp])
    have h1 := fill1_len (m := m) (h p (by simp)) hs
    have e : fill (p :: l) m s = fill1 m s p ++ fill l m s := by simp [fill]
    rw [e]; simp; omega
theorem tfB_step {β : Type} (s : List UInt8) (hs : s.length ≤ 10) (l : List Pc) (hl : l.length ≤ 5) (hok : ∀ p ∈ l, pcOk p) (m : List Int) (hm : m.length = 8) (c : Int) (want : List UInt8) (hw : want.length < 1000) (i : Nat) (hi : i < l.length) (k : Exit → St → Option β) :
   @XL β F (tfB s l m c want i) ⟨(m_glosslaw7_TplFill_1, c_glosslaw7_TplFill_1)⟩ ⟨k⟩ = @XL β F (tfB s l m c (want ++ fill1 m s l[i]) (i + 1)) ⟨(m_glosslaw7_TplFill_1, c_glosslaw7_TplFill_1)⟩ ⟨k⟩ := by
  obtain ⟨x, ex, hx', hmm, hd⟩ := get_at hi
  have hx := hok x hmm
  have hlen := fill1_len (m := m) (s := s) hx hs
  have hm8 : ((mt m).map C.p).take 8 = (mt m).map C.p := List.take_of_length_le (by simp [hm])
  rw [ex]
  by_cases hg : x.g < 0
  · have e : fill1 m s x = x.lit := by
      rcases hx with ⟨h, _⟩ | ⟨h, _⟩
      · simp [fill1, h]
      · omega
    rw [e] at hlen ⊢
    rw [XL_eq]
    simp -implicitDefEqProofs (disch := omega) [tfB, c_glosslaw7_TplFill_1, hi, ex, hg, aBin_cat, if_pos, if_neg, wrap64]
  · have e : fill1 m s x = group m s x.g := by simp [fill1, show ¬ x.g = -1 by omega]
    have hp := group_pc m hm s x.g
    rw [e] at hlen ⊢
    rw [XL_eq]
    simp -implicitDefEqProofs (disch := omega) [tfB, c_glosslaw7_TplFill_1, hi, ex, hg, hp, hm, hm8, aBin_cat, if_pos, if_neg, wrap64]
theorem tfB_loop {β : Type} (s : List UInt8) (hs : s.length ≤ 10) (l : List Pc) (hl : l.length ≤ 5) (hok : ∀ p ∈ l, pcOk p) (m : List Int) (hm : m.length = 8) (c : Int) (k : Exit → St → Option β) : ∀ (d i : Nat) (want : List UInt8), i + d = l.length → want.length ≤ 10 * i →
   @XL β F (tfB s l m c want i) ⟨(m_glosslaw7_TplFill_1, c_glosslaw7_TplFill_1)⟩ ⟨k⟩ = @XL β F (tfB s l m c (want ++ fill (l.drop i) m s) l.length) ⟨(m_glosslaw7_TplFill_1, c_glosslaw7_TplFill_1)⟩ ⟨k⟩
  | 0, i, want, hi, hw => by
    have : i = l.length := by omega
    subst this; simp [fill]
  | d + 1, i, want, hi, hw => by
    obtain ⟨x, ex, hx', hmm, hd⟩ := get_at (l := l) (i := i) (by omega)
    have h1 := fill1_len (m := m) (s := s) (hok x hmm) hs
    rw [tfB_step s hs l hl hok m hm c want (by omega) i (by omega) k, ex, tfB_loop s hs l hl hok m hm c k d (i + 1) (want ++ fill1 m s x) (by omega) (by simp; omega), hd]
    simp [fill]
def tfC (s : List UInt8) (l : List Pc) (m : List Int) (c : Int) (want : List UInt8) (high : Int) (i : Nat) : St :=
  { tm := T.nd AV.u (T.nd AV.u (T.nd AV.u (T.nd AV.u (T.nd (AV.p (PV.str want)) T.lf T.lf) T.lf) (T.nd (AV.r (C.ptr 0 0)) T.lf (T.nd AV.u T.lf (T.nd AV.u (T.nd (AV.p (PV.int IntKind.i64 ↑l.length)) T.lf T.lf) T.lf)))) (T.nd AV.u (T.nd (AV.p (PV.str s)) T.lf T.lf) T.lf)) (T.nd AV.u (T.nd AV.u T.lf (T.nd AV.u T.lf (T.nd AV.u T.lf (T.nd AV.u (T.nd (AV.p (PV.int IntKind.i64 i)) T.lf T.lf) T.lf)))) (T.nd AV.u (T.nd (AV.p (PV.l 2 (encP l))) (T.nd (AV.p (PV.int IntKind.i64 high)) T.lf T.lf) (T.nd AV.u T.lf (T.nd AV.u (T.nd (AV.p (PV.l 2 (encP l))) T.lf T.lf) T.lf))) (T.nd (AV.p (PV.int IntKind.i64 c)) T.lf T.lf))),
    hp := [(0, Blk.cells { mark := false, ty := t_api_Match } 0 (List.map C.p (mt m)))], nx := 1, ar := 0 }
/-- The greatest group, or what it was. -/
def high (h : Int) (l : List Pc) : Int := l.foldl (fun h p => if p.g > h then p.g else h) h
theorem tfC_step {β : Type} (s : List UInt8) (l : List Pc) (hl : l.length ≤ 5) (m : List Int) (c : Int) (want : List UInt8) (h : Int) (i : Nat) (hi : i < l.length) (k : Exit → St → Option β) :
   @XL β F (tfC s l m c want h i) ⟨(m_glosslaw7_TplFill_2, c_glosslaw7_TplFill_2)⟩ ⟨k⟩ = @XL β F (tfC s l m c want (if l[i].g > h then l[i].g else h) (i + 1)) ⟨(m_glosslaw7_TplFill_2, c_glosslaw7_TplFill_2)⟩ ⟨k⟩ := by
  obtain ⟨x, ex, hx', hmm, hd⟩ := get_at hi
  rw [ex, XL_eq]
  simp -implicitDefEqProofs (disch := omega) [tfC, c_glosslaw7_TplFill_2, hi, ex, wrap64]
theorem tfC_loop {β : Type} (s : List UInt8) (l : List Pc) (hl : l.length ≤ 5) (m : List Int) (c : Int) (want : List UInt8) (k : Exit → St → Option β) : ∀ (d i : Nat) (h : Int), i + d = l.length →
   @XL β F (tfC s l m c want h i) ⟨(m_glosslaw7_TplFill_2, c_glosslaw7_TplFill_2)⟩ ⟨k⟩ = @XL β F (tfC s l m c want (high h (l.drop i)) l.length) ⟨(m_glosslaw7_TplFill_2, c_glosslaw7_TplFill_2)⟩ ⟨k⟩
  | 0, i, h, hi => by
    have : i = l.length := by omega
    subst this; simp [high]
  | d + 1, i, h, hi => by
    obtain ⟨x, ex, hx', hmm, hd⟩ := get_at (l := l) (i := i) (by omega)
    rw [tfC_step s l hl m c want h i (by omega) k, ex, tfC_loop s l hl m c want k d (i + 1) _ (by omega), hd]
    simp [high]
theorem high_ge (l : List Pc) : ∀ h : Int, h ≤ high h l ∧ (∀ p ∈ l, p.g ≤ high h l) ∧ (high h l = h ∨ ∃ p ∈ l, p.g = high h l) := by
  induction l with
  | nil => intro h; simp [high]
  | cons q l ih =>
    intro h
    have e : high h (q :: l) = high (if q.g > h then q.g else h) l := rfl
    obtain ⟨h1, h2, h3⟩ := ih (if q.g > h then q.g else h)
    rw [e]
    have ha : (if q.g > h then q.g else h) ≥ h ∧ (if q.g > h then q.g else h) ≥ q.g := by split <;> omega
    refine ⟨by omega, fun p hp => ?_, ?_⟩
    · rcases List.mem_cons.1 hp with rfl | hp
      · omega
      · exact h2 p hp
    · rcases h3 with h3 | ⟨p, hp, h3⟩
      · by_cases hq : q.g > h
        · right; exact ⟨q, by simp, by rw [h3, if_pos hq]⟩
        · left; rw [h3, if_neg hq]
      · right; exact ⟨p, by simp [hp], h3⟩
theorem right_ok {g h : Int} : ∀ {l : List Pc} {prev : Bool}, TplOk g l → (∀ p ∈ l, p.g ≤ h) → (prev = true → ∀ p q, l = p :: q → p.g ≠ -1) → rightFrom h prev l = true
  | [], _, _, _, _ => rfl
  | p :: l, prev, hok, hh, hp => by
    have hpc := (TplOk.mem hok p (by simp)).1
    have hp' := hp
    rw [rightFrom, Bool.and_eq_true]
    constructor
    · unfold okPc
      rcases hpc with ⟨h1, h2⟩ | ⟨h1, h2, h3⟩
      · rw [if_pos h1]
        have hlen := pcOk.lit_len (p := p) (.inl ⟨h1, h2⟩)
        have hne : p.lit ≠ [] := by
          intro e; rw [e] at h2; simp [tplLits] at h2
        have : prev = false := by
          cases prev with
          | false => rfl
          | true => exact absurd h1 (hp rfl p l rfl)
        simp [hne, this]; omega
      · rw [if_neg (by omega)]
        have := hh p (by simp)
        simp [h1, h3, this]
    · refine right_ok (g := g) ?_ (fun q hq => hh q (by simp [hq])) ?_
      · cases l with
        | nil => trivial
        | cons q l => exact hok.2.2.2
      · intro hd q r e
        subst e
        intro hq
        exact hok.2.2.1 ⟨by simpa using hd, hq⟩
theorem right_no {h : Int} : ∀ {l : List Pc} {prev : Bool}, (∃ p ∈ l, p.g > h ∧ p.g ≠ -1) → rightFrom h prev l = false
  | [], _, he => by obtain ⟨p, hp, _⟩ := he; simp at hp
  | q :: l, prev, he => by
    obtain ⟨p, hp, h1, h2⟩ := he
    rw [rightFrom]
    rcases List.mem_cons.1 hp with rfl | hp
    · have : okPc h prev p = false := by unfold okPc; rw [if_neg h2]; simp; omega
      rw [this]; rfl
    · rw [right_no ⟨p, hp, h1, h2⟩, Bool.and_false]
theorem right_bad {h : Int} : ∀ {l : List Pc} {prev : Bool}, rightFrom h prev (l ++ [⟨-1, []⟩]) = false
  | [], prev => by simp [rightFrom, okPc]
  | q :: l, prev => by rw [List.cons_append, rightFrom, right_bad, Bool.and_false]
theorem encP_take (l : List Pc) (n : Nat) : (encP l).take n = encP (l.take n) := by simp [encP, List.map_take]
theorem encP_drop (l : List Pc) (n : Nat) : (encP l).drop n = encP (l.drop n) := by simp [encP, List.map_drop]
theorem appCells_encP (h : Hp) (p : Pc) (t : List Pc) : appCells h 2 (.p (.list 2 (encP (p :: t)))) = some (t.length + 1, encPC (p :: t)) := by
  rw [appCells_list]
  have : ((encP (p :: t)).flatten).map C.p = encPC (p :: t) := by
    generalize p :: t = l
    induction l with
    | nil => rfl
    | cons q l ih => simp only [encP, List.map_cons, List.flatten_cons, List.map_append] at ih ⊢; rw [ih]; rfl
  rw [if_neg (by simp [encP]), if_pos rfl, this]; simp
theorem tplFill_pc (zk zt zs : Nat) (ks ts ss : List Int) (cut : Int) (hzk : zk = 1 ∨ ks = []) (hzt : zt = 1 ∨ ts = []) (hzs : zs = 1 ∨ ss = []) (hr : pcall F f_glosslaw7_TplRuns [] = some [.one (.bool true)]) :
    pcall F f_glosslaw7_TplFill [.agg [.list zk (ints ks)], .one (.list zt (ints ts)), .one (.list zs (ints ss)), .one (.i cut)] = some [.one (.bool true)] := by
  rw [pcall_X (fn := ir_glosslaw7_TplFill) rfl _ (by simp)]
  obtain ⟨l, hl, hl5, hl2⟩ := tpl_pc zk ks 3 (by omega) (by omega) hzk
  have htx : pcall F f_glosskeep_Text [.one (.list zt (ints ts)), .one (.i 10)] = some [.one (.str (text ts 10))] := text_pc zt ts 10 hzt (by omega)
  simp -implicitDefEqProofs (disch := omega) [b_glosslaw7_TplFill, hl2, htx]
  have hs10 : (text ts 10).length ≤ 10 := by simp [text]; omega
  obtain ⟨m, hm, e1⟩ := tfA_all (β := List PVal) zs ss cut (text ts 10) hs10 l hzs
  generalize text ts 10 = s at *
  have h0 : tfA zs ss cut s l [0, 0, 0, 0, 0, 0, 0, 0] 0 = { tm := T.nd AV.u (T.nd AV.u (T.nd (AV.p (PV.i cut)) T.lf (T.nd (AV.r (C.ptr 0 0)) T.lf T.lf)) (T.nd AV.u (T.nd (AV.p (PV.str s)) T.lf T.lf) T.lf)) (T.nd (AV.p (PV.list zs (ints ss))) T.lf (T.nd AV.u (T.nd (AV.p (PV.l 2 (encP l))) T.lf (T.nd (AV.p (PV.int IntKind.i64 0)) T.lf T.lf)) T.lf)), hp := [(0, Blk.cells { mark := false, ty := t_api_Match } 0 [C.p (PV.int IntKind.i64 0), C.p (PV.int IntKind.i64 0), C.p (PV.int IntKind.i64 0), C.p (PV.int IntKind.i64 0), C.p (PV.int IntKind.i64 0), C.p (PV.int IntKind.i64 0), C.p (PV.int IntKind.i64 0), C.p (PV.int IntKind.i64 0)])], nx := 1, ar := 0 } := rfl
  rw [← h0, e1, XL_eq]
  have wc := within_pc cut 0 l.length (by omega) (by omega) (by omega)
  simp -implicitDefEqProofs (disch := omega) [tfA, c_glosslaw7_TplFill_0, wc]
  have hok := fun p hp => (TplOk.mem hl p hp).1
  have eB := fun k => tfB_loop (β := List PVal) s hs10 l hl5 hok m hm (within cut 0 ↑l.length) k l.length 0 [] (by omega) (by simp)
  have h1 : tfB s l m (within cut 0 ↑l.length) [] 0 = { tm := T.nd AV.u (T.nd AV.u (T.nd AV.u (T.nd AV.u (T.nd (AV.p (PV.str [])) T.lf T.lf) (T.nd AV.u (T.nd AV.u (T.nd (AV.p (PV.int IntKind.i64 0)) T.lf T.lf) T.lf) T.lf)) (T.nd (AV.r (C.ptr 0 0)) T.lf T.lf)) (T.nd AV.u (T.nd (AV.p (PV.str s)) T.lf T.lf) (T.nd AV.u (T.nd AV.u (T.nd AV.u (T.nd (AV.p (PV.l 2 (encP l))) T.lf T.lf) T.lf) T.lf) T.lf))) (T.nd AV.u T.lf (T.nd AV.u (T.nd (AV.p (PV.l 2 (encP l))) T.lf T.lf) (T.nd (AV.p (PV.int IntKind.i64 (within cut 0 ↑l.length))) (T.nd AV.u (T.nd AV.u (T.nd (AV.p (PV.int IntKind.i64 ↑l.length)) T.lf T.lf) T.lf) T.lf) T.lf))), hp := [(0, Blk.cells { mark := false, ty := t_api_Match } 0 (List.map C.p (mt m)))], nx := 1, ar := 0 } := rfl
  rw [← h1, eB, XL_eq]
  simp -implicitDefEqProofs (disch := omega) [tfB, c_glosslaw7_TplFill_1]
  have eC := fun k => tfC_loop (β := List PVal) s l hl5 m (within cut 0 ↑l.length) (fill l m s) k l.length 0 0 (by omega)
  have h2 : tfC s l m (within cut 0 ↑l.length) (fill l m s) 0 0 = { tm := T.nd AV.u (T.nd AV.u (T.nd AV.u (T.nd AV.u (T.nd (AV.p (PV.str (fill l m s))) T.lf T.lf) T.lf) (T.nd (AV.r (C.ptr 0 0)) T.lf (T.nd AV.u T.lf (T.nd AV.u (T.nd (AV.p (PV.int IntKind.i64 ↑l.length)) T.lf T.lf) T.lf)))) (T.nd AV.u (T.nd (AV.p (PV.str s)) T.lf T.lf) T.lf)) (T.nd AV.u (T.nd AV.u T.lf (T.nd AV.u T.lf (T.nd AV.u T.lf (T.nd AV.u (T.nd (AV.p (PV.int IntKind.i64 0)) T.lf T.lf) T.lf)))) (T.nd AV.u (T.nd (AV.p (PV.l 2 (encP l))) (T.nd (AV.p (PV.int IntKind.i64 0)) T.lf T.lf) (T.nd AV.u T.lf (T.nd AV.u (T.nd (AV.p (PV.l 2 (encP l))) T.lf T.lf) T.lf))) (T.nd (AV.p (PV.int IntKind.i64 (within cut 0 ↑l.length))) T.lf T.lf))), hp := [(0, Blk.cells { mark := false, ty := t_api_Match } 0 (List.map C.p (mt m)))], nx := 1, ar := 0 } := rfl
  rw [← h2, eC, XL_eq]
  have hm8 : ((mt m).map C.p).take 8 = (mt m).map C.p := List.take_of_length_le (by simp [hm])
  have f1 : (fill l m s).length < 100000 := by have := fill_len (m := m) hs10 hok; omega
  obtain ⟨w, hw⟩ : ∃ w, within cut 0 l.length = w := ⟨_, rfl⟩
  have hw1 := within_ge cut 0 l.length (by omega)
  have hw2 := within_le cut 0 l.length (by omega)
  rw [hw] at hw1 hw2 ⊢
  obtain ⟨n, rfl⟩ : ∃ n : Nat, w = n := ⟨w.toNat, by omega⟩
  obtain ⟨hh1, hh2, hh3⟩ := high_ge l 0
  have hh4 : high 0 l ≤ 3 := by
    rcases hh3 with h | ⟨q, hq, h⟩
    · omega
    · have := (TplOk.mem hl q hq).2; omega
  have f2 : fill (l.take n) m s ++ fill (l.drop n) m s = fill l m s := by
    rw [fill, fill, ← List.flatMap_append, List.take_append_drop]; rfl
  have f3 : (fill l m s).length = (fill (l.take n) m s).length + (fill (l.drop n) m s).length := by rw [← f2]; simp
  have r1 := right_ok (h := high 0 l) (prev := false) hl hh2 (by simp)
  have r2 : high 0 l ≠ 0 → rightFrom (high 0 l - 1) false l = false := by
    intro h
    rcases hh3 with h' | ⟨q, hq, h'⟩
    · exact absurd h' h
    · exact right_no ⟨q, hq, by omega, by omega⟩
  have r3 : rightFrom 3 false (l ++ [⟨-1, []⟩]) = false := right_bad
  have pn : pcall F f_tpl_Fill [.one (.list 0 []), .agg (mt m), .one (.str s)] = some [.one (.str [])] := fill_pc 0 [] m hm s (by simp) (by simp) (by simp [fill])
  rcases l with _ | ⟨p, t⟩
  · have hn : n = 0 := by simp at hw2; omega
    subst hn
    simp only [List.nil_append] at r3
    have p4 := tright_pc 0 [] 0 (by simp) (by simp)
    have p6 := tright_pc 2 [⟨-1, []⟩] 3 (by simp) (by simp)
    have hh : high 0 [] = 0 := rfl
    have hpl : PV.l 2 [] = .list 0 [] := rfl
    have he : encP [] = [] := rfl
    have he1 : encP [⟨-1, []⟩] = [[.int .i64 (-1), .str []]] := rfl
    have hf : fill [] m s = [] := rfl
    have hr0 : rightFrom 0 false [] = true := rfl
    rw [he] at p4
    rw [he1] at p6
    simp -implicitDefEqProofs (disch := omega) [tfC, c_glosslaw7_TplFill_2, hpl, hh, he, hf, appCells_list, rowsOf, hm, hm8, p4, p6, pn, aBin_cat, r3, hr, hr0, if_pos, if_neg, wrap64, maxLen]
  · have p1 := fill_pc 2 (p :: t) m hm s (by simp) (by omega) (by omega)
    have p2 := fill_pc 2 ((p :: t).take n) m hm s (by simp) (by simp; omega) (by omega)
    have p3 := fill_pc 2 ((p :: t).drop n) m hm s (by simp) (by simp at hl5 ⊢; omega) (by omega)
    have p4 := tright_pc 2 (p :: t) (high 0 (p :: t)) (by simp) (by omega)
    have p5 := tright_pc 2 (p :: t) (high 0 (p :: t) - 1) (by simp) (by omega)
    have p6 := tright_pc 2 ((p :: t) ++ [⟨-1, []⟩]) 3 (by simp) (by simp at hl5 ⊢; omega)
    have hpl : PV.l 2 (encP (p :: t)) = .list 2 (encP (p :: t)) := rfl
    have hbad : encPC (p :: t) ++ [C.p (PV.int .i64 (-1)), C.p (PV.str [])] = encPC ((p :: t) ++ [⟨-1, []⟩]) := encPC_app (p :: t) ⟨-1, []⟩
    have hbl : (encPC ((p :: t) ++ [⟨-1, []⟩])).take ((t.length + 1 + 1) * 2) = encPC ((p :: t) ++ [⟨-1, []⟩]) := List.take_of_length_le (by simp)
    have hbr := rows_encP ((p :: t) ++ [⟨-1, []⟩])
    have htk : (encPC (p :: t)).take ((t.length + 1) * 2) = encPC (p :: t) := List.take_of_length_le (by simp)
    have hdr : ((p :: t).drop n).take (t.length + 1 - n) = (p :: t).drop n := List.take_of_length_le (by simp)
    have hl5' : t.length + 1 ≤ 5 := by simpa using hl5
    have hw2' : (n : Int) ≤ t.length + 1 := by simpa using hw2
    have hw3 : n ≤ t.length + 1 := by omega
    have hsn : ∀ h : Hp, mapO (Gv.snap h 39) (((encPC (p :: t)) ++ [C.p (PV.int .i64 (-1)), C.p (PV.str [])]).take ((t.length + 1 + 1) * 2)) = some (((p :: t) ++ [(⟨-1, []⟩ : Pc)]).flatMap Pc.enc) := by
      intro h; rw [hbad, hbl, encPC_snap]
    rw [show ((p :: t) ++ [(⟨-1, []⟩ : Pc)]).length = t.length + 1 + 1 by simp] at hbr
    obtain ⟨bad, hbd⟩ : ∃ b, (p :: t) ++ [(⟨-1, []⟩ : Pc)] = b := ⟨_, rfl⟩
    rw [hbd] at hsn hbr p6 r3
    obtain ⟨bv, hbv⟩ : ∃ b, bad.flatMap Pc.enc = b := ⟨_, rfl⟩
    rw [hbv] at hsn hbr
    by_cases hz : high 0 (p :: t) = 0
    · rw [hz] at p4 r1
      simp -implicitDefEqProofs (disch := omega) [tfC, c_glosslaw7_TplFill_2, hpl, appCells_encP, htk, hm, hm8, p1, p2, p3, p4, p6, pn, encP_take, encP_drop, aBin_cat, f2, r1, r3, hz, hr, hdr, hsn, hbr, if_pos, if_neg, wrap64, maxLen]
    · have r2 := r2 hz
      simp -implicitDefEqProofs (disch := omega) [tfC, c_glosslaw7_TplFill_2, hpl, appCells_encP, htk, hm, hm8, p1, p2, p3, p4, p5, p6, pn, encP_take, encP_drop, aBin_cat, f2, r1, r2, r3, hz, hr, hdr, hsn, hbr, if_pos, if_neg, wrap64, maxLen]
end Gv
