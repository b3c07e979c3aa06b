/- Second part: stores, numbers, texts, comparing. -/
import Derived.Test.YtnjnlkaagfihbaaAOps1
import Derived.Laws.Strings
import Derived.Lib.Strings
set_option linter.all false
namespace Gv
open Go

theorem putCells_len : ∀ (vs : List C) (cs : List C) (o : Nat), (putCells cs o vs).length = cs.length
  | [], _, _ => rfl
  | v :: vs, cs, o => by simp [putCells, putCells_len vs]

theorem putCells_get : ∀ (vs : List C) (cs : List C) (o i : Nat), o + vs.length ≤ cs.length → (putCells cs o vs)[i]? = if o ≤ i ∧ i < o + vs.length then vs[i - o]? else cs[i]?
  | [], cs, o, i, _ => by simp [putCells]; omega
  | v :: vs, cs, o, i, h => by
    simp only [List.length_cons] at h
    rw [putCells, putCells_get vs (cs.set o v) (o + 1) i (by simp; omega)]
    simp only [List.length_cons, List.getElem?_set]
    by_cases h1 : o + 1 ≤ i ∧ i < o + 1 + vs.length
    · rw [if_pos h1, if_pos (by omega), show i - o = i - (o + 1) + 1 by omega]; simp
    · by_cases h2 : o = i
      · subst h2; rw [if_neg h1, if_pos rfl, if_pos (by omega), if_pos (by omega)]; simp
      · rw [if_neg h1, if_neg h2, if_neg (by omega)]

section
variable {X : Ctx} {U : Nat → Prop} {j : Nat → Option Nat} {M : Mem} {h : Hp} {ar : Nat} {w : World} {fk : Nat} {P : Program}

/-- Cells written into a block: the model's run, and the heap behind it. -/
theorem run_put (r : RH X U j M h ar w) {k B o : Nat} {m : Tag} {f : Nat} {cs : List C} (hB : j k = some B) (hk : h.get k = some (.cells m f cs)) {vs : List C} {us : List Value}
    (hv : All2 (CRep U j M (bsz w)) vs us) (hle : o + vs.length ≤ cs.length) (hf : f ≤ o) :
    ∃ w', (storeCells ⟨B, o, none⟩ us).run P w = .ok () w' ∧ RH X U j M (h.put k (.cells m f (putCells cs o vs))) ar w' ∧ Ev U j M (bsz w) U j M (bsz w') := by
  obtain ⟨c, lo, hi, hw, hl, hfl, hfr, hr⟩ := r.at hB hk
  have hlen := hv.len
  obtain ⟨c', hrun, hsz, hget⟩ := run_storeCells (P := P) (B := B) o us 0 w c hw (by omega) (fun q h1 h2 => by
    by_cases hlt : lo < hi
    · rcases hfr (Nat.ne_of_lt hlt) with h3 | ⟨_, h3⟩ <;> simp only <;> omega
    · simp only; omega) (All2.cells hv)
  have hB' := lt_of_heap hw
  obtain ⟨r', e'⟩ := r.setB (o := .cells c' m.ty (lo, hi)) (b' := .cells m f (putCells cs o vs)) hB hk
    (fun c1 t1 f1 h1 => by injection h1 with h1; subst h1; rw [bsz_cells hw, hsz]) (fun h1 => (h1 _ _ _ rfl).elim)
    (fun ev => by
      refine ⟨c', lo, hi, by rw [heap_setB _ _ _ hB', if_pos rfl], by rw [putCells_len, hsz]; exact hl, by rw [putCells_len]; exact hfl, by rw [hsz]; exact hfr, fun i x hx => ?_⟩
      rw [putCells_get _ _ _ _ hle] at hx
      rw [hget]
      by_cases hi' : o ≤ i ∧ i < o + vs.length
      · rw [if_pos hi'] at hx
        rw [if_pos (by omega), Nat.add_zero]
        obtain ⟨v, h1, h2⟩ := hv.get hx
        exact ⟨v, h1, h2.ev ev⟩
      · rw [if_neg hi'] at hx
        rw [if_neg (by omega)]
        obtain ⟨v, h1, h2⟩ := hr i x hx
        exact ⟨v, h1, h2.ev ev⟩)
    (fun q v hv' => by
      have h1 := r.frz k B m f cs hB hk q v hv'
      have h2 := r.mem B q v hv'
      rw [cell_eq hw] at h2
      rw [cell_eq (w := setB w B (.cells c' m.ty (lo, hi))) (by rw [heap_setB _ _ _ hB', if_pos rfl]), hget, if_neg (by omega)]
      exact h2)
    (fun m' f' cs' h1 q v hv' => by injection h1 with h1 h2 h3; subst h2; exact r.frz k B m f cs hB hk q v hv')
  exact ⟨_, hrun, r', e'⟩

theorem Done.upd1 {w' : World} {k : Nat} {b : Blk} (r' : RH X U j M (h.put k b) ar w') (e' : Ev U j M (bsz w) U j M (bsz w')) {s : Sem Unit} (hs : s.run P w = .ok () w') :
    Done X U j M h ar w fk ((do s; Pure.pure .skip : Sem Next).run P w) .u [(k, some b)] :=
  ⟨.skip, w', undef, by simp [hs], .inr ⟨rfl, rfl⟩, U, j, M, fun _ h => .inl h, r', e', trivial⟩

theorem do_store (r : RH X U j M h ar w) {t : TypeId} (ht : ∃ i, P.info? t = some i) {x y : AV} {v u : Value} (hx : ARep U j M (bsz w) x v) (hy : ARep U j M (bsz w) y u) {z : AV} {up : Upd}
    (hs : (match (generalizing := false) x, y.cells with
      | .r (.ptr k o), some vs => match h.cells? k with
        | some (m, f, cs) => if vs.length = P.cellsOf t ∧ o + P.cellsOf t ≤ cs.length ∧ f ≤ o then some (AV.u, [(k, some (Blk.cells m f (putCells cs o vs)))]) else none
        | none => none
      | _, _ => none) = some (z, up)) :
    Done X U j M h ar w fk ((do Instr.storeAt t v u; Pure.pure .skip : Sem Next).run P w) z up := by
  cases x <;> try (simp at hs; done)
  rename_i c
  cases c <;> try (simp at hs; done)
  rename_i k o
  cases hc : y.cells with
  | none => simp [hc] at hs
  | some vs =>
    cases hk : h.cells? k with
    | none => simp [hc, hk] at hs
    | some mfc =>
      obtain ⟨m, f, cs⟩ := mfc
      simp only [hc, hk] at hs
      split at hs
      · rename_i hcond
        obtain ⟨h1, h2, h3⟩ := hcond
        injection hs with hs; injection hs with hs1 hs2; subst hs1 hs2
        have hg := Hp.cells_get hk
        obtain ⟨B, hB, _⟩ := r.hp k _ hg
        cases hx with
        | ptr _ _ B' hu hj =>
          have := hj B hB; subst this
          have hrep := rep_cells hc hy
          obtain ⟨w', hrun, r', e'⟩ := run_put (P := P) r hB hg hrep (by omega) h3
          refine Done.upd1 r' e' ?_
          obtain ⟨i, hi⟩ := ht
          have hsz : u.cells.size = P.cellsOf t := by have := hrep.len; simp at this; omega
          simp [Instr.storeAt, Instr.sureAddr, storeVar, run_size hi, hsz, hrun]
      · cases hs

theorem do_nilchk (r : RH X U j M h ar w) {x y : AV} {v : Value} (hx : ARep U j M (bsz w) x v) {u : Upd}
    (hs : (match (generalizing := false) x with
      | .p (.pp cs o) => some (AV.p (.pp cs o), ([] : Upd))
      | .r (.ptr k o) => some (.r (.ptr k o), [])
      | _ => none) = some (y, u)) {ρ : Operand → Value} {o : Oper} {xo : Operand} (ho : o.op = .nilCheck xo) (hv : ρ xo = v) :
    Done X U j M h ar w fk ((execOp ρ o).run P w) y u := by
  cases x <;> try (simp at hs; done)
  · rename_i c
    cases c <;> try (simp at hs; done)
    rename_i cs q
    injection hs with hs; injection hs with h1 h2; subst h1 h2
    cases hx with
    | pp _ _ b base vals hm hr =>
      refine ⟨.value (.pointer (some ⟨b, base + q, none⟩)), w, _, ?_, .inl rfl, U, j, M, fun _ h => .inl h, r, Ev.refl _ _ _ _, PRep.pp cs q b base vals hm hr⟩
      simp [execOp, ho, hv]
  · rename_i c
    cases c <;> try (simp at hs; done)
    rename_i k q
    injection hs with hs; injection hs with h1 h2; subst h1 h2
    cases hx with
    | ptr _ _ B hu hj =>
      refine ⟨.value (.pointer (some ⟨B, q, none⟩)), w, _, ?_, .inl rfl, U, j, M, fun _ h => .inl h, r, Ev.refl _ _ _ _, CRep.ptr k q B hu hj⟩
      simp [execOp, ho, hv]
end

/-! Numbers and texts. -/
theorem prep_int {M : Mem} {k : IntKind} {n : Int} {v : Value} (h : PRep M (.int k n) v) : v = .int k n := by cases h; rfl
theorem prep_bool {M : Mem} {b : Bool} {v : Value} (h : PRep M (.bool b) v) : v = .bool b := by cases h; rfl
theorem prep_str {M : Mem} {l : List UInt8} {v : Value} (h : PRep M (.str l) v) : ∃ s : ByteArray, v = .string s ∧ s.data.toList = l := by cases h; exact ⟨_, rfl, rfl⟩
theorem str_prep {M : Mem} {l : List UInt8} {s : ByteArray} (h : s.data.toList = l) : PRep M (.str l) (.string s) := by subst h; exact .str s

theorem run_binInt {P : Program} {w : World} {o : BinOp} {k : IntKind} {a b : Int} {pv : PV} (h : binInt o k a b = some pv) (h1 : o ≠ .shl) (h2 : o ≠ .shr) (t : TypeId) :
    ∃ v, (binOp o t (.int k a) (.int k b)).run P w = .ok v w ∧ ∀ M, PRep M pv v := by
  cases o <;> simp only [binInt] at h
  case add => injection h with h; subst h; exact ⟨_, by simp [binOp, Op.intArith], fun M => PRep.int _ _⟩
  case sub => injection h with h; subst h; exact ⟨_, by simp [binOp, Op.intArith], fun M => PRep.int _ _⟩
  case mul => injection h with h; subst h; exact ⟨_, by simp [binOp, Op.intArith], fun M => PRep.int _ _⟩
  case quo =>
    split at h
    · cases h
    · rename_i hb; injection h with h; subst h; exact ⟨_, by simp [binOp, Op.intDiv, hb], fun M => PRep.int _ _⟩
  case rem =>
    split at h
    · cases h
    · rename_i hb; injection h with h; subst h; exact ⟨_, by simp [binOp, Op.intDiv, hb], fun M => PRep.int _ _⟩
  case and => injection h with h; subst h; exact ⟨_, by simp [binOp, Op.intBits], fun M => PRep.int _ _⟩
  case or => injection h with h; subst h; exact ⟨_, by simp [binOp, Op.intBits], fun M => PRep.int _ _⟩
  case xor => injection h with h; subst h; exact ⟨_, by simp [binOp, Op.intBits], fun M => PRep.int _ _⟩
  case andNot => injection h with h; subst h; exact ⟨_, by simp [binOp, Op.intBits], fun M => PRep.int _ _⟩
  case eql => injection h with h; subst h; exact ⟨_, by simp [binOp, Op.intCmp], fun M => PRep.bool _⟩
  case neq => injection h with h; subst h; exact ⟨_, by simp [binOp, Op.intCmp], fun M => PRep.bool _⟩
  case lss => injection h with h; subst h; exact ⟨_, by simp [binOp, Op.intCmp], fun M => PRep.bool _⟩
  case leq => injection h with h; subst h; exact ⟨_, by simp [binOp, Op.intCmp], fun M => PRep.bool _⟩
  case gtr => injection h with h; subst h; exact ⟨_, by simp [binOp, Op.intCmp], fun M => PRep.bool _⟩
  case geq => injection h with h; subst h; exact ⟨_, by simp [binOp, Op.intCmp], fun M => PRep.bool _⟩
  all_goals cases h

theorem run_shiftInt {P : Program} {w : World} {o : BinOp} {k k' : IntKind} {a b : Int} {pv : PV} (ho : o = .shl ∨ o = .shr) (h : shiftInt o k a b = some pv) (t : TypeId) :
    ∃ v, (binOp o t (.int k a) (.int k' b)).run P w = .ok v w ∧ ∀ M, PRep M pv v := by
  unfold shiftInt at h
  split at h
  · cases h
  · rename_i hb
    rcases ho with rfl | rfl <;> simp only at h <;> injection h with h <;> subst h <;> exact ⟨_, by simp [binOp, Op.shift, hb], fun M => PRep.int _ _⟩

theorem bytes_len (s : ByteArray) : s.data.toList.length = s.size := by cases s; rfl
theorem ba_eq (s t : ByteArray) : (s == t) = (s.data.toList == t.data.toList) := by
  cases s with
  | mk a =>
    cases t with
    | mk b =>
      show (a == b) = (a.toList == b.toList)
      rw [Bool.eq_iff_iff, beq_iff_eq, beq_iff_eq]
      exact ⟨fun h => by rw [h], Array.ext'⟩

theorem run_binStr {P : Program} {w : World} {o : BinOp} {a b : List UInt8} {pv : PV} (h : binStr o a b = some pv) (t : TypeId) {x y : ByteArray} (hx : x.data.toList = a) (hy : y.data.toList = b) :
    ∃ v, (binOp o t (.string x) (.string y)).run P w = .ok v w ∧ ∀ M, PRep M pv v := by
  subst hx hy
  have e1 := ByteArray.toList_eq x
  have e2 := ByteArray.toList_eq y
  have key : ∀ {b : Bool} {o : BinOp}, (binOp o t (.string x) (.string y)).run P w = .ok (.bool b) w → some (PV.bool b) = some pv → ∃ v, (binOp o t (.string x) (.string y)).run P w = .ok v w ∧ ∀ M, PRep M pv v := by
    intro b o h1 h2; injection h2 with h2; subst h2; exact ⟨_, h1, fun M => PRep.bool _⟩
  cases o <;> simp only [binStr] at h
  case eql => exact key (by simp only [binOp, Op.stringOp, e1, e2, Sem.run_pure]) h
  case neq => exact key (by simp only [binOp, Op.stringOp, e1, e2, Sem.run_pure]) h
  case lss => exact key (by simp only [binOp, Op.stringOp, e1, e2, Sem.run_pure]) h
  case leq => exact key (by simp only [binOp, Op.stringOp, e1, e2, Sem.run_pure]) h
  case gtr => exact key (by simp only [binOp, Op.stringOp, e1, e2, Sem.run_pure]) h
  case geq => exact key (by simp only [binOp, Op.stringOp, e1, e2, Sem.run_pure]) h
  all_goals try cases h
  split at h
  · rename_i hle
    injection h with h; subst h
    refine ⟨.string (x ++ y), ?_, fun M => str_prep (by simp)⟩
    have h1 := bytes_len x
    have h2 := bytes_len y
    simp only [maxStr] at hle
    have : ¬ ((x.size + y.size : Nat) : Int) > IntKind.i64.max := by
      have : IntKind.i64.max = 9223372036854775807 := by decide
      rw [this]; omega
    simp only [binOp, Op.stringOp, Sem.run_ite, if_neg this]; rfl
  · cases h

section
variable {X : Ctx} {U : Nat → Prop} {j : Nat → Option Nat} {M : Mem} {h : Hp} {ar : Nat} {w : World} {fk : Nat} {P : Program}

theorem run_eqGuard {op : BinOp} {t : TypeId} {x y : Operand} {a b : Value} (h1 : ∀ c, a ≠ .agg c) (h2 : a ≠ .nilIface) : (eqGuard op t x y a b).run P w = .ok () w := by
  unfold eqGuard
  cases op <;> simp <;> (cases a <;> simp at h1 h2 <;> rfl)

theorem binAV_cases {o : BinOp} {x y : AV} {pv : PV} (h : binAV o x y = some pv) :
    (∃ k a b, x = .p (.int k a) ∧ ∃ k', y = .p (.int k' b) ∧ (((o = .shl ∨ o = .shr) ∧ shiftInt o k a b = some pv) ∨ (o ≠ .shl ∧ o ≠ .shr ∧ k = k' ∧ binInt o k a b = some pv))) ∨
    (∃ a b, x = .p (.str a) ∧ y = .p (.str b) ∧ binStr o a b = some pv) := by
  unfold binAV at h
  split at h
  · rename_i k a k' b
    refine .inl ⟨k, a, b, rfl, k', rfl, ?_⟩
    split at h
    · exact .inl ⟨.inl rfl, h⟩
    · exact .inl ⟨.inr rfl, h⟩
    · rename_i n1 n2
      split at h
      · rename_i hk; exact .inr ⟨fun e => n1 e, fun e => n2 e, hk, h⟩
      · cases h
  · rename_i a b; exact .inr ⟨a, b, rfl, rfl, h⟩
  · cases h

theorem do_bin (r : RH X U j M h ar w) {op : BinOp} {t : TypeId} {xo yo : Operand} {x y : AV} {a b : Value} (hx : ARep U j M (bsz w) x a) (hy : ARep U j M (bsz w) y b) {pv : PV} (hs : binAV op x y = some pv) :
    Done X U j M h ar w fk ((do Pure.pure (.value (← (do eqGuard op t xo yo a b; binOp op t a b))) : Sem Next).run P w) (.p pv) [] := by
  rcases binAV_cases hs with ⟨k, m, n, rfl, k', rfl, hh⟩ | ⟨m, n, rfl, rfl, hh⟩
  · have ha := prep_int hx
    have hb := prep_int hy
    subst ha hb
    have : ∃ v, (binOp op t (.int k m) (.int k' n)).run P w = .ok v w ∧ ∀ M, PRep M pv v := by
      rcases hh with ⟨h1, h2⟩ | ⟨h1, h2, rfl, h3⟩
      · exact run_shiftInt h1 h2 t
      · exact run_binInt h3 h1 h2 t
    obtain ⟨v, h1, h2⟩ := this
    exact Done.pure (x := .p pv) r (v := v) (h2 M) (by simp [run_eqGuard, h1])
  · obtain ⟨s1, rfl, e1⟩ := prep_str hx
    obtain ⟨s2, rfl, e2⟩ := prep_str hy
    obtain ⟨v, h1, h2⟩ := run_binStr (P := P) (w := w) hh t e1 e2
    exact Done.pure (x := .p pv) r (v := v) (h2 M) (by simp [run_eqGuard, h1])

theorem do_un (r : RH X U j M h ar w) {op : UnOp} {x : AV} {a : Value} (hx : ARep U j M (bsz w) x a) {pv : PV} (hs : unAV op x = some pv) :
    Done X U j M h ar w fk ((do Pure.pure (.value (← Op.unary op a)) : Sem Next).run P w) (.p pv) [] := by
  unfold unAV at hs
  split at hs
  · rename_i k n
    have := prep_int hx; subst this
    obtain ⟨v, h1, h2⟩ := run_binInt (P := P) (w := w) hs (by simp) (by simp) 0
    exact Done.pure (x := .p pv) r (v := v) (h2 M) (by simpa [Op.unary, binOp] using h1)
  · rename_i k n
    have := prep_int hx; subst this
    obtain ⟨v, h1, h2⟩ := run_binInt (P := P) (w := w) hs (by simp) (by simp) 0
    exact Done.pure (x := .p pv) r (v := v) (h2 M) (by simpa [Op.unary, binOp] using h1)
  · rename_i b
    have := prep_bool hx; subst this
    injection hs with hs; subst hs
    exact Done.pure (x := .p (.bool (!b))) r (v := .bool (!b)) (.bool _) (by simp [Op.unary])
  · cases hs

theorem do_pick (r : RH X U j M h ar w) {c a b : AV} {vc va vb : Value} (hc : ARep U j M (bsz w) c vc) (ha : ARep U j M (bsz w) a va) (hb : ARep U j M (bsz w) b vb) {y : AV} {u : Upd}
    (hs : c.bool?.map (fun t => (if t then a else b, ([] : Upd))) = some (y, u)) :
    Done X U j M h ar w fk ((do Pure.pure (.value (if ← asBool vc then va else vb)) : Sem Next).run P w) y u := by
  simp only [Option.map_eq_some_iff, Prod.mk.injEq] at hs
  obtain ⟨t, ht, rfl, rfl⟩ := hs
  unfold AV.bool? at ht
  split at ht
  · rename_i b'; injection ht with ht; subst ht
    have := prep_bool hc; subst this
    refine ⟨.value (if b' then va else vb), w, _, by simp [asBool], .inl rfl, U, j, M, fun _ h => .inl h, r, Ev.refl _ _ _ _, ?_⟩
    cases b' <;> assumption
  · cases ht

theorem do_conv (r : RH X U j M h ar w) {s d : TypeId} {k k' : IntKind} (hs' : P.underlying s = some (.int k')) (hd : P.underlying d = some (.int k)) {x : AV} {a : Value} (hx : ARep U j M (bsz w) x a) {y : AV} {u : Upd}
    (hs : (match (generalizing := false) x with | .p (.int _ n) => some (AV.p (.int k (k.wrap n)), ([] : Upd)) | _ => none) = some (y, u)) :
    Done X U j M h ar w fk ((do Pure.pure (.value (← convert s d a)) : Sem Next).run P w) y u := by
  cases x <;> try (simp at hs; done)
  rename_i c
  cases c <;> try (simp at hs; done)
  rename_i k0 n
  injection hs with hs; injection hs with h1 h2; subst h1 h2
  have := prep_int hx; subst this
  exact Done.pure (x := .p (.int k (k.wrap n))) r (v := .int k (k.wrap n)) (.int _ _) (by simp [convert, run_und hs', run_und hd, Conv.intToInt])

theorem do_extr (r : RH X U j M h ar w) {x : AV} {a : Value} (hx : ARep U j M (bsz w) x a) {i : Nat} {y : AV} {u : Upd}
    (hs : (match (generalizing := false) x with
      | .tup l => match l[i]? with
        | some (true, cs) => some (AV.ofCs cs, ([] : Upd))
        | some (false, [c]) => some (AV.ofC c, [])
        | _ => none
      | _ => none) = some (y, u)) :
    Done X U j M h ar w fk ((do Pure.pure (.value (← Instr.extract a i)) : Sem Next).run P w) y u := by
  cases x <;> try (simp at hs; done)
  rename_i l
  obtain ⟨vs, rfl, hl⟩ := hx
  cases hi : l[i]? with
  | none => simp [hi] at hs
  | some gc =>
    obtain ⟨g, cs⟩ := gc
    obtain ⟨v, hv, hp⟩ := hl.get hi
    have hv' : vs[i]? = some v := by simpa using hv
    have hrun : (Instr.extract (.tuple vs) i).run P w = .ok v w := by simp [Instr.extract, hv']
    cases g with
    | true =>
      simp [hi] at hs
      obtain ⟨rfl, rfl⟩ := hs
      obtain ⟨us, rfl, h'⟩ := hp
      exact Done.pure (x := AV.ofCs cs) r (rep_ofCs h') hrun
    | false =>
      obtain ⟨c, hc, h'⟩ := hp
      simp only at hc; subst hc
      simp [hi] at hs
      obtain ⟨rfl, rfl⟩ := hs
      exact Done.pure (x := AV.ofC c) r (rep_ofC h') hrun

theorem prep_pp {M : Mem} {cs : List PV} {o : Nat} {v : Value} (h : PRep M (.pp cs o) v) :
    ∃ (b base : Nat) (vals : Nat → Value), v = .pointer (some ⟨b, base + o, none⟩) ∧ (∀ (i : Nat) c, cs[i]? = some c → M b (base + i) = some (vals i)) ∧ ∀ (i : Nat) c, cs[i]? = some c → PRep M c (vals i) := by
  cases h with
  | pp _ _ b base vals hm hr => exact ⟨b, base, vals, rfl, hm, hr⟩
theorem crep_ptr {S : Nat → Nat} {k o : Nat} {v : Value} (h : CRep U j M S (.ptr k o) v) : ∃ B, v = .pointer (some ⟨B, o, none⟩) ∧ U k ∧ ∀ B', j k = some B' → B' = B := by
  cases h with
  | ptr _ _ B hu hj => exact ⟨B, rfl, hu, hj⟩

theorem do_faddr (r : RH X U j M h ar w) {t : TypeId} {f : Nat} {fs : Array Field} {g : Field} (ht : P.underlying t = some (.struct fs)) (hf : fs[f]? = some g) (hz : P.cellsOf g.type ≠ 0) {x : AV} {a : Value} (hx : ARep U j M (bsz w) x a) {y : AV} {u : Upd}
    (hs : (match (generalizing := false) x with
      | .p (.pp cs o') => some (AV.p (.pp cs (o' + g.offset)), ([] : Upd))
      | .r (.ptr k o') => some (.r (.ptr k (o' + g.offset)), [])
      | _ => none) = some (y, u)) :
    Done X U j M h ar w fk ((do Pure.pure (.value (← Instr.fieldAt t a f)) : Sem Next).run P w) y u := by
  have hinfo : ∃ i, P.info? g.type = some i := by
    cases hi : P.info? g.type with
    | none => simp [Program.cellsOf, hi] at hz
    | some i => exact ⟨i, rfl⟩
  obtain ⟨i, hi⟩ := hinfo
  have hrun : ∀ B o, (Instr.fieldAt t (.pointer (some ⟨B, o, none⟩)) f).run P w = .ok (.pointer (some ⟨B, o + g.offset, none⟩)) w := by
    intro B o
    simp [Instr.fieldAt, run_und ht, hf, Instr.sureAddr, fieldPlace, run_size hi, hz, add_none]
  cases x <;> try (simp at hs; done)
  · rename_i c
    cases c <;> try (simp at hs; done)
    rename_i cs q
    injection hs with hs; injection hs with h1 h2; subst h1 h2
    obtain ⟨b, base, vals, rfl, hm, hr⟩ := prep_pp hx
    have := hrun b (base + q)
    rw [Nat.add_assoc] at this
    exact Done.pure (x := .p (.pp cs (q + g.offset))) r (PRep.pp cs (q + g.offset) b base vals hm hr) this
  · rename_i c
    cases c <;> try (simp at hs; done)
    rename_i k q
    injection hs with hs; injection hs with h1 h2; subst h1 h2
    obtain ⟨B, rfl, hu, hj⟩ := crep_ptr hx
    exact Done.pure (x := .r (.ptr k (q + g.offset))) r (CRep.ptr k (q + g.offset) B hu hj) (hrun B q)

theorem run_part {t : TypeId} {g : Bool} (hg : isAggT P t = some g) {vs : Array Value} {o : Nat} (hle : o + P.cellsOf t ≤ vs.size) (h1 : g = true ∨ P.cellsOf t = 1) :
    (part t vs o).run P w = .ok (if g then .agg (vs.extract o (o + P.cellsOf t)) else vs.getD o undef) w := by
  obtain ⟨i, hi⟩ := info_of_agg hg
  cases g with
  | true => simp [part, run_agg hg, run_size hi]
  | false =>
    simp at h1
    have : o < vs.size := by omega
    simp [part, run_agg hg, this]

theorem extract_list (vs : Array Value) (o n : Nat) : (vs.extract o (o + n)).toList = (vs.toList.drop o).take n := by
  simp [List.extract_eq_take_drop]

theorem load_parts (r : RH X U j M h ar w) {t : TypeId} {g : Bool} (hg : isAggT P t = some g) (h1 : g = true ∨ P.cellsOf t = 1) {x : AV} {vs : Array Value} {o : Nat} (hx : ARep U j M (bsz w) x (.agg vs)) {y : AV} {u : Upd}
    (hs : (match (generalizing := false) x with
      | .pa cs => (loadP (P.cellsOf t) g cs o).map (·, ([] : Upd))
      | .ag cs => (loadC (P.cellsOf t) g cs o).map (·, [])
      | _ => none) = some (y, u)) :
    u = [] ∧ ∃ v, (part t vs o).run P w = .ok v w ∧ ARep U j M (bsz w) y v := by
  cases x <;> try (simp at hs; done)
  · rename_i cs
    simp only [Option.map_eq_some_iff, Prod.mk.injEq] at hs
    obtain ⟨y', hy, rfl, rfl⟩ := hs
    obtain ⟨us, e, hl⟩ := hx
    injection e with e; subst e
    have hlen := hl.len
    unfold loadP at hy
    split at hy
    · rename_i hle
      refine ⟨rfl, _, run_part hg (by simp at hlen; omega) h1, ?_⟩
      cases g with
      | true => simp at hy; subst hy; exact ⟨_, rfl, by rw [extract_list]; exact (hl.drop o).take _⟩
      | false =>
        simp at hy; obtain ⟨c, hc, rfl⟩ := hy
        obtain ⟨v, hv, hr⟩ := hl.get hc
        have hv' : vs[o]? = some v := by simpa using hv
        simp [Array.getD_eq_getD_getElem?, hv']; exact hr
    · cases hy
  · rename_i cs
    simp only [Option.map_eq_some_iff, Prod.mk.injEq] at hs
    obtain ⟨y', hy, rfl, rfl⟩ := hs
    obtain ⟨us, e, hl⟩ := hx
    injection e with e; subst e
    have hlen := hl.len
    unfold loadC at hy
    split at hy
    · rename_i hle
      refine ⟨rfl, _, run_part hg (by simp at hlen; omega) h1, ?_⟩
      cases g with
      | true => simp at hy; subst hy; exact rep_ofCs (by rw [extract_list]; exact (hl.drop o).take _)
      | false =>
        simp at hy; obtain ⟨c, hc, rfl⟩ := hy
        obtain ⟨v, hv, hr⟩ := hl.get hc
        have hv' : vs[o]? = some v := by simpa using hv
        simp only [Bool.false_eq_true, if_false, Array.getD_eq_getD_getElem?, hv', Option.getD_some]; exact rep_ofC hr
    · cases hy

theorem agg_of {S : Nat → Nat} {x : AV} {a : Value} (hx : ARep U j M S x a) (h : (∃ cs, x = .pa cs) ∨ ∃ cs, x = .ag cs) : ∃ vs, a = .agg vs := by
  rcases h with ⟨cs, rfl⟩ | ⟨cs, rfl⟩ <;> obtain ⟨vs, rfl, _⟩ := hx <;> exact ⟨vs, rfl⟩

theorem do_field (r : RH X U j M h ar w) {t : TypeId} {f : Nat} {fs : Array Field} {q : Field} (ht : P.underlying t = some (.struct fs)) (hf : fs[f]? = some q) {g : Bool} (hg : isAggT P q.type = some g) (h1 : g = true ∨ P.cellsOf q.type = 1)
    {x : AV} {a : Value} (hx : ARep U j M (bsz w) x a) {y : AV} {u : Upd}
    (hs : (match (generalizing := false) x with
      | .pa cs => (loadP (P.cellsOf q.type) g cs q.offset).map (·, ([] : Upd))
      | .ag cs => (loadC (P.cellsOf q.type) g cs q.offset).map (·, [])
      | _ => none) = some (y, u)) :
    Done X U j M h ar w fk ((do Pure.pure (.value (← Instr.field t a f)) : Sem Next).run P w) y u := by
  obtain ⟨vs, rfl⟩ := agg_of hx (by cases x <;> simp at hs ⊢)
  obtain ⟨rfl, v, hv, hr⟩ := load_parts r hg h1 hx hs
  exact Done.pure r hr (by simp [Instr.field, run_und ht, hf, asAgg, hv])

theorem do_aidx (r : RH X U j M h ar w) {t e : TypeId} {n : Nat} (ht : P.underlying t = some (.array n e)) {g : Bool} (hg : isAggT P e = some g) (h1 : g = true ∨ P.cellsOf e = 1)
    {x i : AV} {a b : Value} (hx : ARep U j M (bsz w) x a) (hi : ARep U j M (bsz w) i b) {y : AV} {u : Upd}
    (hs : (match (generalizing := false) x, i with
      | .pa cs, .p (.int _ i) => if 0 ≤ i ∧ i < n then (loadP (P.cellsOf e) g cs (i.toNat * P.cellsOf e)).map (·, ([] : Upd)) else none
      | _, _ => none) = some (y, u)) :
    Done X U j M h ar w fk ((do Pure.pure (.value (← Instr.index t a b)) : Sem Next).run P w) y u := by
  obtain ⟨inf, hinf⟩ := info_of_agg hg
  cases x <;> try (simp at hs; done)
  rename_i cs
  cases i <;> try (simp at hs; done)
  rename_i c
  cases c <;> try (simp at hs; done)
  rename_i k i
  have := prep_int hi; subst this
  simp only at hs
  split at hs
  · rename_i hb
    obtain ⟨vs, rfl⟩ := agg_of hx (.inl ⟨_, rfl⟩)
    obtain ⟨rfl, v, hv, hr⟩ := load_parts (x := .pa cs) r hg h1 hx hs
    exact Done.pure r hr (by simp [Instr.index, asIntOf, run_und ht, hb, run_size hinf, hv])
  · cases hs

theorem do_sidx (r : RH X U j M h ar w) {t : TypeId} (ht : P.underlying t = some .string) {x i : AV} {a b : Value} (hx : ARep U j M (bsz w) x a) (hi : ARep U j M (bsz w) i b) {y : AV} {u : Upd}
    (hs : (match (generalizing := false) x, i with
      | .p (.str b), .p (.int _ i) => if 0 ≤ i then (b[i.toNat]?).map fun c => (AV.p (.int .u8 c.toNat), ([] : Upd)) else none
      | _, _ => none) = some (y, u)) :
    Done X U j M h ar w fk ((do Pure.pure (.value (← Instr.index t a b)) : Sem Next).run P w) y u := by
  cases x <;> try (simp at hs; done)
  rename_i c0
  cases c0 <;> try (simp at hs; done)
  rename_i l
  cases i <;> try (simp at hs; done)
  rename_i c
  cases c <;> try (simp at hs; done)
  rename_i k i
  have := prep_int hi; subst this
  obtain ⟨s, rfl, hl⟩ := prep_str hx
  simp only at hs
  split at hs
  · rename_i hb
    simp only [Option.map_eq_some_iff, Prod.mk.injEq] at hs
    obtain ⟨c, hc, rfl, rfl⟩ := hs
    subst hl
    have hlt := (List.getElem?_eq_some_iff.1 hc).1
    rw [bytes_len] at hlt
    have hg : s[i.toNat]? = some c := by
      rw [ByteArray.getElem?_lt' s _ hlt]
      rw [← hc]
      cases s with
      | mk d => simp only [Array.getElem?_toList]; rw [Array.getElem?_eq_getElem hlt]; rfl
    exact Done.pure (x := .p (.int .u8 c.toNat)) r (PRep.int _ _) (by simp [Instr.index, asIntOf, run_und ht, hb, hg])
  · cases hs

theorem do_aaddr (r : RH X U j M h ar w) {t e : TypeId} {n : Nat} (ht : P.underlying t = some (.array n e)) (he : ∃ i, P.info? e = some i) {x i : AV} {a b : Value} (hx : ARep U j M (bsz w) x a) (hi : ARep U j M (bsz w) i b) {y : AV} {u : Upd}
    (hs : (match (generalizing := false) x, i with
      | .p (.pp cs o), .p (.int _ i) => if 0 ≤ i ∧ i < n then some (AV.p (.pp cs (o + i.toNat * P.cellsOf e)), ([] : Upd)) else none
      | .r (.ptr k o), .p (.int _ i) => if 0 ≤ i ∧ i < n then some (.r (.ptr k (o + i.toNat * P.cellsOf e)), []) else none
      | _, _ => none) = some (y, u)) :
    Done X U j M h ar w fk ((do Pure.pure (.value (← Instr.indexAt t a b)) : Sem Next).run P w) y u := by
  obtain ⟨inf, hinf⟩ := he
  have hrun : ∀ B o k (i : Int), 0 ≤ i ∧ i < n → (Instr.indexAt t (.pointer (some ⟨B, o, none⟩)) (.int k i)).run P w = .ok (.pointer (some ⟨B, o + i.toNat * P.cellsOf e, none⟩)) w := by
    intro B o k i hb
    simp [Instr.indexAt, asIntOf, run_und ht, Instr.sureAddr, hb, run_size hinf, add_none]
  cases x <;> try (simp at hs; done)
  · rename_i c0
    cases c0 <;> try (simp at hs; done)
    rename_i cs q
    cases i <;> try (simp at hs; done)
    rename_i c
    cases c <;> try (simp at hs; done)
    rename_i k i
    have := prep_int hi; subst this
    simp only at hs
    split at hs
    · rename_i hb
      injection hs with hs; injection hs with h1 h2; subst h1 h2
      obtain ⟨b, base, vals, rfl, hm, hr⟩ := prep_pp hx
      have := hrun b (base + q) k i hb
      rw [Nat.add_assoc] at this
      exact Done.pure (x := .p (.pp cs (q + i.toNat * P.cellsOf e))) r (PRep.pp cs _ b base vals hm hr) this
    · cases hs
  · rename_i c0
    cases c0 <;> try (simp at hs; done)
    rename_i q o
    cases i <;> try (simp at hs; done)
    rename_i c
    cases c <;> try (simp at hs; done)
    rename_i k i
    have := prep_int hi; subst this
    simp only at hs
    split at hs
    · rename_i hb
      injection hs with hs; injection hs with h1 h2; subst h1 h2
      obtain ⟨B, rfl, hu, hj⟩ := crep_ptr hx
      exact Done.pure (x := .r (.ptr q (o + i.toNat * P.cellsOf e))) r (CRep.ptr q _ B hu hj) (hrun B o k i hb)
    · cases hs
end

end Gv
