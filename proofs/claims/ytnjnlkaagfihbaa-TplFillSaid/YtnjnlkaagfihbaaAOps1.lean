/- Operations, one by one: what the model's run gives where the value machine's step gives something. First part: types' facts, operands, values, loads, stores. -/
import Derived.Test.YtnjnlkaagfihbaaAHeap
set_option linter.all false
namespace Gv
open Go

/-! The types' tables. -/
section
variable {P : Program} {t : TypeId} {w : World}
theorem run_und {d : TypeDesc} (h : P.underlying t = some d) : (underlying t).run P w = .ok d w := by
  simp [underlying, h]
theorem info_of {d : TypeDesc} (h : P.underlying t = some d) : ∃ i, P.info? t = some i := by
  unfold Program.underlying at h
  cases hi : P.info? t with
  | none => simp [hi] at h
  | some i => exact ⟨i, rfl⟩
theorem run_info {i : TypeInfo} (h : P.info? t = some i) : (typeInfo t).run P w = .ok i w := by
  simp [typeInfo, h]
theorem run_size {i : TypeInfo} (h : P.info? t = some i) : (Go.sizeOf t).run P w = .ok (P.cellsOf t) w := by
  simp [Go.sizeOf, typeInfo, h, Program.cellsOf]
theorem run_agg {g : Bool} (h : isAggT P t = some g) : (isAgg t).run P w = .ok g w := by
  unfold isAggT at h
  unfold isAgg
  cases hu : P.underlying t with
  | none => simp [hu] at h
  | some d => rw [hu] at h; simp only [Sem.run_bind, run_und hu, Result.andThen_ok]; cases d <;> simp at h <;> subst h <;> rfl
theorem info_of_agg {g : Bool} (h : isAggT P t = some g) : ∃ i, P.info? t = some i := by
  unfold isAggT at h
  cases hu : P.underlying t with
  | none => simp [hu] at h
  | some d => exact info_of hu
end

/-! Cells and values. -/
section
variable {U : Nat → Prop} {j : Nat → Option Nat} {M : Mem} {S : Nat → Nat}

theorem All2.p {cs : List PV} {vs : List Value} : All2 (CRep U j M S) (cs.map .p) vs ↔ All2 (PRep M) cs vs := by
  rw [All2.mapL]
  constructor
  · exact All2.imp fun a b h => by cases h; assumption
  · exact All2.imp fun a b h => .p h

theorem allP_some : ∀ {cs : List C} {l : List PV}, allP cs = some l → cs = l.map .p
  | [], l, h => by simp [allP] at h; subst h; rfl
  | c :: cs, l, h => by
    cases c <;> simp [allP] at h
    obtain ⟨l', h', e⟩ := h
    subst e; simp [allP_some h']

theorem rep_ofCs {cs : List C} {vs : Array Value} (h : All2 (CRep U j M S) cs vs.toList) : ARep U j M S (AV.ofCs cs) (.agg vs) := by
  unfold AV.ofCs
  split
  · rename_i l hl; rw [allP_some hl] at h; exact ⟨vs, rfl, All2.p.1 h⟩
  · exact ⟨vs, rfl, h⟩
theorem rep_ofC {c : C} {v : Value} (h : CRep U j M S c v) : ARep U j M S (AV.ofC c) v := by
  cases h <;> first | assumption | (simp only [AV.ofC]; first | exact .nils | exact .e0 _ | exact .ptr _ _ _ (by assumption) (by assumption) | exact .slc _ _ _ _ _ _ (by assumption) (by assumption) (by assumption) | exact .map _ _ (by assumption) (by assumption) | exact .clo _ _ _ (by assumption) | exact .dead _ (by assumption))

theorem rep_cells {x : AV} {cs : List C} {v : Value} (hx : x.cells = some cs) (h : ARep U j M S x v) : All2 (CRep U j M S) cs v.cells.toList := by
  cases x <;> simp [AV.cells] at hx <;> subst hx
  · have := PRep.cell h
    cases v <;> simp [Value.oneCell'] at this <;> exact ⟨.p h, trivial⟩
  · obtain ⟨vs, rfl, h⟩ := h; exact All2.p.2 h
  · have := CRep.cell h
    cases v <;> simp [Value.oneCell'] at this <;> exact ⟨h, trivial⟩
  · obtain ⟨vs, rfl, h⟩ := h; exact h

theorem All2.cells {cs : List C} {vs : List Value} (h : All2 (CRep U j M S) cs vs) : ∀ v, v ∈ vs → v.oneCell' = true := by
  intro v hv
  obtain ⟨i, hi⟩ := List.mem_iff_getElem?.1 hv
  have hl : i < cs.length := by rw [h.len]; exact (List.getElem?_eq_some_iff.1 hi).1
  obtain ⟨u, hu, hr⟩ := h.get (List.getElem?_eq_getElem hl)
  rw [hi] at hu; injection hu with hu; subst hu
  exact hr.cell

theorem part_rep {x : AV} {y : Bool × List C} {v : Value} (hx : x.part? = some y) (h : ARep U j M S x v) : partRep U j M S y v := by
  cases x <;> simp [AV.part?] at hx <;> subst hx
  · exact ⟨_, rfl, .p h⟩
  · obtain ⟨vs, rfl, h⟩ := h; exact ⟨vs, rfl, All2.p.2 h⟩
  · exact ⟨_, rfl, h⟩
  · exact h

theorem ofList_rep {l : List AV} {x : AV} {vs : Array Value} (hx : AV.ofList l = some x) (h : All2 (ARep U j M S) l vs.toList) :
    ARep U j M S x (if vs.size = 1 then vs.getD 0 undef else .tuple vs) := by
  have hlen := h.len
  have key : ∀ (l : List AV) (ys : List (Bool × List C)) (vs : List Value), AV.ofList.mapL l = some ys → All2 (ARep U j M S) l vs → All2 (partRep U j M S) ys vs := by
    intro l
    induction l with
    | nil => intro ys vs h1 h2; simp [AV.ofList.mapL] at h1; subst h1; rw [h2.nil_left]; trivial
    | cons a l ih =>
      intro ys vs h1 h2
      simp only [AV.ofList.mapL] at h1
      split at h1
      · rename_i y ys' hy hys
        injection h1 with h1; subst h1
        cases vs with
        | nil => exact h2.elim
        | cons v vs => exact ⟨part_rep hy h2.1, ih _ _ hys h2.2⟩
      · cases h1
  rcases l with _ | ⟨a, _ | ⟨b, l⟩⟩
  · simp [AV.ofList, AV.ofList.mapL] at hx; subst hx
    have : vs.toList = [] := h.nil_left
    rw [if_neg (by simp at hlen; omega)]
    exact ⟨vs, rfl, by rw [this]; trivial⟩
  · simp only [AV.ofList] at hx; injection hx with hx; subst hx
    rw [if_pos (by simp at hlen; omega)]
    obtain ⟨v, hv, hr⟩ := h.get (i := 0) rfl
    have : vs.getD 0 undef = v := by
      rw [Array.getElem?_toList] at hv
      simp [Array.getD_eq_getD_getElem?, hv]
    rw [this]; exact hr
  · simp only [AV.ofList] at hx
    cases hm : AV.ofList.mapL (a :: b :: l) with
    | none => simp [hm] at hx
    | some ys =>
      simp [hm] at hx; subst hx
      rw [if_neg (by simp at hlen; omega)]
      exact ⟨vs, rfl, key _ _ _ hm h⟩
end

/-! Constants. -/
theorem constC_rep {U j M S} {v : Value} {c : C} (h : constC v = some c) : CRep U j M S c v := by
  unfold constC at h
  split at h <;> first | (injection h with h; subst h) | cases h
  · exact .p (.bool _)
  · exact .p (.int _ _)
  · exact .p (.flt _ _)
  · exact .p (.cpx _ _ _)
  · exact .p (.str _)
  · exact .p .nilp
  · exact .nils
  · exact .p .nilm
  · exact .p .nilf
  · exact .p .nili
  · exact .p (.fn _)

theorem constCs_rep {U j M S} : ∀ {l : List Value} {cs : List C}, constCs l = some cs → All2 (CRep U j M S) cs l
  | [], cs, h => by simp [constCs] at h; subst h; trivial
  | v :: l, cs, h => by
    simp only [constCs] at h
    split at h
    · rename_i c cs' hc hcs; injection h with h; subst h; exact ⟨constC_rep hc, constCs_rep hcs⟩
    · cases h

theorem constAV_rep {U j M S} {v : Value} {x : AV} (h : constAV v = some x) : ARep U j M S x v := by
  unfold constAV at h
  split at h
  · rename_i cs
    cases hc : constCs cs.toList with
    | none => simp [hc] at h
    | some l => simp [hc] at h; subst h; exact rep_ofCs (constCs_rep hc)
  · cases hc : constC v with
    | none => simp [hc] at h
    | some c => simp [hc] at h; subst h; exact rep_ofC (constC_rep hc)

/-! Operands. -/
theorem opd_rep {X U j M s a w} (r : R X U j M s a w) {x : Operand} {y : Opd} (h : cOpd x = some y) : ARep U j M (bsz w) (s.ev y) (a.eval x) := by
  cases x with
  | tmp t =>
    simp only [cOpd] at h
    split at h
    · injection h with h; subst h; exact r.t.tm t (by assumption)
    · cases h
  | const v =>
    simp only [cOpd] at h
    cases hc : constAV v with
    | none => simp [hc] at h
    | some c => simp [hc] at h; subst h; exact constAV_rep hc
  | func f => simp only [cOpd] at h; injection h with h; subst h; exact .fn f
  | global g => simp [cOpd] at h

theorem opds_rep {X U j M s a w} (r : R X U j M s a w) : ∀ {l : List Operand} {ys : List Opd}, cOpds l = some ys → All2 (ARep U j M (bsz w)) (ys.map s.ev) (l.map a.eval)
  | [], ys, h => by simp [cOpds] at h; subst h; trivial
  | x :: l, ys, h => by
    simp only [cOpds] at h
    split at h
    · rename_i c cs hc hcs; injection h with h; subst h; exact ⟨opd_rep r hc, opds_rep r hcs⟩
    · cases h

/-! What an operation comes to. -/
def Done (X : Ctx) (U : Nat → Prop) (j : Nat → Option Nat) (M : Mem) (h : Hp) (ar : Nat) (w : World) (fk : Nat) (res : Result Next) (x : AV) (u : Upd) : Prop :=
  ∃ nx w' v, res = .ok nx w' ∧ (nx = .value v ∨ (nx = .skip ∧ v = undef)) ∧
    ∃ U' j' M', (∀ k, U' k → U k ∨ (fk ≤ k ∧ k < fk + stride)) ∧ RH X U' j' M' (h.upd u) ar w' ∧ Ev U j M (bsz w) U' j' M' (bsz w') ∧ ARep U' j' M' (bsz w') x v

section
variable {X : Ctx} {U : Nat → Prop} {j : Nat → Option Nat} {M : Mem} {h : Hp} {ar : Nat} {w : World} {fk : Nat} {x : AV} {P : Program}

theorem Done.pure (r : RH X U j M h ar w) {v : Value} (hx : ARep U j M (bsz w) x v) {s : Sem Value} (hs : s.run P w = .ok v w) : Done X U j M h ar w fk ((do Pure.pure (.value (← s)) : Sem Next).run P w) x [] := by
  refine ⟨.value v, w, v, by simp [hs], .inl rfl, U, j, M, fun _ h => .inl h, r, Ev.refl _ _ _ _, hx⟩

theorem Done.val (r : RH X U j M h ar w) {v : Value} (hx : ARep U j M (bsz w) x v) : Done X U j M h ar w fk ((Pure.pure (.value v) : Sem Next).run P w) x [] :=
  ⟨.value v, w, v, rfl, .inl rfl, U, j, M, fun _ h => .inl h, r, Ev.refl _ _ _ _, hx⟩

/-- A new block. -/
theorem Done.new (r : RH X U j M h ar w) (hf : ¬ U fk) (ha : ar ≤ fk) {b : Blk} {o : Obj} {v : Value} {s : Sem Value} (hs : s.run P w = .ok v (w.alloc o))
    (hb : ∀ U' j', Ev U j M (bsz w) U' j' M (bsz (w.alloc o)) → BRep U' j' M (w.alloc o) b w.heap.size)
    (hx : ∀ U' j', U' fk → j' fk = some w.heap.size → Ev U j M (bsz w) U' j' M (bsz (w.alloc o)) → ARep U' j' M (bsz (w.alloc o)) x v) :
    Done X U j M h ar w fk ((do Pure.pure (.value (← s)) : Sem Next).run P w) x [(fk, some b)] := by
  obtain ⟨U', j', h1, h2, h3, h4, h5⟩ := r.alloc hf ha hb
  exact ⟨.value v, w.alloc o, v, by simp [hs], .inl rfl, U', j', M, fun k hk => (h1 k hk).imp id fun e => by subst e; exact ⟨Nat.le_refl _, by unfold stride; omega⟩, h4, h5, hx U' j' h3 h2 h5⟩
end

/-- A row of cells that begins as told. -/
theorem brep_cells {U j M w B} {c : Array Value} {e : TypeId} {cs : List C} (hw : w.heap[B]? = some (.cells c e (0, 0))) (h : All2 (CRep U j M (bsz w)) cs c.toList) (m : Bool) :
    BRep U j M w (.cells ⟨m, e⟩ 0 cs) B := by
  refine ⟨c, 0, 0, hw, ?_, by simp, by simp, fun i x hx => ?_⟩
  · have := h.len; simp at this; omega
  · obtain ⟨v, hv, hr⟩ := h.get hx; exact ⟨v, by simpa using hv, hr⟩

theorem All2.ev {U j M S U' j' M' S'} (e : Ev U j M S U' j' M' S') {cs : List C} {vs : List Value} (h : All2 (CRep U j M S) cs vs) : All2 (CRep U' j' M' S') cs vs := h.imp fun _ _ => CRep.ev e

theorem zeroC_rep {P : Program} {t : TypeId} {z : List C} (h : zeroC P t = some z) :
    ∃ i v, P.info? t = some i ∧ i.zero = some v ∧ z.length = P.cellsOf t ∧ constCs v.cells.toList = some z := by
  unfold zeroC at h
  cases hi : P.info? t with
  | none => simp [hi] at h
  | some i =>
    cases hz : i.zero with
    | none => simp [hi, hz] at h
    | some v =>
      simp only [hi, Option.bind_some, hz] at h
      split at h
      · rename_i cs hcs
        split at h
        · rename_i hl; injection h with h; subst h; exact ⟨i, v, rfl, hz, hl, hcs⟩
        · cases h
      · cases h

theorem run_zero {P : Program} {t : TypeId} {w : World} {i : TypeInfo} {v : Value} (h : P.info? t = some i) (hz : i.zero = some v) : (zeroValue t).run P w = .ok v w := by
  simp [zeroValue, run_info h, hz]

section ops
variable {X : Ctx} {U : Nat → Prop} {j : Nat → Option Nat} {M : Mem} {h : Hp} {ar : Nat} {w : World} {fk : Nat} {P : Program}

theorem do_alloc (r : RH X U j M h ar w) (hf : ¬ U fk) (ha : ar ≤ fk) {t : TypeId} {z : List C} (hz : zeroC P t = some z) :
    Done X U j M h ar w fk ((do Pure.pure (.value (← Instr.alloc t true (.tuple #[]))) : Sem Next).run P w) (.r (.ptr fk 0)) [(fk, some (.cells ⟨false, t⟩ 0 z))] := by
  obtain ⟨i, v, hi, hv, hl, hc⟩ := zeroC_rep hz
  refine Done.new r hf ha (v := .pointer (some ⟨w.heap.size, 0, none⟩)) (o := .cells v.cells t) ?_ (fun U' j' e => ?_) fun U' j' hu hj _ => .ptr fk 0 _ hu fun B' e => by rw [hj] at e; injection e with e; exact e.symm
  · simp [Instr.alloc, run_zero hi hv, newVar, newRow]
  · exact brep_cells (by rw [heap_alloc, if_pos rfl]) (constCs_rep hc) false

theorem do_box (r : RH X U j M h ar w) (hf : ¬ U fk) (ha : ar ≤ fk) {t : TypeId} {x : AV} {cs : List C} {v : Value} (hx : ARep U j M (bsz w) x v) (hc : x.cells = some cs) :
    Done X U j M h ar w fk ((do Pure.pure (.value (← Instr.box t v)) : Sem Next).run P w) (.r (.ptr fk 0)) [(fk, some (.cells ⟨false, t⟩ 0 cs))] := by
  refine Done.new r hf ha (v := .pointer (some ⟨w.heap.size, 0, none⟩)) (o := .cells v.cells t) ?_ (fun U' j' e => ?_) fun U' j' hu hj _ => .ptr fk 0 _ hu fun B' e => by rw [hj] at e; injection e with e; exact e.symm
  · simp [Instr.box, newVar, newRow]
  · exact brep_cells (by rw [heap_alloc, if_pos rfl]) ((rep_cells hc hx).ev e) false

theorem Hp.cells_get {h : Hp} {k : Nat} {m : Tag} {f : Nat} {cs : List C} (e : h.cells? k = some (m, f, cs)) : h.get k = some (.cells m f cs) := by
  unfold Hp.cells? at e
  split at e
  · rename_i m' f' cs' hg; injection e with e; injection e with e1 e; injection e with e2 e3; subst e1 e2 e3; exact hg
  · cases e

theorem run_loadC {B o n : Nat} {c : Array Value} {e : TypeId} {fr : Nat × Nat} (hw : w.heap[B]? = some (.cells c e fr)) (hn : o + n ≤ c.size) :
    (loadCells ⟨B, o, none⟩ n).run P w = .ok ((c.toList.drop o).take n).toArray w := by
  have hl : ((c.toList.drop o).take n).length = n := by simp; omega
  have := run_loadCells_list (P := P) w ⟨B, o, none⟩ ((c.toList.drop o).take n) (fun q v hq => by
    rw [add_none, cell_eq hw]
    rw [List.getElem?_take] at hq
    split at hq
    · simpa using hq
    · cases hq)
  rwa [hl] at this

theorem slice_rep {S : Nat → Nat} {cs : List C} {c : Array Value} (hl : cs.length ≤ c.size) (hr : ∀ (i : Nat) x, cs[i]? = some x → ∃ v, c[i]? = some v ∧ CRep U j M S x v) {o n : Nat} (hn : o + n ≤ cs.length) :
    All2 (CRep U j M S) ((cs.drop o).take n) ((c.toList.drop o).take n) := by
  refine All2.of (by simp; omega) fun i a b ha hb => ?_
  rw [List.getElem?_take] at ha hb
  split at ha
  · rename_i hi
    rw [if_pos hi] at hb
    simp only [List.getElem?_drop, Array.getElem?_toList] at ha hb
    obtain ⟨v, hv, h'⟩ := hr (o + i) a ha
    rw [hv] at hb; injection hb with hb; subst hb; exact h'
  · cases ha

theorem load_run (r : RH X U j M h ar w) {t : TypeId} {g : Bool} (hg : isAggT P t = some g) (h1 : g = true ∨ P.cellsOf t = 1) {x y : AV} {v : Value} (hx : ARep U j M (bsz w) x v) {u : Upd}
    (hs : (match (generalizing := false) x with
      | .p (.pp cs o) => (loadP (P.cellsOf t) g cs o).map (·, ([] : Upd))
      | .r (.ptr k o) => match h.cells? k with
        | some (_, _, cs) => (loadC (P.cellsOf t) g cs o).map (·, [])
        | none => none
      | _ => none) = some (y, u)) :
    u = [] ∧ ∃ v', (Instr.loadAt t v).run P w = .ok v' w ∧ ARep U j M (bsz w) y v' := by
  obtain ⟨inf, hi⟩ := info_of_agg hg
  cases x <;> try (simp at hs; done)
  · rename_i pv
    cases pv <;> try (simp at hs; done)
    rename_i cs o
    simp only [Option.map_eq_some_iff, Prod.mk.injEq] at hs
    obtain ⟨y', hy, rfl, rfl⟩ := hs
    cases hx with
    | pp _ _ b base vals hm hr =>
      unfold loadP at hy
      split at hy
      · rename_i hle
        have hcell : ∀ q c, cs[q]? = some c → w.cell? ⟨b, base + q, none⟩ = some (vals q) := fun q c e => r.mem _ _ _ (hm q c e)
        cases g with
        | true =>
          simp at hy; subst hy
          let L := (List.range (P.cellsOf t)).map fun q => vals (o + q)
          refine ⟨rfl, .agg L.toArray, ?_, ?_⟩
          rotate_left
          · refine ⟨_, rfl, ?_⟩
            refine All2.of (by simp [L]; omega) fun i a v' ha hv => ?_
            rw [List.getElem?_take] at ha
            split at ha
            · rename_i hi'
              simp only [List.getElem?_drop] at ha
              simp [L, hi'] at hv; subst hv
              exact hr _ _ ha
            · cases ha
          · have hlen : L.length = P.cellsOf t := by simp [L]
            have := run_loadCells_list (P := P) w ⟨b, base + o, none⟩ L (fun q v' hq => by
              rw [add_none]
              have hlt : q < P.cellsOf t := by have := (List.getElem?_eq_some_iff.1 hq).1; omega
              simp [L, hlt] at hq; subst hq
              have : o + q < cs.length := by omega
              have := hcell (o + q) _ (List.getElem?_eq_getElem this)
              rwa [← Nat.add_assoc] at this)
            rw [hlen] at this
            simp [Instr.loadAt, Instr.sureAddr, loadVar, run_agg hg, run_size hi, this]
        | false =>
          simp at hy
          obtain ⟨c, hc, rfl⟩ := hy
          refine ⟨rfl, vals o, ?_, hr _ _ hc⟩
          simp [Instr.loadAt, Instr.sureAddr, loadVar, run_agg hg, hcell _ _ hc]
      · cases hy
  · rename_i c
    cases c <;> try (simp at hs; done)
    rename_i k o
    cases hk : h.cells? k with
    | none => simp [hk] at hs
    | some mfc =>
      obtain ⟨m, f, cs⟩ := mfc
      simp only [hk, Option.map_eq_some_iff, Prod.mk.injEq] at hs
      obtain ⟨y', hy, rfl, rfl⟩ := hs
      have hg' := Hp.cells_get hk
      obtain ⟨B, hB, c, lo, hi', hw, hl, _, _, hr⟩ := r.hp k _ hg'
      cases hx with
      | ptr _ _ B' hu hj =>
        have := hj B hB; subst this
        unfold loadC at hy
        split at hy
        · rename_i hle
          cases g with
          | true =>
            simp at hy; subst hy
            refine ⟨rfl, .agg ((c.toList.drop o).take (P.cellsOf t)).toArray, ?_, rep_ofCs (by simpa using slice_rep hl hr hle)⟩
            simp [Instr.loadAt, Instr.sureAddr, loadVar, run_agg hg, run_size hi, run_loadC hw (show o + P.cellsOf t ≤ c.size by omega)]
          | false =>
            simp at hy
            obtain ⟨c', hc', rfl⟩ := hy
            obtain ⟨v, hv, hr'⟩ := hr _ _ hc'
            refine ⟨rfl, v, ?_, rep_ofC hr'⟩
            simp [Instr.loadAt, Instr.sureAddr, loadVar, run_agg hg, cell_eq hw, hv]
        · cases hy
theorem do_load (r : RH X U j M h ar w) {t : TypeId} {g : Bool} (hg : isAggT P t = some g) (h1 : g = true ∨ P.cellsOf t = 1) {x y : AV} {v : Value} (hx : ARep U j M (bsz w) x v) {u : Upd}
    (hs : (match (generalizing := false) x with
      | .p (.pp cs o) => (loadP (P.cellsOf t) g cs o).map (·, ([] : Upd))
      | .r (.ptr k o) => match h.cells? k with
        | some (_, _, cs) => (loadC (P.cellsOf t) g cs o).map (·, [])
        | none => none
      | _ => none) = some (y, u)) :
    Done X U j M h ar w fk ((do Pure.pure (.value (← Instr.loadAt t v)) : Sem Next).run P w) y u := by
  obtain ⟨rfl, v', h2, h3⟩ := load_run (P := P) r hg h1 hx hs
  exact Done.pure r h3 h2

end ops

end Gv
