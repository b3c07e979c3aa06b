/- Ninth part: structs and rows that are built, cleared rows, a string's bytes as a row, pointers seen as others, the functions without a body. -/
import Derived.Test.YtnjnlkaagfihbaaAOps8
import Derived.KernelRfl
set_option linter.all false
namespace Gv
open Go

section
variable {X : Ctx} {U : Nat → Prop} {j : Nat → Option Nat} {M : Mem} {h : Hp} {ar : Nat} {w : World} {fk : Nat} {P : Program} {S : Nat → Nat}

theorem set_fold (off : Nat) : ∀ (l : List Value) (k : Nat) (cells : Array Value),
    ((l.zipIdx k).foldl (fun cs (x : Value × Nat) => cs.setIfInBounds (off + x.2) x.1) cells).size = cells.size ∧
    (off + k + l.length ≤ cells.size → ∀ q, ((l.zipIdx k).foldl (fun cs (x : Value × Nat) => cs.setIfInBounds (off + x.2) x.1) cells)[q]? = if off + k ≤ q ∧ q < off + k + l.length then l[q - (off + k)]? else cells[q]?)
  | [], k, cells => by simp; omega
  | v :: l, k, cells => by
    obtain ⟨h1, h2⟩ := set_fold off l (k + 1) (cells.setIfInBounds (off + k) v)
    simp only [List.zipIdx_cons, List.foldl_cons]
    refine ⟨by rw [h1]; simp, fun hle q => ?_⟩
    simp only [List.length_cons] at hle ⊢
    rw [h2 (by simp; omega) q]
    by_cases c1 : off + (k + 1) ≤ q ∧ q < off + (k + 1) + l.length
    · rw [if_pos c1, if_pos (by omega), show q - (off + k) = q - (off + (k + 1)) + 1 by omega]; simp
    · rw [if_neg c1]
      simp only [Array.getElem?_setIfInBounds]
      by_cases c2 : off + k = q
      · subst c2
        rw [if_pos rfl, if_pos (by omega), if_pos (by omega)]; simp
      · rw [if_neg c2, if_neg (by omega)]

def PartRel (place : Nat → Option (Nat × Nat)) (U : Nat → Prop) (j : Nat → Option Nat) (M : Mem) (S : Nat → Nat) (x : Nat × Nat × AV) (y : Nat × Value) : Prop :=
  place y.1 = some (x.1, x.2.1) ∧ ARep U j M S x.2.2 y.2

theorem fill_rep {place : Nat → Option (Nat × Nat)} : ∀ {ps : List (Nat × Nat × AV)} {vs : List (Nat × Value)} {z cs : List C} {cells : Array Value}, All2 (PartRel place U j M S) ps vs → All2 (CRep U j M S) z cells.toList → fillParts z ps = some cs →
    ∃ cells', Instr.fill place cells vs = some cells' ∧ All2 (CRep U j M S) cs cells'.toList
  | [], [], z, cs, cells, _, hz, hf => by simp [fillParts] at hf; subst hf; exact ⟨cells, rfl, hz⟩
  | [], _ :: _, _, _, _, hr, _, _ => hr.elim
  | _ :: _, [], _, _, _, hr, _, _ => hr.elim
  | (o, n, v) :: ps, (i, x) :: vs, z, cs, cells, hr, hz, hf => by
    obtain ⟨⟨h1, h2⟩, hr⟩ := hr
    simp only [fillParts] at hf
    cases hc : v.cells with
    | none => simp [hc] at hf
    | some us =>
      simp only [hc] at hf
      split at hf
      · rename_i hcond
        obtain ⟨hlen, hle⟩ := hcond
        have hx := rep_cells hc h2
        have hxl := hx.len
        have hzl := hz.len
        simp at hxl hzl
        obtain ⟨g1, g2⟩ := set_fold o x.cells.toList 0 cells
        have hnew : All2 (CRep U j M S) (putCells z o us) ((x.cells.zipIdx.foldl (fun cs (c, j) => cs.setIfInBounds (o + j) c) cells)).toList := by
          have e : (x.cells.zipIdx.foldl (fun cs (c, j) => cs.setIfInBounds (o + j) c) cells) = ((x.cells.toList.zipIdx 0).foldl (fun cs (x : Value × Nat) => cs.setIfInBounds (o + x.2) x.1) cells) := by
            rw [← Array.foldl_toList, Array.toList_zipIdx]
          rw [e]
          refine All2.of (by rw [putCells_len]; simp [g1]; omega) fun q a b ha hb => ?_
          rw [putCells_get _ _ _ _ (by omega)] at ha
          have hb' := hb
          simp only [Array.getElem?_toList] at hb'
          rw [g2 (by simp; omega) q] at hb'
          by_cases hq : o ≤ q ∧ q < o + us.length
          · rw [if_pos hq] at ha
            rw [if_pos (by simp; omega)] at hb'
            obtain ⟨b', hb1, hb2⟩ := hx.get ha
            simp only [Nat.add_zero] at hb'
            rw [hb1] at hb'; injection hb' with hb'; subst hb'; exact hb2
          · rw [if_neg hq] at ha
            rw [if_neg (by simp; omega)] at hb'
            obtain ⟨b', hb1, hb2⟩ := hz.get ha
            rw [Array.getElem?_toList] at hb1
            rw [hb1] at hb'; injection hb' with hb'; subst hb'; exact hb2
        obtain ⟨cells', k1, k2⟩ := fill_rep hr hnew hf
        refine ⟨cells', ?_, k2⟩
        simp only [Instr.fill, h1]
        rw [if_neg (by simp; omega)]
        exact k1
      · cases hf

theorem parts_rep {place : Nat → Option (Nat × Nat)} {s : St} {ρ : Operand → Value} (hρ : ∀ {x : Operand} {y : Opd}, cOpd x = some y → ARep U j M S (s.ev y) (ρ x)) : ∀ {l : List (Nat × Operand)} {ps : List (Nat × Nat × Opd)}, cParts place l = some ps →
    All2 (PartRel place U j M S) (ps.map fun (o, n, x) => (o, n, s.ev x)) (l.map fun (i, x) => (i, ρ x))
  | [], ps, hc => by simp [cParts] at hc; subst hc; trivial
  | (i, x) :: l, ps, hc => by
    simp only [cParts] at hc
    split at hc
    · rename_i o n v r h1 h2 h3
      injection hc with hc; subst hc
      exact ⟨⟨h1, hρ h2⟩, parts_rep hρ h3⟩
    · cases hc

theorem run_places {fs : List Field} (hfs : fs.all (fun f => (P.info? f.type).isSome) = true) : (fs.mapM fun (f : Field) => do Pure.pure (f.offset, ← Go.sizeOf f.type) : Sem (List (Nat × Nat))).run P w = .ok (fs.map fun f => (f.offset, P.cellsOf f.type)) w := by
  induction fs with
  | nil => simp
  | cons f fs ih =>
    simp only [List.all_cons, Bool.and_eq_true] at hfs
    obtain ⟨i, hi⟩ := Option.isSome_iff_exists.1 hfs.1
    have ih' := ih hfs.2
    simp at ih'
    simp [List.mapM_cons, run_size (P := P) (w := w) hi, ih']

theorem do_build (r : RH X U j M h ar w) {t : TypeId} {ps : Array (Nat × Operand)} {z : List C} {qs : List (Nat × Nat × Opd)} (hb : cBuild P t ps = some (.build z qs)) {s : St} {ρ : Operand → Value} (hρ : ∀ {x : Operand} {y : Opd}, cOpd x = some y → ARep U j M (bsz w) (s.ev y) (ρ x)) {y : AV} {u : Upd}
    (hs : ((fillParts z (qs.map fun (o, n, x) => (o, n, s.ev x))).map fun cs => (AV.ofCs cs, ([] : Upd))) = some (y, u)) :
    Done X U j M h ar w fk ((do Pure.pure (.value (← Instr.build t (ps.map fun (i, x) => (i, ρ x)))) : Sem Next).run P w) y u := by
  simp only [Option.map_eq_some_iff] at hs
  obtain ⟨cs, hcs, hs⟩ := hs
  injection hs with e1 e2; subst e1 e2
  unfold cBuild at hb
  split at hb
  · cases hb
  · rename_i z' hz
    obtain ⟨i, v, hi, hv, hl, hc⟩ := zeroC_rep hz
    have hzr := constCs_rep (U := U) (j := j) (M := M) (S := bsz w) hc
    split at hb
    · rename_i fs hu
      split at hb
      · rename_i hall
        simp only [Option.map_eq_some_iff] at hb
        obtain ⟨qs', hq, e⟩ := hb
        injection e with e1 e2; subst e1 e2
        have hrel := parts_rep (U := U) (j := j) (M := M) (S := bsz w) (s := s) (ρ := ρ) hρ hq
        obtain ⟨cells', g1, g2⟩ := fill_rep hrel hzr hcs
        refine Done.pure r (x := AV.ofCs cs) (v := .agg cells') (rep_ofCs g2) ?_
        have hpl : (fs.mapM fun (f : Field) => do Pure.pure (f.offset, ← Go.sizeOf f.type) : Sem (Array (Nat × Nat))).run P w = .ok (fs.map fun f => (f.offset, P.cellsOf f.type)) w := by
          rw [Array.mapM_eq_mapM_toList]
          simp only [Sem.run_map, run_places hall, Result.andThen_ok]
          congr 1
          apply Array.ext'
          simp
        simp only [Instr.build, Sem.run_bind, run_zero (P := P) (w := w) hi hv, Result.andThen_ok, run_und (w := w) hu, hpl]
        have hfun : (fun x : Nat => ((fs.map fun f => (f.offset, P.cellsOf f.type))[x]? : Option (Nat × Nat))) = fun i => (fs[i]?).map fun f => (f.offset, P.cellsOf f.type) := by
          funext i; simp
        simp only [Array.toList_map] at g1 ⊢
        rw [hfun, g1]
        simp
      · cases hb
    · rename_i n e hu
      split at hb
      · rename_i hall
        obtain ⟨ie, hie⟩ := Option.isSome_iff_exists.1 hall
        simp only [Option.map_eq_some_iff] at hb
        obtain ⟨qs', hq, e⟩ := hb
        injection e with e1 e2; subst e1 e2
        have hrel := parts_rep (U := U) (j := j) (M := M) (S := bsz w) (s := s) (ρ := ρ) hρ hq
        obtain ⟨cells', g1, g2⟩ := fill_rep hrel hzr hcs
        refine Done.pure r (x := AV.ofCs cs) (v := .agg cells') (rep_ofCs g2) ?_
        simp only [Instr.build, Sem.run_bind, run_zero (P := P) (w := w) hi hv, Result.andThen_ok, run_und (w := w) hu, run_size (P := P) (w := w) hie]
        simp only [Array.toList_map] at g1 ⊢
        rw [g1]
        simp
      · cases hb
    · cases hb

theorem do_bsl (r : RH X U j M h ar w) (hf : ¬ U fk) (ha : ar ≤ fk) {t e : TypeId} {len : Nat} {ps : Array (Nat × Operand)} {z : List C} {qs : List (Nat × Nat × Opd)} (ht : P.underlying t = some (.slice e)) (hz : zeroC P e = some z) (hq : cParts (fun i => some (i * P.cellsOf e, P.cellsOf e)) ps.toList = some qs) (hlim : len * P.cellsOf e ≤ 16777216) (hz0 : P.cellsOf e ≠ 0)
    {s : St} {ρ : Operand → Value} (hρ : ∀ {x : Operand} {y : Opd}, cOpd x = some y → ARep U j M (bsz w) (s.ev y) (ρ x)) {y : AV} {u : Upd}
    (hs : ((fillParts (repl len z) (qs.map fun (o, n, x) => (o, n, s.ev x))).map fun cs => (AV.r (.slc fk 0 len (P.cellsOf e)), ([(fk, some (.cells ⟨false, e⟩ 0 cs))] : Upd))) = some (y, u)) :
    Done X U j M h ar w fk ((do Pure.pure (.value (← Instr.buildSlice t len (ps.map fun (i, x) => (i, ρ x)))) : Sem Next).run P w) y u := by
  simp only [Option.map_eq_some_iff] at hs
  obtain ⟨cs, hcs, hs⟩ := hs
  injection hs with e1 e2; subst e1 e2
  obtain ⟨i, v, hi, hv, hl, hc⟩ := zeroC_rep hz
  have hzr := constCs_rep (U := U) (j := j) (M := M) (S := bsz w) hc
  have hzl := hzr.len
  have hsz : v.cells.size = P.cellsOf e := by simp at hzl; omega
  obtain ⟨us, g1, g2, g3⟩ := All2.repl hzr len
  have hzeros := zeros_list v.cells len us (by rw [g2]; simp) (by simpa using g3)
  have hz3 : ((Array.range (len * P.cellsOf e)).map fun i => v.cells[i % v.cells.size]!).toList = us := by rw [← hzeros, hsz]
  have hrel := parts_rep (U := U) (j := j) (M := M) (S := bsz w) (s := s) (ρ := ρ) hρ hq
  obtain ⟨cells', k1, k2⟩ := fill_rep (cells := (Array.range (len * P.cellsOf e)).map fun i => v.cells[i % v.cells.size]!) hrel (by rw [hz3]; exact g1) hcs
  have hlen : cells'.size = len * P.cellsOf e := by
    have h1 := k2.len
    have h2 : ∀ (ps : List (Nat × Nat × AV)) (z cs : List C), fillParts z ps = some cs → cs.length = z.length := by
      intro ps
      induction ps with
      | nil => intro z cs h; simp [fillParts] at h; rw [h]
      | cons p ps ih =>
        intro z cs h
        obtain ⟨o, n, v⟩ := p
        simp only [fillParts] at h
        split at h
        · split at h
          · rw [ih _ _ h, putCells_len]
          · cases h
        · cases h
    have h3 := h2 _ _ _ hcs
    have h4 := g1.len
    simp at h1
    rw [← h1, h3, h4, g2]; simp [hsz]
  refine Done.new r hf ha (v := .slice (some ⟨w.heap.size, 0, none⟩) len len) (o := .cells cells' e) ?_ (fun U' j' ev => ?_) (fun U' j' hu hj _ => ?_)
  · have hnl : ¬ (16777216 < len * P.cellsOf e) := by omega
    simp only [Array.toList_map] at k1
    by_cases hn0 : len * P.cellsOf e = 0
    · have hr0 : Array.range (len * P.cellsOf e) = #[] := by rw [hn0]; rfl
      rw [hr0] at k1
      simp only [Array.map_empty] at k1
      simp [Instr.buildSlice, run_und (w := w) ht, run_size (P := P) (w := w) hi, hn0, show Array.range 0 = #[] from rfl, k1, newRow]
    · simp [Instr.buildSlice, run_und (w := w) ht, run_size (P := P) (w := w) hi, run_zero (P := P) (w := w) hi hv, hn0, hnl, k1, newRow]
  · exact brep_cells (by rw [heap_alloc, if_pos rfl]) (All2.ev ev k2) false
  · refine .slc fk 0 len _ _ len hu (Nat.le_refl _) fun B hB => .inl ?_
    rw [hj] at hB; injection hB with hB; subst hB
    refine ⟨rfl, ?_⟩
    rw [bsz_cells (heap_alloc _ _ _ |>.trans (if_pos rfl)), hlen]; omega

theorem do_clr (r : RH X U j M h ar w) {ts : Array TypeId} {t e : TypeId} {z : Nat} {zero : List C} (h0 : ts[0]? = some t) (ht : P.underlying t = some (.slice e)) (hz : zeroC P e = some zero) (hzs : z = P.cellsOf e) (ty : TypeId) {x : AV} {v : Value} (hx : ARep U j M (bsz w) x v) {y : AV} {u : Upd}
    (hs : (match (generalizing := false) x with
      | .r .nils => some (AV.u, ([] : Upd))
      | .r .e0 => some (.u, [])
      | .r (.slc k o n z') => if n = 0 then some (.u, []) else
        match h.cells? k with
        | some (m, f, cs) => if z' = z ∧ f ≤ o ∧ o + n * z ≤ cs.length ∧ zero.length = z then some (.u, [(k, some (.cells m f (putCells cs o (repl n zero))))]) else none
        | none => none
      | .p (.list _ l) => if l.isEmpty then some (.u, []) else none
      | _ => none) = some (y, u)) :
    Done X U j M h ar w fk ((do Pure.pure (.value (← Builtin.clear_ ts ty #[v])) : Sem Next).run P w) y u := by
  have go : ∀ a c, v = .slice a 0 c → (Builtin.clear_ ts ty #[v]).run P w = .ok (.tuple #[]) w := by
    intro a c hv; subst hv
    cases a <;> simp [Builtin.clear_, h0, run_und (w := w) ht]
  cases x <;> try (simp at hs; done)
  · rename_i c
    cases c <;> try (simp at hs; done)
    rename_i z' l
    simp only at hs
    split at hs
    · rename_i he
      have : l = [] := by simpa using he
      subst this
      injection hs with hs; injection hs with e1 e2; subst e1 e2
      obtain ⟨a, cap, hv, _⟩ := prep_len hx
      exact Done.pure r (x := .u) (v := .tuple #[]) trivial (go _ _ hv)
    · cases hs
  · rename_i c
    cases c <;> try (simp at hs; done)
    · injection hs with hs; injection hs with e1 e2; subst e1 e2
      have hv : v = .slice none 0 0 := by cases hx; rfl
      exact Done.pure r (x := .u) (v := .tuple #[]) trivial (go _ _ hv)
    · rename_i k o n z'
      simp only at hs
      split at hs
      · rename_i hn; subst hn
        injection hs with hs; injection hs with e1 e2; subst e1 e2
        obtain ⟨a, cap, hv, _⟩ := crep_slc hx
        exact Done.pure r (x := .u) (v := .tuple #[]) trivial (go _ _ hv)
      · rename_i hn
        cases hk : h.cells? k with
        | none => simp [hk] at hs
        | some mfc =>
          obtain ⟨m, f, cs⟩ := mfc
          simp only [hk] at hs
          split at hs
          · rename_i hcond
            obtain ⟨rfl, c2, c3, c4⟩ := hcond
            injection hs with hs; injection hs with e1 e2; subst e1 e2
            have hg := Hp.cells_get hk
            obtain ⟨B, hB, _⟩ := r.hp k _ hg
            obtain ⟨a, cap, rfl, hu, hcap, hb⟩ := crep_slc hx
            rcases hb B hB with ⟨rfl, _⟩ | ⟨h1, _⟩
            · obtain ⟨i, zv, hi, hv, hl, hc⟩ := zeroC_rep hz
              have hzr := constCs_rep (U := U) (j := j) (M := M) (S := bsz w) hc
              have hzl := hzr.len
              have hsz : zv.cells.size = P.cellsOf e := by simp at hzl; omega
              obtain ⟨us, g1, g2, g3⟩ := All2.repl hzr n
              have hzeros := zeros_list zv.cells n us (by rw [g2]; simp) (by simpa using g3)
              have hrl : (repl n zero).length = n * z' := by rw [g1.len, g2]; simp [hsz, hzs]
              obtain ⟨w', hrun, r', ev'⟩ := run_put (P := P) r hB hg g1 (by rw [hrl]; exact c3) c2
              refine ⟨.value (.tuple #[]), w', .tuple #[], ?_, .inl rfl, U, j, M, fun _ hk => .inl hk, r', ev', trivial⟩
              obtain ⟨n', rfl⟩ : ∃ n', n = n' + 1 := ⟨n - 1, by omega⟩
              have hz2 : (Builtin.zeroCells zv.cells (n' + 1)).toList = us := hzeros
              simp [Builtin.clear_, h0, run_und (w := w) ht, run_zero (P := P) (w := w) hi hv, hz2, hrun]
            · exact (hn h1).elim
          · cases hs
    · injection hs with hs; injection hs with e1 e2; subst e1 e2
      have hv : ∃ a, v = .slice a 0 0 := by cases hx; exact ⟨_, rfl⟩
      obtain ⟨a, hv⟩ := hv
      exact Done.pure r (x := .u) (v := .tuple #[]) trivial (go _ _ hv)

theorem alloc_freeze (w : World) (c : Array Value) (e : TypeId) (n : Nat) : (w.alloc (.cells c e)).freeze { block := w.heap.size, off := n } 1 = w.alloc (.cells c e (n, n + 1)) := by
  unfold World.freeze World.alloc
  rw [if_neg (by omega)]
  congr 1
  apply Array.ext_getElem?
  intro q
  rw [Array.getElem?_modify, Array.getElem?_push, Array.getElem?_push]
  by_cases hq : w.heap.size = q
  · subst hq; simp
  · simp [hq, Ne.symm hq]

theorem do_s2b (r : RH X U j M h ar w) (hf : ¬ U fk) (ha : ar ≤ fk) {s d e : TypeId} (h1 : P.underlying s = some .string) (h2 : P.underlying d = some (.slice e)) (h3 : P.underlying e = some (.int .u8)) {x : AV} {v : Value} (hx : ARep U j M (bsz w) x v) {y : AV} {u : Upd}
    (hs : (match (generalizing := false) x with
      | .p (.str b) => some (AV.r (.slc fk 0 b.length 1), ([(fk, some (.cells ⟨true, e⟩ 0 (strCells b)))] : Upd))
      | _ => none) = some (y, u)) :
    Done X U j M h ar w fk ((do Pure.pure (.value (← convert s d v)) : Sem Next).run P w) y u := by
  cases x <;> try (simp at hs; done)
  rename_i c
  cases c <;> try (simp at hs; done)
  rename_i b
  injection hs with hs; injection hs with e1 e2; subst e1 e2
  obtain ⟨t, rfl, hb⟩ := prep_str hx
  have hlen : t.size = b.length := by rw [← hb]; exact (bytes_len t).symm
  let cap := (Question.appendCap t.size 0 e).cut (w.tape w.drawn (.appendCap t.size 0 e))
  have hcap : t.size ≤ cap := cut_ge _ _ _ _
  let cells : Array Value := (t.data.map fun b => Value.int .u8 b.toNat) ++ Array.replicate (cap - t.size) (.int .u8 0)
  have hcs : cells.size = cap := by simp [cells, show t.data.size = t.size from rfl]; omega
  have hforced : (Question.appendCap t.size 0 e).forced = false := rfl
  have hrun : (convert s d (.string t)).run P w = .ok (.slice (some ⟨w.heap.size, 0, none⟩) t.size cap) (w.drew.alloc (.cells cells e (cap, cap + 1))) := by
    have hsh : (w.drew.alloc (.cells cells e)).shape? w.heap.size = some (e, cap) := by
      have : (w.drew.alloc (.cells cells e)).heap[w.heap.size]? = some (.cells cells e (0, 0)) := heap_alloc w.drew _ _ |>.trans (if_pos rfl)
      unfold World.shape?; rw [this]; simp only [hcs]
    have hfr := alloc_freeze w.drew cells e cap
    have hchoose : (choose (.appendCap t.size 0 e)).run P w = .ok cap w.drew := by simp [hforced]; rfl
    have hnew : (newRow e cells).run P w.drew = .ok ⟨w.heap.size, 0, none⟩ (w.drew.alloc (.cells cells e)) := by simp [newRow]; rfl
    simp only [convert, Sem.run_bind, run_und (w := w) h1, run_und (w := w) h2, run_und (w := w) h3, Result.andThen_ok, Conv.stringToBytes, hchoose]
    rw [hnew]
    simp only [Result.andThen_ok, markStringish, Sem.run_bind, run_shape, hsh, run_freeze, Sem.run_pure]
    rw [show w.heap.size = w.drew.heap.size from rfl, hfr]
  have hv : All2 (CRep U j M (bsz w)) (strCells b ++ List.replicate (cap - t.size) (.p (.int .u8 0))) cells.toList := by
    simp only [cells, Array.toList_append]
    refine All2.app ?_ ?_
    · simp only [strCells, Array.toList_map]
      rw [hb, All2.mapL, All2.mapR]
      exact All2.of rfl fun i a c h1 h2 => by rw [h1] at h2; injection h2 with h2; subst h2; exact .p (.int _ _)
    · simp only [Array.toList_replicate]
      exact All2.of (by simp) fun i a c h1 h2 => by
        rw [List.getElem?_replicate] at h1 h2
        split at h1
        · rename_i hlt
          rw [if_pos hlt] at h2
          injection h1 with h1; injection h2 with h2; subst h1 h2; exact .p (.int _ _)
        · cases h1
  obtain ⟨U', j', g1, g2, g3, g4, g5⟩ := r.drew.alloc hf ha (b := .cells ⟨true, e⟩ 0 (strCells b)) (o := .cells cells e (cap, cap + 1)) (fun U' j' ev => by
    refine ⟨cells, cap, cap + 1, heap_alloc _ _ _ |>.trans (if_pos rfl), by simp [strCells, hcs]; omega, by simp, fun _ => .inr ⟨rfl, by omega⟩, fun i x hx => ?_⟩
    have hx' : (strCells b ++ List.replicate (cap - t.size) (.p (.int .u8 0)))[i]? = some x := by
      rw [List.getElem?_append_left (List.getElem?_eq_some_iff.1 hx).1]; exact hx
    obtain ⟨v, k1, k2⟩ := hv.get hx'
    have k2' : CRep U j M (bsz w.drew) x v := k2
    exact ⟨v, by simpa using k1, k2'.ev ev⟩)
  refine ⟨_, _, .slice (some ⟨w.heap.size, 0, none⟩) t.size cap, by simp only [Sem.run_bind, hrun, Result.andThen_ok, Sem.run_pure], .inl rfl, U', j', M, fun k hk => (g1 k hk).imp id fun e => by subst e; exact ⟨Nat.le_refl _, by unfold stride; omega⟩, by simpa [Hp.upd] using g4, g5, ?_⟩
  rw [hlen]
  refine .slc fk 0 b.length 1 _ cap g3 (by omega) fun B hB => .inl ?_
  rw [g2] at hB; injection hB with hB; subst hB
  refine ⟨rfl, ?_⟩
  rw [bsz_cells (heap_alloc _ _ _ |>.trans (if_pos rfl)), hcs]; omega

theorem do_uptr (r : RH X U j M h ar w) {s d e : TypeId} (hsd : (P.underlying s = some (.pointer e) ∧ P.underlying d = some .unsafePointer) ∨ (P.underlying s = some .unsafePointer ∧ P.underlying d = some (.pointer e))) {x : AV} {v : Value} (hx : ARep U j M (bsz w) x v) {y : AV} {u : Upd}
    (hs : (match (generalizing := false) x with
      | .p .nilp => some (AV.p .nilp, ([] : Upd))
      | .r (.ptr k o) => match h.cells? k with
        | some (m, _, cs) => if m.ty = e ∧ o = 0 ∧ P.cellsOf e ≤ cs.length ∧ 0 < P.cellsOf e then some (.r (.ptr k o), []) else none
        | none => none
      | _ => none) = some (y, u)) :
    Done X U j M h ar w fk ((do Pure.pure (.value (← convert s d v)) : Sem Next).run P w) y u := by
  cases x <;> try (simp at hs; done)
  · rename_i c
    cases c <;> try (simp at hs; done)
    injection hs with hs; injection hs with e1 e2; subst e1 e2
    have hv : v = .pointer none := by cases hx; rfl
    subst hv
    refine Done.pure r (x := .p .nilp) (v := .pointer none) .nilp ?_
    rcases hsd with ⟨h1, h2⟩ | ⟨h1, h2⟩ <;> simp [convert, run_und (w := w) h1, run_und (w := w) h2, Conv.unsafePointer]
  · rename_i c
    cases c <;> try (simp at hs; done)
    rename_i k o
    cases hk : h.cells? k with
    | none => simp [hk] at hs
    | some mfc =>
      obtain ⟨m, f, cs⟩ := mfc
      simp only [hk] at hs
      split at hs
      · rename_i hc
        obtain ⟨rfl, rfl, h3, h4⟩ := hc
        injection hs with hs; injection hs with e1 e2; subst e1 e2
        obtain ⟨B, hB, _⟩ := r.hp k _ (Hp.cells_get hk)
        obtain ⟨c, lo, hi, hw, hl, _⟩ := r.at hB (Hp.cells_get hk)
        obtain ⟨B', rfl, hu, hBB⟩ := crep_ptr hx
        have := hBB B hB; subst this
        have hsh : w.shape? B = some (m.ty, c.size) := by simp [World.shape?, hw]
        have hinfo : ∃ i, P.info? m.ty = some i ∧ i.size = P.cellsOf m.ty := by
          cases hi : P.info? m.ty with
          | none => simp [Program.cellsOf, hi] at h4
          | some i => exact ⟨i, rfl, by simp [Program.cellsOf, hi]⟩
        obtain ⟨i, hi, hsz⟩ := hinfo
        refine Done.pure r (x := .r (.ptr k 0)) (v := .pointer (some ⟨B, 0, none⟩)) hx ?_
        rcases hsd with ⟨h1, h2⟩ | ⟨h1, h2⟩
        · exact Lib.run_to_unsafe w ⟨B, 0, none⟩ h1 h2 hi (by omega) hsh (show 0 < c.size by omega)
        · refine Lib.run_from_unsafe w ⟨B, 0, none⟩ h1 h2 hi hsh ?_
          have hd : P.depth = (2 * (P.types.size + Made.depth) + 1) + 1 := rfl
          rw [hd]
          simp only [liesAt, Bool.or_eq_true]
          left
          rw [hd]
          have : 0 < c.size / P.cellsOf m.ty := Nat.div_pos (by omega) h4
          have h5 : P.cellsOf m.ty ≠ 0 := by omega
          simp [rowAt, h5, sameLayout]
          left; omega
      · cases hs

/-! Functions without a body. -/
theorem find_noEscape {fn : Func} (h : fn.name = "internal/abi.NoEscape") : Extern.find fn = some Extern.AbiNoEscape.same := by
  have h1 : Extern.allGenericRows.lookup "internal/abi.NoEscape" = none := by kernel_rfl
  have h2 : Extern.allTypedRows.lookup "internal/abi.NoEscape" = none := by kernel_rfl
  have h3 : Extern.allRows.lookup "internal/abi.NoEscape" = some Extern.AbiNoEscape.same := by kernel_rfl
  simp [Extern.find, h, h1, h2, h3]
theorem find_idx {fn : Func} (h : fn.name = "internal/bytealg.IndexByteString" ∨ fn.name = "internal/bytealg.IndexByte") : Extern.find fn = some Extern.BytealgIndexByte.indexByte := by
  have h1 : Extern.allGenericRows.lookup "internal/bytealg.IndexByteString" = none := by kernel_rfl
  have h2 : Extern.allTypedRows.lookup "internal/bytealg.IndexByteString" = none := by kernel_rfl
  have h3 : Extern.allRows.lookup "internal/bytealg.IndexByteString" = some Extern.BytealgIndexByte.indexByte := by kernel_rfl
  have h4 : Extern.allGenericRows.lookup "internal/bytealg.IndexByte" = none := by kernel_rfl
  have h5 : Extern.allTypedRows.lookup "internal/bytealg.IndexByte" = none := by kernel_rfl
  have h6 : Extern.allRows.lookup "internal/bytealg.IndexByte" = some Extern.BytealgIndexByte.indexByte := by kernel_rfl
  rcases h with h | h <;> simp [Extern.find, h, h1, h2, h3, h4, h5, h6]

theorem idx_find (c : UInt8) (s : ByteArray) : ∀ (l : List UInt8) (k : Nat), s.data.toList.drop k = l →
    idxByte c l k = (match ((List.range' k l.length).find? fun i => s[i]! == c) with | some i => (i : Int) | none => -1)
  | [], k, h => by simp [idxByte]
  | b :: l, k, h => by
    have hlt : k < s.data.toList.length := by
      rcases Nat.lt_or_ge k s.data.toList.length with h1 | h1
      · exact h1
      · rw [List.drop_eq_nil_of_le h1] at h; cases h
    rw [List.drop_eq_getElem_cons hlt] at h
    injection h with h1 h2
    have hk : s[k]! = b := by
      have : k < s.size := by rw [← bytes_len]; exact hlt
      rw [getElem!_pos s k this, ← h1]; rfl
    have ih := idx_find c s l (k + 1) h2
    simp only [idxByte, List.length_cons, List.range'_succ, List.find?_cons, hk]
    by_cases e : b = c
    · subst e; simp
    · simp only [e, if_false]
      have : (b == c) = false := by simpa using e
      rw [this]; exact ih

theorem run_idx (s : ByteArray) (c : Int) : (Extern.BytealgIndexByte.indexByte #[.string s, .int .u8 c]).run P w = .ok (.int .i64 (idxByte (UInt8.ofNat c.toNat) s.data.toList 0)) w := by
  have h := idx_find (UInt8.ofNat c.toNat) s s.data.toList 0 rfl
  rw [bytes_len, ← List.range_eq_range'] at h
  have hdef : Extern.BytealgIndexByte.indexByte #[.string s, .int .u8 c] = (do
      let b ← Extern.Bytes.bytesOf (.string s)
      let c ← Extern.Bytes.asByte (.int .u8 c)
      match (List.range b.size).find? fun i => b[i]! == c with
      | some i => pure (goInt i)
      | none => pure (goInt (-1))) := rfl
  rw [hdef, h]
  have hc : c.toNat.toUInt8 = UInt8.ofNat c.toNat := rfl
  simp only [Extern.Bytes.bytesOf, Extern.Bytes.asByte, Sem.run_bind, Sem.run_pure, Result.andThen_ok, hc]
  cases hf : (List.range s.size).find? fun i => s[i]! == UInt8.ofNat c.toNat <;> simp [goInt]

theorem run_callExt {f : FuncId} {fn : Func} {e : Array Value → Sem Value} {args : Array Value} {v : Value} (hf : P.funcs[f]? = some fn) (h1 : fn.name ≠ "runtime.NumGoroutine") (h2 : fn.body.isNone = true) (h3 : (Extern.findNext fn).isNone = true) (h4 : Extern.find fn = some e) (h5 : (e args).run P w = .ok v w) :
    (callFunc f args).run P w = .ok (.value v) w := by
  have h3' : Extern.findNext fn = none := by simpa using h3
  have h2' : fn.body = none := by simpa using h2
  simp [callFunc, hf, h1, h2', h3', h4, h5]

theorem do_ext (r : RH X U j M h ar w) {f : FuncId} {fn : Func} (hf : P.funcs[f]? = some fn) (h1 : fn.name ≠ "runtime.NumGoroutine") (h2 : fn.body.isNone = true) (h3 : (Extern.findNext fn).isNone = true) {e : Ext} (he : extOf fn.name = some e) {l : List AV} {args : Array Value} (hx : All2 (ARep U j M (bsz w)) l args.toList) {y : AV} {u : Upd}
    (hs : (match (generalizing := false) e, l with
      | .idxByteStr, [.p (.str b), .p (.int .u8 c)] => some (AV.p (.int .i64 (idxByte (UInt8.ofNat c.toNat) b 0)), ([] : Upd))
      | .same, [x] => match x with
        | .p .nilp => some (.p .nilp, [])
        | .r (.ptr k o) => some (.r (.ptr k o), [])
        | _ => none
      | _, _ => none) = some (y, u)) :
    Done X U j M h ar w fk ((callFunc f args).run P w) y u := by
  split at hs
  · rename_i b c
    injection hs with hs; injection hs with e1 e2; subst e1 e2
    have hn : fn.name = "internal/bytealg.IndexByteString" := by
      unfold extOf at he
      split at he
      · assumption
      · split at he
        · cases he
        · cases he
    match ha : args.toList, hx with
    | [v1, v2], hx =>
      obtain ⟨s, rfl, hb⟩ := prep_str hx.1
      have := prep_int hx.2.1; subst this
      have hargs : args = #[.string s, .int .u8 c] := by apply Array.ext'; rw [ha]
      subst hargs
      refine ⟨_, w, .int .i64 (idxByte (UInt8.ofNat c.toNat) b 0), run_callExt hf h1 h2 h3 (find_idx (.inl hn)) (run_idx s c), .inl (by rw [hb]), U, j, M, fun _ hk => .inl hk, r, Ev.refl _ _ _ _, PRep.int _ _⟩
    | [], hx => exact hx.elim
    | [_], hx => exact hx.2.elim
    | _ :: _ :: _ :: _, hx => exact hx.2.2.elim
  · rename_i x
    have hn : fn.name = "internal/abi.NoEscape" := by
      unfold extOf at he
      split at he
      · cases he
      · split at he
        · assumption
        · cases he
    match ha : args.toList, hx with
    | [v1], hx =>
      have hargs : args = #[v1] := by apply Array.ext'; rw [ha]
      subst hargs
      have hy : y = x ∧ u = [] := by
        split at hs
        · injection hs with hs; injection hs with e1 e2; exact ⟨e1.symm, e2.symm⟩
        · injection hs with hs; injection hs with e1 e2; exact ⟨e1.symm, e2.symm⟩
        · cases hs
      obtain ⟨rfl, rfl⟩ := hy
      exact ⟨_, w, v1, run_callExt hf h1 h2 h3 (find_noEscape hn) rfl, .inl rfl, U, j, M, fun _ hk => .inl hk, r, Ev.refl _ _ _ _, hx.1⟩
    | [], hx => exact hx.elim
    | _ :: _ :: _, hx => exact hx.2.elim
  · cases hs

end

end Gv
