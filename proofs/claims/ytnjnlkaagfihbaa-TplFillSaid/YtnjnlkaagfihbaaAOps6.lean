/- Sixth part: append, slices of slices, what is built. -/
import Derived.Test.YtnjnlkaagfihbaaAOps5
set_option linter.all false
namespace Gv
open Go

section
variable {X : Ctx} {U : Nat → Prop} {j : Nat → Option Nat} {M : Mem} {h : Hp} {ar : Nat} {w : World} {fk : Nat} {P : Program} {S : Nat → Nat}

theorem RH.drew (r : RH X U j M h ar w) : RH X U j M h ar w.drew := r.same rfl ⟨rfl, rfl, rfl⟩

theorem cut_ge (need old : Nat) (e : TypeId) (t : Nat) : need ≤ (Question.appendCap need old e).cut t := by simp [Question.cut]

theorem All2.repl {z : List C} {vs : List Value} (h : All2 (CRep U j M S) z vs) : ∀ n, ∃ us, All2 (CRep U j M S) (Gv.repl n z) us ∧ us.length = n * vs.length ∧ ∀ i, i < us.length → us[i]? = vs[i % vs.length]?
  | 0 => ⟨[], trivial, by simp, by simp⟩
  | n + 1 => by
    obtain ⟨us, h1, h2, h3⟩ := All2.repl h n
    refine ⟨vs ++ us, h.app h1, by simp [h2, Nat.succ_mul, Nat.add_comm], fun i hi => ?_⟩
    have hi : i < vs.length + us.length := by simpa using hi
    by_cases hlt : i < vs.length
    · rw [List.getElem?_append_left hlt, Nat.mod_eq_of_lt hlt]
    · have hge : vs.length ≤ i := Nat.le_of_not_lt hlt
      have hsub : i - vs.length < us.length := by omega
      rw [List.getElem?_append_right hge, h3 _ hsub]
      have : i = (i - vs.length) + vs.length := by omega
      conv => rhs; rw [this, Nat.add_mod_right]

theorem zeros_list (z : Array Value) (n : Nat) : ∀ us : List Value, us.length = n * z.size → (∀ i, i < us.length → us[i]? = z.toList[i % z.size]?) → ((Array.range (n * z.size)).map fun i => z[i % z.size]!).toList = us := by
  intro us h1 h2
  apply List.ext_getElem?
  intro i
  by_cases hi : i < us.length
  · rw [h2 i hi]
    have hz : 0 < z.size := by
      rcases Nat.eq_zero_or_pos z.size with h0 | h0
      · rw [h0, Nat.mul_zero] at h1; omega
      · exact h0
    have hm := Nat.mod_lt i hz
    have : i < n * z.size := by omega
    simp [this, hm, getElem!_pos]
  · have hl : ((Array.range (n * z.size)).map fun i => z[i % z.size]!).toList.length = us.length := by simp [h1]
    rw [List.getElem?_eq_none (by omega), List.getElem?_eq_none (by omega)]

/-! What is appended. -/
theorem app_cells (r : RH X U j M h ar w) {z : Nat} {y : AV} {v : Value} (hy : ARep U j M (bsz w) y v) {m : Nat} {new : List C} (ha : appCells h z y = some (m, new)) :
    ∃ vs, (Builtin.lenOf v).run P w = .ok m w ∧ (Builtin.firstCells z m v).run P w = .ok vs.toArray w ∧ All2 (CRep U j M (bsz w)) new vs ∧ vs.length = m * z := by
  unfold appCells at ha
  split at ha
  · rename_i s
    split at ha
    · rename_i hz; subst hz
      injection ha with ha; injection ha with h1 h2; subst h1 h2
      obtain ⟨b, rfl, hb⟩ := prep_str hy
      have hlen : b.size = s.length := by rw [← hb]; exact (bytes_len b).symm
      refine ⟨s.map fun c => .int .u8 c.toNat, by simp [Builtin.lenOf, hlen], ?_, ?_, by simp⟩
      · simp only [Builtin.firstCells, Sem.run_pure]
        congr 1
        apply Array.ext'
        have : (b.extract 0 s.length).data.toList = s := by
          rw [← hb, bytes_len]; simp
        simp only [Array.toList_map, this]
      · simp only [strCells]
        rw [All2.mapL, All2.mapR]
        exact All2.of rfl fun i a c h1 h2 => by rw [h1] at h2; injection h2 with h2; subst h2; exact .p (.int _ _)
    · cases ha
  · rename_i z' l
    split at ha
    · rename_i he
      injection ha with ha; injection ha with h1 h2; subst h1 h2
      have : l = [] := by simpa using he
      subst this
      obtain ⟨a, cap, rfl, _⟩ := prep_len hy
      refine ⟨[], by simp [Builtin.lenOf], ?_, trivial, by simp⟩
      cases a <;> simp [Builtin.firstCells, loadCells, loadCellsFrom]
    · rename_i he
      split at ha
      · rename_i hz; subst hz
        injection ha with ha; injection ha with h1 h2; subst h1 h2
        have hne : l ≠ [] := fun e => he (by simp [e])
        obtain ⟨a, cap, vs, rfl, hr, hrun⟩ := list_cells (P := P) r.mem hy hne
        obtain ⟨_, _, _, _, _, hu, _⟩ := prep_list hy hne
        refine ⟨vs, by simp [Builtin.lenOf], by simpa [Builtin.firstCells] using hrun, All2.p.2 hr, ?_⟩
        rw [← hr.len, flat_len hu]
      · cases ha
  · injection ha with ha; injection ha with h1 h2; subst h1 h2
    cases hy
    exact ⟨[], by simp [Builtin.lenOf], by simp [Builtin.firstCells], trivial, by simp⟩
  · injection ha with ha; injection ha with h1 h2; subst h1 h2
    cases hy
    rename_i a
    refine ⟨[], by simp [Builtin.lenOf], ?_, trivial, by simp⟩
    cases a <;> simp [Builtin.firstCells, loadCells, loadCellsFrom]
  · rename_i k o n z'
    split at ha
    · rename_i hn; subst hn
      injection ha with ha; injection ha with h1 h2; subst h1 h2
      obtain ⟨a, cap, rfl, _⟩ := crep_slc hy
      exact ⟨[], by simp [Builtin.lenOf], by simp [Builtin.firstCells, loadCells, loadCellsFrom], trivial, by simp⟩
    · rename_i hn
      split at ha
      · rename_i hz; subst hz
        cases hk : h.cells? k with
        | none => simp [hk] at ha
        | some mfc =>
          obtain ⟨mm, f, cs⟩ := mfc
          simp only [hk] at ha
          split at ha
          · rename_i hle
            injection ha with ha; injection ha with h1 h2; subst h1 h2
            obtain ⟨B, cap, vs, hB, rfl, hc, _, hr, hrun⟩ := slc_cells (P := P) r hy hk hle hn
            refine ⟨vs, by simp [Builtin.lenOf], by simpa [Builtin.firstCells] using hrun, hr, ?_⟩
            rw [← hr.len]; simp; omega
          · cases ha
      · cases ha
  · cases ha

theorem growBy_le (n : Nat) : ∀ (r c : Nat), c < n → Builtin.growBy n r c ≤ n + (n + 768) / 4
  | 0, c, h => by simp [Builtin.growBy]; omega
  | r + 1, c, h => by
    simp only [Builtin.growBy]
    split
    · omega
    · by_cases h' : c + (c + 768) / 4 < n
      · exact growBy_le n r _ h'
      · cases r with
        | zero => simp [Builtin.growBy]; omega
        | succ r => simp only [Builtin.growBy]; rw [if_pos (by omega)]; omega

theorem nextcap_le {need old : Nat} (h : old < need) : Builtin.nextslicecap need old ≤ 2 * need + 192 := by
  unfold Builtin.nextslicecap
  split
  · omega
  · split
    · omega
    · have := growBy_le need 4 old h; omega

/-- What the types tell of an append. -/
structure AppT (P : Program) (ts : Array TypeId) (e : TypeId) (z : Nat) : Prop where
  t0 : ∃ t, ts[0]? = some t ∧ P.underlying t = some (.slice e)
  t1 : ∃ t u, ts[1]? = some t ∧ P.underlying t = some u ∧ ∀ k, u ≠ .int k
  zc : z = P.cellsOf e
  zn : z ≠ 0
  b0 : P.bytesOf e ≠ 0
  b1 : P.bytesOf e ≤ 65536
  zero : ∃ i v, P.info? e = some i ∧ i.zero = some v ∧ v.cells.size = P.cellsOf e

theorem run_app_in {ts : Array TypeId} {e : TypeId} {z : Nat} (ht : AppT P ts e z) {base : Option Addr} {n cap m : Nat} {y : Value} {vs : List Value}
    (h1 : (Builtin.lenOf y).run P w = .ok m w) (h2 : (Builtin.firstCells z m y).run P w = .ok vs.toArray w) (hcap : n + m ≤ cap) (ty : TypeId) :
    (Builtin.append_ ts ty #[.slice base n cap, y]).run P w =
      (((match base with | some a => storeCells (a.add (n * z)) vs | none => Pure.pure ()) : Sem Unit).run P w).andThen fun _ w'' => .ok (.slice base (n + m) cap) w'' := by
  obtain ⟨t0, e0, u0⟩ := ht.t0
  obtain ⟨t1, u, e1, u1, hu⟩ := ht.t1
  obtain ⟨i, zv, hi, hz, hsz⟩ := ht.zero
  have hsize := run_size (P := P) (w := w) hi
  have hz : (match u with | .int _ => true | _ => false) = false := by cases u <;> first | rfl | exact (hu _ rfl).elim
  unfold Builtin.append_
  simp [e0, e1, run_und (w := w) u0, hsize, run_und (w := w) u1, hz, h1, hcap, ← ht.zc, h2]
  cases base <;> simp

theorem run_app_new {ts : Array TypeId} {e : TypeId} {z : Nat} (ht : AppT P ts e z) {base : Option Addr} {n cap m : Nat} {y : Value} {vs old : List Value}
    (h1 : (Builtin.lenOf y).run P w = .ok m w) (h2 : (Builtin.firstCells z m y).run P w.drew = .ok vs.toArray w.drew)
    (h3 : (Builtin.firstCells z n (.slice base n cap)).run P w.drew = .ok old.toArray w.drew) (hcap : ¬ n + m ≤ cap) (hle : n + m ≤ maxLen) (ty : TypeId) :
    ∃ newCap rest, n + m ≤ newCap ∧ rest.size = (newCap - (n + m)) * z ∧
      (Builtin.append_ ts ty #[.slice base n cap, y]).run P w = .ok (.slice (some ⟨w.heap.size, 0, none⟩) (n + m) newCap) (w.drew.alloc (.cells (old.toArray ++ vs.toArray ++ rest) e)) := by
  obtain ⟨t0, e0, u0⟩ := ht.t0
  obtain ⟨t1, u, e1, u1, hu⟩ := ht.t1
  obtain ⟨i, zv, hi, hz, hsz⟩ := ht.zero
  have hb : i.bytes = P.bytesOf e := by simp [Program.bytesOf, hi]
  have hzn := ht.b0
  have hlim : ¬ Builtin.nextslicecap (n + m) cap * P.bytesOf e > 2 ^ 48 := by
    have a1 := nextcap_le (show cap < n + m by omega)
    have a2 := ht.b1
    unfold maxLen at hle
    have : Builtin.nextslicecap (n + m) cap * P.bytesOf e ≤ 33554624 * 65536 := Nat.mul_le_mul (by omega) a2
    omega
  have hforced : (Question.appendCap (n + m) cap e).forced = false := rfl
  have hsize := fun w => run_size (P := P) (w := w) hi
  have hinfo := fun w => run_info (P := P) (w := w) hi
  have hzero := fun w => run_zero (P := P) (w := w) hi hz
  let newCap := (Question.appendCap (n + m) cap e).cut (w.tape w.drawn (.appendCap (n + m) cap e))
  refine ⟨newCap, Builtin.zeroCells zv.cells (newCap - (n + m)), cut_ge _ _ _ _, by simp [Builtin.zeroCells, hsz, ht.zc], ?_⟩
  have hz : (match u with | .int _ => true | _ => false) = false := by cases u <;> first | rfl | exact (hu _ rfl).elim
  unfold Builtin.append_
  simp [e0, e1, run_und (w := w) u0, hsize, run_und (w := w) u1, hz, h1, hcap, hinfo, hb, hzn, hlim, hforced, hzero, newRow, ← ht.zc, h2, h3]
  refine ⟨rfl, ?_⟩
  congr 2
  rw [← Array.append_assoc]
  congr 1
  exact List.append_toArray old vs

/-- A row of the call's own, made new. -/
theorem RH.row (r : RH X U j M h ar w) (hf : ¬ U fk) (ha : ar ≤ fk) {t : TypeId} {cs : List C} {all : Array Value} {rest : Array Value} {vs : List Value} (hv : All2 (CRep U j M (bsz w)) cs vs) (hall : all = vs.toArray ++ rest) (m : Bool) {f : Nat} (hfl : f ≤ cs.length) :
    ∃ U' j', (∀ k, U' k → U k ∨ k = fk) ∧ j' fk = some w.heap.size ∧ U' fk ∧ RH X U' j' M (h.put fk (.cells ⟨m, t⟩ f cs)) ar (w.alloc (.cells all t)) ∧ Ev U j M (bsz w) U' j' M (bsz (w.alloc (.cells all t))) := by
  refine r.alloc hf ha fun U' j' ev => ?_
  have hlen := hv.len
  refine ⟨all, 0, 0, by rw [heap_alloc, if_pos rfl], by rw [hall]; simp; omega, hfl, by simp, fun i x hx => ?_⟩
  obtain ⟨v, h1, h2⟩ := hv.get hx
  have hi := (List.getElem?_eq_some_iff.1 h1).1
  refine ⟨v, ?_, h2.ev ev⟩
  rw [hall, Array.getElem?_append_left (by simpa using hi)]
  simpa using h1

theorem lookCells (h : Hp) (k : Nat) (m : Tag) (f : Nat) (cs : List C) (e : h.get k = some (.cells m f cs)) : h.cells? k = some (m, f, cs) := by simp [Hp.cells?, e]

theorem Hp.put_put (h : Hp) (k : Nat) (b b' : Blk) : (h.put k b).put k b' = h.put k b' := by
  induction h with
  | nil => simp [Hp.put]
  | cons x h ih =>
    obtain ⟨q, c⟩ := x
    simp only [Hp.put]
    by_cases e : k = q
    · subst e; simp [Hp.put]
    · simp [e, Hp.put, ih]

/-- A row goes on in its block's room. -/
theorem run_ext (r : RH X U j M h ar w) {k B o : Nat} {m : Tag} {f : Nat} {cs : List C} (hB : j k = some B) (hk : h.get k = some (.cells m f cs)) {vs : List C} {us : List Value}
    (hv : All2 (CRep U j M (bsz w)) vs us) (ho : o ≤ cs.length) (hle : o + vs.length ≤ bsz w B) (hf : f ≤ o) :
    ∃ w', (storeCells ⟨B, o, none⟩ us).run P w = .ok () w' ∧ RH X U j M (h.put k (.cells m f (cs.take o ++ vs))) ar w' ∧ Ev U j M (bsz w) U j M (bsz w') := by
  obtain ⟨c, lo, hi, hw, hl, hfl, hfr, hr⟩ := r.at hB hk
  rw [bsz_cells hw] at hle
  have hlen := hv.len
  obtain ⟨c', hrun, hsz, hget⟩ := run_storeCells (P := P) (B := B) o us 0 w c hw (by omega) (fun q h1 h2 => by
    by_cases hlt : lo < hi
    · rcases hfr (Nat.ne_of_lt hlt) with h3 | ⟨_, h3⟩ <;> simp only <;> omega
    · simp only; omega) (All2.cells hv)
  have hB' := lt_of_heap hw
  obtain ⟨r', e'⟩ := r.setB (o := .cells c' m.ty (lo, hi)) (b' := .cells m f (cs.take o ++ vs)) hB hk
    (fun c1 t1 f1 h1 => by injection h1 with h1; subst h1; rw [bsz_cells hw, hsz]) (fun h1 => (h1 _ _ _ rfl).elim)
    (fun ev => by
      refine ⟨c', lo, hi, by rw [heap_setB _ _ _ hB', if_pos rfl], by simp; omega, by simp; omega, by rw [hsz]; exact hfr, fun i x hx => ?_⟩
      rw [hget]
      by_cases hi' : i < o
      · rw [List.getElem?_append_left (by simp; omega), List.getElem?_take, if_pos hi'] at hx
        rw [if_neg (by omega)]
        obtain ⟨v, h1, h2⟩ := hr i x hx
        exact ⟨v, h1, h2.ev ev⟩
      · have hmin : min o cs.length = o := by omega
        rw [List.getElem?_append_right (by simp; omega), List.length_take, hmin] at hx
        have hlt := (List.getElem?_eq_some_iff.1 hx).1
        rw [if_pos (by omega), Nat.add_zero]
        obtain ⟨v, h1, h2⟩ := hv.get hx
        exact ⟨v, h1, h2.ev ev⟩)
    (fun q v hv' => by
      have hq := r.frz k B m f cs hB hk q v hv'
      have h1 := r.mem B q v hv'
      rw [cell_eq hw] at h1
      rw [cell_eq (by rw [heap_setB _ _ _ hB', if_pos rfl]), hget, if_neg (by omega)]
      exact h1)
    (fun m' f' cs' e q v hv' => by injection e with _ e2 _; subst e2; exact r.frz k B m f cs hB hk q v hv')
  exact ⟨_, hrun, r', e'⟩

theorem do_app (r : RH X U j M h ar w) (hf : ¬ U fk) (ha : ar ≤ fk) {ts : Array TypeId} {t : TypeId} {z : Nat} (ht : AppT P ts t z) (ty : TypeId) {x y : AV} {v u : Value} (hx : ARep U j M (bsz w) x v) (hy : ARep U j M (bsz w) y u) {q : AV} {up : Upd}
    (hs : (match (generalizing := false) appCells h z y with
      | none => none
      | some (m, new) =>
        if m = 0 then
          match (generalizing := false) x with
          | .r .nils => some (AV.r .nils, ([] : Upd))
          | .r .e0 => some (.r .e0, [])
          | .r (.slc k o n z') => some (.r (.slc k o n z'), [])
          | .p (.list z' l) => some (.p (.list z' l), [])
          | _ => none
        else
          match (generalizing := false) x with
          | .r .nils => if m ≤ maxLen then some (.r (.slc fk 0 m z), [(fk, some (.cells ⟨false, t⟩ 0 new))]) else none
          | .r .e0 => if m ≤ maxLen then some (.r (.slc fk 0 m z), [(fk, some (.cells ⟨false, t⟩ 0 new))]) else none
          | .r (.slc k o n z') =>
            match h.cells? k with
            | some (mk, f, cs) =>
              if mk.ty = t ∧ o = 0 ∧ z' = z ∧ n * z ≤ cs.length ∧ f ≤ n * z ∧ n + m ≤ maxLen then
                some (.r (.slc fk 0 (n + m) z), [(k, none), (fk, some (.cells mk f (cs.take (n * z) ++ new)))])
              else none
            | none => none
          | _ => none) = some (q, up)) :
    Done X U j M h ar w fk ((do Pure.pure (.value (← Builtin.append_ ts ty #[v, u])) : Sem Next).run P w) q up := by
  cases hac : appCells h z y with
  | none => simp [hac] at hs
  | some mn =>
    obtain ⟨m, new⟩ := mn
    simp only [hac] at hs
    obtain ⟨vs, h1, h2, h3, h4⟩ := app_cells (P := P) r hy hac
    obtain ⟨vs', _, h2', h3', h4'⟩ := app_cells (P := P) r.drew hy hac
    have fresh : ∀ (j' : Nat → Option Nat) (h' : Hp), RH X U j' M h' ar w → Ev U j M (bsz w) U j' M (bsz w) → ∀ (base : Option Addr) (n cap : Nat) (old : List C) (ov : List Value) (mk : Bool) (f : Nat),
        (Builtin.firstCells z n (.slice base n cap)).run P w.drew = .ok ov.toArray w.drew → All2 (CRep U j' M (bsz w)) old ov → ov.length = n * z → ¬ n + m ≤ cap → n + m ≤ maxLen → f ≤ old.length →
        ∃ w' newCap, (Builtin.append_ ts ty #[.slice base n cap, u]).run P w = .ok (.slice (some ⟨w.heap.size, 0, none⟩) (n + m) newCap) w' ∧
          ∃ U' j'', (∀ k, U' k → U k ∨ k = fk) ∧ RH X U' j'' M (h'.put fk (.cells ⟨mk, t⟩ f (old ++ new))) ar w' ∧ Ev U j M (bsz w) U' j'' M (bsz w') ∧ CRep U' j'' M (bsz w') (.slc fk 0 (n + m) z) (.slice (some ⟨w.heap.size, 0, none⟩) (n + m) newCap) := by
      intro j' h' r1 e1 base n cap old ov mk f ho hov hol hcap hle hfl
      obtain ⟨newCap, rest, hc1, hc2, hrun⟩ := run_app_new (P := P) ht h1 h2' ho hcap hle ty
      have hvn : All2 (CRep U j' M (bsz w)) (old ++ new) (ov ++ vs') := hov.app (All2.ev e1 h3')
      obtain ⟨U', j'', g1, g2, g3, g4, g5⟩ := r1.drew.row hf ha (t := t) (all := ov.toArray ++ vs'.toArray ++ rest) (rest := rest) hvn (by rw [← List.append_toArray]) mk (f := f) (by simp; omega)
      refine ⟨_, newCap, hrun, U', j'', g1, g4, e1.trans g5, .slc fk 0 (n + m) z _ newCap g3 hc1 fun B hB => .inl ?_⟩
      rw [g2] at hB; injection hB with hB; subst hB
      refine ⟨rfl, ?_⟩
      rw [bsz_cells (heap_alloc _ _ _ |>.trans (if_pos rfl))]
      simp [hol, h4', hc2]
      have : newCap = n + m + (newCap - (n + m)) := by omega
      rw [this, Nat.add_mul, Nat.add_mul]
      have : n + m + (newCap - (n + m)) - (n + m) = newCap - (n + m) := by omega
      rw [this]; omega
    have close : ∀ (up : Upd) (n : Nat), (∃ w' a cap, (Builtin.append_ ts ty #[v, u]).run P w = .ok (.slice (some a) (n + m) cap) w' ∧
          ∃ U' j'', (∀ k, U' k → U k ∨ k = fk) ∧ RH X U' j'' M (h.upd up) ar w' ∧ Ev U j M (bsz w) U' j'' M (bsz w') ∧ CRep U' j'' M (bsz w') (.slc fk 0 (n + m) z) (.slice (some a) (n + m) cap)) →
        Done X U j M h ar w fk ((do Pure.pure (.value (← Builtin.append_ ts ty #[v, u])) : Sem Next).run P w) (.r (.slc fk 0 (n + m) z)) up := by
      intro up n ⟨w', a, cap, hrun, U', j'', g1, g2, g3, g4⟩
      exact ⟨_, w', _, by simp [hrun], .inl rfl, U', j'', M, fun k hk => (g1 k hk).imp id fun e => by subst e; exact ⟨Nat.le_refl _, by unfold stride; omega⟩, g2, g3, g4⟩
    by_cases hm : m = 0
    · subst hm
      simp only [if_true] at hs
      have hvs : vs = [] := List.eq_nil_of_length_eq_zero (by simp [h4])
      subst hvs
      have go : ∀ base n cap, n ≤ cap → v = .slice base n cap → (Builtin.append_ ts ty #[v, u]).run P w = .ok v w := by
        intro base n cap hc e
        subst e
        rw [run_app_in (P := P) ht h1 h2 (by omega) ty]
        cases base <;> simp [storeCells]
      cases x <;> try (simp at hs; done)
      · rename_i c
        cases c <;> try (simp at hs; done)
        rename_i z' l
        injection hs with hs; injection hs with e1 e2; subst e1 e2
        obtain ⟨a, cap, hv, hc⟩ := prep_len hx
        exact Done.pure r hx (go _ _ _ hc hv)
      · rename_i c
        cases c <;> try (simp at hs; done)
        · injection hs with hs; injection hs with e1 e2; subst e1 e2
          have hv : v = .slice none 0 0 := by cases hx; rfl
          exact Done.pure r hx (go _ _ _ (Nat.le_refl _) hv)
        · injection hs with hs; injection hs with e1 e2; subst e1 e2
          obtain ⟨a, cap, hv, _, hc, _⟩ := crep_slc hx
          exact Done.pure r hx (go _ _ _ hc hv)
        · injection hs with hs; injection hs with e1 e2; subst e1 e2
          have hv : ∃ a, v = .slice a 0 0 := by cases hx; exact ⟨_, rfl⟩
          obtain ⟨a, hv⟩ := hv
          exact Done.pure r hx (go _ _ _ (Nat.le_refl _) hv)
    · simp only [hm, if_false] at hs
      have empty : ∀ a, v = .slice a 0 0 → (if m ≤ maxLen then some (AV.r (.slc fk 0 m z), ([(fk, some (.cells ⟨false, t⟩ 0 new))] : Upd)) else none) = some (q, up) →
          Done X U j M h ar w fk ((do Pure.pure (.value (← Builtin.append_ ts ty #[v, u])) : Sem Next).run P w) q up := by
        intro a hv hs
        split at hs
        · rename_i hle
          injection hs with hs; injection hs with e1 e2; subst e1 e2
          subst hv
          obtain ⟨w', newCap, hrun, U', j'', g1, g2, g3, g4⟩ := fresh j h r (Ev.refl _ _ _ _) a 0 0 [] [] false 0 (by cases a <;> simp [Builtin.firstCells, loadCells, loadCellsFrom]) trivial (by simp) (by omega) (by omega) (Nat.le_refl _)
          simp only [Nat.zero_add, List.nil_append] at hrun g2 g4
          have := close [(fk, some (.cells ⟨false, t⟩ 0 new))] 0 ⟨w', _, newCap, by simpa using hrun, U', j'', g1, by simpa [Hp.upd] using g2, g3, by simpa using g4⟩
          simpa using this
        · cases hs
      cases x <;> try (simp at hs; done)
      rename_i c
      cases c <;> try (simp at hs; done)
      · have hv : v = .slice none 0 0 := by cases hx; rfl
        exact empty _ hv hs
      · rename_i k o n z'
        cases hk : h.cells? k with
        | none => simp [hk] at hs
        | some mfc =>
          obtain ⟨mk, f, cs⟩ := mfc
          simp only [hk] at hs
          split at hs
          · rename_i hcond
            obtain ⟨c1, rfl, rfl, c4, c5, c6⟩ := hcond
            injection hs with hs; injection hs with e1 e2; subst e1 e2
            have hg := Hp.cells_get hk
            obtain ⟨B, hB, hBr⟩ := r.hp k _ hg
            obtain ⟨a, cap, rfl, hu, hc, hb⟩ := crep_slc hx
            by_cases hroom : n + m ≤ cap
            · rcases hb B hB with ⟨rfl, hcap⟩ | ⟨_, h0⟩
              · obtain ⟨U', j'', g1, g2, g3, g4, g5⟩ := r.rekey hB hg hf ha
                have hget : ((h.del k).put fk (.cells mk f cs)).get fk = some (.cells mk f cs) := by rw [Hp.get_put, if_pos rfl]
                have hroom2 : n * z' + new.length ≤ bsz w B := by
                  have : (n + m) * z' ≤ cap * z' := Nat.mul_le_mul_right _ hroom
                  rw [Nat.add_mul] at this
                  rw [h3.len, h4]; omega
                obtain ⟨w', hrun, r', e'⟩ := run_ext (P := P) g4 g2 hget (All2.ev g5 h3) c4 hroom2 c5
                rw [Hp.put_put] at r'
                refine close _ n ⟨w', ⟨B, 0, none⟩, cap, ?_, U', j'', g1, by simpa [Hp.upd] using r', g5.trans e', ?_⟩
                · rw [run_app_in (P := P) ht h1 h2 hroom ty]
                  simp only [add_none, Nat.zero_add, hrun, Result.andThen_ok]
                · have hcr : CRep U' j'' M (bsz w) (.slc fk 0 (n + m) z') (.slice (some ⟨B, 0, none⟩) (n + m) cap) :=
                    .slc fk 0 (n + m) z' _ cap g3 hroom fun B' hB' => by rw [g2] at hB'; injection hB' with hB'; subst hB'; exact .inl ⟨rfl, hcap⟩
                  exact hcr.ev e'
              · omega
            · obtain ⟨r1, ev1⟩ := r.del k
              have hfst : ∃ ov, (Builtin.firstCells z' n (.slice (some a) n cap)).run P w.drew = .ok ov.toArray w.drew ∧ All2 (CRep U (fun q => if q = k then none else j q) M (bsz w)) (cs.take (n * z')) ov ∧ ov.length = n * z' := by
                by_cases hn : n = 0
                · subst hn
                  exact ⟨[], by simp [Builtin.firstCells, loadCells, loadCellsFrom], by simp [All2], by simp⟩
                · obtain ⟨B', cap', vs2, _, hv2, _, _, hr2, hrun2⟩ := slc_cells (P := P) r.drew hx hk (by simpa using c4) hn
                  injection hv2 with hv2 _ _; injection hv2 with hv2; subst hv2
                  refine ⟨vs2, by simpa [Builtin.firstCells] using hrun2, All2.ev ev1 (by have hr3 : All2 (CRep U j M (bsz w)) ((cs.drop 0).take (n * z')) vs2 := hr2; simpa using hr3), ?_⟩
                  rw [← hr2.len]; simp; omega
              obtain ⟨ov, ho1, ho2, ho3⟩ := hfst
              obtain ⟨w', newCap, hrun, U', j'', g1, g2, g3, g4⟩ := fresh _ _ r1 ev1 (some a) n cap (cs.take (n * z')) ov mk.mark f ho1 ho2 ho3 hroom c6 (by simp; omega)
              refine close _ n ⟨w', _, newCap, hrun, U', j'', g1, ?_, g3, g4⟩
              have : mk = ⟨mk.mark, t⟩ := by cases mk; simp at c1; simp [c1]
              rw [this]; simpa [Hp.upd] using g2
          · cases hs
      · have hv : ∃ a, v = .slice a 0 0 := by cases hx; exact ⟨_, rfl⟩
        obtain ⟨a, hv⟩ := hv
        exact empty _ hv hs

end

end Gv
