/- Seventh part: bounds, slices of slices, places in slices, lengths, makeSlice. -/
import Derived.Test.YtnjnlkaagfihbaaAOps6
set_option linter.all false
namespace Gv
open Go

def OptRep (U : Nat → Prop) (j : Nat → Option Nat) (M : Mem) (S : Nat → Nat) : Option AV → Option Value → Prop
  | none, none => True
  | some x, some v => ARep U j M S x v
  | _, _ => False

section
variable {X : Ctx} {U : Nat → Prop} {j : Nat → Option Nat} {M : Mem} {h : Hp} {ar : Nat} {w : World} {fk : Nat} {P : Program} {S : Nat → Nat}

theorem int_rep {x : AV} {k : IntKind} {n : Int} {v : Value} (h : x = .p (.int k n)) (hx : ARep U j M S x v) : v = .int k n := by subst h; exact prep_int hx

theorem bound_rep {x : Option AV} {d : Nat} {l : Int} (hb : bound? x d = some l) {v : Option Value} (hx : OptRep U j M S x v) : (v = none ∧ l = d) ∨ ∃ k, v = some (.int k l) := by
  cases x with
  | none =>
    cases v with
    | none => simp [bound?] at hb; exact .inl ⟨rfl, hb.symm⟩
    | some v => exact hx.elim
  | some x =>
    cases v with
    | none => exact hx.elim
    | some v =>
      cases x <;> try (simp [bound?] at hb; done)
      rename_i c
      cases c <;> try (simp [bound?] at hb; done)
      rename_i k n
      simp [bound?] at hb; subst hb
      have := prep_int hx
      exact .inr ⟨k, by rw [this]⟩

theorem run_bounds {lo hi : Option AV} {n cap : Nat} {l h' : Int} {vl vh : Option Value} (hl : OptRep U j M S lo vl) (hh : OptRep U j M S hi vh)
    (bl : bound? lo 0 = some l) (bh : bound? hi n = some h') (h0 : 0 ≤ l) (h1 : l ≤ h') (h2 : h' ≤ cap) (b : Bool) :
    (Instr.sliceBounds b n cap vl vh none).run P w = .ok (l.toNat, h'.toNat, cap) w := by
  have hh0 : 0 ≤ h' := by omega
  have hle : l ≤ ((h'.toNat : Nat) : Int) := by omega
  have hle2 : h'.toNat ≤ cap := by omega
  have lo_ok : ∀ y : Nat, h'.toNat = y → ((match vl with | some v => Instr.sliceBound v y (if (none : Option Value).isSome = true then .slice3C else .sliceB) | none => Pure.pure 0 : Sem Nat)).run P w = .ok l.toNat w := by
    intro y hy
    rcases bound_rep bl hl with ⟨rfl, e⟩ | ⟨k, rfl⟩
    · subst e; simp
    · have : 0 ≤ l ∧ l ≤ (y : Int) := ⟨h0, by omega⟩
      simp [Instr.sliceBound, asIntOf, this]
  rcases bound_rep bh hh with ⟨rfl, e⟩ | ⟨k, rfl⟩
  · have e' : h'.toNat = n := by omega
    have := lo_ok n e'
    cases vl <;> simp [Instr.sliceBounds] at this ⊢
    · exact ⟨by omega, by omega⟩
    · rw [this]; simp; omega
  · have hb : 0 ≤ h' ∧ h' ≤ (cap : Int) := ⟨hh0, h2⟩
    rcases bound_rep bl hl with ⟨rfl, e⟩ | ⟨k', rfl⟩
    · subst e
      simp [Instr.sliceBounds, Instr.sliceBound, asIntOf, hb]
    · have hb2 : 0 ≤ l ∧ l ≤ max h' 0 := ⟨h0, by omega⟩
      simp [Instr.sliceBounds, Instr.sliceBound, asIntOf, hb, hb2]

theorem flat_drop {z : Nat} : ∀ {l : List (List PV)} (n : Nat), (∀ row, row ∈ l → row.length = z) → n ≤ l.length → (l.drop n).flatten = l.flatten.drop (n * z)
  | l, 0, _, _ => by simp
  | [], n + 1, _, h => by simp at h
  | r :: l, n + 1, h, hn => by
    have h1 : r.length = z := h r (by simp)
    have := flat_drop (l := l) n (fun row hr => h row (by simp [hr])) (by simpa using hn)
    simp only [List.drop_succ_cons, List.flatten_cons, this, Nat.succ_mul]
    have h2 : r.drop (n * z + z) = [] := List.drop_eq_nil_of_le (by omega)
    have h3 : n * z + z - r.length = n * z := by omega
    rw [List.drop_append, h2, h3, List.nil_append]
theorem flat_take {z : Nat} : ∀ {l : List (List PV)} (n : Nat), (∀ row, row ∈ l → row.length = z) → n ≤ l.length → (l.take n).flatten = l.flatten.take (n * z)
  | l, 0, _, _ => by simp
  | [], n + 1, _, h => by simp at h
  | r :: l, n + 1, h, hn => by
    have h1 : r.length = z := h r (by simp)
    have := flat_take (l := l) n (fun row hr => h row (by simp [hr])) (by simpa using hn)
    simp only [List.take_succ_cons, List.flatten_cons, this, Nat.succ_mul]
    have h2 : r.take (n * z + z) = r := List.take_of_length_le (by omega)
    have h3 : n * z + z - r.length = n * z := by omega
    rw [List.take_append, h2, h3]

/-- A part of a row of values. -/
theorem prep_sub {z : Nat} {rows : List (List PV)} {a : Option Addr} {n cap : Nat} (hx : PRep M (.list z rows) (.slice a n cap)) {l h' : Nat} (h1 : l ≤ h') (h2 : h' ≤ rows.length) :
    PRep M (.list z ((rows.drop l).take (h' - l))) (.slice (if cap = l then a else a.map (·.add (l * z))) (h' - l) (cap - l)) := by
  by_cases he : h' = l
  · subst he
    simp only [Nat.sub_self, List.take_zero]
    exact .none z _ _
  · have hne : rows ≠ [] := fun e => by subst e; simp at h2; omega
    obtain ⟨b, o, cap', vals, e, hu, hc, hm, hr⟩ := prep_list hx hne
    injection e with e1 e2 e3; subst e1 e2 e3
    rw [if_neg (by omega)]
    have hlen : ((rows.drop l).take (h' - l)).length = h' - l := by simp; omega
    have hfl : ∀ i c, ((rows.drop l).take (h' - l)).flatten[i]? = some c → rows.flatten[l * z + i]? = some c := by
      intro i c hi
      rw [flat_take _ (fun row hr => hu row (List.mem_of_mem_drop hr)) (by simp; omega), flat_drop _ hu (by omega), List.getElem?_take] at hi
      split at hi
      · rwa [List.getElem?_drop] at hi
      · cases hi
    have := PRep.list (M := M) z ((rows.drop l).take (h' - l)) b (o + l * z) (cap - l) (fun i => vals (l * z + i))
      (fun row hr => hu row (List.mem_of_mem_drop (List.mem_of_mem_take hr))) (by omega)
      (fun i c hi => by rw [Nat.add_assoc]; exact hm _ _ (hfl i c hi)) (fun i c hi => hr _ _ (hfl i c hi))
    simpa only [hlen, Option.map_some, add_none] using this

theorem do_substr (r : RH X U j M h ar w) {t : TypeId} (ht : P.underlying t = some .string) {x : AV} {lo hi : Option AV} {v : Value} {vl vh : Option Value} (hx : ARep U j M (bsz w) x v) (hl : OptRep U j M (bsz w) lo vl) (hh : OptRep U j M (bsz w) hi vh) {y : AV} {u : Upd}
    (hs : (match (generalizing := false) x with
      | .p (.str b) => match bound? lo 0, bound? hi b.length with
        | some l, some h => if 0 ≤ l ∧ l ≤ h ∧ h ≤ b.length then some (AV.p (.str ((b.drop l.toNat).take (h - l).toNat)), ([] : Upd)) else none
        | _, _ => none
      | _ => none) = some (y, u)) :
    Done X U j M h ar w fk ((do Pure.pure (.value (← Instr.sliceAt t v vl vh none)) : Sem Next).run P w) y u := by
  cases x <;> try (simp at hs; done)
  rename_i c
  cases c <;> try (simp at hs; done)
  rename_i b
  simp only at hs
  split at hs
  · rename_i l h' bl bh
    split at hs
    · rename_i hc
      obtain ⟨h0, h1, h2⟩ := hc
      injection hs with hs; injection hs with e1 e2; subst e1 e2
      obtain ⟨s, rfl, hb⟩ := prep_str hx
      have hlen : s.size = b.length := by rw [← hb]; exact (bytes_len s).symm
      have hrun := run_bounds (P := P) (w := w) hl hh bl (by rw [← hlen] at bh; exact bh) h0 h1 (cap := s.size) (by omega) false
      refine Done.pure r (x := .p _) (v := .string (s.extract l.toNat h'.toNat)) (str_prep ?_) ?_
      · rw [← hb]
        simp only [ByteArray.data_extract, Array.toList_extract, List.extract_eq_take_drop]
        congr 1; omega
      · simp only [Instr.sliceAt, Sem.run_bind, run_und (w := w) ht, Result.andThen_ok, Instr.slice]
        simp [hrun]
    · cases hs
  · cases hs

theorem do_subsl (r : RH X U j M h ar w) {t e : TypeId} {z : Nat} (ht : P.underlying t = some (.slice e)) (he : ∃ i, P.info? e = some i) (hz : z = P.cellsOf e) {x : AV} {lo hi : Option AV} {v : Value} {vl vh : Option Value} (hx : ARep U j M (bsz w) x v) (hl : OptRep U j M (bsz w) lo vl) (hh : OptRep U j M (bsz w) hi vh) {y : AV} {u : Upd}
    (hs : (match (generalizing := false) x with
      | .p (.list z' rows) => match bound? lo 0, bound? hi rows.length with
        | some l, some h => if 0 ≤ l ∧ l ≤ h ∧ h ≤ rows.length ∧ (z' = z ∨ rows.isEmpty = true) then some (AV.p (.list z' ((rows.drop l.toNat).take (h - l).toNat)), ([] : Upd)) else none
        | _, _ => none
      | .r .nils => match bound? lo 0, bound? hi 0 with
        | some l, some h => if l = 0 ∧ h = 0 then some (.r .nils, []) else none
        | _, _ => none
      | .r .e0 => match bound? lo 0, bound? hi 0 with
        | some l, some h => if l = 0 ∧ h = 0 then some (.r .e0, []) else none
        | _, _ => none
      | .r (.slc k o n z') => match bound? lo 0, bound? hi n with
        | some l, some h => if 0 ≤ l ∧ l ≤ h ∧ h ≤ n ∧ z' = z then some (.r (.slc k (o + l.toNat * z) (h - l).toNat z), []) else none
        | _, _ => none
      | _ => none) = some (y, u)) :
    Done X U j M h ar w fk ((do Pure.pure (.value (← Instr.sliceAt t v vl vh none)) : Sem Next).run P w) y u := by
  obtain ⟨i, hi'⟩ := he
  have go : ∀ a n cap l h', v = .slice a n cap → n ≤ cap → bound? lo 0 = some l → bound? hi n = some h' → 0 ≤ l → l ≤ h' → h' ≤ n →
      (Instr.sliceAt t v vl vh none).run P w = .ok (.slice (if cap = l.toNat then a else a.map (·.add (l.toNat * z))) (h'.toNat - l.toNat) (cap - l.toNat)) w := by
    intro a n cap l h' hv hn bl bh h0 h1 h2
    subst hv
    have hrun := run_bounds (P := P) (w := w) hl hh bl bh h0 h1 (cap := cap) (by omega) true
    simp only [Instr.sliceAt, Sem.run_bind, run_und (w := w) ht, Result.andThen_ok, Instr.slice]
    simp [hrun, run_size (P := P) (w := w) hi', hz]
  cases x <;> try (simp at hs; done)
  · rename_i c
    cases c <;> try (simp at hs; done)
    rename_i z' rows
    simp only at hs
    split at hs
    · rename_i l h' bl bh
      split at hs
      · rename_i hc
        obtain ⟨h0, h1, h2, h3⟩ := hc
        injection hs with hs; injection hs with e1 e2; subst e1 e2
        obtain ⟨a, cap, rfl, hcap⟩ := prep_len hx
        have hrun := go a rows.length cap l h' rfl hcap bl bh h0 h1 h2
        refine Done.pure r (x := .p _) (v := .slice (if cap = l.toNat then a else a.map (·.add (l.toNat * z))) (h'.toNat - l.toNat) (cap - l.toNat)) ?_ hrun
        rcases h3 with rfl | h3
        · have := prep_sub (M := M) hx (l := l.toNat) (h' := h'.toNat) (by omega) (by omega)
          rw [show (h' - l).toNat = h'.toNat - l.toNat by omega]
          exact this
        · have : rows = [] := by simpa using h3
          subst this
          simp at h2
          have e1 : h'.toNat - l.toNat = 0 := by omega
          simp only [List.drop_nil, List.take_nil, e1]
          exact .none z' _ _
      · cases hs
    · cases hs
  · rename_i c
    cases c <;> try (simp at hs; done)
    · simp only at hs
      split at hs
      · rename_i l h' bl bh
        split at hs
        · rename_i hc
          obtain ⟨rfl, rfl⟩ := hc
          injection hs with hs; injection hs with e1 e2; subst e1 e2
          have hv : v = .slice none 0 0 := by cases hx; rfl
          have hrun := go none 0 0 0 0 hv (Nat.le_refl _) bl bh (by omega) (by omega) (by omega)
          subst hv
          exact Done.pure r (x := .r .nils) (v := .slice none 0 0) .nils (by simpa using hrun)
        · cases hs
      · cases hs
    · rename_i k o n z'
      simp only at hs
      split at hs
      · rename_i l h' bl bh
        split at hs
        · rename_i hc
          obtain ⟨h0, h1, h2, rfl⟩ := hc
          injection hs with hs; injection hs with e1 e2; subst e1 e2
          obtain ⟨a, cap, rfl, hu, hcap, hb⟩ := crep_slc hx
          have hrun := go (some a) n cap l h' rfl hcap bl bh h0 h1 h2
          have hln : l.toNat ≤ n := by omega
          have e3 : (h' - l).toNat = h'.toNat - l.toNat := by omega
          refine Done.pure r (x := .r (.slc k (o + l.toNat * z') (h' - l).toNat z')) (v := .slice (some (if cap = l.toNat then a else a.add (l.toNat * z'))) (h'.toNat - l.toNat) (cap - l.toNat)) ?_ ?_
          · show CRep U j M (bsz w) _ _
            rw [e3]
            refine .slc k _ _ z' _ _ hu (by omega) fun B hB => ?_
            rcases hb B hB with ⟨rfl, hle⟩ | ⟨hn0, hc0⟩
            · by_cases hcl : cap = l.toNat
              · exact .inr ⟨by omega, by omega⟩
              · refine .inl ⟨by simp only [hcl, if_false, add_none], ?_⟩
                have : cap = l.toNat + (cap - l.toNat) := by omega
                rw [this, Nat.add_mul] at hle; omega
            · exact .inr ⟨by omega, by omega⟩
          · rw [hrun]; congr 2
            split <;> simp
        · cases hs
      · cases hs
    · simp only at hs
      split at hs
      · rename_i l h' bl bh
        split at hs
        · rename_i hc
          obtain ⟨rfl, rfl⟩ := hc
          injection hs with hs; injection hs with e1 e2; subst e1 e2
          have hv : ∃ a, v = .slice a 0 0 := by cases hx; exact ⟨_, rfl⟩
          obtain ⟨a, hv⟩ := hv
          have hrun := go a 0 0 0 0 hv (Nat.le_refl _) bl bh (by omega) (by omega) (by omega)
          subst hv
          exact Done.pure r (x := .r .e0) (v := .slice a 0 0) (.e0 a) (by simpa using hrun)
        · cases hs
      · cases hs

theorem run_subarr {B o n z : Nat} {t e : TypeId} (he : ∃ i, P.info? e = some i) (hz : z = P.cellsOf e) (ht : P.underlying t = some (.array n e) ∨ ∃ a, P.underlying t = some (.pointer a) ∧ P.underlying a = some (.array n e)) {lo hi : Option AV} {vl vh : Option Value} (hl : OptRep U j M S lo vl) (hh : OptRep U j M S hi vh)
    {l h' : Int} (bl : bound? lo 0 = some l) (bh : bound? hi n = some h') (h0 : 0 ≤ l) (h1 : l ≤ h') (h2 : h' ≤ n) :
    (Instr.sliceAt t (.pointer (some ⟨B, o, none⟩)) vl vh none).run P w = .ok (.slice (some (if n = l.toNat then ⟨B, o, none⟩ else ⟨B, o + l.toNat * z, none⟩)) (h'.toNat - l.toNat) (n - l.toNat)) w := by
  obtain ⟨i, hi'⟩ := he
  have hrun := run_bounds (P := P) (w := w) hl hh bl bh h0 h1 (cap := n) h2 false
  rcases ht with ht | ⟨a, ht, ha⟩
  · simp only [Instr.sliceAt, Sem.run_bind, run_und (w := w) ht, Result.andThen_ok]
    simp [hrun, run_size (P := P) (w := w) hi', hz, Instr.sureAddr, add_none]
  · simp only [Instr.sliceAt, Sem.run_bind, run_und (w := w) ht, Result.andThen_ok, Instr.slice]
    simp [hrun, run_size (P := P) (w := w) hi', hz, asAddr, run_und (w := w) ha, add_none]

theorem do_subarr (r : RH X U j M h ar w) {t e : TypeId} {n z : Nat} (he : ∃ i, P.info? e = some i) (hz : z = P.cellsOf e) (ht : P.underlying t = some (.array n e) ∨ ∃ a, P.underlying t = some (.pointer a) ∧ P.underlying a = some (.array n e))
    {x : AV} {lo hi : Option AV} {v : Value} {vl vh : Option Value} (hx : ARep U j M (bsz w) x v) (hl : OptRep U j M (bsz w) lo vl) (hh : OptRep U j M (bsz w) hi vh) {y : AV} {u : Upd}
    (hs : (match (generalizing := false) x with
      | .r (.ptr k o) => match bound? lo 0, bound? hi n with
        | some l, some h' => match h.cells? k with
          | some (_, _, cs) => if 0 ≤ l ∧ l ≤ h' ∧ h' ≤ n ∧ o + n * z ≤ cs.length then some (AV.r (.slc k (o + l.toNat * z) (h' - l).toNat z), ([] : Upd)) else none
          | none => none
        | _, _ => none
      | _ => none) = some (y, u)) :
    Done X U j M h ar w fk ((do Pure.pure (.value (← Instr.sliceAt t v vl vh none)) : Sem Next).run P w) y u := by
  cases x <;> try (simp at hs; done)
  rename_i c
  cases c <;> try (simp at hs; done)
  rename_i k o
  simp only at hs
  split at hs
  · rename_i l h' bl bh
    cases hk : h.cells? k with
    | none => simp [hk] at hs
    | some mfc =>
      obtain ⟨mm, f, cs⟩ := mfc
      simp only [hk] at hs
      split at hs
      · rename_i hc
        obtain ⟨h0, h1, h2, h3⟩ := hc
        injection hs with hs; injection hs with e1 e2; subst e1 e2
        obtain ⟨B, rfl, hu, hB⟩ := crep_ptr hx
        refine Done.pure r (x := .r (.slc k (o + l.toNat * z) (h' - l).toNat z)) ?_ (run_subarr he hz ht hl hh bl bh h0 h1 h2)
        show CRep U j M (bsz w) _ _
        rw [show (h' - l).toNat = h'.toNat - l.toNat by omega]
        refine .slc k _ _ z _ _ hu (by omega) fun B' hB' => ?_
        have := hB B' hB'; subst this
        obtain ⟨c', lo', hi', hw, hlen, _⟩ := r.at hB' (Hp.cells_get hk)
        by_cases hn : n = l.toNat
        · exact .inr ⟨by omega, by omega⟩
        · refine .inl ⟨by simp only [hn, if_false], ?_⟩
          rw [bsz_cells hw]
          have : n = l.toNat + (n - l.toNat) := by omega
          rw [this, Nat.add_mul] at h3; omega
      · cases hs
  · cases hs

theorem do_iaddr (r : RH X U j M h ar w) {t e : TypeId} {z : Nat} (ht : P.underlying t = some (.slice e)) (he : ∃ i, P.info? e = some i) (hz : z = P.cellsOf e) {x i : AV} {a b : Value} (hx : ARep U j M (bsz w) x a) (hi : ARep U j M (bsz w) i b) {y : AV} {u : Upd}
    (hs : (match (generalizing := false) x, i with
      | .p (.list z' rows), .p (.int _ i) => if 0 ≤ i ∧ z' = z then match rows[i.toNat]? with
          | some row => some (AV.p (.pp row 0), ([] : Upd))
          | none => none
        else none
      | .r (.slc k o n z'), .p (.int _ i) => if 0 ≤ i ∧ i < n ∧ z' = z ∧ (h.get k).isSome = true then some (.r (.ptr k (o + i.toNat * z)), []) else none
      | _, _ => none) = some (y, u)) :
    Done X U j M h ar w fk ((do Pure.pure (.value (← Instr.indexAt t a b)) : Sem Next).run P w) y u := by
  obtain ⟨inf, hinf⟩ := he
  have go : ∀ (ad : Addr) (n cap : Nat) (k : IntKind) (q : Int), a = .slice (some ad) n cap → b = .int k q → 0 ≤ q → q < n → (Instr.indexAt t a b).run P w = .ok (.pointer (some (ad.add (q.toNat * z)))) w := by
    intro ad n cap k q ha hb h0 h1
    subst ha hb
    have : 0 ≤ q ∧ q < (n : Int) := ⟨h0, h1⟩
    simp [Instr.indexAt, asIntOf, run_und (w := w) ht, this, run_size (P := P) (w := w) hinf, hz]
  have hint : ∃ kq q, i = .p (.int kq q) := by
    split at hs
    · exact ⟨_, _, rfl⟩
    · exact ⟨_, _, rfl⟩
    · cases hs
  obtain ⟨kq, q, rfl⟩ := hint
  have hb := prep_int hi
  cases x <;> try (simp at hs; done)
  · rename_i c
    cases c <;> try (simp at hs; done)
    rename_i z' rows
    simp only at hs
    split at hs
    · rename_i hc
      obtain ⟨h0, rfl⟩ := hc
      cases hrow : rows[q.toNat]? with
      | none => simp [hrow] at hs
      | some row =>
        simp only [hrow] at hs
        injection hs with hs; injection hs with e1 e2; subst e1 e2
        have hlt := (List.getElem?_eq_some_iff.1 hrow).1
        have hne : rows ≠ [] := fun e => by subst e; simp at hlt
        obtain ⟨B, o, cap, vals, rfl, hu, hcap, hm, hr⟩ := prep_list hx hne
        have hrun := go _ _ _ _ _ rfl hb h0 (by omega)
        rw [add_none] at hrun
        have hfl : ∀ (i : Nat) c, row[i]? = some c → rows.flatten[q.toNat * z' + i]? = some c := by
          intro i c hi
          have h1 := flat_drop (z := z') q.toNat hu (by omega)
          have h2 : rows.drop q.toNat = row :: rows.drop (q.toNat + 1) := by
            rw [List.drop_eq_getElem_cons hlt]; congr 1
            have := List.getElem?_eq_getElem hlt; rw [this] at hrow; injection hrow
          rw [← List.getElem?_drop, ← h1, h2, List.flatten_cons, List.getElem?_append_left (List.getElem?_eq_some_iff.1 hi).1]
          exact hi
        refine Done.pure r (x := .p (.pp row 0)) (v := .pointer (some ⟨B, o + q.toNat * z' + 0, none⟩)) ?_ (by simpa using hrun)
        exact PRep.pp row 0 B (o + q.toNat * z') (fun i => vals (q.toNat * z' + i)) (fun i c hi => by rw [Nat.add_assoc]; exact hm _ _ (hfl i c hi)) (fun i c hi => hr _ _ (hfl i c hi))
    · cases hs
  · rename_i c
    cases c <;> try (simp at hs; done)
    rename_i k o n z'
    simp only at hs
    split at hs
    · rename_i hc
      obtain ⟨h0, h1, rfl, h3⟩ := hc
      injection hs with hs; injection hs with e1 e2; subst e1 e2
      obtain ⟨ad, cap, rfl, hu, hcap, hbk⟩ := crep_slc hx
      obtain ⟨bl, hbl⟩ := Option.isSome_iff_exists.1 h3
      obtain ⟨B, hB, _⟩ := r.hp k _ hbl
      rcases hbk B hB with ⟨rfl, _⟩ | ⟨hn0, _⟩
      · have hrun := go _ _ _ _ _ rfl hb h0 h1
        rw [add_none] at hrun
        exact Done.pure r (x := .r _) (.ptr k _ B hu fun B' hB' => by rw [hB] at hB'; injection hB' with hB'; exact hB'.symm) hrun
      · omega
    · cases hs

end

end Gv
