/- Third part: comparing rows of cells, maps. -/
import Derived.Test.YtnjnlkaagfihbaaAOps2
import Derived.ChangeKeysEq
import Derived.Laws.StructEq
set_option linter.all false
namespace Gv
open Go

def mkV (P : Program) (t : TypeId) (vs : List Value) : Value := if isAggT P t = some true then .agg vs.toArray else vs.headD undef

section
variable {P : Program} {M : Mem}

theorem eqk_prep {k : Kd} {a b : PV} {r : Bool} (h : PV.eqk? k a b = some r) {x y : Value} (hx : PRep M a x) (hy : PRep M b y) :
    (k = .bool ∧ ∃ p q, x = .bool p ∧ y = .bool q ∧ r = (p == q)) ∨ (k = .int ∧ ∃ t p q, x = .int t p ∧ y = .int t q ∧ r = (p == q)) ∨ (k = .str ∧ ∃ p q, x = .string p ∧ y = .string q ∧ r = (p == q)) := by
  unfold PV.eqk? at h
  split at h
  · injection h with h; exact .inl ⟨rfl, _, _, prep_bool hx, prep_bool hy, h.symm⟩
  · split at h
    · rename_i e; subst e; injection h with h; exact .inr (.inl ⟨rfl, _, _, _, prep_int hx, prep_int hy, h.symm⟩)
    · cases h
  · injection h with h
    obtain ⟨p, hp, e1⟩ := prep_str hx
    obtain ⟨q, hq, e2⟩ := prep_str hy
    exact .inr (.inr ⟨rfl, p, q, hp, hq, by rw [ba_eq, e1, e2, h]⟩)
  · cases h

theorem eqK_len : ∀ {ks : List Kd} {l m : List PV} {b : Bool}, eqK? ks l m = some b → l.length = ks.length ∧ m.length = ks.length
  | [], [], [], _, _ => ⟨rfl, rfl⟩
  | k :: ks, a :: l, c :: m, b, h => by
    simp only [eqK?] at h
    split at h
    · rename_i x y h1 h2; have := eqK_len h2; simp [this.1, this.2]
    · cases h
  | [], [], _ :: _, _, h => by simp [eqK?] at h
  | [], _ :: _, _, _, h => by simp [eqK?] at h
  | _ :: _, [], _, _, h => by simp [eqK?] at h
  | _ :: _, _ :: _, [], _, h => by simp [eqK?] at h

theorem eqK_app : ∀ {ks ks' : List Kd} {l m : List PV} {b : Bool}, eqK? (ks ++ ks') l m = some b →
    ∃ x y, eqK? ks (l.take ks.length) (m.take ks.length) = some x ∧ eqK? ks' (l.drop ks.length) (m.drop ks.length) = some y ∧ b = (x && y)
  | [], ks', l, m, b, h => ⟨true, b, by simp [eqK?], by simpa using h, by simp⟩
  | k :: ks, ks', a :: l, c :: m, b, h => by
    simp only [List.cons_append, eqK?] at h
    split at h
    · rename_i x y h1 h2
      injection h with h
      obtain ⟨x', y', h3, h4, h5⟩ := eqK_app h2
      exact ⟨x && x', y', by simp [eqK?, h1, h3], by simpa using h4, by rw [← h, h5, Bool.and_assoc]⟩
    · cases h
  | _ :: _, _, [], _, _, h => by simp [eqK?] at h
  | _ :: _, _, _ :: _, [], _, h => by simp [eqK?] at h

theorem isAgg_und {t : TypeId} {d : TypeDesc} (h : P.underlying t = some d) : isAggT P t = some (match (generalizing := false) d with | .struct _ | .array _ _ => true | _ => false) := by
  unfold isAggT; rw [h]; cases d <;> rfl

theorem run_part_mk {t : TypeId} {g : Bool} (hg : isAggT P t = some g) (hz : g = true ∨ P.cellsOf t = 1) {xs : Array Value} {o : Nat} (hle : P.cellsOf t = 1 → o < xs.size) (w : World) :
    (part t xs o).run P w = .ok (mkV P t ((xs.toList.drop o).take (P.cellsOf t))) w := by
  obtain ⟨i, hi⟩ := info_of_agg hg
  unfold mkV
  rw [hg]
  cases g with
  | true => simp only [part, Sem.run_bind, run_agg hg, run_size hi, Result.andThen_ok, if_true, Sem.run_pure]; rw [← extract_list]
  | false =>
    simp at hz
    have : o < xs.size := hle hz
    simp only [part, Sem.run_bind, run_agg hg, Result.andThen_ok, Bool.false_eq_true, if_false, hz]
    rw [List.drop_eq_getElem_cons (by simpa using this)]
    simp [this]

/-- What is to be shown of a type. -/
structure FlatAt (P : Program) (d : Nat) (t : TypeId) (ks : List Kd) : Prop where
  agg : ∃ g, isAggT P t = some g ∧ (g = true ∨ P.cellsOf t = 1)
  len : ks.length = P.cellsOf t
  eq : ∀ (M : Mem) (w : World) (D : Nat) (l m : List PV) (vs us : List Value) (b : Bool), d ≤ D → All2 (PRep M) l vs → All2 (PRep M) m us → eqK? ks l m = some b →
    (Op.equalIn D t (mkV P t vs) (mkV P t us)).run P w = .ok b w
  key : ∀ (M : Mem) (w : World) (em : Bool) (D : Nat) (l m : List PV) (vs : List Value) (b : Bool), d ≤ D → All2 (PRep M) l vs → eqK? ks l m = some b →
    (Instr.checkKey em D t (mkV P t vs)).run P w = .ok () w

theorem flat_scalar {d : Nat} {t : TypeId} {k : Kd} {td : TypeDesc} (hu : P.underlying t = some td) (hz : P.cellsOf t = 1) (hk : (td = .bool ∧ k = .bool) ∨ (∃ q, td = .int q ∧ k = .int) ∨ (td = .string ∧ k = .str)) : FlatAt P (d + 1) t [k] := by
  have hag : isAggT P t = some false := by rw [isAgg_und hu]; rcases hk with ⟨rfl, _⟩ | ⟨q, rfl, _⟩ | ⟨rfl, _⟩ <;> rfl
  have hm : ∀ v : List Value, mkV P t v = v.headD undef := fun v => by simp [mkV, hag]
  have one : ∀ (M : Mem) (l m : List PV) (vs : List Value) (b : Bool), All2 (PRep M) l vs → eqK? [k] l m = some b → ∃ a c x, l = [a] ∧ m = [c] ∧ vs = [x] ∧ PRep M a x ∧ PV.eqk? k a c = some b := by
    intro M l m vs b hl he
    have hlen := eqK_len he
    match l, m, vs, hlen, hl, he with
    | [a], [c], [x], _, hl, he =>
      simp only [eqK?] at he
      split at he
      · rename_i p q h1 h2; injection h2 with h2; injection he with he; subst h2; simp at he; subst he
        exact ⟨a, c, x, rfl, rfl, rfl, hl.1, h1⟩
      · cases he
    | [a], [c], [], _, hl, _ => exact hl.elim
    | [a], [c], _ :: _ :: _, _, hl, _ => exact hl.2.elim
    | [], _, _, h, _, _ => simp at h
    | _ :: _ :: _, _, _, h, _, _ => simp at h
    | [_], [], _, h, _, _ => simp at h
    | [_], _ :: _ :: _, _, h, _, _ => simp at h
  refine ⟨⟨false, hag, .inr hz⟩, by simp [hz], fun M w D l m vs us b hD hl hm' he => ?_, fun M w em D l m vs b hD hl he => ?_⟩
  · obtain ⟨a, c, x, rfl, rfl, rfl, hx, hek⟩ := one M l m vs b hl he
    match us, hm' with
    | [y], hy =>
      obtain ⟨D, rfl⟩ : ∃ n, D = n + 1 := ⟨D - 1, by omega⟩
      rw [hm, hm]
      simp only [List.headD_cons]
      rcases eqk_prep hek hx hy.1 with ⟨rfl, p, q, rfl, rfl, rfl⟩ | ⟨rfl, t', p, q, rfl, rfl, rfl⟩ | ⟨rfl, p, q, rfl, rfl, rfl⟩ <;> rcases hk with ⟨rfl, h⟩ | ⟨q', rfl, h⟩ | ⟨rfl, h⟩ <;> first | cases h | skip
      all_goals simp [Op.equalIn, run_und hu]
    | [], h => exact h.elim
    | _ :: _ :: _, h => exact h.2.elim
  · obtain ⟨a, c, x, rfl, rfl, rfl, hx, hek⟩ := one M l m vs b hl he
    obtain ⟨D, rfl⟩ : ∃ n, D = n + 1 := ⟨D - 1, by omega⟩
    rw [hm]
    simp only [List.headD_cons]
    have : x.oneCell' = true := hx.cell
    rcases hk with ⟨rfl, h⟩ | ⟨q', rfl, h⟩ | ⟨rfl, h⟩ <;> simp [Instr.checkKey, run_und hu]

theorem seg {l : List PV} {xs : Array Value} {o n : Nat} (h : All2 (PRep M) l (xs.toList.drop o)) : All2 (PRep M) (l.take n) ((xs.toList.drop o).take n) ∧ All2 (PRep M) (l.drop n) (xs.toList.drop (o + n)) := by
  refine ⟨h.take n, ?_⟩
  have := h.drop n
  rwa [List.drop_drop] at this

theorem flat_fields {d : Nat} (ih : ∀ t ks, flatK P d t = some ks → FlatAt P d t ks) : ∀ (fs : List Field) (o : Nat) (ks : List Kd), fieldsK P (flatK P d) fs o = some ks →
    (∀ (M : Mem) (w : World) (D : Nat) (l m : List PV) (xs ys : Array Value) (b : Bool), d ≤ D → All2 (PRep M) l (xs.toList.drop o) → All2 (PRep M) m (ys.toList.drop o) → eqK? ks l m = some b →
      (Op.eqFields D xs ys fs).run P w = .ok b w) ∧
    (∀ (M : Mem) (w : World) (em : Bool) (D : Nat) (l m : List PV) (xs : Array Value) (b : Bool), d ≤ D → All2 (PRep M) l (xs.toList.drop o) → eqK? ks l m = some b →
      (forIn fs PUnit.unit (fun f (_ : PUnit) => do
        if f.name ≠ "_" then do
          Instr.checkKey em D f.type (← part f.type xs f.offset)
          pure (ForInStep.yield PUnit.unit)
        else pure (ForInStep.yield PUnit.unit)) : Sem PUnit).run P w = .ok PUnit.unit w)
  | [], o, ks, h => by
    simp [fieldsK] at h; subst h
    refine ⟨fun M w D l m xs ys b hD hl hm he => ?_, fun M w em D l m xs b hD hl he => by simp⟩
    have := eqK_len he
    have e1 : l = [] := List.eq_nil_of_length_eq_zero this.1
    have e2 : m = [] := List.eq_nil_of_length_eq_zero this.2
    subst e1 e2
    simp [eqK?] at he; subst he
    simp [Op.eqFields]
  | f :: fs, o, ks, h => by
    simp only [fieldsK] at h
    split at h
    · rename_i hc
      obtain ⟨ho, hn⟩ := hc
      split at h
      · rename_i a b ha hb
        split at h
        · rename_i hlen
          injection h with h; subst h
          have hF := ih _ _ ha
          obtain ⟨r1, r2⟩ := flat_fields ih fs _ _ hb
          obtain ⟨g, hg, hz⟩ := hF.agg
          refine ⟨fun M w D l m xs ys b' hD hl hm he => ?_, fun M w em D l m xs b' hD hl he => ?_⟩
          · obtain ⟨x, y, e1, e2, rfl⟩ := eqK_app he
            have hlens := eqK_len he
            simp only [List.length_append] at hlens
            obtain ⟨s1, s2⟩ := seg (n := a.length) hl
            obtain ⟨s3, s4⟩ := seg (n := a.length) hm
            rw [hlen] at s1 s2 s3 s4 e1 e2
            have p1 : (part f.type xs f.offset).run P w = .ok (mkV P f.type ((xs.toList.drop o).take (P.cellsOf f.type))) w := by
              have h1 := hl.len
              simp at h1
              rw [ho]; exact run_part_mk hg hz (fun _ => by omega) w
            have p2 : (part f.type ys f.offset).run P w = .ok (mkV P f.type ((ys.toList.drop o).take (P.cellsOf f.type))) w := by
              have h1 := hm.len
              simp at h1
              rw [ho]; exact run_part_mk hg hz (fun _ => by omega) w
            have q := hF.eq M w D _ _ _ _ x hD s1 s3 e1
            simp only [Op.eqFields, hn, ne_eq, not_false_eq_true, if_true, Sem.run_bind, p1, p2, q, Result.andThen_ok]
            cases x with
            | false => simp
            | true => simpa using r1 M w D _ _ xs ys y hD s2 s4 e2
          · obtain ⟨x, y, e1, e2, rfl⟩ := eqK_app he
            have hlens := eqK_len he
            simp only [List.length_append] at hlens
            obtain ⟨s1, s2⟩ := seg (n := a.length) hl
            rw [hlen] at s1 s2 e1 e2
            have p1 : (part f.type xs f.offset).run P w = .ok (mkV P f.type ((xs.toList.drop o).take (P.cellsOf f.type))) w := by
              have h1 := hl.len
              simp at h1
              rw [ho]; exact run_part_mk hg hz (fun _ => by omega) w
            have q := hF.key M w em D _ _ _ x hD s1 e1
            simp only [List.forIn_cons, Sem.run_bind, hn, ne_eq, not_false_eq_true, if_true, p1, q, Result.andThen_ok, Sem.run_pure]
            exact r2 M w em D _ _ xs y hD s2 e2
        · cases h
      · cases h
    · cases h

theorem replK_len (n : Nat) (ks : List Kd) : (replK n ks).length = n * ks.length := by
  induction n with
  | zero => simp [replK]
  | succ n ih => simp [replK, ih, Nat.succ_mul, Nat.add_comm]

theorem flat_items {d : Nat} {e : TypeId} {ks : List Kd} (hF : FlatAt P d e ks) : ∀ (n s : Nat),
    (∀ (M : Mem) (w : World) (D : Nat) (l m : List PV) (xs ys : Array Value) (b : Bool), d ≤ D → All2 (PRep M) l (xs.toList.drop (s * P.cellsOf e)) → All2 (PRep M) m (ys.toList.drop (s * P.cellsOf e)) → eqK? (replK n ks) l m = some b →
      (Op.eqItems D e (P.cellsOf e) xs ys (List.range' s n)).run P w = .ok b w) ∧
    (∀ (M : Mem) (w : World) (em : Bool) (D : Nat) (l m : List PV) (xs : Array Value) (b : Bool), d ≤ D → All2 (PRep M) l (xs.toList.drop (s * P.cellsOf e)) → eqK? (replK n ks) l m = some b →
      (forIn (List.range' s n) PUnit.unit (fun i (_ : PUnit) => do
          Instr.checkKey em D e (← part e xs (i * (← Go.sizeOf e)))
          pure (ForInStep.yield PUnit.unit)) : Sem PUnit).run P w = .ok PUnit.unit w)
  | 0, s => by
    refine ⟨fun M w D l m xs ys b hD hl hm he => ?_, fun M w em D l m xs b hD hl he => by simp⟩
    have := eqK_len he
    have e1 : l = [] := List.eq_nil_of_length_eq_zero this.1
    have e2 : m = [] := List.eq_nil_of_length_eq_zero this.2
    subst e1 e2
    simp [replK, eqK?] at he; subst he
    simp [Op.eqItems]
  | n + 1, s => by
    obtain ⟨r1, r2⟩ := flat_items hF n (s + 1)
    obtain ⟨g, hg, hz⟩ := hF.agg
    obtain ⟨i, hi⟩ := info_of_agg hg
    have hlen := hF.len
    have hpart : ∀ {M : Mem} {l : List PV} {xs : Array Value} {w : World}, All2 (PRep M) l (xs.toList.drop (s * P.cellsOf e)) → ks.length ≤ l.length →
        (part e xs (s * P.cellsOf e)).run P w = .ok (mkV P e ((xs.toList.drop (s * P.cellsOf e)).take (P.cellsOf e))) w := by
      intro M l xs w hl hle
      have h1 := hl.len
      simp at h1
      exact run_part_mk hg hz (fun _ => by omega) w
    refine ⟨fun M w D l m xs ys b hD hl hm he => ?_, fun M w em D l m xs b hD hl he => ?_⟩
    · rw [replK] at he
      have hlens := eqK_len he
      simp only [List.length_append] at hlens
      obtain ⟨x, y, e1, e2, rfl⟩ := eqK_app he
      obtain ⟨s1, s2⟩ := seg (n := ks.length) hl
      obtain ⟨s3, s4⟩ := seg (n := ks.length) hm
      have p1 := hpart (w := w) hl (by omega)
      have p2 := hpart (w := w) hm (by omega)
      rw [hlen] at s1 s2 s3 s4 e1 e2
      have q := hF.eq M w D _ _ _ _ x hD s1 s3 e1
      rw [← Nat.succ_mul] at s2 s4
      rw [List.range'_succ]
      simp only [Op.eqItems, Sem.run_bind, p1, p2, q, Result.andThen_ok]
      cases x with
      | false => simp
      | true => simpa using r1 M w D _ _ xs ys y hD s2 s4 e2
    · rw [replK] at he
      have hlens := eqK_len he
      simp only [List.length_append] at hlens
      obtain ⟨x, y, e1, e2, rfl⟩ := eqK_app he
      obtain ⟨s1, s2⟩ := seg (n := ks.length) hl
      have p1 := hpart (w := w) hl (by omega)
      rw [hlen] at s1 s2 e1 e2
      have q := hF.key M w em D _ _ _ x hD s1 e1
      rw [← Nat.succ_mul] at s2
      rw [List.range'_succ]
      simp only [List.forIn_cons, Sem.run_bind, run_size hi, p1, q, Result.andThen_ok, Sem.run_pure]
      exact r2 M w em D _ _ xs y hD s2 e2

theorem flat_at : ∀ (d : Nat) (t : TypeId) (ks : List Kd), flatK P d t = some ks → FlatAt P d t ks
  | 0, _, _, h => by simp [flatK] at h
  | d + 1, t, ks, h => by
    simp only [flatK] at h
    cases hu : P.underlying t with
    | none => simp [hu] at h
    | some td =>
      rw [hu] at h
      cases td <;> simp only at h <;> try (cases h; done)
      case bool => split at h <;> first | (rename_i hz; injection h with h; subst h; exact flat_scalar hu hz (.inl ⟨rfl, rfl⟩)) | cases h
      case int q => split at h <;> first | (rename_i hz; injection h with h; subst h; exact flat_scalar hu hz (.inr (.inl ⟨q, rfl, rfl⟩))) | cases h
      case string => split at h <;> first | (rename_i hz; injection h with h; subst h; exact flat_scalar hu hz (.inr (.inr ⟨rfl, rfl⟩))) | cases h
      case array n e =>
        split at h
        · rename_i ks' hk
          split at h
          · rename_i hc
            injection h with h; subst h
            have hF := flat_at d e ks' hk
            have hag : isAggT P t = some true := by rw [isAgg_und hu]
            have hm : ∀ v : List Value, mkV P t v = .agg v.toArray := fun v => by simp [mkV, hag]
            obtain ⟨g, hg, _⟩ := hF.agg
            obtain ⟨i, hi⟩ := info_of_agg hg
            refine ⟨⟨true, hag, .inl rfl⟩, by rw [replK_len, hc.1, hc.2], fun M w D l m vs us b hD hl hm' he => ?_, fun M w em D l m vs b hD hl he => ?_⟩
            · obtain ⟨D, rfl⟩ : ∃ n, D = n + 1 := ⟨D - 1, by omega⟩
              rw [hm, hm, run_equalIn_array w D vs.toArray us.toArray hu hi, List.range_eq_range']
              exact (flat_items hF n 0).1 M w D l m _ _ b (by omega) (by simpa using hl) (by simpa using hm') he
            · obtain ⟨D, rfl⟩ : ∃ n, D = n + 1 := ⟨D - 1, by omega⟩
              have := (flat_items hF n 0).2 M w em D l m vs.toArray b (by omega) (by simpa using hl) he
              rw [hm, Instr.checkKey]
              simp only [Sem.run_bind, run_und hu, Result.andThen_ok]
              simp only [Std.Legacy.Range.forIn_eq_forIn_range', Std.Legacy.Range.size, Nat.sub_zero, Nat.add_one_sub_one, Nat.div_one]
              simp at this
              simp
              rw [this]; rfl
          · cases h
        · cases h
      case struct fs =>
        split at h
        · cases h
        · rename_i hst
          split at h
          · rename_i ks' hk
            split at h
            · rename_i hl'
              injection h with h; subst h
              have hag : isAggT P t = some true := by rw [isAgg_und hu]
              have hm : ∀ v : List Value, mkV P t v = .agg v.toArray := fun v => by simp [mkV, hag]
              have hfo : P.fieldsOf t = fs := by simp [Program.fieldsOf, hu]
              refine ⟨⟨true, hag, .inl rfl⟩, hl', fun M w D l m vs us b hD hl hm' he => ?_, fun M w em D l m vs b hD hl he => ?_⟩
              · obtain ⟨D, rfl⟩ : ∃ n, D = n + 1 := ⟨D - 1, by omega⟩
                rw [hm, hm, run_equalIn_struct w D t _ _ (by rw [hfo]; exact hu) (by simpa using hst), hfo]
                exact (flat_fields (flat_at d) fs.toList 0 _ hk).1 M w D l m _ _ b (by omega) (by simpa using hl) (by simpa using hm') he
              · obtain ⟨D, rfl⟩ : ∃ n, D = n + 1 := ⟨D - 1, by omega⟩
                have := (flat_fields (flat_at d) fs.toList 0 _ hk).2 M w em D l m vs.toArray b (by omega) (by simpa using hl) he
                rw [hm, Instr.checkKey]
                simp only [Sem.run_bind, run_und hu, Result.andThen_ok]
                rw [← Array.forIn_toList]
                simp at this
                simp
                rw [this]; rfl
            · cases h
          · cases h
end

end Gv
