/- Fifth part: slices, texts, rows that grow. -/
import Derived.Test.YtnjnlkaagfihbaaAOps4
set_option linter.all false
namespace Gv
open Go

section
variable {X : Ctx} {U : Nat → Prop} {j : Nat → Option Nat} {M : Mem} {h : Hp} {ar : Nat} {w : World} {fk : Nat} {P : Program} {S : Nat → Nat}

theorem isNilP_rep {x : AV} {b : Bool} {v : Value} (h : isNilP x = some b) (hx : ARep U j M S x v) : ∃ p, v = .pointer p ∧ p.isNone = b := by
  unfold isNilP at h
  split at h <;> first | (injection h with h; subst h) | cases h
  · cases hx; exact ⟨_, rfl, rfl⟩
  · cases hx; exact ⟨_, rfl, rfl⟩
  · cases hx; exact ⟨_, rfl, rfl⟩
theorem isNilS_rep {x : AV} {b : Bool} {v : Value} (h : isNilS x = some b) (hx : ARep U j M S x v) : ∃ p n c, v = .slice p n c ∧ p.isNone = b := by
  unfold isNilS at h
  split at h <;> first | (injection h with h; subst h) | cases h
  · cases hx; exact ⟨_, _, _, rfl, rfl⟩
  · cases hx; exact ⟨_, _, _, rfl, rfl⟩
  · cases hx; exact ⟨_, _, _, rfl, rfl⟩
theorem isNilM_rep {x : AV} {b : Bool} {v : Value} (h : isNilM x = some b) (hx : ARep U j M S x v) : ∃ p, v = .map p ∧ p.isNone = b := by
  unfold isNilM at h
  split at h <;> first | (injection h with h; subst h) | cases h
  · cases hx; exact ⟨_, rfl, rfl⟩
  · cases hx; exact ⟨_, rfl, rfl⟩
theorem isNilF_rep {x : AV} {b : Bool} {v : Value} (h : isNilF x = some b) (hx : ARep U j M S x v) : (b = true ∧ v = .nilFunc) ∨ (b = false ∧ ∃ f p q, v = .func f p q) := by
  unfold isNilF at h
  split at h <;> first | (injection h with h; subst h) | cases h
  · cases hx; exact .inl ⟨rfl, rfl⟩
  · cases hx; exact .inr ⟨rfl, _, _, _, rfl⟩
  · cases hx; exact .inr ⟨rfl, _, _, _, rfl⟩

theorem eqd_ptr (d : Nat) {t e : TypeId} (ht : P.underlying t = some (.pointer e)) (p : Option Addr) : (Op.equalIn (d + 1) t (.pointer none) (.pointer p)).run P w = .ok p.isNone w ∧ (Op.equalIn (d + 1) t (.pointer p) (.pointer none)).run P w = .ok p.isNone w := by
  constructor <;> cases p <;> simp [Op.equalIn, run_und ht]
theorem eqd_ptr2 (d : Nat) {t e : TypeId} (ht : P.underlying t = some (.pointer e)) {i : TypeInfo} (hi : P.info? e = some i) (hz : P.cellsOf e ≠ 0) (B o o' : Nat) :
    (Op.equalIn (d + 1) t (.pointer (some ⟨B, o, none⟩)) (.pointer (some ⟨B, o', none⟩))).run P w = .ok (o == o') w := by
  have e : (({ block := B, off := o } : Addr) == { block := B, off := o' }) = (o == o') := by
    rw [Bool.eq_iff_iff]; simp
  simp [Op.equalIn, run_und ht, run_size hi, hz, sameAddr, e]
theorem eqd_slc (d : Nat) {t e : TypeId} (ht : P.underlying t = some (.slice e)) (p : Option Addr) (n c : Nat) : (Op.equalIn (d + 1) t (.slice none 0 0) (.slice p n c)).run P w = .ok p.isNone w ∧ (Op.equalIn (d + 1) t (.slice p n c) (.slice none 0 0)).run P w = .ok p.isNone w := by
  constructor <;> cases p <;> simp [Op.equalIn, run_und ht]
theorem eqd_map (d : Nat) {t k e : TypeId} (ht : P.underlying t = some (.map k e)) (p : Option Nat) : (Op.equalIn (d + 1) t (.map none) (.map p)).run P w = .ok p.isNone w ∧ (Op.equalIn (d + 1) t (.map p) (.map none)).run P w = .ok p.isNone w := by
  constructor <;> cases p <;> simp [Op.equalIn, run_und ht]
theorem eqd_fn (d : Nat) {t : TypeId} {ps rs : Array TypeId} {vr : Bool} (ht : P.underlying t = some (.func ps rs vr)) (f : Fn) (p q : Array Value) :
    (Op.equalIn (d + 1) t .nilFunc .nilFunc).run P w = .ok true w ∧ (Op.equalIn (d + 1) t .nilFunc (.func f p q)).run P w = .ok false w ∧ (Op.equalIn (d + 1) t (.func f p q) .nilFunc).run P w = .ok false w := by
  refine ⟨?_, ?_, ?_⟩ <;> simp [Op.equalIn, run_und ht]
theorem run_eq_ptr {t e : TypeId} (ht : P.underlying t = some (.pointer e)) (p : Option Addr) : (Op.equal t (.pointer none) (.pointer p)).run P w = .ok p.isNone w ∧ (Op.equal t (.pointer p) (.pointer none)).run P w = .ok p.isNone w := eqd_ptr 9999 ht p
theorem run_eq_slc {t e : TypeId} (ht : P.underlying t = some (.slice e)) (p : Option Addr) (n c : Nat) : (Op.equal t (.slice none 0 0) (.slice p n c)).run P w = .ok p.isNone w ∧ (Op.equal t (.slice p n c) (.slice none 0 0)).run P w = .ok p.isNone w := eqd_slc 9999 ht p n c
theorem run_eq_map {t k e : TypeId} (ht : P.underlying t = some (.map k e)) (p : Option Nat) : (Op.equal t (.map none) (.map p)).run P w = .ok p.isNone w ∧ (Op.equal t (.map p) (.map none)).run P w = .ok p.isNone w := eqd_map 9999 ht p
theorem run_eq_fn {t : TypeId} {ps rs : Array TypeId} {vr : Bool} (ht : P.underlying t = some (.func ps rs vr)) (f : Fn) (p q : Array Value) :
    (Op.equal t .nilFunc .nilFunc).run P w = .ok true w ∧ (Op.equal t .nilFunc (.func f p q)).run P w = .ok false w ∧ (Op.equal t (.func f p q) .nilFunc).run P w = .ok false w := eqd_fn 9999 ht f p q

/-- '==' at one cell. -/
theorem eqv_run (r : RH X U j M h ar w) {t : TypeId} {c : Cls} (hc : cEq P t = some c) {x y : AV} {b : Bool} (hs : eqAV h c x y = some b) {v u : Value} (hx : ARep U j M (bsz w) x v) (hy : ARep U j M (bsz w) y u) :
    (∀ cs, v ≠ .agg cs) ∧ v ≠ .nilIface ∧ (binOp .eql t v u).run P w = .ok (.bool b) w ∧ (binOp .neq t v u).run P w = .ok (.bool (!b)) w := by
  unfold cEq at hc
  split at hc
  · rename_i ht
    injection hc with hc; subst hc
    unfold eqAV at hs
    simp only at hs
    split at hs
    · rename_i p q
      injection hs with hs; subst hs
      have := prep_bool hx; subst this
      have := prep_bool hy; subst this
      have e := run_equalIn_bool' (P := P) w 9999 t p q ht
      have e' : (Op.equal t (.bool p) (.bool q)).run P w = .ok (p == q) w := e
      refine ⟨by simp, by simp, ?_, ?_⟩ <;> simp [binOp, e']
    · cases hs
  · rename_i e ht
    split at hc
    · cases hc
    · rename_i hz
      injection hc with hc; subst hc
      have key : ∃ p q, v = .pointer p ∧ u = .pointer q ∧ (Op.equal t v u).run P w = .ok b w := by
        simp only [eqAV] at hs
        unfold eqPtr at hs
        split at hs
        · obtain ⟨q, rfl, hq⟩ := isNilP_rep hs hy
          cases hx
          exact ⟨_, _, rfl, rfl, by rw [← hq]; exact (run_eq_ptr ht q).1⟩
        · obtain ⟨q, rfl, hq⟩ := isNilP_rep hs hx
          cases hy
          exact ⟨_, _, rfl, rfl, by rw [← hq]; exact (run_eq_ptr ht q).2⟩
        · rename_i k o k' o'
          split at hs
          · rename_i hk
            obtain ⟨rfl, hk⟩ := hk
            injection hs with hs; subst hs
            obtain ⟨b, hb⟩ := Option.isSome_iff_exists.1 hk
            obtain ⟨B, hB, _⟩ := r.hp _ b hb
            obtain ⟨B1, rfl, _, h1⟩ := crep_ptr hx
            obtain ⟨B2, rfl, _, h2⟩ := crep_ptr hy
            have := h1 B hB; subst this
            have := h2 B hB; subst this
            refine ⟨_, _, rfl, rfl, ?_⟩
            have hi : ∃ i, P.info? e = some i := by
              cases hi : P.info? e with
              | none => simp [Program.cellsOf, hi] at hz
              | some i => exact ⟨i, rfl⟩
            obtain ⟨i, hi⟩ := hi
            exact eqd_ptr2 9999 ht hi hz B o o'
          · cases hs
        · cases hs
      obtain ⟨p, q, rfl, rfl, he⟩ := key
      refine ⟨by simp, by simp, ?_, ?_⟩ <;> cases p <;> cases q <;> simp [binOp, he]
  · rename_i e ht
    injection hc with hc; subst hc
    have key : ∃ p n m q n' m', v = .slice p n m ∧ u = .slice q n' m' ∧ (Op.equal t v u).run P w = .ok b w := by
      simp only [eqAV] at hs
      split at hs
      · obtain ⟨q, n, m, rfl, hq⟩ := isNilS_rep hs hy
        cases hx
        exact ⟨_, _, _, _, _, _, rfl, rfl, by rw [← hq]; exact (run_eq_slc ht q n m).1⟩
      · obtain ⟨q, n, m, rfl, hq⟩ := isNilS_rep hs hx
        cases hy
        exact ⟨_, _, _, _, _, _, rfl, rfl, by rw [← hq]; exact (run_eq_slc ht q n m).2⟩
      · cases hs
    obtain ⟨p, n, m, q, n', m', rfl, rfl, he⟩ := key
    refine ⟨by simp, by simp, ?_, ?_⟩ <;> simp [binOp, he]
  · rename_i k e ht
    injection hc with hc; subst hc
    have key : ∃ p q, v = .map p ∧ u = .map q ∧ (Op.equal t v u).run P w = .ok b w := by
      simp only [eqAV] at hs
      split at hs
      · obtain ⟨q, rfl, hq⟩ := isNilM_rep hs hy
        cases hx
        exact ⟨_, _, rfl, rfl, by rw [← hq]; exact (run_eq_map ht q).1⟩
      · obtain ⟨q, rfl, hq⟩ := isNilM_rep hs hx
        cases hy
        exact ⟨_, _, rfl, rfl, by rw [← hq]; exact (run_eq_map ht q).2⟩
      · cases hs
    obtain ⟨p, q, rfl, rfl, he⟩ := key
    refine ⟨by simp, by simp, ?_, ?_⟩ <;> simp [binOp, he]
  · rename_i ps rs vr ht
    injection hc with hc; subst hc
    have key : ((v = .nilFunc) ∨ ∃ f p q, v = .func f p q) ∧ ((u = .nilFunc) ∨ ∃ f p q, u = .func f p q) ∧ (Op.equal t v u).run P w = .ok b w := by
      simp only [eqAV] at hs
      split at hs
      · cases hx
        rcases isNilF_rep hs hy with ⟨rfl, rfl⟩ | ⟨rfl, f, p, q, rfl⟩
        · exact ⟨.inl rfl, .inl rfl, (run_eq_fn ht (.func 0) #[] #[]).1⟩
        · exact ⟨.inl rfl, .inr ⟨_, _, _, rfl⟩, (run_eq_fn ht f p q).2.1⟩
      · cases hy
        rcases isNilF_rep hs hx with ⟨rfl, rfl⟩ | ⟨rfl, f, p, q, rfl⟩
        · exact ⟨.inl rfl, .inl rfl, (run_eq_fn ht (.func 0) #[] #[]).1⟩
        · exact ⟨.inr ⟨_, _, _, rfl⟩, .inl rfl, (run_eq_fn ht f p q).2.2⟩
      · cases hs
    obtain ⟨h1, h2, he⟩ := key
    rcases h1 with rfl | ⟨f, p, q, rfl⟩ <;> rcases h2 with rfl | ⟨f', p', q', rfl⟩ <;> refine ⟨by simp, by simp, ?_, ?_⟩ <;> simp [binOp, he]
  · cases hc

theorem do_eqv (r : RH X U j M h ar w) {t : TypeId} {c : Cls} (hc : cEq P t = some c) {neg : Bool} {xo yo : Operand} {x y : AV} {v u : Value} (hx : ARep U j M (bsz w) x v) (hy : ARep U j M (bsz w) y u) {z : AV} {up : Upd}
    (hs : (eqAV h c x y).map (fun b => (AV.p (.bool (if neg then !b else b)), ([] : Upd))) = some (z, up)) :
    Done X U j M h ar w fk ((do Pure.pure (.value (← (do eqGuard (if neg then .neq else .eql) t xo yo v u; binOp (if neg then .neq else .eql) t v u))) : Sem Next).run P w) z up := by
  simp only [Option.map_eq_some_iff, Prod.mk.injEq] at hs
  obtain ⟨b, hb, rfl, rfl⟩ := hs
  obtain ⟨h1, h2, h3, h4⟩ := eqv_run (P := P) r hc hb hx hy
  refine Done.pure (x := .p (.bool (if neg then !b else b))) r (v := .bool (if neg then !b else b)) (PRep.bool _) ?_
  cases neg <;> simp [run_eqGuard h1 h2, h3, h4]

/-! Texts. -/
theorem do_same (r : RH X U j M h ar w) {t t' : TypeId} (ht : P.underlying t = some .string) (ht' : P.underlying t' = some .string) {x y : AV} {v : Value} (hx : ARep U j M (bsz w) x v) {u : Upd}
    (hs : (match (generalizing := false) x with | .p (.str b) => some (AV.p (.str b), ([] : Upd)) | _ => none) = some (y, u)) :
    Done X U j M h ar w fk ((do Pure.pure (.value (← convert t t' v)) : Sem Next).run P w) y u := by
  cases x <;> try (simp at hs; done)
  rename_i c
  cases c <;> try (simp at hs; done)
  injection hs with hs; injection hs with h1 h2; subst h1 h2
  obtain ⟨s, rfl, _⟩ := prep_str hx
  exact Done.pure (x := .p (.str _)) r hx (by simp [convert, run_und ht, run_und ht'])

theorem prep_list {z : Nat} {l : List (List PV)} {v : Value} (h : PRep M (.list z l) v) (hne : l ≠ []) :
    ∃ (b o cap : Nat) (vals : Nat → Value), v = .slice (some ⟨b, o, none⟩) l.length cap ∧ (∀ row, row ∈ l → row.length = z) ∧ l.length ≤ cap ∧
      (∀ i c, l.flatten[i]? = some c → M b (o + i) = some (vals i)) ∧ ∀ i c, l.flatten[i]? = some c → PRep M c (vals i) := by
  cases h with
  | none => exact (hne rfl).elim
  | list _ _ b o cap vals hu hc hm hr => exact ⟨b, o, cap, vals, rfl, hu, hc, hm, hr⟩
theorem prep_len {z : Nat} {l : List (List PV)} {v : Value} (h : PRep M (.list z l) v) : ∃ a cap, v = .slice a l.length cap ∧ l.length ≤ cap := by
  cases h with
  | none _ a cap => exact ⟨a, cap, rfl, by simp⟩
  | list _ _ b o cap vals hu hc hm hr => exact ⟨_, _, rfl, hc⟩
theorem crep_slc {k o n z : Nat} {v : Value} (h : CRep U j M S (.slc k o n z) v) :
    ∃ a cap, v = .slice (some a) n cap ∧ U k ∧ n ≤ cap ∧ ∀ B, j k = some B → (a = ⟨B, o, none⟩ ∧ o + cap * z ≤ S B) ∨ (n = 0 ∧ cap = 0) := by
  cases h with
  | slc _ _ _ _ a cap hu hn hb => exact ⟨a, cap, rfl, hu, hn, hb⟩

theorem flat_len {z : Nat} : ∀ {l : List (List PV)}, (∀ row, row ∈ l → row.length = z) → l.flatten.length = l.length * z
  | [], _ => by simp
  | r :: l, h => by
    have h1 := flat_len (l := l) fun row hr => h row (by simp [hr])
    have h2 := h r (by simp)
    rw [List.flatten_cons, List.length_append, List.length_cons, h1, h2, Nat.succ_mul]
    omega

/-- The cells behind a slice without references. -/
theorem list_cells (hmem : ∀ b o v, M b o = some v → w.cell? ⟨b, o, none⟩ = some v) {z : Nat} {l : List (List PV)} {v : Value} (h : PRep M (.list z l) v) (hne : l ≠ []) :
    ∃ a cap vs, v = .slice (some a) l.length cap ∧ All2 (PRep M) l.flatten vs ∧ (loadCells a (l.length * z)).run P w = .ok vs.toArray w := by
  obtain ⟨b, o, cap, vals, rfl, hu, hc, hm, hr⟩ := prep_list h hne
  have hl := flat_len hu
  refine ⟨_, cap, (List.range l.flatten.length).map vals, rfl, ?_, ?_⟩
  · refine All2.of (by simp) fun i a v ha hv => ?_
    have hi := (List.getElem?_eq_some_iff.1 ha).1
    rw [List.getElem?_map, List.getElem?_range hi] at hv
    injection hv with hv
    rw [← hv]
    exact hr i a ha
  · have := run_loadCells_list (P := P) w ⟨b, o, none⟩ ((List.range l.flatten.length).map vals) (fun q v hq => by
      have hi : q < l.flatten.length := by have := (List.getElem?_eq_some_iff.1 hq).1; simpa using this
      rw [List.getElem?_map, List.getElem?_range hi] at hq
      simp at hq; subst hq
      rw [add_none]
      exact hmem _ _ _ (hm q _ (List.getElem?_eq_getElem hi)))
    rw [List.length_map, List.length_range, hl] at this
    rw [hl]; exact this

/-- The cells behind a slice of the call's own. -/
theorem slc_cells (r : RH X U j M h ar w) {k o n z : Nat} {m : Tag} {f : Nat} {cs : List C} {v : Value} (hx : CRep U j M (bsz w) (.slc k o n z) v) (hk : h.cells? k = some (m, f, cs)) (hle : o + n * z ≤ cs.length) (hn : n ≠ 0) :
    ∃ B cap vs, j k = some B ∧ v = .slice (some ⟨B, o, none⟩) n cap ∧ n ≤ cap ∧ o + cap * z ≤ bsz w B ∧ All2 (CRep U j M (bsz w)) ((cs.drop o).take (n * z)) vs ∧ (loadCells ⟨B, o, none⟩ (n * z)).run P w = .ok vs.toArray w := by
  have hg := Hp.cells_get hk
  obtain ⟨B, hB, c, lo, hi, hw, hl, hf, hfr, hr⟩ := r.hp k _ hg
  obtain ⟨a, cap, rfl, hu, hc, hb⟩ := crep_slc hx
  rcases hb B hB with ⟨rfl, hcap⟩ | ⟨h0, _⟩
  · exact ⟨B, cap, _, hB, rfl, hc, hcap, slice_rep hl hr hle, run_loadC hw (by omega)⟩
  · exact (hn h0).elim

theorem rowBytes_rep : ∀ {cs : List C} {b : List UInt8} {vs : List Value}, rowBytes cs = some b → All2 (CRep U j M S) cs vs → ∃ ns : List Int, vs = ns.map (.int .u8) ∧ b = ns.map fun n => UInt8.ofNat n.toNat
  | [], b, vs, h, hr => by simp [rowBytes] at h; subst h; rw [hr.nil_left]; exact ⟨[], rfl, rfl⟩
  | c :: cs, b, vs, h, hr => by
    cases vs with
    | nil => exact hr.elim
    | cons v vs =>
      unfold rowBytes at h
      split at h
      · rename_i heq; cases heq
      · rename_i n l heq
        injection heq with e1 e2; subst e1 e2
        simp only [Option.map_eq_some_iff] at h
        obtain ⟨b', hb, rfl⟩ := h
        obtain ⟨ns, rfl, rfl⟩ := rowBytes_rep hb hr.2
        have : v = .int .u8 n := by cases hr.1 with | p hp => exact prep_int hp
        exact ⟨n :: ns, by rw [this]; rfl, rfl⟩
      · cases h

theorem pvBytes_row : ∀ {l : List (List PV)} {b : List UInt8}, pvBytes l = some b → (∀ row, row ∈ l → row.length = 1) ∧ rowBytes (l.flatten.map C.p) = some b
  | [], b, h => by simp [pvBytes] at h; subst h; exact ⟨by simp, rfl⟩
  | r :: l, b, h => by
    unfold pvBytes at h
    split at h
    · rename_i heq; cases heq
    · rename_i n l' heq
      injection heq with e1 e2; subst e1 e2
      simp only [Option.map_eq_some_iff] at h
      obtain ⟨b', hb, rfl⟩ := h
      obtain ⟨h1, h2⟩ := pvBytes_row hb
      exact ⟨by simp; exact h1, by simp only [List.flatten_cons, List.map_append, List.map_cons, List.map_nil, List.singleton_append, rowBytes, h2]; rfl⟩
    · cases h

theorem run_bytes (ns : List Int) : ∀ (s : ByteArray), ((forIn (ns.map (Value.int .u8)) s fun c s => do
      match c with
      | .int .u8 n => pure (ForInStep.yield (s.push (UInt8.ofNat n.toNat)))
      | _ => do
        stuck "bytesToString: byte expected"
        pure (ForInStep.yield s) : Sem ByteArray)).run P w = .ok ⟨(s.data.toList ++ ns.map fun n => UInt8.ofNat n.toNat).toArray⟩ w := by
  induction ns with
  | nil => intro s; simp
  | cons n ns ih =>
    intro s
    simp only [List.map_cons, List.forIn_cons, Sem.run_bind, Sem.run_pure, Result.andThen_ok, ih]
    congr 2
    simp [ByteArray.push]

theorem do_b2s (r : RH X U j M h ar w) {t t' e : TypeId} (ht : P.underlying t = some (.slice e)) (ht' : P.underlying t' = some .string) (he : P.underlying e = some (.int .u8)) {x y : AV} {v : Value} (hx : ARep U j M (bsz w) x v) {u : Upd}
    (hs : (match (generalizing := false) x with
      | .p (.list z l) => if l.isEmpty then some (AV.p (.str []), ([] : Upd)) else if z = 1 then (pvBytes l).map fun b => (.p (.str b), []) else none
      | .r .nils => some (.p (.str []), [])
      | .r .e0 => some (.p (.str []), [])
      | .r (.slc k o n z) => if n = 0 then some (.p (.str []), []) else if z = 1 then
          match h.cells? k with
          | some (_, _, cs) => if o + n ≤ cs.length then (rowBytes ((cs.drop o).take n)).map fun b => (.p (.str b), []) else none
          | none => none
        else none
      | _ => none) = some (y, u)) :
    Done X U j M h ar w fk ((do Pure.pure (.value (← convert t t' v)) : Sem Next).run P w) y u := by
  have hconv : ∀ p n c, (convert t t' (.slice p n c)).run P w = (Conv.bytesToString (.slice p n c)).run P w := by
    intro p n c
    simp [convert, run_und ht, run_und ht', run_und he]
  have empty : ∀ p c, ∃ s : ByteArray, (Conv.bytesToString (.slice p 0 c)).run P w = .ok (.string s) w ∧ s.data.toList = [] := by
    intro p c
    cases p with
    | none => exact ⟨.empty, by simp [Conv.bytesToString], rfl⟩
    | some a => exact ⟨.empty, by simp [Conv.bytesToString, loadCells, loadCellsFrom], rfl⟩
  have full : ∀ a n c (vs : List Value) (ns : List Int), (loadCells a n).run P w = .ok vs.toArray w → vs = ns.map (.int .u8) → ∃ s : ByteArray, (Conv.bytesToString (.slice (some a) n c)).run P w = .ok (.string s) w ∧ s.data.toList = ns.map fun n => UInt8.ofNat n.toNat := by
    intro a n c vs ns h1 h2
    subst h2
    refine ⟨⟨(ns.map fun n => UInt8.ofNat n.toNat).toArray⟩, ?_, by simp⟩
    have := run_bytes (P := P) (w := w) ns .empty
    simp only [Conv.bytesToString, Sem.run_bind, h1, Result.andThen_ok]
    rw [List.forIn_toArray]
    exact congrArg (fun q : Result ByteArray => q.andThen fun a w' => (Pure.pure (Value.string a) : Sem Value).run P w') this
  cases x <;> try (simp at hs; done)
  · rename_i c
    cases c <;> try (simp at hs; done)
    rename_i z l
    simp only at hs
    split at hs
    · rename_i he'
      injection hs with hs; injection hs with h1 h2; subst h1 h2
      have : l = [] := by simpa using he'
      subst this
      obtain ⟨a, cap, rfl, _⟩ := prep_len hx
      obtain ⟨s, h1, h2⟩ := empty a cap
      exact Done.pure (x := .p (.str [])) r (str_prep h2) (by rw [hconv]; exact h1)
    · rename_i he'
      split at hs
      · rename_i hz; subst hz
        simp only [Option.map_eq_some_iff, Prod.mk.injEq] at hs
        obtain ⟨b, hb, rfl, rfl⟩ := hs
        have hne : l ≠ [] := fun e => he' (by simp [e])
        obtain ⟨a, cap, vs, rfl, hr, hrun⟩ := list_cells (P := P) r.mem hx hne
        obtain ⟨_, hrow⟩ := pvBytes_row hb
        obtain ⟨ns, hvs, rfl⟩ := rowBytes_rep (U := U) (j := j) (S := bsz w) hrow (All2.p.2 hr)
        rw [Nat.mul_one] at hrun
        obtain ⟨s, h1, h2⟩ := full a l.length cap vs ns hrun hvs
        exact Done.pure (x := .p (.str _)) r (str_prep h2) (by rw [hconv]; exact h1)
      · cases hs
  · rename_i c
    cases c <;> try (simp at hs; done)
    · injection hs with hs; injection hs with h1 h2; subst h1 h2
      cases hx
      obtain ⟨s, h1, h2⟩ := empty none 0
      exact Done.pure (x := .p (.str [])) r (str_prep h2) (by rw [hconv]; exact h1)
    · rename_i k o n z
      simp only at hs
      split at hs
      · rename_i hn; subst hn
        injection hs with hs; injection hs with h1 h2; subst h1 h2
        obtain ⟨a, cap, rfl, _⟩ := crep_slc hx
        obtain ⟨s, h1, h2⟩ := empty (some a) cap
        exact Done.pure (x := .p (.str [])) r (str_prep h2) (by rw [hconv]; exact h1)
      · rename_i hn
        split at hs
        · rename_i hz; subst hz
          cases hk : h.cells? k with
          | none => simp [hk] at hs
          | some mfc =>
            obtain ⟨m, f, cs⟩ := mfc
            simp only [hk] at hs
            split at hs
            · rename_i hle
              simp only [Option.map_eq_some_iff, Prod.mk.injEq] at hs
              obtain ⟨b, hb, rfl, rfl⟩ := hs
              obtain ⟨B, cap, vs, hB, rfl, hc, _, hr, hrun⟩ := slc_cells (P := P) r hx hk (by omega) hn
              rw [Nat.mul_one] at hr hrun
              obtain ⟨ns, hvs, rfl⟩ := rowBytes_rep hb hr
              obtain ⟨s, h1, h2⟩ := full _ n cap vs ns hrun hvs
              exact Done.pure (x := .p (.str _)) r (str_prep h2) (by rw [hconv]; exact h1)
            · cases hs
        · cases hs
    · injection hs with hs; injection hs with h1 h2; subst h1 h2
      cases hx
      obtain ⟨s, h1, h2⟩ := empty _ 0
      exact Done.pure (x := .p (.str [])) r (str_prep h2) (by rw [hconv]; exact h1)
end

end Gv
