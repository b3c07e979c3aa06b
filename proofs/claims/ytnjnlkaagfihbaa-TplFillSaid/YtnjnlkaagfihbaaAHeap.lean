/- How the relation of heaps stays behind a new block, a store, a block that goes. -/
import Derived.Test.YtnjnlkaagfihbaaARel
set_option linter.all false
namespace Gv
open Go

def setB (w : World) (B : Nat) (o : Obj) : World := { w with heap := w.heap.setIfInBounds B o }

theorem heap_setB (w : World) (B : Nat) (o : Obj) (h : B < w.heap.size) (b : Nat) : (setB w B o).heap[b]? = if b = B then some o else w.heap[b]? := by
  simp only [setB, Array.getElem?_setIfInBounds]
  by_cases e : B = b
  · subst e; simp [h]
  · simp [e, Ne.symm e]
theorem size_setB (w : World) (B : Nat) (o : Obj) : (setB w B o).heap.size = w.heap.size := by simp [setB]
theorem lt_of_heap {w : World} {B : Nat} {o : Obj} (h : w.heap[B]? = some o) : B < w.heap.size := by
  rcases Nat.lt_or_ge B w.heap.size with h' | h'
  · exact h'
  · simp [Array.getElem?_eq_none h'] at h
theorem cell_eq {w : World} {B : Nat} {c : Array Value} {e : TypeId} {f : Nat × Nat} (h : w.heap[B]? = some (.cells c e f)) (q : Nat) : w.cell? ⟨B, q, none⟩ = c[q]? := by
  simp [World.cell?, h]
theorem cell_map {w : World} {B : Nat} {en : Array MapEntry} {ck : Nat} (h : w.heap[B]? = some (.map en ck)) (q : Nat) : w.cell? ⟨B, q, none⟩ = none := by
  simp [World.cell?, h]
theorem cell_of_heap {w w' : World} {b : Nat} (h : w'.heap[b]? = w.heap[b]?) (q : Nat) : w'.cell? ⟨b, q, none⟩ = w.cell? ⟨b, q, none⟩ := by
  simp [World.cell?, h]
theorem bsz_of_heap {w w' : World} {b : Nat} (h : w'.heap[b]? = w.heap[b]?) : bsz w' b = bsz w b := by simp [bsz, h]
theorem bsz_cells {w : World} {B : Nat} {c : Array Value} {e : TypeId} {f : Nat × Nat} (h : w.heap[B]? = some (.cells c e f)) : bsz w B = c.size := by simp [bsz, h]
theorem heap_alloc (w : World) (o : Obj) (b : Nat) : (w.alloc o).heap[b]? = if b = w.heap.size then some o else w.heap[b]? := by
  show (w.heap.push o)[b]? = _
  rw [Array.getElem?_push]

theorem BRep.ev {U j M w U' j' M' w'} (e : Ev U j M (bsz w) U' j' M' (bsz w')) {b : Blk} {B : Nat} (hb : w'.heap[B]? = w.heap[B]?) (r : BRep U j M w b B) : BRep U' j' M' w' b B := by
  cases b with
  | cells m f cs =>
    obtain ⟨c, lo, hi, h1, h2, h3, h4, h5⟩ := r
    exact ⟨c, lo, hi, by rw [hb]; exact h1, h2, h3, h4, fun i x hx => by
      obtain ⟨v, hv, hr⟩ := h5 i x hx
      exact ⟨v, hv, hr.ev e⟩⟩
  | map es =>
    obtain ⟨en, ck, h1, h2⟩ := r
    exact ⟨en, ck, by rw [hb]; exact h1, h2.imp fun _ _ ⟨a, b⟩ => ⟨a.mono e.m, b.mono e.m⟩⟩

theorem BRep.lt {U j M w b B} (r : BRep U j M w b B) : B < w.heap.size := by
  cases b with
  | cells m f cs => obtain ⟨c, lo, hi, h1, _⟩ := r; exact lt_of_heap h1
  | map es => obtain ⟨en, ck, h1, _⟩ := r; exact lt_of_heap h1

section
variable {X : Ctx} {U : Nat → Prop} {j : Nat → Option Nat} {M : Mem} {h : Hp} {ar : Nat} {w : World}

theorem RH.lt (r : RH X U j M h ar w) {k B : Nat} (e : j k = some B) : B < w.heap.size := by
  obtain ⟨_, b, hb⟩ := r.dom k B e
  obtain ⟨B', e', hB⟩ := r.hp k b hb
  rw [e] at e'; injection e' with e'; subst e'
  exact hB.lt

theorem RH.at (r : RH X U j M h ar w) {k B : Nat} {b : Blk} (e : j k = some B) (hb : h.get k = some b) : BRep U j M w b B := by
  obtain ⟨B', e', hB⟩ := r.hp k b hb
  rw [e] at e'; injection e' with e'; subst e'
  exact hB

/-- Nothing but the count of draws has turned. -/
theorem RH.same (r : RH X U j M h ar w) {w' : World} (hh : w'.heap = w.heap) (he : w'.os = w.os ∧ w'.tape = w.tape ∧ w'.output = w.output) : RH X U j M h ar w' := by
  have hs : bsz w' = bsz w := by funext b; simp [bsz, hh]
  refine ⟨fun k b hb => ?_, r.dom, r.inj, fun b o v hv => by rw [cell_of_heap (w := w) (w' := w') (by rw [hh])]; exact r.mem b o v hv, r.frz, r.own, fun b hb hn => by rw [hh]; exact r.frame b hb hn, r.sub, r.new, by rw [hh]; exact r.size, ⟨he.1.trans r.env.1, he.2.1.trans r.env.2.1, he.2.2.trans r.env.2.2⟩, fun b hb => by rw [hs]; exact r.shape b hb, r.arg⟩
  obtain ⟨B, e, hB⟩ := r.hp k b hb
  exact ⟨B, e, hB.ev (hs ▸ Ev.refl _ _ _ _) (by rw [hh])⟩

/-- Behind a new block that no key is for. -/
theorem RH.junk (r : RH X U j M h ar w) (o : Obj) : RH X U j M h ar (w.alloc o) ∧ Ev U j M (bsz w) U j M (bsz (w.alloc o)) := by
  have hold : ∀ b, b < w.heap.size → (w.alloc o).heap[b]? = w.heap[b]? := fun b hb => by rw [heap_alloc, if_neg (by omega)]
  have ev : Ev U j M (bsz w) U j M (bsz (w.alloc o)) := ⟨fun _ h => h, fun k B _ e => ⟨e, bsz_of_heap (hold B (r.lt e))⟩, Mem.le_refl M⟩
  refine ⟨⟨fun k b hb => ?_, r.dom, r.inj, fun b q v hv => ?_, r.frz, r.own, fun b hb hn => ?_, r.sub, r.new, by rw [World.size_alloc]; have := r.size; omega, r.env, fun b hb => ?_, r.arg⟩, ev⟩
  · obtain ⟨B, e, hB⟩ := r.hp k b hb
    exact ⟨B, e, hB.ev ev (hold B hB.lt)⟩
  · have := r.mem b q v hv
    rw [cell_of_heap (hold b (World.block_lt_of_cell? w ⟨b, q, none⟩ this))]; exact this
  · rw [hold b (by have := r.size; omega)]; exact r.frame b hb hn
  · rw [bsz_of_heap (hold b (by have := r.size; omega))]; exact r.shape b hb

/-- A key for a block of the call's own that has none yet. -/
theorem RH.key (r : RH X U j M h ar w) {fk B : Nat} {b : Blk} (hf : ¬ U fk) (ha : ar ≤ fk) (hB : X.w0.heap.size ≤ B) (hfree : ∀ k, j k ≠ some B) (hM : ∀ o v, M B o ≠ some v)
    (hb : BRep (fun k => U k ∨ k = fk) (fun k => if k = fk then some B else j k) M w b B) :
    RH X (fun k => U k ∨ k = fk) (fun k => if k = fk then some B else j k) M (h.put fk b) ar w ∧
      Ev U j M (bsz w) (fun k => U k ∨ k = fk) (fun k => if k = fk then some B else j k) M (bsz w) := by
  have hne : ∀ k, U k → k ≠ fk := fun k hk e => hf (e ▸ hk)
  have ev : Ev U j M (bsz w) (fun k => U k ∨ k = fk) (fun k => if k = fk then some B else j k) M (bsz w) :=
    ⟨fun _ h => .inl h, fun k B' hk e => by simp only [hne k hk, if_false] at e; exact ⟨e, rfl⟩, Mem.le_refl M⟩
  refine ⟨⟨fun k b' hb' => ?_, fun k B' e => ?_, fun k k' B' e e' => ?_, r.mem, fun k B' m f cs e hc o v hv => ?_, fun k B' e => ?_, r.frame, r.sub, r.new, r.size, r.env, r.shape, fun k B' hk e => ?_⟩, ev⟩
  · rw [Hp.get_put] at hb'
    by_cases e : k = fk
    · simp only [e, if_true] at hb' ⊢; injection hb' with hb'; subst hb'; exact ⟨B, rfl, hb⟩
    · simp only [e, if_false] at hb' ⊢
      obtain ⟨B', e', h'⟩ := r.hp k b' hb'
      exact ⟨B', e', h'.ev ev rfl⟩
  · rw [Hp.get_put]
    by_cases e' : k = fk
    · simp [e']
    · simp only [e', if_false] at e ⊢; exact ⟨.inl (r.dom k B' e).1, (r.dom k B' e).2⟩
  · by_cases h1 : k = fk <;> by_cases h2 : k' = fk
    · rw [h1, h2]
    · simp only [h1, h2, if_true, if_false] at e e'; injection e with e; subst e; exact (hfree k' e').elim
    · simp only [h1, h2, if_true, if_false] at e e'; injection e' with e'; subst e'; exact (hfree k e).elim
    · simp only [h1, h2, if_false] at e e'; exact r.inj k k' B' e e'
  · rw [Hp.get_put] at hc
    by_cases e' : k = fk
    · simp only [e', if_true] at e; injection e with e; subst e; exact (hM o v hv).elim
    · simp only [e', if_false] at e hc; exact r.frz k B' m f cs e hc o v hv
  · by_cases e' : k = fk
    · simp only [e', if_true] at e; injection e with e; subst e; exact .inr hB
    · simp only [e', if_false] at e; exact r.own k B' e
  · by_cases e' : k = fk
    · omega
    · simp only [e', if_false] at e; exact r.arg k B' hk e

/-- A new block with a new key. -/
theorem RH.alloc (r : RH X U j M h ar w) {fk : Nat} {b : Blk} {o : Obj} (hf : ¬ U fk) (ha : ar ≤ fk)
    (hb : ∀ U' j' , Ev U j M (bsz w) U' j' M (bsz (w.alloc o)) → BRep U' j' M (w.alloc o) b w.heap.size) :
    ∃ U' j', (∀ k, U' k → U k ∨ k = fk) ∧ j' fk = some w.heap.size ∧ U' fk ∧ RH X U' j' M (h.put fk b) ar (w.alloc o) ∧ Ev U j M (bsz w) U' j' M (bsz (w.alloc o)) := by
  obtain ⟨r1, e1⟩ := r.junk o
  have hfree : ∀ k, j k ≠ some w.heap.size := fun k e => by have := r.lt e; omega
  have hM : ∀ q v, M w.heap.size q ≠ some v := fun q v e => by
    have := World.block_lt_of_cell? w _ (r.mem _ _ _ e); simp at this
  have hne : ∀ k, U k → k ≠ fk := fun k hk e => hf (e ▸ hk)
  have ev2 : Ev U j M (bsz w) (fun k => U k ∨ k = fk) (fun k => if k = fk then some w.heap.size else j k) M (bsz (w.alloc o)) :=
    ⟨fun _ h => .inl h, fun k B' hk e => by simp only [hne k hk, if_false] at e; exact e1.j k B' hk e, Mem.le_refl M⟩
  obtain ⟨r2, e2⟩ := r1.key hf ha r.size hfree hM (hb _ _ ev2)
  exact ⟨_, _, fun k h => h, by simp, .inr rfl, r2, ev2⟩

/-- A block's content turns. -/
theorem RH.setB (r : RH X U j M h ar w) {k B : Nat} {b b' : Blk} {o : Obj} (e : j k = some B) (hk : h.get k = some b)
    (hs : ∀ c t f, o = .cells c t f → bsz w B = c.size) (hs' : (∀ c t f, o ≠ .cells c t f) → bsz w B = 0)
    (hb : Ev U j M (bsz w) U j M (bsz (setB w B o)) → BRep U j M (Gv.setB w B o) b' B)
    (hM : ∀ q v, M B q = some v → (Gv.setB w B o).cell? ⟨B, q, none⟩ = some v)
    (hf : ∀ m f cs, b' = .cells m f cs → ∀ q v, M B q = some v → q < f) :
    RH X U j M (h.put k b') ar (Gv.setB w B o) ∧ Ev U j M (bsz w) U j M (bsz (Gv.setB w B o)) := by
  have hlt := r.lt e
  have hh := heap_setB w B o hlt
  have hbs : bsz (Gv.setB w B o) = bsz w := by
    funext q
    by_cases eq : q = B
    · subst eq
      by_cases hc : ∃ c t f, o = .cells c t f
      · obtain ⟨c, t, f, hc⟩ := hc
        rw [hs c t f hc, bsz_cells (by rw [hh, if_pos rfl, hc])]
      · have hn : ∀ c t f, o ≠ .cells c t f := fun c t f h => hc ⟨c, t, f, h⟩
        rw [hs' hn]; unfold bsz; rw [hh, if_pos rfl]
        cases o <;> first | rfl | exact (hn _ _ _ rfl).elim
    · exact bsz_of_heap (by rw [hh, if_neg eq])
  have ev : Ev U j M (bsz w) U j M (bsz (Gv.setB w B o)) := by rw [hbs]; exact Ev.refl _ _ _ _
  refine ⟨⟨fun k' b'' hb'' => ?_, fun k' B' e' => ?_, r.inj, fun q o' v hv => ?_, fun k' B' m f cs e' hc q v hv => ?_, r.own, fun q hq hn => ?_, r.sub, r.new, by rw [size_setB]; exact r.size, r.env, fun q hq => by rw [hbs]; exact r.shape q hq, r.arg⟩, ev⟩
  · rw [Hp.get_put] at hb''
    by_cases ek : k' = k
    · subst ek; simp only [if_true] at hb''; injection hb'' with hb''; subst hb''; exact ⟨B, e, hb ev⟩
    · simp only [ek, if_false] at hb''
      obtain ⟨B', e', h'⟩ := r.hp k' b'' hb''
      have : B' ≠ B := fun h => ek (r.inj k' k B (h ▸ e') e)
      exact ⟨B', e', h'.ev ev (by rw [hh, if_neg this])⟩
  · rw [Hp.get_put]
    by_cases ek : k' = k
    · exact ⟨(r.dom k' B' e').1, by simp [ek]⟩
    · simp only [ek, if_false]; exact r.dom k' B' e'
  · by_cases eq : q = B
    · subst eq; exact hM o' v hv
    · rw [cell_of_heap (w := w) (w' := Gv.setB w B o) (by rw [hh, if_neg eq])]; exact r.mem q o' v hv
  · rw [Hp.get_put] at hc
    by_cases ek : k' = k
    · subst ek; simp only [if_true] at hc; injection hc with hc
      rw [e] at e'; injection e' with e'; subst e'
      exact hf m f cs hc q v hv
    · simp only [ek, if_false] at hc; exact r.frz k' B' m f cs e' hc q v hv
  · have : q ≠ B := fun h => by
      subst h
      rcases r.own k q e with ⟨k0, h0⟩ | h0
      · exact hn k0 h0
      · omega
    rw [hh, if_neg this]; exact r.frame q hq hn

/-- A key goes. -/
theorem RH.del (r : RH X U j M h ar w) (k : Nat) :
    RH X U (fun q => if q = k then none else j q) M (h.del k) ar w ∧ Ev U j M (bsz w) U (fun q => if q = k then none else j q) M (bsz w) := by
  have ev : Ev U j M (bsz w) U (fun q => if q = k then none else j q) M (bsz w) :=
    ⟨fun _ h => h, fun q B _ e => by by_cases eq : q = k <;> simp [eq] at e; exact ⟨e, rfl⟩, Mem.le_refl M⟩
  have hj : ∀ q B, (if q = k then none else j q) = some B → q ≠ k ∧ j q = some B := fun q B e => by
    by_cases eq : q = k <;> simp [eq] at e; exact ⟨eq, e⟩
  refine ⟨⟨fun q b hb => ?_, fun q B e => ?_, fun q q' B e e' => r.inj q q' B (hj _ _ e).2 (hj _ _ e').2, r.mem, fun q B m f cs e hc => ?_, fun q B e => r.own q B (hj _ _ e).2, r.frame, r.sub, r.new, r.size, r.env, r.shape, fun q B hq e => r.arg q B hq (hj _ _ e).2⟩, ev⟩
  · rw [Hp.get_del] at hb
    by_cases eq : q = k
    · simp [eq] at hb
    · simp only [eq, if_false] at hb ⊢
      obtain ⟨B, e, hB⟩ := r.hp q b hb
      exact ⟨B, e, hB.ev ev rfl⟩
  · obtain ⟨h1, h2⟩ := hj _ _ e
    rw [Hp.get_del, if_neg h1]; exact r.dom q B h2
  · obtain ⟨h1, h2⟩ := hj _ _ e
    rw [Hp.get_del, if_neg h1] at hc; exact r.frz q B m f cs h2 hc

/-- A key takes another's block over. -/
theorem RH.rekey (r : RH X U j M h ar w) {k fk B : Nat} {b : Blk} (e : j k = some B) (hk : h.get k = some b) (hf : ¬ U fk) (ha : ar ≤ fk) :
    ∃ U' j', (∀ q, U' q → U q ∨ q = fk) ∧ j' fk = some B ∧ U' fk ∧ RH X U' j' M ((h.del k).put fk b) ar w ∧ Ev U j M (bsz w) U' j' M (bsz w) := by
  have hne : ∀ q, U q → q ≠ fk := fun q hq e => hf (e ▸ hq)
  have hkf : k ≠ fk := hne k (r.dom k B e).1
  let j' : Nat → Option Nat := fun q => if q = fk then some B else if q = k then none else j q
  let U' : Nat → Prop := fun q => U q ∨ q = fk
  have ev : Ev U j M (bsz w) U' j' M (bsz w) :=
    ⟨fun _ h => .inl h, fun q B' hq e' => by
      simp only [j', hne q hq, if_false] at e'
      by_cases eq : q = k <;> simp [eq] at e'; exact ⟨e', rfl⟩, Mem.le_refl M⟩
  have hj : ∀ q B', j' q = some B' → (q = fk ∧ B' = B) ∨ (q ≠ fk ∧ q ≠ k ∧ j q = some B') := fun q B' e' => by
    by_cases h1 : q = fk
    · simp only [j', h1, if_true] at e'; injection e' with e'; exact .inl ⟨h1, e'.symm⟩
    · by_cases h2 : q = k
      · simp only [j', h1, h2, if_false, if_true] at e'; simp [hkf] at e'
      · simp only [j', h1, h2, if_false] at e'; exact .inr ⟨h1, h2, e'⟩
  refine ⟨U', j', fun q h => h, by simp [j'], .inr rfl, ⟨fun q b' hb' => ?_, fun q B' e' => ?_, fun q q' B' e1 e2 => ?_, r.mem, fun q B' m f cs e' hc o v hv => ?_, fun q B' e' => ?_, r.frame, r.sub, r.new, r.size, r.env, r.shape, fun q B' hq e' => ?_⟩, ev⟩
  · rw [Hp.get_put, Hp.get_del] at hb'
    by_cases h1 : q = fk
    · simp only [h1, if_true] at hb'; injection hb' with hb'; subst hb'
      exact ⟨B, by simp [j', h1], (r.at e hk).ev ev rfl⟩
    · by_cases h2 : q = k
      · simp [h1, h2] at hb'; simp [hkf] at hb'
      · simp only [h1, h2, if_false] at hb'
        obtain ⟨B', e', h'⟩ := r.hp q b' hb'
        exact ⟨B', by simp [j', h1, h2, e'], h'.ev ev rfl⟩
  · rw [Hp.get_put, Hp.get_del]
    rcases hj q B' e' with ⟨h1, _⟩ | ⟨h1, h2, h3⟩
    · simp [h1, U']
    · simp only [h1, h2, if_false]; exact ⟨.inl (r.dom q B' h3).1, (r.dom q B' h3).2⟩
  · rcases hj q B' e1 with ⟨h1, hb1⟩ | ⟨h1, h2, h3⟩ <;> rcases hj q' B' e2 with ⟨h1', hb1'⟩ | ⟨h1', h2', h3'⟩
    · rw [h1, h1']
    · exact (h2' (r.inj q' k B' h3' (hb1 ▸ e))).elim
    · exact (h2 (r.inj q k B' h3 (hb1' ▸ e))).elim
    · exact r.inj q q' B' h3 h3'
  · rw [Hp.get_put, Hp.get_del] at hc
    rcases hj q B' e' with ⟨h1, hb1⟩ | ⟨h1, h2, h3⟩
    · simp only [h1, if_true] at hc; injection hc with hc; subst hb1; exact r.frz k B' m f cs e (hc ▸ hk) o v hv
    · simp only [h1, h2, if_false] at hc; exact r.frz q B' m f cs h3 hc o v hv
  · rcases hj q B' e' with ⟨h1, hb1⟩ | ⟨h1, h2, h3⟩
    · subst hb1; exact r.own k B' e
    · exact r.own q B' h3
  · rcases hj q B' e' with ⟨h1, hb1⟩ | ⟨h1, h2, h3⟩
    · omega
    · exact r.arg q B' hq h3

end

/-! Cells: what a load gives, what a store does. -/
theorem add_none (B o i : Nat) : Addr.add ⟨B, o, none⟩ i = ⟨B, o + i, none⟩ := by
  unfold Addr.add; by_cases h : i = 0 <;> simp [h]

theorem run_storeCells {P : Program} {B : Nat} {e : TypeId} {fr : Nat × Nat} (base : Nat) : ∀ (vs : List Value) (i : Nat) (w : World) (c : Array Value),
    w.heap[B]? = some (.cells c e fr) → base + i + vs.length ≤ c.size → (∀ q, base + i ≤ q → q < base + i + vs.length → ¬ (fr.1 ≤ q ∧ q < fr.2)) → (∀ v, v ∈ vs → v.oneCell' = true) →
    ∃ c', (storeCells ⟨B, base, none⟩ vs i).run P w = .ok () (setB w B (.cells c' e fr)) ∧ c'.size = c.size ∧
      ∀ q, c'[q]? = if base + i ≤ q ∧ q < base + i + vs.length then vs[q - (base + i)]? else c[q]?
  | [], i, w, c, hw, _, _, _ => by
    refine ⟨c, ?_, rfl, fun q => by simp; omega⟩
    have : setB w B (.cells c e fr) = w := by
      unfold setB
      have hlt := lt_of_heap hw
      have hget : w.heap[B] = .cells c e fr := by simpa [Array.getElem?_eq_getElem hlt] using hw
      have : w.heap.setIfInBounds B (.cells c e fr) = w.heap := by
        apply Array.ext_getElem?
        intro q
        rw [Array.getElem?_setIfInBounds]
        by_cases hq : B = q
        · subst hq; simp [hlt, hget]
        · simp [hq]
      rw [this]
    rw [this]
    unfold storeCells; rfl
  | v :: vs, i, w, c, hw, hl, hf, hc => by
    simp only [List.length_cons] at hl hf
    have hcell : w.cell? ⟨B, base + i, none⟩ = some (c[base + i]'(by omega)) := by rw [cell_eq hw]; simp [Array.getElem?_eq_getElem (show base + i < c.size by omega)]
    have hfr : w.frozen? ⟨B, base + i, none⟩ = false := by
      simp only [World.frozen?, hw]
      have := hf (base + i) (by omega) (by omega)
      obtain ⟨lo, hi⟩ := fr
      simp only [Bool.and_eq_false_iff, decide_eq_false_iff_not]
      simp only [not_and] at this
      by_cases h1 : lo ≤ base + i
      · exact .inr (this h1)
      · exact .inl h1
    have hset : w.setCell ⟨B, base + i, none⟩ v = setB w B (.cells (c.setIfInBounds (base + i) v) e fr) := by
      unfold World.setCell setB
      congr 1
      apply Array.ext_getElem?
      intro q
      rw [Array.getElem?_modify, Array.getElem?_setIfInBounds]
      by_cases hq : B = q
      · subst hq
        have hlt := lt_of_heap hw
        have hget : w.heap[B] = .cells c e fr := by simpa [Array.getElem?_eq_getElem hlt] using hw
        simp [hlt, hget]
      · simp [hq]
    have hw' : (setB w B (.cells (c.setIfInBounds (base + i) v) e fr)).heap[B]? = some (.cells (c.setIfInBounds (base + i) v) e fr) := by
      rw [heap_setB _ _ _ (lt_of_heap hw), if_pos rfl]
    obtain ⟨c', hrun, hsz, hget⟩ := run_storeCells base vs (i + 1) (setB w B (.cells (c.setIfInBounds (base + i) v) e fr)) (c.setIfInBounds (base + i) v) hw'
      (by simp; omega) (fun q h1 h2 => hf q (by omega) (by omega)) (fun u hu => hc u (by simp [hu]))
    refine ⟨c', ?_, by simpa using hsz, fun q => ?_⟩
    · unfold storeCells
      rw [Sem.run_bind, add_none, run_store _ _ _ _ _ (hc v (by simp)), hcell]
      simp only [hfr, Bool.false_eq_true, if_false, Result.andThen_ok, hset]
      rw [hrun]
      congr 1
      unfold setB
      congr 1
      apply Array.ext_getElem?
      intro q
      simp only [Array.getElem?_setIfInBounds, Array.size_setIfInBounds]
      by_cases hq : B = q <;> simp [hq]
    · rw [hget]
      simp only [List.length_cons, Array.getElem?_setIfInBounds]
      by_cases h1 : base + (i + 1) ≤ q ∧ q < base + (i + 1) + vs.length
      · have h2 : base + i ≤ q ∧ q < base + i + (vs.length + 1) := by omega
        rw [if_pos h1, if_pos h2, show q - (base + i) = q - (base + (i + 1)) + 1 by omega]; simp
      · by_cases h3 : base + i = q
        · subst h3
          have : base + i < c.size := by omega
          simp [this]; omega
        · rw [if_neg h1, if_neg h3, if_neg (by omega)]

end Gv
