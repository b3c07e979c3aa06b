/- Values read off the heap; blocks that are not written any more. -/
import Derived.Test.YtnjnlkaagfihbaaAGc
set_option linter.all false
namespace Gv
open Go

/-! What is reached. -/
def Closed (h : Hp) (out : List Nat) : Prop := ∀ k, k ∈ out → ∀ b, h.get k = some b → ∀ k', k' ∈ b.refs → (h.get k').isSome = true → k' ∈ out

theorem reach_spec (h : Hp) : ∀ (n : Nat) (todo seen out : List Nat), reach h n todo seen = some out →
    (∀ k, k ∈ seen → ∀ b, h.get k = some b → ∀ k', k' ∈ b.refs → (h.get k').isSome = true → k' ∈ seen ∨ k' ∈ todo) → (∀ k, k ∈ seen → (h.get k).isSome = true) →
    Closed h out ∧ (∀ k, k ∈ seen → k ∈ out) ∧ (∀ k, k ∈ todo → (h.get k).isSome = true → k ∈ out) ∧ (∀ k, k ∈ out → (h.get k).isSome = true)
  | 0, _, _, _, e, _, _ => by simp [reach] at e
  | n + 1, [], seen, out, e, hi, hs => by
    simp [reach] at e; subst e
    exact ⟨fun k hk b hb k' hk' hs' => (hi k hk b hb k' hk' hs').resolve_right (by simp), fun _ h => h, fun k hk => by simp at hk, hs⟩
  | n + 1, k :: todo, seen, out, e, hi, hs => by
    simp only [reach] at e
    split at e
    · rename_i hk
      have hk : k ∈ seen := by simpa using hk
      obtain ⟨h1, h2, h3, h4⟩ := reach_spec h n todo seen out e (fun q hq b hb k' hk' hs' => by
        rcases hi q hq b hb k' hk' hs' with h5 | h5
        · exact .inl h5
        · rcases List.mem_cons.1 h5 with h6 | h6
          · subst h6; exact .inl hk
          · exact .inr h6) hs
      refine ⟨h1, h2, fun q hq hq' => ?_, h4⟩
      rcases List.mem_cons.1 hq with h6 | h6
      · subst h6; exact h2 _ hk
      · exact h3 _ h6 hq'
    · rename_i hk
      split at e
      · rename_i b hb
        obtain ⟨h1, h2, h3, h4⟩ := reach_spec h n (b.refs ++ todo) (seen ++ [k]) out e (fun q hq b' hb' k' hk' hs' => by
          rcases List.mem_append.1 hq with hq | hq
          · rcases hi q hq b' hb' k' hk' hs' with h5 | h5
            · exact .inl (List.mem_append_left _ h5)
            · rcases List.mem_cons.1 h5 with h6 | h6
              · subst h6; exact .inl (by simp)
              · exact .inr (List.mem_append_right _ h6)
          · simp at hq; subst hq
            rw [hb] at hb'; injection hb' with hb'; subst hb'
            exact .inr (List.mem_append_left _ hk')) (fun q hq => by
          rcases List.mem_append.1 hq with hq | hq
          · exact hs q hq
          · simp at hq; subst hq; simp [hb])
        refine ⟨h1, fun q hq => h2 q (List.mem_append_left _ hq), fun q hq hq' => ?_, h4⟩
        rcases List.mem_cons.1 hq with h6 | h6
        · subst h6; exact h2 _ (by simp)
        · exact h3 _ (List.mem_append_right _ h6) hq'
      · rename_i hb
        obtain ⟨h1, h2, h3, h4⟩ := reach_spec h n todo seen out e (fun q hq b' hb' k' hk' hs' => by
          rcases hi q hq b' hb' k' hk' hs' with h5 | h5
          · exact .inl h5
          · rcases List.mem_cons.1 h5 with h6 | h6
            · subst h6; rw [hb] at hs'; cases hs'
            · exact .inr h6) hs
        refine ⟨h1, h2, fun q hq hq' => ?_, h4⟩
        rcases List.mem_cons.1 hq with h6 | h6
        · subst h6; rw [hb] at hq'; cases hq'
        · exact h3 _ h6 hq'

theorem reachAll_spec {h : Hp} {roots out : List Nat} (e : reachAll h roots = some out) : Closed h out ∧ (∀ k, k ∈ roots → (h.get k).isSome = true → k ∈ out) ∧ ∀ k, k ∈ out → (h.get k).isSome = true := by
  obtain ⟨h1, _, h3, h4⟩ := reach_spec h _ roots [] out e (fun k hk => by simp at hk) (fun k hk => by simp at hk)
  exact ⟨h1, h3, h4⟩

theorem reachAll_nodup {h : Hp} {roots out : List Nat} (e : reachAll h roots = some out) : out.Nodup := reach_nodup h _ _ _ _ e List.nodup_nil

def Hp.keys (h : Hp) : List Nat := h.map Prod.fst
theorem Hp.mem_keys : ∀ (h : Hp) (k : Nat), (h.get k).isSome = true → k ∈ h.keys
  | [], k, e => by simp [Hp.get] at e
  | (q, b) :: h, k, e => by
    simp only [Hp.get] at e
    by_cases e' : k = q
    · subst e'; simp [Hp.keys]
    · simp only [e', if_false] at e
      have := Hp.mem_keys h k e
      simp only [Hp.keys, List.map_cons, List.mem_cons] at this ⊢; exact .inr this
theorem keys_closed (h : Hp) : Closed h h.keys := fun _ _ _ _ k' _ hk' => h.mem_keys k' hk'

section
variable {X : Ctx} {U : Nat → Prop} {j : Nat → Option Nat} {M : Mem} {h : Hp} {ar : Nat} {w : World} {S : Nat → Nat}

/-- Memory that knows some blocks' cells. -/
noncomputable def fz (j : Nat → Option Nat) (h : Hp) (ks : List Nat) (w : World) (M : Mem) : Mem := fun b o =>
  match M b o with
  | some v => some v
  | none => open Classical in if ∃ k m f cs, k ∈ ks ∧ j k = some b ∧ h.get k = some (.cells m f cs) ∧ o < cs.length then w.cell? ⟨b, o, none⟩ else none

theorem fz_le (ks : List Nat) : M.le (fz j h ks w M) := fun b o v e => by simp [fz, e]
theorem fz_cases {ks : List Nat} {b o : Nat} {v : Value} (e : fz j h ks w M b o = some v) : M b o = some v ∨ (w.cell? ⟨b, o, none⟩ = some v ∧ ∃ k m f cs, k ∈ ks ∧ j k = some b ∧ h.get k = some (.cells m f cs) ∧ o < cs.length) := by
  unfold fz at e
  split at e
  · rename_i v' h'; injection e with e; subst e; exact .inl h'
  · split at e
    · rename_i hc; exact .inr ⟨e, hc⟩
    · cases e
theorem fz_at (r : RH X U j M h ar w) {ks : List Nat} {k B : Nat} {m : Tag} {f : Nat} {cs : List C} (hk : k ∈ ks) (hB : j k = some B) (hb : h.get k = some (.cells m f cs)) {o : Nat} (ho : o < cs.length) {v : Value} (hv : w.cell? ⟨B, o, none⟩ = some v) : fz j h ks w M B o = some v := by
  unfold fz
  cases hM : M B o with
  | some v' => simp only; have := r.mem B o v' hM; rw [hv] at this; exact this.symm
  | none =>
    simp only
    rw [if_pos ⟨k, m, f, cs, hk, hB, hb, ho⟩]; exact hv

def froze : Blk → Blk
  | .cells m _ cs => .cells m cs.length cs
  | b => b

theorem freeze_get (h : Hp) : ∀ (ks : List Nat) (h1 : Hp) (k : Nat), (h1.upd (freezeUpd h ks)).get k = match h.get k with
    | some (.cells m _ cs) => if k ∈ ks then some (.cells m cs.length cs) else h1.get k
    | _ => h1.get k
  | [], h1, k => by simp only [freezeUpd, Hp.upd]; split <;> simp
  | q :: ks, h1, k => by
    simp only [freezeUpd]
    cases hq : h.get q with
    | none =>
      simp only
      rw [freeze_get h ks h1 k]
      by_cases e : k = q
      · subst e; simp [hq]
      · cases hk : h.get k with
        | none => rfl
        | some b => cases b with
          | cells m f cs => simp [e]
          | map es => rfl
    | some b =>
      cases b with
      | map es =>
        simp only
        rw [freeze_get h ks h1 k]
        by_cases e : k = q
        · subst e; simp [hq]
        · cases hk : h.get k with
          | none => rfl
          | some b => cases b with
            | cells m f cs => simp [e]
            | map es => rfl
      | cells m f cs =>
        simp only [Hp.upd]
        rw [freeze_get h ks _ k, Hp.get_put]
        by_cases e : k = q
        · subst e; simp [hq]
        · simp [e]

theorem freeze_get2 (h : Hp) (ks : List Nat) (k : Nat) : (h.upd (freezeUpd h ks)).get k = (h.get k).map fun b => if k ∈ ks then froze b else b := by
  rw [freeze_get]
  cases hk : h.get k with
  | none => simp
  | some b => cases b with
    | cells m f cs => by_cases e : k ∈ ks <;> simp [e, froze]
    | map es => by_cases e : k ∈ ks <;> simp [e, froze]

theorem BRep.froze {b : Blk} {B : Nat} (r : BRep U j M w b B) : BRep U j M w (froze b) B := by
  cases b with
  | cells m f cs =>
    obtain ⟨c, lo, hi, h1, h2, h3, h4, h5⟩ := r
    exact ⟨c, lo, hi, h1, h2, Nat.le_refl _, fun hne => (h4 hne).imp (fun h => Nat.le_trans h h3) id, h5⟩
  | map es => exact r

/-- Blocks are written no more. -/
theorem RH.freeze (r : RH X U j M h ar w) (ks : List Nat) :
    RH X U j (fz j h ks w M) (h.upd (freezeUpd h ks)) ar w ∧ Ev U j M (bsz w) U j (fz j h ks w M) (bsz w) := by
  have ev : Ev U j M (bsz w) U j (fz j h ks w M) (bsz w) := ⟨fun _ h => h, fun _ _ _ e => ⟨e, rfl⟩, fz_le ks⟩
  refine ⟨⟨fun k b hb => ?_, fun k B e => ?_, r.inj, fun b o v e => ?_, fun k B m f cs e hb o v hv => ?_, r.own, r.frame, Mem.le_trans r.sub (fz_le ks), fun b o v e => ?_, r.size, r.env, r.shape, r.arg⟩, ev⟩
  · rw [freeze_get2] at hb
    simp only [Option.map_eq_some_iff] at hb
    obtain ⟨b0, hb0, rfl⟩ := hb
    obtain ⟨B, hB, hr⟩ := r.hp k b0 hb0
    refine ⟨B, hB, ?_⟩
    split
    · exact (hr.froze).ev ev rfl
    · exact hr.ev ev rfl
  · obtain ⟨h1, b, h2⟩ := r.dom k B e
    exact ⟨h1, _, by rw [freeze_get2, h2]; rfl⟩
  · rcases fz_cases e with h1 | ⟨h1, _⟩
    · exact r.mem b o v h1
    · exact h1
  · rw [freeze_get2] at hb
    simp only [Option.map_eq_some_iff] at hb
    obtain ⟨b0, hb0, hb1⟩ := hb
    cases b0 with
    | map es => split at hb1 <;> cases hb1
    | cells m0 f0 cs0 =>
      rcases fz_cases hv with h1 | ⟨_, k', m', f', cs', hk', e', hb', ho⟩
      · have h2 := r.frz k B m0 f0 cs0 e hb0 o v h1
        have h3 := (r.at e hb0)
        obtain ⟨c, lo, hi, _, _, h5, _⟩ := h3
        split at hb1
        · simp only [Gv.froze] at hb1; injection hb1 with q1 q2 q3; omega
        · injection hb1 with q1 q2 q3; omega
      · have := r.inj k k' B e e'; subst this
        rw [hb0] at hb'; injection hb' with hb'; injection hb' with q1 q2 q3; subst q1 q2 q3
        rw [if_pos hk'] at hb1
        simp only [Gv.froze] at hb1; injection hb1 with q1 q2 q3; omega
  · rcases fz_cases e with h1 | ⟨_, k, m, f, cs, _, e', _⟩
    · exact r.new b o v h1
    · rcases r.own k b e' with h2 | h2
      · exact .inr (.inl h2)
      · exact .inr (.inr h2)

/-- A world that goes on elsewhere. -/
theorem RH.later (r : RH X U j M h ar w) {w' : World} {M' : Mem} (hh : ∀ b, b < w.heap.size → w'.heap[b]? = w.heap[b]?) (hsz : w.heap.size ≤ w'.heap.size) (henv : w'.os = w.os ∧ w'.tape = w.tape ∧ w'.output = w.output)
    (hM : M.le M') (hnew : ∀ b o v, M' b o = some v → M b o = some v ∨ w.heap.size ≤ b) (hmem : ∀ b o v, M' b o = some v → w'.cell? ⟨b, o, none⟩ = some v) :
    RH X U j M' h ar w' ∧ Ev U j M (bsz w) U j M' (bsz w') := by
  have ev : Ev U j M (bsz w) U j M' (bsz w') := ⟨fun _ h => h, fun k B _ e => ⟨e, bsz_of_heap (hh B (r.lt e))⟩, hM⟩
  refine ⟨⟨fun k b hb => ?_, r.dom, r.inj, hmem, fun k B m f cs e hb o v hv => ?_, r.own, fun b hb hn => ?_, Mem.le_trans r.sub hM, fun b o v e => ?_, Nat.le_trans r.size hsz, ⟨henv.1.trans r.env.1, henv.2.1.trans r.env.2.1, henv.2.2.trans r.env.2.2⟩, fun b hb => ?_, r.arg⟩, ev⟩
  · obtain ⟨B, hB, hr⟩ := r.hp k b hb
    exact ⟨B, hB, hr.ev ev (hh B hr.lt)⟩
  · rcases hnew B o v hv with h1 | h1
    · exact r.frz k B m f cs e hb o v h1
    · have := r.lt e; omega
  · rw [hh b (by have := r.size; omega)]; exact r.frame b hb hn
  · rcases hnew b o v e with h1 | h1
    · exact r.new b o v h1
    · exact .inr (.inr (Nat.le_trans r.size h1))
  · rw [bsz_of_heap (hh b (by have := r.size; omega))]; exact r.shape b hb

/-! Reading. -/
theorem mapO_all {α β : Type} {f : α → Option β} : ∀ {l : List α} {m : List β}, mapO f l = some m → All2 (fun a b => f a = some b) l m
  | [], m, e => by simp [mapO] at e; subst e; trivial
  | x :: l, m, e => by
    simp only [mapO] at e
    split at e
    · rename_i v vs h1 h2
      injection e with e; subst e
      exact ⟨h1, mapO_all h2⟩
    · cases e

theorem rowsOf_flat (z : Nat) : ∀ (n : Nat) (l : List PV), l.length = n * z → (rowsOf z n l).flatten = l ∧ (∀ row, row ∈ rowsOf z n l → row.length = z) ∧ (rowsOf z n l).length = n
  | 0, l, e => by
    have : l = [] := List.eq_nil_of_length_eq_zero (by simpa using e)
    subst this; simp [rowsOf]
  | n + 1, l, e => by
    rw [Nat.succ_mul] at e
    obtain ⟨h1, h2, h3⟩ := rowsOf_flat z n (l.drop z) (by simp; omega)
    refine ⟨by simp [rowsOf, h1], fun row hr => ?_, by simp [rowsOf, h3]⟩
    simp only [rowsOf, List.mem_cons] at hr
    rcases hr with rfl | hr
    · simp; omega
    · exact h2 row hr

theorem cells_vals (r : RH X U j M h ar w) {k B : Nat} {m : Tag} {f : Nat} {cs : List C} (hB : j k = some B) (hb : h.get k = some (.cells m f cs)) (i : Nat) (c : C) (hc : cs[i]? = some c) :
    ∃ v, w.cell? ⟨B, i, none⟩ = some v ∧ CRep U j M (bsz w) c v := by
  obtain ⟨ca, lo, hi, hw, hl, _, _, hr⟩ := r.at hB hb
  obtain ⟨v, h1, h2⟩ := hr i c hc
  exact ⟨v, by rw [cell_eq hw]; exact h1, h2⟩

theorem snap_rep (r : RH X U j M h ar w) {ks : List Nat} (hcl : Closed h ks) : ∀ (d : Nat) (c : C) (v : Value) (pv : PV), CRep U j M (bsz w) c v → snap h d c = some pv → (∀ k, k ∈ c.refs → (h.get k).isSome = true → k ∈ ks) → PRep (fz j h ks w M) pv v
  | 0, _, _, _, _, e, _ => by simp [snap] at e
  | d + 1, c, v, pv, hr, e, hk => by
    have hcell := hr.cell
    cases c with
    | p q => simp [snap] at e; subst e; cases hr; rename_i hp; exact hp.mono (fz_le ks)
    | nils => simp [snap] at e; subst e; cases hr; exact .none 0 none 0
    | e0 => simp [snap] at e; subst e; cases hr; exact .none 0 _ 0
    | map k => simp [snap] at e; subst e; exact .opq _ hcell
    | clo f caps => simp [snap] at e; subst e; exact .opq _ hcell
    | dead => simp [snap] at e; subst e; exact .opq _ hcell
    | ptr k o =>
      simp only [snap] at e
      split at e
      · rename_i m f cs hb
        simp only [Option.map_eq_some_iff] at e
        obtain ⟨l, hl, rfl⟩ := e
        obtain ⟨B, hB, _⟩ := r.hp k _ hb
        obtain ⟨B', rfl, hu, hj⟩ := crep_ptr hr
        have := hj B hB; subst this
        have hall := mapO_all hl
        have hkk : k ∈ ks := hk k (by simp [C.refs]) (by simp [hb])
        have key : ∀ (i : Nat) c, l[i]? = some c → ∃ q v, cs[i]? = some q ∧ w.cell? ⟨B, i, none⟩ = some v ∧ PRep (fz j h ks w M) c v := by
          intro i c hc
          have hlt : i < cs.length := by rw [hall.len]; exact (List.getElem?_eq_some_iff.1 hc).1
          obtain ⟨c', h1, h2⟩ := hall.get (List.getElem?_eq_getElem hlt)
          rw [hc] at h1; injection h1 with h1; subst h1
          obtain ⟨v, h3, h4⟩ := cells_vals r hB hb i _ (List.getElem?_eq_getElem hlt)
          refine ⟨_, v, List.getElem?_eq_getElem hlt, h3, snap_rep r hcl d _ v c h4 h2 fun k' hk' hs' => hcl k hkk _ hb k' ?_ hs'⟩
          simp only [Blk.refs, List.mem_flatMap]
          exact ⟨_, List.getElem_mem hlt, hk'⟩
        have := PRep.pp (M := fz j h ks w M) l o B 0 (fun i => (w.cell? ⟨B, i, none⟩).getD undef) (fun i c hc => by
          obtain ⟨q, v, h1, h2, h3⟩ := key i c hc
          simp only [Nat.zero_add, h2, Option.getD_some]
          exact fz_at r hkk hB hb (List.getElem?_eq_some_iff.1 h1).1 h2) (fun i c hc => by
          obtain ⟨q, v, h1, h2, h3⟩ := key i c hc
          simpa [h2] using h3)
        simpa using this
      · cases e
    | slc k o n z =>
      simp only [snap] at e
      split at e
      · rename_i hn; injection e with e; subst e hn
        obtain ⟨a, cap, rfl, _⟩ := crep_slc hr
        exact .none 0 _ _
      · rename_i hn
        split at e
        · rename_i m f cs hb
          split at e
          · rename_i hle
            simp only [Option.map_eq_some_iff] at e
            obtain ⟨l, hl, rfl⟩ := e
            obtain ⟨B, hB, _⟩ := r.hp k _ hb
            obtain ⟨a, cap, rfl, hu, hcap, hj⟩ := crep_slc hr
            have hall := mapO_all hl
            have hlen : l.length = n * z := by rw [← hall.len]; simp; omega
            obtain ⟨f1, f2, f3⟩ := rowsOf_flat z n l hlen
            have hkk : k ∈ ks := hk k (by simp [C.refs]) (by simp [hb])
            rcases hj B hB with ⟨rfl, _⟩ | ⟨h0, _⟩
            · have key : ∀ (i : Nat) c, l[i]? = some c → ∃ v, o + i < cs.length ∧ w.cell? ⟨B, o + i, none⟩ = some v ∧ PRep (fz j h ks w M) c v := by
                intro i c hc
                have hlt : i < n * z := by rw [← hlen]; exact (List.getElem?_eq_some_iff.1 hc).1
                have hoi : o + i < cs.length := by omega
                have hsub : ((cs.drop o).take (n * z))[i]? = some cs[o + i] := by
                  rw [List.getElem?_take, if_pos hlt, List.getElem?_drop]; exact List.getElem?_eq_getElem hoi
                obtain ⟨c', h1, h2⟩ := hall.get hsub
                rw [hc] at h1; injection h1 with h1; subst h1
                obtain ⟨v, h3, h4⟩ := cells_vals r hB hb (o + i) _ (List.getElem?_eq_getElem hoi)
                refine ⟨v, hoi, h3, snap_rep r hcl d _ v c h4 h2 fun k' hk' hs' => hcl k hkk _ hb k' ?_ hs'⟩
                simp only [Blk.refs, List.mem_flatMap]
                exact ⟨_, List.getElem_mem hoi, hk'⟩
              have := PRep.list (M := fz j h ks w M) z (rowsOf z n l) B o cap (fun i => (w.cell? ⟨B, o + i, none⟩).getD undef) f2 (by omega) (fun i c hc => by
                rw [f1] at hc
                obtain ⟨v, h1, h2, h3⟩ := key i c hc
                simp only [h2, Option.getD_some]
                exact fz_at r hkk hB hb h1 h2) (fun i c hc => by
                rw [f1] at hc
                obtain ⟨v, h1, h2, h3⟩ := key i c hc
                simpa [h2] using h3)
              simpa only [f3] using this
            · exact (hn h0).elim
          · cases e
        · cases e

theorem snap_cells (r : RH X U j M h ar w) {ks : List Nat} (hcl : Closed h ks) : ∀ {cs : List C} {vs : List Value} {l : List PV}, All2 (CRep U j M (bsz w)) cs vs → mapO (snap h depth) cs = some l → (∀ k, k ∈ cs.flatMap C.refs → (h.get k).isSome = true → k ∈ ks) → All2 (PRep (fz j h ks w M)) l vs
  | [], [], l, _, e, _ => by simp [mapO] at e; subst e; trivial
  | [], _ :: _, _, hr, _, _ => hr.elim
  | _ :: _, [], _, hr, _, _ => hr.elim
  | c :: cs, v :: vs, l, hr, e, hk => by
    simp only [mapO] at e
    split at e
    · rename_i q l' h1 h2
      injection e with e; subst e
      exact ⟨snap_rep r hcl _ _ _ _ hr.1 h1 fun k hk' => hk k (by simp [hk']), snap_cells r hcl hr.2 h2 fun k hk' => hk k (by simp only [List.flatMap_cons, List.mem_append]; exact .inr hk')⟩
    · cases e

theorem snap_av (r : RH X U j M h ar w) {ks : List Nat} (hcl : Closed h ks) {x : AV} {v : Value} {pv : PVal} (hr : ARep U j M (bsz w) x v) (e : x.snap h = some pv) (hk : ∀ k, k ∈ x.refs → (h.get k).isSome = true → k ∈ ks) : VRep (fz j h ks w M) pv v := by
  cases x with
  | u => simp [AV.snap] at e
  | tup l => simp [AV.snap] at e
  | p c => simp [AV.snap] at e; subst e; exact PRep.mono (fz_le ks) hr
  | pa cs => simp [AV.snap] at e; subst e; obtain ⟨vs, hv, hr⟩ := hr; exact ⟨vs, hv, hr.imp fun _ _ => PRep.mono (fz_le ks)⟩
  | r c =>
    simp only [AV.snap, Option.map_eq_some_iff] at e
    obtain ⟨q, hq, rfl⟩ := e
    exact snap_rep r hcl _ _ _ _ hr hq hk
  | ag cs =>
    simp only [AV.snap, Option.map_eq_some_iff] at e
    obtain ⟨l, hl, rfl⟩ := e
    obtain ⟨vs, hv, hr⟩ := hr
    exact ⟨vs, hv, snap_cells r hcl hr hl hk⟩

theorem snap_all (r : RH X U j M h ar w) {ks : List Nat} (hcl : Closed h ks) : ∀ {l : List AV} {vs : List Value} {ps : List PVal}, All2 (ARep U j M (bsz w)) l vs → snapAll h l = some ps → (∀ k, k ∈ l.flatMap AV.refs → (h.get k).isSome = true → k ∈ ks) → All2 (VRep (fz j h ks w M)) ps vs
  | [], [], ps, _, e, _ => by simp [snapAll] at e; subst e; trivial
  | [], _ :: _, _, hr, _, _ => hr.elim
  | _ :: _, [], _, hr, _, _ => hr.elim
  | x :: l, v :: vs, ps, hr, e, hk => by
    simp only [snapAll] at e
    split at e
    · rename_i q l' h1 h2
      injection e with e; subst e
      exact ⟨snap_av r hcl hr.1 h1 fun k hk' => hk k (by simp [hk']), snap_all r hcl hr.2 h2 fun k hk' => hk k (by simp only [List.flatMap_cons, List.mem_append]; exact .inr hk')⟩
    · cases e

end

end Gv
