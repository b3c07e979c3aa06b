/- Keys renamed: what a call is given, what comes back, what a loop's head keeps. -/
import Derived.Test.YtnjnlkaagfihbaaAOps10
set_option linter.all false
namespace Gv
open Go

section
variable {X : Ctx} {U : Nat → Prop} {j : Nat → Option Nat} {M : Mem} {h : Hp} {ar : Nat} {w : World} {S : Nat → Nat}

/-- A renaming fits: new keys stand for the old ones' blocks. -/
def RenOk (U : Nat → Prop) (j : Nat → Option Nat) (U' : Nat → Prop) (j' : Nat → Option Nat) (ρ : Nat → Option Nat) : Prop :=
  ∀ k k', ρ k = some k' → U k → U' k' ∧ ∀ B, j' k' = some B → j k = some B

theorem renCaps_rep {U' : Nat → Prop} {j' : Nat → Option Nat} {ρ : Nat → Option Nat} (hρ : RenOk U j U' j' ρ) : ∀ {caps l : List (Nat × Nat)} {vs : List Value}, renCaps ρ caps = some l →
    All2 (fun (x : Nat × Nat) v => U x.1 ∧ ∃ B, v = Value.pointer (some ⟨B, x.2, none⟩) ∧ ∀ B', j x.1 = some B' → B' = B) caps vs →
    All2 (fun (x : Nat × Nat) v => U' x.1 ∧ ∃ B, v = Value.pointer (some ⟨B, x.2, none⟩) ∧ ∀ B', j' x.1 = some B' → B' = B) l vs
  | [], l, [], h, _ => by simp [renCaps] at h; subst h; trivial
  | [], _, _ :: _, _, hr => hr.elim
  | _ :: _, _, [], _, hr => hr.elim
  | (k, o) :: caps, l, v :: vs, h, hr => by
    simp only [renCaps] at h
    split at h
    · rename_i k' l' h1 h2
      injection h with h; subst h
      obtain ⟨⟨hu, B, hv, hB⟩, hr⟩ := hr
      obtain ⟨g1, g2⟩ := hρ k k' h1 hu
      exact ⟨⟨g1, B, hv, fun B' hb => hB B' (g2 B' hb)⟩, renCaps_rep hρ h2 hr⟩
    · cases h

theorem CRep.ren {U' : Nat → Prop} {j' : Nat → Option Nat} {ρ : Nat → Option Nat} (hρ : RenOk U j U' j' ρ) {c : C} {v : Value} (r : CRep U j M S c v) : CRep U' j' M S (c.ren ρ) v := by
  have hcell := r.cell
  cases r with
  | p h => exact .p h
  | nils => exact .nils
  | e0 a => exact .e0 a
  | ptr k o B hu h =>
    simp only [C.ren]
    cases e : ρ k with
    | none => exact .dead _ hcell
    | some k' => obtain ⟨g1, g2⟩ := hρ k k' e hu; exact .ptr k' o B g1 fun B' hb => h B' (g2 B' hb)
  | slc k o n z a cap hu hn h =>
    simp only [C.ren]
    cases e : ρ k with
    | none => exact .dead _ hcell
    | some k' => obtain ⟨g1, g2⟩ := hρ k k' e hu; exact .slc k' o n z a cap g1 hn fun B hb => h B (g2 B hb)
  | map k B hu h =>
    simp only [C.ren]
    cases e : ρ k with
    | none => exact .dead _ hcell
    | some k' => obtain ⟨g1, g2⟩ := hρ k k' e hu; exact .map k' B g1 fun B' hb => h B' (g2 B' hb)
  | clo f caps vs h =>
    simp only [C.ren]
    cases e : renCaps ρ caps with
    | none => exact .dead _ hcell
    | some l => exact .clo f l vs (renCaps_rep hρ e h)
  | dead v h => exact .dead v h

theorem cs_ren {U' : Nat → Prop} {j' : Nat → Option Nat} {ρ : Nat → Option Nat} (hρ : RenOk U j U' j' ρ) {cs : List C} {vs : List Value} (r : All2 (CRep U j M S) cs vs) : All2 (CRep U' j' M S) (cs.map (C.ren ρ)) vs :=
  All2.mapL.2 (r.imp fun _ _ h => h.ren hρ)

theorem ARep.ren {U' : Nat → Prop} {j' : Nat → Option Nat} {ρ : Nat → Option Nat} (hρ : RenOk U j U' j' ρ) {x : AV} {v : Value} (r : ARep U j M S x v) : ARep U' j' M S (x.ren ρ) v := by
  cases x with
  | u => trivial
  | p c => exact r
  | pa cs => exact r
  | r c => exact CRep.ren hρ r
  | ag cs => obtain ⟨vs, hv, hr⟩ := r; exact ⟨vs, hv, cs_ren hρ hr⟩
  | tup l =>
    obtain ⟨vs, hv, hr⟩ := r
    refine ⟨vs, hv, All2.mapL.2 (hr.imp fun x v h => ?_)⟩
    obtain ⟨g, cs⟩ := x
    cases g with
    | true => obtain ⟨us, hu, h⟩ := h; exact ⟨us, hu, cs_ren hρ h⟩
    | false => obtain ⟨c, hc, h⟩ := h; simp only at hc; subst hc; exact ⟨c.ren ρ, rfl, h.ren hρ⟩

theorem BRep.ren {U' : Nat → Prop} {j' : Nat → Option Nat} {ρ : Nat → Option Nat} (hρ : RenOk U j U' j' ρ) {b : Blk} {B : Nat} (r : BRep U j M w b B) : BRep U' j' M w (b.ren ρ) B := by
  cases b with
  | cells m f cs =>
    obtain ⟨c, lo, hi, h1, h2, h3, h4, h5⟩ := r
    refine ⟨c, lo, hi, h1, by simpa using h2, by simpa using h3, h4, fun i x hx => ?_⟩
    rw [List.getElem?_map] at hx
    cases e : cs[i]? with
    | none => simp [e] at hx
    | some y =>
      simp [e] at hx; subst hx
      obtain ⟨v, hv, hr⟩ := h5 i y e
      exact ⟨v, hv, hr.ren hρ⟩
  | map es => exact r

theorem T.get_ren (ρ : Nat → Option Nat) : ∀ (t : T) (q : Reg), (t.ren ρ).get q = (t.get q).ren ρ
  | .lf, q => by simp [T.ren, T.get_lf, AV.ren]
  | .nd v l r, [] => rfl
  | .nd v l r, false :: q => T.get_ren ρ l q
  | .nd v l r, true :: q => T.get_ren ρ r q

theorem T.get_mask : ∀ (t : T) (m : Mask) (q : Reg), (t.mask m).get q = t.get q ∨ (t.mask m).get q = .u
  | .lf, m, q => by simp [T.mask]
  | .nd v l r, .lf, q => by right; simp [T.mask, T.get_lf]
  | .nd v l r, .nd b l' r', [] => by simp only [T.mask, T.get]; by_cases hb : b = true <;> simp [hb]
  | .nd v l r, .nd b l' r', false :: q => T.get_mask l l' q
  | .nd v l r, .nd b l' r', true :: q => T.get_mask r r' q

theorem pack_get (ρ : Nat → Option Nat) (h : Hp) : ∀ (L : List Nat) (a i : Nat), (pack h ρ a L).get i = if a ≤ i then (L[i - a]?).bind (fun k => (h.get k).map (Blk.ren ρ)) else none
  | [], a, i => by simp [pack, Hp.get]
  | k :: L, a, i => by
    have ih := pack_get ρ h L (a + 1) i
    simp only [pack]
    by_cases e : i = a
    · subst e
      cases hk : h.get k with
      | none => simp [hk]; rw [ih, if_neg (by omega)]
      | some b => simp [Hp.get, hk]
    · have h1 : ∀ {n : Nat}, a ≤ i → (k :: L)[i - a]? = L[i - (a + 1)]? := fun hle => by
        rw [show i - a = i - (a + 1) + 1 by omega]; simp
      have h2 : (pack h ρ (a + 1) L).get i = if a ≤ i then ((k :: L)[i - a]?).bind (fun k => (h.get k).map (Blk.ren ρ)) else none := by
        rw [ih]
        by_cases hle : a ≤ i
        · rw [if_pos (by omega), if_pos hle, h1 (n := 0) hle]
        · rw [if_neg (by omega), if_neg hle]
      cases hk : h.get k with
      | none => exact h2
      | some b => simp only [Hp.get, e, if_false]; exact h2

/-- What stands for a list of keys. -/
def packJ (L : List Nat) (j : Nat → Option Nat) : Nat → Option Nat := fun i => (L[i]?).bind j

/-- A renaming goes by a list. -/
def ByList (L : List Nat) (ρ : Nat → Option Nat) : Prop := ∀ k i, ρ k = some i → L[i]? = some k

theorem renOk_pack {L : List Nat} {ρ : Nat → Option Nat} (hL : ByList L ρ) : RenOk U j (fun i => i < L.length) (packJ L j) ρ := by
  intro k i e _
  have := hL k i e
  exact ⟨(List.getElem?_eq_some_iff.1 this).1, fun B hB => by simpa [packJ, this] using hB⟩

theorem pack_hp (r : RH X U j M h ar w) {L : List Nat} {ρ : Nat → Option Nat} (hL : ByList L ρ) (i : Nat) (b : Blk) (hb : (pack h ρ 0 L).get i = some b) :
    ∃ B, packJ L j i = some B ∧ BRep (fun i => i < L.length) (packJ L j) M w b B := by
  rw [pack_get] at hb
  simp only [Nat.zero_le, if_true, Nat.sub_zero] at hb
  cases hk : L[i]? with
  | none => simp [hk] at hb
  | some k =>
    simp only [hk, Option.bind_some, Option.map_eq_some_iff] at hb
    obtain ⟨b0, hb0, rfl⟩ := hb
    obtain ⟨B, hB, hr⟩ := r.hp k b0 hb0
    exact ⟨B, by simp [packJ, hk, hB], hr.ren (renOk_pack hL)⟩

theorem pack_dom (r : RH X U j M h ar w) {L : List Nat} (ρ : Nat → Option Nat) (i B : Nat) (e : packJ L j i = some B) : i < L.length ∧ ∃ b, (pack h ρ 0 L).get i = some b := by
  cases hk : L[i]? with
  | none => simp [packJ, hk] at e
  | some k =>
    simp only [packJ, hk, Option.bind_some] at e
    obtain ⟨_, b, hb⟩ := r.dom k B e
    exact ⟨(List.getElem?_eq_some_iff.1 hk).1, b.ren ρ, by rw [pack_get]; simp [hk, hb]⟩

theorem pack_inj (r : RH X U j M h ar w) {L : List Nat} (hn : L.Nodup) (i i' B : Nat) (e : packJ L j i = some B) (e' : packJ L j i' = some B) : i = i' := by
  cases hk : L[i]? with
  | none => simp [packJ, hk] at e
  | some k =>
    cases hk' : L[i']? with
    | none => simp [packJ, hk'] at e'
    | some k' =>
      simp only [packJ, hk, Option.bind_some] at e
      simp only [packJ, hk', Option.bind_some] at e'
      have := r.inj k k' B e e'; subst this
      obtain ⟨h1, h2⟩ := List.getElem?_eq_some_iff.1 hk
      obtain ⟨h3, h4⟩ := List.getElem?_eq_some_iff.1 hk'
      rcases Nat.lt_trichotomy i i' with hlt | hlt | hlt
      · exact (List.pairwise_iff_getElem.1 hn i i' h1 h3 hlt (h2.trans h4.symm)).elim
      · exact hlt
      · exact (List.pairwise_iff_getElem.1 hn i' i h3 h1 hlt (h4.trans h2.symm)).elim

theorem pack_frz (r : RH X U j M h ar w) {L : List Nat} (ρ : Nat → Option Nat) (i B : Nat) (m : Tag) (f : Nat) (cs : List C) (e : packJ L j i = some B) (hb : (pack h ρ 0 L).get i = some (.cells m f cs)) : ∀ o v, M B o = some v → o < f := by
  cases hk : L[i]? with
  | none => simp [packJ, hk] at e
  | some k =>
    simp only [packJ, hk, Option.bind_some] at e
    rw [pack_get] at hb
    simp only [Nat.zero_le, if_true, Nat.sub_zero, hk, Option.bind_some, Option.map_eq_some_iff] at hb
    obtain ⟨b0, hb0, hb1⟩ := hb
    cases b0 with
    | cells m0 f0 cs0 =>
      simp only [Blk.ren] at hb1
      injection hb1 with h1 h2 h3; subst h1 h2
      exact r.frz k B m0 f0 cs0 e hb0
    | map es => cases hb1

/-- The heap that a call is given. -/
theorem RH.entry (r : RH X U j M h ar w) {L : List Nat} {ρ : Nat → Option Nat} (hL : ByList L ρ) (hn : L.Nodup) (nt : Nat) :
    RH ⟨packJ L j, M, w, nt⟩ (fun i => i < L.length) (packJ L j) M (pack h ρ 0 L) L.length w where
  hp := pack_hp r hL
  dom := pack_dom r ρ
  inj := pack_inj r hn
  mem := r.mem
  frz := fun i B m f cs e hb => pack_frz r ρ i B m f cs e hb
  own := fun k B e => .inl ⟨k, e⟩
  frame := fun _ _ _ => rfl
  sub := Mem.le_refl M
  new := fun _ _ _ e => .inl e
  size := Nat.le_refl _
  env := ⟨rfl, rfl, rfl⟩
  shape := fun _ _ => rfl
  arg := fun _ _ _ e => e

/-- What is kept, under new keys. -/
theorem RH.gc (r : RH X U j M h ar w) {L : List Nat} {ρ : Nat → Option Nat} (hL : ByList L ρ) (hn : L.Nodup) (ha : ∀ i, i < ar → L[i]? = some i) :
    RH X (fun i => i < L.length) (packJ L j) M (pack h ρ 0 L) ar w where
  hp := pack_hp r hL
  dom := pack_dom r ρ
  inj := pack_inj r hn
  mem := r.mem
  frz := fun i B m f cs e hb => pack_frz r ρ i B m f cs e hb
  own := fun k B e => by
    cases hk : L[k]? with
    | none => simp [packJ, hk] at e
    | some q => simp only [packJ, hk, Option.bind_some] at e; exact r.own q B e
  frame := r.frame
  sub := r.sub
  new := r.new
  size := r.size
  env := r.env
  shape := r.shape
  arg := fun k B hk e => by
    simp only [packJ, ha k hk, Option.bind_some] at e
    exact r.arg k B hk e

/-! Lists of keys. -/
theorem place_byList : ∀ (L : List Nat) (a k i : Nat), place a L k = some i → a ≤ i ∧ L[i - a]? = some k
  | [], _, _, _, h => by simp [place] at h
  | q :: L, a, k, i, h => by
    simp only [place] at h
    split at h
    · rename_i e; injection h with h; subst h e; simp
    · obtain ⟨h1, h2⟩ := place_byList L (a + 1) k i h
      refine ⟨by omega, ?_⟩
      rw [show i - a = i - (a + 1) + 1 by omega]; simpa using h2

theorem byList_place (L : List Nat) : ByList L (place 0 L) := fun k i e => by simpa using (place_byList L 0 k i e).2

theorem upto_len (a : Nat) : (upto a).length = a := by induction a with | zero => rfl | succ a ih => simp [upto, ih]
theorem upto_get (a i : Nat) (h : i < a) : (upto a)[i]? = some i := by
  induction a with
  | zero => omega
  | succ a ih =>
    simp only [upto]
    by_cases e : i < a
    · rw [List.getElem?_append_left (by rw [upto_len]; exact e)]; exact ih e
    · have : i = a := by omega
      subst this
      rw [List.getElem?_append_right (by rw [upto_len]; exact Nat.le_refl _)]; simp [upto_len]
theorem mem_upto {a k : Nat} : k ∈ upto a ↔ k < a := by
  induction a with
  | zero => simp [upto]
  | succ a ih => simp [upto, ih]; omega

theorem byList_gc (a : Nat) (ks : List Nat) : ByList (upto a ++ ks) (gcRen a ks) := by
  intro k i e
  simp only [gcRen] at e
  split at e
  · rename_i h; injection e with e; subst e
    rw [List.getElem?_append_left (by rw [upto_len]; exact h)]; exact upto_get _ _ h
  · obtain ⟨h1, h2⟩ := place_byList ks a k i e
    rw [List.getElem?_append_right (by rw [upto_len]; exact h1), upto_len]; exact h2

theorem reach_nodup (h : Hp) : ∀ (n : Nat) (todo seen out : List Nat), reach h n todo seen = some out → seen.Nodup → out.Nodup
  | 0, _, _, _, e, _ => by simp [reach] at e
  | n + 1, [], seen, out, e, hs => by simp [reach] at e; subst e; exact hs
  | n + 1, k :: todo, seen, out, e, hs => by
    simp only [reach] at e
    split at e
    · exact reach_nodup h n _ _ _ e hs
    · rename_i hk
      split at e
      · refine reach_nodup h n _ _ _ e ?_
        rw [List.nodup_append]
        refine ⟨hs, by simp, ?_⟩
        intro a ha b hb e'
        simp at hb; subst hb e'
        exact hk (by simpa using ha)
      · exact reach_nodup h n _ _ _ e hs

theorem gc_nodup {a : Nat} {h : Hp} {roots ks : List Nat} (e : gcKeys a h roots = some ks) : (upto a ++ ks).Nodup := by
  unfold gcKeys at e
  simp only [Option.map_eq_some_iff] at e
  obtain ⟨l, hl, rfl⟩ := e
  have hl' := reach_nodup h _ _ _ _ hl List.nodup_nil
  rw [List.nodup_append]
  refine ⟨?_, List.Pairwise.filter _ hl', ?_⟩
  · induction a with
    | zero => simp [upto]
    | succ a ih =>
      simp only [upto]
      rw [List.nodup_append]
      refine ⟨?_, by simp, fun x hx y hy e => by simp at hy; subst hy e; rw [mem_upto] at hx; omega⟩
      clear hl hl' ih
      induction a with
      | zero => simp [upto]
      | succ a ih =>
        simp only [upto]
        rw [List.nodup_append]
        exact ⟨ih, by simp, fun x hx y hy e => by simp at hy; subst hy e; rw [mem_upto] at hx; omega⟩
  · intro x hx y hy e
    subst e
    rw [mem_upto] at hx
    simp at hy
    omega

/-- At a loop's head. -/
theorem RT.gc {t : T} {a : Act} (r : RT X U j M t a w) {L : List Nat} {ρ : Nat → Option Nat} (hL : ByList L ρ) (m : Mask) : RT X (fun i => i < L.length) (packJ L j) M ((t.mask m).ren ρ) a w :=
  ⟨r.nt, r.le, r.df, fun i hi => by
    rw [T.get_ren]
    rcases T.get_mask t m (path i) with e | e
    · rw [e]; exact (r.tm i hi).ren (renOk_pack hL)
    · rw [e]; trivial⟩

end

theorem norm_sound {X : Ctx} {U : Nat → Prop} {j : Nat → Option Nat} {M : Mem} {s s1 : St} {a : Act} {w : World} {m : Mask} (r : R X U j M s a w) (e : norm m s = some s1) :
    ∃ U' j', R X U' j' M s1 a w ∧ (∀ k, U' k → k < s1.nx) ∧ s1.ar = s.ar ∧ s1.ar ≤ s1.nx := by
  unfold norm at e
  split at e
  · rename_i ks hk
    injection e with e; subst e
    have hn := gc_nodup hk
    have hL := byList_gc s.ar ks
    refine ⟨fun i => i < (upto s.ar ++ ks).length, packJ (upto s.ar ++ ks) j, ⟨r.h.gc hL hn ?_, r.t.gc hL m⟩, fun k hk => ?_, rfl, Nat.le_add_right _ _⟩
    · intro i hi
      rw [List.getElem?_append_left (by rw [upto_len]; exact hi)]; exact upto_get _ _ hi
    · simp [upto_len] at hk ⊢; exact hk
  · cases e

end Gv
