/- Calls with a heap of their own. -/
import Derived.Test.YtnjnlkaagfihbaaACall
set_option linter.all false
namespace Gv
open Go

section
variable {X : Ctx} {U : Nat → Prop} {j : Nat → Option Nat} {M : Mem} {h : Hp} {ar : Nat} {w : World} {P : Program} {F : Fns} {rec : Rec} {S : Nat → Nat}

theorem place_none : ∀ (L : List Nat) (a k : Nat), place a L k = none ↔ k ∉ L
  | [], a, k => by simp [place]
  | q :: L, a, k => by
    simp only [place]
    by_cases e : k = q
    · subst e; simp
    · simp [e, place_none L (a + 1) k]

theorem place_some {L : List Nat} (hn : L.Nodup) {i k : Nat} (h : L[i]? = some k) : ∀ a, place a L k = some (a + i) := by
  induction L generalizing i with
  | nil => simp at h
  | cons q L ih =>
    intro a
    rw [List.nodup_cons] at hn
    cases i with
    | zero => simp at h; subst h; simp [place]
    | succ i =>
      simp at h
      have hne : k ≠ q := fun e => hn.1 (e ▸ List.mem_of_getElem? h)
      simp only [place, hne, if_false]
      rw [ih hn.2 h (a + 1)]; congr 1; omega

theorem upd_app (h : Hp) : ∀ (u v : Upd), h.upd (u ++ v) = (h.upd u).upd v := by
  intro u
  induction u generalizing h with
  | nil => intro v; rfl
  | cons x u ih =>
    intro v
    obtain ⟨k, b⟩ := x
    cases b <;> simp [Hp.upd, ih]

theorem upd_cons_get (h : Hp) (q : Nat) (x : Option Blk) (u : Upd) (k : Nat) (hk : ∀ h1 h2 : Hp, h1.get k = h2.get k → (h1.upd u).get k = (h2.upd u).get k) :
    ∃ h1 : Hp, h.upd ((q, x) :: u) = h1.upd u ∧ ∀ k, h1.get k = if k = q then x else h.get k := by
  cases x with
  | none => exact ⟨h.del q, rfl, fun k => Hp.get_del h q k⟩
  | some b => exact ⟨h.put q b, rfl, fun k => Hp.get_put h q k b⟩

theorem backOld_get (h' : Hp) (ρ : Nat → Option Nat) : ∀ (L : List Nat) (a : Nat) (h : Hp) (k : Nat), L.Nodup → (h.upd (backOld h' ρ a L)).get k = match place a L k with
    | some i => (Hp.get h' i).map (Blk.ren ρ)
    | none => h.get k
  | [], a, h, k, _ => rfl
  | q :: L, a, h, k, hn => by
    rw [List.nodup_cons] at hn
    have key : ∀ h1 : Hp, (∀ k, h1.get k = if k = q then (Hp.get h' a).map (Blk.ren ρ) else h.get k) → (h1.upd (backOld h' ρ (a + 1) L)).get k = match place a (q :: L) k with
      | some i => (Hp.get h' i).map (Blk.ren ρ)
      | none => h.get k := by
      intro h1 hh
      rw [backOld_get h' ρ L (a + 1) h1 k hn.2]
      by_cases e : k = q
      · subst e
        rw [(place_none L (a + 1) k).2 hn.1]
        simp [place, hh]
      · simp only [place, e, if_false]
        cases place (a + 1) L k with
        | none => simp [hh, e]
        | some i => rfl
    simp only [backOld]
    cases hx : (Hp.get h' a).map (Blk.ren ρ) with
    | none => simp only [Hp.upd]; exact key _ fun k => by rw [Hp.get_del, hx]
    | some b => simp only [Hp.upd]; exact key _ fun k => by rw [Hp.get_put, hx]

theorem backNew_get (h' : Hp) (ρ : Nat → Option Nat) : ∀ (p i fk : Nat) (h : Hp) (k : Nat), (h.upd (backNew h' ρ p i fk)).get k = if fk ≤ k ∧ k < fk + p then (Hp.get h' (i + (k - fk))).map (Blk.ren ρ) else h.get k
  | 0, i, fk, h, k => by simp [backNew, Hp.upd]; omega
  | p + 1, i, fk, h, k => by
    have key : ∀ h1 : Hp, (∀ k, h1.get k = if k = fk then (Hp.get h' i).map (Blk.ren ρ) else h.get k) → (h1.upd (backNew h' ρ p (i + 1) (fk + 1))).get k = if fk ≤ k ∧ k < fk + (p + 1) then (Hp.get h' (i + (k - fk))).map (Blk.ren ρ) else h.get k := by
      intro h1 hh
      rw [backNew_get h' ρ p (i + 1) (fk + 1) h1 k]
      by_cases e : k = fk
      · subst e
        rw [if_neg (by omega), if_pos (by omega), hh]; simp
      · by_cases c : fk + 1 ≤ k ∧ k < fk + 1 + p
        · rw [if_pos c, if_pos (by omega), show i + 1 + (k - (fk + 1)) = i + (k - fk) by omega]
        · rw [if_neg c, if_neg (by omega), hh, if_neg e]
    simp only [backNew]
    cases hx : (Hp.get h' i).map (Blk.ren ρ) with
    | none => simp only [Hp.upd]; exact key _ fun k => by rw [Hp.get_del, hx]
    | some b => simp only [Hp.upd]; exact key _ fun k => by rw [Hp.get_put, hx]

def backJ (ks : List Nat) (fk p : Nat) (j2 j : Nat → Option Nat) : Nat → Option Nat := fun k =>
  if fk ≤ k ∧ k < fk + p then j2 (ks.length + (k - fk)) else match place 0 ks k with | some i => j2 i | none => j k

/-- Where a key's block comes from, behind a call. -/
inductive From (ks : List Nat) (fk p k : Nat) : Prop
  | new (i : Nat) (h : fk ≤ k ∧ k < fk + p) (hi : i = ks.length + (k - fk)) : From ks fk p k
  | old (i : Nat) (h : ¬ (fk ≤ k ∧ k < fk + p)) (hi : ks[i]? = some k) : From ks fk p k
  | rest (h : ¬ (fk ≤ k ∧ k < fk + p)) (hi : k ∉ ks) : From ks fk p k

theorem RH.back (r : RH X U j M h ar w) {ks : List Nat} {nt fk p : Nat} {U2 : Nat → Prop} {j2 : Nat → Option Nat} {M' : Mem} {h' : Hp} {w' : World} (r2 : RH ⟨packJ ks j, M, w, nt⟩ U2 j2 M' h' ks.length w')
    (hn : ks.Nodup) (hks : ∀ k, k ∈ ks → U k) (hU2 : ∀ i, U2 i → i < ks.length + p) (hfr : ∀ k, fk ≤ k → k < fk + stride → ¬ U k) (ha : ar ≤ fk) (hp : p ≤ stride) :
    ∃ U' j', (∀ k, U' k → U k ∨ (fk ≤ k ∧ k < fk + stride)) ∧ RH X U' j' M' (h.upd (backUpd h' (backRen ks fk) fk ks p)) ar w' ∧ Ev U j M (bsz w) U' j' M' (bsz w') ∧ RenOk U2 j2 U' j' (backRen ks fk) := by
  have notnew : ∀ k, U k → ¬ (fk ≤ k ∧ k < fk + p) := fun k hk hc => hfr k hc.1 (by omega) hk
  have hget : ∀ k, (h.upd (backUpd h' (backRen ks fk) fk ks p)).get k = if fk ≤ k ∧ k < fk + p then (Hp.get h' (ks.length + (k - fk))).map (Blk.ren (backRen ks fk)) else match place 0 ks k with
      | some i => (Hp.get h' i).map (Blk.ren (backRen ks fk))
      | none => h.get k := by
    intro k
    unfold backUpd
    rw [upd_app, backNew_get, backOld_get h' _ ks 0 h k hn]
  have pl : ∀ i k, ks[i]? = some k → place 0 ks k = some i := fun i k hi => by simpa using place_some hn hi 0
  have jnew : ∀ k i, (fk ≤ k ∧ k < fk + p) → i = ks.length + (k - fk) → backJ ks fk p j2 j k = j2 i := fun k i h1 h2 => by subst h2; simp [backJ, h1]
  have jold : ∀ k i, ¬ (fk ≤ k ∧ k < fk + p) → ks[i]? = some k → backJ ks fk p j2 j k = j2 i := fun k i h1 h2 => by simp only [backJ, h1, if_false, pl i k h2]
  have jrest : ∀ k, ¬ (fk ≤ k ∧ k < fk + p) → k ∉ ks → backJ ks fk p j2 j k = j k := fun k h1 h2 => by simp only [backJ, h1, if_false, (place_none ks 0 k).2 h2]
  have gnew : ∀ k i, (fk ≤ k ∧ k < fk + p) → i = ks.length + (k - fk) → (h.upd (backUpd h' (backRen ks fk) fk ks p)).get k = (Hp.get h' i).map (Blk.ren (backRen ks fk)) := fun k i h1 h2 => by subst h2; rw [hget, if_pos h1]
  have gold : ∀ k i, ¬ (fk ≤ k ∧ k < fk + p) → ks[i]? = some k → (h.upd (backUpd h' (backRen ks fk) fk ks p)).get k = (Hp.get h' i).map (Blk.ren (backRen ks fk)) := fun k i h1 h2 => by rw [hget, if_neg h1, pl i k h2]
  have grest : ∀ k, ¬ (fk ≤ k ∧ k < fk + p) → k ∉ ks → (h.upd (backUpd h' (backRen ks fk) fk ks p)).get k = h.get k := fun k h1 h2 => by rw [hget, if_neg h1, (place_none ks 0 k).2 h2]
  have cases3 : ∀ k, From ks fk p k := fun k => by
    by_cases c : fk ≤ k ∧ k < fk + p
    · exact .new _ c rfl
    · by_cases c2 : k ∈ ks
      · obtain ⟨i, hi⟩ := List.getElem?_of_mem c2; exact .old i c hi
      · exact .rest c c2
  have pk : ∀ k0 B, packJ ks j k0 = some B → ∃ q, ks[k0]? = some q ∧ j q = some B := fun k0 B e => by
    cases hq : ks[k0]? with
    | none => simp [packJ, hq] at e
    | some q => simp only [packJ, hq, Option.bind_some] at e; exact ⟨q, rfl, e⟩
  have argk : ∀ i k B, ks[i]? = some k → j2 i = some B → j k = some B := fun i k B hi e => by
    have := r2.arg i B (List.getElem?_eq_some_iff.1 hi).1 e
    obtain ⟨q, h1, h2⟩ := pk i B this
    rw [hi] at h1; injection h1 with h1; subst h1; exact h2
  have out : ∀ k B, j k = some B → k ∉ ks → ∀ k0, packJ ks j k0 ≠ some B := fun k B e hk k0 e0 => by
    obtain ⟨q, h1, h2⟩ := pk k0 B e0
    have := r.inj k q B e h2; subst this
    exact hk (List.mem_of_getElem? h1)
  have ev : Ev U j M (bsz w) (fun k => U k ∨ (fk ≤ k ∧ k < fk + p)) (backJ ks fk p j2 j) M' (bsz w') := by
    refine ⟨fun _ h => .inl h, fun k B hk e => ?_, r2.sub⟩
    have hj : j k = some B := by
      cases cases3 k with
      | new i h1 _ => exact (notnew k hk h1).elim
      | old i h1 h2 => rw [jold k i h1 h2] at e; exact argk i k B h2 e
      | rest h1 h2 => rw [jrest k h1 h2] at e; exact e
    exact ⟨hj, r2.shape B (r.lt hj)⟩
  have hren : RenOk U2 j2 (fun k => U k ∨ (fk ≤ k ∧ k < fk + p)) (backJ ks fk p j2 j) (backRen ks fk) := by
    intro i q e hi
    unfold backRen at e
    split at e
    · have hq := hks q (List.mem_of_getElem? e)
      exact ⟨.inl hq, fun B hB => by rw [jold q i (notnew q hq) e] at hB; exact hB⟩
    · rename_i hlt
      injection e with e; subst e
      have := hU2 i hi
      exact ⟨.inr ⟨by omega, by omega⟩, fun B hB => by rw [jnew _ i ⟨by omega, by omega⟩ (by omega)] at hB; exact hB⟩
  refine ⟨_, _, fun k hk => hk.imp id fun h => ⟨h.1, by omega⟩, ⟨fun k b hb => ?_, fun k B e => ?_, fun k k' B e e' => ?_, r2.mem, fun k B m f cs e hb o v hv => ?_, fun k B e => ?_, fun b hb hnb => ?_, Mem.le_trans r.sub r2.sub, fun b o v e => ?_, Nat.le_trans r.size r2.size,
    ⟨r2.env.1.trans r.env.1, r2.env.2.1.trans r.env.2.1, r2.env.2.2.trans r.env.2.2⟩, fun b hb => (r2.shape b (Nat.lt_of_lt_of_le hb r.size)).trans (r.shape b hb), fun k B hk e => ?_⟩, ev, hren⟩
  · have via : ∀ i, (h.upd (backUpd h' (backRen ks fk) fk ks p)).get k = (Hp.get h' i).map (Blk.ren (backRen ks fk)) → backJ ks fk p j2 j k = j2 i → ∃ B, backJ ks fk p j2 j k = some B ∧ BRep (fun k => U k ∨ (fk ≤ k ∧ k < fk + p)) (backJ ks fk p j2 j) M' w' b B := by
      intro i g1 g2
      rw [g1] at hb
      simp only [Option.map_eq_some_iff] at hb
      obtain ⟨b0, hb0, rfl⟩ := hb
      obtain ⟨B, hB, hr⟩ := r2.hp i b0 hb0
      exact ⟨B, g2.trans hB, hr.ren hren⟩
    cases cases3 k with
    | new i h1 h2 => exact via i (gnew k i h1 h2) (jnew k i h1 h2)
    | old i h1 h2 => exact via i (gold k i h1 h2) (jold k i h1 h2)
    | rest h1 h2 =>
      rw [grest k h1 h2] at hb
      obtain ⟨B, hB, hr⟩ := r.hp k b hb
      exact ⟨B, (jrest k h1 h2).trans hB, hr.ev ev (r2.frame B hr.lt (out k B hB h2))⟩
  · cases cases3 k with
    | new i h1 h2 =>
      rw [jnew k i h1 h2] at e
      obtain ⟨_, b, hb⟩ := r2.dom i B e
      exact ⟨.inr h1, _, by rw [gnew k i h1 h2, hb]; rfl⟩
    | old i h1 h2 =>
      rw [jold k i h1 h2] at e
      obtain ⟨_, b, hb⟩ := r2.dom i B e
      exact ⟨.inl (hks k (List.mem_of_getElem? h2)), _, by rw [gold k i h1 h2, hb]; rfl⟩
    | rest h1 h2 =>
      rw [jrest k h1 h2] at e
      obtain ⟨hu, b, hb⟩ := r.dom k B e
      exact ⟨.inl hu, b, by rw [grest k h1 h2, hb]⟩
  · have cross : ∀ i k', j2 i = some B → j k' = some B → k' ∉ ks → False := by
      intro i k' e1 e2 hk'
      rcases r2.own i B e1 with ⟨k0, h0⟩ | h0
      · exact out k' B e2 hk' k0 h0
      · have := r.lt e2; simp only at h0; omega
    cases cases3 k with
    | new i h1 h2 =>
      rw [jnew k i h1 h2] at e
      cases cases3 k' with
      | new i' h1' h2' => rw [jnew k' i' h1' h2'] at e'; have := r2.inj i i' B e e'; omega
      | old i' h1' h2' =>
        rw [jold k' i' h1' h2'] at e'
        have := r2.inj i i' B e e'
        have := (List.getElem?_eq_some_iff.1 h2').1
        omega
      | rest h1' h2' => rw [jrest k' h1' h2'] at e'; exact (cross i k' e e' h2').elim
    | old i h1 h2 =>
      rw [jold k i h1 h2] at e
      cases cases3 k' with
      | new i' h1' h2' =>
        rw [jnew k' i' h1' h2'] at e'
        have := r2.inj i i' B e e'
        have := (List.getElem?_eq_some_iff.1 h2).1
        omega
      | old i' h1' h2' =>
        rw [jold k' i' h1' h2'] at e'
        have := r2.inj i i' B e e'; subst this
        rw [h2] at h2'; injection h2'
      | rest h1' h2' => rw [jrest k' h1' h2'] at e'; exact (cross i k' e e' h2').elim
    | rest h1 h2 =>
      rw [jrest k h1 h2] at e
      cases cases3 k' with
      | new i' h1' h2' => rw [jnew k' i' h1' h2'] at e'; exact (cross i' k e' e h2).elim
      | old i' h1' h2' => rw [jold k' i' h1' h2'] at e'; exact (cross i' k e' e h2).elim
      | rest h1' h2' => rw [jrest k' h1' h2'] at e'; exact r.inj k k' B e e'
  · have via : ∀ i, (h.upd (backUpd h' (backRen ks fk) fk ks p)).get k = (Hp.get h' i).map (Blk.ren (backRen ks fk)) → j2 i = some B → o < f := by
      intro i g1 g2
      rw [g1] at hb
      simp only [Option.map_eq_some_iff] at hb
      obtain ⟨b0, hb0, hb1⟩ := hb
      cases b0 with
      | map es => cases hb1
      | cells m0 f0 cs0 =>
        simp only [Blk.ren] at hb1
        injection hb1 with q1 q2 q3; subst q2
        exact r2.frz i B m0 f0 cs0 g2 hb0 o v hv
    cases cases3 k with
    | new i h1 h2 => rw [jnew k i h1 h2] at e; exact via i (gnew k i h1 h2) e
    | old i h1 h2 => rw [jold k i h1 h2] at e; exact via i (gold k i h1 h2) e
    | rest h1 h2 =>
      rw [jrest k h1 h2] at e
      rw [grest k h1 h2] at hb
      rcases r2.new B o v hv with h3 | ⟨k0, h3⟩ | h3
      · exact r.frz k B m f cs e hb o v h3
      · exact (out k B e h2 k0 h3).elim
      · have := r.lt e; simp only at h3; omega
  · have via : ∀ i, j2 i = some B → (∃ k0, X.j0 k0 = some B) ∨ X.w0.heap.size ≤ B := by
      intro i e
      rcases r2.own i B e with ⟨k0, h0⟩ | h0
      · obtain ⟨q, _, h2⟩ := pk k0 B h0; exact r.own q B h2
      · exact .inr (Nat.le_trans r.size h0)
    cases cases3 k with
    | new i h1 h2 => rw [jnew k i h1 h2] at e; exact via i e
    | old i h1 h2 => rw [jold k i h1 h2] at e; exact via i e
    | rest h1 h2 => rw [jrest k h1 h2] at e; exact r.own k B e
  · refine (r2.frame b (Nat.lt_of_lt_of_le hb r.size) fun k0 e0 => ?_).trans (r.frame b hb hnb)
    obtain ⟨q, _, h2⟩ := pk k0 b e0
    rcases r.own q b h2 with ⟨k1, h3⟩ | h3
    · exact hnb k1 h3
    · omega
  · rcases r2.new b o v e with h3 | ⟨k0, h3⟩ | h3
    · exact r.new b o v h3
    · obtain ⟨q, _, h2⟩ := pk k0 b h3
      rcases r.own q b h2 with h4 | h4
      · exact .inr (.inl h4)
      · exact .inr (.inr h4)
    · exact .inr (.inr (Nat.le_trans r.size h3))
  · cases cases3 k with
    | new i h1 _ => omega
    | old i h1 h2 => rw [jold k i h1 h2] at e; exact r.arg k B hk (argk i k B h2 e)
    | rest h1 h2 => rw [jrest k h1 h2] at e; exact r.arg k B hk e

theorem icall_sound (hF : Fits P F) (hb : BodyOK P rec) {f : FuncId} (hm : ∀ fn, F f = some fn → fn.mode.runs = true) {args : List AV} {h : Hp} {a : Nat} {vs : List AV} {h' : Hp} {p : Nat} (h3 : icallW F rec f args h a = some (vs, h', p))
    {j : Nat → Option Nat} {M : Mem} {w : World} {xs : Array Value} (r : ∀ nt, RH ⟨j, M, w, nt⟩ (fun i => i < a) j M h a w) (hx : All2 (ARep (fun i => i < a) j M (bsz w)) args xs.toList) : ∃ nt, Calls P f xs w (Ret (HDone ⟨j, M, w, nt⟩ a vs h' p)) := by
  unfold icallW at h3
  split at h3
  · cases h3
  · rename_i fn hfn
    split at h3
    · rename_i hle
      obtain ⟨fu, c, hfu, _, hbody, _, _, _, hfit⟩ := hF f fn hfn
      obtain ⟨hres, hcode, hnt, hargs, hfine⟩ := hfit (hm fn hfn)
      refine ⟨fu.ntmps, ?_⟩
      have fin : ∀ ex s', rec fn.body { tm := putArgs .lf 0 args, hp := h, nx := a, ar := a } = some (ex, s') → (ex = .normal ∨ ex = .ret) → ∀ rs kg, readAll s' fn.res = some rs → gcKeys a s'.hp (rs.flatMap AV.refs) = some kg →
          vs = rs.map (AV.ren (gcRen a kg)) → h' = gc a s'.hp kg → p = kg.length → Calls P f xs w (Ret (HDone ⟨j, M, w, fu.ntmps⟩ a vs h' p)) := by
        intro ex s' hrun hex rs kg hrs hkg e1 e2 e3
        refine calls_of_wp hfu hbody (hb c fn.body fu.ntmps hcode hfine ⟨j, M, w, fu.ntmps⟩ (fun i => i < a) j M _ _ w ex s' rfl ⟨r fu.ntmps, ?_⟩ (fun _ h => h) (Nat.le_refl _) hrun _ ?_)
        · exact start_tmps (X := ⟨j, M, w, fu.ntmps⟩) hx hnt (Nat.le_trans hle hargs)
        · intro U' j' M' a' w' r' _ har _
          have main : bodyPost P fu (Ret (HDone ⟨j, M, w, fu.ntmps⟩ a vs h' p)) .ret a' w' := by
            refine ⟨r'.t.df, ?_⟩
            obtain ⟨us, q1, q2⟩ := results_sound r' hres hrs
            refine ⟨_, q1, ?_⟩
            have hLg := byList_gc a kg
            have hng := gc_nodup hkg
            have r2 : RH ⟨j, M, w, fu.ntmps⟩ (fun i => i < (upto a ++ kg).length) (packJ (upto a ++ kg) j') M' h' a w' := by
              rw [e2]
              have r'' := r'.h
              rw [har] at r''
              exact r''.gc hLg hng fun i hi => by rw [List.getElem?_append_left (by rw [upto_len]; exact hi)]; exact upto_get _ _ hi
            have q3 : All2 (ARep (fun i => i < (upto a ++ kg).length) (packJ (upto a ++ kg) j') M' (bsz w')) vs us.toList := by
              rw [e1]; exact All2.mapL.2 (q2.imp fun _ _ h => h.ren (renOk_pack hLg))
            exact ⟨_, _, M', us, rfl, r2, fun i hi => by simp [upto_len] at hi; omega, q3⟩
          rcases hex with rfl | rfl <;> exact main
      split at h3
      · rename_i s' hrun
        split at h3
        · rename_i rs hrs
          split at h3
          · rename_i kg hkg
            injection h3 with h3; injection h3 with e1 e2; injection e2 with e2 e3
            exact fin _ s' hrun (.inl rfl) rs kg hrs hkg e1.symm e2.symm e3.symm
          · cases h3
        · cases h3
      · rename_i s' hrun
        split at h3
        · rename_i rs hrs
          split at h3
          · rename_i kg hkg
            injection h3 with h3; injection h3 with e1 e2; injection e2 with e2 e3
            exact fin _ s' hrun (.inr rfl) rs kg hrs hkg e1.symm e2.symm e3.symm
          · cases h3
        · cases h3
      · cases h3
    · cases h3

theorem heap_back (r : RH X U j M h ar w) {fk : Nat} (hfr : ∀ k, fk ≤ k → k < fk + stride → ¬ U k) (ha : ar ≤ fk) {f : FuncId} {args : List AV} {ks : List Nat} (h2 : reachAll h (args.flatMap AV.refs) = some ks) {vs : List AV} {h' : Hp} {p : Nat} (hp : p ≤ stride) {xs : Array Value} (hx : All2 (ARep U j M (bsz w)) args xs.toList)
    (hc : (∀ nt, RH ⟨packJ ks j, M, w, nt⟩ (fun i => i < ks.length) (packJ ks j) M (pack h (place 0 ks) 0 ks) ks.length w) → All2 (ARep (fun i => i < ks.length) (packJ ks j) M (bsz w)) (args.map (AV.ren (place 0 ks))) xs.toList → ∃ nt, Calls P f xs w (Ret (HDone ⟨packJ ks j, M, w, nt⟩ ks.length vs h' p)))
    {y : AV} (hy : AV.ofList (vs.map (AV.ren (backRen ks fk))) = some y) : Calls P f xs w (Ret (After X U j M h ar w fk y (backUpd h' (backRen ks fk) fk ks p))) := by
  have hn := reachAll_nodup h2
  obtain ⟨_, _, g3⟩ := reachAll_spec h2
  have hks : ∀ k, k ∈ ks → U k := fun k hk => by
    obtain ⟨b, hb⟩ := Option.isSome_iff_exists.1 (g3 k hk)
    obtain ⟨B, hB, _⟩ := r.hp k b hb
    exact (r.dom k B hB).1
  have hL := byList_place ks
  obtain ⟨nt, hcall⟩ := hc (fun nt => r.entry hL hn nt) (All2.mapL.2 (hx.imp fun _ _ h => h.ren (renOk_pack hL)))
  refine hcall.mono fun e w' hd => ?_
  cases e with
  | panicked c => exact hd
  | outgrown => exact hd
  | returned v =>
    obtain ⟨U2, j2, M', us, rfl, r2, hU2, q3⟩ := hd
    obtain ⟨U3, j3, k1, k2, k3, k4⟩ := r.back (fk := fk) (p := p) r2 hn hks hU2 hfr ha hp
    exact ⟨U3, j3, M', k1, k2, k3, ofList_rep hy (All2.mapL.2 (q3.imp fun _ _ h => h.ren k4))⟩

theorem told_call {f : FuncId} {g : List PVal → Option (List PVal)} (hg : ToldOK P f g) (r : RH X U j M h ar w) {fk : Nat} {args : List AV} {ps vs : List PVal} {ks : List Nat} (h1 : snapAll h args = some ps) (h2 : reachAll h (args.flatMap AV.refs) = some ks) (h3 : g ps = some vs)
    {xs : Array Value} (hx : All2 (ARep U j M (bsz w)) args xs.toList) {y : AV} (hy : AV.ofList (vs.map AV.ofPVal) = some y) : Calls P f xs w (Ret (After X U j M h ar w fk y (if (ks.isEmpty || vs.all fun v => (AV.ofPVal v).scalar) = true then [] else freezeUpd h ks))) := by
  obtain ⟨g1, g2, g3⟩ := reachAll_spec h2
  have hp := snap_all r g1 hx h1 g2
  obtain ⟨r4, e4⟩ := r.freeze ks
  refine (hg ps vs h3 _ w xs r4.mem hp).mono fun e w' hd => ?_
  cases e with
  | panicked c => exact hd
  | outgrown => exact hd
  | returned v =>
    obtain ⟨M', us, rfl, q1, q2, q3, q4, q5, q6, q7⟩ := hd
    by_cases c : (ks.isEmpty || vs.all fun v => (AV.ofPVal v).scalar) = true
    · rw [if_pos c]
      by_cases hk : ks.isEmpty = true
      · have : ks = [] := by simpa using hk
        subst this
        obtain ⟨r5, e5⟩ := r4.later q5 q6 q7 q2 q3 q4
        exact ⟨U, j, M', fun _ hk => .inl hk, r5, e4.trans e5, ofList_rep hy (ofPVals_rep q1)⟩
      · simp only [hk, Bool.false_or] at c
        obtain ⟨r5, e5⟩ := r.later q5 q6 q7 (Mem.le_refl M) (fun _ _ _ h => .inl h) (fun b o v hv => q4 b o v (q2 b o v (fz_le ks b o v hv)))
        refine ⟨U, j, M, fun _ hk => .inl hk, r5, e5, ofList_rep hy (ofPVals_rep ?_)⟩
        clear h3 hy
        generalize us.toList = l at q1
        induction vs generalizing l with
        | nil => cases l <;> first | trivial | exact q1.elim
        | cons c' cs ih =>
          cases l with
          | nil => exact q1.elim
          | cons v l =>
            simp only [List.all_cons, Bool.and_eq_true] at c
            exact ⟨scalars_rep c.1 q1.1, ih c.2 l q1.2⟩
    · rw [if_neg c]
      obtain ⟨r5, e5⟩ := r4.later q5 q6 q7 q2 q3 q4
      exact ⟨U, j, M', fun _ hk => .inl hk, r5, e4.trans e5, ofList_rep hy (ofPVals_rep q1)⟩

/-- A call does as it is done here. -/
theorem call_sound (hF : Fits P F) (hb : BodyOK P rec) {s : St} (r : RH X U j M s.hp s.ar w) {fk : Nat} (hfr : ∀ k, fk ≤ k → k < fk + stride → ¬ U k) (ha : s.ar ≤ fk) {f : FuncId} {args : List AV} {xs : Array Value} (hx : All2 (ARep U j M (bsz w)) args xs.toList) {y : AV} {u : Upd} (hs : doCall F rec s fk f args = some (y, u)) :
    Calls P f xs w (Ret (After X U j M s.hp s.ar w fk y u)) := by
  unfold doCall at hs
  split at hs
  · cases hs
  · rename_i fn hfn
    obtain ⟨fu, c, hfu, _, hbody, hprim, htold, htoldH, _⟩ := hF f fn hfn
    have nop : fn.mode.runs = true → ∀ fn', F f = some fn' → fn'.mode.runs = true := fun h fn' e => by rw [hfn] at e; injection e with e; subst e; exact h
    split at hs
    · rename_i p hp
      have := hprim p hp X U j M s.hp s.ar w fk args xs y u r hfr ha hx hs
      rwa [After.def] at this
    · rename_i g hmode
      split at hs
      · rename_i ps ks h1 h2
        split at hs
        · rename_i vs h3
          simp only [Option.map_eq_some_iff] at hs
          obtain ⟨y', hy, hs⟩ := hs
          injection hs with e1 e2; subst e1 e2
          exact told_call (htold g hmode) r h1 h2 h3 hx hy
        · cases hs
      · cases hs
    · rename_i g hmode
      split at hs
      · rename_i ks hks
        split at hs
        · rename_i vs h' p h3
          split at hs
          · rename_i hle
            simp only [Option.map_eq_some_iff] at hs
            obtain ⟨y', hy, hs⟩ := hs
            injection hs with e1 e2; subst e1 e2
            exact heap_back r hfr ha hks hle hx (fun q1 q2 => htoldH g hmode _ _ _ vs h' p h3 _ M w xs q1 q2) hy
          · cases hs
        · cases hs
      · cases hs
    · rename_i hmode
      have hm := nop (by rw [hmode]; rfl)
      split at hs
      · rename_i ks hks
        split at hs
        · rename_i vs h' p h3
          split at hs
          · rename_i hle
            simp only [Option.map_eq_some_iff] at hs
            obtain ⟨y', hy, hs⟩ := hs
            injection hs with e1 e2; subst e1 e2
            exact heap_back r hfr ha hks hle hx (fun q1 q2 => icall_sound hF hb hm h3 q1 q2) hy
          · cases hs
        · cases hs
      · cases hs
    · rename_i hmode
      have hm := nop (by rw [hmode]; rfl)
      split at hs
      · rename_i ps ks h1 h2
        split at hs
        · rename_i vs h3
          split at hs
          · rename_i h4
            simp only [Option.map_eq_some_iff] at hs
            obtain ⟨y', hy, hs⟩ := hs
            injection hs with e1 e2; subst e1 e2
            exact borrow_call hF hb r hm h1 h2 h3 h4 hx hy
          · cases hs
        · cases hs
      · cases hs
    · rename_i hmode
      have hm := nop (by rw [hmode]; rfl)
      split at hs
      · rename_i ps ks h1 h2
        split at hs
        · rename_i vs h3
          simp only [Option.map_eq_some_iff] at hs
          obtain ⟨y', hy, hs⟩ := hs
          injection hs with e1 e2; subst e1 e2
          exact freeze_call hF hb r hm h1 h2 h3 hx hy
        · cases hs
      · cases hs

end

end Gv
