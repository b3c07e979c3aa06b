/- Tenth part: each operation that is no call, by what it was made from. -/
import Derived.Test.YtnjnlkaagfihbaaAOps9
set_option linter.all false
namespace Gv
open Go

section
variable {X : Ctx} {U : Nat → Prop} {j : Nat → Option Nat} {M : Mem} {ar : Nat} {w : World} {fk : Nat} {P : Program}

theorem info_cells {e : TypeId} (h : P.cellsOf e ≠ 0) : ∃ i, P.info? e = some i := by
  cases hi : P.info? e with
  | none => simp [Program.cellsOf, hi] at h
  | some i => exact ⟨i, rfl⟩

theorem opt_rep {S : Nat → Nat} {s : St} {ρ : Operand → Value} (hρ : ∀ {x : Operand} {y : Opd}, cOpd x = some y → ARep U j M S (s.ev y) (ρ x)) {x : Option Operand} {y : Option Opd} (h : cOpt x = some y) : OptRep U j M S (y.map s.ev) (x.map ρ) := by
  cases x with
  | none => simp [cOpt] at h; subst h; trivial
  | some x =>
    simp only [cOpt, Option.map_eq_some_iff] at h
    obtain ⟨c, hc, rfl⟩ := h
    exact hρ hc

theorem opds_rep2 {S : Nat → Nat} {s : St} {ρ : Operand → Value} (hρ : ∀ {x : Operand} {y : Opd}, cOpd x = some y → ARep U j M S (s.ev y) (ρ x)) : ∀ {l : List Operand} {ys : List Opd}, cOpds l = some ys → All2 (ARep U j M S) (ys.map s.ev) (l.map ρ)
  | [], ys, h => by simp [cOpds] at h; subst h; trivial
  | x :: l, ys, h => by
    simp only [cOpds] at h
    split at h
    · rename_i c cs h1 h2
      injection h with h; subst h
      exact ⟨hρ h1, opds_rep2 hρ h2⟩
    · cases h

theorem run_ofValue (f : FuncId) (args : Array Value) (vs : Array Value) : (Deferred.ofValue (.func (.func f) #[] vs) args).run P w = .ok { target := .fn (.func f) vs, args } w := by
  simp [Deferred.ofValue]

theorem isAgg_cases {t : TypeId} {d : TypeDesc} (h : P.underlying t = some d) (hd : (∃ fs, d = .struct fs) ∨ ∃ n e, d = .array n e) : isAggT P t = some true := by
  rw [isAgg_und h]; rcases hd with ⟨fs, rfl⟩ | ⟨n, e, rfl⟩ <;> rfl

theorem bin_sound {s : St} (r : RH X U j M s.hp s.ar w) {ρ : Operand → Value} (hρ : ∀ {x : Operand} {y : Opd}, cOpd x = some y → ARep U j M (bsz w) (s.ev y) (ρ x)) {op : BinOp} {t : TypeId} {xo yo : Operand} {v : VOp} (hc : cBin P op t xo yo = some v) {y : AV} {u : Upd} (hs : step s fk v = some (y, u)) :
    Done X U j M s.hp s.ar w fk ((do Pure.pure (.value (← (do eqGuard op t xo yo (ρ xo) (ρ yo); binOp op t (ρ xo) (ρ yo)))) : Sem Next).run P w) y u := by
  unfold cBin at hc
  split at hc
  · rename_i x' y' hx hy
    have plain : v = .bin op x' y' → Done X U j M s.hp s.ar w fk ((do Pure.pure (.value (← (do eqGuard op t xo yo (ρ xo) (ρ yo); binOp op t (ρ xo) (ρ yo)))) : Sem Next).run P w) y u := by
      intro e; subst e
      simp only [step, st_bin, st_box, st_un, st_clo, Option.map_eq_some_iff] at hs
      obtain ⟨pv, h1, h2⟩ := hs
      injection h2 with e1 e2; subst e1 e2
      exact do_bin r (hρ hx) (hρ hy) h1
    have agg : ∀ d, P.underlying t = some d → ((∃ fs, d = .struct fs) ∨ ∃ n e, d = .array n e) → (if P.eqGuardType P.depth t = false then
        match op, flatK P flatDepth t with
        | .eql, some ks => some (VOp.eqa ks false x' y')
        | .neq, some ks => some (.eqa ks true x' y')
        | _, _ => none
      else none) = some v → Done X U j M s.hp s.ar w fk ((do Pure.pure (.value (← (do eqGuard op t xo yo (ρ xo) (ρ yo); binOp op t (ρ xo) (ρ yo)))) : Sem Next).run P w) y u := by
      intro d hd hd' hc
      split at hc
      · rename_i hg
        split at hc
        · rename_i ks hk _
          injection hc with hc; subst hc
          exact do_eqa (neg := false) r (isAgg_cases hd hd') hg hk (hρ hx) (hρ hy) hs
        · rename_i ks hk _
          injection hc with hc; subst hc
          exact do_eqa (neg := true) r (isAgg_cases hd hd') hg hk (hρ hx) (hρ hy) hs
        · cases hc
      · cases hc
    split at hc
    · injection hc with hc; exact plain hc.symm
    · injection hc with hc; exact plain hc.symm
    · rename_i fs hd; exact agg _ hd (.inl ⟨_, rfl⟩) hc
    · rename_i n e hd; exact agg _ hd (.inr ⟨_, _, rfl⟩) hc
    · split at hc
      · simp only [Option.map_eq_some_iff] at hc
        obtain ⟨c, h1, rfl⟩ := hc
        exact do_eqv (neg := false) r h1 (hρ hx) (hρ hy) hs
      · simp only [Option.map_eq_some_iff] at hc
        obtain ⟨c, h1, rfl⟩ := hc
        exact do_eqv (neg := true) r h1 (hρ hx) (hρ hy) hs
      · cases hc
  · cases hc

theorem conv_sound {s : St} (r : RH X U j M s.hp s.ar w) (hf : ¬ U fk) (ha : s.ar ≤ fk) {ρ : Operand → Value} (hρ : ∀ {x : Operand} {y : Opd}, cOpd x = some y → ARep U j M (bsz w) (s.ev y) (ρ x)) {t d : TypeId} {xo : Operand} {v : VOp} (hc : cConv P t d xo = some v) {y : AV} {u : Upd} (hs : step s fk v = some (y, u)) :
    Done X U j M s.hp s.ar w fk ((do Pure.pure (.value (← convert t d (ρ xo))) : Sem Next).run P w) y u := by
  unfold cConv at hc
  split at hc
  · rename_i x' _ k hx h1 h2
    injection hc with hc; subst hc
    exact do_conv r h1 h2 (hρ hx) hs
  · rename_i x' hx h1 h2
    injection hc with hc; subst hc
    exact do_same r h1 h2 (hρ hx) hs
  · rename_i x' e hx h1 h2
    split at hc
    · rename_i h3
      injection hc with hc; subst hc
      exact do_b2s r h1 h2 h3 (hρ hx) hs
    · cases hc
  · rename_i x' e hx h1 h2
    split at hc
    · rename_i h3
      split at hc
      · injection hc with hc; subst hc
        exact do_s2b r hf ha h1 h2 h3 (hρ hx) hs
      · cases hc
    · cases hc
  · rename_i x' e hx h1 h2
    injection hc with hc; subst hc
    exact do_uptr r (.inl ⟨h1, h2⟩) (hρ hx) hs
  · rename_i x' e hx h1 h2
    injection hc with hc; subst hc
    exact do_uptr r (.inr ⟨h1, h2⟩) (hρ hx) hs
  · cases hc

theorem cBuild_form {t : TypeId} {ps : Array (Nat × Operand)} {v : VOp} (h : cBuild P t ps = some v) : ∃ z qs, v = .build z qs := by
  unfold cBuild at h
  split at h
  · cases h
  · split at h
    · split at h
      · simp only [Option.map_eq_some_iff] at h
        obtain ⟨qs, _, rfl⟩ := h; exact ⟨_, _, rfl⟩
      · cases h
    · split at h
      · simp only [Option.map_eq_some_iff] at h
        obtain ⟨qs, _, rfl⟩ := h; exact ⟨_, _, rfl⟩
      · cases h
    · cases h

theorem two {α : Type} {R : α → Value → Prop} {a b : α} {vs : Array Value} (h : All2 R [a, b] vs.toList) : ∃ v u, vs = #[v, u] ∧ R a v ∧ R b u := by
  match hv : vs.toList, h with
  | [v, u], h => exact ⟨v, u, by apply Array.ext'; rw [hv], h.1, h.2.1⟩
  | [], h => exact h.elim
  | [_], h => exact h.2.elim
  | _ :: _ :: _ :: _, h => exact h.2.2.elim
theorem one {α : Type} {R : α → Value → Prop} {a : α} {vs : Array Value} (h : All2 R [a] vs.toList) : ∃ v, vs = #[v] ∧ R a v := by
  match hv : vs.toList, h with
  | [v], h => exact ⟨v, by apply Array.ext'; rw [hv], h.1⟩
  | [], h => exact h.elim
  | _ :: _ :: _, h => exact h.2.elim

theorem builtin_sound {s : St} (r : RH X U j M s.hp s.ar w) (hf : ¬ U fk) (ha : s.ar ≤ fk) {ρ : Operand → Value} (hρ : ∀ {x : Operand} {y : Opd}, cOpd x = some y → ARep U j M (bsz w) (s.ev y) (ρ x)) {b : Builtin} {ts : Array TypeId} {args : Array Operand} {v : VOp} (hc : cBuiltin P b ts args.toList = some v) (ty : TypeId) (cs : Array Bool) {y : AV} {u : Upd} (hs : step s fk v = some (y, u)) :
    Done X U j M s.hp s.ar w fk ((builtin b ts ty cs (args.map ρ)).run P w) y u := by
  unfold cBuiltin at hc
  split at hc
  · rename_i x hx
    have hr := opds_rep2 (S := bsz w) hρ hx
    obtain ⟨v1, e, hv1⟩ := one (vs := args.map ρ) (by simpa using hr)
    rw [e]
    split at hc
    · rename_i ht
      obtain ⟨t, h0, ht⟩ := Option.bind_eq_some_iff.1 ht
      injection hc with hc; subst hc
      exact do_lenstr r h0 ht ty hv1 hs
    · rename_i ht
      obtain ⟨t, h0, ht⟩ := Option.bind_eq_some_iff.1 ht
      injection hc with hc; subst hc
      exact do_lensl r h0 ht ty hv1 hs
    · rename_i ht
      obtain ⟨t, h0, ht⟩ := Option.bind_eq_some_iff.1 ht
      injection hc with hc; subst hc
      exact do_lenmap r h0 ht hv1 hs
    · rename_i n _ ht
      obtain ⟨t, h0, ht⟩ := Option.bind_eq_some_iff.1 ht
      injection hc with hc; subst hc
      simp only [step, st_mov, st_alloc, st_mkmap, st_lenarr] at hs
      injection hs with hs; injection hs with e1 e2; subst e1 e2
      exact do_lenarr r h0 ht ty v1
    · cases hc
  · rename_i x1 x2 hx
    have hr := opds_rep2 (S := bsz w) hρ hx
    obtain ⟨v1, v2, e, hv1, hv2⟩ := two (vs := args.map ρ) (by simpa using hr)
    rw [e]
    split at hc
    · rename_i e' d h0 h1
      obtain ⟨t0, h0, ht0⟩ := Option.bind_eq_some_iff.1 h0
      obtain ⟨t1, h1, ht1⟩ := Option.bind_eq_some_iff.1 h1
      split at hc
      · cases hc
      · rename_i hni
        split at hc
        · rename_i hcond
          obtain ⟨c1, c2, c3, c4⟩ := hcond
          injection hc with hc; subst hc
          obtain ⟨z, hz⟩ := Option.isSome_iff_exists.1 c4
          obtain ⟨i, zv, hi, hzv, hl, hcs⟩ := zeroC_rep hz
          have hzl := (constCs_rep (U := U) (j := j) (M := M) (S := bsz w) hcs).len
          have hA : AppT P ts e' (P.cellsOf e') := ⟨⟨t0, h0, ht0⟩, ⟨t1, d, h1, ht1, fun k => hni k⟩, rfl, c1, c2, c3, ⟨i, zv, hi, hzv, by simp at hzl; omega⟩⟩
          exact do_app r hf ha hA ty hv1 hv2 hs
        · cases hc
    · cases hc
  · rename_i x l hx
    injection hc with hc; subst hc
    have hr := opds_rep2 (S := bsz w) hρ hx
    exact do_mx r ts ty (by simpa using hr) hs
  · rename_i x l hx
    injection hc with hc; subst hc
    have hr := opds_rep2 (S := bsz w) hρ hx
    exact do_mn r ts ty (by simpa using hr) hs
  · rename_i x hx
    injection hc with hc; subst hc
    have hr := opds_rep2 (S := bsz w) hρ hx
    obtain ⟨v1, e, hv1⟩ := one (vs := args.map ρ) (by simpa using hr)
    rw [e]
    exact do_sdata r ts ty hv1 hs
  · rename_i x n hx
    have hr := opds_rep2 (S := bsz w) hρ hx
    obtain ⟨v1, v2, e, hv1, hv2⟩ := two (vs := args.map ρ) (by simpa using hr)
    rw [e]
    split at hc
    · rename_i e' h0
      obtain ⟨t0, h0, ht0⟩ := Option.bind_eq_some_iff.1 h0
      split at hc
      · split at hc
        · rename_i hc1
          injection hc with hc; subst hc
          exact do_ustr r h0 ht0 hc1 ty hv1 hv2 hs
        · cases hc
      · cases hc
    · cases hc
  · rename_i m k hx
    have hr := opds_rep2 (S := bsz w) hρ hx
    obtain ⟨v1, v2, e, hv1, hv2⟩ := two (vs := args.map ρ) (by simpa using hr)
    rw [e]
    split at hc
    · rename_i k' _ h0
      obtain ⟨t0, h0, ht0⟩ := Option.bind_eq_some_iff.1 h0
      simp only [Option.map_eq_some_iff] at hc
      obtain ⟨kt, hk, rfl⟩ := hc
      exact do_delm r ht0 hk hv1 hv2 h0 hs
    · cases hc
  · rename_i x hx
    have hr := opds_rep2 (S := bsz w) hρ hx
    obtain ⟨v1, e, hv1⟩ := one (vs := args.map ρ) (by simpa using hr)
    rw [e]
    split at hc
    · rename_i e' h0
      obtain ⟨t0, h0, ht0⟩ := Option.bind_eq_some_iff.1 h0
      simp only [Option.map_eq_some_iff] at hc
      obtain ⟨z, hz, rfl⟩ := hc
      exact do_clr r h0 ht0 hz rfl ty hv1 hs
    · cases hc
  · cases hc

/-- What a call stands for, if it is one of a function with a body. -/
def isCall : VOp → Bool
  | .call _ _ | .callv _ _ => true
  | _ => false

theorem step_sound {s : St} (r : RH X U j M s.hp s.ar w) (hf : ¬ U fk) (ha : s.ar ≤ fk) {ρ : Operand → Value} (hρ : ∀ {x : Operand} {y : Opd}, cOpd x = some y → ARep U j M (bsz w) (s.ev y) (ρ x)) (hfn : ∀ f, ρ (.func f) = .func (.func f) #[] #[])
    {o : Oper} {v : VOp} (hc : cOp P o = some v) {y : AV} {u : Upd} (hs : step s fk v = some (y, u)) : Done X U j M s.hp s.ar w fk ((execOp ρ o).run P w) y u := by
  unfold cOp at hc
  unfold execOp
  split at hc
  · rename_i x ho
    rw [ho]
    simp only [Option.map_eq_some_iff] at hc
    obtain ⟨c, hx, rfl⟩ := hc
    simp only [step, st_mov, st_alloc, st_mkmap, st_lenarr] at hs
    injection hs with hs; injection hs with e1 e2; subst e1 e2
    exact Done.val r (hρ hx)
  · rename_i x ho
    rw [ho]
    simp only [Option.map_eq_some_iff] at hc
    obtain ⟨c, hx, rfl⟩ := hc
    simp only [step, st_mov, st_alloc, st_mkmap, st_lenarr] at hs
    injection hs with hs; injection hs with e1 e2; subst e1 e2
    exact Done.val r (hρ hx)
  · rename_i c a b ho
    rw [ho]
    split at hc
    · rename_i c' a' b' h1 h2 h3
      injection hc with hc; subst hc
      exact do_pick r (hρ h1) (hρ h2) (hρ h3) hs
    · cases hc
  · rename_i e ho
    rw [ho]
    simp only [Option.map_eq_some_iff] at hc
    obtain ⟨z, hz, rfl⟩ := hc
    simp only [step, st_mov, st_alloc, st_mkmap, st_lenarr] at hs
    injection hs with hs; injection hs with e1 e2; subst e1 e2
    exact do_alloc r hf ha hz
  · rename_i e x ho
    rw [ho]
    simp only [Option.map_eq_some_iff] at hc
    obtain ⟨c, hx, rfl⟩ := hc
    simp only [step, st_bin, st_box, st_un, st_clo, Option.map_eq_some_iff] at hs
    obtain ⟨cs, hcs, hs⟩ := hs
    injection hs with e1 e2; subst e1 e2
    exact do_box r hf ha (hρ hx) hcs
  · rename_i t ps ho
    rw [ho]
    obtain ⟨z, qs, rfl⟩ := cBuild_form hc
    exact do_build r hc hρ hs
  · rename_i t len ps ho
    rw [ho]
    split at hc
    · rename_i e ht
      split at hc
      · rename_i z qs hz hq
        split at hc
        · rename_i hcond
          injection hc with hc; subst hc
          exact do_bsl r hf ha ht hz hq hcond.1 hcond.2 hρ hs
        · cases hc
      · cases hc
    · cases hc
  · rename_i t a ho
    rw [ho]
    split at hc
    · rename_i a' g h1 h2
      split at hc
      · rename_i h3
        injection hc with hc; subst hc
        exact do_load r h2 h3 (hρ h1) hs
      · cases hc
    · cases hc
  · rename_i t a x ho
    rw [ho]
    split at hc
    · rename_i a' x' i h1 h2 h3
      injection hc with hc; subst hc
      exact do_store r ⟨i, h3⟩ (hρ h1) (hρ h2) hs
    · cases hc
  · rename_i x ho
    simp only [Option.map_eq_some_iff] at hc
    obtain ⟨c, hx, rfl⟩ := hc
    exact do_nilchk r (hρ hx) hs ho rfl
  · rename_i op t x y' _ ho
    rw [ho]
    exact bin_sound r hρ hc hs
  · rename_i op _ x ho
    rw [ho]
    simp only [Option.map_eq_some_iff] at hc
    obtain ⟨c, hx, rfl⟩ := hc
    simp only [step, st_bin, st_box, st_un, st_clo, Option.map_eq_some_iff] at hs
    obtain ⟨pv, h1, hs⟩ := hs
    injection hs with e1 e2; subst e1 e2
    exact do_un r (hρ hx) h1
  · rename_i t d x ho
    rw [ho]
    exact conv_sound r hf ha hρ hc hs
  · rename_i f caps ho
    rw [ho]
    simp only [Option.map_eq_some_iff] at hc
    obtain ⟨cs, hx, rfl⟩ := hc
    have hr := opds_rep2 (S := bsz w) hρ hx
    simp only [step, st_bin, st_box, st_un, st_clo, Option.map_eq_some_iff] at hs
    obtain ⟨l, h1, hs⟩ := hs
    injection hs with e1 e2; subst e1 e2
    have h2 : mapO (fun x => match x with | AV.r (.ptr k o) => some (k, o) | _ => none) (cs.map s.ev) = some l := by
      clear hr hx
      induction cs generalizing l with
      | nil => simpa [mapO] using h1
      | cons c cs ih =>
        simp only [mapO, List.map_cons] at h1 ⊢
        split at h1
        · rename_i a b ha hb
          injection h1 with h1; subst h1
          rw [ih _ hb]
          rw [show (match s.ev c with | AV.r (.ptr k o) => some (k, o) | _ => none) = some a from ha]
        · cases h1
    have e0 : Array.map ρ ⟨[]⟩ = #[] := by simp
    show Done X U j M s.hp s.ar w fk ((do Pure.pure (.value (← Instr.makeFunc (.func f) (Array.map ρ ⟨[]⟩) (caps.map ρ))) : Sem Next).run P w) _ _
    rw [e0]
    exact do_clo r f (l := cs.map s.ev) (vs := caps.map ρ) (by simpa using hr) h2
  · rename_i t ho
    rw [ho]
    injection hc with hc; subst hc
    simp only [step, st_mov, st_alloc, st_mkmap, st_lenarr] at hs
    injection hs with hs; injection hs with e1 e2; subst e1 e2
    exact do_mkmap r hf ha
  · rename_i t l c ho
    rw [ho]
    split at hc
    · rename_i e l' c' ht h1 h2
      split at hc
      · rename_i z hz
        split at hc
        · rename_i hcond
          injection hc with hc; subst hc
          exact do_mksl r hf ha ht hz rfl hcond.1 hcond.2 (hρ h1) (hρ h2) hs
        · cases hc
      · cases hc
    · cases hc
  · rename_i t x lo hi ho
    rw [ho]
    split at hc
    · rename_i x' lo' hi' h1 h2 h3
      have g2 := opt_rep (S := bsz w) hρ h2
      have g3 := opt_rep (S := bsz w) hρ h3
      split at hc
      · rename_i ht
        injection hc with hc; subst hc
        exact do_substr r ht (hρ h1) g2 g3 hs
      · rename_i e ht
        split at hc
        · rename_i hz
          injection hc with hc; subst hc
          exact do_subsl r ht (info_cells hz) rfl (hρ h1) g2 g3 hs
        · cases hc
      · rename_i n e ht
        split at hc
        · rename_i hz
          injection hc with hc; subst hc
          exact do_subarr r (info_cells hz) rfl (.inl ht) (hρ h1) g2 g3 hs
        · cases hc
      · rename_i a ht
        split at hc
        · rename_i n e hta
          split at hc
          · rename_i hz
            injection hc with hc; subst hc
            exact do_subarr r (info_cells hz) rfl (.inr ⟨a, ht, hta⟩) (hρ h1) g2 g3 hs
          · cases hc
        · cases hc
      · cases hc
    · cases hc
  · rename_i t x f ho
    rw [ho]
    split at hc
    · rename_i fs x' ht h1
      split at hc
      · rename_i g hg
        split at hc
        · rename_i hz
          injection hc with hc; subst hc
          exact do_faddr r ht hg hz (hρ h1) hs
        · cases hc
      · cases hc
    · cases hc
  · rename_i t x f ho
    rw [ho]
    split at hc
    · rename_i fs x' ht h1
      split at hc
      · rename_i g hg
        split at hc
        · rename_i a ha'
          split at hc
          · rename_i hz
            injection hc with hc; subst hc
            exact do_field r ht hg ha' hz (hρ h1) hs
          · cases hc
        · cases hc
      · cases hc
    · cases hc
  · rename_i t x i ho
    rw [ho]
    split at hc
    · rename_i e x' i' ht h1 h2
      split at hc
      · rename_i hz
        injection hc with hc; subst hc
        exact do_iaddr r ht (info_cells hz) rfl (hρ h1) (hρ h2) hs
      · cases hc
    · rename_i n e x' i' ht h1 h2
      split at hc
      · rename_i hz
        injection hc with hc; subst hc
        exact do_aaddr r ht (info_cells hz) (hρ h1) (hρ h2) hs
      · cases hc
    · cases hc
  · rename_i t x i ho
    rw [ho]
    split at hc
    · rename_i x' i' ht h1 h2
      injection hc with hc; subst hc
      exact do_sidx r ht (hρ h1) (hρ h2) hs
    · rename_i n e x' i' ht h1 h2
      split at hc
      · rename_i g hg
        split at hc
        · rename_i hz
          injection hc with hc; subst hc
          exact do_aidx r ht hg hz (hρ h1) (hρ h2) hs
        · cases hc
      · cases hc
    · cases hc
  · rename_i t m k ok ho
    rw [ho]
    split at hc
    · rename_i kt et m' k' ht h1 h2
      split at hc
      · rename_i kt' z hk hz
        obtain ⟨ei, hei, hez⟩ := Option.bind_eq_some_iff.1 hz
        simp only [Option.map_eq_some_iff] at hc
        obtain ⟨zero, h3, rfl⟩ := hc
        exact do_look r ht hk hei hez h3 (hρ h1) (hρ h2) hs
      · cases hc
    · cases hc
  · rename_i t m k x ho
    rw [ho]
    split at hc
    · rename_i kt _ m' k' x' ht h1 h2 h3
      simp only [Option.map_eq_some_iff] at hc
      obtain ⟨kt', hk, rfl⟩ := hc
      exact do_mapupd r ht hk (hρ h1) (hρ h2) (hρ h3) hs
    · cases hc
  · rename_i x i ho
    rw [ho]
    simp only [Option.map_eq_some_iff] at hc
    obtain ⟨c, hx, rfl⟩ := hc
    exact do_extr r (hρ hx) hs
  · rename_i c ho
    rw [ho]
    split at hc
    · rename_i b hb
      have : ∃ cs, (resolve ρ c o.type).run P w = .ok { target := .builtin b c.argTypes o.type cs, args := c.args.map ρ } w := by
        simp [resolve, hb]
      obtain ⟨cs, this⟩ := this
      simp only [Sem.run_bind, this, Result.andThen_ok, invoke]
      exact builtin_sound r hf ha hρ hc _ _ hs
    · rename_i f hb
      split at hc
      · rename_i fn args hfn' hargs
        split at hc
        · cases hc
        · rename_i h1
          split at hc
          · rename_i h2
            split at hc
            · rename_i h3
              simp only [Option.map_eq_some_iff] at hc
              obtain ⟨e, he, rfl⟩ := hc
              have hr := opds_rep2 (S := bsz w) hρ hargs
              have : (resolve ρ c o.type).run P w = .ok { target := .fn (.func f) #[], args := c.args.map ρ } w := by
                simp [resolve, hb, hfn, Deferred.ofValue]
              simp only [Sem.run_bind, this, Result.andThen_ok, invoke, Array.append_empty]
              exact do_ext r hfn' h1 h2 h3 he (l := args.map s.ev) (by simpa using hr) hs
            · cases hc
          · injection hc with hc; subst hc; simp [step] at hs
      · cases hc
    · split at hc
      · injection hc with hc; subst hc; simp [step] at hs
      · cases hc
    · cases hc
  · cases hc

end

end Gv
