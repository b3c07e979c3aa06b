/- Code: what is run does as it is run. -/
import Derived.Test.YtnjnlkaagfihbaaAOrder
import Derived.Orders
set_option linter.all false
namespace Gv
open Go

section
variable {X : Ctx} {U : Nat → Prop} {j : Nat → Option Nat} {M : Mem} {w : World} {P : Program} {F : Fns} {rec : Rec}

theorem RH.eqv {h h' : Hp} {ar : Nat} (r : RH X U j M h ar w) (e : ∀ k, h.get k = h'.get k) : RH X U j M h' ar w :=
  ⟨fun k b hb => r.hp k b (by rw [e]; exact hb), fun k B hk => by rw [← e]; exact r.dom k B hk, r.inj, r.mem, fun k B m f cs hk hb => r.frz k B m f cs hk (by rw [e]; exact hb), r.own, r.frame, r.sub, r.new, r.size, r.env, r.shape, r.arg⟩

theorem R.eqv {s s' : St} {a : Act} (r : R X U j M s a w) (e : Eqv s s') : R X U j M s' a w :=
  ⟨by rw [← e.ar]; exact r.h.eqv e.hp, ⟨r.t.nt, r.t.le, r.t.df, fun i hi => by rw [← e.tm]; exact r.t.tm i hi⟩⟩

/-- A call that is a call of a function with a body. -/
theorem run_enter {f : FuncId} {fu : Func} {c : Code} (hf : P.funcs[f]? = some fu) (hn : fu.name ≠ "runtime.NumGoroutine") (hb : fu.body = some c) (args : Array Value) : (callFunc f args).run P w = .ok (.enter f args) w := by
  simp [callFunc, hf, hn, hb]

theorem doCall_fits (hF : Fits P F) {s : St} {fk : Nat} {f : FuncId} {args : List AV} {y : AV} {u : Upd} (hs : doCall F rec s fk f args = some (y, u)) (xs : Array Value) : (callFunc f xs).run P w = .ok (.enter f xs) w := by
  unfold doCall at hs
  split at hs
  · cases hs
  · rename_i fn hfn
    obtain ⟨fu, c, h1, h2, h3, _⟩ := hF f fn hfn
    exact run_enter h1 h2 h3 xs

theorem put_put {s : St} {u : Upd} {dst : Option Reg} {v : AV} : ({ s with hp := s.hp.upd u }.put dst v).hp = s.hp.upd u ∧ ({ s with hp := s.hp.upd u }.put dst v).ar = s.ar ∧ ({ s with hp := s.hp.upd u }.put dst v).nx = s.nx := by
  cases dst <;> exact ⟨rfl, rfl, rfl⟩

theorem R.step {s : St} {a : Act} {w' : World} {U' : Nat → Prop} {j' : Nat → Option Nat} {M' : Mem} (r : R X U j M s a w) {u : Upd} {dst : Option Tmp} (hd : ∀ d, dst = some d → d < X.nt) {v : AV} {x : Value} (rh : RH X U' j' M' (s.hp.upd u) s.ar w') (ev : Ev U j M (bsz w) U' j' M' (bsz w')) (hv : ARep U' j' M' (bsz w') v x) :
    R X U' j' M' ({ s with hp := s.hp.upd u }.put (dst.map path) v) (a.put dst x) w' := by
  have t' := r.t.ev ev
  cases dst with
  | none => exact ⟨rh, t'⟩
  | some d => exact ⟨rh, t'.put d (hd d rfl) hv⟩

theorem cBuiltin_nocall {b : Builtin} {ts : Array TypeId} {args : List Operand} {v : VOp} (hc : cBuiltin P b ts args = some v) : isCall v = false := by
  unfold cBuiltin at hc
  repeat' split at hc
  all_goals first
    | (cases hc; done)
    | (injection hc with hc; subst hc; rfl)
    | (simp only [Option.map_eq_some_iff] at hc; obtain ⟨_, _, rfl⟩ := hc; rfl)

theorem cBin_nocall {o : BinOp} {t : TypeId} {x y : Operand} {v : VOp} (hc : cBin P o t x y = some v) : isCall v = false := by
  unfold cBin at hc
  repeat' split at hc
  all_goals first
    | (cases hc; done)
    | (injection hc with hc; subst hc; rfl)
    | (simp only [Option.map_eq_some_iff] at hc; obtain ⟨_, _, rfl⟩ := hc; rfl)

theorem cConv_nocall {s d : TypeId} {x : Operand} {v : VOp} (hc : cConv P s d x = some v) : isCall v = false := by
  unfold cConv at hc
  repeat' split at hc
  all_goals first
    | (cases hc; done)
    | (injection hc with hc; subst hc; rfl)

/-- What comes out as a call was one. -/
theorem cOp_call {o : Oper} {v : VOp} (hc : cOp P o = some v) (hv : isCall v = true) :
    (∃ c f args, o.op = .call c ∧ c.callee = .value (.func f) ∧ cOpds c.args.toList = some args ∧ v = .call f args) ∨
    (∃ c x x' args, o.op = .call c ∧ c.callee = .value x ∧ cOpd x = some x' ∧ cOpds c.args.toList = some args ∧ v = .callv x' args) := by
  have no : isCall v = false → False := fun h => by rw [hv] at h; cases h
  unfold cOp at hc
  split at hc
  case h_25 c ho =>
    split at hc
    · exact (no (cBuiltin_nocall hc)).elim
    · rename_i f hb
      split at hc
      · rename_i fn args h1 h2
        split at hc
        · cases hc
        · split at hc
          · split at hc
            · simp only [Option.map_eq_some_iff] at hc
              obtain ⟨_, _, rfl⟩ := hc
              exact (no rfl).elim
            · cases hc
          · injection hc with hc
            exact .inl ⟨c, f, args, ho, hb, h2, hc.symm⟩
      · cases hc
    · rename_i x hb hx
      split at hc
      · rename_i x' args h1 h2
        injection hc with hc
        exact .inr ⟨c, _, x', args, ho, hx, h1, h2, hc.symm⟩
      · cases hc
    · cases hc
  all_goals exfalso; apply no
  all_goals first
    | (exact cBin_nocall hc)
    | (exact cConv_nocall hc)
    | (obtain ⟨z, qs, rfl⟩ := cBuild_form hc; rfl)
    | (repeat' split at hc
       all_goals first
         | (cases hc; done)
         | (injection hc with hc; subst hc; rfl)
         | (simp only [Option.map_eq_some_iff] at hc; obtain ⟨_, _, rfl⟩ := hc; rfl))

/-- One operation. -/
theorem oper_sound (hF : Fits P F) (hb : BodyOK P rec) {s : St} {a : Act} (r : R X U j M s a w) {fk : Nat} (hfr : ∀ k, fk ≤ k → k < fk + stride → ¬ U k) (ha : s.ar ≤ fk) {o : Oper} {vo : VOp} (hc : cOp P o = some vo) (hd : ∀ d, o.dst = some d → d < X.nt) {v : AV} {u : Upd}
    (hs : opStep F rec s fk vo = some (v, u)) {K : Act → World → Prop} {Q : Go.Exit → Act → World → Prop}
    (hK : ∀ U' j' M' a' w', R X U' j' M' ({ s with hp := s.hp.upd u }.put (o.dst.map path) v) a' w' → (∀ k, U' k → U k ∨ (fk ≤ k ∧ k < fk + stride)) → K a' w') : o.wp P a w K Q := by
  have hρ : ∀ {x : Operand} {y : Opd}, cOpd x = some y → ARep U j M (bsz w) (s.ev y) (a.eval x) := fun h => opd_rep r h
  have hfn : ∀ f, a.eval (.func f) = .func (.func f) #[] #[] := fun _ => rfl
  have hf : ¬ U fk := hfr fk (Nat.le_refl _) (by unfold stride; omega)
  have call : ∀ (f : FuncId) (avs : List AV) (xs : Array Value), (execOp a.eval o).run P w = (callFunc f xs).run P w → All2 (ARep U j M (bsz w)) avs xs.toList → doCall F rec s fk f avs = some (v, u) → o.wp P a w K Q := by
    intro f avs xs hex hx hd'
    unfold Oper.wp
    rw [hex, doCall_fits hF hd' xs, Oper.upon_enter]
    refine (call_sound hF hb r.h hfr ha hx hd').mono fun e w' he => ?_
    cases e with
    | panicked c => exact he.elim
    | outgrown => exact he.elim
    | returned x =>
      obtain ⟨U', j', M', h1, h2, h3, h4⟩ := he
      exact hK U' j' M' _ w' (r.step hd h2 h3 h4) h1
  have plain : step s fk vo = some (v, u) → o.wp P a w K Q := by
    intro hs'
    obtain ⟨nx, w', x, h1, h2, U', j', M', h3, h4, h5, h6⟩ := step_sound r.h hf ha hρ hfn hc hs'
    unfold Oper.wp
    rw [h1]
    rcases h2 with rfl | ⟨rfl, rfl⟩
    · exact hK U' j' M' _ w' (r.step hd h4 h5 h6) h3
    · exact hK U' j' M' _ w' (r.step hd h4 h5 h6) h3
  cases hcall : isCall vo with
  | false => refine plain ?_; cases vo <;> first | exact hs | (simp [isCall] at hcall)
  | true =>
    rcases cOp_call hc hcall with ⟨c, f, args, ho, hb', hargs, rfl⟩ | ⟨c, x, x', args, ho, hb', hx', hargs, rfl⟩
    · have hr := opds_rep r hargs
      simp only [opStep] at hs
      refine call f _ (c.args.map a.eval) ?_ (by simpa using hr) hs
      unfold execOp; rw [ho]
      have : (resolve a.eval c o.type).run P w = .ok { target := .fn (.func f) #[], args := c.args.map a.eval } w := by
        simp [resolve, hb', hfn, Deferred.ofValue]
      simp only [Sem.run_bind, this, Result.andThen_ok, invoke, Array.append_empty]
    · have hr := opds_rep r hargs
      have hx := hρ hx'
      have go : ∀ (f : FuncId) (vs : Array Value) (cl : List AV), a.eval x = .func (.func f) #[] vs → All2 (ARep U j M (bsz w)) cl vs.toList → doCall F rec s fk f (args.map s.ev ++ cl) = some (v, u) → o.wp P a w K Q := by
        intro f vs cl hval hcl hd'
        refine call f _ (c.args.map a.eval ++ vs) ?_ (by simpa using hr.app hcl) hd'
        unfold execOp; rw [ho]
        have : (resolve a.eval c o.type).run P w = .ok { target := .fn (.func f) vs, args := c.args.map a.eval } w := by
          simp [resolve, hb', hval, Deferred.ofValue]
        simp only [Sem.run_bind, this, Result.andThen_ok, invoke]
      simp only [opStep] at hs
      split at hs
      · rename_i f caps e
        rw [e] at hx
        obtain ⟨val, hval⟩ : ∃ val, a.eval x = val := ⟨_, rfl⟩
        rw [hval] at hx
        cases hx with
        | clo _ _ vs hcl =>
          exact go f vs (caps.map fun (k, o) => .r (.ptr k o)) hval (All2.mapL.2 (hcl.imp fun y v hy => by
            obtain ⟨hu, B, rfl, hB⟩ := hy
            exact CRep.ptr _ _ B hu hB)) hs
      · rename_i f e
        rw [e] at hx
        obtain ⟨val, hval'⟩ : ∃ val, a.eval x = val := ⟨_, rfl⟩
        rw [hval'] at hx
        have hval : a.eval x = .func (.func f) #[] #[] := by cases hx; exact hval'
        exact go f #[] [] hval trivial (by simpa using hs)
      · cases hs

end

end Gv
