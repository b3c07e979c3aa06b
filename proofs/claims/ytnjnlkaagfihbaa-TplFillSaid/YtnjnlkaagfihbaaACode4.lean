/- Code. -/
import Derived.Test.YtnjnlkaagfihbaaACode3
set_option linter.all false
namespace Gv
open Go

section
variable {P : Program} {F : Fns}

theorem cOpers_ext {ops : List Oper} : cOpers P ops true = (ops.zip (ancs ops)).map fun (o, an) => cOper P ops an o := rfl

theorem region_sound (hF : Fits P F) (hmix : P.follows .mixedOrders = true) {rec : Rec} (hb : BodyOK P rec) {id : Nat} {ops : Array Oper} {draw : Bool} {nt : Nat} {vd : Bool} {vops : List VOper} (hV : VCode.region vd vops = cCode P nt (.region id ops draw)) (hfine : (VCode.region vd vops).fine = true)
    {X : Ctx} {U : Nat → Prop} {j : Nat → Option Nat} {M : Mem} {s s' : St} {a : Act} {w : World} (hnt : X.nt = nt) (r : R X U j M s a w) (hu : ∀ k, U k → k < s.nx) (har : s.ar ≤ s.nx) (hrun : runOps F rec vd s.nx 0 vops [] s = some s') {Q : Go.Exit → Act → World → Prop}
    (hQ : ∀ U' j' M' a' w', R X U' j' M' s' a' w' → (∀ k, U' k → k < s.nx + stride * vops.length) → s'.ar = s.ar → Q .normal a' w') : (Code.region id ops draw).wp P Q a w := by
  simp only [cCode] at hV
  split at hV
  · rename_i hc
    injection hV with h1 h2; subst h1 h2
    simp only [Bool.and_eq_true, Bool.or_eq_true, Bool.not_eq_true', List.all_eq_true] at hc
    obtain ⟨hc1, hc2⟩ := hc
    have hd : ∀ (i : Nat) (o : Oper), ops[i]? = some o → ∀ d, o.dst = some d → d < X.nt := fun i o ho d hdd => by
      have := hc2 o (by rw [Array.mem_toList_iff]; exact Array.mem_of_getElem? ho)
      rw [hdd] at this
      rw [hnt]; simpa using this
    cases vd with
    | false =>
      have hl : (cOpers P ops.toList false).length = ops.size := by simp [cOpers]
      refine wp_region ?_
      rw [List.range_eq_range']
      refine ops_sound hF hb ops s.nx Q s' hd ops.size 0 (by omega) U j M s a w r (fun k hk => by have := hu k hk; omega) har (by simpa [cOpers] using hrun) fun U' j' M' a' w' r' hu' ha' _ => ?_
      exact hQ U' j' M' a' w' r' (by rw [hl]; exact hu') ha'
    | true =>
      have hdraw : drawOk ops.toList = true := hc1.resolve_left (by simp)
      have hdr : ∀ (n : Nat) (o : Oper), ops[n]? = some o → ∀ e, e ∈ o.after → Region.binds .any e = true → e.on < n := fun n o ho e he hbe => by
        unfold drawOk at hdraw
        simp only [List.all_eq_true] at hdraw
        have hm : (o, n) ∈ ops.toList.zipIdx := by
          rw [List.mem_iff_getElem?]
          exact ⟨n, by simp [ho]⟩
        have := hdraw (o, n) hm
        simp only [List.all_eq_true] at this
        have := this e (by simpa using he)
        simpa [hbe] using this
      obtain ⟨es, e1, e2, e3, _, e5⟩ := run_trace F rec s.nx (cOpers P ops.toList true) 0 [] s s' hrun
      have hl : (cOpers P ops.toList true).length = ops.size := by
        have : (ancs ops.toList).length = ops.size := by rw [ancs_eq]; have := (ancs_fold ops.toList []).1; simpa using this
        simp [cOpers, this]
      have hf := (fine_pair (cOpers P ops.toList true) [] 0 (by simpa [VCode.fine] using hfine)).2
      have hes : ∀ (n : Nat) (e : Ent), es[n]? = some e → (cOpers P ops.toList true)[n]? = some e.o := fun n e he => by
        rw [← e1, List.getElem?_map, he]; rfl
      have hdrew : R X U j M s a { w with drawn := w.drawn + 1 } := ⟨r.h.same rfl ⟨rfl, rfl, rfl⟩, r.t.ev (Ev.refl _ _ _ _)⟩
      refine wp_region_any hmix ?_
      refine any_sound hF hb ops s.nx Q s es hd hdr (by rw [e1]; rfl) (fun n e he => by have := e3 n e he; simpa using this) (fun n e m e' he he' hlt => ⟨?_, ?_⟩) har ?_ ops.size _ (fun _ => false) U j M a _ (by simp) (fun i hi => by simp [hi]) (fun i h => by simp at h) (fun n o _ h => by simp at h) ?_ ?_ (fun k hk => .inl (hu k hk))
      · have := e5 n e m e' he he' hlt; simpa using this
      · have := hf n e.o m e'.o (hes n e he) (hes m e' he') hlt; simpa using this
      · intro U' j' M' a' w' r' hu'
        rw [← e2] at r'
        refine hQ U' j' M' a' w' r' (by rw [hl]; exact hu') ?_
        rw [e2]
        have : ∀ (es : List Ent) (s : St), (es.foldl (fun s e => e.app s) s).ar = s.ar := by
          intro es
          induction es with
          | nil => intro s; rfl
          | cons e es ih => intro s; simp only [List.foldl_cons]; rw [ih, (app_ar e s).1]
        exact this es s
      · have : ∀ n, left (fun _ => false) n = n := by intro n; induction n with | zero => rfl | succ n ih => simp [left, ih]
        rw [this]; exact Nat.le_refl _
      · have : SD (fun _ => false) 0 es s = s := by
          have : ∀ (es : List Ent) (i : Nat) (s : St), SD (fun _ => false) i es s = s := by
            intro es
            induction es with
            | nil => intro i s; rfl
            | cons e es ih => intro i s; simp [SD, ih]
          exact this es 0 s
        rw [this]; exact hdrew
  · cases hV

theorem exists_min (p : Nat → Prop) (h : ∃ k, p k) : ∃ k, p k ∧ ∀ m, p m → k ≤ m := by
  obtain ⟨k, hk⟩ := h
  induction k using Nat.strongRecOn with
  | _ k ih =>
    by_cases c : ∃ m, m < k ∧ p m
    · obtain ⟨m, h1, h2⟩ := c; exact ih m h1 h2
    · exact ⟨k, hk, fun m hm => Nat.le_of_not_lt fun h => c ⟨m, h, hm⟩⟩

/-- What a piece of code is right by. -/
def Sound (P : Program) (F : Fns) (n : Nat) (C : Code) : Prop :=
  ∀ m, m ≤ n → ∀ (V : VCode) (nt : Nat), V.bare = cCode P nt C → V.fine = true → ∀ (X : Ctx) U j M (s : St) (a : Act) (w : World) (e : Exit) (s' : St), X.nt = nt → R X U j M s a w → (∀ k, U k → k < s.nx) → s.ar ≤ s.nx → execN F (run F m) V s = some (e, s') →
    ∀ Q : Go.Exit → Act → World → Prop, (∀ U' j' M' a' w', R X U' j' M' s' a' w' → (∀ k, U' k → k < s'.nx) → s'.ar = s.ar → s'.ar ≤ s'.nx → Q (exitOf e) a' w') → C.wp P Q a w

theorem loop_sound {n : Nat} {c : Code} (hS : Sound P F n c) : Sound P F n (.loop c) := by
  intro m hm V nt hV hfine X U j M s a w e s' hnt r hu har hrun Q hQ
  simp only [cCode] at hV
  cases V <;> simp only [VCode.bare] at hV <;> try (cases hV; done)
  rename_i mk c'
  injection hV with _ hV
  simp only [VCode.fine] at hfine
  let I' : Act → World → Nat → Prop := fun a w k => k ≤ n ∧ ∃ U j M s1, R X U j M s1 a w ∧ (∀ q, U q → q < s1.nx) ∧ s1.ar ≤ s1.nx ∧ s1.ar = s.ar ∧ execN F (run F k) (.loop mk c') s1 = some (e, s')
  let μ : Act → World → Nat := fun a w => open Classical in if h : ∃ k, I' a w k then Classical.choose (exists_min _ h) else 0
  have hμ : ∀ a w, (∃ k, I' a w k) → I' a w (μ a w) ∧ ∀ k, I' a w k → μ a w ≤ k := fun a w h => by
    have := Classical.choose_spec (exists_min _ h)
    simp only [μ, dif_pos h]; exact this
  refine wp_loop (I := fun a w => ∃ k, I' a w k) (μ := μ) ⟨m, hm, U, j, M, s, r, hu, har, rfl, hrun⟩ ?_
  intro a w hI
  obtain ⟨hk, hmin⟩ := hμ a w hI
  obtain ⟨hkn, U, j, M, s1, r, hu, har, hars, hrun⟩ := hk
  simp only [execN] at hrun
  split at hrun
  · rename_i s2 hnorm
    obtain ⟨U1, j1, r1, hu1, ha1, ha2⟩ := norm_sound r hnorm
    have body : ∀ e2 s3, execN F (run F (μ a w)) c' s2 = some (e2, s3) → (∀ U' j' M' a' w', R X U' j' M' s3 a' w' → (∀ k, U' k → k < s3.nx) → s3.ar = s2.ar → s3.ar ≤ s3.nx → Go.Exit.then (fun a' w' => (∃ k, I' a' w' k) ∧ μ a' w' < μ a w) Q (exitOf e2) a' w') → c.wp P (Go.Exit.then (fun a' w' => (∃ k, I' a' w' k) ∧ μ a' w' < μ a w) Q) a w :=
      fun e2 s3 hex hq => hS (μ a w) hkn c' nt hV hfine X U1 j1 M s2 a w e2 s3 hnt r1 hu1 ha2 hex _ hq
    split at hrun
    · rename_i s3 hex
      refine body .normal s3 hex fun U' j' M' a' w' r' hu' h1 h2 => ?_
      cases hk' : μ a w with
      | zero => rw [hk'] at hrun; simp [run] at hrun
      | succ k' =>
        rw [hk'] at hrun hkn
        have hI' : I' a' w' k' := ⟨by omega, U', j', M', s3, r', hu', h2, by omega, hrun⟩
        refine ⟨⟨k', hI'⟩, ?_⟩
        have := (hμ a' w' ⟨k', hI'⟩).2 k' hI'
        omega
    · rename_i hne
      cases hex : execN F (run F (μ a w)) c' s2 with
      | none => rw [hex] at hrun; cases hrun
      | some p =>
        obtain ⟨e2, s3⟩ := p
        rw [hex] at hrun; injection hrun with hrun; injection hrun with q1 q2; subst q1 q2
        refine body e2 s3 hex fun U' j' M' a' w' r' hu' h1 h2 => ?_
        have := hQ U' j' M' a' w' r' hu' (by omega) h2
        cases e2 with
        | normal => exact (hne s3 hex).elim
        | exit id => exact this
        | ret => exact this
  · cases hrun

theorem seq_sound {n : Nat} {x y : Code} (hx : Sound P F n x) (hy : Sound P F n y) : Sound P F n (.seq x y) := by
  intro m hm V nt hV hfine X U j M s a w e s' hnt r hu har hrun Q hQ
  simp only [cCode] at hV
  cases V <;> simp only [VCode.bare] at hV <;> try (cases hV; done)
  rename_i vx vy
  injection hV with h1 h2
  simp only [VCode.fine, Bool.and_eq_true] at hfine
  refine wp_seq ?_
  simp only [execN] at hrun
  split at hrun
  · rename_i s2 hex
    refine hx m hm vx nt h1 hfine.1 X U j M s a w .normal s2 hnt r hu har hex _ fun U' j' M' a' w' r' hu' q1 q2 => ?_
    exact hy m hm vy nt h2 hfine.2 X U' j' M' s2 a' w' e s' hnt r' hu' q2 hrun Q fun U2 j2 M2 a2 w2 r2 hu2 p1 p2 => hQ U2 j2 M2 a2 w2 r2 hu2 (by omega) p2
  · rename_i hne
    refine hx m hm vx nt h1 hfine.1 X U j M s a w e s' hnt r hu har hrun _ fun U' j' M' a' w' r' hu' q1 q2 => ?_
    have := hQ U' j' M' a' w' r' hu' q1 q2
    cases e with
    | normal => exact (hne s' hrun).elim
    | exit id => exact this
    | ret => exact this

theorem cond_sound {n : Nat} {c : Operand} {x y : Code} (hx : Sound P F n x) (hy : Sound P F n y) : Sound P F n (.cond c x y) := by
  intro m hm V nt hV hfine X U j M s a w e s' hnt r hu har hrun Q hQ
  simp only [cCode] at hV
  split at hV
  · rename_i vc hc
    cases V <;> simp only [VCode.bare] at hV <;> try (cases hV; done)
    rename_i vc' vx vy
    injection hV with h0 h1 h2
    subst h0
    simp only [VCode.fine, Bool.and_eq_true] at hfine
    have hr := opd_rep r hc
    simp only [execN] at hrun
    have hval : ∀ b, (s.ev vc').bool? = some b → a.eval c = .bool b := by
      intro b hb
      unfold AV.bool? at hb
      split at hb
      · rename_i b' e'
        injection hb with hb; subst hb
        rw [e'] at hr; exact prep_bool hr
      · cases hb
    split at hrun
    · rename_i hb
      exact wp_cond_true (hval true hb) (hx m hm vx nt h1 hfine.1 X U j M s a w e s' hnt r hu har hrun Q hQ)
    · rename_i hb
      exact wp_cond_false (hval false hb) (hy m hm vy nt h2 hfine.2 X U j M s a w e s' hnt r hu har hrun Q hQ)
    · cases hrun
  · cases V <;> simp only [VCode.bare] at hV <;> try (cases hV; done)
    simp [execN] at hrun

theorem block_sound {n : Nat} {id : Nat} {c : Code} (hc : Sound P F n c) : Sound P F n (.block id c) := by
  intro m hm V nt hV hfine X U j M s a w e s' hnt r hu har hrun Q hQ
  simp only [cCode] at hV
  cases V <;> simp only [VCode.bare] at hV <;> try (cases hV; done)
  rename_i id' vc
  injection hV with h1 h2
  subst h1
  simp only [VCode.fine] at hfine
  refine wp_block ?_
  simp only [execN] at hrun
  split at hrun
  · rename_i id2 s2 hex
    split at hrun
    · rename_i heq
      injection hrun with hrun; injection hrun with q1 q2; subst q1 q2
      refine hc m hm vc nt h2 hfine X U j M s a w (.exit id2) s2 hnt r hu har hex _ fun U' j' M' a' w' r' hu' p1 p2 => ?_
      show if id2 = id' then Q .normal a' w' else Q (.exit id2) a' w'
      rw [if_pos heq]; exact hQ U' j' M' a' w' r' hu' p1 p2
    · rename_i heq
      injection hrun with hrun; injection hrun with q1 q2; subst q1 q2
      refine hc m hm vc nt h2 hfine X U j M s a w (.exit id2) s2 hnt r hu har hex _ fun U' j' M' a' w' r' hu' p1 p2 => ?_
      show if id2 = id' then Q .normal a' w' else Q (.exit id2) a' w'
      rw [if_neg heq]; exact hQ U' j' M' a' w' r' hu' p1 p2
  · rename_i hne
    refine hc m hm vc nt h2 hfine X U j M s a w e s' hnt r hu har hrun _ fun U' j' M' a' w' r' hu' p1 p2 => ?_
    have := hQ U' j' M' a' w' r' hu' p1 p2
    cases e with
    | normal => exact this
    | exit id2 => exact (hne id2 s' hrun).elim
    | ret => exact this

theorem all_sound (hF : Fits P F) (hmix : P.follows .mixedOrders = true) {n : Nat} (hb : ∀ m, m ≤ n → BodyOK P (run F m)) : ∀ C : Code, Sound P F n C := by
  intro C
  induction C with
  | seq x y hx hy => exact seq_sound hx hy
  | cond c x y hx hy => exact cond_sound hx hy
  | block id c hc => exact block_sound hc
  | loop c hc => exact loop_sound hc
  | skip =>
    intro m hm V nt hV hfine X U j M s a w e s' hnt r hu har hrun Q hQ
    simp only [cCode] at hV
    cases V <;> simp only [VCode.bare] at hV <;> try (cases hV; done)
    simp only [execN] at hrun; injection hrun with hrun; injection hrun with q1 q2; subst q1 q2
    exact wp_skip (hQ U j M a w r hu rfl har)
  | exit id =>
    intro m hm V nt hV hfine X U j M s a w e s' hnt r hu har hrun Q hQ
    simp only [cCode] at hV
    cases V <;> simp only [VCode.bare] at hV <;> try (cases hV; done)
    injection hV with h1; subst h1
    simp only [execN] at hrun; injection hrun with hrun; injection hrun with q1 q2; subst q1 q2
    exact wp_exit (hQ U j M a w r hu rfl har)
  | ret =>
    intro m hm V nt hV hfine X U j M s a w e s' hnt r hu har hrun Q hQ
    simp only [cCode] at hV
    cases V <;> simp only [VCode.bare] at hV <;> try (cases hV; done)
    simp only [execN] at hrun; injection hrun with hrun; injection hrun with q1 q2; subst q1 q2
    exact wp_ret (hQ U j M a w r hu rfl har)
  | region id ops draw =>
    intro m hm V nt hV hfine X U j M s a w e s' hnt r hu har hrun Q hQ
    cases V
    case region vd vops =>
      simp only [VCode.bare] at hV
      simp only [execN] at hrun
      split at hrun
      · rename_i s2 hr
        injection hrun with hrun; injection hrun with q1 q2; subst q1 q2
        exact region_sound hF hmix (hb m hm) hV hfine hnt r hu har hr fun U' j' M' a' w' r' hu' ha' => hQ U' j' M' a' w' ⟨r'.h, r'.t⟩ hu' ha' (by simp only; omega)
      · cases hrun
    all_goals
      simp only [cCode, VCode.bare] at hV
      split at hV <;> try (cases hV; done)
    simp [execN] at hrun
  | _ =>
    intro m hm V nt hV hfine X U j M s a w e s' hnt r hu har hrun Q hQ
    simp only [cCode] at hV
    cases V <;> simp only [VCode.bare] at hV <;> try (cases hV; done)
    simp [execN] at hrun

/-- The machine is sound. -/
theorem run_sound (hF : Fits P F) (hmix : P.follows .mixedOrders = true) : ∀ n, BodyOK P (run F n) := by
  intro n
  induction n using Nat.strongRecOn with
  | _ n ih =>
    cases n with
    | zero => intro C V nt hV hfine X U j M s a w e s' hnt r hu har hrun; simp [run] at hrun
    | succ n =>
      intro C V nt hV hfine X U j M s a w e s' hnt r hu har hrun Q hQ
      exact all_sound hF hmix (n := n) (fun m hm => ih m (by omega)) C n (Nat.le_refl _) V nt hV hfine X U j M s a w e s' hnt r hu har hrun Q hQ

/-- A call of values. -/
theorem pcall_calls (hF : Fits P F) (hmix : P.follows .mixedOrders = true) {n : Nat} {f : FuncId} {args vs : List PVal} (e : pcallN F n f args = some vs) (hm : ∀ fn, F f = some fn → fn.mode.runs = true) {M : Mem} {w : World} (hmem : ∀ b o v, M b o = some v → w.cell? ⟨b, o, none⟩ = some v)
    {xs : Array Value} (hx : All2 (VRep M) args xs.toList) : Calls P f xs w (Ret (PDone w M vs)) :=
  pcall_sound hF (run_sound hF hmix n) e hm hmem hx

/-- A contract, by runs. -/
theorem told_of_run (hF : Fits P F) (hmix : P.follows .mixedOrders = true) {f : FuncId} {g : List PVal → Option (List PVal)} (hm : ∀ fn, F f = some fn → fn.mode.runs = true) (h : ∀ args vs, g args = some vs → ∃ n, pcallN F n f args = some vs) : ToldOK P f g :=
  fun args vs hg M w xs hmem hx => let ⟨_, e⟩ := h args vs hg; pcall_calls hF hmix e hm hmem hx

theorem toldH_of_run (hF : Fits P F) (hmix : P.follows .mixedOrders = true) {f : FuncId} {g : List AV → Hp → Nat → Option (List AV × Hp × Nat)} (hm : ∀ fn, F f = some fn → fn.mode.runs = true)
    (h : ∀ args h a r, g args h a = some r → ∃ n, icallW F (run F n) f args h a = some r) : ToldHOK P f g :=
  fun args h0 a vs h' p hg j M w xs r hx => let ⟨n, e⟩ := h args h0 a _ hg; icall_sound hF (run_sound hF hmix n) hm e r hx

end

end Gv
