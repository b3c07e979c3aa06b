/- Calls: a body that is right gives a call that is right, in each of the ways that arguments are handed over. -/
import Derived.Test.YtnjnlkaagfihbaaASnap
set_option linter.all false
namespace Gv
open Go

def exitOf : Exit → Go.Exit
  | .normal => .normal
  | .exit id => .exit id
  | .ret => .ret

/-- What comes of a call. -/
def After (X : Ctx) (U : Nat → Prop) (j : Nat → Option Nat) (M : Mem) (h : Hp) (ar : Nat) (w : World) (fk : Nat) (y : AV) (u : Upd) (v : Value) (w' : World) : Prop :=
  ∃ U' j' M', (∀ k, U' k → U k ∨ (fk ≤ k ∧ k < fk + stride)) ∧ RH X U' j' M' (h.upd u) ar w' ∧ Ev U j M (bsz w) U' j' M' (bsz w') ∧ ARep U' j' M' (bsz w') y v

/-- A function that is told does what is told. -/
def PrimOK (P : Program) (f : FuncId) (p : Prim) : Prop :=
  ∀ X U j M h ar w fk args (vs : Array Value) y u, RH X U j M h ar w → (∀ k, fk ≤ k → k < fk + stride → ¬ U k) → ar ≤ fk → All2 (ARep U j M (bsz w)) args vs.toList → primStep p h fk args = some (y, u) →
    Calls P f vs w fun | .returned v, w' => After X U j M h ar w fk y u v w' | _, _ => False

/-- It returns, so. -/
def Ret (Q : Value → World → Prop) : Ending → World → Prop
  | .returned v, w => Q v w
  | _, _ => False

def PDone (w : World) (M : Mem) (ps : List PVal) (v : Value) (w' : World) : Prop :=
  ∃ (M' : Mem) (us : Array Value), v = (if us.size = 1 then us.getD 0 undef else .tuple us) ∧ All2 (VRep M') ps us.toList ∧ M.le M' ∧ (∀ b o x, M' b o = some x → M b o = some x ∨ w.heap.size ≤ b) ∧
    (∀ b o x, M' b o = some x → w'.cell? ⟨b, o, none⟩ = some x) ∧ (∀ b, b < w.heap.size → w'.heap[b]? = w.heap[b]?) ∧ w.heap.size ≤ w'.heap.size ∧ (w'.os = w.os ∧ w'.tape = w.tape ∧ w'.output = w.output)


/-- What a call that is told by values does. -/
def ToldOK (P : Program) (f : FuncId) (g : List PVal → Option (List PVal)) : Prop :=
  ∀ args vs, g args = some vs → ∀ (M : Mem) (w : World) (xs : Array Value), (∀ b o v, M b o = some v → w.cell? ⟨b, o, none⟩ = some v) → All2 (VRep M) args xs.toList → Calls P f xs w (Ret (PDone w M vs))

/-- A call's end, as it sees it. -/
def HDone (X : Ctx) (a : Nat) (vs : List AV) (h' : Hp) (p : Nat) (v : Value) (w' : World) : Prop :=
  ∃ (U : Nat → Prop) (j : Nat → Option Nat) (M : Mem) (us : Array Value), v = (if us.size = 1 then us.getD 0 undef else .tuple us) ∧ RH X U j M h' a w' ∧ (∀ i, U i → i < a + p) ∧ All2 (ARep U j M (bsz w')) vs us.toList

/-- What a call that is told by values and what they reach does. -/
def ToldHOK (P : Program) (f : FuncId) (g : List AV → Hp → Nat → Option (List AV × Hp × Nat)) : Prop :=
  ∀ args h a vs h' p, g args h a = some (vs, h', p) → ∀ (j : Nat → Option Nat) (M : Mem) (w : World) (xs : Array Value), (∀ nt, RH ⟨j, M, w, nt⟩ (fun i => i < a) j M h a w) → All2 (ARep (fun i => i < a) j M (bsz w)) args xs.toList →
    ∃ nt, Calls P f xs w (Ret (HDone ⟨j, M, w, nt⟩ a vs h' p))

structure FitsAt (P : Program) (fn : VFn) (fu : Func) (c : Code) : Prop where
  res : cRess P fu.results.toList = some fn.res
  body : fn.body.bare = cCode P fu.ntmps c
  le : fu.ntmps ≤ 100000
  args : fn.nargs ≤ fu.ntmps
  fine : fn.body.fine = true

/-- Its body is run. -/
def VMode.runs : VMode → Bool
  | .borrow | .freeze | .heap => true
  | _ => false

/-- The functions fit the program's. -/
def Fits (P : Program) (F : Fns) : Prop :=
  ∀ f fn, F f = some fn → ∃ fu c, P.funcs[f]? = some fu ∧ fu.name ≠ "runtime.NumGoroutine" ∧ fu.body = some c ∧
    (∀ p, fn.mode = .prim p → PrimOK P f p) ∧ (∀ g, fn.mode = .told g → ToldOK P f g) ∧ (∀ g, fn.mode = .toldH g → ToldHOK P f g) ∧ (fn.mode.runs = true → FitsAt P fn fu c)

/-- Code that is run does as it is run. -/
def BodyOK (P : Program) (rec : Rec) : Prop :=
  ∀ (C : Code) (V : VCode) (nt : Nat), V.bare = cCode P nt C → V.fine = true → ∀ (X : Ctx) U j M (s : St) (a : Act) (w : World) (e : Exit) (s' : St), X.nt = nt → R X U j M s a w → (∀ k, U k → k < s.nx) → s.ar ≤ s.nx → rec V s = some (e, s') →
    ∀ Q : Go.Exit → Act → World → Prop, (∀ U' j' M' a' w', R X U' j' M' s' a' w' → (∀ k, U' k → k < s'.nx) → s'.ar = s.ar → s'.ar ≤ s'.nx → Q (exitOf e) a' w') → C.wp P Q a w

section
variable {X : Ctx} {U : Nat → Prop} {j : Nat → Option Nat} {M : Mem} {h : Hp} {ar : Nat} {w : World} {P : Program} {F : Fns} {rec : Rec} {S : Nat → Nat}

theorem putArgs_get : ∀ (l : List AV) (t : T) (n i : Nat), n + l.length ≤ 100000 → i < 100000 → (putArgs t n l).get (path i) = if n ≤ i ∧ i < n + l.length then (l[i - n]?).getD .u else t.get (path i)
  | [], t, n, i, _, _ => by simp [putArgs]; omega
  | v :: l, t, n, i, hn, hi => by
    simp only [List.length_cons] at hn
    rw [putArgs, putArgs_get l _ (n + 1) i (by omega) hi, T.get_set]
    simp only [List.length_cons]
    by_cases e : i = n
    · subst e; simp; intro h1; omega
    · have hne : path i ≠ path n := fun e' => e (path_inj hi (by omega) e')
      simp only [hne, if_false]
      by_cases c : n + 1 ≤ i ∧ i < n + 1 + l.length
      · rw [if_pos c, if_pos (by omega), show i - n = i - (n + 1) + 1 by omega]; simp
      · rw [if_neg c, if_neg (by omega)]

theorem args_tm {l : List AV} {xs : Array Value} (hx : All2 (ARep U j M S) l xs.toList) {nt : Nat} (hnt : nt ≤ 100000) (hl : l.length ≤ nt) (i : Nat) (hi : i < 100000) :
    ARep U j M S ((putArgs .lf 0 l).get (path i)) ((xs ++ Array.replicate (nt - xs.size) undef).getD i undef) := by
  have hlen := hx.len
  simp at hlen
  rw [putArgs_get l .lf 0 i (by omega) hi]
  by_cases c : i < l.length
  · rw [if_pos ⟨Nat.zero_le _, by omega⟩]
    obtain ⟨v, h1, h2⟩ := hx.get (List.getElem?_eq_getElem c)
    have h3 : xs[i]? = some v := by simpa using h1
    have h4 : (xs ++ Array.replicate (nt - xs.size) undef).getD i undef = v := by
      have hlt : i < xs.size := by omega
      rw [Array.getD_eq_getD_getElem?, Array.getElem?_append_left hlt, h3]; rfl
    rw [h4, Nat.sub_zero, List.getElem?_eq_getElem c]; exact h2
  · rw [if_neg (by omega), T.get_lf]; trivial

theorem start_tmps {l : List AV} {xs : Array Value} (hx : All2 (ARep U j M (bsz w)) l xs.toList) (hnt : X.nt ≤ 100000) (hl : l.length ≤ X.nt) :
    RT X U j M (putArgs .lf 0 l) { tmps := xs ++ Array.replicate (X.nt - xs.size) undef, defers := [] } w := by
  have hlen := hx.len
  simp at hlen
  exact ⟨by simp; omega, hnt, rfl, fun i hi => args_tm hx hnt hl i hi⟩

theorem res_sound {s : St} {a : Act} (r : R X U j M s a w) {rv : ResultVar} {x : VRes} (hc : cRes P rv = some x) {y : AV} (hy : readRes s x = some y) :
    ∃ v, ((match rv with | .tmp t => Pure.pure (a.tmps.getD t undef) | .cell b t => do loadVar t (← asAddr (a.tmps.getD b undef))) : Sem Value).run P w = .ok v w ∧ ARep U j M (bsz w) y v := by
  cases rv with
  | tmp t =>
    simp only [cRes] at hc
    split at hc
    · rename_i ht
      injection hc with hc; subst hc
      simp only [readRes] at hy; injection hy with hy; subst hy
      exact ⟨_, rfl, r.t.tm t ht⟩
    · cases hc
  | cell b t =>
    simp only [cRes] at hc
    split at hc
    · rename_i hb
      split at hc
      · rename_i g hg
        split at hc
        · rename_i h1
          injection hc with hc; subst hc
          have hx := r.t.tm b hb
          simp only [readRes] at hy
          cases hq : s.tm.get (path b) <;> simp only [hq] at hy <;> try (cases hy; done)
          rename_i c
          cases c <;> try (cases hy; done)
          rename_i k o
          rw [hq] at hx
          obtain ⟨B, hB, _⟩ := crep_ptr hx
          have hs : (match (generalizing := false) AV.r (.ptr k o) with
              | .p (.pp cs o) => (loadP (P.cellsOf t) g cs o).map (·, ([] : Upd))
              | .r (.ptr k o) => match s.hp.cells? k with
                | some (_, _, cs) => (loadC (P.cellsOf t) g cs o).map (·, [])
                | none => none
              | _ => none) = some (y, ([] : Upd)) := by
            simp only at hy ⊢
            cases e : s.hp.cells? k with
            | none => simp [e] at hy
            | some mfc => obtain ⟨m, f, cs⟩ := mfc; simp only [e] at hy; simp only [hy, Option.map_some]
          obtain ⟨_, v', h2, h3⟩ := load_run (P := P) r.h hg h1 hx hs
          refine ⟨v', ?_, h3⟩
          show ((do loadVar t (← asAddr (a.tmps.getD b undef))) : Sem Value).run P w = .ok v' w
          rw [hB] at h2 ⊢
          simpa [asAddr, Instr.loadAt, Instr.sureAddr] using h2
        · cases hc
      · cases hc
    · cases hc

theorem ress_sound {s : St} {a : Act} (r : R X U j M s a w) : ∀ {rvs : List ResultVar} {xs : List VRes} {ys : List AV}, cRess P rvs = some xs → readAll s xs = some ys →
    ∃ vs, (rvs.mapM (fun rv => match rv with | .tmp t => Pure.pure (a.tmps.getD t undef) | .cell b t => do loadVar t (← asAddr (a.tmps.getD b undef))) : Sem (List Value)).run P w = .ok vs w ∧ All2 (ARep U j M (bsz w)) ys vs
  | [], xs, ys, hc, hy => by
    simp [cRess] at hc; subst hc
    simp [readAll] at hy; subst hy
    exact ⟨[], by simp, trivial⟩
  | rv :: rvs, xs, ys, hc, hy => by
    simp only [cRess] at hc
    split at hc
    · rename_i c cs h1 h2
      injection hc with hc; subst hc
      simp only [readAll] at hy
      split at hy
      · rename_i y ys' h3 h4
        injection hy with hy; subst hy
        obtain ⟨v, g1, g2⟩ := res_sound r h1 h3
        obtain ⟨vs, g3, g4⟩ := ress_sound r h2 h4
        refine ⟨v :: vs, ?_, g2, g4⟩
        rw [List.mapM_cons]
        simp only [Sem.run_bind]
        rw [g1]
        simp only [Result.andThen_ok]
        rw [g3]
        simp
      · cases hy
    · cases hc

theorem results_sound {s : St} {a : Act} (r : R X U j M s a w) {fu : Func} {xs : List VRes} {ys : List AV} (hc : cRess P fu.results.toList = some xs) (hy : readAll s xs = some ys) :
    ∃ vs : Array Value, (results fu a.tmps).run P w = .ok (if vs.size = 1 then vs.getD 0 undef else .tuple vs) w ∧ All2 (ARep U j M (bsz w)) ys vs.toList := by
  obtain ⟨vs, h1, h2⟩ := ress_sound r hc hy
  refine ⟨vs.toArray, ?_, by simpa using h2⟩
  unfold results
  rw [Array.mapM_eq_mapM_toList]
  simp only [Sem.run_bind, Sem.run_map]
  have h1' := h1
  rw [show (fun rv => match rv with | ResultVar.tmp t => Pure.pure (a.tmps.getD t undef) | .cell b t => do loadVar t (← asAddr (a.tmps.getD b undef)) : ResultVar → Sem Value) = (fun | .tmp t => Pure.pure (a.tmps.getD t undef) | .cell b t => do loadVar t (← asAddr (a.tmps.getD b undef))) from rfl] at h1'
  erw [h1']
  simp only [Result.andThen_ok, Sem.run_pure]
  congr 1
  by_cases e : vs.length = 1
  · match vs, e with
    | [v], _ => simp
  · simp [e]

theorem After.def {fk : Nat} {y : AV} {u : Upd} : (fun (e : Ending) w' => match e, w' with | .returned v, w' => After X U j M h ar w fk y u v w' | _, _ => False) = Ret (After X U j M h ar w fk y u) := by
  funext e w'; cases e <;> rfl

theorem ofPVals_rep {ps : List PVal} {vs : List Value} (h : All2 (VRep M) ps vs) : All2 (ARep U j M S) (ps.map AV.ofPVal) vs := All2.mapL.2 (h.imp fun _ _ => ofPVal_rep)

theorem pcall_sound (hF : Fits P F) (hb : BodyOK P rec) {f : FuncId} {args vs : List PVal} (e : pcallW F rec f args = some vs) (hm : ∀ fn, F f = some fn → fn.mode.runs = true) (hmem : ∀ b o v, M b o = some v → w.cell? ⟨b, o, none⟩ = some v)
    {xs : Array Value} (hx : All2 (VRep M) args xs.toList) : Calls P f xs w (Ret (PDone w M vs)) := by
  unfold pcallW at e
  split at e
  · cases e
  · rename_i fn hfn
    split at e
    · rename_i hle
      obtain ⟨fu, c, hfu, _, hbody, _, _, _, hfit⟩ := hF f fn hfn
      obtain ⟨hres, hcode, hnt, hargs, hfine⟩ := hfit (hm fn hfn)
      have fin : ∀ ex s', rec fn.body { tm := putArgs .lf 0 (args.map AV.ofPVal), hp := [], nx := 0, ar := 0 } = some (ex, s') → (ex = .normal ∨ ex = .ret) → ∀ rs, readAll s' fn.res = some rs → snapAll s'.hp rs = some vs → Calls P f xs w (Ret (PDone w M vs)) := by
        intro ex s' hrun hex rs hrs hsn
        refine calls_of_wp hfu hbody (hb c fn.body fu.ntmps hcode hfine ⟨fun _ => none, M, w, fu.ntmps⟩ (fun _ => False) (fun _ => none) M _ _ w ex s' rfl ⟨?_, ?_⟩ (fun _ h => h.elim) (Nat.le_refl _) hrun _ ?_)
        · exact ⟨fun k b hb => by simp [Hp.get] at hb, fun k B e => by simp at e, fun k k' B e => by simp at e, hmem, fun k B m f cs e => by simp at e, fun k B e => by simp at e, fun _ _ _ => rfl, Mem.le_refl M, fun _ _ _ e => .inl e, Nat.le_refl _, ⟨rfl, rfl, rfl⟩, fun _ _ => rfl, fun k B hk e => by simp at e⟩
        · exact start_tmps (X := ⟨fun _ => none, M, w, fu.ntmps⟩) (ofPVals_rep hx) hnt (by simp; omega)
        · intro U' j' M' a' w' r _ _ _
          have main : bodyPost P fu (Ret (PDone w M vs)) .ret a' w' := by
            refine ⟨r.t.df, ?_⟩
            obtain ⟨us, h1, h2⟩ := results_sound r hres hrs
            refine ⟨_, h1, ?_⟩
            have h3 := snap_all r.h (keys_closed s'.hp) h2 hsn fun k _ hk => s'.hp.mem_keys k hk
            obtain ⟨r4, _⟩ := r.h.freeze s'.hp.keys
            refine ⟨fz j' s'.hp s'.hp.keys w' M', us, rfl, h3, Mem.le_trans r.h.sub (fz_le _), fun b o x hbx => ?_, r4.mem, fun b hb => r.h.frame b hb (fun k => by simp), r.h.size, r.h.env⟩
            rcases fz_cases hbx with h5 | ⟨_, k, _, _, _, _, h5, _⟩
            · rcases r.h.new b o x h5 with h6 | ⟨k0, h6⟩ | h6
              · exact .inl h6
              · simp at h6
              · exact .inr h6
            · rcases r.h.own k b h5 with ⟨k0, h6⟩ | h6
              · simp at h6
              · exact .inr h6
          rcases hex with rfl | rfl <;> exact main
      split at e
      · rename_i s' hrun
        split at e
        · rename_i rs hrs; exact fin _ s' hrun (.inl rfl) rs hrs e
        · cases e
      · rename_i s' hrun
        split at e
        · rename_i rs hrs; exact fin _ s' hrun (.inr rfl) rs hrs e
        · cases e
      · cases e
    · cases e

theorem scalar_rep {M' : Mem} {c : PV} {v : Value} (hs : c.scalar = true) (h : PRep M' c v) : PRep M c v := by
  cases h <;> first | (simp [PV.scalar] at hs; done) | constructor

theorem scalars_rep {M' : Mem} {p : PVal} {v : Value} (hs : (AV.ofPVal p).scalar = true) (h : VRep M' p v) : VRep M p v := by
  cases p with
  | one c => exact scalar_rep hs h
  | agg cs =>
    obtain ⟨vs, hv, hr⟩ := h
    refine ⟨vs, hv, ?_⟩
    simp only [AV.ofPVal, AV.scalar] at hs
    generalize vs.toList = l at hr
    clear hv
    induction cs generalizing l with
    | nil => cases l <;> first | trivial | exact hr.elim
    | cons c cs ih =>
      cases l with
      | nil => exact hr.elim
      | cons v l =>
        simp only [List.all_cons, Bool.and_eq_true] at hs
        exact ⟨scalar_rep hs.1 hr.1, ih hs.2 l hr.2⟩

theorem fz_nil (b o : Nat) : fz j h [] w M b o = M b o := by
  unfold fz
  cases M b o <;> simp

theorem freeze_call (hF : Fits P F) (hb : BodyOK P rec) (r : RH X U j M h ar w) {fk : Nat} {f : FuncId} (hm : ∀ fn, F f = some fn → fn.mode.runs = true) {args : List AV} {ps vs : List PVal} {ks : List Nat} (h1 : snapAll h args = some ps) (h2 : reachAll h (args.flatMap AV.refs) = some ks) (h3 : pcallW F rec f ps = some vs)
    {xs : Array Value} (hx : All2 (ARep U j M (bsz w)) args xs.toList) {y : AV} (hy : AV.ofList (vs.map AV.ofPVal) = some y) : Calls P f xs w (Ret (After X U j M h ar w fk y (freezeUpd h ks))) := by
  obtain ⟨g1, g2, g3⟩ := reachAll_spec h2
  have hp := snap_all r g1 hx h1 g2
  obtain ⟨r4, e4⟩ := r.freeze ks
  refine (pcall_sound hF hb h3 hm r4.mem hp).mono fun e w' hd => ?_
  cases e with
  | panicked c => exact hd
  | outgrown => exact hd
  | returned v =>
    obtain ⟨M', us, rfl, q1, q2, q3, q4, q5, q6, q7⟩ := hd
    obtain ⟨r5, e5⟩ := r4.later q5 q6 q7 q2 q3 q4
    exact ⟨U, j, M', fun _ hk => .inl hk, r5, e4.trans e5, ofList_rep hy (ofPVals_rep q1)⟩

theorem borrow_call (hF : Fits P F) (hb : BodyOK P rec) (r : RH X U j M h ar w) {fk : Nat} {f : FuncId} (hm : ∀ fn, F f = some fn → fn.mode.runs = true) {args : List AV} {ps vs : List PVal} {ks : List Nat} (h1 : snapAll h args = some ps) (h2 : reachAll h (args.flatMap AV.refs) = some ks) (h3 : pcallW F rec f ps = some vs)
    (h4 : (ks.isEmpty || vs.all fun v => (AV.ofPVal v).scalar) = true) {xs : Array Value} (hx : All2 (ARep U j M (bsz w)) args xs.toList) {y : AV} (hy : AV.ofList (vs.map AV.ofPVal) = some y) : Calls P f xs w (Ret (After X U j M h ar w fk y [])) := by
  by_cases hk : ks.isEmpty = true
  · have : ks = [] := by simpa using hk
    subst this
    exact freeze_call hF hb r hm h1 h2 h3 hx hy
  · simp only [hk, Bool.false_or] at h4
    obtain ⟨g1, g2, g3⟩ := reachAll_spec h2
    have hp := snap_all r g1 hx h1 g2
    obtain ⟨r4, e4⟩ := r.freeze ks
    refine (pcall_sound hF hb h3 hm r4.mem hp).mono fun e w' hd => ?_
    cases e with
    | panicked c => exact hd
    | outgrown => exact hd
    | returned v =>
      obtain ⟨M', us, rfl, q1, q2, q3, q4, q5, q6, q7⟩ := hd
      obtain ⟨r5, e5⟩ := r.later q5 q6 q7 (Mem.le_refl M) (fun _ _ _ h => .inl h) (fun b o v hv => q4 b o v (q2 b o v (fz_le ks b o v hv)))
      refine ⟨U, j, M, fun _ hk => .inl hk, r5, e5, ofList_rep hy (ofPVals_rep ?_)⟩
      clear h3 hy
      generalize us.toList = l at q1
      induction vs generalizing l with
      | nil => cases l <;> first | trivial | exact q1.elim
      | cons c cs ih =>
        cases l with
        | nil => exact q1.elim
        | cons v l =>
          simp only [List.all_cons, Bool.and_eq_true] at h4
          exact ⟨scalars_rep h4.1 q1.1, ih h4.2 l q1.2⟩

end

end Gv
