/- The machine without rounds: the limit of its runs, an equation that holds of it, and an evaluator with continuations that simp steps through. -/
import Derived.Test.YtnjnlkaagfihbaaAVm
set_option linter.all false
namespace Gv
open Go

def Rec.le (r r' : Rec) : Prop := ∀ c s x, r c s = some x → r' c s = some x

structure Appr (R : Nat → Rec) (rec : Rec) : Prop where
  mono : ∀ m n, m ≤ n → (R m).le (R n)
  lim : ∀ c s x, rec c s = some x → ∃ n, R n c s = some x

variable {F : Fns} {R : Nat → Rec} {rec : Rec}

theorem pcallW_cont (hR : Appr R rec) {f : FuncId} {args vs : List PVal} (e : pcallW F rec f args = some vs) : ∃ n, pcallW F (R n) f args = some vs := by
  unfold pcallW at e ⊢
  cases hf : F f with
  | none => rw [hf] at e; exact absurd e (by simp)
  | some fn =>
    rw [hf] at e; simp only at e ⊢
    by_cases hl : args.length ≤ fn.nargs
    · simp only [hl, if_true] at e ⊢
      cases hr : rec fn.body { tm := putArgs .lf 0 (args.map AV.ofPVal), hp := [], nx := 0, ar := 0 } with
      | none => rw [hr] at e; exact absurd e (by simp)
      | some x => obtain ⟨n, hn⟩ := hR.lim _ _ _ hr; rw [hr] at e; exact ⟨n, by rw [hn]; exact e⟩
    · simp [hl] at e

theorem icallW_cont (hR : Appr R rec) {f : FuncId} {args : List AV} {h : Hp} {a : Nat} {x : List AV × Hp × Nat} (e : icallW F rec f args h a = some x) : ∃ n, icallW F (R n) f args h a = some x := by
  unfold icallW at e ⊢
  cases hf : F f with
  | none => rw [hf] at e; exact absurd e (by simp)
  | some fn =>
    rw [hf] at e; simp only at e ⊢
    by_cases hl : args.length ≤ fn.nargs
    · simp only [hl, if_true] at e ⊢
      cases hr : rec fn.body { tm := putArgs .lf 0 args, hp := h, nx := a, ar := a } with
      | none => rw [hr] at e; exact absurd e (by simp)
      | some x => obtain ⟨n, hn⟩ := hR.lim _ _ _ hr; rw [hr] at e; exact ⟨n, by rw [hn]; exact e⟩
    · simp [hl] at e

theorem doCall_cont (hR : Appr R rec) {s : St} {fk : Nat} {f : FuncId} {args : List AV} {x : AV × Upd} (e : doCall F rec s fk f args = some x) : ∃ n, doCall F (R n) s fk f args = some x := by
  unfold doCall at e ⊢
  cases hf : F f with
  | none => rw [hf] at e; exact absurd e (by simp)
  | some fn =>
    rw [hf] at e; simp only at e ⊢
    cases hm : fn.mode <;> rw [hm] at e <;> simp only at e ⊢ <;> try exact ⟨0, e⟩
    case borrow =>
      cases h1 : snapAll s.hp args <;> cases h2 : reachAll s.hp (args.flatMap AV.refs) <;> rw [h1, h2] at e <;> simp only at e ⊢ <;> try (cases e; done)
      rename_i xs ks
      cases h3 : pcallW F rec f xs with
      | none => rw [h3] at e; exact absurd e (by simp)
      | some vs => obtain ⟨n, hn⟩ := pcallW_cont hR h3; rw [h3] at e; exact ⟨n, by rw [hn]; exact e⟩
    case freeze =>
      cases h1 : snapAll s.hp args <;> cases h2 : reachAll s.hp (args.flatMap AV.refs) <;> rw [h1, h2] at e <;> simp only at e ⊢ <;> try (cases e; done)
      rename_i xs ks
      cases h3 : pcallW F rec f xs with
      | none => rw [h3] at e; exact absurd e (by simp)
      | some vs => obtain ⟨n, hn⟩ := pcallW_cont hR h3; rw [h3] at e; exact ⟨n, by rw [hn]; exact e⟩
    case heap =>
      cases h2 : reachAll s.hp (args.flatMap AV.refs) <;> rw [h2] at e <;> simp only at e ⊢ <;> try (cases e; done)
      rename_i ks
      cases h3 : icallW F rec f (args.map (AV.ren (place 0 ks))) (pack s.hp (place 0 ks) 0 ks) ks.length with
      | none => rw [h3] at e; exact absurd e (by simp)
      | some vs => obtain ⟨n, hn⟩ := icallW_cont hR h3; rw [h3] at e; exact ⟨n, by rw [hn]; exact e⟩

theorem opStep_cont (hR : Appr R rec) {s : St} {fk : Nat} {o : VOp} {x : AV × Upd} (e : opStep F rec s fk o = some x) : ∃ n, opStep F (R n) s fk o = some x := by
  cases o <;> try exact ⟨0, e⟩
  case call f args => exact doCall_cont hR e
  case callv y args =>
    simp only [opStep] at e ⊢
    split at e
    · exact doCall_cont hR e
    · exact doCall_cont hR e
    · cases e

theorem Appr.const {r r' : Rec} (h : r.le r') : Appr (fun _ => r') r := ⟨fun _ _ _ _ _ _ e => e, fun _ _ _ e => ⟨0, h _ _ _ e⟩⟩

theorem opStep_mono {r r' : Rec} (h : r.le r') {s : St} {fk : Nat} {o : VOp} {x : AV × Upd} (e : opStep F r s fk o = some x) : opStep F r' s fk o = some x := by
  obtain ⟨_, h⟩ := opStep_cont (Appr.const h) e; exact h

theorem runOps_cont (hR : Appr R rec) {draw : Bool} {base : Nat} : ∀ {l : List VOper} {i : Nat} {log : Log} {s s' : St}, runOps F rec draw base i l log s = some s' → ∃ n, ∀ m, n ≤ m → runOps F (R m) draw base i l log s = some s'
  | [], _, _, _, _, e => ⟨0, fun _ _ => e⟩
  | o :: l, i, log, s, s', e => by
    unfold runOps at e ⊢
    cases hw : wanted s o.guard with
    | none => rw [hw] at e; cases e
    | some b =>
      rw [hw] at e
      cases b with
      | false => simp only at e ⊢; exact runOps_cont hR e
      | true =>
        simp only at e ⊢
        cases ho : opStep F rec s (base + stride * i) o.op with
        | none => rw [ho] at e; cases e
        | some x =>
          obtain ⟨v, u⟩ := x
          rw [ho] at e; simp only at e
          obtain ⟨n, hn⟩ := opStep_cont hR ho
          have hn' : ∀ m, n ≤ m → opStep F (R m) s (base + stride * i) o.op = some (v, u) := fun m hm => opStep_mono (hR.mono n m hm) hn
          cases draw with
          | true =>
            simp only [if_true] at e
            cases hf : foot s o.op with
            | none => rw [hf] at e; cases e
            | some Rd =>
              rw [hf] at e; simp only at e
              by_cases hl : logOk o.anc Rd (u.map Prod.fst) log = true
              · simp only [hl, if_true] at e
                obtain ⟨m, hm⟩ := runOps_cont hR e
                refine ⟨max n m, fun k hk => ?_⟩
                rw [hn' k (by omega)]; simp only [hl, if_true]
                exact hm k (by omega)
              · simp [hl] at e
          | false =>
            simp only [Bool.false_eq_true, if_false] at e
            obtain ⟨m, hm⟩ := runOps_cont hR e
            refine ⟨max n m, fun k hk => ?_⟩
            rw [hn' k (by omega)]; simp only [Bool.false_eq_true, if_false]
            exact hm k (by omega)

theorem execN_cont (hR : Appr R rec) : ∀ {c : VCode} {s : St} {x : Exit × St}, execN F rec c s = some x → ∃ n, ∀ m, n ≤ m → execN F (R m) c s = some x
  | .skip, _, _, e => ⟨0, fun _ _ => e⟩
  | .exit _, _, _, e => ⟨0, fun _ _ => e⟩
  | .ret, _, _, e => ⟨0, fun _ _ => e⟩
  | .bad, _, _, e => by cases e
  | .region draw ops, s, x, e => by
    simp only [execN] at e ⊢
    cases h : runOps F rec draw s.nx 0 ops [] s with
    | none => rw [h] at e; cases e
    | some s' =>
      rw [h] at e
      obtain ⟨n, hn⟩ := runOps_cont hR h
      exact ⟨n, fun m hm => by rw [hn m hm]; exact e⟩
  | .seq a b, s, x, e => by
    simp only [execN] at e ⊢
    cases h : execN F rec a s with
    | none => rw [h] at e; cases e
    | some y =>
      rw [h] at e
      obtain ⟨n, hn⟩ := execN_cont hR h
      obtain ⟨ex, s'⟩ := y
      cases ex with
      | normal =>
        simp only at e
        obtain ⟨m, hm⟩ := execN_cont hR e
        exact ⟨max n m, fun k hk => by rw [hn k (by omega)]; exact hm k (by omega)⟩
      | exit id => exact ⟨n, fun k hk => by rw [hn k hk]; exact e⟩
      | ret => exact ⟨n, fun k hk => by rw [hn k hk]; exact e⟩
  | .cond c a b, s, x, e => by
    simp only [execN] at e ⊢
    cases h : (s.ev c).bool? with
    | none => rw [h] at e; cases e
    | some t => rw [h] at e; cases t <;> exact execN_cont hR e
  | .block id c, s, x, e => by
    simp only [execN] at e ⊢
    cases h : execN F rec c s with
    | none => rw [h] at e; cases e
    | some y =>
      rw [h] at e
      obtain ⟨n, hn⟩ := execN_cont hR h
      exact ⟨n, fun k hk => by rw [hn k hk]; exact e⟩
  | .loop m c, s, x, e => by
    simp only [execN] at e ⊢
    cases h1 : norm m s with
    | none => rw [h1] at e; cases e
    | some s1 =>
      rw [h1] at e; simp only at e ⊢
      cases h : execN F rec c s1 with
      | none => rw [h] at e; cases e
      | some y =>
        rw [h] at e
        obtain ⟨n, hn⟩ := execN_cont hR h
        obtain ⟨ex, s'⟩ := y
        cases ex with
        | normal =>
          simp only at e
          obtain ⟨m, hm⟩ := hR.lim _ _ _ e
          exact ⟨max n m, fun k hk => by rw [hn k (by omega)]; exact hR.mono m k (by omega) _ _ _ hm⟩
        | exit id => exact ⟨n, fun k hk => by rw [hn k hk]; exact e⟩
        | ret => exact ⟨n, fun k hk => by rw [hn k hk]; exact e⟩

theorem execN_mono {r r' : Rec} (h : r.le r') : (execN F r).le (execN F r') := by
  intro c s x e
  obtain ⟨n, hn⟩ := execN_cont (Appr.const h) e
  exact hn n (Nat.le_refl n)

theorem run_succ (F : Fns) : ∀ n, (run F n).le (run F (n + 1))
  | 0 => fun _ _ _ e => by cases e
  | n + 1 => execN_mono (run_succ F n)

theorem run_mono (F : Fns) : ∀ m n, m ≤ n → (run F m).le (run F n) := by
  intro m n h
  induction h with
  | refl => exact fun _ _ _ e => e
  | step _ ih => exact fun c s x e => run_succ F _ c s x (ih c s x e)

open Classical in
/-- The limit of all runs. -/
noncomputable def lim (F : Fns) : Rec := fun c s => if h : ∃ n x, run F n c s = some x then some h.choose_spec.choose else none

theorem lim_some {c : VCode} {s : St} {x : Exit × St} : lim F c s = some x ↔ ∃ n, run F n c s = some x := by
  unfold lim
  constructor
  · intro e
    split at e
    · rename_i h
      injection e with e
      exact ⟨h.choose, e ▸ h.choose_spec.choose_spec⟩
    · cases e
  · intro ⟨n, hn⟩
    have h : ∃ n x, run F n c s = some x := ⟨n, x, hn⟩
    rw [dif_pos h]
    have h1 := h.choose_spec.choose_spec
    congr 1
    have h2 := run_mono F _ _ (Nat.le_max_left n h.choose) _ _ _ hn
    have h3 := run_mono F _ _ (Nat.le_max_right n h.choose) _ _ _ h1
    rw [h2] at h3; injection h3 with h3; exact h3.symm

theorem lim_appr (F : Fns) : Appr (run F) (lim F) := ⟨run_mono F, fun _ _ _ e => lim_some.1 e⟩

theorem lim_eq (F : Fns) (c : VCode) (s : St) : lim F c s = execN F (lim F) c s := by
  apply Option.ext
  intro x
  constructor
  · intro e
    obtain ⟨n, hn⟩ := lim_some.1 e
    cases n with
    | zero => cases hn
    | succ n => exact execN_mono (fun c s x e => lim_some.2 ⟨n, e⟩) _ _ _ hn
  · intro e
    obtain ⟨n, hn⟩ := execN_cont (lim_appr F) e
    exact lim_some.2 ⟨n + 1, hn n (Nat.le_refl n)⟩

/-- A call on values. -/
noncomputable def pcall (F : Fns) : FuncId → List PVal → Option (List PVal) := pcallW F (lim F)
/-- A call with a heap. -/
noncomputable def icall (F : Fns) : FuncId → List AV → Hp → Nat → Option (List AV × Hp × Nat) := icallW F (lim F)

theorem pcall_n {f : FuncId} {args vs : List PVal} (e : pcall F f args = some vs) : ∃ n, pcallN F n f args = some vs := pcallW_cont (lim_appr F) e

theorem pcall_of_n {n : Nat} {f : FuncId} {args vs : List PVal} (e : pcallN F n f args = some vs) : pcall F f args = some vs := by
  obtain ⟨_, h⟩ := pcallW_cont (R := fun _ => lim F) (Appr.const fun c s x e => lim_some.2 ⟨n, e⟩) e
  exact h

/-! With continuations. -/
section K
variable {α β : Type}
/-- A continuation: simp does not look into it. -/
class Kn (γ : Type) where
  fn : γ
/-- As bind. -/
def bnd (o : Option α) (k : α → Option β) : Option β := o.bind k
theorem bnd_some (a : α) (k : α → Option β) : bnd (some a) k = k a := rfl
theorem bnd_none (k : α → Option β) : bnd none k = none := rfl
def bndI (o : Option α) [k : Kn (α → Option β)] : Option β := bnd o k.fn
theorem bnd_I (o : Option α) (k : α → Option β) : bnd o k = @bndI α β o ⟨k⟩ := rfl
attribute [simp ↓] bnd_I
@[simp] theorem bndI_some (a : α) (k : α → Option β) : @bndI α β (some a) ⟨k⟩ = k a := rfl
@[simp] theorem bndI_none (k : Kn (α → Option β)) : @bndI α β none k = none := rfl
/-- As a choice. -/
def cnd (c : Option Bool) (x : Unit → Option β × Option β) : Option β := match c with | some true => (x ()).1 | some false => (x ()).2 | none => none
def cndI (c : Option Bool) [x : Kn (Unit → Option β × Option β)] : Option β := cnd c x.fn
theorem cnd_I (c : Option Bool) (x : Unit → Option β × Option β) : cnd c x = @cndI β c ⟨x⟩ := rfl
attribute [simp ↓] cnd_I
@[simp] theorem cndI_true (x : Unit → Option β × Option β) : @cndI β (some true) ⟨x⟩ = (x ()).1 := rfl
@[simp] theorem cndI_false (x : Unit → Option β × Option β) : @cndI β (some false) ⟨x⟩ = (x ()).2 := rfl
@[simp] theorem cndI_none (x : Kn (Unit → Option β × Option β)) : @cndI β none x = none := rfl

noncomputable def X (F : Fns) (c : VCode) (s : St) [k : Kn (Exit → St → Option β)] : Option β := (execN F (lim F) c s).bind fun x => k.fn x.1 x.2

noncomputable def XR (F : Fns) (draw : Bool) (base i : Nat) (l : List VOper) (log : Log) (s : St) [k : Kn (St → Option β)] : Option β := (runOps F (lim F) draw base i l log s).bind k.fn

variable (F : Fns) (k : Exit → St → Option β) (s : St)
theorem X_skip : @X β F .skip s ⟨k⟩ = k .normal s := rfl
theorem X_exit (id : Nat) : @X β F (.exit id) s ⟨k⟩ = k (.exit id) s := rfl
theorem X_ret : @X β F .ret s ⟨k⟩ = k .ret s := rfl
theorem X_region (d : Bool) (ops : List VOper) : @X β F (.region d ops) s ⟨k⟩ = @XR β F d s.nx 0 ops [] s ⟨fun s' => bnd (some { s' with nx := s.nx + stride * ops.length }) (fun s' => k .normal s')⟩ := by
  unfold X XR; simp only [execN]; cases runOps F (lim F) d s.nx 0 ops [] s <;> rfl
theorem X_seq (a b : VCode) : @X β F (.seq a b) s ⟨k⟩ = @X β F a s ⟨fun e s' => match e with | .normal => @X β F b s' ⟨k⟩ | e => k e s'⟩ := by
  unfold X; simp only [execN]
  cases execN F (lim F) a s with
  | none => rfl
  | some x => obtain ⟨e, s'⟩ := x; cases e <;> rfl
theorem X_cond (c : Opd) (a b : VCode) : @X β F (.cond c a b) s ⟨k⟩ = cnd (s.ev c).bool? (fun _ => (@X β F a s ⟨k⟩, @X β F b s ⟨k⟩)) := by
  unfold X; simp only [execN]
  cases (s.ev c).bool? with
  | none => rfl
  | some t => cases t <;> rfl
theorem X_block (id : Nat) (c : VCode) : @X β F (.block id c) s ⟨k⟩ = @X β F c s ⟨fun e s' => match e with | .exit id' => cnd (some (decide (id' = id))) (fun _ => (k .normal s', k (.exit id') s')) | e => k e s'⟩ := by
  unfold X; simp only [execN]
  cases execN F (lim F) c s with
  | none => rfl
  | some x =>
    obtain ⟨e, s'⟩ := x
    cases e with
    | exit id' => by_cases h : id' = id <;> simp [h]
    | _ => rfl
/-- A loop from a state that is normal. -/
noncomputable def XL (F : Fns) (s : St) [p : Kn (Mask × VCode)] [k : Kn (Exit → St → Option β)] : Option β := @X β F p.fn.2 s ⟨fun e s' => match e with | .normal => @X β F (.loop p.fn.1 p.fn.2) s' k | e => k.fn e s'⟩
theorem XL_eq (m : Mask) (c : VCode) : @XL β F s ⟨(m, c)⟩ ⟨k⟩ = @X β F c s ⟨fun e s' => match e with | .normal => @X β F (.loop m c) s' ⟨k⟩ | e => k e s'⟩ := rfl
/-- A mask, to be looked into. -/
def Mask.go (m : Mask) : Mask := m
theorem X_loop (m : Mask) (c : VCode) : @X β F (.loop m c) s ⟨k⟩ = bnd (norm m.go s) (fun s1 => @XL β F s1 ⟨(m, c)⟩ ⟨k⟩) := by
  show (execN F (lim F) (.loop m c) s).bind _ = _
  rw [execN, Mask.go]
  cases norm m s with
  | none => rfl
  | some s1 =>
    show _ = (execN F (lim F) c s1).bind fun x => _
    simp only
    cases execN F (lim F) c s1 with
    | none => rfl
    | some x =>
      obtain ⟨e, s'⟩ := x
      cases e with
      | normal =>
        simp only [Option.bind_some]
        show _ = (execN F (lim F) (.loop m c) s').bind _
        rw [← lim_eq]; rfl
      | exit id => rfl
      | ret => rfl
theorem XR_nil (d : Bool) (base i : Nat) (log : Log) (k : St → Option β) : @XR β F d base i [] log s ⟨k⟩ = k s := rfl
theorem XR_op (base i : Nat) (dst : Option Reg) (op : VOp) (anc : List Nat) (l : List VOper) (log : Log) (k : St → Option β) :
    @XR β F false base i (⟨dst, op, none, anc⟩ :: l) log s ⟨k⟩ = bnd (opStep F (lim F) s (base + stride * i) op) (fun x => bnd (some ({ s with hp := s.hp.upd x.2 }.put dst x.1)) (fun s => @XR β F false base (i + 1) l log s ⟨k⟩)) := by
  unfold XR; rw [runOps]; simp only [wanted]
  cases opStep F (lim F) s (base + stride * i) op <;> rfl
theorem XR_opd (base i : Nat) (dst : Option Reg) (op : VOp) (anc : List Nat) (l : List VOper) (log : Log) (k : St → Option β) :
    @XR β F true base i (⟨dst, op, none, anc⟩ :: l) log s ⟨k⟩ = bnd (opStep F (lim F) s (base + stride * i) op) (fun x => bnd (foot s op) (fun R =>
      cnd (some (logOk anc R (x.2.map Prod.fst) log)) (fun _ => (bnd (some ({ s with hp := s.hp.upd x.2 }.put dst x.1)) (fun s => @XR β F true base (i + 1) l ((i, R, x.2.map Prod.fst) :: log) s ⟨k⟩), none)))) := by
  unfold XR; rw [runOps]; simp only [wanted]
  cases opStep F (lim F) s (base + stride * i) op with
  | none => rfl
  | some x =>
    obtain ⟨v, u⟩ := x
    simp only [if_true, bnd_some]
    cases foot s op with
    | none => rfl
    | some R => simp only [bnd_some]; cases logOk anc R (u.map Prod.fst) log <;> rfl
theorem XR_g (base i : Nat) (dst : Option Reg) (op : VOp) (r : Reg) (b : Bool) (anc : List Nat) (l : List VOper) (log : Log) (k : St → Option β) :
    @XR β F false base i (⟨dst, op, some (r, b), anc⟩ :: l) log s ⟨k⟩ = cnd (wanted s (some (r, b))) (fun _ => (@XR β F false base i (⟨dst, op, none, anc⟩ :: l) log s ⟨k⟩, bnd (some (s.put dst (.tup []))) (fun s => @XR β F false base (i + 1) l log s ⟨k⟩))) := by
  unfold XR; rw [runOps, runOps]; simp only
  cases h : wanted s (some (r, b)) with
  | none => rfl
  | some t => cases t <;> simp [wanted]
theorem XR_gd (base i : Nat) (dst : Option Reg) (op : VOp) (r : Reg) (b : Bool) (anc : List Nat) (l : List VOper) (log : Log) (k : St → Option β) :
    @XR β F true base i (⟨dst, op, some (r, b), anc⟩ :: l) log s ⟨k⟩ = cnd (wanted s (some (r, b))) (fun _ => (@XR β F true base i (⟨dst, op, none, anc⟩ :: l) log s ⟨k⟩, bnd (some (s.put dst (.tup []))) (fun s => @XR β F true base (i + 1) l log s ⟨k⟩))) := by
  unfold XR; rw [runOps, runOps]; simp only
  cases h : wanted s (some (r, b)) with
  | none => rfl
  | some t => cases t <;> simp [wanted]
end K

/-- A call on values, stepped. -/
theorem pcall_X {f : FuncId} {fn : VFn} (hf : F f = some fn) (args : List PVal) (hl : args.length ≤ fn.nargs) :
    pcall F f args = @X _ F fn.body { tm := putArgs .lf 0 (args.map AV.ofPVal), hp := [], nx := 0, ar := 0 } ⟨fun e s => match e with | .exit _ => none | _ => bnd (readAll s fn.res) (snapAll s.hp)⟩ := by
  unfold pcall pcallW X; rw [hf]; simp only [hl, if_true]
  rw [lim_eq]
  cases execN F (lim F) fn.body { tm := putArgs .lf 0 (args.map AV.ofPVal), hp := [], nx := 0, ar := 0 } with
  | none => rfl
  | some x =>
    obtain ⟨e, s⟩ := x
    cases e <;> first | rfl | (simp only [Option.bind_some]; cases readAll s fn.res <;> rfl)

theorem icall_X {f : FuncId} {fn : VFn} (hf : F f = some fn) (args : List AV) (h : Hp) (a : Nat) (hl : args.length ≤ fn.nargs) :
    icall F f args h a = @X _ F fn.body { tm := putArgs .lf 0 args, hp := h, nx := a, ar := a } ⟨fun e s => match e with | .exit _ => none | _ => bnd (readAll s fn.res) (fun vs =>
      bnd (gcKeys a s.hp (vs.flatMap AV.refs)) (fun ks => some (vs.map (AV.ren (gcRen a ks)), gc a s.hp ks, ks.length)))⟩ := by
  unfold icall icallW X; rw [hf]; simp only [hl, if_true]
  rw [lim_eq]
  cases execN F (lim F) fn.body { tm := putArgs .lf 0 args, hp := h, nx := a, ar := a } with
  | none => rfl
  | some x =>
    obtain ⟨e, s⟩ := x
    cases e <;> first | rfl | (simp only [Option.bind_some]; cases readAll s fn.res with
      | none => rfl
      | some vs => simp only [bnd_some]; cases gcKeys a s.hp (vs.flatMap AV.refs) <;> rfl)
end Gv
