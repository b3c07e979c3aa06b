/- What the value machine's state says of the model's: the relation, and how it stays. -/
import Derived.Test.YtnjnlkaagfihbaaAComp
import Derived.Laws.Sem
import Derived.Laws.World
import Derived.Laws.Cells
set_option linter.all false
namespace Gv
open Go

def All2 {α β : Type} (R : α → β → Prop) : List α → List β → Prop
  | [], [] => True
  | a :: l, b :: m => R a b ∧ All2 R l m
  | _, _ => False

section
variable {α β γ : Type} {R : α → β → Prop}
theorem All2.len : ∀ {l : List α} {m : List β}, All2 R l m → l.length = m.length
  | [], [], _ => rfl
  | _ :: _, _ :: _, h => by simp [All2.len h.2]
  | [], _ :: _, h => h.elim
  | _ :: _, [], h => h.elim
theorem All2.get : ∀ {l : List α} {m : List β} {i : Nat} {a : α}, All2 R l m → l[i]? = some a → ∃ b, m[i]? = some b ∧ R a b
  | [], [], i, a, _, e => by simp at e
  | x :: l, y :: m, 0, a, h, e => by simp at e; subst e; exact ⟨y, by simp, h.1⟩
  | x :: l, y :: m, i + 1, a, h, e => by simp at e; simpa using All2.get h.2 e
  | [], _ :: _, _, _, h, _ => h.elim
  | _ :: _, [], _, _, h, _ => h.elim
theorem All2.of : ∀ {l : List α} {m : List β}, l.length = m.length → (∀ (i : Nat) a b, l[i]? = some a → m[i]? = some b → R a b) → All2 R l m
  | [], [], _, _ => trivial
  | x :: l, y :: m, e, h => ⟨h 0 x y rfl rfl, All2.of (by simpa using e) fun i a b ha hb => h (i + 1) a b (by simpa using ha) (by simpa using hb)⟩
  | [], _ :: _, e, _ => by simp at e
  | _ :: _, [], e, _ => by simp at e
theorem All2.imp {R' : α → β → Prop} (hr : ∀ a b, R a b → R' a b) : ∀ {l : List α} {m : List β}, All2 R l m → All2 R' l m
  | [], [], _ => trivial
  | _ :: _, _ :: _, h => ⟨hr _ _ h.1, All2.imp hr h.2⟩
  | [], _ :: _, h => h.elim
  | _ :: _, [], h => h.elim
theorem All2.app : ∀ {l l' : List α} {m m' : List β}, All2 R l m → All2 R l' m' → All2 R (l ++ l') (m ++ m')
  | [], _, [], _, _, h' => h'
  | _ :: _, _, _ :: _, _, h, h' => ⟨h.1, All2.app h.2 h'⟩
  | [], _, _ :: _, _, h, _ => h.elim
  | _ :: _, _, [], _, h, _ => h.elim
theorem All2.take : ∀ (n : Nat) {l : List α} {m : List β}, All2 R l m → All2 R (l.take n) (m.take n)
  | 0, _, _, _ => by simp [All2]
  | n + 1, [], [], _ => by simp [All2]
  | n + 1, _ :: _, _ :: _, h => ⟨h.1, All2.take n h.2⟩
  | _ + 1, [], _ :: _, h => h.elim
  | _ + 1, _ :: _, [], h => h.elim
theorem All2.drop : ∀ (n : Nat) {l : List α} {m : List β}, All2 R l m → All2 R (l.drop n) (m.drop n)
  | 0, _, _, h => h
  | n + 1, [], [], h => h
  | n + 1, _ :: _, _ :: _, h => All2.drop n h.2
  | _ + 1, [], _ :: _, h => h.elim
  | _ + 1, _ :: _, [], h => h.elim
theorem All2.mapL {f : γ → α} : ∀ {l : List γ} {m : List β}, All2 R (l.map f) m ↔ All2 (fun c b => R (f c) b) l m
  | [], [] => Iff.rfl
  | _ :: l, _ :: m => by simp only [List.map_cons, All2]; exact and_congr_right fun _ => All2.mapL
  | [], _ :: _ => Iff.rfl
  | _ :: _, [] => Iff.rfl
theorem All2.mapR {f : γ → β} : ∀ {l : List α} {m : List γ}, All2 R l (m.map f) ↔ All2 (fun a c => R a (f c)) l m
  | [], [] => Iff.rfl
  | _ :: l, _ :: m => by simp only [List.map_cons, All2]; exact and_congr_right fun _ => All2.mapR
  | [], _ :: _ => Iff.rfl
  | _ :: _, [] => Iff.rfl
theorem All2.nil_left {m : List β} (h : All2 R [] m) : m = [] := by cases m <;> first | rfl | exact h.elim
theorem All2.nil_right {l : List α} (h : All2 R l []) : l = [] := by cases l <;> first | rfl | exact h.elim
end

/-! The slots' tree. -/
theorem T.get_lf (q : Reg) : T.get .lf q = .u := by cases q <;> rfl
theorem T.get_set (v : AV) : ∀ (t : T) (q q' : Reg), (t.set q v).get q' = if q' = q then v else t.get q'
  | .lf, [], q' => by cases q' with | nil => simp [T.set, T.get] | cons b q' => cases b <;> simp [T.set, T.get, T.get_lf]
  | .lf, false :: q, q' => by
    cases q' with
    | nil => simp [T.set, T.get]
    | cons b q' => cases b <;> simp [T.set, T.get, T.get_set v .lf q q', T.get_lf]
  | .lf, true :: q, q' => by
    cases q' with
    | nil => simp [T.set, T.get]
    | cons b q' => cases b <;> simp [T.set, T.get, T.get_set v .lf q q', T.get_lf]
  | .nd x l r, [], q' => by cases q' with | nil => simp [T.set, T.get] | cons b q' => cases b <;> simp [T.set, T.get]
  | .nd x l r, false :: q, q' => by
    cases q' with
    | nil => simp [T.set, T.get]
    | cons b q' => cases b <;> simp [T.set, T.get, T.get_set v l q q']
  | .nd x l r, true :: q, q' => by
    cases q' with
    | nil => simp [T.set, T.get]
    | cons b q' => cases b <;> simp [T.set, T.get, T.get_set v r q q']

def unpath : Reg → Nat
  | [] => 1
  | b :: q => (if b then 1 else 0) + 2 * unpath q
theorem unpath_go : ∀ (d m : Nat), 0 < m → m < 2 ^ (d + 1) → unpath (pathGo d m) = m
  | 0, m, h, h' => by simp [pathGo, unpath]; omega
  | d + 1, m, h, h' => by
    unfold pathGo
    by_cases h1 : m ≤ 1
    · simp [h1, unpath]; omega
    · have := unpath_go d (m / 2) (by omega) (by rw [Nat.pow_succ] at h'; omega)
      simp only [h1, if_false, unpath, this]
      by_cases h2 : m % 2 = 1 <;> simp [h2] <;> omega
theorem path_inj {t t' : Nat} (h : t < 100000) (h' : t' < 100000) (e : path t = path t') : t = t' := by
  have a := unpath_go 64 (t + 1) (by omega) (by omega)
  have b := unpath_go 64 (t' + 1) (by omega) (by omega)
  unfold path at e; rw [e] at a; omega

/-! The heap as a list. -/
theorem Hp.get_put (h : Hp) (k k' : Nat) (b : Blk) : (h.put k b).get k' = if k' = k then some b else h.get k' := by
  induction h with
  | nil => simp [Hp.put, Hp.get]
  | cons x h ih =>
    obtain ⟨q, c⟩ := x
    simp only [Hp.put]
    by_cases e : k = q
    · subst e; simp only [if_true, Hp.get]; by_cases e' : k' = k <;> simp [e']
    · simp only [e, if_false, Hp.get]
      by_cases e' : k' = q
      · subst e'; simp [Ne.symm e]
      · simp [e', ih]
theorem Hp.get_del (h : Hp) (k k' : Nat) : (h.del k).get k' = if k' = k then none else h.get k' := by
  induction h with
  | nil => simp [Hp.del, Hp.get]
  | cons x h ih =>
    obtain ⟨q, c⟩ := x
    simp only [Hp.del]
    by_cases e : k = q
    · subst e; simp only [if_true, ih, Hp.get]; by_cases e' : k' = k <;> simp [e']
    · simp only [e, if_false, Hp.get, ih]
      by_cases e' : k' = q
      · subst e'; simp [Ne.symm e]
      · simp [e']

/-! Values. -/
abbrev Mem := Nat → Nat → Option Value

inductive PRep (M : Mem) : PV → Value → Prop
  | bool (b : Bool) : PRep M (.bool b) (.bool b)
  | int (k : IntKind) (n : Int) : PRep M (.int k n) (.int k n)
  | flt (k : FloatKind) (b : Nat) : PRep M (.flt k b) (.float k b)
  | cpx (k : FloatKind) (x y : Nat) : PRep M (.cpx k x y) (.complex k x y)
  | str (s : ByteArray) : PRep M (.str s.data.toList) (.string s)
  | nilp : PRep M .nilp (.pointer none)
  | nilm : PRep M .nilm (.map none)
  | nilf : PRep M .nilf .nilFunc
  | nili : PRep M .nili .nilIface
  | fn (f : FuncId) : PRep M (.fn f) (.func (.func f) #[] #[])
  | none (z : Nat) (a : Option Addr) (cap : Nat) : PRep M (.list z []) (.slice a 0 cap)
  | list (z : Nat) (l : List (List PV)) (b o cap : Nat) (vals : Nat → Value) (hu : ∀ row, row ∈ l → row.length = z) (hc : l.length ≤ cap)
      (hm : ∀ i c, l.flatten[i]? = some c → M b (o + i) = some (vals i)) (hr : ∀ i c, l.flatten[i]? = some c → PRep M c (vals i)) :
      PRep M (.list z l) (.slice (some ⟨b, o, none⟩) l.length cap)
  | pp (cs : List PV) (o b base : Nat) (vals : Nat → Value) (hm : ∀ (i : Nat) c, cs[i]? = some c → M b (base + i) = some (vals i)) (hr : ∀ (i : Nat) c, cs[i]? = some c → PRep M c (vals i)) :
      PRep M (.pp cs o) (.pointer (some ⟨b, base + o, none⟩))
  | opq (v : Value) (h : v.oneCell' = true) : PRep M .opq v

def Mem.le (M M' : Mem) : Prop := ∀ b o v, M b o = some v → M' b o = some v
theorem Mem.le_refl (M : Mem) : M.le M := fun _ _ _ h => h
theorem Mem.le_trans {M M' M'' : Mem} (h : M.le M') (h' : M'.le M'') : M.le M'' := fun b o v e => h' b o v (h b o v e)

theorem PRep.mono {M M' : Mem} (h : M.le M') {c : PV} {v : Value} (r : PRep M c v) : PRep M' c v := by
  induction r with
  | list z l b o cap vals hu hc hm _ ih => exact .list z l b o cap vals hu hc (fun i c e => h _ _ _ (hm i c e)) ih
  | pp cs o b base vals hm _ ih => exact .pp cs o b base vals (fun i c e => h _ _ _ (hm i c e)) ih
  | bool b => exact .bool b
  | int k n => exact .int k n
  | flt k b => exact .flt k b
  | cpx k x y => exact .cpx k x y
  | str s => exact .str s
  | nilp => exact .nilp
  | nilm => exact .nilm
  | nilf => exact .nilf
  | nili => exact .nili
  | fn f => exact .fn f
  | none z a cap => exact .none z a cap
  | opq v hv => exact .opq v hv
theorem PRep.cell {M : Mem} {c : PV} {v : Value} (r : PRep M c v) : v.oneCell' = true := by cases r <;> first | rfl | assumption

def VRep (M : Mem) : PVal → Value → Prop
  | .one c, v => PRep M c v
  | .agg cs, v => ∃ vs, v = .agg vs ∧ All2 (PRep M) cs vs.toList
theorem VRep.mono {M M' : Mem} (h : M.le M') {x : PVal} {v : Value} (r : VRep M x v) : VRep M' x v := by
  cases x with
  | one c => exact PRep.mono h r
  | agg cs => obtain ⟨vs, e, r⟩ := r; exact ⟨vs, e, r.imp fun _ _ => PRep.mono h⟩

/-- How many cells a block has. -/
def bsz (w : World) (b : Nat) : Nat :=
  match w.heap[b]? with
  | some (.cells c _ _) => c.size
  | _ => 0

inductive CRep (U : Nat → Prop) (j : Nat → Option Nat) (M : Mem) (S : Nat → Nat) : C → Value → Prop
  | p {c : PV} {v : Value} (h : PRep M c v) : CRep U j M S (.p c) v
  | nils : CRep U j M S .nils (.slice none 0 0)
  | e0 (a : Option Addr) : CRep U j M S .e0 (.slice a 0 0)
  | ptr (k o B : Nat) (hu : U k) (h : ∀ B', j k = some B' → B' = B) : CRep U j M S (.ptr k o) (.pointer (some ⟨B, o, none⟩))
  | slc (k o n z : Nat) (a : Addr) (cap : Nat) (hu : U k) (hn : n ≤ cap) (h : ∀ B, j k = some B → (a = ⟨B, o, none⟩ ∧ o + cap * z ≤ S B) ∨ (n = 0 ∧ cap = 0)) :
      CRep U j M S (.slc k o n z) (.slice (some a) n cap)
  | map (k B : Nat) (hu : U k) (h : ∀ B', j k = some B' → B' = B) : CRep U j M S (.map k) (.map (some B))
  | clo (f : FuncId) (caps : List (Nat × Nat)) (vs : Array Value) (h : All2 (fun x v => U x.1 ∧ ∃ B, v = .pointer (some ⟨B, x.2, none⟩) ∧ ∀ B', j x.1 = some B' → B' = B) caps vs.toList) :
      CRep U j M S (.clo f caps) (.func (.func f) #[] vs)
  | dead (v : Value) (h : v.oneCell' = true) : CRep U j M S .dead v

theorem CRep.cell {U j M S} {c : C} {v : Value} (r : CRep U j M S c v) : v.oneCell' = true := by
  cases r <;> first | rfl | assumption | exact PRep.cell (by assumption)

/-- How a state goes on: nothing that is told of it turns false. -/
structure Ev (U : Nat → Prop) (j : Nat → Option Nat) (M : Mem) (S : Nat → Nat) (U' : Nat → Prop) (j' : Nat → Option Nat) (M' : Mem) (S' : Nat → Nat) : Prop where
  u : ∀ k, U k → U' k
  j : ∀ k B, U k → j' k = some B → j k = some B ∧ S' B = S B
  m : M.le M'

theorem Ev.refl (U j M S) : Ev U j M S U j M S := ⟨fun _ h => h, fun _ _ _ h => ⟨h, rfl⟩, Mem.le_refl M⟩
theorem Ev.trans {U j M S U' j' M' S' U'' j'' M'' S''} (h : Ev U j M S U' j' M' S') (h' : Ev U' j' M' S' U'' j'' M'' S'') : Ev U j M S U'' j'' M'' S'' :=
  ⟨fun k hk => h'.u k (h.u k hk), fun k B hk e => by
    obtain ⟨e1, s1⟩ := h'.j k B (h.u k hk) e
    obtain ⟨e2, s2⟩ := h.j k B hk e1
    exact ⟨e2, s1.trans s2⟩, Mem.le_trans h.m h'.m⟩

theorem CRep.ev {U j M S U' j' M' S'} (e : Ev U j M S U' j' M' S') {c : C} {v : Value} (r : CRep U j M S c v) : CRep U' j' M' S' c v := by
  cases r with
  | p h => exact .p (h.mono e.m)
  | nils => exact .nils
  | e0 a => exact .e0 a
  | ptr k o B hu h => exact .ptr k o B (e.u k hu) fun B' hb => h B' (e.j k B' hu hb).1
  | slc k o n z a cap hu hn h =>
    refine .slc k o n z a cap (e.u k hu) hn fun B hb => ?_
    obtain ⟨hb', hs⟩ := e.j k B hu hb
    rw [hs]; exact h B hb'
  | map k B hu h => exact .map k B (e.u k hu) fun B' hb => h B' (e.j k B' hu hb).1
  | clo f caps vs h =>
    exact .clo f caps vs (h.imp fun x v ⟨hu, B, hv, hb⟩ => ⟨e.u _ hu, B, hv, fun B' hb' => hb B' (e.j _ B' hu hb').1⟩)
  | dead v h => exact .dead v h

def partRep (U : Nat → Prop) (j : Nat → Option Nat) (M : Mem) (S : Nat → Nat) (x : Bool × List C) (v : Value) : Prop :=
  match x.1 with
  | true => ∃ vs, v = .agg vs ∧ All2 (CRep U j M S) x.2 vs.toList
  | false => ∃ c, x.2 = [c] ∧ CRep U j M S c v

def ARep (U : Nat → Prop) (j : Nat → Option Nat) (M : Mem) (S : Nat → Nat) : AV → Value → Prop
  | .u, _ => True
  | .p c, v => PRep M c v
  | .pa cs, v => ∃ vs, v = .agg vs ∧ All2 (PRep M) cs vs.toList
  | .r c, v => CRep U j M S c v
  | .ag cs, v => ∃ vs, v = .agg vs ∧ All2 (CRep U j M S) cs vs.toList
  | .tup l, v => ∃ vs, v = .tuple vs ∧ All2 (partRep U j M S) l vs.toList

theorem ARep.ev {U j M S U' j' M' S'} (e : Ev U j M S U' j' M' S') {x : AV} {v : Value} (r : ARep U j M S x v) : ARep U' j' M' S' x v := by
  cases x with
  | u => trivial
  | p c => exact PRep.mono e.m r
  | pa cs => obtain ⟨vs, hv, r⟩ := r; exact ⟨vs, hv, r.imp fun _ _ => PRep.mono e.m⟩
  | r c => exact CRep.ev e r
  | ag cs => obtain ⟨vs, hv, r⟩ := r; exact ⟨vs, hv, r.imp fun _ _ => CRep.ev e⟩
  | tup l =>
    obtain ⟨vs, hv, r⟩ := r
    refine ⟨vs, hv, r.imp fun x v h => ?_⟩
    obtain ⟨g, cs⟩ := x
    cases g with
    | true => obtain ⟨us, hu, h⟩ := h; exact ⟨us, hu, h.imp fun _ _ => CRep.ev e⟩
    | false => obtain ⟨c, hc, h⟩ := h; exact ⟨c, hc, h.ev e⟩

def entRep (M : Mem) (p : PVal × PVal) (e : MapEntry) : Prop := VRep M p.1 e.key ∧ VRep M p.2 e.val

def BRep (U : Nat → Prop) (j : Nat → Option Nat) (M : Mem) (w : World) : Blk → Nat → Prop
  | .cells m f cs, B => ∃ c lo hi, w.heap[B]? = some (.cells c m.ty (lo, hi)) ∧ cs.length ≤ c.size ∧ f ≤ cs.length ∧ (lo ≠ hi → hi ≤ f ∨ (m.mark = true ∧ c.size ≤ lo)) ∧
      ∀ (i : Nat) x, cs[i]? = some x → ∃ v, c[i]? = some v ∧ CRep U j M (bsz w) x v
  | .map es, B => ∃ en ck, w.heap[B]? = some (.map en ck) ∧ All2 (entRep M) es en.toList

/-- What a call began with. -/
structure Ctx where
  j0 : Nat → Option Nat
  M0 : Mem
  w0 : World
  nt : Nat

/-- The heaps fit. -/
structure RH (X : Ctx) (U : Nat → Prop) (j : Nat → Option Nat) (M : Mem) (h : Hp) (ar : Nat) (w : World) : Prop where
  hp : ∀ k b, h.get k = some b → ∃ B, j k = some B ∧ BRep U j M w b B
  dom : ∀ k B, j k = some B → U k ∧ ∃ b, h.get k = some b
  inj : ∀ k k' B, j k = some B → j k' = some B → k = k'
  mem : ∀ b o v, M b o = some v → w.cell? ⟨b, o, none⟩ = some v
  frz : ∀ k B m f cs, j k = some B → h.get k = some (.cells m f cs) → ∀ o v, M B o = some v → o < f
  own : ∀ k B, j k = some B → (∃ k0, X.j0 k0 = some B) ∨ X.w0.heap.size ≤ B
  frame : ∀ b, b < X.w0.heap.size → (∀ k, X.j0 k ≠ some b) → w.heap[b]? = X.w0.heap[b]?
  sub : X.M0.le M
  new : ∀ b o v, M b o = some v → X.M0 b o = some v ∨ (∃ k0, X.j0 k0 = some b) ∨ X.w0.heap.size ≤ b
  size : X.w0.heap.size ≤ w.heap.size
  env : w.os = X.w0.os ∧ w.tape = X.w0.tape ∧ w.output = X.w0.output
  shape : ∀ b, b < X.w0.heap.size → bsz w b = bsz X.w0 b
  arg : ∀ k B, k < ar → j k = some B → X.j0 k = some B

/-- The slots fit. -/
structure RT (X : Ctx) (U : Nat → Prop) (j : Nat → Option Nat) (M : Mem) (t : T) (a : Act) (w : World) : Prop where
  nt : a.tmps.size = X.nt
  le : X.nt ≤ 100000
  df : a.defers = []
  tm : ∀ i, i < 100000 → ARep U j M (bsz w) (t.get (path i)) (a.tmps.getD i undef)

structure R (X : Ctx) (U : Nat → Prop) (j : Nat → Option Nat) (M : Mem) (s : St) (a : Act) (w : World) : Prop where
  h : RH X U j M s.hp s.ar w
  t : RT X U j M s.tm a w

theorem RT.ev {X U j M t a w U' j' M' w'} (h : RT X U j M t a w) (e : Ev U j M (bsz w) U' j' M' (bsz w')) : RT X U' j' M' t a w' :=
  ⟨h.nt, h.le, h.df, fun i hi => (h.tm i hi).ev e⟩

theorem getD_set (xs : Array Value) (i d : Nat) (v u : Value) (hi : i < xs.size) : (xs.setIfInBounds i v).getD d u = if d = i then v else xs.getD d u := by
  by_cases e : d = i
  · subst e; simp [Array.getD_eq_getD_getElem?, hi]
  · simp [Array.getD_eq_getD_getElem?, Ne.symm e, e]

theorem RT.put {X U j M t a w} (h : RT X U j M t a w) (d : Nat) (hd : d < X.nt) {x : AV} {v : Value} (hv : ARep U j M (bsz w) x v) :
    RT X U j M (t.set (path d) x) (a.put (some d) v) w := by
  refine ⟨by simp [Act.put, h.nt], h.le, by simp [Act.put, h.df], fun i hi => ?_⟩
  simp only [Act.put]
  rw [getD_set _ _ _ _ _ (by rw [h.nt]; exact hd), T.get_set]
  by_cases e : i = d
  · subst e; simpa using hv
  · have hl := h.le
    have : path i ≠ path d := fun e' => e (path_inj hi (by omega) e')
    simp only [e, this, if_false]; exact h.tm i hi

theorem RT.drop {X U j M t a w} (h : RT X U j M t a w) (v : Value) : RT X U j M t (a.put none v) w := h

end Gv
