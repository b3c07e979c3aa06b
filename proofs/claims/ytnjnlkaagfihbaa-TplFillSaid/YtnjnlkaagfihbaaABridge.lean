/- From a run of the value machine to a call of the model. -/
import Derived.Test.YtnjnlkaagfihbaaACode4
import Derived.Test.YtnjnlkaagfihbaaASx
import Derived.Below
set_option linter.all false
namespace Gv
open Go Go.RowKit

/-- A function fits the program's. -/
def FitOne (P : Program) (f : Nat) (v : VFn) : Prop :=
  ∃ fu c, P.funcs[f]? = some fu ∧ fu.name ≠ "runtime.NumGoroutine" ∧ fu.body = some c ∧ v.mode.runs = true ∧ FitsAt P v fu c

def FitAll (P : Program) : Nat → List (Option VFn) → Prop
  | _, [] => True
  | i, none :: l => FitAll P (i + 1) l
  | i, some v :: l => FitOne P i v ∧ FitAll P (i + 1) l

theorem FitAll.n {P : Program} {i : Nat} {l : List (Option VFn)} (h : FitAll P (i + 1) l) : FitAll P i (none :: l) := h
theorem FitAll.s {P : Program} {i : Nat} {l : List (Option VFn)} {v : VFn} (hv : FitOne P i v) (h : FitAll P (i + 1) l) : FitAll P i (some v :: l) := ⟨hv, h⟩
theorem FitAll.get {P : Program} : ∀ {l : List (Option VFn)} {i k : Nat} {v : VFn}, FitAll P i l → l[k]? = some (some v) → FitOne P (i + k) v
  | [], _, _, _, _, e => by simp at e
  | none :: l, i, 0, v, _, e => by simp at e
  | none :: l, i, k + 1, v, h, e => by
    simp only [List.getElem?_cons_succ] at e
    have := FitAll.get (i := i + 1) h e
    rwa [show i + 1 + k = i + (k + 1) by omega] at this
  | some x :: l, i, 0, v, h, e => by
    simp at e; subst e; exact h.1
  | some x :: l, i, k + 1, v, h, e => by
    simp only [List.getElem?_cons_succ] at e
    have := FitAll.get (i := i + 1) h.2 e
    rwa [show i + 1 + k = i + (k + 1) by omega] at this

theorem fits_of {P : Program} {F : Fns} {l : List (Option VFn)} (hF : ∀ f v, F f = some v → l[f]? = some (some v)) (h : FitAll P 0 l) : Fits P F := by
  intro f v hf
  obtain ⟨fu, c, h1, h2, h3, h4, h5⟩ := FitAll.get h (hF f v hf)
  rw [Nat.zero_add] at h1
  refine ⟨fu, c, h1, h2, h3, fun p hp => ?_, fun g hg => ?_, fun g hg => ?_, fun _ => h5⟩
  · rw [hp] at h4; cases h4
  · rw [hg] at h4; cases h4
  · rw [hg] at h4; cases h4

theorem FitAll.runs {P : Program} {F : Fns} {l : List (Option VFn)} (hF : ∀ f v, F f = some v → l[f]? = some (some v)) (h : FitAll P 0 l) : ∀ f fn, F f = some fn → fn.mode.runs = true := by
  intro f v hf
  obtain ⟨fu, c, h1, h2, h3, h4, h5⟩ := FitAll.get h (hF f v hf)
  exact h4

/-- A law of values that answers true: the call answers true and leaves all as it was. -/
theorem law_calls {P : Program} {F : Fns} (hF : Fits P F) (hm : ∀ f fn, F f = some fn → fn.mode.runs = true) (hmix : P.follows .mixedOrders = true) {f : FuncId} {args : List PVal} (e : pcall F f args = some [.one (.bool true)])
    {w : World} {xs : Array Value} (hx : All2 (VRep fun b o => w.cell? ⟨b, o, none⟩) args xs.toList) : Calls P f xs w fun e w' => e = .returned (.bool true) ∧ Below w.heap.size w w' := by
  obtain ⟨n, e⟩ := pcall_n e
  refine (pcall_calls hF hmix e (hm f) (fun _ _ _ h => h) hx).mono fun en w' h => ?_
  cases en with
  | returned v =>
    obtain ⟨M', us, hv, hus, _, _, _, hb, hs, ho, ht, hp⟩ := h
    have hl := hus.len
    match us, hus, hl, hv with
    | ⟨[u]⟩, hus, _, hv =>
      obtain ⟨h1, _⟩ := hus
      cases h1
      simp at hv
      exact ⟨by rw [hv], ⟨ho, ht, hp, hs, hb⟩⟩
  | _ => exact h.elim

/-- A row of integers that came in. -/
theorem ints_rep {k : IntKind} {w : World} {a : Option Addr} {len cap : Nat} {zs : List Int} (h : (a = none ∧ len = 0 ∧ cap = 0 ∧ zs = []) ∨ ∃ x, a = some x ∧ len ≤ cap ∧ cap ≤ Go.maxLen ∧ zs.length = cap ∧ (∀ i, i < zs.length → w.cell? (x.add i) = some (.int k (zs.getD i 0))) ∧ ∀ n ∈ zs, (Lit.int k n).wf = true) :
    VRep (fun b o => w.cell? ⟨b, o, none⟩) (.one (.list (if len = 0 then 0 else 1) ((zs.take len).map fun n => [.int k n]))) (.slice a len cap) := by
  rcases h with ⟨rfl, rfl, rfl, rfl⟩ | ⟨⟨b, o, p⟩, rfl, hl, hm, hz, hc, hw⟩
  · exact .none 0 _ _
  · by_cases e : len = 0
    · subst e; simp only [List.take_zero, List.map_nil, if_true]; exact .none 0 _ _
    · have h0 := hc 0 (by omega)
      have hp : p = none := by
        simp only [Addr.add, if_true, World.cell?] at h0
        split at h0
        · split at h0
          · cases h0
          · rename_i h; simpa using h
        · cases h0
      subst hp
      have hr : ∀ i c, ((zs.take len).map fun n => [PV.int k n]).flatten[i]? = some c → i < len ∧ c = .int k (zs.getD i 0) := by
        intro i c hi
        have : ((zs.take len).map fun n => [PV.int k n]).flatten = (zs.take len).map (PV.int k) := by
          generalize zs.take len = l
          induction l with
          | nil => rfl
          | cons x l ih => simp [ih]
        rw [this, List.getElem?_map, List.getElem?_take] at hi
        split at hi
        · rename_i hi'
          refine ⟨hi', ?_⟩
          have : i < zs.length := by omega
          rw [List.getElem?_eq_getElem this] at hi
          simp at hi
          rw [← hi]; simp [List.getD_eq_getElem?_getD, this]
        · simp at hi
      have hlen : ((zs.take len).map fun n => [PV.int k n]).length = len := by simp; omega
      have : VRep (fun b o => w.cell? ⟨b, o, none⟩) (.one (.list 1 ((zs.take len).map fun n => [PV.int k n]))) (.slice (some ⟨b, o, none⟩) ((zs.take len).map fun n => [PV.int k n]).length cap) := by
        refine PRep.list 1 _ b o cap (fun i => .int k (zs.getD i 0)) (fun row h => ?_) (by omega) (fun i c hi => ?_) (fun i c hi => ?_)
        · obtain ⟨_, _, rfl⟩ := List.mem_map.1 h; rfl
        · obtain ⟨h1, _⟩ := hr i c hi
          have := hc i (by omega)
          simp only [Addr.add] at this
          by_cases ei : i = 0
          · subst ei; simpa using this
          · simpa [ei] using this
        · obtain ⟨_, h2⟩ := hr i c hi
          subst h2; exact .int k _
      rw [hlen] at this
      simp only [if_neg e]; exact this
end Gv
