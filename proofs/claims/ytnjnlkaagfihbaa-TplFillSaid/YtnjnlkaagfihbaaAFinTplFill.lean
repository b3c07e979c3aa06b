/- 'Rows.TplFillSaid' of 'gloss/glosslaw7.TplFill': it returns true for every input. -/
import Derived.Test.YtnjnlkaagfihbaaRows
import Derived.WalkKit
import Derived.ProofKit
import Derived.OpenShut
import Derived.ShutString
import Derived.ChangeOld
import Derived.Below
import Derived.Test.YtnjnlkaagfihbaaAC7
import Derived.Test.YtnjnlkaagfihbaaAFitA
import Derived.Test.YtnjnlkaagfihbaaARunglosslaw7TplRuns
set_option linter.all false
namespace Go.Proofs.Ytnjnlkaagfihbaa.tplFill
open Go.ChangeShapes Go.WideShapes Go.ChangeAt Go.RowKit
open Go.ChangeMaps (open_string shut_string)
set_option linter.unusedVariables false

theorem own : ownKnob Try.prog.godebug = none := by kernel_rfl
theorem laidOut : laidOutB Try.prog = true := by kernel_rfl

/-- A slice of integers that came in. -/
def IsRow (k : IntKind) (w : World) (a : Option Addr) (len cap : Nat) (zs : List Int) : Prop :=
  (a = none ∧ len = 0 ∧ cap = 0 ∧ zs = []) ∨
  ∃ x, a = some x ∧ len ≤ cap ∧ cap ≤ Go.maxLen ∧ zs.length = cap ∧ (∀ i, i < zs.length → w.cell? (x.add i) = some (.int k (zs.getD i 0))) ∧ ∀ n ∈ zs, (Lit.int k n).wf = true

theorem row_of {H : Type} {enc : TypeId × Value → H} {W : World} {t e : TypeId} {v : Value} {d : DataW H} {p : List MemPlace} (ht : Try.prog.underlying t = some (.slice e)) (he : Try.prog.underlying e = some (.int .i64)) (hc : Try.prog.cellsOf e = 1)
    {fuel : Nat} (hf : DataW.trod enc Try.prog W 0 (fun _ => true) true fuel t [v] = some (d, p)) : ∃ a len cap zs, v = .slice a len cap ∧ IsRow .i64 W a len cap zs := by
  rcases open_ints ht he hc hf with ⟨hcs, _⟩ | ⟨x, l, c, zs, hcs, _, hl, hm, hz, _, hcell, hwz⟩
  · simp at hcs; subst hcs; exact ⟨_, _, _, [], rfl, .inl ⟨rfl, rfl, rfl, rfl⟩⟩
  · simp at hcs; subst hcs; exact ⟨_, _, _, zs, rfl, .inr ⟨_, rfl, hl, hm, by simpa using hz, hcell, hwz⟩⟩

theorem tpl_of {H : Type} {enc : TypeId × Value → H} {W : World} {c : Value} {x : DataW H × List MemPlace} {fuel : Nat} (hf : DataW.trod enc Try.prog W 0 (fun _ => true) true fuel 56 [c] = some x) : ∃ a len cap zs, c = .slice a len cap ∧ IsRow .i64 W a len cap zs := by
  obtain ⟨⟨y1, y2⟩, n0, _, _, h⟩ := trod_struct1 Try.underlying56 hf
  have hc : Try.prog.cellsOf 22 = 1 := by kernel_rfl
  simp only [List.drop_zero] at h
  rw [hc] at h
  exact row_of Try.underlying22 Try.underlying3 (by kernel_rfl) h

set_option maxRecDepth 100000 in
theorem tpl_arg {H : Type} {enc : TypeId × Value → H} {W : World} {r : Reach} {base : Nat} {v : Value} {d : DataW H} {p : List MemPlace} (hv : Value.okWide Try.prog W r base 56 v) (h : DataW.Trod enc Try.prog W 0 (fun _ => true) true 56 v d p) :
    ∃ a len cap zs, v = .agg #[.slice a len cap] ∧ IsRow .i64 W a len cap zs := by
  obtain ⟨cs, rfl, hsz⟩ := okWide_struct Try.underlying56 hv
  rw [show Try.prog.cellsOf 56 = 1 by kernel_rfl] at hsz
  match cs, hsz with
  | ⟨[c]⟩, _ =>
    obtain ⟨fu, hf⟩ := h
    obtain ⟨a, len, cap, z, rfl, w⟩ := tpl_of (c := c) (x := (d, p)) hf
    exact ⟨a, len, cap, z, rfl, w⟩

open Gv in
theorem walk (a0 : Option Addr) (len0 cap0 : Nat) (z0 : List Int) (a1 : Option Addr) (len1 cap1 : Nat) (z1 : List Int) (a2 : Option Addr) (len2 cap2 : Nat) (z2 : List Int) (a3 : Int) (w : World) (w0 : IsRow .i64 w a0 len0 cap0 z0) (w1 : IsRow .i64 w a1 len1 cap1 z1) (w2 : IsRow .i64 w a2 len2 cap2 z2) :
    Calls Try.prog 7 #[.agg #[.slice a0 len0 cap0], .slice a1 len1 cap1, .slice a2 len2 cap2, .int .i64 a3] w fun e w' => e = .returned (.bool true) ∧ Below w.heap.size w w' := by
  have hz : ∀ {a : Option Addr} {len cap : Nat} {zs : List Int}, IsRow .i64 w a len cap zs → (if len = 0 then 0 else 1) = 1 ∨ zs.take len = [] := by
    intro a len cap zs h; by_cases e : len = 0
    · right; subst e; rfl
    · left; rw [if_neg e]
  have h := tplFill_pc (if len0 = 0 then 0 else 1) (if len1 = 0 then 0 else 1) (if len2 = 0 then 0 else 1) (z0.take len0) (z1.take len1) (z2.take len2) a3 (hz w0) (hz w1) (hz w2) run_glosslaw7_TplRuns
  refine law_calls fits runs mixed h ?_
  refine ⟨⟨_, rfl, ints_rep w0, trivial⟩, ints_rep w1, ints_rep w2, .int .i64 a3, trivial⟩

set_option maxRecDepth 100000 in
set_option maxHeartbeats 4000000 in
theorem lifted (os : Os) (started : os.Started) (H : Type) (enc : TypeId × Value → H) :
    ReturnsInHanded {} Try.checked os 7 .any (Rows.tplFillSpec.pre6 enc Try.prog Try.f7 Rows.tplFillRow.domain false) (Rows.tplFillSpec.post enc Try.prog Try.f7 false true false false) := by
  refine returnsInHanded_of_change (C := Try.checked) own started (by kernel_rfl) Try.func7
    (ChangeSpec.witness6 (enc := enc) (C := Try.checked) false ⟨#[], #[.agg #[.slice none 0 0], .slice none 0 0, .slice none 0 0, .int .i64 0], []⟩ 8 (by kernel_rfl) (by kernel_rfl) (by kernel_rfl) (by kernel_rfl)) ?_
  intro W base args ds gs before hval0 hW hcnd _
  have hval : ∀ (j : Nat) t v, Try.f7.params[j]? = some t → args[j]? = some v → Value.okWide Try.prog W .any base t v := hval0
  have hW' := hW
  obtain ⟨p, q, hA0, hV, rfl, hfz, hnd⟩ := hW
  have hA : DataW.TrodAll enc Try.prog W 0 (fun _ => true) true Try.f7.params.toList args.toList ds p := hA0
  rw [Try.params7] at hA hval
  obtain ⟨v0, vs0, d0, ds0, p0, q0, hargs, rfl, rfl, h0, r0⟩ := trodAll_cons hA
  obtain ⟨v1, vs1, d1, ds1, p1, q1, rfl, rfl, rfl, h1, r1⟩ := trodAll_cons r0
  obtain ⟨v2, vs2, d2, ds2, p2, q2, rfl, rfl, rfl, h2, r2⟩ := trodAll_cons r1
  obtain ⟨v3, vs3, d3, ds3, p3, q3, rfl, rfl, rfl, h3, r3⟩ := trodAll_cons r2
  obtain ⟨rfl, rfl, rfl⟩ := trodAll_nil r3
  obtain rfl : args = #[v0, v1, v2, v3] := by cases args; simp_all
  obtain ⟨rfl, rfl⟩ := trodVars_none hV
  have lt : ∀ {t : TypeId} {v : Value} {d : DataW H} {p : List MemPlace}, DataW.Trod enc Try.prog W 0 (fun _ => true) true t v d p → ∀ x ∈ p, x.block < W.heap.size := by
    intro t v d p h; obtain ⟨m, hm⟩ := h; exact DataW.trod_lt m _ _ _ hm
  have k0 := h0
  have k1 := h1
  have k2 := h2
  have k3 := h3
  obtain ⟨a0, len0, cap0, z0, rfl, w0⟩ := tpl_arg (hval 0 56 v0 rfl rfl) h0
  obtain ⟨a1', len1', cap1', rfl⟩ := okWide_slice Try.underlying22 (hval 1 22 v1 rfl rfl)
  obtain ⟨fu1, hf1⟩ := h1
  obtain ⟨a1, len1, cap1, z1, e1, w1⟩ := row_of Try.underlying22 Try.underlying3 (by kernel_rfl) (by simpa [Value.cells] using hf1)
  cases e1
  obtain ⟨a2', len2', cap2', rfl⟩ := okWide_slice Try.underlying22 (hval 2 22 v2 rfl rfl)
  obtain ⟨fu2, hf2⟩ := h2
  obtain ⟨a2, len2, cap2, z2, e2, w2⟩ := row_of Try.underlying22 Try.underlying3 (by kernel_rfl) (by simpa [Value.cells] using hf2)
  cases e2
  obtain ⟨a3, rfl, rfl, rfl, w3⟩ := open_int Try.underlying3 (hval 3 3 v3 rfl rfl) h3
  clear hA0 hval0
  refine (walk a0 len0 cap0 z0 a1' len1' cap1' z1 a2' len2' cap2' z2 a3 W w0 w1 w2).mono fun e W' ⟨he, bel⟩ => ?_
  subst he
  exact ⟨_, rfl, _, _, _, [], _, [], hW', trodAll_mk1 (shut_bool Try.underlying4 _), (trodAll_cons_mk (Below.trod laidOut (by kernel_rfl) (of_decide_eq_true (by kernel_rfl)) k0 bel (lt k0)) (trodAll_cons_mk (Below.trod laidOut (by kernel_rfl) (of_decide_eq_true (by kernel_rfl)) k1 bel (lt k1)) (trodAll_cons_mk (Below.trod laidOut (by kernel_rfl) (of_decide_eq_true (by kernel_rfl)) k2 bel (lt k2)) (trodAll_cons_mk (shut_int Try.underlying3 w3) trodAll_mk0)))), rfl, bel.frame _, fun h => by cases h⟩

theorem over : Rows.tplFillRow.holds Try.pinned (OpenSpec.ofChange Rows.tplFillSpec) :=
  OpenClaim.holds_of_wide 7 Try.f7 rfl rfl rfl rfl rfl rfl rfl ⟨rfl, rfl, rfl, rfl, rfl⟩ rfl rfl rfl rfl rfl (by kernel_rfl) Try.func7 (by kernel_rfl)
    (of_decide_eq_true (by kernel_rfl)) (by unfold Func.isWrapper; rw [if_neg (of_decide_eq_false (by kernel_rfl))]; exact ⟨rfl, rfl⟩)
    (fun os started H enc _ => lifted os started H enc)

theorem proved : Rows.TplFillSaid := over
end Go.Proofs.Ytnjnlkaagfihbaa.tplFill
#print axioms Go.Proofs.Ytnjnlkaagfihbaa.tplFill.proved
