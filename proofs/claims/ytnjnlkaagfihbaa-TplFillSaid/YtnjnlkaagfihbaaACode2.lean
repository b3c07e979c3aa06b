/- Regions. -/
import Derived.Test.YtnjnlkaagfihbaaACode
set_option linter.all false
namespace Gv
open Go

section
variable {X : Ctx} {U : Nat → Prop} {j : Nat → Option Nat} {M : Mem} {w : World} {P : Program} {F : Fns} {rec : Rec}

theorem cOper_spec {ops : List Oper} {an : List Nat} {o : Oper} : (∃ g, cGuard ops o = some g ∧ (cOper P ops an o).guard = g ∧ (cOper P ops an o).dst = o.dst.map path ∧ (cOper P ops an o).anc = an ∧ ((∃ v, cOp P o = some v ∧ (cOper P ops an o).op = v) ∨ (cOper P ops an o).op = .bad)) ∨
    ((cOper P ops an o).guard = none ∧ (cOper P ops an o).op = .bad) := by
  unfold cOper
  split
  · rename_i g v h1 h2; exact .inl ⟨g, h1, rfl, rfl, rfl, .inl ⟨v, h2, rfl⟩⟩
  · rename_i g h1 h2; exact .inl ⟨g, h1, rfl, rfl, rfl, .inr rfl⟩
  · exact .inr ⟨rfl, rfl⟩

theorem wanted_sound {s : St} {a : Act} (r : R X U j M s a w) {ops : Array Oper} {o : Oper} {g : Option (Reg × Bool)} (hg : cGuard ops.toList o = some g) {b : Bool} (hw : wanted s g = some b) : Region.wanted o (yielded ops a.tmps) = b := by
  unfold cGuard at hg
  unfold Region.wanted
  split at hg
  · rename_i h0
    injection hg with hg; subst hg
    simp only [wanted] at hw; injection hw with hw
    rw [h0]; exact hw
  · rename_i jj want h0
    rw [h0]
    split at hg
    · rename_i d hd
      split at hg
      · rename_i hlt
        injection hg with hg; subst hg
        have hv := r.t.tm d hlt
        have hd' : (ops[jj]?).bind (·.dst) = some d := by simpa using hd
        simp only [wanted] at hw
        have hy : yielded ops a.tmps jj = match a.tmps[d]? with | some (.bool b) => some b | _ => none := by
          unfold yielded; rw [hd']; rfl
        simp only [hy]
        split at hw
        · rename_i b' e
          rw [e] at hv
          have := prep_bool hv
          injection hw with hw
          have h1 : a.tmps[d]? = some (.bool b') := by
            rw [Array.getD_eq_getD_getElem?] at this
            cases hq : a.tmps[d]? with
            | none => rw [hq] at this; simp [undef] at this
            | some v => rw [hq] at this; simp at this; rw [this]
          rw [h1]
          simp only
          rw [← hw]
          cases b' <;> cases want <;> rfl
        · rename_i e
          rw [e] at hv
          obtain ⟨vs, h2, _⟩ := hv
          injection hw with hw; subst hw
          cases hq : a.tmps[d]? with
          | none => rfl
          | some v =>
            rw [Array.getD_eq_getD_getElem?, hq] at h2
            simp at h2; subst h2; rfl
        · cases hw
      · cases hg
    · cases hg

theorem undef_rep {S : Nat → Nat} : ARep U j M S (.tup []) undef := ⟨#[], rfl, trivial⟩

/-- One operation of a region, wanted or not. -/
theorem one_sound (hF : Fits P F) (hb : BodyOK P rec) {s : St} {a : Act} (r : R X U j M s a w) {fk : Nat} (hfr : ∀ k, fk ≤ k → k < fk + stride → ¬ U k) (ha : s.ar ≤ fk) {ops : Array Oper} {an : List Nat} {o : Oper} (hd : ∀ d, o.dst = some d → d < X.nt) {b : Bool} {v : AV} {u : Upd}
    (hw : wanted s (cOper P ops.toList an o).guard = some b) (hy : b = true → opStep F rec s fk (cOper P ops.toList an o).op = some (v, u)) (hn : b = false → v = .tup [] ∧ u = []) {K : Act → World → Prop} {Q : Go.Exit → Act → World → Prop}
    (hK : ∀ U' j' M' a' w', R X U' j' M' ({ s with hp := s.hp.upd u }.put (cOper P ops.toList an o).dst v) a' w' → (∀ k, U' k → U k ∨ (fk ≤ k ∧ k < fk + stride)) → K a' w') :
    if Region.wanted o (yielded ops a.tmps) = true then o.wp P a w K Q ∨ (o.asks P a w ∧ LetsOut Q) else K (a.put o.dst undef) w := by
  rcases cOper_spec (P := P) (ops := ops.toList) (an := an) (o := o) with ⟨g, hg, e1, e2, _, e3⟩ | ⟨e1, e2⟩
  · rw [e1] at hw
    have hws := wanted_sound r hg hw
    rw [hws]
    cases b with
    | false =>
      simp only [Bool.false_eq_true, if_false]
      obtain ⟨rfl, rfl⟩ := hn rfl
      refine hK U j M _ w ?_ fun _ h => .inl h
      rw [e2]
      exact r.step hd r.h (Ev.refl _ _ _ _) undef_rep
    | true =>
      simp only [if_true]
      left
      have hy' := hy rfl
      rcases e3 with ⟨vo, hc, e3⟩ | e3
      · rw [e3] at hy'
        exact oper_sound hF hb r hfr ha hc hd hy' fun U' j' M' a' w' r' hu => hK U' j' M' a' w' (by rw [e2]; exact r') hu
      · rw [e3] at hy'; simp [opStep, step] at hy'
  · rw [e1] at hw
    simp only [wanted] at hw
    injection hw with hw; subst hw
    have hy' := hy rfl
    rw [e2] at hy'; simp [opStep, step] at hy'

theorem wpOp_eq {ops : Array Oper} {Q : Go.Exit → Act → World → Prop} {i : Nat} {o : Oper} (ho : ops[i]? = some o) {K : Act → World → Prop} {a : Act}
    (h : if Region.wanted o (yielded ops a.tmps) = true then o.wp P a w K Q ∨ (o.asks P a w ∧ LetsOut Q) else K (a.put o.dst undef) w) : wpOp P ops Q i K a w := by
  unfold wpOp; rw [ho]; exact h

/-- A region in its text's order. -/
theorem ops_sound (hF : Fits P F) (hb : BodyOK P rec) (ops : Array Oper) (base : Nat) (Q : Go.Exit → Act → World → Prop) (s' : St) (hd : ∀ (i : Nat) (o : Oper), ops[i]? = some o → ∀ d, o.dst = some d → d < X.nt) :
    ∀ (n i : Nat), i + n = ops.size → ∀ U j M s a w, R X U j M s a w → (∀ k, U k → k < base + stride * i) → s.ar ≤ base → runOps F rec false base i ((ops.toList.drop i).map fun o => cOper P ops.toList [] o) [] s = some s' →
      (∀ U' j' M' a' w', R X U' j' M' s' a' w' → (∀ k, U' k → k < base + stride * ops.size) → s'.ar = s.ar → s'.nx = s.nx → Q .normal a' w') → wpOps P ops Q (List.range' i n) a w
  | 0, i, hi, U, j, M, s, a, w, r, hu, har, hrun, hQ => by
    have : ops.toList.drop i = [] := List.drop_eq_nil_of_le (by simp; omega)
    rw [this] at hrun
    simp [runOps] at hrun; subst hrun
    have hi' : i = ops.size := by omega
    exact hQ U j M a w r (by rw [← hi']; exact hu) rfl rfl
  | n + 1, i, hi, U, j, M, s, a, w, r, hu, har, hrun, hQ => by
    have hlt : i < ops.size := by omega
    have hlt' : i < ops.toList.length := by simpa using hlt
    have hoi : ops[i]? = some ops[i] := Array.getElem?_eq_getElem hlt
    rw [List.drop_eq_getElem_cons hlt', List.map_cons] at hrun
    have hel : ops.toList[i] = ops[i] := by simp
    rw [hel] at hrun
    rw [List.range'_succ, wpOps_cons]
    refine wpOp_eq hoi ?_
    have hfr : ∀ k, base + stride * i ≤ k → k < base + stride * i + stride → ¬ U k := fun k h1 _ hk => by have := hu k hk; omega
    simp only [runOps] at hrun
    split at hrun
    · rename_i hw
      split at hrun
      · rename_i v u hst
        simp only [Bool.false_eq_true, if_false] at hrun
        refine one_sound hF hb r hfr (Nat.le_trans har (Nat.le_add_right _ _)) (hd i _ hoi) hw (fun _ => hst) (fun h => by cases h) fun U' j' M' a' w' r' hu' => ?_
        have hp := put_put (s := s) (u := u) (dst := (cOper P ops.toList [] ops[i]).dst) (v := v)
        refine ops_sound hF hb ops base Q s' hd n (i + 1) (by omega) U' j' M' _ a' w' r' (fun k hk => ?_) (by rw [hp.2.1]; exact har) hrun fun U2 j2 M2 a2 w2 r2 hu2 ha2 hn2 => hQ U2 j2 M2 a2 w2 r2 hu2 (by rw [ha2, hp.2.1]) (by rw [hn2, hp.2.2])
        rcases hu' k hk with h1 | h1
        · have := hu k h1; unfold stride at *; omega
        · unfold stride at *; omega
      · cases hrun
    · rename_i hw
      refine one_sound hF hb r hfr (Nat.le_trans har (Nat.le_add_right _ _)) (v := .tup []) (u := []) (hd i _ hoi) hw (fun h => by cases h) (fun _ => ⟨rfl, rfl⟩) fun U' j' M' a' w' r' hu' => ?_
      have hp := put_put (s := s) (u := []) (dst := (cOper P ops.toList [] ops[i]).dst) (v := .tup [])
      have e : ({ s with hp := s.hp.upd [] } : St) = s := rfl
      rw [e] at hp r'
      refine ops_sound hF hb ops base Q s' hd n (i + 1) (by omega) U' j' M' _ a' w' r' (fun k hk => ?_) (by rw [hp.2.1]; exact har) hrun fun U2 j2 M2 a2 w2 r2 hu2 ha2 hn2 => hQ U2 j2 M2 a2 w2 r2 hu2 (by rw [ha2, hp.2.1]) (by rw [hn2, hp.2.2])
      rcases hu' k hk with h1 | h1
      · have := hu k h1; unfold stride at *; omega
      · unfold stride at *; omega
    · cases hrun

end

end Gv
