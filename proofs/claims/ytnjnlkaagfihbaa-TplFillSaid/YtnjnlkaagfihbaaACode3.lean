/- Regions whose order is drawn. -/
import Derived.Test.YtnjnlkaagfihbaaACode2
set_option linter.all false
namespace Gv
open Go

/-! What must stand ahead. -/
def ancF (acc : List (List Nat)) (o : Oper) : List Nat := ((o.after.toList.filter (Region.binds .any)).flatMap fun e => e.on :: acc.getD e.on []).eraseDups

theorem ancs_eq (ops : List Oper) : ancs ops = ops.foldl (fun acc o => acc ++ [ancF acc o]) [] := rfl

theorem ancs_fold : ∀ (ops : List Oper) (acc : List (List Nat)),
    (ops.foldl (fun acc o => acc ++ [ancF acc o]) acc).length = acc.length + ops.length ∧ (∀ m, m < acc.length → (ops.foldl (fun acc o => acc ++ [ancF acc o]) acc)[m]? = acc[m]?) ∧
    ∀ (n : Nat) (o : Oper), ops[n]? = some o → ∃ acc', acc'.length = acc.length + n ∧ (∀ m, m < acc'.length → (ops.foldl (fun acc o => acc ++ [ancF acc o]) acc)[m]? = acc'[m]?) ∧ (ops.foldl (fun acc o => acc ++ [ancF acc o]) acc)[acc.length + n]? = some (ancF acc' o)
  | [], acc => by simp
  | o0 :: ops, acc => by
    obtain ⟨h1, h2, h3⟩ := ancs_fold ops (acc ++ [ancF acc o0])
    simp only [List.foldl_cons]
    refine ⟨by rw [h1]; simp; omega, fun m hm => ?_, fun n o ho => ?_⟩
    · rw [h2 m (by simp; omega), List.getElem?_append_left hm]
    · cases n with
      | zero =>
        simp at ho; subst ho
        refine ⟨acc, by simp, fun m hm => by rw [h2 m (by simp; omega), List.getElem?_append_left hm], ?_⟩
        rw [Nat.add_zero, h2 _ (by simp)]; simp
      | succ n =>
        obtain ⟨acc', g1, g2, g3⟩ := h3 n o (by simpa using ho)
        refine ⟨acc', by simp at g1; omega, g2, ?_⟩
        simp at g3
        rw [show acc.length + (n + 1) = acc.length + 1 + n by omega]; exact g3

def edgesIn (D : Nat → Bool) (o : Oper) : Prop := ∀ e, e ∈ o.after → Region.binds .any e = true → D e.on = true

theorem anc_sub {ops : List Oper} (hdraw : ∀ (n : Nat) (o : Oper), ops[n]? = some o → ∀ e, e ∈ o.after → Region.binds .any e = true → e.on < n) {D : Nat → Bool} (hD : ∀ (n : Nat) (o : Oper), ops[n]? = some o → D n = true → edgesIn D o) :
    ∀ (N n : Nat) (o : Oper), n < N → ops[n]? = some o → edgesIn D o → ∀ an, (ancs ops)[n]? = some an → ∀ x, x ∈ an → D x = true
  | 0, _, _, h, _, _, _, _, _, _ => by omega
  | N + 1, n, o, hn, ho, he, an, ha, x, hx => by
    rw [ancs_eq] at ha
    obtain ⟨acc', g1, g2, g3⟩ := (ancs_fold ops []).2.2 n o ho
    simp only [List.length_nil, Nat.zero_add] at g1 g3
    rw [g3] at ha; injection ha with ha; subst ha
    unfold ancF at hx
    rw [List.mem_eraseDups] at hx
    simp only [List.mem_flatMap, List.mem_filter, Array.mem_toList_iff, List.mem_cons] at hx
    obtain ⟨e, ⟨h1, h2⟩, h3⟩ := hx
    have hDe := he e h1 h2
    rcases h3 with rfl | h3
    · exact hDe
    · have hlt := hdraw n o ho e h1 h2
      have hg := g2 e.on (by omega)
      have : acc'[e.on]? = some (acc'.getD e.on []) := by
        rw [List.getD_eq_getElem?_getD, List.getElem?_eq_getElem (by omega)]; rfl
      rw [this] at hg
      have hlen : e.on < ops.length := by have := (List.getElem?_eq_some_iff.1 ho).1; omega
      exact anc_sub hdraw hD N e.on ops[e.on] (by omega) (List.getElem?_eq_getElem hlen) (hD _ _ (List.getElem?_eq_getElem hlen) hDe) _ (by rw [ancs_eq]; exact hg) x h3

section
variable {X : Ctx} {P : Program} {F : Fns} {rec : Rec}

/-- Counted from the end: how many are not done. -/
def left (D : Nat → Bool) : Nat → Nat
  | 0 => 0
  | n + 1 => left D n + if D n then 0 else 1

theorem left_zero {D : Nat → Bool} : ∀ {n : Nat}, left D n = 0 → ∀ i, i < n → D i = true
  | 0, _, i, h => by omega
  | n + 1, h, i, hi => by
    simp only [left] at h
    by_cases e : i = n
    · subst e; by_cases c : D i = true
      · exact c
      · simp [c] at h
    · exact left_zero (n := n) (by omega) i (by omega)

theorem left_add {D : Nat → Bool} {i : Nat} (hD : D i = false) : ∀ {n : Nat}, i < n → left (addD D i) n + 1 = left D n
  | 0, h => by omega
  | n + 1, h => by
    simp only [left]
    by_cases e : i = n
    · subst e
      have : ∀ m, m ≤ i → left (addD D i) m = left D m := by
        intro m hm
        induction m with
        | zero => rfl
        | succ m ih => simp only [left]; rw [ih (by omega)]; simp [addD, show m ≠ i by omega]
      rw [this i (Nat.le_refl _)]
      simp [addD, hD]
    · have := left_add hD (n := n) (by omega)
      simp only [addD, show (n == i) = false by simp; omega, Bool.false_or]
      omega

theorem any_sound (hF : Fits P F) (hb : BodyOK P rec) (ops : Array Oper) (base : Nat) (Q : Go.Exit → Act → World → Prop) (s0 : St) (es : List Ent) (hd : ∀ (i : Nat) (o : Oper), ops[i]? = some o → ∀ d, o.dst = some d → d < X.nt)
    (hdraw : ∀ (n : Nat) (o : Oper), ops[n]? = some o → ∀ e, e ∈ o.after → Region.binds .any e = true → e.on < n)
    (hes : es.map (·.o) = (ops.toList.zip (ancs ops.toList)).map fun (o, an) => cOper P ops.toList an o)
    (hturn : ∀ (n : Nat) (e : Ent), es[n]? = some e → TurnOK F rec base n e ((es.take n).foldl (fun s e => e.app s) s0))
    (hpair : ∀ (n : Nat) (e : Ent) (m : Nat) (e' : Ent), es[n]? = some e → es[m]? = some e' → m < n → apartE e' m e ∧ slotsFine e'.o m e.o = true) (har : s0.ar ≤ base)
    (hQ : ∀ U j M a w, R X U j M (es.foldl (fun s e => e.app s) s0) a w → (∀ k, U k → k < base + stride * ops.size) → Q .normal a w) :
    ∀ (fuel : Nat) (listed : Array Bool) (D : Nat → Bool) U j M a w, listed.size = ops.size → (∀ i, i < ops.size → listed.getD i true = D i) → (∀ i, D i = true → i < ops.size) →
      (∀ (n : Nat) (o : Oper), ops[n]? = some o → D n = true → edgesIn D o) → left D ops.size ≤ fuel → R X U j M (SD D 0 es s0) a w → (∀ k, U k → k < base ∨ ∃ i, D i = true ∧ base + stride * i ≤ k ∧ k < base + stride * i + stride) → wpAny P .any ops Q fuel listed a w := by
  have hlen : (ancs ops.toList).length = ops.size := by
    rw [ancs_eq]; have := (ancs_fold ops.toList []).1; simpa using this
  have hel : es.length = ops.size := by
    have := congrArg List.length hes
    simpa [hlen] using this
  have heo : ∀ (n : Nat) (o : Oper), ops[n]? = some o → ∃ e an, es[n]? = some e ∧ (ancs ops.toList)[n]? = some an ∧ e.o = cOper P ops.toList an o := by
    intro n o ho
    have hlt := (Array.getElem?_eq_some_iff.1 ho).1
    have h1 : es[n]? = some (es[n]'(by omega)) := List.getElem?_eq_getElem (by omega)
    have h2 : (ancs ops.toList)[n]? = some ((ancs ops.toList)[n]'(by omega)) := List.getElem?_eq_getElem (by omega)
    refine ⟨_, _, h1, h2, ?_⟩
    have h3 := congrArg (fun l => l[n]?) hes
    simp only [List.getElem?_map, h1, Option.map_some] at h3
    have h4 : (ops.toList.zip (ancs ops.toList))[n]? = some (o, (ancs ops.toList)[n]'(by omega)) := by
      rw [List.getElem?_zip_eq_some]; exact ⟨by simpa using ho, h2⟩
    rw [h4] at h3
    simpa using h3
  intro fuel
  induction fuel with
  | zero =>
    intro listed D U j M a w hls hl hDs hDc hfuel r hu
    have hall := left_zero (Nat.le_zero.1 hfuel)
    refine ⟨?_, ?_⟩
    · cases hr : Region.ready .any ops listed with
      | nil => rfl
      | cons x l =>
        have hx : x ∈ Region.ready .any ops listed := by rw [hr]; simp
        obtain ⟨h1, o, h2, _⟩ := mem_ready.1 hx
        have hlt := (Array.getElem?_eq_some_iff.1 h2).1
        rw [hl x hlt, hall x hlt] at h1; cases h1
    · have e : SD D 0 es s0 = es.foldl (fun s e => e.app s) s0 := by
        have h1 := SD_take (fun m => decide (m < ops.size)) ops.size es 0 s0 (fun m => by simp)
        rw [List.take_of_length_le (by omega)] at h1
        rw [← h1]
        congr 1
        funext m
        by_cases c : m < ops.size
        · simp [c, hall m c]
        · have : D m = false := by
            cases h : D m with
            | false => rfl
            | true => exact (c (hDs m h)).elim
          simp [c, this]
      rw [e] at r
      exact hQ U j M a w r fun k hk => by
        rcases hu k hk with h1 | ⟨i, h1, h2, h3⟩
        · unfold stride; omega
        · have := hDs i h1; unfold stride at *; omega
  | succ fuel ih =>
    intro listed D U j M a w hls hl hDs hDc hfuel r hu
    have fin : (∀ i, i < ops.size → D i = true) → Q .normal a w := by
      intro hall
      have e : SD D 0 es s0 = es.foldl (fun s e => e.app s) s0 := by
        have h1 := SD_take (fun m => decide (m < ops.size)) ops.size es 0 s0 (fun m => by simp)
        rw [List.take_of_length_le (by omega)] at h1
        rw [← h1]
        congr 1
        funext m
        by_cases c : m < ops.size
        · simp [c, hall m c]
        · have : D m = false := by
            cases h : D m with
            | false => rfl
            | true => exact (c (hDs m h)).elim
          simp [c, this]
      rw [e] at r
      exact hQ U j M a w r fun k hk => by
        rcases hu k hk with h1 | ⟨i, h1, h2, h3⟩
        · unfold stride; omega
        · have := hDs i h1; unfold stride at *; omega
    refine ⟨fun hnil => fin fun i => ?_, fun n hn => ?_⟩
    · -- the first that is not done would be ready
      induction i using Nat.strongRecOn with
      | _ i ihi =>
        intro hi
        cases c : D i with
        | true => rfl
        | false =>
          have : i ∈ Region.ready .any ops listed := by
            rw [mem_ready]
            refine ⟨by rw [hl i hi]; exact c, ops[i], Array.getElem?_eq_getElem hi, fun e he hbe => ?_⟩
            have hlt := hdraw i _ (Array.getElem?_eq_getElem hi) e he hbe
            have hDe := ihi e.on hlt (by omega)
            have := hl e.on (by omega)
            rw [hDe] at this
            rw [Array.getD_eq_getD_getElem?, Array.getElem?_eq_getElem (by omega)] at this ⊢
            exact this
          rw [hnil] at this; simp at this
    · obtain ⟨h1, o, ho, hedge⟩ := mem_ready.1 hn
      have hlt := (Array.getElem?_eq_some_iff.1 ho).1
      have hDn : D n = false := by rw [← hl n hlt]; exact h1
      have hin : edgesIn D o := fun e he hbe => by
        have h2 := hedge e he hbe
        have h3 := hdraw n o ho e he hbe
        rw [← hl e.on (by omega)]
        rw [Array.getD_eq_getD_getElem?, Array.getElem?_eq_getElem (by omega)] at h2 ⊢
        exact h2
      obtain ⟨e, an, he, han, heq⟩ := heo n o ho
      have hlo : ∀ (m : Nat) (o' : Oper), ops.toList[m]? = some o' → ∀ e, e ∈ o'.after → Region.binds .any e = true → e.on < m := fun m o' h => hdraw m o' (by simpa using h)
      have hDc' : ∀ (m : Nat) (o' : Oper), ops.toList[m]? = some o' → D m = true → edgesIn D o' := fun m o' h => hDc m o' (by simpa using h)
      have hanc : ∀ x, x ∈ an → D x = true := anc_sub hlo hDc' (n + 1) n o (by omega) (by simpa using ho) hin an han
      have eanc : (∃ v, opStep F rec ((es.take n).foldl (fun s e => e.app s) s0) (base + stride * n) e.o.op = some v) ∨ True := .inr trivial
      have ancE : ∀ x, e.o.anc.contains x = true → D x = true := fun x hx => by
        rw [heq] at hx
        rcases cOper_spec (P := P) (ops := ops.toList) (an := an) (o := o) with ⟨_, _, _, _, e4, _⟩ | ⟨_, _⟩
        · rw [e4] at hx; exact hanc x (by simpa using hx)
        · unfold cOper at hx
          split at hx <;> exact hanc x (by simpa using hx)
      have ancM : ∀ (m : Nat) (e' : Ent), es[m]? = some e' → D m = true → e'.o.anc.contains n = true → False := fun m e' he' hDm hc => by
        have hm := hDs m hDm
        obtain ⟨e2, an', h2, h3, h4⟩ := heo m _ (Array.getElem?_eq_getElem hm)
        rw [he'] at h2; injection h2 with h2; subst h2
        have hsub := anc_sub hlo hDc' (m + 1) m _ (by omega) (by simpa using Array.getElem?_eq_getElem hm) (hDc m _ (Array.getElem?_eq_getElem hm) hDm) an' h3
        have : n ∈ an' := by
          rw [h4] at hc
          unfold cOper at hc
          split at hc <;> simpa using hc
        rw [hsub n this] at hDn; cases hDn
      have sep : ∀ (m : Nat) (e' : Ent), es[m]? = some e' → D m ≠ decide (m < n) → (∀ q, e'.o.dst = some q → q ∉ e.o.uses) ∧ ∀ k, k ∈ e'.keys → k ∉ e.R := by
        intro m e' he' hne
        by_cases c : m < n
        · have hDm : D m = false := by cases h : D m with | false => rfl | true => simp [h, c] at hne
          obtain ⟨p1, p2⟩ := hpair n e m e' he he' c
          have hno : e.o.anc.contains m = false := by cases h : e.o.anc.contains m with | false => rfl | true => rw [ancE m h] at hDm; cases hDm
          refine ⟨fun q hq => ?_, fun k hk hk' => ?_⟩
          · unfold slotsFine at p2
            rw [hno, hq] at p2
            simp at p2
            exact p2.1.1
          · rcases p1 with p1 | ⟨p1, _⟩
            · rw [hno] at p1; cases p1
            · simp only [apart, List.all_eq_true] at p1
              have := p1 k hk
              simp [hk'] at this
        · have hDm : D m = true := by cases h : D m with | true => rfl | false => simp [h, c] at hne
          have hmn : n < m := by
            rcases Nat.lt_or_ge n m with h | h
            · exact h
            · have : m = n := by omega
              subst this; rw [hDn] at hDm; cases hDm
          obtain ⟨p1, p2⟩ := hpair m e' n e he' he hmn
          have hno : e'.o.anc.contains n = false := by cases h : e'.o.anc.contains n with | false => rfl | true => exact (ancM m e' he' hDm h).elim
          refine ⟨fun q hq => ?_, fun k hk hk' => ?_⟩
          · unfold slotsFine at p2
            rw [hno, hq] at p2
            simp at p2
            exact p2.2
          · rcases p1 with p1 | ⟨_, p1⟩
            · rw [hno] at p1; cases p1
            · simp only [apart, List.all_eq_true] at p1
              have := p1 k hk'
              simp [hk] at this
      have late : ∀ (m : Nat) (e' : Ent), es[m]? = some e' → n < m → D m = true → (∀ q, e.o.dst = some q → e'.o.dst ≠ some q) ∧ ∀ k, k ∈ e.keys → k ∉ e'.keys := by
        intro m e' he' hmn hDm
        obtain ⟨p1, p2⟩ := hpair m e' n e he' he hmn
        have hno : e'.o.anc.contains n = false := by cases h : e'.o.anc.contains n with | false => rfl | true => exact (ancM m e' he' hDm h).elim
        refine ⟨fun q hq hq' => ?_, fun k hk hk' => ?_⟩
        · unfold slotsFine at p2
          rw [hno, hq] at p2
          simp [hq'] at p2
        · rcases p1 with p1 | ⟨p1, _⟩
          · rw [hno] at p1; cases p1
          · simp only [apart, List.all_eq_true] at p1
            have := p1 k hk
            simp [hk'] at this
      obtain ⟨⟨b, hwb⟩, hy, hno⟩ := turn_any F rec base es s0 D n e he (hturn n e he) sep
      have hfr : ∀ k, base + stride * n ≤ k → k < base + stride * n + stride → ¬ U k := fun k q1 q2 hk => by
        rcases hu k hk with h5 | ⟨i, h5, h6, h7⟩
        · omega
        · have : i = n := by
            rcases Nat.lt_trichotomy i n with h8 | h8 | h8
            · have : stride * (i + 1) ≤ stride * n := Nat.mul_le_mul_left _ h8
              rw [Nat.mul_add] at this; omega
            · exact h8
            · have : stride * (n + 1) ≤ stride * i := Nat.mul_le_mul_left _ h8
              rw [Nat.mul_add] at this; omega
          subst this; rw [hDn] at h5; cases h5
      refine wpOp_eq ho ?_
      rw [heq] at hwb hy hno
      refine one_sound hF hb r hfr (by rw [(SD_ar D es 0 s0).1]; exact Nat.le_trans har (Nat.le_add_right _ _)) (hd n o ho) (b := b) (v := e.v) (u := e.u) hwb (fun h => hy (by rw [hwb, h])) (fun h => hno (by rw [hwb, h])) fun U' j' M' a' w' r' hu' => ?_
      have hq := SD_late D es s0 n e he hDn late
      have r2 : R X U' j' M' (SD (addD D n) 0 es s0) a' w' := by
        refine R.eqv ?_ hq
        unfold Ent.app; rw [heq]; exact r'
      refine ih (listed.setIfInBounds n true) (addD D n) U' j' M' a' w' (by simpa using hls) (fun i hi => ?_) (fun i hi => ?_) (fun m o' ho' hm => ?_) ?_ r2 fun k hk => ?_
      · by_cases c : i = n
        · subst c; simp [addD, hls, hlt]
        · rw [getD_set_ne true (Ne.symm c), hl i hi]; simp [addD, c]
      · simp [addD] at hi
        rcases hi with rfl | hi
        · exact hlt
        · exact hDs i hi
      · have up : ∀ o', edgesIn D o' → edgesIn (addD D n) o' := fun o' h e he hbe => by simp [addD, h e he hbe]
        simp [addD] at hm
        rcases hm with rfl | hm
        · rw [ho] at ho'; injection ho' with ho'; subst ho'; exact up _ hin
        · exact up _ (hDc m o' ho' hm)
      · have := left_add hDn hlt; omega
      · rcases hu' k hk with h5 | h5
        · rcases hu k h5 with h6 | ⟨i, h6, h7⟩
          · exact .inl h6
          · exact .inr ⟨i, by simp [addD, h6], h7⟩
        · exact .inr ⟨n, by simp [addD], h5⟩

end

end Gv
