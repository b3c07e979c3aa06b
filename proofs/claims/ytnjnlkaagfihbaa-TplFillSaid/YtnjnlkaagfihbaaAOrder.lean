/- A region's operations in any order that its edges let: the same state. -/
import Derived.Test.YtnjnlkaagfihbaaALocal
set_option linter.all false
namespace Gv
open Go

/-- What an operation came to. -/
structure Ent where
  o : VOper
  v : AV
  u : Upd
  R : List Nat

def Ent.keys (e : Ent) : List Nat := e.u.map Prod.fst
def Ent.app (e : Ent) (s : St) : St := ({ s with hp := s.hp.upd e.u }).put e.o.dst e.v

def SD (D : Nat → Bool) : Nat → List Ent → St → St
  | _, [], s => s
  | i, e :: es, s => SD D (i + 1) es (if D i then e.app s else s)

/-- States that tell the same. -/
structure Eqv (s s' : St) : Prop where
  tm : ∀ q, s.tm.get q = s'.tm.get q
  hp : ∀ k, s.hp.get k = s'.hp.get k
  ar : s.ar = s'.ar
  nx : s.nx = s'.nx

theorem Eqv.refl (s : St) : Eqv s s := ⟨fun _ => rfl, fun _ => rfl, rfl, rfl⟩

theorem app_tm (e : Ent) (s : St) (q : Reg) : (e.app s).tm.get q = if e.o.dst = some q then e.v else s.tm.get q := by
  unfold Ent.app St.put
  cases h : e.o.dst with
  | none => simp
  | some d =>
    simp only [T.get_set]
    by_cases h' : q = d
    · subst h'; simp
    · simp [h', Ne.symm h']

theorem upd_get_out : ∀ (u : Upd) (h : Hp) (k : Nat), k ∉ u.map Prod.fst → (h.upd u).get k = h.get k
  | [], _, _, _ => rfl
  | (q, b) :: u, h, k, hk => by
    simp at hk
    have h1 : k ≠ q := hk.1
    have h2 : k ∉ u.map Prod.fst := by simpa using hk.2
    cases b with
    | none => simp only [Hp.upd]; rw [upd_get_out u _ k h2, Hp.get_del, if_neg h1]
    | some b => simp only [Hp.upd]; rw [upd_get_out u _ k h2, Hp.get_put, if_neg h1]

theorem upd_get_in : ∀ (u : Upd) (h h' : Hp) (k : Nat), k ∈ u.map Prod.fst → (h.upd u).get k = (h'.upd u).get k
  | [], _, _, _, hk => by simp at hk
  | (q, b) :: u, h, h', k, hk => by
    by_cases h2 : k ∈ u.map Prod.fst
    · cases b <;> simp only [Hp.upd] <;> exact upd_get_in u _ _ k h2
    · have h1 : k = q := by
        simp only [List.map_cons, List.mem_cons] at hk
        exact hk.resolve_right h2
      subst h1
      cases b with
      | none => simp only [Hp.upd]; rw [upd_get_out u _ k h2, upd_get_out u _ k h2, Hp.get_del, Hp.get_del]; simp
      | some b => simp only [Hp.upd]; rw [upd_get_out u _ k h2, upd_get_out u _ k h2, Hp.get_put, Hp.get_put]; simp

theorem upd_congr (u : Upd) (h h' : Hp) (k : Nat) (e : h.get k = h'.get k) : (h.upd u).get k = (h'.upd u).get k := by
  by_cases hk : k ∈ u.map Prod.fst
  · exact upd_get_in u h h' k hk
  · rw [upd_get_out u h k hk, upd_get_out u h' k hk, e]

theorem app_hp (e : Ent) (s : St) : (e.app s).hp = s.hp.upd e.u := by
  unfold Ent.app St.put
  cases e.o.dst <;> rfl
theorem app_ar (e : Ent) (s : St) : (e.app s).ar = s.ar ∧ (e.app s).nx = s.nx := by
  unfold Ent.app St.put
  cases e.o.dst <;> exact ⟨rfl, rfl⟩

theorem SD_ar (D : Nat → Bool) : ∀ (es : List Ent) (i : Nat) (s : St), (SD D i es s).ar = s.ar ∧ (SD D i es s).nx = s.nx
  | [], _, _ => ⟨rfl, rfl⟩
  | e :: es, i, s => by
    obtain ⟨h1, h2⟩ := SD_ar D es (i + 1) (if D i then e.app s else s)
    simp only [SD, h1, h2]
    split
    · exact app_ar e s
    · exact ⟨rfl, rfl⟩

/-- A slot: by the operations that write it. -/
theorem SD_tm (D D' : Nat → Bool) (q : Reg) : ∀ (es : List Ent) (i : Nat) (s s' : St), s.tm.get q = s'.tm.get q → (∀ n e, es[n]? = some e → e.o.dst = some q → D (i + n) = D' (i + n)) →
    (SD D i es s).tm.get q = (SD D' i es s').tm.get q
  | [], _, _, _, h, _ => h
  | e :: es, i, s, s', h, hD => by
    simp only [SD]
    refine SD_tm D D' q es (i + 1) _ _ ?_ fun n e' he hd => by rw [Nat.add_assoc, Nat.add_comm 1 n]; exact hD (n + 1) e' (by simpa using he) hd
    by_cases hd : e.o.dst = some q
    · have h0 := hD 0 e (by simp) hd
      simp only [Nat.add_zero] at h0
      rw [← h0]
      by_cases c : D i = true
      · simp [c, app_tm, hd]
      · simp [c, h]
    · by_cases c : D i = true <;> by_cases c' : D' i = true <;> simp [c, c', app_tm, hd, h]

/-- A block: by the operations that write it. -/
theorem SD_hp (D D' : Nat → Bool) (k : Nat) : ∀ (es : List Ent) (i : Nat) (s s' : St), s.hp.get k = s'.hp.get k → (∀ n e, es[n]? = some e → k ∈ e.keys → D (i + n) = D' (i + n)) →
    (SD D i es s).hp.get k = (SD D' i es s').hp.get k
  | [], _, _, _, h, _ => h
  | e :: es, i, s, s', h, hD => by
    simp only [SD]
    refine SD_hp D D' k es (i + 1) _ _ ?_ fun n e' he hd => by rw [Nat.add_assoc, Nat.add_comm 1 n]; exact hD (n + 1) e' (by simpa using he) hd
    by_cases hd : k ∈ e.keys
    · have h0 := hD 0 e (by simp) hd
      simp only [Nat.add_zero] at h0
      rw [← h0]
      by_cases c : D i = true
      · simp only [c, if_true, app_hp]; exact upd_get_in e.u _ _ k hd
      · simp [c, h]
    · by_cases c : D i = true <;> by_cases c' : D' i = true <;> simp [c, c', app_hp, upd_get_out e.u _ k hd, h]

/-- The last that writes. -/
theorem SD_tm_last (D : Nat → Bool) (q : Reg) : ∀ (es : List Ent) (i n : Nat) (s : St) (e : Ent), es[n]? = some e → D (i + n) = true → e.o.dst = some q → (∀ m e', es[m]? = some e' → n < m → D (i + m) = true → e'.o.dst ≠ some q) →
    (SD D i es s).tm.get q = e.v
  | [], _, _, _, _, h, _, _, _ => by simp at h
  | e0 :: es, i, 0, s, e, h, hD, hd, hl => by
    simp at h; subst h
    simp only [SD]
    rw [SD_tm D (fun _ => false) q es (i + 1) _ _ rfl fun m e' he hd' => ?_]
    · have : ∀ (es : List Ent) (i : Nat) (s : St), SD (fun _ => false) i es s = s := by
        intro es
        induction es with
        | nil => intro i s; rfl
        | cons e es ih => intro i s; simp [SD, ih]
      rw [this]
      simp only [Nat.add_zero] at hD
      simp [hD, app_tm, hd]
    · cases c : D (i + 1 + m) with
      | false => rfl
      | true => exact (hl (m + 1) e' (by simpa using he) (by omega) (by rw [← Nat.add_assoc, Nat.add_right_comm]; exact c) hd').elim
  | e0 :: es, i, n + 1, s, e, h, hD, hd, hl => by
    simp only [SD]
    exact SD_tm_last D q es (i + 1) n _ e (by simpa using h) (by rw [Nat.add_assoc, Nat.add_comm 1 n]; exact hD) hd fun m e' he hlt hDm => hl (m + 1) e' (by simpa using he) (by omega) (by rw [← Nat.add_assoc, Nat.add_right_comm]; exact hDm)

theorem SD_hp_last (D : Nat → Bool) (k : Nat) : ∀ (es : List Ent) (i n : Nat) (s : St) (e : Ent) (h0 : Hp), es[n]? = some e → D (i + n) = true → k ∈ e.keys → (∀ m e', es[m]? = some e' → n < m → D (i + m) = true → k ∉ e'.keys) →
    (SD D i es s).hp.get k = (h0.upd e.u).get k
  | [], _, _, _, _, _, h, _, _, _ => by simp at h
  | e0 :: es, i, 0, s, e, h0, h, hD, hd, hl => by
    simp at h; subst h
    simp only [SD]
    rw [SD_hp D (fun _ => false) k es (i + 1) _ _ rfl fun m e' he hd' => ?_]
    · have : ∀ (es : List Ent) (i : Nat) (s : St), SD (fun _ => false) i es s = s := by
        intro es
        induction es with
        | nil => intro i s; rfl
        | cons e es ih => intro i s; simp [SD, ih]
      rw [this]
      simp only [Nat.add_zero] at hD
      simp only [hD, if_true, app_hp]
      exact upd_get_in _ _ _ _ hd
    · cases c : D (i + 1 + m) with
      | false => rfl
      | true => exact (hl (m + 1) e' (by simpa using he) (by omega) (by rw [← Nat.add_assoc, Nat.add_right_comm]; exact c) hd').elim
  | e0 :: es, i, n + 1, s, e, h0, h, hD, hd, hl => by
    simp only [SD]
    exact SD_hp_last D k es (i + 1) n _ e h0 (by simpa using h) (by rw [Nat.add_assoc, Nat.add_comm 1 n]; exact hD) hd fun m e' he hlt hDm => hl (m + 1) e' (by simpa using he) (by omega) (by rw [← Nat.add_assoc, Nat.add_right_comm]; exact hDm)

def addD (D : Nat → Bool) (n : Nat) : Nat → Bool := fun m => m == n || D m

/-- An operation that is late comes to its place. -/
theorem SD_late (D : Nat → Bool) (es : List Ent) (s : St) (n : Nat) (e : Ent) (he : es[n]? = some e) (hn : D n = false)
    (hl : ∀ m e', es[m]? = some e' → n < m → D m = true → (∀ q, e.o.dst = some q → e'.o.dst ≠ some q) ∧ ∀ k, k ∈ e.keys → k ∉ e'.keys) : Eqv (e.app (SD D 0 es s)) (SD (addD D n) 0 es s) := by
  refine ⟨fun q => ?_, fun k => ?_, ?_, ?_⟩
  · rw [app_tm]
    by_cases hq : e.o.dst = some q
    · rw [if_pos hq]
      refine (SD_tm_last (addD D n) q es 0 n s e he (by simp [addD]) hq fun m e' he' hlt hD => ?_).symm
      refine (hl m e' he' hlt ?_).1 q hq
      simp [addD] at hD; rcases hD with hD | hD
      · omega
      · exact hD
    · rw [if_neg hq]
      refine SD_tm _ _ q es 0 s s rfl fun m e' he' hd => ?_
      simp only [Nat.zero_add, addD]
      by_cases hm : m = n
      · subst hm; rw [he] at he'; injection he' with he'; subst he'; exact (hq hd).elim
      · simp [hm]
  · rw [app_hp]
    by_cases hk : k ∈ e.keys
    · refine (SD_hp_last (addD D n) k es 0 n s e _ he (by simp [addD]) hk fun m e' he' hlt hD => ?_).symm
      refine (hl m e' he' hlt ?_).2 k hk
      simp [addD] at hD; rcases hD with hD | hD
      · omega
      · exact hD
    · rw [upd_get_out e.u _ k hk]
      refine SD_hp _ _ k es 0 s s rfl fun m e' he' hd => ?_
      simp only [Nat.zero_add, addD]
      by_cases hm : m = n
      · subst hm; rw [he] at he'; injection he' with he'; subst he'; exact (hk hd).elim
      · simp [hm]
  · rw [(app_ar e _).1, (SD_ar D es 0 s).1, (SD_ar _ es 0 s).1]
  · rw [(app_ar e _).2, (SD_ar D es 0 s).2, (SD_ar _ es 0 s).2]

/-- What is told of an operation in its turn. -/
structure TurnOK (F : Fns) (rec : Rec) (base : Nat) (i : Nat) (e : Ent) (s : St) : Prop where
  sure : ∃ b, wanted s e.o.guard = some b
  yes : wanted s e.o.guard = some true → opStep F rec s (base + stride * i) e.o.op = some (e.v, e.u) ∧ foot s e.o.op = some e.R
  no : wanted s e.o.guard = some false → e.v = .tup [] ∧ e.u = [] ∧ e.R = []

def apartE (a : Ent) (i : Nat) (b : Ent) : Prop := b.o.anc.contains i = true ∨ (apart a.keys (b.R ++ b.keys) = true ∧ apart a.R b.keys = true)

theorem logOk_mem {anc R W : List Nat} : ∀ {log : Log}, logOk anc R W log = true → ∀ x, x ∈ log → anc.contains x.1 = true ∨ (apart x.2.2 (R ++ W) = true ∧ apart x.2.1 W = true)
  | [], _, x, hx => by simp at hx
  | (i, R', W') :: log, h, x, hx => by
    simp only [logOk, Bool.and_eq_true, Bool.or_eq_true] at h
    rcases List.mem_cons.1 hx with rfl | hx
    · exact h.1
    · exact logOk_mem h.2 x hx

/-- The run in the text's order, told operation by operation. -/
theorem run_trace (F : Fns) (rec : Rec) (base : Nat) : ∀ (ops : List VOper) (i : Nat) (log : Log) (s s' : St), runOps F rec true base i ops log s = some s' →
    ∃ es : List Ent, es.map (·.o) = ops ∧ s' = es.foldl (fun s e => e.app s) s ∧ (∀ n e, es[n]? = some e → TurnOK F rec base (i + n) e ((es.take n).foldl (fun s e => e.app s) s)) ∧
      (∀ n e, es[n]? = some e → ∀ x, x ∈ log → wanted ((es.take n).foldl (fun s e => e.app s) s) e.o.guard = some true → e.o.anc.contains x.1 = true ∨ (apart x.2.2 (e.R ++ e.keys) = true ∧ apart x.2.1 e.keys = true)) ∧
      (∀ n e m e', es[n]? = some e → es[m]? = some e' → m < n → apartE e' (i + m) e)
  | [], i, log, s, s', h => by
    simp [runOps] at h; subst h
    exact ⟨[], rfl, rfl, by simp, by simp, by simp⟩
  | o :: ops, i, log, s, s', h => by
    simp only [runOps] at h
    have cons : ∀ (e0 : Ent) (log' : Log), e0.o = o → TurnOK F rec base i e0 s → (wanted s o.guard = some true → log' = (i, e0.R, e0.keys) :: log ∧ logOk o.anc e0.R e0.keys log = true) → (wanted s o.guard = some false → log' = log) →
        runOps F rec true base (i + 1) ops log' (e0.app s) = some s' → ∃ es : List Ent, es.map (·.o) = o :: ops ∧ s' = es.foldl (fun s e => e.app s) s ∧ (∀ n e, es[n]? = some e → TurnOK F rec base (i + n) e ((es.take n).foldl (fun s e => e.app s) s)) ∧
      (∀ n e, es[n]? = some e → ∀ x, x ∈ log → wanted ((es.take n).foldl (fun s e => e.app s) s) e.o.guard = some true → e.o.anc.contains x.1 = true ∨ (apart x.2.2 (e.R ++ e.keys) = true ∧ apart x.2.1 e.keys = true)) ∧
      (∀ n e m e', es[n]? = some e → es[m]? = some e' → m < n → apartE e' (i + m) e) := by
      intro e0 log' ho ht hy hno hrun
      obtain ⟨es, h1, h2, h3, h4, h5⟩ := run_trace F rec base ops (i + 1) log' (e0.app s) s' hrun
      have hlog : ∀ x, x ∈ log → x ∈ log' := fun x hx => by
        obtain ⟨b, hb⟩ := ht.sure
        rw [ho] at hb
        cases b with
        | true => rw [(hy hb).1]; exact List.mem_cons_of_mem _ hx
        | false => rw [hno hb]; exact hx
      have hno2 : wanted s o.guard = some false → e0.R = [] ∧ e0.keys = [] := fun hw => by
        obtain ⟨_, q2, q3⟩ := ht.no (by rw [ho]; exact hw)
        exact ⟨q3, by simp [Ent.keys, q2]⟩
      refine ⟨e0 :: es, by simp [ho, h1], by simpa using h2, fun n e he => ?_, fun n e he x hx hw => ?_, fun n e m e' he he' hlt => ?_⟩
      · cases n with
        | zero => simp at he; subst he; simpa using ht
        | succ n =>
          have := h3 n e (by simpa using he)
          rw [show i + 1 + n = i + (n + 1) by omega] at this
          simpa using this
      · cases n with
        | zero =>
          simp at he; subst he
          simp only [List.take_zero, List.foldl_nil] at hw
          rw [ho] at hw ⊢
          exact logOk_mem (hy hw).2 x hx
        | succ n => exact h4 n e (by simpa using he) x (hlog x hx) (by simpa using hw)
      · cases n with
        | zero => omega
        | succ n =>
          have he := (by simpa using he : es[n]? = some e)
          cases m with
          | zero =>
            simp at he'; subst he'
            obtain ⟨b, hw⟩ := ht.sure
            rw [ho] at hw
            cases b with
            | false =>
              obtain ⟨q1, q2⟩ := hno2 hw
              right; simp [q1, q2, apart]
            | true =>
              obtain ⟨b', hw'⟩ := (h3 n e he).sure
              cases b' with
              | true =>
                exact h4 n e he (i, e0.R, e0.keys) (by rw [(hy hw).1]; simp) hw'
              | false =>
                obtain ⟨_, q2, q3⟩ := (h3 n e he).no hw'
                right; simp [q3, Ent.keys, q2, apart]
          | succ m =>
            have := h5 n e m e' he (by simpa using he') (by omega)
            rw [show i + 1 + m = i + (m + 1) by omega] at this; exact this
    split at h
    · rename_i hw
      split at h
      · rename_i v u hst
        simp only [if_true] at h
        split at h
        · rename_i R hR
          split at h
          · rename_i hlog
            exact cons ⟨o, v, u, R⟩ _ rfl ⟨⟨true, hw⟩, fun _ => ⟨hst, hR⟩, fun h => (by simp only at h; rw [hw] at h; cases h)⟩ (fun _ => ⟨rfl, hlog⟩) (fun h => (by rw [hw] at h; cases h)) h
          · cases h
        · cases h
      · cases h
    · rename_i hw
      exact cons ⟨o, .tup [], [], []⟩ _ rfl ⟨⟨false, hw⟩, fun h => (by simp only at h; rw [hw] at h; cases h), fun _ => ⟨rfl, rfl, rfl⟩⟩ (fun h => (by rw [hw] at h; cases h)) (fun _ => rfl) h
    · cases h

theorem fine_pair : ∀ (ops : List VOper) (before : List (VOper × Nat)) (j : Nat), fineOps ops before j = true → (∀ (n : Nat) (o : VOper), ops[n]? = some o → ∀ x, x ∈ before → slotsFine x.1 x.2 o = true) ∧
    ∀ (n : Nat) (o : VOper) (m : Nat) (o' : VOper), ops[n]? = some o → ops[m]? = some o' → m < n → slotsFine o' (j + m) o = true
  | [], before, j, _ => ⟨by simp, by simp⟩
  | o0 :: ops, before, j, h => by
    simp only [fineOps, Bool.and_eq_true, List.all_eq_true] at h
    obtain ⟨h1, h2⟩ := fine_pair ops ((o0, j) :: before) (j + 1) h.2
    refine ⟨fun n o ho x hx => ?_, fun n o m o' ho ho' hlt => ?_⟩
    · cases n with
      | zero => simp at ho; subst ho; exact h.1 x hx
      | succ n => exact h1 n o (by simpa using ho) x (by simp [hx])
    · cases n with
      | zero => omega
      | succ n =>
        cases m with
        | zero => simp at ho'; subst ho'; exact h1 n o (by simpa using ho) (o0, j) (by simp)
        | succ m =>
          have := h2 n o m o' (by simpa using ho) (by simpa using ho') (by omega)
          rw [show j + 1 + m = j + (m + 1) by omega] at this; exact this

theorem SD_take (D : Nat → Bool) (n : Nat) : ∀ (es : List Ent) (i : Nat) (s : St), (∀ m, D (i + m) = decide (m < n)) → SD D i es s = (es.take n).foldl (fun s e => e.app s) s := by
  intro es
  induction es generalizing n with
  | nil => intro i s _; simp [SD]
  | cons e es ih =>
    intro i s hD
    simp only [SD]
    have h0 := hD 0
    cases n with
    | zero =>
      simp at h0
      simp only [h0, if_false, List.take_zero, List.foldl_nil, Bool.false_eq_true]
      rw [ih 0 (i + 1) s fun m => by rw [Nat.add_assoc, Nat.add_comm 1 m]; rw [hD (m + 1)]; simp]
      simp
    | succ n =>
      simp at h0
      simp only [h0, if_true, List.take_succ_cons, List.foldl_cons]
      exact ih n (i + 1) _ fun m => by rw [Nat.add_assoc, Nat.add_comm 1 m]; rw [hD (m + 1)]; simp

/-- In a state of what stands ahead, and of what has nothing to do with it, an operation comes to the same. -/
theorem turn_any (F : Fns) (rec : Rec) (base : Nat) (es : List Ent) (s : St) (D : Nat → Bool) (n : Nat) (e : Ent) (he : es[n]? = some e)
    (ht : TurnOK F rec base n e ((es.take n).foldl (fun s e => e.app s) s))
    (hs : ∀ m e', es[m]? = some e' → D m ≠ decide (m < n) → (∀ q, e'.o.dst = some q → q ∉ e.o.uses) ∧ ∀ k, k ∈ e'.keys → k ∉ e.R) :
    (∃ b, wanted (SD D 0 es s) e.o.guard = some b) ∧ (wanted (SD D 0 es s) e.o.guard = some true → opStep F rec (SD D 0 es s) (base + stride * n) e.o.op = some (e.v, e.u)) ∧ (wanted (SD D 0 es s) e.o.guard = some false → e.v = .tup [] ∧ e.u = []) := by
  have hst : SD (fun m => decide (m < n)) 0 es s = (es.take n).foldl (fun s e => e.app s) s := SD_take _ n es 0 s fun m => by simp
  rw [← hst] at ht
  have tmq : ∀ q, q ∈ e.o.uses → (SD (fun m => decide (m < n)) 0 es s).tm.get q = (SD D 0 es s).tm.get q := fun q hq => by
    refine SD_tm _ _ q es 0 s s rfl fun m e' he' hd => ?_
    simp only [Nat.zero_add]
    by_cases c : D m = decide (m < n)
    · exact c.symm
    · exact ((hs m e' he' c).1 q hd hq).elim
  have hpk : ∀ k, k ∈ e.R → (SD (fun m => decide (m < n)) 0 es s).hp.get k = (SD D 0 es s).hp.get k := fun k hk => by
    refine SD_hp _ _ k es 0 s s rfl fun m e' he' hd => ?_
    simp only [Nat.zero_add]
    by_cases c : D m = decide (m < n)
    · exact c.symm
    · exact ((hs m e' he' c).2 k hd hk).elim
  have hwant : wanted (SD (fun m => decide (m < n)) 0 es s) e.o.guard = wanted (SD D 0 es s) e.o.guard := by
    cases hg : e.o.guard with
    | none => rfl
    | some gb =>
      obtain ⟨g, b⟩ := gb
      simp only [wanted]
      rw [tmq g (by simp [VOper.uses, hg])]
  have hev : ∀ x, x ∈ e.o.op.opds → (SD (fun m => decide (m < n)) 0 es s).ev x = (SD D 0 es s).ev x := fun x hx => by
    cases x with
    | c v => rfl
    | t q =>
      refine tmq q ?_
      simp only [VOper.uses, List.mem_append, List.mem_filterMap]
      exact .inl ⟨.t q, hx, rfl⟩
  refine ⟨by rw [← hwant]; exact ht.sure, fun hw => ?_, fun hw => let ⟨a, b, _⟩ := ht.no (hwant.trans hw); ⟨a, b⟩⟩
  obtain ⟨h1, h2⟩ := ht.yes (hwant.trans hw)
  have hc := opStep_congr F rec (base + stride * n) e.o.op hev h2 hpk
  rw [← hc]; exact h1

end Gv
