/- Fourth part: '==', maps. -/
import Derived.Test.YtnjnlkaagfihbaaAOps3
set_option linter.all false
namespace Gv
open Go

def idxE (kt : KT) (k : PVal) : List (PVal × PVal) → Option (Option Nat)
  | [] => some none
  | (k', _) :: es => match PVal.eq? kt k k' with
    | some true => some (some 0)
    | some false => (idxE kt k es).map fun o => o.map (· + 1)
    | none => none

theorem idxE_at {kt : KT} {k : PVal} : ∀ {es : List (PVal × PVal)} {n : Nat}, idxE kt k es = some (some n) → ∃ p, es[n]? = some p ∧ PVal.eq? kt k p.1 = some true
  | [], n, h => by simp [idxE] at h
  | (k', v) :: es, n, h => by
    simp only [idxE] at h
    cases hq : PVal.eq? kt k k' with
    | none => simp [hq] at h
    | some bb =>
      cases bb with
      | true => simp [hq] at h; subst h; exact ⟨(k', v), by simp, hq⟩
      | false =>
        simp only [hq, Option.map_eq_some_iff] at h
        obtain ⟨o', ho', hoo⟩ := h
        cases o' with
        | none => simp at hoo
        | some n' =>
          simp at hoo; subst hoo
          obtain ⟨p, h1, h2⟩ := idxE_at ho'
          exact ⟨p, by simpa using h1, h2⟩

theorem findE_idx {kt : KT} {k : PVal} : ∀ {es : List (PVal × PVal)} {r : Option PVal}, findE kt k es = some r → ∃ o, idxE kt k es = some o ∧ r = o.bind fun n => (es[n]?).map Prod.snd
  | [], r, h => by simp [findE] at h; subst h; exact ⟨none, rfl, rfl⟩
  | (k', v) :: es, r, h => by
    simp only [findE] at h
    cases he : PVal.eq? kt k k' with
    | none => simp [he] at h
    | some b =>
      cases b with
      | true => simp [he] at h; subst h; exact ⟨some 0, by simp [idxE, he], by simp⟩
      | false =>
        simp only [he] at h
        obtain ⟨o, h1, h2⟩ := findE_idx h
        refine ⟨o.map (· + 1), by simp [idxE, he, h1], ?_⟩
        rw [h2]; cases o <;> simp

theorem setE_idx {kt : KT} {k v : PVal} : ∀ {es r : List (PVal × PVal)}, setE kt k v es = some r → ∃ o, idxE kt k es = some o ∧ r = match o with | none => es ++ [(k, v)] | some n => es.set n (k, v)
  | [], r, h => by simp [setE] at h; subst h; exact ⟨none, rfl, rfl⟩
  | (k', v') :: es, r, h => by
    simp only [setE] at h
    cases he : PVal.eq? kt k k' with
    | none => simp [he] at h
    | some b =>
      cases b with
      | true => simp [he] at h; subst h; exact ⟨some 0, by simp [idxE, he], by simp⟩
      | false =>
        simp only [he, Option.map_eq_some_iff] at h
        obtain ⟨r', h1, rfl⟩ := h
        obtain ⟨o, h2, h3⟩ := setE_idx h1
        refine ⟨o.map (· + 1), by simp [idxE, he, h2], ?_⟩
        rw [h3]; cases o <;> simp

theorem delE_idx {kt : KT} {k : PVal} : ∀ {es r : List (PVal × PVal)}, delE kt k es = some r → ∃ o, idxE kt k es = some o ∧ r = match o with | none => es | some n => es.eraseIdx n
  | [], r, h => by simp [delE] at h; subst h; exact ⟨none, rfl, rfl⟩
  | (k', v') :: es, r, h => by
    simp only [delE] at h
    cases he : PVal.eq? kt k k' with
    | none => simp [he] at h
    | some b =>
      cases b with
      | true => simp [he] at h; subst h; exact ⟨some 0, by simp [idxE, he], by simp⟩
      | false =>
        simp only [he, Option.map_eq_some_iff] at h
        obtain ⟨r', h1, rfl⟩ := h
        obtain ⟨o, h2, h3⟩ := delE_idx h1
        refine ⟨o.map (· + 1), by simp [idxE, he, h2], ?_⟩
        rw [h3]; cases o <;> simp

section
variable {P : Program} {M : Mem} {w : World}

theorem sameBits_k {k : Kd} {a b : PV} (h : PV.eqk? k a b = some true) {x y : Value} (hx : PRep M a x) (hy : PRep M b y) (n : Nat) : Instr.sameBits n x y = true := by
  rcases eqk_prep h hx hy with ⟨_, p, q, rfl, rfl, e⟩ | ⟨_, t, p, q, rfl, rfl, e⟩ | ⟨_, p, q, rfl, rfl, e⟩
  · simp at e; subst e; cases n <;> simp [Instr.sameBits]
  · simp at e; subst e; cases n <;> simp [Instr.sameBits]
  · cases n <;> simp [Instr.sameBits, ← e]

theorem sameBits_K : ∀ {ks : List Kd} {l m : List PV} {vs us : List Value} (n : Nat), eqK? ks l m = some true → All2 (PRep M) l vs → All2 (PRep M) m us → ((vs.zip us).all fun (x, y) => Instr.sameBits n x y) = true
  | [], [], [], vs, us, n, _, h1, h2 => by rw [h1.nil_left]; simp
  | k :: ks, a :: l, b :: m, v :: vs, u :: us, n, h, h1, h2 => by
    simp only [eqK?] at h
    split at h
    · rename_i x y e1 e2
      injection h with h
      simp at h
      obtain ⟨rfl, rfl⟩ := h
      simp only [List.zip_cons_cons, List.all_cons, Bool.and_eq_true]
      exact ⟨sameBits_k e1 h1.1 h2.1 n, sameBits_K n e2 h1.2 h2.2⟩
    · cases h
  | _ :: _, [], _, _, _, _, h, _, _ => by simp [eqK?] at h
  | _ :: _, _ :: _, [], _, _, _, h, _, _ => by simp [eqK?] at h
  | [], _ :: _, _, _, _, _, h, _, _ => by simp [eqK?] at h
  | [], [], _ :: _, _, _, _, h, _, _ => by simp [eqK?] at h
  | _ :: _, _ :: _, _ :: _, [], _, _, _, h1, _ => h1.elim
  | _ :: _, _ :: _, _ :: _, _ :: _, [], _, _, _, h2 => h2.elim

/-- What the kinds of a key's type give. -/
theorem key_laws {t : TypeId} {kt : KT} (hk : keyT P flatDepth t = some kt) {a b : PVal} {r : Bool} (h : PVal.eq? kt a b = some r) {x y : Value} (hx : VRep M a x) (hy : VRep M b y) :
    (Op.equal t x y).run P w = .ok r w ∧ (∀ em, (Instr.checkKey em 10000 t x).run P w = .ok () w) ∧ (r = true → Instr.sameBits 10000 y x = true) ∧
      (∀ td, P.underlying t = some td → ∀ r', Instr.sameNow td x y = some r' → r' = r) := by
  unfold keyT at hk
  have now : ∀ td, P.underlying t = some td → (Op.equal t x y).run P w = .ok r w → ∀ r', Instr.sameNow td x y = some r' → r' = r := by
    intro td hu he r' hr
    have inj : ∀ {b : Bool}, (Op.equal t x y).run P w = .ok b w → b = r := fun hb => by
      rw [he] at hb; injection hb with hb; exact hb.symm
    unfold Instr.sameNow at hr
    split at hr
    · split at hr
      · rename_i e; subst e; injection hr with hr; subst hr; exact inj (run_equalIn_int w 9999 t _ _ _ _ hu)
      · cases hr
    · rename_i p q
      injection hr with hr; subst hr
      have := run_equalIn_string (P := P) w 9999 t p q hu
      rw [ByteArray.toList_eq, ByteArray.toList_eq, ← ba_eq] at this
      exact inj this
    · injection hr with hr; subst hr; exact inj (run_equalIn_bool' w 9999 t _ _ hu)
    · cases hr
  split at hk
  · rename_i ks hag hfl
    injection hk with hk; subst hk
    have hF := flat_at _ _ _ hfl
    cases a <;> cases b <;> simp only [PVal.eq?] at h <;> try (cases h; done)
    rename_i l m
    obtain ⟨vs, rfl, h1⟩ := hx
    obtain ⟨us, rfl, h2⟩ := hy
    have hm : ∀ v : Array Value, mkV P t v.toList = .agg v := fun v => by simp [mkV, hag]
    have e1 := hF.eq M w 10000 l m vs.toList us.toList r (by unfold flatDepth; omega) h1 h2 h
    rw [hm, hm] at e1
    refine ⟨e1, fun em => ?_, fun e => ?_, fun td hu => now td hu e1⟩
    · have := hF.key M w em 10000 l m vs.toList r (by unfold flatDepth; omega) h1 h
      rwa [hm] at this
    · subst e
      have hl := eqK_len h
      have e2 := h1.len
      have e3 := h2.len
      simp at e2 e3
      have : ∀ n, ((us.toList.zip vs.toList).all fun (x, y) => Instr.sameBits n x y) = true := fun n => by
        have hsym : eqK? ks m l = some true := by
          clear hF e1 hfl now hm hl e2 e3 h1 h2
          induction ks generalizing l m with
          | nil => cases l <;> cases m <;> simp [eqK?] at h ⊢
          | cons k ks ih =>
            cases l <;> cases m <;> simp only [eqK?] at h ⊢ <;> try (cases h; done)
            rename_i a l b m
            split at h
            · rename_i x y q1 q2
              injection h with h; simp at h; obtain ⟨rfl, rfl⟩ := h
              have : PV.eqk? k b a = some true := by
                unfold PV.eqk? at q1 ⊢
                split at q1
                · injection q1 with q1; simp at q1; subst q1; simp
                · split at q1
                  · rename_i e; subst e; injection q1 with q1; simp at q1; subst q1; simp
                  · cases q1
                · injection q1 with q1; simp at q1; subst q1; simp
                · cases q1
              rw [this, ih l m q2]; rfl
            · cases h
        exact sameBits_K n hsym h2 h1
      show Instr.sameBits (9999 + 1) _ _ = true
      simp only [Instr.sameBits, Bool.and_eq_true]
      exact ⟨by simp; omega, this 9999⟩
  · rename_i k hag hfl
    injection hk with hk; subst hk
    have hF := flat_at _ _ _ hfl
    cases a <;> cases b <;> simp only [PVal.eq?] at h <;> try (cases h; done)
    rename_i p q
    have hm : ∀ v : Value, mkV P t [v] = v := fun v => by simp [mkV, hag]
    have h' : eqK? [k] [p] [q] = some r := by simp [eqK?, h]
    have e1 := hF.eq M w 10000 [p] [q] [x] [y] r (by unfold flatDepth; omega) ⟨hx, trivial⟩ ⟨hy, trivial⟩ h'
    rw [hm, hm] at e1
    refine ⟨e1, fun em => ?_, fun e => ?_, fun td hu => now td hu e1⟩
    · have := hF.key M w em 10000 [p] [q] [x] r (by unfold flatDepth; omega) ⟨hx, trivial⟩ h'
      rwa [hm] at this
    · subst e
      rcases eqk_prep h hx hy with ⟨_, p, q, rfl, rfl, e⟩ | ⟨_, t, p, q, rfl, rfl, e⟩ | ⟨_, p, q, rfl, rfl, e⟩
      · simp at e; subst e; simp [Instr.sameBits]
      · simp at e; subst e; simp [Instr.sameBits]
      · have : (q == p) = true := by rw [ba_eq] at e ⊢; simp at e ⊢; exact e.symm
        simp [Instr.sameBits, this]
  · cases hk

theorem eqk_self {k : Kd} {p q : PV} {r : Bool} (h : PV.eqk? k p q = some r) : ∃ r', PV.eqk? k p p = some r' := by
  unfold PV.eqk? at h ⊢
  split at h <;> first | exact ⟨_, rfl⟩ | (split at h <;> first | (simp) | cases h) | cases h
theorem eqK_self : ∀ {ks : List Kd} {l m : List PV} {r : Bool}, eqK? ks l m = some r → ∃ r', eqK? ks l l = some r'
  | [], [], [], _, _ => ⟨true, rfl⟩
  | k :: ks, p :: l, q :: m, r, h => by
    simp only [eqK?] at h
    split at h
    · rename_i x y q1 q2
      obtain ⟨r2, h2⟩ := eqK_self q2
      obtain ⟨r1, h1⟩ := eqk_self q1
      exact ⟨r1 && r2, by simp [eqK?, h1, h2]⟩
    · cases h
  | [], [], _ :: _, _, h => by simp [eqK?] at h
  | [], _ :: _, _, _, h => by simp [eqK?] at h
  | _ :: _, [], _, _, h => by simp [eqK?] at h
  | _ :: _, _ :: _, [], _, h => by simp [eqK?] at h
theorem key_self {kt : KT} {a b : PVal} {r : Bool} (h : PVal.eq? kt a b = some r) : ∃ r', PVal.eq? kt a a = some r' := by
  cases kt with
  | one k =>
    cases a <;> cases b <;> simp only [PVal.eq?] at h ⊢ <;> try (cases h; done)
    exact eqk_self h
  | agg ks =>
    cases a <;> cases b <;> simp only [PVal.eq?] at h ⊢ <;> try (cases h; done)
    exact eqK_self h

/-- Finding a key: the model's two ways come to one place. -/
theorem run_findKey {t : TypeId} {kt : KT} (hk : keyT P flatDepth t = some kt) {td : TypeDesc} (hu : P.underlying t = some td) {a : PVal} {x : Value} (hx : VRep M a x) :
    ∀ (es : List (PVal × PVal)) (en : List MapEntry) (i : Nat) (o : Option Nat), All2 (entRep M) es en → idxE kt a es = some o →
      (Instr.findAsking t x en i).run P w = .ok (o.map fun n => (i + n, (en[n]?.map MapEntry.val).getD undef)) w ∧
      (∀ r, Instr.findNow td x en i = some r → r = o.map fun n => (i + n, (en[n]?.map MapEntry.val).getD undef)) ∧ (∀ n, o = some n → n < en.length)
  | [], [], i, o, _, h => by
    simp [idxE] at h; subst h
    exact ⟨by simp [Instr.findAsking], fun r hr => by simp [Instr.findNow] at hr; subst hr; rfl, by simp⟩
  | (b, v) :: es, e :: en, i, o, hl, h => by
    simp only [idxE] at h
    cases he : PVal.eq? kt a b with
    | none => simp [he] at h
    | some r =>
      obtain ⟨h1, _, _, h4⟩ := key_laws (w := w) hk he hx hl.1.1
      have h5 := h4 td hu
      cases r with
      | true =>
        simp [he] at h; subst h
        refine ⟨by simp [Instr.findAsking, h1], fun r hr => ?_, by simp⟩
        simp only [Instr.findNow] at hr
        split at hr
        · injection hr with hr; subst hr; simp
        · rename_i hn; exact absurd (h5 _ hn) (by simp)
        · cases hr
      | false =>
        simp only [he, Option.map_eq_some_iff] at h
        obtain ⟨o', h6, rfl⟩ := h
        obtain ⟨g1, g2, g3⟩ := run_findKey hk hu hx es en (i + 1) o' hl.2 h6
        have hsh : (o'.map (· + 1)).map (fun n => (i + n, ((e :: en)[n]?.map MapEntry.val).getD undef)) = o'.map fun n => (i + 1 + n, (en[n]?.map MapEntry.val).getD undef) := by
          cases o' with
          | none => rfl
          | some n => simp; omega
        rw [hsh]
        refine ⟨by simp [Instr.findAsking, h1, g1], fun r hr => ?_, fun n hn => ?_⟩
        · simp only [Instr.findNow] at hr
          split at hr
          · rename_i hn; exact absurd (h5 _ hn) (by simp)
          · exact g2 r hr
          · cases hr
        · cases o' with
          | none => simp at hn
          | some n' => simp at hn; have := g3 n' rfl; simp; omega
  | [], _ :: _, _, _, hl, _ => hl.elim
  | _ :: _, [], _, _, hl, _ => hl.elim

theorem run_findKey' {t : TypeId} {kt : KT} (hk : keyT P flatDepth t = some kt) {a : PVal} {x : Value} (hx : VRep M a x) {es : List (PVal × PVal)} {en : List MapEntry} {o : Option Nat} (hl : All2 (entRep M) es en) (h : idxE kt a es = some o) :
    (Instr.findKey t x en).run P w = .ok (o.map fun n => (n, (en[n]?.map MapEntry.val).getD undef)) w ∧ (∀ n, o = some n → n < en.length) := by
  have hund : ∃ td, P.underlying t = some td := by
    unfold keyT isAggT at hk
    cases hu : P.underlying t with
    | none => simp [hu] at hk
    | some td => exact ⟨td, rfl⟩
  obtain ⟨td, hu⟩ := hund
  obtain ⟨h1, h2, h3⟩ := run_findKey (w := w) hk hu hx es en 0 o hl h
  simp only [Nat.zero_add] at h1 h2
  refine ⟨?_, h3⟩
  simp only [Instr.findKey, Sem.run_bind, run_und hu, Result.andThen_ok]
  split
  · rename_i r hr; rw [h2 r hr]; rfl
  · exact h1

theorem All2.set {α β : Type} {R : α → β → Prop} : ∀ {l : List α} {m : List β} (n : Nat) {a : α} {b : β}, All2 R l m → R a b → All2 R (l.set n a) (m.set n b)
  | [], [], _, _, _, h, _ => h
  | _ :: _, _ :: _, 0, _, _, h, hr => ⟨hr, h.2⟩
  | _ :: _, _ :: _, n + 1, _, _, h, hr => ⟨h.1, All2.set n h.2 hr⟩
  | [], _ :: _, _, _, _, h, _ => h.elim
  | _ :: _, [], _, _, _, h, _ => h.elim
theorem All2.erase {α β : Type} {R : α → β → Prop} : ∀ {l : List α} {m : List β} (n : Nat), All2 R l m → All2 R (l.eraseIdx n) (m.eraseIdx n)
  | [], [], _, h => h
  | _ :: _, _ :: _, 0, h => h.2
  | _ :: _, _ :: _, n + 1, h => ⟨h.1, All2.erase n h.2⟩
  | [], _ :: _, _, h => h.elim
  | _ :: _, [], _, h => h.elim
end

section
variable {X : Ctx} {U : Nat → Prop} {j : Nat → Option Nat} {M : Mem} {h : Hp} {ar : Nat} {w : World} {fk : Nat} {P : Program}

theorem crep_map {S : Nat → Nat} {k : Nat} {v : Value} (h : CRep U j M S (.map k) v) : ∃ B, v = .map (some B) ∧ U k ∧ ∀ B', j k = some B' → B' = B := by
  cases h with
  | map _ B hu hj => exact ⟨B, rfl, hu, hj⟩

theorem pval_rep {S : Nat → Nat} {x : AV} {a : PVal} {v : Value} (hx : x.pval? = some a) (h : ARep U j M S x v) : VRep M a v := by
  cases x <;> simp [AV.pval?] at hx <;> subst hx <;> exact h

theorem ofPVal_rep {S : Nat → Nat} {a : PVal} {v : Value} (h : VRep M a v) : ARep U j M S (AV.ofPVal a) v := by
  cases a <;> exact h

theorem do_look (r : RH X U j M h ar w) {t kt et : TypeId} {k : KT} (ht : P.underlying t = some (.map kt et)) (hk : keyT P flatDepth kt = some k) {ei : TypeInfo} {ez : Value} (hei : P.info? et = some ei) (hez : ei.zero = some ez) {zero : AV} (hz : constAV ez = some zero)
    {x y : AV} {a b : Value} (hx : ARep U j M (bsz w) x a) (hy : ARep U j M (bsz w) y b) {ok : Bool} {z : AV} {u : Upd}
    (hs : (match (generalizing := false) x, y.pval? with
      | .r (.map q), some key => match h.get q with
        | some (.map es) => if (PVal.eq? k key key).isSome = true then match findE k key es with
          | some (some v) => if ok then (AV.ofList [AV.ofPVal v, .p (.bool true)]).map (·, ([] : Upd)) else some (AV.ofPVal v, [])
          | some none => if ok then (AV.ofList [zero, .p (.bool false)]).map (·, []) else some (zero, [])
          | none => none
          else none
        | _ => none
      | _, _ => none) = some (z, u)) :
    Done X U j M h ar w fk ((do Pure.pure (.value (← Instr.lookup t a b ok)) : Sem Next).run P w) z u := by
  cases x <;> try (simp at hs; done)
  rename_i c
  cases c <;> try (simp at hs; done)
  rename_i q
  cases hp : y.pval? with
  | none => simp [hp] at hs
  | some key =>
    cases hg : h.get q with
    | none => simp [hp, hg] at hs
    | some blk =>
      cases blk with
      | cells m f cs => simp [hp, hg] at hs
      | map es =>
        simp only [hp, hg] at hs
        split at hs
        · rename_i hself
          obtain ⟨rs, hself⟩ := Option.isSome_iff_exists.1 hself
          obtain ⟨B, hB, en, ck, hw, hl⟩ := r.hp q _ hg
          obtain ⟨B', rfl, _, hj⟩ := crep_map hx
          have := hj B hB; subst this
          have hrep := pval_rep hp hy
          have hchk := (key_laws (w := w) hk hself hrep hrep).2.1
          cases hf : findE k key es with
          | none => simp [hf] at hs
          | some res =>
            obtain ⟨o, ho, hres⟩ := findE_idx hf
            obtain ⟨hrun, hlt⟩ := run_findKey' (w := w) hk hrep hl ho
            have hget : (getObj B).run P w = .ok (.map en ck) w := by simp [getObj, Sem.run, hw]
            have hzr := run_zero (w := w) hei hez
            have main : ∃ v okb, (Instr.lookup t (.map (some B)) b ok).run P w = .ok (if ok then .tuple #[v, .bool okb] else v) w ∧
                ((res = none ∧ okb = false ∧ ARep U j M (bsz w) zero v) ∨ ∃ pv, res = some pv ∧ okb = true ∧ VRep M pv v) := by
              cases o with
              | none =>
                simp at hres
                refine ⟨ez, false, ?_, .inl ⟨hres, rfl, constAV_rep hz⟩⟩
                simp [Instr.lookup, run_und ht, hget, hchk, hrun, hzr]
              | some n =>
                have hn := hlt n rfl
                simp at hn
                have hn' : n < es.length := by have := hl.len; simp at this; omega
                obtain ⟨e, he, hr⟩ := hl.get (List.getElem?_eq_getElem hn')
                have he' : en[n]? = some e := by simpa using he
                simp only [Option.bind_some, List.getElem?_eq_getElem hn', Option.map_some] at hres
                refine ⟨e.val, true, ?_, .inr ⟨_, hres, rfl, hr.2⟩⟩
                simp [Instr.lookup, run_und ht, hget, hchk, hrun, he']
            obtain ⟨v, okb, hrun', hcase⟩ := main
            rw [hf] at hs
            rcases hcase with ⟨rfl, rfl, hv⟩ | ⟨pv, rfl, rfl, hv⟩
            · cases ok with
              | true =>
                simp at hs
                obtain ⟨_, hs, rfl, rfl⟩ := hs
                refine Done.pure r ?_ (by simpa using hrun')
                have := ofList_rep (vs := #[v, .bool false]) hs ⟨hv, PRep.bool false, trivial⟩
                simpa using this
              | false =>
                simp at hs
                obtain ⟨rfl, rfl⟩ := hs
                exact Done.pure (x := zero) r hv (by simpa using hrun')
            · cases ok with
              | true =>
                simp at hs
                obtain ⟨_, hs, rfl, rfl⟩ := hs
                refine Done.pure r ?_ (by simpa using hrun')
                have := ofList_rep (U := U) (j := j) (S := bsz w) (vs := #[v, .bool true]) hs ⟨ofPVal_rep hv, PRep.bool true, trivial⟩
                simpa using this
              | false =>
                simp at hs
                obtain ⟨rfl, rfl⟩ := hs
                exact Done.pure (x := AV.ofPVal pv) r (ofPVal_rep hv) (by simpa using hrun')
        · cases hs

/-- A map's entries turn. -/
theorem map_upd (r : RH X U j M h ar w) {q B : Nat} {es es' : List (PVal × PVal)} {en en' : Array MapEntry} {ck ck' : Nat} (hB : j q = some B) (hg : h.get q = some (.map es)) (hw : w.heap[B]? = some (.map en ck)) (hl : All2 (entRep M) es' en'.toList) :
    RH X U j M (h.put q (.map es')) ar (setB w B (.map en' ck')) ∧ Ev U j M (bsz w) U j M (bsz (setB w B (.map en' ck'))) := by
  refine r.setB hB hg (fun c t f e => by cases e) (fun _ => by simp [bsz, hw]) (fun ev => ⟨en', ck', by rw [heap_setB _ _ _ (lt_of_heap hw), if_pos rfl], hl⟩) (fun o v hv => ?_) fun m f cs e => by cases e
  have := r.mem B o v hv
  rw [cell_map hw] at this; cases this

theorem run_setObj {B : Nat} {en : Array MapEntry} {ck : Nat} (hw : w.heap[B]? = some (.map en ck)) (o : Obj) : (setObj B o).run P w = .ok () (setB w B o) := by
  simp [setObj, Sem.run, hw, setB]

theorem do_mapupd (r : RH X U j M h ar w) {t kt et : TypeId} {k : KT} (ht : P.underlying t = some (.map kt et)) (hk : keyT P flatDepth kt = some k)
    {x y z : AV} {a b c : Value} (hx : ARep U j M (bsz w) x a) (hy : ARep U j M (bsz w) y b) (hz : ARep U j M (bsz w) z c) {q' : AV} {u : Upd}
    (hs : (match (generalizing := false) x, y.pval?, z.pval? with
      | .r (.map q), some key, some val => match h.get q with
        | some (.map es) => if (PVal.eq? k key key).isSome = true then (setE k key val es).map fun es' => (AV.u, [(q, some (Blk.map es'))]) else none
        | _ => none
      | _, _, _ => none) = some (q', u)) :
    Done X U j M h ar w fk ((do Instr.mapUpdate t a b c; Pure.pure .skip : Sem Next).run P w) q' u := by
  cases x <;> try (simp at hs; done)
  rename_i c0
  cases c0 <;> try (simp at hs; done)
  rename_i q
  cases hp : y.pval? with
  | none => simp [hp] at hs
  | some key =>
    cases hp2 : z.pval? with
    | none => simp [hp, hp2] at hs
    | some val =>
      cases hg : h.get q with
      | none => simp [hp, hp2, hg] at hs
      | some blk =>
        cases blk with
        | cells m f cs => simp [hp, hp2, hg] at hs
        | map es =>
          simp only [hp, hp2, hg] at hs
          split at hs
          · rename_i hself
            obtain ⟨rs, hself⟩ := Option.isSome_iff_exists.1 hself
            simp only [Option.map_eq_some_iff, Prod.mk.injEq] at hs
            obtain ⟨es', hset, rfl, rfl⟩ := hs
            obtain ⟨B, hB, en, ck, hw, hl⟩ := r.hp q _ hg
            obtain ⟨B', rfl, _, hj⟩ := crep_map hx
            have := hj B hB; subst this
            have hrep := pval_rep hp hy
            have hval := pval_rep hp2 hz
            have hchk := (key_laws (w := w) hk hself hrep hrep).2.1
            obtain ⟨o, ho, hes⟩ := setE_idx hset
            obtain ⟨hrun, hlt⟩ := run_findKey' (w := w) hk hrep hl ho
            have hget : (getObj B).run P w = .ok (.map en ck) w := by simp [getObj, Sem.run, hw]
            cases o with
            | none =>
              obtain ⟨r', e'⟩ := map_upd (es' := es') (en' := en.push { key := b, val := c, born := ck }) (ck' := ck + 1) r hB hg hw (by
                rw [hes, Array.toList_push]; exact hl.app ⟨⟨hrep, hval⟩, trivial⟩)
              refine Done.upd1 r' e' ?_
              simp [Instr.mapUpdate, run_und ht, hget, hchk, hrun, run_setObj hw]
            | some n =>
              have hn := hlt n rfl
              simp at hn
              have hn' : n < es.length := by have := hl.len; simp at this; omega
              obtain ⟨e, he, hr⟩ := hl.get (List.getElem?_eq_getElem hn')
              have he' : en[n]? = some e := by simpa using he
              have hsame : Instr.sameBits 10000 e.key b = true := by
                obtain ⟨p, h1, h2⟩ := idxE_at ho
                rw [List.getElem?_eq_getElem hn'] at h1
                injection h1 with h1
                have : PVal.eq? k key es[n].1 = some true := by rw [h1]; exact h2
                exact (key_laws (w := w) hk this hrep hr.1).2.2.1 rfl
              obtain ⟨r', e'⟩ := map_upd (es' := es') (en' := en.modify n fun e => { e with key := b, val := c }) (ck' := ck) r hB hg hw (by
                rw [hes]
                have : (en.modify n fun e => { e with key := b, val := c }).toList = en.toList.set n { e with key := b, val := c } := by
                  apply List.ext_getElem?
                  intro i
                  rw [Array.getElem?_toList, Array.getElem?_modify, List.getElem?_set, Array.getElem?_toList]
                  by_cases hi : n = i
                  · subst hi
                    have := (Array.getElem?_eq_some_iff.1 he').2
                    simp [hn, this]
                  · simp [hi]
                rw [this]; exact hl.set n ⟨hrep, hval⟩)
              refine Done.upd1 r' e' ?_
              simp [Instr.mapUpdate, run_und ht, hget, hchk, hrun, he', Instr.keyThatStays, hsame, run_setObj hw]
          · cases hs

theorem do_delm (r : RH X U j M h ar w) {t kt et ty : TypeId} {k : KT} (ht : P.underlying t = some (.map kt et)) (hk : keyT P flatDepth kt = some k)
    {x y : AV} {a b : Value} (hx : ARep U j M (bsz w) x a) (hy : ARep U j M (bsz w) y b) {q' : AV} {u : Upd} {ts : Array TypeId} (hts : ts[0]? = some t)
    (hs : (match (generalizing := false) x, y.pval? with
      | .r (.map q), some key => match h.get q with
        | some (.map es) => if (PVal.eq? k key key).isSome = true then (delE k key es).map fun es' => (AV.u, [(q, some (Blk.map es'))]) else none
        | _ => none
      | _, _ => none) = some (q', u)) :
    Done X U j M h ar w fk ((do Pure.pure (.value (← Builtin.delete_ ts ty #[a, b])) : Sem Next).run P w) q' u := by
  cases x <;> try (simp at hs; done)
  rename_i c0
  cases c0 <;> try (simp at hs; done)
  rename_i q
  cases hp : y.pval? with
  | none => simp [hp] at hs
  | some key =>
    cases hg : h.get q with
    | none => simp [hp, hg] at hs
    | some blk =>
      cases blk with
      | cells m f cs => simp [hp, hg] at hs
      | map es =>
        simp only [hp, hg] at hs
        split at hs
        · rename_i hself
          obtain ⟨rs, hself⟩ := Option.isSome_iff_exists.1 hself
          simp only [Option.map_eq_some_iff, Prod.mk.injEq] at hs
          obtain ⟨es', hset, rfl, rfl⟩ := hs
          obtain ⟨B, hB, en, ck, hw, hl⟩ := r.hp q _ hg
          obtain ⟨B', rfl, _, hj⟩ := crep_map hx
          have := hj B hB; subst this
          have hrep := pval_rep hp hy
          have hchk := (key_laws (w := w) hk hself hrep hrep).2.1
          obtain ⟨o, ho, hes⟩ := delE_idx hset
          obtain ⟨hrun, hlt⟩ := run_findKey' (w := w) hk hrep hl ho
          have hget : (getObj B).run P w = .ok (.map en ck) w := by simp [getObj, Sem.run, hw]
          cases o with
          | none =>
            obtain ⟨r', e'⟩ := map_upd (es' := es') (en' := en) (ck' := ck) r hB hg hw (by rw [hes]; exact hl)
            refine ⟨.value (.tuple #[]), _, _, ?_, .inl rfl, U, j, M, fun _ h => .inl h, r', e', trivial⟩
            simp [Builtin.delete_, hts, run_und ht, hget, hchk, hrun, run_setObj hw]
          | some n =>
            obtain ⟨r', e'⟩ := map_upd (es' := es') (en' := en.eraseIdxIfInBounds n) (ck' := ck) r hB hg hw (by
              rw [hes, Array.toList_eraseIdxIfInBounds]; exact hl.erase n)
            refine ⟨.value (.tuple #[]), _, _, ?_, .inl rfl, U, j, M, fun _ h => .inl h, r', e', trivial⟩
            simp [Builtin.delete_, hts, run_und ht, hget, hchk, hrun, run_setObj hw]
        · cases hs

theorem do_mkmap (r : RH X U j M h ar w) (hf : ¬ U fk) (ha : ar ≤ fk) {t : TypeId} :
    Done X U j M h ar w fk ((do Pure.pure (.value (← Instr.makeMap t none)) : Sem Next).run P w) (.r (.map fk)) [(fk, some (.map []))] := by
  refine Done.new r hf ha (v := .map (some w.heap.size)) (o := .map #[] 0) ?_ (fun U' j' e => ?_) fun U' j' hu hj _ => .map fk _ hu fun B' e => by rw [hj] at e; injection e with e; exact e.symm
  · simp [Instr.makeMap]
  · exact ⟨#[], 0, by rw [heap_alloc, if_pos rfl], trivial⟩

theorem do_lenmap (r : RH X U j M h ar w) {t kt et ty : TypeId} {ts : Array TypeId} (hts : ts[0]? = some t) (ht : P.underlying t = some (.map kt et)) {x : AV} {a : Value} (hx : ARep U j M (bsz w) x a) {y : AV} {u : Upd}
    (hs : (match (generalizing := false) x with
      | .p .nilm => some (AV.p (.int .i64 0), ([] : Upd))
      | .r (.map q) => match h.get q with
        | some (.map es) => some (.p (.int .i64 es.length), [])
        | _ => none
      | _ => none) = some (y, u)) :
    Done X U j M h ar w fk ((do Pure.pure (.value (← Builtin.len_ ts ty #[a])) : Sem Next).run P w) y u := by
  cases x <;> try (simp at hs; done)
  · rename_i c0
    cases c0 <;> try (simp at hs; done)
    injection hs with hs; injection hs with h1 h2; subst h1 h2
    cases hx
    exact Done.pure (x := .p (.int .i64 0)) r (PRep.int _ _) (by simp [Builtin.len_, hts, run_und ht, goInt])
  · rename_i c0
    cases c0 <;> try (simp at hs; done)
    rename_i q
    cases hg : h.get q with
    | none => simp [hg] at hs
    | some blk =>
      cases blk with
      | cells m f cs => simp [hg] at hs
      | map es =>
        simp [hg] at hs
        obtain ⟨rfl, rfl⟩ := hs
        obtain ⟨B, hB, en, ck, hw, hl⟩ := r.hp q _ hg
        obtain ⟨B', rfl, _, hj⟩ := crep_map hx
        have := hj B hB; subst this
        have hget : (getObj B).run P w = .ok (.map en ck) w := by simp [getObj, Sem.run, hw]
        have hlen := hl.len
        simp at hlen
        refine Done.pure (x := .p (.int .i64 es.length)) r (v := .int .i64 en.size) ?_ (by simp [Builtin.len_, hts, run_und ht, hget, goInt])
        rw [hlen]; exact PRep.int _ _

theorem do_eqa (r : RH X U j M h ar w) {t : TypeId} (hag : isAggT P t = some true) (hgd : P.eqGuardType P.depth t = false) {ks : List Kd} (hk : flatK P flatDepth t = some ks) {neg : Bool} {xo yo : Operand}
    {x y : AV} {a b : Value} (hx : ARep U j M (bsz w) x a) (hy : ARep U j M (bsz w) y b) {z : AV} {u : Upd}
    (hs : (match (generalizing := false) x, y with
      | .pa a, .pa b => (eqK? ks a b).map fun r => (AV.p (.bool (if neg then !r else r)), ([] : Upd))
      | _, _ => none) = some (z, u)) :
    Done X U j M h ar w fk ((do Pure.pure (.value (← (do eqGuard (if neg then .neq else .eql) t xo yo a b; binOp (if neg then .neq else .eql) t a b))) : Sem Next).run P w) z u := by
  cases x <;> try (simp at hs; done)
  cases y <;> try (simp at hs; done)
  rename_i l m
  simp only [Option.map_eq_some_iff, Prod.mk.injEq] at hs
  obtain ⟨res, hres, rfl, rfl⟩ := hs
  obtain ⟨vs, rfl, h1⟩ := hx
  obtain ⟨us, rfl, h2⟩ := hy
  have hF := flat_at _ _ _ hk
  have hm : ∀ v : Array Value, mkV P t v.toList = .agg v := fun v => by simp [mkV, hag]
  have e1 := hF.eq M w 10000 l m vs.toList us.toList res (by unfold flatDepth; omega) h1 h2 hres
  rw [hm, hm] at e1
  have e2 : (Op.equal t (.agg vs) (.agg us)).run P w = .ok res w := e1
  refine Done.pure (x := .p (.bool (if neg then !res else res))) r (v := .bool (if neg then !res else res)) (PRep.bool _) ?_
  cases neg <;> simp [eqGuard, hgd, binOp, e2]
end

end Gv
