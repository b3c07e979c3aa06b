/- What an operation reads: only its operands, and the blocks of its foot. -/
import Derived.Test.YtnjnlkaagfihbaaACall2
set_option linter.all false
namespace Gv
open Go

def VClosed (h : Hp) (V : List Nat) : Prop := ∀ k, k ∈ V → ∀ b, h.get k = some b → ∀ k', k' ∈ b.refs → k' ∈ V

theorem visit_spec (h : Hp) : ∀ (n : Nat) (todo seen out : List Nat), visit h n todo seen = some out →
    (∀ k, k ∈ seen → ∀ b, h.get k = some b → ∀ k', k' ∈ b.refs → k' ∈ seen ∨ k' ∈ todo) →
    VClosed h out ∧ (∀ k, k ∈ seen → k ∈ out) ∧ (∀ k, k ∈ todo → k ∈ out)
  | 0, _, _, _, e, _ => by simp [visit] at e
  | n + 1, [], seen, out, e, hi => by
    simp [visit] at e; subst e
    exact ⟨fun k hk b hb k' hk' => (hi k hk b hb k' hk').resolve_right (by simp), fun _ h => h, fun k hk => by simp at hk⟩
  | n + 1, k :: todo, seen, out, e, hi => by
    simp only [visit] at e
    split at e
    · rename_i hk
      have hk : k ∈ seen := by simpa using hk
      obtain ⟨h1, h2, h3⟩ := visit_spec h n todo seen out e (fun q hq b hb k' hk' => by
        rcases hi q hq b hb k' hk' with h5 | h5
        · exact .inl h5
        · rcases List.mem_cons.1 h5 with h6 | h6
          · subst h6; exact .inl hk
          · exact .inr h6)
      refine ⟨h1, h2, fun q hq => ?_⟩
      rcases List.mem_cons.1 hq with h6 | h6
      · subst h6; exact h2 _ hk
      · exact h3 _ h6
    · split at e
      · rename_i b hb
        obtain ⟨h1, h2, h3⟩ := visit_spec h n (b.refs ++ todo) (seen ++ [k]) out e (fun q hq b' hb' k' hk' => by
          rcases List.mem_append.1 hq with hq | hq
          · rcases hi q hq b' hb' k' hk' with h5 | h5
            · exact .inl (List.mem_append_left _ h5)
            · rcases List.mem_cons.1 h5 with h6 | h6
              · subst h6; exact .inl (by simp)
              · exact .inr (List.mem_append_right _ h6)
          · simp at hq; subst hq
            rw [hb] at hb'; injection hb' with hb'; subst hb'
            exact .inr (List.mem_append_left _ hk'))
        refine ⟨h1, fun q hq => h2 q (List.mem_append_left _ hq), fun q hq => ?_⟩
        rcases List.mem_cons.1 hq with h6 | h6
        · subst h6; exact h2 _ (by simp)
        · exact h3 _ (List.mem_append_right _ h6)
      · rename_i hb
        obtain ⟨h1, h2, h3⟩ := visit_spec h n todo (seen ++ [k]) out e (fun q hq b' hb' k' hk' => by
          rcases List.mem_append.1 hq with hq | hq
          · rcases hi q hq b' hb' k' hk' with h5 | h5
            · exact .inl (List.mem_append_left _ h5)
            · rcases List.mem_cons.1 h5 with h6 | h6
              · subst h6; exact .inl (by simp)
              · exact .inr h6
          · simp at hq; subst hq; rw [hb] at hb'; cases hb')
        refine ⟨h1, fun q hq => h2 q (List.mem_append_left _ hq), fun q hq => ?_⟩
        rcases List.mem_cons.1 hq with h6 | h6
        · subst h6; exact h2 _ (by simp)
        · exact h3 _ h6

section
variable {h h' : Hp} {V : List Nat} (hc : VClosed h V) (ha : ∀ k, k ∈ V → h.get k = h'.get k)
include hc ha

theorem reach_congr : ∀ (n : Nat) (todo seen : List Nat), (∀ k, k ∈ todo → k ∈ V) → reach h n todo seen = reach h' n todo seen
  | 0, _, _, _ => rfl
  | n + 1, [], seen, _ => rfl
  | n + 1, k :: todo, seen, ht => by
    have hk := ht k (by simp)
    have ht' : ∀ q, q ∈ todo → q ∈ V := fun q hq => ht q (by simp [hq])
    simp only [reach]
    rw [← ha k hk, reach_congr n todo seen ht']
    cases hb : h.get k with
    | none => rfl
    | some b =>
      simp only
      rw [reach_congr n (b.refs ++ todo) (seen ++ [k]) fun q hq => by
        rcases List.mem_append.1 hq with h1 | h1
        · exact hc k hk b hb q h1
        · exact ht' q h1]

omit ha in
theorem reach_sub : ∀ (n : Nat) (todo seen out : List Nat), (∀ k, k ∈ todo → k ∈ V) → (∀ k, k ∈ seen → k ∈ V) → reach h n todo seen = some out → ∀ k, k ∈ out → k ∈ V
  | 0, _, _, _, _, _, e => by simp [reach] at e
  | n + 1, [], seen, out, _, hs, e => by simp [reach] at e; subst e; exact hs
  | n + 1, k :: todo, seen, out, ht, hs, e => by
    have hk := ht k (by simp)
    have ht' : ∀ q, q ∈ todo → q ∈ V := fun q hq => ht q (by simp [hq])
    simp only [reach] at e
    split at e
    · exact reach_sub n _ _ _ ht' hs e
    · split at e
      · rename_i b hb
        refine reach_sub n _ _ _ (fun q hq => ?_) (fun q hq => ?_) e
        · rcases List.mem_append.1 hq with h1 | h1
          · exact hc k hk b hb q h1
          · exact ht' q h1
        · rcases List.mem_append.1 hq with h1 | h1
          · exact hs q h1
          · simp at h1; subst h1; exact hk
      · exact reach_sub n _ _ _ ht' hs e

omit hc in
theorem pack_congr (ρ : Nat → Option Nat) : ∀ (L : List Nat) (a : Nat), (∀ k, k ∈ L → k ∈ V) → pack h ρ a L = pack h' ρ a L
  | [], _, _ => rfl
  | k :: L, a, hL => by
    simp only [pack]
    rw [← ha k (hL k (by simp)), pack_congr ρ L (a + 1) fun q hq => hL q (by simp [hq])]

omit hc in
theorem freezeUpd_congr : ∀ (L : List Nat), (∀ k, k ∈ L → k ∈ V) → freezeUpd h L = freezeUpd h' L
  | [], _ => rfl
  | k :: L, hL => by
    simp only [freezeUpd]
    rw [← ha k (hL k (by simp)), freezeUpd_congr L fun q hq => hL q (by simp [hq])]

theorem mapO_congr {α β : Type} {f g : α → Option β} : ∀ {l : List α}, (∀ x, x ∈ l → f x = g x) → mapO f l = mapO g l
  | [], _ => rfl
  | x :: l, hh => by
    simp only [mapO]
    rw [hh x (by simp), mapO_congr (l := l) fun y hy => hh y (by simp [hy])]

theorem snap_congr : ∀ (d : Nat) (c : C), (∀ k, k ∈ c.refs → k ∈ V) → snap h d c = snap h' d c
  | 0, _, _ => rfl
  | d + 1, c, hr => by
    have sub : ∀ k m f cs, k ∈ V → h.get k = some (.cells m f cs) → ∀ x, x ∈ cs → snap h d x = snap h' d x := fun k m f cs hk hb x hx =>
      snap_congr d x fun q hq => hc k hk _ hb q (by simp only [Blk.refs, List.mem_flatMap]; exact ⟨x, hx, hq⟩)
    cases c with
    | ptr k o =>
      have hk := hr k (by simp [C.refs])
      simp only [snap, ← ha k hk]
      cases hb : h.get k with
      | none => rfl
      | some b => cases b with
        | cells m f cs => simp only; rw [mapO_congr hc ha (fun x hx => sub k m f cs hk hb x hx)]
        | map es => rfl
    | slc k o n z =>
      have hk := hr k (by simp [C.refs])
      simp only [snap, ← ha k hk]
      cases hb : h.get k with
      | none => rfl
      | some b => cases b with
        | cells m f cs => simp only; rw [mapO_congr hc ha (fun x hx => sub k m f cs hk hb x (List.mem_of_mem_drop (List.mem_of_mem_take hx)))]
        | map es => rfl
    | _ => rfl

theorem snapAV_congr (x : AV) (hr : ∀ k, k ∈ x.refs → k ∈ V) : x.snap h = x.snap h' := by
  cases x with
  | r c => simp only [AV.snap]; rw [snap_congr hc ha _ c hr]
  | ag cs =>
    simp only [AV.snap]
    rw [mapO_congr hc ha fun x hx => snap_congr hc ha _ x fun k hk => hr k (by simp only [AV.refs, List.mem_flatMap]; exact ⟨x, hx, hk⟩)]
  | _ => rfl

theorem snapAll_congr : ∀ (l : List AV), (∀ k, k ∈ l.flatMap AV.refs → k ∈ V) → snapAll h l = snapAll h' l
  | [], _ => rfl
  | x :: l, hr => by
    simp only [snapAll]
    rw [snapAV_congr hc ha x fun k hk => hr k (by simp [hk]), snapAll_congr l fun k hk => hr k (by simp only [List.flatMap_cons, List.mem_append]; exact .inr hk)]

omit hc in
theorem appCells_congr (z : Nat) (x : AV) (hr : ∀ k, k ∈ x.refs → k ∈ V) : appCells h z x = appCells h' z x := by
  cases x with
  | r c =>
    cases c with
    | slc k o n z' => simp only [appCells, Hp.cells?, ← ha k (hr k (by simp [AV.refs, C.refs]))]
    | _ => rfl
  | p c => cases c <;> rfl
  | _ => rfl

theorem prim_congr (p : Prim) (fk : Nat) (args : List AV) (hr : ∀ k, k ∈ args.flatMap AV.refs → k ∈ V) : primStep p h fk args = primStep p h' fk args := by
  unfold primStep
  split
  · rename_i t z x
    rw [appCells_congr ha z x fun k hk => hr k (by simp [hk])]
  · rename_i x
    split
    · rfl
    · rfl
    · rename_i k o n z
      have hk := ha k (hr k (by simp [AV.refs, C.refs]))
      simp only [Hp.cells?, ← hk]
    · rfl
  · rfl
  · rename_i x sep
    rw [snapAV_congr hc ha x fun k hk => hr k (by simp [hk])]
  · rfl
  · rfl

theorem doCall_congr (F : Fns) (rec : Rec) {s s' : St} (e1 : s.hp = h) (e2 : s'.hp = h') (fk : Nat) (f : FuncId) (args : List AV) (hr : ∀ k, k ∈ args.flatMap AV.refs → k ∈ V) : doCall F rec s fk f args = doCall F rec s' fk f args := by
  unfold doCall
  subst e1 e2
  have h1 : reachAll s.hp (args.flatMap AV.refs) = reachAll s'.hp (args.flatMap AV.refs) := reach_congr hc ha _ _ _ hr
  have h2 := snapAll_congr hc ha args hr
  split
  · rfl
  · rename_i fn hfn
    split
    · exact prim_congr hc ha _ _ _ hr
    · rw [← h1, ← h2]
      cases hks : reachAll s.hp (args.flatMap AV.refs) with
      | none => cases snapAll s.hp args <;> rfl
      | some ks =>
        have hsub := reach_sub hc _ _ _ _ hr (fun k hk => by simp at hk) hks
        have h3 := freezeUpd_congr ha ks hsub
        cases snapAll s.hp args with
        | none => rfl
        | some xs => simp only [h3]
    · rw [← h1]
      cases hks : reachAll s.hp (args.flatMap AV.refs) with
      | none => rfl
      | some ks =>
        have hsub := reach_sub hc _ _ _ _ hr (fun k hk => by simp at hk) hks
        simp only [pack_congr ha (place 0 ks) ks 0 hsub]
    · rw [← h1]
      cases hks : reachAll s.hp (args.flatMap AV.refs) with
      | none => rfl
      | some ks =>
        have hsub := reach_sub hc _ _ _ _ hr (fun k hk => by simp at hk) hks
        simp only [pack_congr ha (place 0 ks) ks 0 hsub]
    · rw [← h1, ← h2]
    · rw [← h1, ← h2]
      cases hks : reachAll s.hp (args.flatMap AV.refs) with
      | none => cases snapAll s.hp args <;> rfl
      | some ks =>
        have hsub := reach_sub hc _ _ _ _ hr (fun k hk => by simp at hk) hks
        have h3 := freezeUpd_congr ha ks hsub
        cases snapAll s.hp args with
        | none => rfl
        | some xs => simp only [h3]

end

theorem map_ev {s s' : St} : ∀ {l : List Opd}, (∀ x, x ∈ l → s.ev x = s'.ev x) → l.map s.ev = l.map s'.ev
  | [], _ => rfl
  | x :: l, h => by simp only [List.map_cons]; rw [h x (by simp), map_ev fun y hy => h y (by simp [hy])]

theorem opt_ev {s s' : St} {x : Option Opd} (h : ∀ y, y ∈ x.toList → s.ev y = s'.ev y) : x.map s.ev = x.map s'.ev := by
  cases x with
  | none => rfl
  | some y => simp only [Option.map_some]; rw [h y (by simp)]

theorem parts_ev {s s' : St} : ∀ {ps : List (Nat × Nat × Opd)}, (∀ x, x ∈ ps.map (fun (_, _, x) => x) → s.ev x = s'.ev x) → ps.map (fun (o, n, x) => (o, n, s.ev x)) = ps.map (fun (o, n, x) => (o, n, s'.ev x))
  | [], _ => rfl
  | (o, n, x) :: ps, h => by
    simp only [List.map_cons]
    rw [h x (by simp), parts_ev fun y hy => h y (by simp only [List.map_cons, List.mem_cons]; exact .inr hy)]

theorem eqPtr_congr {h h' : Hp} {x y : AV} (H : ∀ k, k ∈ x.refs → h.get k = h'.get k) : eqPtr h x y = eqPtr h' x y := by
  unfold eqPtr
  split
  · rfl
  · rfl
  · rename_i k o k' o'
    rw [H k (by simp [AV.refs, C.refs])]
  · rfl

/-- An operation that is no call. -/
theorem step_congr {s s' : St} (fk : Nat) (op : VOp) (hx : ∀ x, x ∈ op.opds → s.ev x = s'.ev x) {V : List Nat} (hf : foot s op = some V) (ha : ∀ k, k ∈ V → s.hp.get k = s'.hp.get k) : step s fk op = step s' fk op := by
  have getk : ∀ {x : AV} {k : Nat}, k ∈ x.refs → (∀ q, q ∈ x.refs → q ∈ V) → s.hp.get k = s'.hp.get k := fun h1 h2 => ha _ (h2 _ h1)
  cases op with
  | mov x => simp only [step, st_mov, hx x (by simp [VOp.opds])]
  | pick c a b => simp only [step, st_pick, hx c (by simp [VOp.opds]), hx a (by simp [VOp.opds]), hx b (by simp [VOp.opds])]
  | alloc t z => rfl
  | box t x => simp only [step, st_box, hx x (by simp [VOp.opds])]
  | build z ps => simp only [step, st_build]; rw [parts_ev fun x h => hx x (by simpa [VOp.opds] using h)]
  | bsl t z cs len ps => simp only [step, st_bsl]; rw [parts_ev fun x h => hx x (by simpa [VOp.opds] using h)]
  | load n agg x =>
    have h1 := hx x (by simp [VOp.opds])
    simp only [foot] at hf; injection hf with hf; subst hf
    simp only [step, st_load, ← h1]
    rcases e : s.ev x with _ | c | _ | c | _ | _ <;> try rfl
    try any_goals (cases c <;> rfl)
    cases c <;> try rfl
    rename_i k o
    simp only [Hp.cells?, ← ha k (by simp [e, AV.refs, C.refs])]
  | store n x v =>
    have h1 := hx x (by simp [VOp.opds])
    have h2 := hx v (by simp [VOp.opds])
    simp only [foot] at hf; injection hf with hf; subst hf
    simp only [step, st_store, ← h1, ← h2]
    rcases e : s.ev x with _ | c | _ | c | _ | _ <;> try rfl
    cases c <;> try rfl
    rename_i k o
    cases (s.ev v).cells <;> try rfl
    simp only [Hp.cells?, ← ha k (by simp [e, AV.refs, C.refs])]
  | nilchk x => simp only [step, st_nilchk, hx x (by simp [VOp.opds])]
  | bin o x y => simp only [step, st_bin, hx x (by simp [VOp.opds]), hx y (by simp [VOp.opds])]
  | eqv c neg x y =>
    have h1 := hx x (by simp [VOp.opds])
    have h2 := hx y (by simp [VOp.opds])
    simp only [foot] at hf; injection hf with hf; subst hf
    simp only [step, st_eqv, ← h1, ← h2]
    have : eqAV s.hp c (s.ev x) (s.ev y) = eqAV s'.hp c (s.ev x) (s.ev y) := by
      cases c <;> try rfl
      exact eqPtr_congr fun k hk => ha k (List.mem_append_left _ hk)
    rw [this]
  | eqa ks neg x y => simp only [step, st_eqa, hx x (by simp [VOp.opds]), hx y (by simp [VOp.opds])]
  | un o x => simp only [step, st_un, hx x (by simp [VOp.opds])]
  | conv k x => simp only [step, st_conv, hx x (by simp [VOp.opds])]
  | b2s x =>
    have h1 := hx x (by simp [VOp.opds])
    simp only [foot] at hf; injection hf with hf; subst hf
    simp only [step, st_b2s, ← h1]
    rcases e : s.ev x with _ | c | _ | c | _ | _ <;> try rfl
    try any_goals (cases c <;> rfl)
    cases c <;> try rfl
    rename_i k o n z
    simp only [Hp.cells?, ← ha k (by simp [e, AV.refs, C.refs])]
  | s2b t x => simp only [step, st_s2b, hx x (by simp [VOp.opds])]
  | same x => simp only [step, st_same, hx x (by simp [VOp.opds])]
  | uptr t n x =>
    have h1 := hx x (by simp [VOp.opds])
    simp only [foot] at hf; injection hf with hf; subst hf
    simp only [step, st_uptr, ← h1]
    rcases e : s.ev x with _ | c | _ | c | _ | _ <;> try rfl
    try any_goals (cases c <;> rfl)
    cases c <;> try rfl
    rename_i k o
    simp only [Hp.cells?, ← ha k (by simp [e, AV.refs, C.refs])]
  | clo f caps =>
    simp only [step, st_clo]
    have : mapO (fun x => match s.ev x with | .r (.ptr k o) => some (k, o) | _ => none) caps = mapO (fun x => match s'.ev x with | .r (.ptr k o) => some (k, o) | _ => none) caps := by
      have hx' : ∀ x, x ∈ caps → s.ev x = s'.ev x := fun x h => hx x (by simpa [VOp.opds] using h)
      clear hx hf
      induction caps with
      | nil => rfl
      | cons x l ih =>
        simp only [mapO]
        rw [hx' x (by simp), ih fun y hy => hx' y (by simp [hy])]
    exact congrArg (Option.map fun l => (AV.r (.clo f l), ([] : Upd))) this
  | mkmap => rfl
  | mksl t z zero len cap => simp only [step, st_mksl, hx len (by simp [VOp.opds]), hx cap (by simp [VOp.opds])]
  | substr x lo hi =>
    simp only [step, st_substr, hx x (by simp [VOp.opds])]
    rw [opt_ev (x := lo) fun y hy => hx y (by simp only [VOp.opds, List.mem_cons, List.mem_append]; exact .inr (.inl hy)), opt_ev (x := hi) fun y hy => hx y (by simp only [VOp.opds, List.mem_cons, List.mem_append]; exact .inr (.inr hy))]
  | subsl z x lo hi =>
    simp only [step, st_subsl, hx x (by simp [VOp.opds])]
    rw [opt_ev (x := lo) fun y hy => hx y (by simp only [VOp.opds, List.mem_cons, List.mem_append]; exact .inr (.inl hy)), opt_ev (x := hi) fun y hy => hx y (by simp only [VOp.opds, List.mem_cons, List.mem_append]; exact .inr (.inr hy))]
  | subarr n z x lo hi =>
    have h1 := hx x (by simp [VOp.opds])
    simp only [foot] at hf; injection hf with hf; subst hf
    simp only [step, st_subarr, ← h1]
    rw [← opt_ev (x := lo) fun y hy => hx y (by simp only [VOp.opds, List.mem_cons, List.mem_append]; exact .inr (.inl hy)), ← opt_ev (x := hi) fun y hy => hx y (by simp only [VOp.opds, List.mem_cons, List.mem_append]; exact .inr (.inr hy))]
    rcases e : s.ev x with _ | c | _ | c | _ | _ <;> try rfl
    try any_goals (cases c <;> rfl)
    cases c <;> try rfl
    rename_i k o
    simp only [Hp.cells?, ← ha k (by simp [e, AV.refs, C.refs])]
  | faddr o x => simp only [step, st_faddr, hx x (by simp [VOp.opds])]
  | field o n agg x => simp only [step, st_field, hx x (by simp [VOp.opds])]
  | iaddr z x i =>
    have h1 := hx x (by simp [VOp.opds])
    have h2 := hx i (by simp [VOp.opds])
    simp only [foot] at hf; injection hf with hf; subst hf
    simp only [step, st_iaddr, ← h1, ← h2]
    split
    · rfl
    · rename_i e1 e2
      rw [ha _ (by rw [e1]; simp [AV.refs, C.refs])]
    · rfl
  | aaddr len z x i => simp only [step, st_aaddr, hx x (by simp [VOp.opds]), hx i (by simp [VOp.opds])]
  | sidx x i => simp only [step, st_sidx, hx x (by simp [VOp.opds]), hx i (by simp [VOp.opds])]
  | aidx len z agg x i => simp only [step, st_aidx, hx x (by simp [VOp.opds]), hx i (by simp [VOp.opds])]
  | look kt zero ok m k =>
    have h1 := hx m (by simp [VOp.opds])
    have h2 := hx k (by simp [VOp.opds])
    simp only [foot] at hf; injection hf with hf; subst hf
    simp only [step, st_look, ← h1, ← h2]
    split
    · rename_i e1 e2
      rw [ha _ (by rw [e1]; simp [AV.refs, C.refs])]
    · rfl
  | mapupd kt m k v =>
    have h1 := hx m (by simp [VOp.opds])
    have h2 := hx k (by simp [VOp.opds])
    have h3 := hx v (by simp [VOp.opds])
    simp only [foot] at hf; injection hf with hf; subst hf
    simp only [step, st_mapupd, ← h1, ← h2, ← h3]
    split
    · rename_i e1 e2 e3
      rw [ha _ (by rw [e1]; simp [AV.refs, C.refs])]
    · rfl
  | extr x i => simp only [step, st_extr, hx x (by simp [VOp.opds])]
  | call f args => rfl
  | callv x args => rfl
  | ext e args =>
    simp only [step, st_ext]
    rw [map_ev fun x h => hx x (by simpa [VOp.opds] using h)]
  | lenstr x => simp only [step, st_lenstr, hx x (by simp [VOp.opds])]
  | lensl x => simp only [step, st_lensl, hx x (by simp [VOp.opds])]
  | lenmap x =>
    have h1 := hx x (by simp [VOp.opds])
    simp only [foot] at hf; injection hf with hf; subst hf
    simp only [step, st_lenmap, ← h1]
    rcases e : s.ev x with _ | c | _ | c | _ | _ <;> try rfl
    try any_goals (cases c <;> rfl)
    cases c <;> try rfl
    rename_i q
    simp only [← ha q (by simp [e, AV.refs, C.refs])]
  | lenarr n => rfl
  | app t z x y =>
    have h1 := hx x (by simp [VOp.opds])
    have h2 := hx y (by simp [VOp.opds])
    simp only [foot] at hf; injection hf with hf; subst hf
    simp only [step, st_app, ← h1, ← h2]
    rw [← appCells_congr (h := s.hp) (h' := s'.hp) (V := (s.ev x).refs ++ (s.ev y).refs) ha z (s.ev y) fun k hk => List.mem_append_right _ hk]
    rcases e : s.ev x with _ | c | _ | c | _ | _ <;> try rfl
    try any_goals (cases c <;> rfl)
    cases c <;> try rfl
    rename_i k o n z'
    simp only [Hp.cells?, ← ha k (by simp [e, AV.refs, C.refs])]
  | mx x l =>
    simp only [step, st_mx, hx x (by simp [VOp.opds])]
    rw [map_ev (l := l) fun y h => hx y (by simp only [VOp.opds, List.mem_cons]; exact .inr h)]
  | mn x l =>
    simp only [step, st_mn, hx x (by simp [VOp.opds])]
    rw [map_ev (l := l) fun y h => hx y (by simp only [VOp.opds, List.mem_cons]; exact .inr h)]
  | sdata x =>
    have h1 := hx x (by simp [VOp.opds])
    simp only [foot] at hf; injection hf with hf; subst hf
    simp only [step, st_sdata, ← h1]
    rcases e : s.ev x with _ | c | _ | c | _ | _ <;> try rfl
    try any_goals (cases c <;> rfl)
    cases c <;> try rfl
    rename_i k o n z'
    simp only [← ha k (by simp [e, AV.refs, C.refs])]
  | ustr t x n =>
    have h1 := hx x (by simp [VOp.opds])
    have h2 := hx n (by simp [VOp.opds])
    simp only [foot] at hf; injection hf with hf; subst hf
    simp only [step, st_ustr, ← h1, ← h2]
    split
    · rfl
    · rename_i e1 e2
      simp only [Hp.cells?]
      rw [ha _ (by rw [e1]; simp [AV.refs, C.refs])]
    · rfl
  | delm kt m k =>
    have h1 := hx m (by simp [VOp.opds])
    have h2 := hx k (by simp [VOp.opds])
    simp only [foot] at hf; injection hf with hf; subst hf
    simp only [step, st_delm, ← h1, ← h2]
    split
    · rename_i e1 e2
      rw [ha _ (by rw [e1]; simp [AV.refs, C.refs])]
    · rfl
  | clr z zero x =>
    have h1 := hx x (by simp [VOp.opds])
    simp only [foot] at hf; injection hf with hf; subst hf
    simp only [step, st_clr, ← h1]
    rcases e : s.ev x with _ | c | _ | c | _ | _ <;> try rfl
    try any_goals (cases c <;> rfl)
    cases c <;> try rfl
    rename_i k o n z'
    simp only [Hp.cells?, ← ha k (by simp [e, AV.refs, C.refs])]
  | bad => rfl

theorem opStep_congr (F : Fns) (rec : Rec) {s s' : St} (fk : Nat) (op : VOp) (hx : ∀ x, x ∈ op.opds → s.ev x = s'.ev x) {V : List Nat} (hf : foot s op = some V) (ha : ∀ k, k ∈ V → s.hp.get k = s'.hp.get k) : opStep F rec s fk op = opStep F rec s' fk op := by
  by_cases hcall : isCall op = false
  · have h1 := step_congr fk op hx hf ha
    cases op <;> first | exact h1 | (simp [isCall] at hcall)
  · cases op <;> try (simp [isCall] at hcall; done)
    · rename_i f args
      have hm := map_ev (s := s) (s' := s') (l := args) fun x h => hx x (by simpa [VOp.opds] using h)
      simp only [foot] at hf
      obtain ⟨g1, _, g3⟩ := visit_spec s.hp _ _ _ _ hf (fun k hk => by simp at hk)
      simp only [opStep, ← hm]
      exact doCall_congr g1 ha F rec rfl rfl fk f _ g3
    · rename_i x args
      have hm := map_ev (s := s) (s' := s') (l := args) fun y h => hx y (by simp only [VOp.opds, List.mem_cons]; exact .inr h)
      have h1 := hx x (by simp [VOp.opds])
      simp only [foot] at hf
      obtain ⟨g1, _, g3⟩ := visit_spec s.hp _ _ _ _ hf (fun k hk => by simp at hk)
      simp only [opStep, ← hm, ← h1]
      cases e : s.ev x <;> try rfl
      · rename_i c
        cases c <;> try rfl
        rename_i f
        exact doCall_congr g1 ha F rec rfl rfl fk f _ fun k hk => g3 k (List.mem_append_left _ hk)
      · rename_i c
        cases c <;> try rfl
        rename_i f caps
        refine doCall_congr g1 ha F rec rfl rfl fk f _ fun k hk => g3 k ?_
        simp only [List.flatMap_append, List.mem_append] at hk ⊢
        rcases hk with hk | hk
        · exact .inl hk
        · right
          rw [e]
          simp only [AV.refs, C.refs]
          simp only [List.mem_flatMap, List.mem_map] at hk ⊢
          obtain ⟨y, ⟨⟨a, b⟩, hab, rfl⟩, hk⟩ := hk
          simp [AV.refs, C.refs] at hk
          exact ⟨(a, b), hab, hk.symm⟩

end Gv
