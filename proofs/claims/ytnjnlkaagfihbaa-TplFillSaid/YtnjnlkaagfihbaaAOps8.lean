/- Eighth part: lengths, greatest and least, functions with places, new rows, bytes as a string. -/
import Derived.Test.YtnjnlkaagfihbaaAOps7
import Derived.Lib.UnsafeStr
import Derived.Lib.Builder
set_option linter.all false
namespace Gv
open Go

section
variable {X : Ctx} {U : Nat → Prop} {j : Nat → Option Nat} {M : Mem} {h : Hp} {ar : Nat} {w : World} {fk : Nat} {P : Program} {S : Nat → Nat}

theorem do_lenstr (r : RH X U j M h ar w) {ts : Array TypeId} {t : TypeId} (h0 : ts[0]? = some t) (ht : P.underlying t = some .string) (ty : TypeId) {x : AV} {v : Value} (hx : ARep U j M (bsz w) x v) {y : AV} {u : Upd}
    (hs : (x.str?.map fun b => (AV.p (.int .i64 b.length), ([] : Upd))) = some (y, u)) :
    Done X U j M h ar w fk ((do Pure.pure (.value (← Builtin.len_ ts ty #[v])) : Sem Next).run P w) y u := by
  cases x <;> try (simp [AV.str?] at hs; done)
  rename_i c
  cases c <;> try (simp [AV.str?] at hs; done)
  rename_i b
  simp [AV.str?] at hs
  obtain ⟨e1, e2⟩ := hs; subst e1 e2
  obtain ⟨s, rfl, hb⟩ := prep_str hx
  refine Done.pure r (x := .p (.int .i64 b.length)) (v := .int .i64 b.length) (.int _ _) ?_
  have : s.size = b.length := by rw [← hb]; exact (bytes_len s).symm
  simp [Builtin.len_, h0, run_und (w := w) ht, goInt, this]

theorem do_lensl (r : RH X U j M h ar w) {ts : Array TypeId} {t e : TypeId} (h0 : ts[0]? = some t) (ht : P.underlying t = some (.slice e)) (ty : TypeId) {x : AV} {v : Value} (hx : ARep U j M (bsz w) x v) {y : AV} {u : Upd}
    (hs : (match (generalizing := false) x with
      | .p (.list _ l) => some (AV.p (.int .i64 l.length), ([] : Upd))
      | .r .nils => some (.p (.int .i64 0), [])
      | .r .e0 => some (.p (.int .i64 0), [])
      | .r (.slc _ _ n _) => some (.p (.int .i64 n), [])
      | _ => none) = some (y, u)) :
    Done X U j M h ar w fk ((do Pure.pure (.value (← Builtin.len_ ts ty #[v])) : Sem Next).run P w) y u := by
  have go : ∀ a (n : Nat) c, v = .slice a n c → (Builtin.len_ ts ty #[v]).run P w = .ok (.int .i64 n) w := by
    intro a n c hv; subst hv
    simp [Builtin.len_, h0, run_und (w := w) ht, goInt]
  cases x <;> try (simp at hs; done)
  · rename_i c
    cases c <;> try (simp at hs; done)
    injection hs with hs; injection hs with e1 e2; subst e1 e2
    obtain ⟨a, cap, hv, _⟩ := prep_len hx
    exact Done.pure r (x := .p (.int .i64 _)) (.int _ _) (go _ _ _ hv)
  · rename_i c
    cases c <;> try (simp at hs; done)
    · injection hs with hs; injection hs with e1 e2; subst e1 e2
      have hv : v = .slice none 0 0 := by cases hx; rfl
      exact Done.pure r (x := .p (.int .i64 0)) (v := .int .i64 0) (.int _ _) (go _ 0 _ hv)
    · injection hs with hs; injection hs with e1 e2; subst e1 e2
      obtain ⟨a, cap, hv, _⟩ := crep_slc hx
      exact Done.pure r (x := .p (.int .i64 _)) (.int _ _) (go _ _ _ hv)
    · injection hs with hs; injection hs with e1 e2; subst e1 e2
      have hv : ∃ a, v = .slice a 0 0 := by cases hx; exact ⟨_, rfl⟩
      obtain ⟨a, hv⟩ := hv
      exact Done.pure r (x := .p (.int .i64 0)) (v := .int .i64 0) (.int _ _) (go _ 0 _ hv)

theorem do_lenarr (r : RH X U j M h ar w) {ts : Array TypeId} {t e : TypeId} {n : Nat} (h0 : ts[0]? = some t) (ht : P.underlying t = some (.array n e)) (ty : TypeId) (v : Value) :
    Done X U j M h ar w fk ((do Pure.pure (.value (← Builtin.len_ ts ty #[v])) : Sem Next).run P w) (.p (.int .i64 n)) [] := by
  refine Done.pure r (x := .p (.int .i64 n)) (v := .int .i64 n) (.int _ _) ?_
  simp [Builtin.len_, h0, run_und (w := w) ht, goInt]

theorem run_mx {k : IntKind} : ∀ {l : List AV} {n m : Int} {vs : List Value}, All2 (ARep U j M S) l vs → foldMx n l k = some m → (vs.foldlM Builtin.max2 (.int k n)).run P w = .ok (.int k m) w
  | [], n, m, [], _, hf => by simp [foldMx] at hf; subst hf; simp
  | [], _, _, _ :: _, hr, _ => hr.elim
  | _ :: _, _, _, [], hr, _ => hr.elim
  | x :: l, n, m, v :: vs, hr, hf => by
    cases x <;> try (simp [foldMx] at hf; done)
    rename_i c
    cases c <;> try (simp [foldMx] at hf; done)
    rename_i k' n'
    have hv := prep_int hr.1
    subst hv
    simp only [foldMx] at hf
    split at hf
    · rename_i hk; subst hk
      have ih := run_mx hr.2 hf
      simp only [List.foldlM_cons, Builtin.max2, Sem.run_bind, Sem.run_pure, Result.andThen_ok]
      exact ih
    · cases hf
theorem run_mn {k : IntKind} : ∀ {l : List AV} {n m : Int} {vs : List Value}, All2 (ARep U j M S) l vs → foldMn n l k = some m → (vs.foldlM Builtin.min2 (.int k n)).run P w = .ok (.int k m) w
  | [], n, m, [], _, hf => by simp [foldMn] at hf; subst hf; simp
  | [], _, _, _ :: _, hr, _ => hr.elim
  | _ :: _, _, _, [], hr, _ => hr.elim
  | x :: l, n, m, v :: vs, hr, hf => by
    cases x <;> try (simp [foldMn] at hf; done)
    rename_i c
    cases c <;> try (simp [foldMn] at hf; done)
    rename_i k' n'
    have hv := prep_int hr.1
    subst hv
    simp only [foldMn] at hf
    split at hf
    · rename_i hk; subst hk
      have ih := run_mn hr.2 hf
      simp only [List.foldlM_cons, Builtin.min2, Sem.run_bind, Sem.run_pure, Result.andThen_ok]
      exact ih
    · cases hf

theorem do_mx (r : RH X U j M h ar w) (ts : Array TypeId) (ty : TypeId) {x : AV} {l : List AV} {vs : Array Value} (hx : All2 (ARep U j M (bsz w)) (x :: l) vs.toList) {y : AV} {u : Upd}
    (hs : (match (generalizing := false) x with
      | .p (.int k n) => (foldMx n l k).map fun m => (AV.p (.int k m), ([] : Upd))
      | _ => none) = some (y, u)) :
    Done X U j M h ar w fk ((do Pure.pure (.value (← Builtin.max_ ts ty vs)) : Sem Next).run P w) y u := by
  cases x <;> try (simp at hs; done)
  rename_i c
  cases c <;> try (simp at hs; done)
  rename_i k n
  simp only [Option.map_eq_some_iff] at hs
  obtain ⟨m, hm, hs⟩ := hs
  injection hs with e1 e2; subst e1 e2
  cases hv : vs.toList with
  | nil => rw [hv] at hx; exact hx.elim
  | cons v rest =>
    rw [hv] at hx
    have := prep_int hx.1; subst this
    refine Done.pure r (x := .p (.int k m)) (.int _ _) ?_
    unfold Builtin.max_; rw [hv]; exact run_mx hx.2 hm
theorem do_mn (r : RH X U j M h ar w) (ts : Array TypeId) (ty : TypeId) {x : AV} {l : List AV} {vs : Array Value} (hx : All2 (ARep U j M (bsz w)) (x :: l) vs.toList) {y : AV} {u : Upd}
    (hs : (match (generalizing := false) x with
      | .p (.int k n) => (foldMn n l k).map fun m => (AV.p (.int k m), ([] : Upd))
      | _ => none) = some (y, u)) :
    Done X U j M h ar w fk ((do Pure.pure (.value (← Builtin.min_ ts ty vs)) : Sem Next).run P w) y u := by
  cases x <;> try (simp at hs; done)
  rename_i c
  cases c <;> try (simp at hs; done)
  rename_i k n
  simp only [Option.map_eq_some_iff] at hs
  obtain ⟨m, hm, hs⟩ := hs
  injection hs with e1 e2; subst e1 e2
  cases hv : vs.toList with
  | nil => rw [hv] at hx; exact hx.elim
  | cons v rest =>
    rw [hv] at hx
    have := prep_int hx.1; subst this
    refine Done.pure r (x := .p (.int k m)) (.int _ _) ?_
    unfold Builtin.min_; rw [hv]; exact run_mn hx.2 hm

theorem clo_rep : ∀ {l : List AV} {vs : List Value} {caps : List (Nat × Nat)}, All2 (ARep U j M S) l vs → mapO (fun x => match x with | AV.r (.ptr k o) => some (k, o) | _ => none) l = some caps →
    All2 (fun (x : Nat × Nat) v => U x.1 ∧ ∃ B, v = .pointer (some ⟨B, x.2, none⟩) ∧ ∀ B', j x.1 = some B' → B' = B) caps vs
  | [], [], caps, _, hc => by simp [mapO] at hc; subst hc; trivial
  | [], _ :: _, _, hr, _ => hr.elim
  | _ :: _, [], _, hr, _ => hr.elim
  | x :: l, v :: vs, caps, hr, hc => by
    simp only [mapO] at hc
    split at hc
    · rename_i y ys h1 h2
      injection hc with hc; subst hc
      refine ⟨?_, clo_rep hr.2 h2⟩
      split at h1
      · rename_i k o
        injection h1 with h1; subst h1
        obtain ⟨B, rfl, hu, hB⟩ := crep_ptr hr.1
        exact ⟨hu, B, rfl, hB⟩
      · cases h1
    · cases hc

theorem do_clo (r : RH X U j M h ar w) (f : FuncId) {l : List AV} {vs : Array Value} (hx : All2 (ARep U j M (bsz w)) l vs.toList) {caps : List (Nat × Nat)}
    (hs : mapO (fun x => match x with | AV.r (.ptr k o) => some (k, o) | _ => none) l = some caps) :
    Done X U j M h ar w fk ((do Pure.pure (.value (← Instr.makeFunc (.func f) #[] vs)) : Sem Next).run P w) (.r (.clo f caps)) [] :=
  Done.pure r (x := .r (.clo f caps)) (v := .func (.func f) #[] vs) (.clo f caps vs (clo_rep hx hs)) rfl

theorem wrap_small {n : Int} (h0 : 0 ≤ n) (h1 : n ≤ 4611686018427387904) : IntKind.i64.wrap n = n := by
  have e : IntKind.i64.wrap n = (let m := n % 18446744073709551616; if m ≥ 9223372036854775808 then m - 18446744073709551616 else m) := by
    simp [IntKind.wrap, IntKind.signed, IntKind.bits]
  rw [e]
  have : n % 18446744073709551616 = n := Int.emod_eq_of_lt h0 (by omega)
  simp only [this]
  split <;> omega

theorem do_mksl (r : RH X U j M h ar w) (hf : ¬ U fk) (ha : ar ≤ fk) {t e : TypeId} {z : Nat} {zero : List C} (ht : P.underlying t = some (.slice e)) (hz : zeroC P e = some zero) (hzs : z = P.cellsOf e) (hz0 : z ≠ 0) (hb : P.bytesOf e ≤ 65536) {x c : AV} {v u : Value} (hx : ARep U j M (bsz w) x v) (hc : ARep U j M (bsz w) c u) {y : AV} {up : Upd}
    (hs : (match (generalizing := false) x, c with
      | .p (.int _ n), .p (.int _ c) => if 0 ≤ n ∧ n ≤ c ∧ c ≤ maxLen ∧ n = c then some (AV.r (.slc fk 0 n.toNat z), ([(fk, some (.cells ⟨false, e⟩ 0 (repl n.toNat zero)))] : Upd)) else none
      | _, _ => none) = some (y, up)) :
    Done X U j M h ar w fk ((do Pure.pure (.value (← Instr.makeSlice t v u)) : Sem Next).run P w) y up := by
  split at hs
  · rename_i k1 n k2 cc
    split at hs
    · rename_i hcond
      obtain ⟨h0, h1, h2, rfl⟩ := hcond
      injection hs with hs; injection hs with e1 e2; subst e1 e2
      have := prep_int hx; subst this
      have := prep_int hc; subst this
      obtain ⟨inf, zv, hi, hzv, hl, hcs⟩ := zeroC_rep hz
      have hrep := constCs_rep (U := U) (j := j) (M := M) (S := bsz w) hcs
      have hb' : inf.bytes = P.bytesOf e := by simp [Program.bytesOf, hi]
      unfold maxLen at h2
      have hw : IntKind.i64.wrap n = n := wrap_small h0 (by omega)
      have hzl := hrep.len
      have hsz : zv.cells.size = z := by simp at hzl; omega
      obtain ⟨us, g1, g2, g3⟩ := All2.repl hrep n.toNat
      have hzeros := zeros_list zv.cells n.toNat us (by rw [g2]; simp) (by simpa using g3)
      have nl : ¬ ((n : Int) < 0 ∨ (281474976710656 : Int) < (P.bytesOf e : Int) * n) := by
        have : (P.bytesOf e : Int) * n ≤ 65536 * 16777216 := Int.mul_le_mul (by omega) (by omega) h0 (by omega)
        omega
      refine Done.new r hf ha (v := .slice (some ⟨w.heap.size, 0, none⟩) n.toNat n.toNat) (o := .cells ((Array.range (n.toNat * z)).map fun i => zv.cells[i % zv.cells.size]!) e) ?_ (fun U' j' ev => ?_) (fun U' j' hu hj _ => ?_)
      · have hnl2 : ¬ (n < 0) := by omega
        have hnl3 : ¬ ((281474976710656 : Int) < (P.bytesOf e : Int) * n) := by omega
        by_cases hn0 : n.toNat * P.cellsOf e = 0
        · have hn1 : n = 0 := by
            rcases Nat.mul_eq_zero.1 hn0 with h3 | h3
            · omega
            · omega
          subst hn1
          simp [Instr.makeSlice, run_und (w := w) ht, asInt, asIntOf, run_info (P := P) (w := w) hi, hb', hw, run_size (P := P) (w := w) hi, newRow]
          simp [show Array.range 0 = #[] from rfl]
        · simp [Instr.makeSlice, run_und (w := w) ht, asInt, asIntOf, run_info (P := P) (w := w) hi, hb', hw, run_size (P := P) (w := w) hi, run_zero (P := P) (w := w) hi hzv, newRow, hnl2, hnl3, hn0, ← hzs]
          intro h; exact absurd h (by rw [hzs]; exact hn0)
      · refine brep_cells (by rw [heap_alloc, if_pos rfl]) ?_ false
        have hz3 : ((Array.range (n.toNat * z)).map fun i => zv.cells[i % zv.cells.size]!).toList = us := by rw [← hzeros, hsz]
        rw [hz3]; exact All2.ev ev g1
      · refine .slc fk 0 n.toNat z _ n.toNat hu (Nat.le_refl _) fun B hB => .inl ?_
        rw [hj] at hB; injection hB with hB; subst hB
        refine ⟨rfl, ?_⟩
        rw [bsz_cells (heap_alloc _ _ _ |>.trans (if_pos rfl))]; simp
    · cases hs
  · cases hs

theorem do_sdata (r : RH X U j M h ar w) (ts : Array TypeId) (ty : TypeId) {x : AV} {v : Value} (hx : ARep U j M (bsz w) x v) {y : AV} {u : Upd}
    (hs : (match (generalizing := false) x with
      | .r .nils => some (AV.p .nilp, ([] : Upd))
      | .r (.slc k o n _) => if n ≠ 0 ∧ (h.get k).isSome = true then some (.r (.ptr k o), []) else none
      | _ => none) = some (y, u)) :
    Done X U j M h ar w fk ((do Pure.pure (.value (← Builtin.unsafeSliceData_ ts ty #[v])) : Sem Next).run P w) y u := by
  cases x <;> try (simp at hs; done)
  rename_i c
  cases c <;> try (simp at hs; done)
  · injection hs with hs; injection hs with e1 e2; subst e1 e2
    have hv : v = .slice none 0 0 := by cases hx; rfl
    subst hv
    exact Done.pure r (x := .p .nilp) (v := .pointer none) .nilp rfl
  · rename_i k o n z
    simp only at hs
    split at hs
    · rename_i hc
      obtain ⟨hn, hk⟩ := hc
      injection hs with hs; injection hs with e1 e2; subst e1 e2
      obtain ⟨a, cap, rfl, hu, hcap, hb⟩ := crep_slc hx
      obtain ⟨bl, hbl⟩ := Option.isSome_iff_exists.1 hk
      obtain ⟨B, hB, _⟩ := r.hp k _ hbl
      rcases hb B hB with ⟨rfl, _⟩ | ⟨h0, _⟩
      · exact Done.pure r (x := .r (.ptr k o)) (.ptr k o B hu fun B' hB' => by rw [hB] at hB'; injection hB' with hB'; exact hB'.symm) (Lib.run_unsafeSliceData_row w ts ty _ n cap (by omega))
      · exact (hn h0).elim
    · cases hs

theorem run_loadBytes2 : ∀ (ns : List Int) (a : Addr) (acc : ByteArray), (∀ i n, ns[i]? = some n → w.cell? (a.add i) = some (.int .u8 n)) →
    (loadBytes a acc ns.length).run P w = .ok ⟨acc.data ++ (ns.map fun n => UInt8.ofNat n.toNat).toArray⟩ w
  | [], a, acc, _ => by simp [loadBytes]
  | x :: l, a, acc, h => by
    have h0 : w.cell? a = some (.int .u8 x) := by
      have := h 0 x rfl
      simpa [Addr.add] using this
    have ih := run_loadBytes2 l (a.add 1) (acc.push (UInt8.ofNat x.toNat)) (fun i y hy => by
      have := h (i + 1) y (by simpa using hy)
      have e : (a.add 1).add i = a.add (i + 1) := by
        unfold Addr.add
        by_cases hi : i = 0
        · subst hi; simp
        · simp [hi]; omega
      rw [e]; exact this)
    have hx : x.toNat.toUInt8 = UInt8.ofNat x.toNat := rfl
    simp only [List.length_cons, loadBytes, Sem.run_bind, run_load, h0, Result.andThen, hx]
    rw [ih]
    congr 1
    apply ByteArray.ext
    simp [ByteArray.push]

theorem freeze_eq {B n lo hi : Nat} {c : Array Value} {e : TypeId} (hw : w.heap[B]? = some (.cells c e (lo, hi))) (hn : n ≠ 0) :
    w.freeze ⟨B, 0, none⟩ n = setB w B (.cells c e (if lo == hi then (0, n) else (0, max hi n))) := by
  unfold World.freeze setB
  rw [if_neg hn]
  congr 1
  apply Array.ext_getElem?
  intro q
  rw [Array.getElem?_modify, Array.getElem?_setIfInBounds]
  by_cases hq : B = q
  · subst hq
    have hlt := lt_of_heap hw
    have hget : w.heap[B] = .cells c e (lo, hi) := by simpa [Array.getElem?_eq_getElem hlt] using hw
    simp [hlt, hget]
  · simp [hq]

theorem do_ustr (r : RH X U j M h ar w) {ts : Array TypeId} {pt e : TypeId} (h0 : ts[0]? = some pt) (hp : P.underlying pt = some (.pointer e)) (hc1 : P.cellsOf e = 1) (ty : TypeId) {x n : AV} {v u : Value} (hx : ARep U j M (bsz w) x v) (hn : ARep U j M (bsz w) n u) {y : AV} {up : Upd}
    (hs : (match (generalizing := false) x, n with
      | .p .nilp, .p (.int .i64 n) => if n = 0 then some (AV.p (.str []), ([] : Upd)) else none
      | .r (.ptr k o), .p (.int .i64 n) => if 0 < n ∧ n ≤ maxLen then
          match h.cells? k with
          | some (m, f, cs) => if o = 0 ∧ n.toNat ≤ cs.length ∧ m = ⟨false, e⟩ then (rowBytes (cs.take n.toNat)).map fun b => (.p (.str b), [(k, some (.cells m (max f n.toNat) cs))]) else none
          | none => none
        else none
      | _, _ => none) = some (y, up)) :
    Done X U j M h ar w fk ((do Pure.pure (.value (← Builtin.unsafeString_ ts ty #[v, u])) : Sem Next).run P w) y up := by
  have hmax : IntKind.i64.max = 9223372036854775807 := rfl
  split at hs
  · rename_i n
    split at hs
    · rename_i hn0; subst hn0
      injection hs with hs; injection hs with e1 e2; subst e1 e2
      have hv : v = .pointer none := by cases hx; rfl
      have := prep_int hn; subst this hv
      refine Done.pure r (x := .p (.str [])) (v := .string .empty) (str_prep rfl) ?_
      have hdef : Builtin.unsafeString_ ts ty #[.pointer none, .int .i64 0] =
          (do
            let n ← asInt (.int .i64 0)
            let some pt := ts[0]? | stuck "unsafe.String: no argument types"
            if n < 0 then runtimePanic (.error "unsafe.String: len out of range")
            if n > IntKind.i64.max then unsupported (.unsafePointer "String: a length above the largest int")
            if n = 0 then pure (.string .empty)
            else runtimePanic (.error "unsafe.String: ptr is nil and len is not zero")) := rfl
      rw [hdef]
      simp [asInt, asIntOf, h0, hmax]
    · cases hs
  · rename_i k o n
    split at hs
    · rename_i hn0
      obtain ⟨hn0, hn1⟩ := hn0
      cases hk : h.cells? k with
      | none => simp [hk] at hs
      | some mfc =>
        obtain ⟨m, f, cs⟩ := mfc
        simp only [hk] at hs
        split at hs
        · rename_i hc
          obtain ⟨rfl, hle, rfl⟩ := hc
          simp only [Option.map_eq_some_iff] at hs
          obtain ⟨b, hb, hs⟩ := hs
          injection hs with e1 e2; subst e1 e2
          have hg := Hp.cells_get hk
          obtain ⟨B, hB, _⟩ := r.hp k _ hg
          obtain ⟨c, lo, hi, hw, hl, hfl, hfr, hr⟩ := r.at hB hg
          obtain ⟨B', rfl, hu, hBB⟩ := crep_ptr hx
          have := hBB B hB; subst this
          have := prep_int hn; subst this
          have hrow := slice_rep (o := 0) hl hr (n := n.toNat) (by omega)
          obtain ⟨ns, hns, hbs⟩ := rowBytes_rep hb (by simpa using hrow)
          have hlen : ns.length = n.toNat := by
            have h1 : (c.toList.take n.toNat).length = n.toNat := by simp; omega
            rw [← h1]
            have : (c.toList.take n.toNat) = ns.map (.int .u8) := by simpa using hns
            rw [this]; simp
          have hcell : ∀ i q, ns[i]? = some q → w.cell? ((⟨B, 0, none⟩ : Addr).add i) = some (.int .u8 q) := by
            intro i q hq
            rw [add_none, Nat.zero_add, cell_eq hw]
            have h1 : (c.toList.take n.toNat)[i]? = some (.int .u8 q) := by
              have : (c.toList.take n.toNat) = ns.map (.int .u8) := by simpa using hns
              rw [this]; simp [hq]
            rw [List.getElem?_take] at h1
            split at h1
            · simpa using h1
            · cases h1
          have hlb := run_loadBytes2 (P := P) ns ⟨B, 0, none⟩ .empty hcell
          rw [hlen] at hlb
          have hlies := Lib.liesAt_bytes (P := P) hc1 (c.size / P.cellsOf e) n.toNat (by rw [hc1]; simp; omega)
          have hsh : w.shape? B = some (e, c.size) := by simp [World.shape?, hw]
          unfold maxLen at hn1
          have hneg : ¬ n < 0 := by omega
          have hbig : ¬ (9223372036854775807 : Int) < n := by omega
          have hn00 : ¬ n = 0 := by omega
          have hnn : n.toNat ≠ 0 := by omega
          have hlt := lt_of_heap hw
          obtain ⟨r', ev'⟩ := r.setB (o := .cells c e (if lo == hi then (0, n.toNat) else (0, max hi n.toNat))) (b' := .cells ⟨false, e⟩ (max f n.toNat) cs) hB hg
            (fun c1 t1 f1 h1 => by injection h1 with h1; subst h1; rw [bsz_cells hw]) (fun h1 => (h1 _ _ _ rfl).elim)
            (fun ev => by
              refine ⟨c, (if lo == hi then (0, n.toNat) else (0, max hi n.toNat)).1, (if lo == hi then (0, n.toNat) else (0, max hi n.toNat)).2, by rw [heap_setB _ _ _ hlt, if_pos rfl], hl, by omega, fun hlt' => .inl ?_, fun i x hx => ?_⟩
              · by_cases e1 : lo = hi
                · simp [e1]; omega
                · simp only [beq_iff_eq, e1, if_false]
                  rcases hfr e1 with h3 | ⟨h3, _⟩
                  · omega
                  · cases h3
              · obtain ⟨v, h1, h2⟩ := hr i x hx
                exact ⟨v, h1, h2.ev ev⟩)
            (fun q v hv' => by
              have h1 := r.mem B q v hv'
              rw [cell_eq hw] at h1
              rw [cell_eq (by rw [heap_setB _ _ _ hlt, if_pos rfl])]
              exact h1)
            (fun m' f' cs' e q v hv' => by injection e with _ e2 _; subst e2; have := r.frz k B _ f cs hB hg q v hv'; omega)
          refine ⟨_, _, .string ⟨(ns.map fun n => UInt8.ofNat n.toNat).toArray⟩, ?_, .inl rfl, U, j, M, fun _ hk => .inl hk, r', ev', str_prep (by simp [hbs])⟩
          have hdef : Builtin.unsafeString_ ts ty #[.pointer (some ⟨B, 0, none⟩), .int .i64 n] =
              (do
                let n ← asInt (.int .i64 n)
                let some pt := ts[0]? | stuck "unsafe.String: no argument types"
                if n < 0 then runtimePanic (.error "unsafe.String: len out of range")
                if n > IntKind.i64.max then unsupported (.unsafePointer "String: a length above the largest int")
                if n = 0 then pure (.string .empty)
                else if ← variablesAt ⟨B, 0, none⟩ (← elemOf pt) n.toNat then do
                  let s ← loadBytes ⟨B, 0, none⟩ .empty n.toNat
                  freeze ⟨B, 0, none⟩ n.toNat
                  pure (.string s)
                else unsupported (.unsafePointer "String: not so many bytes at ptr")) := rfl
          rw [hdef]
          simp [asInt, asIntOf, h0, hmax, hneg, hbig, hn00, variablesAt, hsh, elemOf, run_und (w := w) hp, hlies, hlb, freeze_eq hw hnn]
        · cases hs
    · cases hs
  · cases hs
end

end Gv
