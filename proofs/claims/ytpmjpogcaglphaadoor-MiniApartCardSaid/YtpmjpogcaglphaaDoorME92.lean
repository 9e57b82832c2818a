/- A, part 9: indexing, slicing, literals, new rows. -/
import Derived.Laws.IdiomStrings
import Derived.MapKept
import Derived.Laws.BytesString
import Derived.WideKeyRuns
import Derived.Test.YtpmjpogcaglphaaDoorME91
set_option linter.unusedVariables false
set_option linter.unusedSimpArgs false
set_option linter.unnecessarySimpa false
namespace Go.Proofs.YtpmjpogcaglphaaDoor.A
open Go

section
variable {P : Program} {c : Ctx} {N : Tag → Prop}

theorem part_take {t : TypeId} {xs : List AV} {vs : Array Value} (h : Cells c xs vs) (h1 : ∀ (j : Nat) (u : Value), vs[j]? = some u → u.oneCell' = true) {off : Nat} {v : AV} (hv : takeT P t (xs.drop off) = some v) : Says P c (part t vs off) v := by
  unfold takeT at hv
  split at hv
  · rename_i b n hb hn
    cases b with
    | true =>
      simp only [take1] at hv
      split at hv
      · rename_i hle
        injection hv with hv; subst hv
        have hle' : off + n ≤ xs.length ∨ n = 0 := by simp at hle; omega
        refine ⟨.agg (vs.extract off (off + n)), by simp only [part, Sem.run_bind, tAgg_run hb, tSize_run hn, Result.andThen_ok, if_true, Sem.run_pure], .agg _ _ ?_ ?_ ?_⟩
        · have := h.1; simp at hle ⊢; omega
        · intro j x u hx hu
          have hj : j < n := by have := (List.getElem?_eq_some_iff.1 hx).1; simp at this; omega
          rw [List.getElem?_take, if_pos hj, List.getElem?_drop] at hx
          rw [Array.getElem?_extract] at hu
          split at hu
          · exact h.2 _ x u hx hu
          · cases hu
        · intro j u hu
          rw [Array.getElem?_extract] at hu
          split at hu
          · exact h1 _ u hu
          · cases hu
      · cases hv
    | false =>
      simp only [take1] at hv
      split at hv
      · rename_i x xs' hxs
        injection hv with hv; subst hv
        have hx : xs[off]? = some x := by
          have := congrArg (·[0]?) hxs
          simpa [List.getElem?_drop] using this
        have hlt : off < vs.size := by have := (List.getElem?_eq_some_iff.1 hx).1; have := h.1; omega
        exact ⟨vs[off], by simp [part, tAgg_run hb, hlt], h.2 off _ _ hx (by simp [hlt])⟩
      · cases hv
  · cases hv

theorem field_rel {t : TypeId} {f : Nat} {x v : AV} {xv : Value} {H : AH} {r : AV × AH} (hx : VR c x xv)
    (h : (match some x, tField P t f with
      | some (.agg cs), some (o', ft) => (takeT P ft (cs.drop o')).map (·, H)
      | _, _ => none) = some r) : Says P c (Instr.field t xv f) r.1 ∧ r.2 = H := by
  split at h
  · rename_i cs o' ft e hf
    injection e with e
    subst e
    obtain ⟨vs, rfl, hl, hv, h1⟩ := hx.agg_
    obtain ⟨fs, y, hu, hfy, rfl, rfl⟩ := tField_some hf
    cases hk : takeT P y.type (cs.drop y.offset) with
    | none => rw [hk] at h; cases h
    | some u =>
      rw [hk] at h
      injection h with h; subst h
      obtain ⟨cv, a1, a2⟩ := part_take (P := P) ⟨hl, hv⟩ h1 hk
      exact ⟨⟨cv, by simp [Instr.field, run_underlying hu, hfy, asAgg, a1], a2⟩, rfl⟩
  · cases h

theorem str_get (s : List UInt8) (i : Nat) : (⟨s.toArray⟩ : ByteArray)[i]? = s[i]? := by
  by_cases h : i < s.length
  · rw [List.getElem?_eq_getElem h, getElem?_pos (⟨s.toArray⟩ : ByteArray) i (by rw [str_size]; exact h)]
    rfl
  · rw [List.getElem?_eq_none (by omega), getElem?_neg (⟨s.toArray⟩ : ByteArray) i (by rw [str_size]; exact h)]

theorem index_rel {t : TypeId} {x v : AV} {i : Int} {xv : Value} (hx : VR c x xv) (h : aIndex P t x i = some v) : Says P c (Instr.index t xv (.int .i64 i)) v := by
  unfold aIndex at h
  split at h
  · rename_i cs
    split at h
    · rename_i n e ha
      split at h
      · rename_i s hs
        split at h
        · rename_i hb
          obtain ⟨vs, rfl, hl, hv, h1⟩ := hx.agg_
          obtain ⟨cv, a1, a2⟩ := part_take (P := P) ⟨hl, hv⟩ h1 h
          exact ⟨cv, by simp [Instr.index, asIntOf, run_underlying (tArray_some ha), hb.1, hb.2, tSize_run hs, a1], a2⟩
        · cases h
      · cases h
    · cases h
  · rename_i s
    obtain rfl := hx.str_
    split at h
    · rename_i hu
      split at h
      · rename_i h0
        cases hb : s[i.toNat]? with
        | none => rw [hb] at h; cases h
        | some b =>
          rw [hb] at h
          injection h with h; subst h
          refine ⟨_, ?_, VR.int ..⟩
          simp [Instr.index, asIntOf, run_underlying (isStr_some hu), h0, str_get, hb]
      · cases h
    · cases h
  · cases h

/-! ### slices -/
def bV : Option Int → Option Value
  | none => none
  | some n => some (.int .i64 n)
theorem bounds_run (b : Bool) (len cap : Nat) (lo hi : Option Int) (h0 : 0 ≤ lo.getD 0) (h1 : lo.getD 0 ≤ hi.getD len) (h2 : hi.getD len ≤ cap) (w : World) :
    (Instr.sliceBounds b len cap (bV lo) (bV hi) none).run P w = .ok ((lo.getD 0).toNat, (hi.getD len).toNat, cap) w := by
  cases lo with
  | none =>
    cases hi with
    | none => simp [Instr.sliceBounds, bV]
    | some h =>
      simp only [Option.getD_none, Option.getD_some] at h0 h1 h2
      simp [Instr.sliceBounds, Instr.sliceBound, bV, asIntOf, h1, h2]
  | some l =>
    cases hi with
    | none =>
      simp only [Option.getD_none, Option.getD_some] at h0 h1 h2
      simp [Instr.sliceBounds, Instr.sliceBound, bV, asIntOf, h0, h1]
    | some h =>
      simp only [Option.getD_some] at h0 h1 h2
      have h3 : l ≤ max h 0 := by omega
      have h4 : 0 ≤ h := by omega
      simp [Instr.sliceBounds, Instr.sliceBound, bV, asIntOf, h0, h1, h2, h3, h4]

theorem sliceAt_slice {t e : TypeId} {s : Nat} (hu : P.underlying t = some (.slice e)) (hs : tSize P e = some s) (A : Option Addr) (n cap : Nat) (lo hi : Option Int) (h0 : 0 ≤ lo.getD 0) (h1 : lo.getD 0 ≤ hi.getD n) (h2 : hi.getD n ≤ cap) (w : World) :
    (Instr.sliceAt t (.slice A n cap) (bV lo) (bV hi) none).run P w = .ok (.slice (if cap = (lo.getD 0).toNat then A else A.map (·.add ((lo.getD 0).toNat * s))) ((hi.getD n).toNat - (lo.getD 0).toNat) (cap - (lo.getD 0).toNat)) w := by
  simp only [Instr.sliceAt, Instr.slice, Sem.run_bind, run_underlying hu, Result.andThen_ok, bounds_run true n cap lo hi h0 h1 h2, tSize_run hs, Sem.run_pure]

theorem slice_rel {t : TypeId} {x v : AV} {lo hi : Option Int} {xv : Value} (hx : VR c x xv) (h : aSlice P t x lo hi = some v) : Says P c (Instr.sliceAt t xv (bV lo) (bV hi) none) v := by
  unfold aSlice at h
  dsimp only at h
  split at h
  · rename_i s
    obtain rfl := hx.str_
    split at h
    · rename_i hb
      injection h with h; subst h
      obtain ⟨hu, h0, h1, h2⟩ := hb
      refine ⟨.string ⟨((s.take (hi.getD s.length).toNat).drop (lo.getD 0).toNat).toArray⟩, ?_, VR.str ..⟩
      have hb := bounds_run (P := P) false s.length s.length lo hi h0 h1 (by omega) c.w
      simp only [Instr.sliceAt, Instr.slice, Sem.run_bind, run_underlying (isStr_some hu), Result.andThen_ok, Option.isSome_none, Bool.false_eq_true, if_false, Sem.run_pure, str_size, hb, ByteArray.extract_mk]
      rw [List.drop_take]
    · cases h
  · obtain rfl := hx.nil_
    split at h
    · rename_i hb
      injection h with h; subst h
      obtain ⟨h0, h1, h2⟩ := hb
      cases hs : (tElem P t).bind (tSize P) with
      | none => rw [hs] at h0; cases h0
      | some s =>
        obtain ⟨e, hu, hs'⟩ := elemSize hs
        refine ⟨.slice none 0 0, ?_, .data _ _ .nil⟩
        rw [sliceAt_slice hu hs' none 0 0 lo hi (by omega) (by rw [h1]; simp [h2]) (by simp [h2])]
        simp [h1, h2]
    · cases h
  · rename_i n cs
    split at h
    · rename_i s hs
      split at h
      · rename_i hb
        injection h with h; subst h
        obtain ⟨h0, h1, h2⟩ := hb
        obtain ⟨e, hu, hs'⟩ := elemSize hs
        obtain ⟨A, cap, rfl, hn, hA0, hA, hc⟩ := hx.sl_
        refine ⟨_, sliceAt_slice hu hs' A n cap lo hi h0 h1 (by omega) c.w, ?_⟩
        generalize hl : (lo.getD 0).toNat = l
        generalize hh : (hi.getD n).toNat = m
        have hlm : l ≤ m := by omega
        have hmn : m ≤ n := by omega
        by_cases hcap : cap = l
        · have : m - l = 0 := by omega
          rw [if_pos hcap, this]
          have he : (cs.take (m * s)).drop (l * s) = [] := by rw [show m = l by omega]; simp
          rw [he]
          exact .data _ _ (.sl _ _ _ _ (fun _ => undef) (by omega) (fun h => by omega) (fun h => absurd rfl h) (fun a j x _ hx => by simp at hx) (fun j x hx => by simp at hx) (fun j x hx => by simp at hx))
        · rw [if_neg hcap]
          have hex : ∀ j, ∃ u : Value, ∀ a x, A = some a → ((cs.take (m * s)).drop (l * s))[j]? = some x → c.w.cell? ((a.add (l * s)).add j) = some u ∧ u.oneCell' = true ∧ PR c.S c.w x u := fun j => by
            rw [List.getElem?_drop]
            cases A with
            | none => exact ⟨undef, fun a x h => by cases h⟩
            | some a =>
              cases hx : (cs.take (m * s))[l * s + j]? with
              | none => exact ⟨undef, fun a x _ h => by cases h⟩
              | some x =>
                have hx' : cs[l * s + j]? = some x := by
                  rw [List.getElem?_take] at hx
                  split at hx
                  · exact hx
                  · cases hx
                obtain ⟨u, h1, h2, h3⟩ := hc a _ x rfl hx'
                refine ⟨u, fun a' y ha' hy => ?_⟩
                injection ha' with ha'
                injection hy with hy
                subst ha'; subst hy
                rw [add_add]
                exact ⟨h1, h2, h3⟩
          obtain ⟨u, hu'⟩ := Classical.axiomOfChoice hex
          refine .data _ _ (.sl _ _ _ _ u (by omega) (fun hp => ?_) (fun hne => ?_) (fun a' j x ha' hxj => ?_) (fun j x hxj => ?_) (fun j x hxj => ?_))
          · obtain ⟨a, rfl⟩ := hA0 (by omega)
            exact ⟨_, rfl⟩
          · obtain ⟨a, rfl, hSa⟩ := hA (fun e => hne (by rw [e]; simp))
            exact ⟨_, rfl, by rw [add_block]; exact hSa⟩
          · cases A with
            | none => cases ha'
            | some a =>
              simp only [Option.map_some] at ha'
              injection ha' with ha'
              subst ha'
              exact (hu' j a x rfl hxj).1
          · obtain ⟨a, rfl, _⟩ := hA (fun e => by rw [e] at hxj; simp at hxj)
            exact (hu' j a x rfl hxj).2.1
          · obtain ⟨a, rfl, _⟩ := hA (fun e => by rw [e] at hxj; simp at hxj)
            exact (hu' j a x rfl hxj).2.2
      · cases h
    · cases h
  · rename_i k g off n
    split at h
    · rename_i s hs
      split at h
      · rename_i hb
        injection h with h; subst h
        obtain ⟨hs0, h0, h1, h2⟩ := hb
        obtain ⟨e, hu, hs'⟩ := elemSize hs
        obtain ⟨hk, hg, A, cap, rfl, hn, hA, hr⟩ := hx.ref_
        refine ⟨_, sliceAt_slice hu hs' A n cap lo hi h0 h1 (by omega) c.w, ?_⟩
        generalize hl : (lo.getD 0).toNat = l
        generalize hh : (hi.getD n).toNat = m
        have hlm : l ≤ m := by omega
        have hmn : m ≤ n := by omega
        by_cases hl0 : l = 0
        · subst hl0
          simp only [Nat.zero_mul, Nat.add_zero, Nat.sub_zero]
          have hAA : (if cap = 0 then A else A.map fun x => x.add 0) = A := by
            split
            · rfl
            · cases A <;> simp [Addr.add]
          rw [hAA]
          refine .ref k g _ _ _ _ hk hg (by omega) (fun hh => hA (by omega)) fun r hr' hgen => ?_
          obtain ⟨q1, q2⟩ := hr r (by unfold aRow; rw [hr']; simp [hgen])
          exact ⟨fun hh => q1 (by omega), q2⟩
        · have hls : 0 < l * s := Nat.mul_pos (by omega) hs0
          have hne : ¬ (off + l * s = 0) := by omega
          refine .ref k g _ _ _ _ hk hg (by omega) (fun hp => ?_) fun r hr' hgen => ⟨fun hp => ?_, fun hp => absurd hp hne⟩
          · obtain ⟨a, rfl⟩ := hA (by omega)
            split <;> exact ⟨_, rfl⟩
          · obtain ⟨q1, _⟩ := hr r (by unfold aRow; rw [hr']; simp [hgen])
            have hpos : 0 < m - l := by omega
            rw [if_neg (by omega), q1 (by omega)]
            simp [plain_add]
      · cases h
    · cases h
  · cases h

/-! ### new rows -/
theorem tZero_some {t : TypeId} {z : List AV} (h : tZero P t = some z) : ∃ i v, P.info? t = some i ∧ i.zero = some v ∧ ofCells v.cells.toList = some z := by
  unfold tZero at h
  split at h
  · rename_i v hv
    cases hi : P.info? t with
    | none => rw [hi] at hv; cases hv
    | some i => rw [hi] at hv; exact ⟨i, v, rfl, hv, h⟩
  · cases h
theorem zero_cells {v : Value} {z : List AV} (h : ofCells v.cells.toList = some z) (c : Ctx) : v.cells.size = z.length ∧ ∀ (j : Nat) (x : AV), z[j]? = some x → ∃ u : Value, v.cells[j]? = some u ∧ u.oneCell' = true ∧ VR c x u := by
  obtain ⟨hl, hh⟩ := ofCells_rel h c.S c.w
  have hl' : v.cells.size = z.length := by simpa using hl
  refine ⟨hl', fun j x hx => ?_⟩
  have hj : j < v.cells.size := by have := (List.getElem?_eq_some_iff.1 hx).1; omega
  obtain ⟨a, b, _⟩ := hh j x v.cells[j] hx (by simp [hj])
  exact ⟨v.cells[j], by simp [hj], b, .data _ _ a⟩

theorem new_row {t : Tag} (hI : Inv c) (ht : ¬ c.T t) (elem sz : Nat) (plain : Bool) (mk : Nat × Nat) (hp : plain = true → mk = (0, 0)) (cs : List AV) (cells : Array Value) (hm : mk.2 = 0 ∨ cs.length ≤ mk.1) (hl : cs.length ≤ cells.size)
    (hx : ∀ (j : Nat) (x : AV), cs[j]? = some x → ∃ u : Value, cells[j]? = some u ∧ u.oneCell' = true ∧ VR c x u) :
    Inv (c.new t (.row { elem, sz, gen := t, ro := false, plain, cs }) (.cells cells elem mk)) ∧ Step c (c.new t (.row { elem, sz, gen := t, ro := false, plain, cs }) (.cells cells elem mk)) :=
  ⟨inv_new hI t ht _ _ (fun r hr => by injection hr with hr; subst hr; exact ⟨rfl, rfl⟩) ⟨cells, mk, rfl, hp, hm, hl, hx⟩, step_new hI t ht _ _ (fun r hr => by injection hr with hr; subst hr; rfl)⟩
theorem new_ptr (c : Ctx) (t : Tag) (x : AObj) (o : Obj) : VR (c.new t x o) (.ptr t t 0) (.pointer (some ⟨c.w.heap.size, 0, none⟩)) :=
  .ptr t t 0 _ (.inr rfl) (.inr rfl) fun r _ _ => by simp [Ctx.new]
theorem new_ref (c : Ctx) (t : Tag) (r : Row) (mk : Nat × Nat) (cells : Array Value) (n cap : Nat) (hn : n ≤ cap) (hc : cap * r.sz ≤ cells.size) : VR (c.new t (.row r) (.cells cells r.elem mk)) (.ref t t 0 n) (.slice (some ⟨c.w.heap.size, 0, none⟩) n cap) := by
  refine .ref t t 0 n _ _ (.inr rfl) (.inr rfl) hn (fun _ => ⟨_, rfl⟩) fun r' hr' _ => ⟨fun _ => by simp [Ctx.new], fun _ cl e m hcl => ?_⟩
  simp only [Ctx.new, upd_same] at hr'
  injection hr' with hr'
  injection hr' with hr'
  subst hr'
  simp only [Ctx.new, if_true] at hcl
  rw [alloc_get_new] at hcl
  injection hcl with hcl
  injection hcl with hcl
  rw [← hcl]
  exact hc

theorem alloc_rel {t : Tag} (hI : Inv c) (ht : ¬ c.T t) {e : TypeId} {z : List AV} {H : AH} (hH : c.H = H.o) (hz : tZero P e = some z) (hN : N t) : Does P c N (Instr.alloc e true (.tuple #[])) (.ptr t t 0) (mkRow H t e 1 true z).o := by
  obtain ⟨i, v, hi, hv, hz'⟩ := tZero_some hz
  obtain ⟨hl, hx⟩ := zero_cells hz' c
  obtain ⟨i1, s1⟩ := new_row hI ht e 1 true (0, 0) (fun _ => rfl) z v.cells (.inl rfl) (by omega) hx
  refine ⟨_, _, ?_, i1, s1, by simp [Ctx.new, mkRow, hH], fun u hu => hu.imp id (fun e => by rw [e]; exact hN), new_ptr c t _ _⟩
  simp [Instr.alloc, zeroValue, typeInfo, hi, hv, newVar, newRow, Ctx.new]
theorem box_rel {t : Tag} (hI : Inv c) (ht : ¬ c.T t) {e : TypeId} {x : AV} {xv : Value} {H : AH} (hH : c.H = H.o) (hx : VR c x xv) (hc : x.cells.all cellOk = true) (hN : N t) : Does P c N (Instr.box e xv) (.ptr t t 0) (mkRow H t e 1 true x.cells).o := by
  obtain ⟨hl, hh⟩ := hx.cells hc
  obtain ⟨i1, s1⟩ := new_row hI ht e 1 true (0, 0) (fun _ => rfl) x.cells xv.cells (.inl rfl) (by omega) (fun j y hy => by
    have hj : j < xv.cells.size := by have := (List.getElem?_eq_some_iff.1 hy).1; omega
    obtain ⟨a, b⟩ := hh j y xv.cells[j] hy (by simp [hj])
    exact ⟨_, by simp [hj], b, a⟩)
  refine ⟨_, _, ?_, i1, s1, by simp [Ctx.new, mkRow, hH], fun u hu => hu.imp id (fun e => by rw [e]; exact hN), new_ptr c t _ _⟩
  simp [Instr.box, newVar, newRow, Ctx.new]

theorem rep_length (z : List AV) (n : Nat) : (rep z n).length = n * z.length := by
  induction n with
  | zero => simp [rep]
  | succ n ih => simp [rep, ih, Nat.succ_mul]; omega
theorem rep_get (z : List AV) (hz : 0 < z.length) : ∀ (n j : Nat), j < n * z.length → (rep z n)[j]? = z[j % z.length]?
  | 0, j, h => by simp at h
  | n + 1, j, h => by
    rw [Nat.succ_mul] at h
    simp only [rep]
    by_cases hj : j < z.length
    · rw [List.getElem?_append_left hj, Nat.mod_eq_of_lt hj]
    · rw [List.getElem?_append_right (by omega), rep_get z hz n _ (by omega)]
      congr 1
      rw [Nat.mod_eq_sub_mod (show j ≥ z.length by omega)]
theorem made_cells {v : Value} {z : List AV} (hl : v.cells.size = z.length) (hx : ∀ (j : Nat) (x : AV), z[j]? = some x → ∃ u : Value, v.cells[j]? = some u ∧ u.oneCell' = true ∧ VR c x u) (hz : 0 < z.length) (n m : Nat) (hnm : n ≤ m) :
    (rep z n).length ≤ (madeCells v.cells (m * z.length)).size ∧ ∀ (j : Nat) (x : AV), (rep z n)[j]? = some x → ∃ u : Value, (madeCells v.cells (m * z.length))[j]? = some u ∧ u.oneCell' = true ∧ VR c x u := by
  have hmul : n * z.length ≤ m * z.length := Nat.mul_le_mul_right _ hnm
  refine ⟨by rw [rep_length, size_madeCells]; exact hmul, fun j x hj => ?_⟩
  have hjl : j < n * z.length := by have := (List.getElem?_eq_some_iff.1 hj).1; rwa [rep_length] at this
  rw [rep_get z hz n j hjl] at hj
  obtain ⟨u, h1, h2, h3⟩ := hx _ x hj
  refine ⟨u, ?_, h2, h3⟩
  have hlt : j % v.cells.size < v.cells.size := Nat.mod_lt _ (by omega)
  rw [← hl] at h1
  have : (madeCells v.cells (m * z.length))[j]? = some (v.cells[j % v.cells.size]!) := by
    have : j < m * z.length := by omega
    simp [madeCells, this]
  rw [this, getElem!_pos v.cells (j % v.cells.size) hlt]
  rw [Array.getElem?_eq_getElem hlt] at h1
  exact h1

theorem tBytes_info {t : TypeId} {n : Nat} (h : tBytes P t = some n) : ∃ i, P.info? t = some i ∧ i.bytes = n := by
  unfold tBytes at h
  cases hi : P.info? t with
  | none => rw [hi] at h; cases h
  | some i => rw [hi] at h; simp at h; exact ⟨i, rfl, h⟩

theorem make_rel {tg : Tag} (hI : Inv c) (ht : ¬ c.T tg) {t : TypeId} {l cp : Int} {H H' : AH} {v : AV} (hH : c.H = H.o) (hN : N tg) (h : aMakeSlice P tg t l cp H = some (v, H')) :
    Does P c N (Instr.makeSlice t (.int .i64 l) (.int .i64 cp)) v H'.o := by
  unfold aMakeSlice at h
  split at h
  · cases h
  · rename_i e he
    split at h
    · rename_i sz by_ z hsz hby hz
      split at h
      · rename_i hb
        injection h with h
        injection h with h1 h2
        subst h1; subst h2
        obtain ⟨h0, h1, h2, h3, h4, h5⟩ := hb
        obtain ⟨i, zv, hi, hv, hz'⟩ := tZero_some hz
        obtain ⟨i', hi', rfl⟩ := tSize_info hsz
        obtain ⟨i'', hi'', rfl⟩ := tBytes_info hby
        obtain rfl : i = i' := by rw [hi] at hi'; injection hi'
        obtain rfl : i = i'' := by rw [hi] at hi''; injection hi''
        obtain ⟨hl, hx⟩ := zero_cells hz' c
        obtain ⟨m1, m2⟩ := made_cells (c := c) hl hx (by omega) l.toNat cp.toNat (by omega)
        rw [h4] at m1 m2
        obtain ⟨i1, s1⟩ := new_row hI ht e i.size true (0, 0) (fun _ => rfl) (rep z l.toNat) _ (.inl rfl) m1 m2
        refine ⟨_, _, ?_, i1, s1, by simp [Ctx.new, mkRow, hH], fun u hu => hu.imp id (fun e => by rw [e]; exact hN), new_ref c tg _ _ _ _ cp.toNat (by omega) (by rw [size_madeCells]; exact Nat.le_refl _)⟩
        exact run_make (P := P) c.w t e i zv (tElem_some he) hi hv .i64 .i64 l cp h0 h1 (by rw [Int.mul_comm]; omega) (by omega)
      · cases h
    · cases h
end

end Go.Proofs.YtpmjpogcaglphaaDoor.A
/- A, part 10: stores, append, copy, literals, conversions. -/
namespace Go.Proofs.YtpmjpogcaglphaaDoor.A
open Go

theorem isUnd_false : ∀ {v : AV}, isUnd v = false → v ≠ .und := by
  intro v h e
  subst e
  cases h

section
variable {P : Program} {c : Ctx} {N : Tag → Prop}

theorem splice_get {cs new : List AV} {off : Nat} (h : off + new.length ≤ cs.length) (j : Nat) : (splice cs off new)[j]? = if off ≤ j ∧ j < off + new.length then new[j - off]? else cs[j]? := by
  unfold splice
  have hl : (cs.take off).length = off := by simp; omega
  by_cases h1 : j < off
  · rw [List.append_assoc, List.getElem?_append_left (by omega), List.getElem?_take, if_pos h1, if_neg (by omega)]
  · by_cases h2 : j < off + new.length
    · rw [List.append_assoc, List.getElem?_append_right (by omega), hl, List.getElem?_append_left (by omega), if_pos (by omega)]
    · rw [List.getElem?_append_right (by simp; omega), List.getElem?_drop, if_neg (by omega)]
      congr 1
      simp
      omega
theorem splice_length {cs new : List AV} {off : Nat} (h : off + new.length ≤ cs.length) : (splice cs off new).length = cs.length := by simp [splice]; omega

/-- A run of cells is written into a live row. -/
theorem write_row (hI : Inv c) {k g : Tag} {r : Row} (hr : aRow c.H k g = some r) (hro : r.ro = false) {off : Nat} {new : List AV} {vs : List Value} (hlen : vs.length = new.length) (hone : ∀ v ∈ vs, v.oneCell' = true)
    (hrel : ∀ (j : Nat) (x : AV) (u : Value), new[j]? = some x → vs[j]? = some u → VR c x u) (hfit : off + new.length ≤ r.cs.length) :
    ∃ c', (storeCells ⟨c.φ k, off, none⟩ vs).run P c.w = .ok () c'.w ∧ Inv c' ∧ Step c c' ∧ c'.H = upd c.H k (.row { r with cs := splice r.cs off new }) ∧ ∀ t, c'.T t → c.T t := by
  obtain ⟨hk, hgen⟩ := aRow_some hr
  obtain ⟨tk, tg, _, _, cells, mk, hc, hp, hm, hl, hx⟩ := hI.row k r hk
  obtain ⟨w', cur', hrun, hw, hs, hcur⟩ := store_run (P := P) vs 0 c.w (c.φ k) off cells r.elem mk hc (by omega) hone (by omega)
  obtain ⟨i1, s1⟩ := put_row (g := r.gen) hI hk hro (splice r.cs off new) (.inl rfl) hc hs hw (by rw [splice_length hfit]; exact hl) hp (by rw [splice_length hfit]; exact hm) (fun j x hj => by
    rw [splice_get hfit] at hj
    rw [hcur j]
    simp only [Nat.add_zero]
    split at hj
    · rename_i hb
      rw [if_pos (by omega)]
      have hjv : j - off < vs.length := by omega
      have hu : vs[j - off]? = some vs[j - off] := List.getElem?_eq_getElem hjv
      exact ⟨_, hu, hone _ (List.getElem_mem hjv), hrel _ x _ hj hu⟩
    · rename_i hb
      rw [if_neg (by omega)]
      exact hx j x hj)
  exact ⟨_, hrun, i1, s1, rfl, fun t ht => ht.elim id (fun e => by rw [e]; exact tg)⟩

theorem store_rel (hI : Inv c) {t : TypeId} {p x : AV} {pv xv : Value} {H H' : AH} (hH : c.H = H.o) (hp : VR c p pv) (hx : VR c x xv) (h : aStore P t p x H = some H') :
    DoesU P c N (Instr.storeAt t pv xv) H'.o := by
  unfold aStore at h
  split at h
  · rename_i k g off n hn
    split at h
    · rename_i r hr
      split at h
      · rename_i hb
        injection h with h; subst h
        obtain ⟨h1, h2, h3, h4⟩ := hb
        rw [← hH] at hr
        obtain ⟨_, _, a, rfl, ha⟩ := hp.ptr_
        obtain rfl := ha r hr
        obtain ⟨hl, hcell⟩ := hx.cells h2
        obtain ⟨c', q1, q2, q3, q4, q5⟩ := write_row (P := P) hI hr h3 (off := off) (new := x.cells) (vs := xv.cells.toList) (by simpa using hl) (fun v hv => by
          obtain ⟨j, hj, e⟩ := List.mem_iff_getElem.1 hv
          have hj' : j < x.cells.length := by simpa [hl] using hj
          exact (hcell j _ v (List.getElem?_eq_getElem hj') (by rw [← Array.getElem?_toList, ← e]; exact List.getElem?_eq_getElem hj)).2) (fun j y u hy hu => (hcell j y u hy (by simpa using hu)).1) (by omega)
        refine ⟨c', ?_, q2, q3, by rw [q4, hH]; rfl, fun t ht => .inl (q5 t ht)⟩
        have hsz : ¬ xv.cells.size ≠ n := by omega
        simp only [Instr.storeAt, Instr.sureAddr, pure_bind, storeVar, Sem.run_bind, tSize_run hn, Result.andThen_ok, if_neg hsz, q1]
      · cases h
    · cases h
  · cases h

/-! ### what is appended -/
theorem src_rel (hI : Inv c) {x : AV} {xv : Value} {m sz : Nat} {new : List AV} (hx : VR c x xv) (h : srcOf c.H x = some (m, new)) (hlen : new.length = m * sz) :
    (Builtin.lenOf xv).run P c.w = .ok m c.w ∧ ∀ n, n ≤ m → ∃ vs : Array Value, (Builtin.firstCells sz n xv).run P c.w = .ok vs c.w ∧ vs.size = n * sz ∧ ∀ (j : Nat) (y : AV), (new.take (n * sz))[j]? = some y → ∃ u : Value, vs[j]? = some u ∧ VR c y u ∧ u.oneCell' = true := by
  have fromCells : ∀ (a : Addr) (k : Nat), (∀ (j : Nat) (y : AV), new[j]? = some y → ∃ u : Value, c.w.cell? (a.add j) = some u ∧ u.oneCell' = true ∧ VR c y u) → ∀ n, n ≤ m → ∃ vs : Array Value, (loadCells a (n * sz)).run P c.w = .ok vs c.w ∧ vs.size = n * sz ∧ ∀ (j : Nat) (y : AV), (new.take (n * sz))[j]? = some y → ∃ u : Value, vs[j]? = some u ∧ VR c y u ∧ u.oneCell' = true := by
    intro a _ hc n hn
    have hmul : n * sz ≤ m * sz := Nat.mul_le_mul_right _ hn
    have hex : ∀ j, ∃ u : Value, j < n * sz → c.w.cell? (a.add j) = some u ∧ u.oneCell' = true ∧ ∀ y, new[j]? = some y → VR c y u := fun j => by
      by_cases hj : j < n * sz
      · obtain ⟨u, h1, h2, h3⟩ := hc j _ (List.getElem?_eq_getElem (show j < new.length by omega))
        exact ⟨u, fun _ => ⟨h1, h2, fun y hy => by rw [List.getElem?_eq_getElem (show j < new.length by omega)] at hy; injection hy with hy; subst hy; exact h3⟩⟩
      · exact ⟨undef, fun h => absurd h hj⟩
    obtain ⟨f, hf⟩ := Classical.axiomOfChoice hex
    refine ⟨((List.range (n * sz)).map f).toArray, run_loadCells (P := P) c.w a (n * sz) f (fun j hj => (hf j hj).1), by simp, fun j y hy => ?_⟩
    rw [List.getElem?_take] at hy
    split at hy
    · rename_i hj
      exact ⟨f j, by simp [hj], (hf j hj).2.2 y hy, (hf j hj).2.1⟩
    · cases hy
  unfold srcOf at h
  split at h
  · rename_i s
    injection h with h
    injection h with h1 h2
    subst h1; subst h2
    obtain rfl := hx.str_
    refine ⟨by simp [Builtin.lenOf, str_size], fun n hn => ?_⟩
    have hs : s.length * sz = s.length := by simpa using hlen.symm
    have hn' : n * sz = n := by
      by_cases h0 : s.length = 0
      · obtain rfl : n = 0 := by omega
        simp
      · have : sz = 1 := Nat.mul_left_cancel (n := s.length) (by omega) (by rw [hs, Nat.mul_one])
        rw [this, Nat.mul_one]
    have hmin : min n s.length = n := Nat.min_eq_left hn
    refine ⟨((((⟨s.toArray⟩ : ByteArray).extract 0 n).data).map fun b => .int .u8 b.toNat), rfl, ?_, fun j y hy => ?_⟩
    · rw [ByteArray.extract_mk, hn']; simp [hmin]
    · rw [hn', List.getElem?_take] at hy
      split at hy
      · rename_i hj
        rw [List.getElem?_map] at hy
        cases hb : s[j]? with
        | none => rw [hb] at hy; cases hy
        | some b =>
          rw [hb] at hy
          simp only [Option.map_some] at hy
          injection hy with hy
          subst hy
          refine ⟨.int .u8 b.toNat, ?_, VR.int .., rfl⟩
          rw [ByteArray.extract_mk]
          simp only [List.drop_zero, Nat.sub_zero, Array.getElem?_map, List.getElem?_toArray, List.getElem?_take, if_pos hj, hb, Option.map_some]
      · cases hy
  · unfold sliceCells at h
    split at h
    · injection h with h
      injection h with h1 h2
      subst h1; subst h2
      obtain rfl := hx.nil_
      refine ⟨rfl, fun n hn => ?_⟩
      obtain rfl : n = 0 := by omega
      exact ⟨#[], rfl, by simp, fun j y hy => by simp at hy⟩
    · rename_i n' cs _
      injection h with h
      injection h with h1 h2
      subst h1; subst h2
      obtain ⟨A, cap, rfl, hn, hA0, hA, hc⟩ := hx.sl_
      refine ⟨rfl, fun n hn => ?_⟩
      cases A with
      | none =>
        have hz : n' = 0 := by
          rcases Nat.eq_zero_or_pos n' with h | h
          · exact h
          · obtain ⟨a, ha⟩ := hA0 h
            cases ha
        obtain rfl : n = 0 := by omega
        exact ⟨#[], rfl, by simp, fun j y hy => by simp at hy⟩
      | some a =>
        obtain ⟨vs, q1, q2, q3⟩ := fromCells a 0 (fun j y hy => by obtain ⟨u, a1, a2, a3⟩ := hc a j y rfl hy; exact ⟨u, a1, a2, .data _ _ a3⟩) n hn
        exact ⟨vs, q1, q2, q3⟩
    · rename_i k g off n' _
      split at h
      · rename_i r hr
        injection h with h
        injection h with h1 h2
        subst h1
        obtain ⟨_, _, A, cap, rfl, hn, hA, hh⟩ := hx.ref_
        refine ⟨rfl, fun n hn => ?_⟩
        cases A with
        | none =>
          have hz : n' = 0 := by
            rcases Nat.eq_zero_or_pos n' with h | h
            · exact h
            · obtain ⟨a, ha⟩ := hA (.inr h)
              cases ha
          obtain rfl : n = 0 := by omega
          exact ⟨#[], rfl, by simp, fun j y hy => by simp at hy⟩
        | some a =>
          obtain ⟨q, _⟩ := hh r hr
          by_cases h0 : off = 0 ∨ 0 < n'
          · have := q h0
            injection this with this
            subst this
            obtain ⟨vs, q1, q2, q3⟩ := fromCells _ 0 (fun j y hy => by
              rw [← h2] at hy
              rw [List.getElem?_take] at hy
              split at hy
              · exact row_cells hI (aRow_some hr).1 off j y hy
              · cases hy) n hn
            exact ⟨vs, q1, q2, q3⟩
          · obtain rfl : n = 0 := by omega
            obtain ⟨vs, q1, q2, q3⟩ : ∃ vs : Array Value, (loadCells a (0 * sz)).run P c.w = .ok vs c.w ∧ vs.size = 0 * sz ∧ ∀ (j : Nat) (y : AV), (new.take (0 * sz))[j]? = some y → ∃ u : Value, vs[j]? = some u ∧ VR c y u ∧ u.oneCell' = true := ⟨#[], by simp [loadCells, loadCellsFrom], by simp, fun j y hy => by simp at hy⟩
            exact ⟨vs, q1, q2, q3⟩
      · cases h
    · cases h

theorem zeroCells_run {e : TypeId} {i : TypeInfo} {v : Value} (hi : P.info? e = some i) (hv : i.zero = some v) (w : World) : (zeroValue e).run P w = .ok v w := by simp [zeroValue, typeInfo, hi, hv]

/-- append where a new block is made. -/
theorem append_grows {t xt ty e : TypeId} {base : Option Addr} {n cap m : Nat} {xv : Value} {i : TypeInfo} {z : Value} (hu : P.underlying t = some (.slice e)) (hxt : P.underlying xt = some .string ∨ ∃ e', P.underlying xt = some (.slice e')) (hi : P.info? e = some i) (hz : i.zero = some z)
    (hb0 : i.bytes ≠ 0) (hlen : (Builtin.lenOf xv).run P c.w = .ok m c.w) {news olds : Array Value} (h1 : (Builtin.firstCells i.size m xv).run P c.w.drew = .ok news c.w.drew) (h2 : (Builtin.firstCells i.size n (.slice base n cap)).run P c.w.drew = .ok olds c.w.drew)
    (hgr : cap < n + m) (hby : (n + m) * i.bytes ≤ 140737488355328) :
    (Builtin.append_ #[t, xt] ty #[.slice base n cap, xv]).run P c.w = .ok (.slice (some ⟨c.w.heap.size, 0, none⟩) (n + m) (grownCap c.w (n + m) cap e)) (c.w.drew.alloc (.cells (olds ++ news ++ Builtin.zeroCells z.cells (grownCap c.w (n + m) cap e - (n + m))) e)) := by
  have h48 : ¬ (281474976710656 < Builtin.nextslicecap (n + m) cap * i.bytes) := by have := growslice_fits hgr hby; omega
  have hn : ¬ (n + m ≤ cap) := by omega
  rcases hxt with hxt | ⟨e', hxt⟩ <;> simp [Builtin.append_, run_underlying hu, run_underlying hxt, sizeOf, typeInfo, zeroValue, hi, hz, hlen, hn, hb0, h48, Question.forced, newRow, grownCap, h1, h2]
/-- append where there is room. -/
theorem append_fits {t xt ty e : TypeId} {a : Addr} {n cap m : Nat} {xv : Value} {i : TypeInfo} (hu : P.underlying t = some (.slice e)) (hxt : P.underlying xt = some .string ∨ ∃ e', P.underlying xt = some (.slice e')) (hi : P.info? e = some i)
    (hlen : (Builtin.lenOf xv).run P c.w = .ok m c.w) {news : Array Value} (h1 : (Builtin.firstCells i.size m xv).run P c.w = .ok news c.w) {w' : World} (h2 : (storeCells (a.add (n * i.size)) news.toList).run P c.w = .ok () w') (hfit : n + m ≤ cap) :
    (Builtin.append_ #[t, xt] ty #[.slice (some a) n cap, xv]).run P c.w = .ok (.slice (some a) (n + m) cap) w' := by
  rcases hxt with hxt | ⟨e', hxt⟩ <;> simp [Builtin.append_, run_underlying hu, run_underlying hxt, sizeOf, typeInfo, hi, hlen, hfit, h1, h2]
theorem append_none {t xt ty e : TypeId} {xv : Value} {i : TypeInfo} (hu : P.underlying t = some (.slice e)) (hxt : P.underlying xt = some .string ∨ ∃ e', P.underlying xt = some (.slice e')) (hi : P.info? e = some i)
    (hlen : (Builtin.lenOf xv).run P c.w = .ok 0 c.w) {news : Array Value} (h1 : (Builtin.firstCells i.size 0 xv).run P c.w = .ok news c.w) :
    (Builtin.append_ #[t, xt] ty #[.slice none 0 0, xv]).run P c.w = .ok (.slice none 0 0) c.w := by
  rcases hxt with hxt | ⟨e', hxt⟩ <;> simp [Builtin.append_, run_underlying hu, run_underlying hxt, sizeOf, typeInfo, hi, hlen, h1]

theorem xt_some {xt : TypeId} (h : ¬ (isStr (P.underlying xt) = false ∧ (tElem P xt).isSome = false)) : P.underlying xt = some .string ∨ ∃ e', P.underlying xt = some (.slice e') := by
  by_cases h1 : isStr (P.underlying xt) = false
  · cases he : tElem P xt with
    | none => exact absurd ⟨h1, by rw [he]; rfl⟩ h
    | some e => exact .inr ⟨e, tElem_some he⟩
  · exact .inl (isStr_some (by simpa using h1))

theorem append_rel {tg : Tag} (hI : Inv c) (ht : ¬ c.T tg) {t xt ty : TypeId} {s x v : AV} {sv xv : Value} {H H' : AH} (hH : c.H = H.o) (hN : N tg) (hs : VR c s sv) (hx : VR c x xv) (h : aAppend P tg t xt s x H = some (v, H')) :
    Does P c N (Builtin.append_ #[t, xt] ty #[sv, xv]) v H'.o := by
  unfold aAppend at h
  split at h
  · cases h
  · rename_i e he
    have hu := tElem_some he
    split at h
    · rename_i sz by_ z m new hsz hby hz hsrc
      split at h
      · cases h
      · rename_i hcond
        have hzl0 : z.length = sz := Classical.byContradiction fun hh => hcond (.inl hh)
        have hxt := xt_some (P := P) (xt := xt) (fun hh => hcond (.inr (.inl hh)))
        have hnl : new.length = m * sz := Classical.byContradiction fun hh => hcond (.inr (.inr (.inl hh)))
        have hsz0 : sz ≠ 0 := fun hh => hcond (.inr (.inr (.inr (.inl hh))))
        have hby0 : by_ ≠ 0 := fun hh => hcond (.inr (.inr (.inr (.inr (.inl hh)))))
        obtain ⟨i, zv, hi, hzv, hz'⟩ := tZero_some hz
        obtain ⟨i', hi', rfl⟩ := tSize_info hsz
        obtain ⟨i'', hi'', rfl⟩ := tBytes_info hby
        obtain rfl : i = i' := by rw [hi] at hi'; injection hi'
        obtain rfl : i = i'' := by rw [hi] at hi''; injection hi''
        rw [← hH] at hsrc
        obtain ⟨hlen, hfirst⟩ := src_rel (P := P) hI hx hsrc hnl
        obtain ⟨news, q1, q2, q3⟩ := hfirst m (Nat.le_refl _)
        rw [List.take_of_length_le (by omega)] at q3
        -- behind a draw
        obtain ⟨iD, sD⟩ := step_world (c := c) (w := c.w.drew) hI rfl rfl rfl rfl
        have hxD : VR (c.world c.w.drew) x xv := hx.mono sD.mono
        obtain ⟨hlenD, hfirstD⟩ := src_rel (P := P) (c := c.world c.w.drew) iD hxD hsrc hnl
        obtain ⟨newsD, d1, d2, d3⟩ := hfirstD m (Nat.le_refl _)
        rw [List.take_of_length_le (by omega)] at d3
        split at h
        · obtain rfl := hs.nil_
          split at h
          · rename_i hm
            injection h with h
            injection h with h1 h2
            subst h1; subst h2; subst hm
            exact Says.does hI ⟨_, append_none hu hxt hi hlen q1, .data _ _ .nil⟩ hH
          · split at h
            · rename_i hm hb
              injection h with h
              injection h with h1 h2
              subst h1; subst h2
              have hrun := append_grows (P := P) (c := c) (ty := ty) (base := none) (n := 0) (cap := 0) hu hxt hi hzv hby0 hlen d1 (olds := #[]) rfl (by omega) (by rw [Nat.zero_add]; exact hb)
              have hge := grownCap_ge c.w (0 + m) 0 e
              have hzl : zv.cells.size = i.size := by
                obtain ⟨a, _⟩ := zero_cells hz' c
                omega
              obtain ⟨i1, s1⟩ := new_row (c := c.world c.w.drew) (t := tg) iD ht e i.size true (0, 0) (fun _ => rfl) new (#[] ++ newsD ++ Builtin.zeroCells zv.cells (grownCap c.w (0 + m) 0 e - (0 + m))) (.inl rfl) (by simp only [Array.size_append, d2]; omega) (fun j y hy => by
                obtain ⟨u, a1, a2, a3⟩ := d3 j y hy
                refine ⟨u, ?_, a3, a2⟩
                have hj : j < newsD.size := (Array.getElem?_eq_some_iff.1 a1).1
                rw [Array.getElem?_append_left (by simpa using hj)]
                simpa using a1)
              refine ⟨_, _, hrun, i1, sD.trans s1, by simp [Ctx.new, Ctx.world, mkRow, hH], fun u hu => hu.imp id (fun e => by rw [e]; exact hN), ?_⟩
              have hcap : grownCap c.w (0 + m) 0 e * i.size ≤ (#[] ++ newsD ++ Builtin.zeroCells zv.cells (grownCap c.w (0 + m) 0 e - (0 + m))).size := by
                simp only [Array.size_append, d2, size_zeroCells, hzl, List.size_toArray, List.length_nil, Nat.zero_add]
                rw [Nat.zero_add] at hge
                rw [← Nat.add_mul]
                exact Nat.mul_le_mul_right _ (by omega)
              have := new_ref (c.world c.w.drew) tg { elem := e, sz := i.size, gen := tg, ro := false, plain := true, cs := new } (0, 0) _ m _ (by omega) hcap
              rw [Nat.zero_add] at this ⊢
              exact this
            · cases h
        · rename_i k g n
          split at h
          · rename_i r hr
            split at h
            · rename_i hb
              injection h with h
              injection h with h1 h2
              subst h1; subst h2
              obtain ⟨b1, b2, b3, b4, b5, b6⟩ := hb
              rw [← hH] at hr
              obtain ⟨hkr, hgen⟩ := aRow_some hr
              obtain ⟨tk, tgg, A, cap, rfl, hn, hA, hrr⟩ := hs.ref_
              obtain ⟨hA', hcapb⟩ := hrr r hr
              obtain rfl := hA' (.inl rfl)
              obtain ⟨_, _, _, _, cells, mk0, hc, hp0, hm0, hl, hxc⟩ := hI.row k r hkr
              obtain rfl := hp0 b4
              have hcap := hcapb rfl cells _ _ hc
              rw [b2] at hcap
              have hmulm : (n + m) * i.size = n * i.size + m * i.size := Nat.add_mul ..
              by_cases hfit : n + m ≤ cap
              · -- in place
                have hle : (n + m) * i.size ≤ cap * i.size := Nat.mul_le_mul_right _ hfit
                obtain ⟨w', cur', hst, hw, hsz', hcur⟩ := store_run (P := P) news.toList 0 c.w (c.φ k) (n * i.size) cells r.elem (0, 0) hc (by simp; omega) (fun v hv => by
                  obtain ⟨j, hj, e'⟩ := List.mem_iff_getElem.1 hv
                  have hj' : j < new.length := by rw [hnl, ← q2]; simpa using hj
                  obtain ⟨u, a1, a2, a3⟩ := q3 j _ (List.getElem?_eq_getElem hj')
                  have : news[j]? = some v := by rw [← Array.getElem?_toList, ← e']; exact List.getElem?_eq_getElem hj
                  rw [this] at a1
                  injection a1 with a1
                  rw [a1]
                  exact a3) (.inl (Nat.zero_le _))
                obtain ⟨i1, s1⟩ := put_row (g := tg) hI hkr b3 (r.cs.take (n * i.size) ++ new) (.inr ht) hc hsz' hw (by simp; omega) (fun _ => rfl) (.inl rfl) (fun j y hy => by
                  rw [hcur j]
                  simp only [Nat.add_zero, Array.length_toList, q2]
                  by_cases hj : j < n * i.size
                  · rw [if_neg (by omega)]
                    rw [List.getElem?_append_left (by simp; omega), List.getElem?_take, if_pos hj] at hy
                    exact hxc j y hy
                  · rw [List.getElem?_append_right (by simp; omega)] at hy
                    have hlen' : (r.cs.take (n * i.size)).length = n * i.size := by simp; omega
                    rw [hlen'] at hy
                    have hj2 : j - n * i.size < m * i.size := by have := (List.getElem?_eq_some_iff.1 hy).1; omega
                    rw [if_pos (by omega)]
                    obtain ⟨u, a1, a2, a3⟩ := q3 _ y hy
                    exact ⟨u, by simpa using a1, a3, a2⟩)
                refine ⟨_, _, append_fits (P := P) (c := c) (ty := ty) hu hxt hi hlen q1 (w' := w') (by rw [plain_add, Nat.zero_add]; exact hst) hfit, i1, s1, by simp [Ctx.put, putRow, hH], fun u hu => hu.imp id (fun e => by rw [e]; exact hN), ?_⟩
                refine .ref k tg 0 (n + m) _ _ (.inl tk) (.inr rfl) hfit (fun _ => ⟨_, rfl⟩) fun r' hr' _ => ⟨fun _ => rfl, fun _ cl e' mk hcl => ?_⟩
                have hcl' : w'.heap[c.φ k]? = some (.cells cl e' mk) := hcl
                rw [hw.at_] at hcl'
                injection hcl' with hcl'
                injection hcl' with hcl'
                have hr3 := hr'
                simp only [Ctx.put] at hr3
                rw [upd_same] at hr3
                injection hr3 with hr3
                injection hr3 with hr3
                rw [← hcl', ← hr3, hsz']
                dsimp only
                rw [b2]
                exact hcap
              · -- a new block
                have hsD : VR (c.world c.w.drew) (.ref k g 0 n) (.slice (some ⟨c.φ k, 0, none⟩) n cap) := hs.mono sD.mono
                obtain ⟨_, hfs⟩ := src_rel (P := P) (c := c.world c.w.drew) (sz := i.size) iD hsD (m := n) (new := (r.cs.drop 0).take (n * r.sz)) (by
                  have hr2 : aRow (c.world c.w.drew).H k g = some r := hr
                  simp [srcOf, sliceCells, hr2]) (by rw [b2]; simp; omega)
                obtain ⟨olds, o1, o2, o3⟩ := hfs n (Nat.le_refl _)
                have hrun := append_grows (P := P) (c := c) (ty := ty) hu hxt hi hzv hby0 hlen d1 o1 (by omega) b6
                have hge := grownCap_ge c.w (n + m) cap e
                have hzl : zv.cells.size = i.size := by
                  obtain ⟨a, _⟩ := zero_cells hz' c
                  omega
                obtain ⟨i1, s1⟩ := move_row (c := c.world c.w.drew) iD hkr b3 { r with gen := tg, cs := r.cs.take (n * i.size) ++ new } ht b3 (olds ++ newsD ++ Builtin.zeroCells zv.cells (grownCap c.w (n + m) cap e - (n + m))) (by simp [o2, d2]; omega) (fun j y hy => by
                  by_cases hj : j < n * i.size
                  · rw [List.getElem?_append_left (by simp; omega)] at hy
                    obtain ⟨u, a1, a2, a3⟩ := o3 j y (by rw [b2]; simp only [List.drop_zero, List.take_take, Nat.min_self]; exact hy)
                    refine ⟨u, ?_, a3, a2⟩
                    have hj' : j < olds.size := (Array.getElem?_eq_some_iff.1 a1).1
                    rw [Array.append_assoc, Array.getElem?_append_left hj']
                    exact a1
                  · rw [List.getElem?_append_right (by simp; omega)] at hy
                    have hlen' : (r.cs.take (n * i.size)).length = n * i.size := by simp; omega
                    rw [hlen'] at hy
                    obtain ⟨u, a1, a2, a3⟩ := d3 _ y hy
                    refine ⟨u, ?_, a3, a2⟩
                    have hj' : j - n * i.size < newsD.size := (Array.getElem?_eq_some_iff.1 a1).1
                    rw [Array.append_assoc, Array.getElem?_append_right (by omega), o2, Array.getElem?_append_left hj']
                    exact a1)
                rw [b1] at i1 s1
                refine ⟨_, _, hrun, i1, sD.trans s1, by simp [Ctx.moved, Ctx.world, putRow, hH, b1], fun u hu => hu.imp id (fun e => by rw [e]; exact hN), ?_⟩
                refine .ref k tg 0 (n + m) _ _ (.inl tk) (.inr rfl) hge (fun _ => ⟨_, rfl⟩) fun r' hr' _ => ⟨fun _ => by simp [Ctx.moved, Ctx.world], fun _ cl e' mk hcl => ?_⟩
                have hr3 := hr'
                simp only [Ctx.moved] at hr3
                rw [upd_same] at hr3
                injection hr3 with hr3
                injection hr3 with hr3
                have hcl' := hcl
                simp only [Ctx.moved, if_true] at hcl'
                rw [alloc_get_new] at hcl'
                injection hcl' with hcl'
                injection hcl' with hcl'
                rw [← hcl', ← hr3]
                dsimp only
                rw [b2]
                simp only [Array.size_append, o2, d2, size_zeroCells, hzl]
                rw [← Nat.add_mul, ← Nat.add_mul]
                exact Nat.mul_le_mul_right _ (by omega)
            · cases h
          · cases h
        · cases h
    · cases h

end

end Go.Proofs.YtpmjpogcaglphaaDoor.A
/- A, part 11: copy, literals, conversions, lengths. -/
namespace Go.Proofs.YtpmjpogcaglphaaDoor.A
open Go

section
variable {P : Program} {c : Ctx} {N : Tag → Prop}

theorem copy_rel (hI : Inv c) {t xt ty : TypeId} {rest : List TypeId} {d x v : AV} {dv xv : Value} {H H' : AH} (hH : c.H = H.o) (hd : VR c d dv) (hx : VR c x xv) (h : aCopy P t d x H = some (v, H')) :
    Does P c N (Builtin.copy_ (t :: rest).toArray ty #[dv, xv]) v H'.o := by
  unfold aCopy at h
  split at h
  · rename_i sz m new hsz hsrc
    obtain ⟨e, hu, hs⟩ := elemSize hsz
    rw [← hH] at hsrc
    split at h
    · rename_i k g off n
      split at h
      · rename_i r hr
        dsimp only at h
        split at h
        · rename_i hb
          injection h with h
          injection h with h1 h2
          subst h1; subst h2
          obtain ⟨b0, b1, b2, b3, b4, b5⟩ := hb
          rw [← hH] at hr
          obtain ⟨_, _, A, cap, rfl, hn, hA, hrr⟩ := hd.ref_
          obtain ⟨hA', _⟩ := hrr r hr
          obtain rfl := hA' b0
          obtain ⟨hlen, hfirst⟩ := src_rel (P := P) hI hx hsrc b4
          obtain ⟨vs, q1, q2, q3⟩ := hfirst (Nat.min m n) (Nat.min_le_left _ _)
          have hle : Nat.min m n * sz ≤ m * sz := Nat.mul_le_mul_right _ (Nat.min_le_left _ _)
          have hle2 : Nat.min m n * sz ≤ n * sz := Nat.mul_le_mul_right _ (Nat.min_le_right _ _)
          have hnl : (new.take (Nat.min m n * sz)).length = Nat.min m n * sz := by simp only [List.length_take]; omega
          obtain ⟨c', w1, w2, w3, w4, w5⟩ := write_row (P := P) hI hr b2 (off := off) (new := new.take (Nat.min m n * sz)) (vs := vs.toList) (by rw [hnl]; simpa using q2) (fun u hu => by
            obtain ⟨j, hj, e'⟩ := List.mem_iff_getElem.1 hu
            have hj' : j < (new.take (Nat.min m n * sz)).length := by rw [hnl, ← q2]; simpa using hj
            obtain ⟨u', a1, a2, a3⟩ := q3 j _ (List.getElem?_eq_getElem hj')
            have : vs[j]? = some u := by rw [← Array.getElem?_toList, ← e']; exact List.getElem?_eq_getElem hj
            rw [this] at a1
            injection a1 with a1
            rw [a1]
            exact a3) (fun j y u hy hu => by
            obtain ⟨u', a1, a2, _⟩ := q3 j y hy
            rw [Array.getElem?_toList] at hu
            rw [hu] at a1
            injection a1 with a1
            rw [a1]
            exact a2) (by rw [hnl]; omega)
          refine ⟨_, c', ?_, w2, w3, by rw [w4, hH]; rfl, fun t ht => .inl (w5 t ht), VR.int ..⟩
          have hmin : Nat.min m n = min m n := rfl
          simp [Builtin.copy_, run_underlying hu, hlen, tSize_run hs, q1, w1, goInt]
        · cases h
      · cases h
    · split at h
      · rename_i b4
        injection h with h
        injection h with h1 h2
        subst h1; subst h2
        obtain rfl := hd.nil_
        obtain ⟨hlen, hfirst⟩ := src_rel (P := P) hI hx hsrc b4
        obtain ⟨vs, q1, q2, q3⟩ := hfirst 0 (Nat.zero_le _)
        have hmin : Nat.min m 0 = 0 := Nat.min_zero m
        refine Says.does hI ⟨.int .i64 0, ?_, VR.int ..⟩ hH
        simp [Builtin.copy_, run_underlying hu, hlen, tSize_run hs, q1, goInt]
      · cases h
    · cases h
  · cases h

/-! ### literals -/
def PartsRel (c : Ctx) : List (Nat × AV) → List (Nat × Value) → Prop
  | [], [] => True
  | (i, x) :: ps, (j, v) :: vs => i = j ∧ VR c x v ∧ PartsRel c ps vs
  | _, _ => False
theorem partsOf_rel {a : AAct} {ca : Act} (hA : AR c a ca) : ∀ {parts : List (Nat × Operand)} {ps : List (Nat × AV)}, partsOf a parts = some ps → PartsRel c ps (parts.map fun p => (p.1, ca.eval p.2))
  | [], ps, h => by
    simp only [partsOf] at h
    injection h with h; subst h
    trivial
  | (i, x) :: parts, ps, h => by
    simp only [partsOf] at h
    split at h
    · rename_i v vs hv hvs
      injection h with h; subst h
      exact ⟨rfl, opd_rel hA hv, partsOf_rel hA hvs⟩
    · cases h

theorem foldl_set (off : Nat) : ∀ (l : List Value) (i : Nat) (cells : Array Value) (j : Nat), off + i + l.length ≤ cells.size → ((l.zipIdx i).foldl (fun cs p => cs.setIfInBounds (off + p.2) p.1) cells).size = cells.size ∧
    ((l.zipIdx i).foldl (fun cs p => cs.setIfInBounds (off + p.2) p.1) cells)[j]? = if off + i ≤ j ∧ j < off + i + l.length then l[j - (off + i)]? else cells[j]?
  | [], i, cells, j, _ => ⟨rfl, by rw [if_neg (by simp only [List.length_nil]; omega)]; rfl⟩
  | v :: l, i, cells, j, h => by
    simp only [List.length_cons] at h
    simp only [List.zipIdx_cons, List.foldl_cons]
    obtain ⟨h1, h2⟩ := foldl_set off l (i + 1) (cells.setIfInBounds (off + i) v) j (by simp; omega)
    refine ⟨by rw [h1]; simp, ?_⟩
    rw [h2]
    simp only [List.length_cons]
    by_cases a : off + (i + 1) ≤ j ∧ j < off + (i + 1) + l.length
    · rw [if_pos a, if_pos (by omega), show j - (off + i) = (j - (off + (i + 1))) + 1 by omega]
      simp
    · rw [if_neg a]
      by_cases b : j = off + i
      · subst b
        rw [if_pos (by omega)]
        have : off + i < cells.size := by omega
        simp [this]
      · rw [if_neg (by omega), Array.getElem?_setIfInBounds_ne (by omega)]

/-- The cells of a literal. -/
def CellsOne (c : Ctx) (xs : List AV) (vs : Array Value) : Prop := vs.size = xs.length ∧ ∀ (j : Nat) (x : AV), xs[j]? = some x → ∃ u : Value, vs[j]? = some u ∧ u.oneCell' = true ∧ VR c x u
theorem fill_rel {place : Nat → Option (Nat × Nat)} : ∀ {ps : List (Nat × AV)} {vs : List (Nat × Value)} {cells cs : List AV} {ccells : Array Value}, PartsRel c ps vs → CellsOne c cells ccells → fillA place cells ps = some cs → ∃ ccs, Instr.fill place ccells vs = some ccs ∧ CellsOne c cs ccs
  | [], [], cells, cs, ccells, _, hc, h => by
    simp only [fillA] at h
    injection h with h; subst h
    exact ⟨ccells, rfl, hc⟩
  | [], _ :: _, _, _, _, hp, _, _ => hp.elim
  | _ :: _, [], _, _, _, hp, _, _ => hp.elim
  | (i, x) :: ps, (j, v) :: vs, cells, cs, ccells, hp, hc, h => by
    obtain ⟨rfl, hx, hp⟩ := hp
    simp only [fillA] at h
    split at h
    · cases h
    · rename_i off size hpl
      split at h
      · rename_i hb
        obtain ⟨b1, b2, b3⟩ := hb
        obtain ⟨hl, hh⟩ := hx.cells b3
        have hf := foldl_set off v.cells.toList 0 ccells
        have hfit : off + x.cells.length ≤ cells.length := by omega
        have hcell : CellsOne c (splice cells off x.cells) (v.cells.zipIdx.foldl (fun cs p => cs.setIfInBounds (off + p.2) p.1) ccells) := by
          rw [← Array.foldl_toList, Array.toList_zipIdx]
          refine ⟨?_, fun q y hy => ?_⟩
          · rw [(hf 0 (by simp; have := hc.1; omega)).1, splice_length hfit]
            exact hc.1
          · rw [(hf q (by simp; have := hc.1; omega)).2]
            rw [splice_get hfit] at hy
            simp only [Nat.add_zero, Array.length_toList, hl]
            split at hy
            · rename_i hq
              rw [if_pos hq]
              have hlt : q - off < v.cells.size := by omega
              have hu : v.cells[q - off]? = some v.cells[q - off] := by simp [hlt]
              obtain ⟨a1, a2⟩ := hh _ y _ hy hu
              exact ⟨_, by simp [hlt], a2, a1⟩
            · rename_i hq
              rw [if_neg hq]
              exact hc.2 q y hy
        obtain ⟨ccs, r1, r2⟩ := fill_rel hp hcell h
        refine ⟨ccs, ?_, r2⟩
        have hcs := hc.1
        have hn : (v.cells.size ≠ size || decide (off + v.cells.size > ccells.size)) = false := by
          simp; omega
        simp only [Instr.fill, hpl]
        simp only [hn]
        exact r1
      · cases h

theorem fieldPlaces_run (w : World) : ∀ {fs : List Field} {ps : List (Nat × Nat)}, fieldPlaces P fs = some ps → (fs.mapM (m := Sem) fun f => do pure (f.offset, ← sizeOf f.type)).run P w = .ok ps w
  | [], ps, h => by
    simp only [fieldPlaces] at h
    injection h with h; subst h
    rfl
  | f :: fs, ps, h => by
    simp only [fieldPlaces] at h
    split at h
    · rename_i s r hs hr
      injection h with h; subst h
      simp only [List.mapM_cons, Sem.run_bind, tSize_run hs, Result.andThen_ok, Sem.run_pure, fieldPlaces_run w hr]
    · cases h

theorem zero_one {v : Value} {z : List AV} (h : ofCells v.cells.toList = some z) (c : Ctx) : CellsOne c z v.cells := zero_cells h c

theorem build_rel {t : TypeId} {parts : Array (Nat × Value)} {ps : List (Nat × AV)} {v : AV} (hp : PartsRel c ps parts.toList) (h : aBuild P t ps = some v) : Says P c (Instr.build t parts) v := by
  unfold aBuild at h
  split at h
  · rename_i z fs hz hu
    split at h
    · rename_i places hpl
      obtain ⟨i, zv, hi, hzv, hz'⟩ := tZero_some hz
      cases hf : fillA (fun i => places[i]?) z ps with
      | none => rw [hf] at h; cases h
      | some cs =>
        rw [hf] at h
        injection h with h; subst h
        obtain ⟨ccs, f1, f2⟩ := fill_rel (place := fun i => places[i]?) hp (zero_one hz' c) hf
        have hm := fieldPlaces_run (P := P) c.w hpl
        refine ⟨.agg ccs, ?_, .agg _ _ f2.1 (fun j x u hx hu => by
          obtain ⟨u', a1, _, a3⟩ := f2.2 j x hx
          rw [hu] at a1
          injection a1 with a1
          rw [a1]
          exact a3) (fun j u hu => by
          have hj : j < cs.length := by rw [← f2.1]; exact (Array.getElem?_eq_some_iff.1 hu).1
          obtain ⟨u', a1, a2, _⟩ := f2.2 j _ (List.getElem?_eq_getElem hj)
          rw [hu] at a1
          injection a1 with a1
          rw [a1]
          exact a2)⟩
        have hm' : (fs.mapM (m := Sem) fun f => do pure (f.offset, ← sizeOf f.type)).run P c.w = .ok places.toArray c.w := by
          rw [Array.mapM_eq_mapM_toList, Sem.run_map, hm]
          rfl
        simp only [Instr.build, zeroValue, Sem.run_bind, typeInfo, run_program, hi, Result.andThen_ok, Sem.run_pure, hzv, run_underlying hu, hm', List.getElem?_toArray, f1]
    · cases h
  · rename_i z n e hz hu
    split at h
    · rename_i s hs
      obtain ⟨i, zv, hi, hzv, hz'⟩ := tZero_some hz
      cases hf : fillA (fun i => some (i * s, s)) z ps with
      | none => rw [hf] at h; cases h
      | some cs =>
        rw [hf] at h
        injection h with h; subst h
        obtain ⟨ccs, f1, f2⟩ := fill_rel (place := fun i => some (i * s, s)) hp (zero_one hz' c) hf
        refine ⟨.agg ccs, ?_, .agg _ _ f2.1 (fun j x u hx hu => by
          obtain ⟨u', a1, _, a3⟩ := f2.2 j x hx
          rw [hu] at a1
          injection a1 with a1
          rw [a1]
          exact a3) (fun j u hu => by
          have hj : j < cs.length := by rw [← f2.1]; exact (Array.getElem?_eq_some_iff.1 hu).1
          obtain ⟨u', a1, a2, _⟩ := f2.2 j _ (List.getElem?_eq_getElem hj)
          rw [hu] at a1
          injection a1 with a1
          rw [a1]
          exact a2)⟩
        simp only [Instr.build, zeroValue, Sem.run_bind, typeInfo, run_program, hi, Result.andThen_ok, Sem.run_pure, hzv, run_underlying hu, tSize_run hs, f1]
    · cases h
  · cases h

theorem buildSlice_rel {tg : Tag} (hI : Inv c) (ht : ¬ c.T tg) {t : TypeId} {len : Nat} {parts : Array (Nat × Value)} {ps : List (Nat × AV)} {H H' : AH} {v : AV} (hH : c.H = H.o) (hN : N tg) (hp : PartsRel c ps parts.toList) (h : aBuildSlice P tg t len ps H = some (v, H')) :
    Does P c N (Instr.buildSlice t len parts) v H'.o := by
  unfold aBuildSlice at h
  split at h
  · cases h
  · rename_i e he
    split at h
    · rename_i sz z hsz hz
      split at h
      · rename_i hb
        obtain ⟨b1, b2, b3⟩ := hb
        split at h
        · rename_i cs hf
          injection h with h
          injection h with h1 h2
          subst h1; subst h2
          obtain ⟨i, zv, hi, hzv, hz'⟩ := tZero_some hz
          obtain ⟨hl, hx⟩ := zero_cells hz' c
          subst b2
          obtain ⟨m1, m2⟩ := made_cells (c := c) hl hx (by omega) len len (Nat.le_refl _)
          have hone : CellsOne c (rep z len) (madeCells zv.cells (len * z.length)) := ⟨by rw [size_madeCells, rep_length], m2⟩
          obtain ⟨ccs, f1, f2⟩ := fill_rel (place := fun i => some (i * z.length, z.length)) hp hone hf
          have hlen : cs.length = len * z.length := by
            have : ∀ {place} {ps : List (Nat × AV)} {cells cs : List AV}, fillA place cells ps = some cs → cs.length = cells.length := by
              intro place ps
              induction ps with
              | nil => intro cells cs h; simp only [fillA] at h; injection h with h; rw [h]
              | cons p ps ih =>
                intro cells cs h
                obtain ⟨i, x⟩ := p
                simp only [fillA] at h
                split at h
                · cases h
                · split at h
                  · rename_i hb
                    rw [ih h, splice_length (by omega)]
                  · cases h
            rw [this hf, rep_length]
          obtain ⟨i1, s1⟩ := new_row hI ht e z.length true (0, 0) (fun _ => rfl) cs ccs (.inl rfl) (by rw [f2.1]; exact Nat.le_refl _) f2.2
          refine ⟨_, _, ?_, i1, s1, by simp [Ctx.new, mkRow, hH], fun u hu => hu.imp id (fun e => by rw [e]; exact hN), new_ref c tg _ _ _ len len (Nat.le_refl _) (by rw [f2.1, hlen]; exact Nat.le_refl _)⟩
          have hbig : ¬ (len * z.length > 2 ^ 24) := by omega
          have hu := tElem_some he
          by_cases h0 : len * z.length = 0
          · have hm0 : madeCells zv.cells (len * z.length) = (Array.range (len * z.length)).map ((#[] : Array Value)[· % (#[] : Array Value).size]!) := by rw [h0]; simp [madeCells]
            rw [hm0] at f1
            simp only [Instr.buildSlice, Sem.run_bind, run_underlying hu, Result.andThen_ok, tSize_run hsz, if_neg hbig, if_pos h0, Sem.run_pure, f1, newRow, run_newObj_alloc, Ctx.new]
          · simp only [Instr.buildSlice, Sem.run_bind, run_underlying hu, Result.andThen_ok, tSize_run hsz, if_neg hbig, if_neg h0, zeroValue, typeInfo, run_program, hi, hzv, Sem.run_pure]
            simp only [madeCells] at f1
            simp only [f1, newRow, Sem.run_bind, run_newObj_alloc, Result.andThen_ok, Sem.run_pure, Ctx.new]
        · cases h
      · cases h
    · cases h

end

end Go.Proofs.YtpmjpogcaglphaaDoor.A
/- A, part 12: conversions, lengths, the least and the greatest. -/
namespace Go.Proofs.YtpmjpogcaglphaaDoor.A
open Go

section
variable {P : Program} {c : Ctx} {N : Tag → Prop}

theorem aBytes_some : ∀ {cs : List AV} {bs : List UInt8}, aBytes cs = some bs → ∃ xs : List Int, cs = xs.map (AV.int .u8) ∧ bs = xs.map fun n => UInt8.ofNat n.toNat
  | [], bs, h => by
    simp only [aBytes] at h
    injection h with h; subst h
    exact ⟨[], rfl, rfl⟩
  | x :: cs, bs, h => by
    unfold aBytes at h
    split at h
    · rename_i h0; cases h0
    · rename_i n cs' e
      injection e with e1 e2
      subst e1; subst e2
      split at h
      · rename_i bs' hb
        injection h with h; subst h
        obtain ⟨xs, rfl, rfl⟩ := aBytes_some hb
        exact ⟨n :: xs, rfl, rfl⟩
      · cases h
    · cases h

/-- The cells of a slice, wherever they lie. -/
theorem sliceCells_rel (hI : Inv c) {x : AV} {xv : Value} {n : Nat} {cs : List AV} (hx : VR c x xv) (h : sliceCells c.H x = some (n, cs)) (hl : cs.length = n) : ∃ A cap, xv = .slice A n cap ∧ (0 < n → ∃ a, A = some a ∧ ∀ (j : Nat) (y : AV), cs[j]? = some y → ∃ u : Value, c.w.cell? (a.add j) = some u ∧ VR c y u) := by
  unfold sliceCells at h
  split at h
  · injection h with h
    injection h with h1 h2
    subst h1
    obtain rfl := hx.nil_
    exact ⟨none, 0, rfl, fun h => by omega⟩
  · injection h with h
    injection h with h1 h2
    subst h1; subst h2
    obtain ⟨A, cap, rfl, hn, hA0, hA, hc⟩ := hx.sl_
    refine ⟨A, cap, rfl, fun hp => ?_⟩
    obtain ⟨a, rfl⟩ := hA0 hp
    exact ⟨a, rfl, fun j y hy => by obtain ⟨u, a1, _, a3⟩ := hc a j y rfl hy; exact ⟨u, a1, .data _ _ a3⟩⟩
  · rename_i k g off n'
    split at h
    · rename_i r hr
      injection h with h
      injection h with h1 h2
      subst h1
      obtain ⟨_, _, A, cap, rfl, hn, hA, hh⟩ := hx.ref_
      refine ⟨A, cap, rfl, fun hp => ?_⟩
      obtain ⟨q, _⟩ := hh r hr
      refine ⟨_, q (.inr hp), fun j y hy => ?_⟩
      rw [← h2, List.getElem?_take] at hy
      split at hy
      · obtain ⟨u, a1, _, a3⟩ := row_cells hI (aRow_some hr).1 off j y hy
        exact ⟨u, a1, a3⟩
      · cases hy
    · cases h
  · cases h

theorem convert_rel {tg : Tag} (hI : Inv c) (ht : ¬ c.T tg) {s t : TypeId} {x v : AV} {xv : Value} {H H' : AH} (hH : c.H = H.o) (hN : N tg) (hx : VR c x xv) (h : aConvert P tg s t x H = some (v, H')) :
    Does P c N (convert s t xv) v H'.o := by
  unfold aConvert at h
  split at h
  · rename_i d k k' n hs hd
    injection h with h
    injection h with h1 h2
    subst h1; subst h2
    obtain rfl := hx.int_
    exact Says.does hI ⟨_, by simp [convert, run_underlying hs, run_underlying hd, Conv.intToInt], VR.int ..⟩ hH
  · rename_i d sx hs hd
    injection h with h
    injection h with h1 h2
    subst h1; subst h2
    obtain rfl := hx.str_
    exact Says.does hI ⟨.string ⟨sx.toArray⟩, by simp [convert, run_underlying hs, run_underlying hd], VR.str ..⟩ hH
  · rename_i e sx hs hd
    split at h
    · rename_i he
      injection h with h
      injection h with h1 h2
      subst h1; subst h2
      obtain rfl := hx.str_
      obtain ⟨iD, sD⟩ := step_world (c := c) (w := c.w.drew) hI rfl rfl rfl rfl
      have hrun := run_bytes_of_string (P := P) c.w s t e ⟨sx.toArray⟩ hs hd he
      have hge := grownCap_ge c.w sx.length 0 e
      rw [str_size] at hrun
      have hsz : (bytesRow ⟨sx.toArray⟩ (grownCap c.w sx.length 0 e)).size = grownCap c.w sx.length 0 e := by
        simp [bytesRow, str_size]
        omega
      obtain ⟨i1, s1⟩ := new_row (c := c.world c.w.drew) (t := tg) iD ht e 1 false ((bytesRow ⟨sx.toArray⟩ (grownCap c.w sx.length 0 e)).size, (bytesRow ⟨sx.toArray⟩ (grownCap c.w sx.length 0 e)).size + 1) (fun h => by cases h) (sx.map fun b => .int .u8 b.toNat) (bytesRow ⟨sx.toArray⟩ (grownCap c.w sx.length 0 e)) (.inr (by simp; omega)) (by simp; omega) (fun j y hy => by
        have hj : j < sx.length := by have := (List.getElem?_eq_some_iff.1 hy).1; simpa using this
        have hb := bytesRow_at ⟨sx.toArray⟩ (grownCap c.w sx.length 0 e) j (by simpa using hj)
        refine ⟨_, hb, rfl, ?_⟩
        have : y = .int .u8 (sx[j].toNat : Int) := by
          rw [List.getElem?_map, List.getElem?_eq_getElem hj] at hy
          simp at hy
          exact hy.symm
        rw [this]
        exact VR.int ..)
      refine ⟨_, _, hrun, i1, sD.trans s1, by simp [Ctx.new, Ctx.world, mkRow, hH], fun u hu => hu.imp id (fun e => by rw [e]; exact hN), ?_⟩
      exact new_ref (c.world c.w.drew) tg { elem := e, sz := 1, gen := tg, ro := false, plain := false, cs := sx.map fun b => .int .u8 b.toNat } _ _ sx.length _ hge (by simp; omega)
    · cases h
  · rename_i e hs hd _
    split at h
    · rename_i he
      split at h
      · rename_i n cs hcs
        split at h
        · rename_i hl
          cases hb : aBytes cs with
          | none => rw [hb] at h; cases h
          | some bs =>
            rw [hb] at h
            injection h with h
            injection h with h1 h2
            subst h1; subst h2
            rw [← hH] at hcs
            obtain ⟨xs, rfl, rfl⟩ := aBytes_some hb
            obtain ⟨A, cap, rfl, hcell⟩ := sliceCells_rel hI hx hcs hl
            refine Says.does hI ⟨.string ⟨(xs.map fun n => UInt8.ofNat n.toNat).toArray⟩, ?_, VR.str ..⟩ hH
            have hxl : xs.length = n := by simpa using hl
            rcases Nat.eq_zero_or_pos n with h0 | h0
            · subst h0
              have hx0 : xs = [] := List.eq_nil_of_length_eq_zero hxl
              subst hx0
              rw [run_convert_bytes_string c.w s t e _ 0 cap hs he hd]
              cases A with
              | none => simp [Conv.bytesToString]; rfl
              | some a => simp [Conv.bytesToString, loadCells, loadCellsFrom]; rfl
            · obtain ⟨a, rfl, hc⟩ := hcell h0
              have hspot : a = ⟨a.block, a.off, none⟩ := by
                obtain ⟨u, hu, _⟩ := hc 0 _ (List.getElem?_eq_getElem (show 0 < (xs.map (AV.int .u8)).length by simpa [hxl] using h0))
                have : a.add 0 = a := by simp [Addr.add]
                rw [this] at hu
                unfold World.cell? at hu
                split at hu
                · split at hu
                  · cases hu
                  · rename_i hsp
                    obtain ⟨b, o, sp⟩ := a
                    cases sp with
                    | none => rfl
                    | some q => exact absurd rfl hsp
                · cases hu
              rw [hspot]
              have := run_convert_bytes_arg (P := P) c.w s e hs he a.block a.off n cap xs hxl (fun i hi => by
                have hi' : i < (xs.map (AV.int .u8)).length := by simpa [hxl] using hi
                obtain ⟨u, hu, hv⟩ := hc i _ (List.getElem?_eq_getElem hi')
                rw [hspot, plain_add] at hu
                rw [hu]
                have hgi : (xs.map (AV.int .u8))[i] = .int .u8 (xs.getD i 0) := by
                  simp [List.getD_eq_getElem?_getD, List.getElem?_eq_getElem (show i < xs.length by omega)]
                rw [hgi] at hv
                rw [hv.int_]) t hd
              rw [this]
              simp [strOfNums]
        · cases h
      · cases h
    · cases h
  · cases h

theorem len_rel (hI : Inv c) {t : TypeId} {x v : AV} {ty : TypeId} {xv : Value} {rest : List TypeId} (hx : VR c x xv) (h : aLen P c.H t x = some v) : Says P c (Builtin.len_ (t :: rest).toArray ty #[xv]) v := by
  unfold aLen at h
  split at h
  · rename_i s hu
    injection h with h; subst h
    obtain rfl := hx.str_
    exact ⟨_, by simp [Builtin.len_, run_underlying hu, goInt, str_size], VR.int ..⟩
  · rename_i n e hu
    injection h with h; subst h
    exact ⟨_, by simp [Builtin.len_, run_underlying hu, goInt], VR.int ..⟩
  · rename_i e hu
    injection h with h; subst h
    obtain rfl := hx.nil_
    exact ⟨_, by simp [Builtin.len_, run_underlying hu, goInt], VR.int ..⟩
  · rename_i e n cs hu
    injection h with h; subst h
    obtain ⟨A, cap, rfl, _⟩ := hx.sl_
    exact ⟨_, by simp [Builtin.len_, run_underlying hu, goInt], VR.int ..⟩
  · rename_i e k g off n hu
    injection h with h; subst h
    obtain ⟨_, _, A, cap, rfl, _⟩ := hx.ref_
    exact ⟨_, by simp [Builtin.len_, run_underlying hu, goInt], VR.int ..⟩
  · rename_i x _ m kt et hu
    cases hm : mapAt c.H x with
    | none => rw [hm] at h; cases h
    | some es =>
      rw [hm] at h
      injection h with h; subst h
      unfold mapAt at hm
      split at hm
      · injection hm with hm; subst hm
        obtain rfl := hx.nilmp_
        exact ⟨_, by simp [Builtin.len_, run_underlying hu, goInt], VR.int ..⟩
      · split at hm
        · rename_i he
          injection hm with hm; subst hm
          obtain ⟨_, _, hmp⟩ := hx.mp_
          obtain rfl := hmp _ he
          obtain ⟨_, _, en, cl, hb, hl, _⟩ := hI.map _ _ he
          exact ⟨_, by simp [Builtin.len_, run_underlying hu, goInt, MapKept.run_getObj_map hb, Result.andThen, hl], VR.int ..⟩
        · cases hm
      · cases hm
  · cases h

/-- Values that are related, one by one. -/
def ListRel (c : Ctx) : List AV → List Value → Prop
  | [], [] => True
  | x :: xs, v :: vs => VR c x v ∧ ListRel c xs vs
  | _, _ => False
theorem opds_rel {a : AAct} {ca : Act} (hA : AR c a ca) : ∀ {l : List Operand} {vs : List AV}, opds a l = some vs → ListRel c vs (l.map ca.eval)
  | [], vs, h => by
    simp only [opds] at h
    injection h with h; subst h
    trivial
  | x :: l, vs, h => by
    simp only [opds] at h
    split at h
    · rename_i v vs' hv hvs
      injection h with h; subst h
      exact ⟨opd_rel hA hv, opds_rel hA hvs⟩
    · cases h
theorem max_rel {ts : Array TypeId} {ty : TypeId} {xs : List AV} {vs : List Value} {v : AV} (hx : ListRel c xs vs) (h : aMax xs = some v) : Says P c (Builtin.max_ ts ty vs.toArray) v := by
  unfold aMax at h
  split at h
  · rename_i k x k' y
    match vs, hx with
    | [a, b], hx =>
      obtain ⟨h1, h2, _⟩ := hx
      obtain rfl := h1.int_
      obtain rfl := h2.int_
      split at h
      · rename_i e
        subst e
        injection h with h; subst h
        exact ⟨_, by simp [Builtin.max_, Builtin.max2], VR.int ..⟩
      · cases h
  · cases h
theorem min_rel {ts : Array TypeId} {ty : TypeId} {xs : List AV} {vs : List Value} {v : AV} (hx : ListRel c xs vs) (h : aMin xs = some v) : Says P c (Builtin.min_ ts ty vs.toArray) v := by
  unfold aMin at h
  split at h
  · rename_i k x k' y
    match vs, hx with
    | [a, b], hx =>
      obtain ⟨h1, h2, _⟩ := hx
      obtain rfl := h1.int_
      obtain rfl := h2.int_
      split at h
      · rename_i e
        subst e
        injection h with h; subst h
        exact ⟨_, by simp [Builtin.min_, Builtin.min2], VR.int ..⟩
      · cases h
  · cases h
end

end Go.Proofs.YtpmjpogcaglphaaDoor.A
/- A, part 13: what is handed over, what comes back: views, seals. -/
namespace Go.Proofs.YtpmjpogcaglphaaDoor.A
open Go

/-- Lists whose parts are related, one by one. -/
def LR (R : AV → Value → Prop) (xs : List AV) (vs : List Value) : Prop := vs.length = xs.length ∧ ∀ (j : Nat) (x : AV) (u : Value), xs[j]? = some x → vs[j]? = some u → R x u
theorem LR.nil {R : AV → Value → Prop} : LR R [] [] := ⟨rfl, fun j x u h => by simp at h⟩
theorem LR.cons {R : AV → Value → Prop} {x : AV} {v : Value} {xs : List AV} {vs : List Value} (h : R x v) (t : LR R xs vs) : LR R (x :: xs) (v :: vs) := by
  refine ⟨by simp [t.1], fun j y u hy hu => ?_⟩
  cases j with
  | zero => simp at hy hu; subst hy; subst hu; exact h
  | succ j => simp at hy hu; exact t.2 j y u hy hu
theorem LR.append {R : AV → Value → Prop} {xs xs' : List AV} {vs vs' : List Value} (h : LR R xs vs) (t : LR R xs' vs') : LR R (xs ++ xs') (vs ++ vs') := by
  refine ⟨by simp [h.1, t.1], fun j y u hy hu => ?_⟩
  by_cases hj : j < xs.length
  · rw [List.getElem?_append_left hj] at hy
    rw [List.getElem?_append_left (by rw [h.1]; exact hj)] at hu
    exact h.2 j y u hy hu
  · rw [List.getElem?_append_right (by omega)] at hy
    rw [List.getElem?_append_right (by rw [h.1]; omega), h.1] at hu
    exact t.2 _ y u hy hu
theorem LR.imp {R R' : AV → Value → Prop} {f : AV → AV} {xs : List AV} {vs : List Value} (h : LR R xs vs) (i : ∀ x v, x ∈ xs → R x v → R' (f x) v) : LR R' (xs.map f) vs := by
  refine ⟨by simp [h.1], fun j y u hy hu => ?_⟩
  rw [List.getElem?_map] at hy
  cases hx : xs[j]? with
  | none => rw [hx] at hy; cases hy
  | some x =>
    rw [hx] at hy
    simp at hy
    subst hy
    exact i x u (List.mem_of_getElem? hx) (h.2 j x u hx hu)
theorem LR.weak {R R' : AV → Value → Prop} {xs : List AV} {vs : List Value} (h : LR R xs vs) (i : ∀ x v, x ∈ xs → R x v → R' x v) : LR R' xs vs := by
  have := h.imp (f := id) i
  simpa using this
theorem ListRel.lr {c : Ctx} : ∀ {xs : List AV} {vs : List Value}, ListRel c xs vs → LR (VR c) xs vs
  | [], [], _ => LR.nil
  | x :: xs, v :: vs, h => LR.cons h.1 (ListRel.lr h.2)
theorem LR.array {R : AV → Value → Prop} {xs : List AV} {us : Array Value} (hl : us.size = xs.length) (h : ∀ (j : Nat) (x : AV) (u : Value), xs[j]? = some x → us[j]? = some u → R x u) : LR R xs us.toList :=
  ⟨by simpa using hl, fun j x u hx hu => h j x u hx (by simpa using hu)⟩

/-! ### what leads to no memory -/
theorem flats_get : ∀ {xs : List AV} {j : Nat} {x : AV}, flat.flats xs = true → xs[j]? = some x → flat x = true
  | [], j, x, _, h => by simp at h
  | y :: ys, j, x, hf, h => by
    simp only [flat.flats, Bool.and_eq_true] at hf
    cases j with
    | zero => simp at h; subst h; exact hf.1
    | succ j => simp at h; exact flats_get hf.2 h
theorem PR.flat {S : Nat → Prop} {w : World} {x : AV} {v : Value} (h : PR S w x v) (S' : Nat → Prop) (w' : World) (hf : A.flat x = true) : PR S' w' x v := by
  induction h with
  | und v => cases hf
  | bool b => exact .bool b
  | int k n => exact .int k n
  | str s => exact .str s
  | agg cs vs hl _ h1 ih => exact .agg cs vs hl (fun j x u hx hu => ih j x u hx hu (flats_get (by simpa [A.flat] using hf) hx)) h1
  | tup cs vs hl _ ih => exact .tup cs vs hl (fun j x u hx hu => ih j x u hx hu (flats_get (by simpa [A.flat] using hf) hx))
  | fn f fs cs us vs hl hl' _ _ ih ih' => cases hf
  | nil => cases hf
  | nilmp => cases hf
  | nilp => cases hf
  | sl n cs A cap u hn hA ha hc h1 _ ih => cases hf
  | fptr cs a u ha hc h1 _ ih => cases hf
theorem flat_tags (o : Tag → Option AObj) : ∀ (d : Nat) (x : AV), flat x = true → viewTags o d x = []
  | 0, x, _ => rfl
  | d + 1, x, h => by
    cases x with
    | agg cs =>
      simp only [viewTags, List.flatMap_eq_nil_iff]
      intro y hy
      obtain ⟨j, hj⟩ := List.getElem?_of_mem hy
      exact flat_tags o d y (flats_get (by simpa [flat] using h) hj)
    | tup cs =>
      simp only [viewTags, List.flatMap_eq_nil_iff]
      intro y hy
      obtain ⟨j, hj⟩ := List.getElem?_of_mem hy
      exact flat_tags o d y (flats_get (by simpa [flat] using h) hj)
    | ref => cases h
    | ptr => cases h
    | fn => cases h
    | _ => rfl

/-! ### what is seen -/
theorem view0_rel {c : Ctx} {x : AV} {v : Value} (h : VR c x v) (S : Nat → Prop) (hS : ∀ b, c.S b → S b) : PR S c.w (view0 x) v := by
  have key : ∀ {y : AV}, PR c.S c.w y v → PR S c.w y v := fun h => h.mono hS (fun _ _ => rfl)
  cases x with
  | bool b => cases h with | data _ _ h => exact key h
  | int => cases h with | data _ _ h => exact key h
  | str => cases h with | data _ _ h => exact key h
  | nil =>
    obtain rfl := h.nil_
    exact .sl 0 [] none 0 (fun _ => undef) (Nat.le_refl _) (fun h => by omega) (fun h => absurd rfl h) (fun a j x _ hx => by simp at hx) (fun j x hx => by simp at hx) (fun j x hx => by simp at hx)
  | sl => cases h with | data _ _ h => exact key h
  | fptr => cases h with | data _ _ h => exact key h
  | nilmp => cases h with | data _ _ h => exact key h
  | nilp => cases h with | data _ _ h => exact key h
  | _ => exact .und v

theorem view_rel {c : Ctx} (hI : Inv c) (S : Nat → Prop) (hS : ∀ b, c.S b → S b) : ∀ (d : Nat) (x : AV) (v : Value), VR c x v → (∀ k r, k ∈ viewTags c.H d x → c.H k = some (.row r) → S (c.φ k)) → PR S c.w (view c.H d x) v
  | 0, x, v, h, _ => view0_rel h S hS
  | d + 1, x, v, h, ht => by
    have IH := view_rel hI S hS d
    cases x with
    | agg cs =>
      obtain ⟨vs, rfl, hl, hh, h1⟩ := h.agg_
      refine .agg _ vs (by simpa using hl) (fun j y u hy hu => ?_) h1
      rw [List.getElem?_map] at hy
      cases hx : cs[j]? with
      | none => rw [hx] at hy; cases hy
      | some x =>
        rw [hx] at hy
        simp at hy
        subst hy
        exact IH x u (hh j x u hx hu) (fun k r hk => ht k r (List.mem_flatMap.2 ⟨x, List.mem_of_getElem? hx, hk⟩))
    | tup cs =>
      obtain ⟨vs, rfl, hl, hh⟩ := h.tup_
      refine .tup _ vs (by simpa using hl) (fun j y u hy hu => ?_)
      rw [List.getElem?_map] at hy
      cases hx : cs[j]? with
      | none => rw [hx] at hy; cases hy
      | some x =>
        rw [hx] at hy
        simp at hy
        subst hy
        exact IH x u (hh j x u hx hu) (fun k r hk => ht k r (List.mem_flatMap.2 ⟨x, List.mem_of_getElem? hx, hk⟩))
    | fn f fs cs =>
      obtain ⟨us, vs, rfl, hl, hl', hh, hh'⟩ := h.fn_
      refine .fn f _ _ us vs (by simpa using hl) (by simpa using hl') (fun j y u hy hu => ?_) (fun j y u hy hu => ?_)
      · rw [List.getElem?_map] at hy
        cases hx : fs[j]? with
        | none => rw [hx] at hy; cases hy
        | some x =>
          rw [hx] at hy
          simp at hy
          subst hy
          exact IH x u (hh j x u hx hu) (fun k r hk => ht k r (List.mem_append_left _ (List.mem_flatMap.2 ⟨x, List.mem_of_getElem? hx, hk⟩)))
      · rw [List.getElem?_map] at hy
        cases hx : cs[j]? with
        | none => rw [hx] at hy; cases hy
        | some x =>
          rw [hx] at hy
          simp at hy
          subst hy
          exact IH x u (hh' j x u hx hu) (fun k r hk => ht k r (List.mem_append_right _ (List.mem_flatMap.2 ⟨x, List.mem_of_getElem? hx, hk⟩)))
    | ref k g off n =>
      obtain ⟨_, _, A, cap, rfl, hn, hA, hr⟩ := h.ref_
      simp only [view]
      split
      · rename_i r hrow
        split
        · rename_i hfit
          obtain ⟨hHk, _⟩ := aRow_some hrow
          obtain ⟨hA', _⟩ := hr r hrow
          have hcell := row_cells hI hHk off
          simp only [viewTags, hrow] at ht
          have hpos : ∀ {j : Nat} {y : AV}, ((r.cs.drop off).take (n * r.sz))[j]? = some y → 0 < n := fun {j y} hy => by
            rcases Nat.eq_zero_or_pos n with h0 | h0
            · subst h0; simp at hy
            · exact h0
          have hdrop : ∀ {j : Nat} {y : AV}, ((r.cs.drop off).take (n * r.sz))[j]? = some y → (r.cs.drop off)[j]? = some y := fun {j y} hy => by
            have := (List.getElem?_eq_some_iff.1 hy).1
            rw [List.getElem?_take_of_lt (by simp at this; omega)] at hy
            exact hy
          have hvs : ∀ (j : Nat), ∃ u : Value, ∀ (y : AV), ((r.cs.drop off).take (n * r.sz))[j]? = some y → c.w.cell? ((⟨c.φ k, off, none⟩ : Addr).add j) = some u ∧ u.oneCell' = true ∧ VR c y u := fun j => by
            cases hy : ((r.cs.drop off).take (n * r.sz))[j]? with
            | none => exact ⟨undef, fun y h => by cases h⟩
            | some y =>
              obtain ⟨u, hu⟩ := hcell j y (hdrop hy)
              exact ⟨u, fun y' h => by injection h with h; subst h; exact hu⟩
          have hmap : ∀ {j : Nat} {x : AV}, (((r.cs.drop off).take (n * r.sz)).map (view c.H d))[j]? = some x → ∃ y, ((r.cs.drop off).take (n * r.sz))[j]? = some y ∧ x = view c.H d y := fun {j x} hx => by
            rw [List.getElem?_map] at hx
            cases hy : ((r.cs.drop off).take (n * r.sz))[j]? with
            | none => rw [hy] at hx; cases hx
            | some y => rw [hy] at hx; simp at hx; exact ⟨y, rfl, hx.symm⟩
          refine .sl n _ A cap (fun j => (hvs j).choose) hn (fun h0 => hA (.inr h0)) (fun hne => ?_) (fun a j x ha hx => ?_) (fun j x hx => ?_) (fun j x hx => ?_)
          · have : 0 < n := by
              rcases Nat.eq_zero_or_pos n with h0 | h0
              · subst h0; simp at hne
              · exact h0
            exact ⟨_, hA' (.inr this), ht k r (List.mem_cons_self ..) hHk⟩
          · obtain ⟨y, hy, rfl⟩ := hmap hx
            rw [hA' (.inr (hpos hy))] at ha
            injection ha with ha
            subst ha
            exact ((hvs j).choose_spec y hy).1
          · obtain ⟨y, hy, rfl⟩ := hmap hx
            exact ((hvs j).choose_spec y hy).2.1
          · obtain ⟨y, hy, rfl⟩ := hmap hx
            exact IH y _ ((hvs j).choose_spec y hy).2.2 (fun k' r' hk' => ht k' r' (List.mem_cons_of_mem _ (List.mem_flatMap.2 ⟨y, List.mem_of_getElem? hy, hk'⟩)))
        · exact .und _
      · exact .und _
    | und => exact view0_rel h S hS
    | bool => exact view0_rel h S hS
    | int => exact view0_rel h S hS
    | str => exact view0_rel h S hS
    | nil => exact view0_rel h S hS
    | sl => exact view0_rel h S hS
    | fptr => exact view0_rel h S hS
    | ptr k g off =>
      obtain ⟨_, _, a, rfl, hr⟩ := h.ptr_
      simp only [view]
      split
      · rename_i r hrow
        obtain ⟨hHk, _⟩ := aRow_some hrow
        obtain rfl := hr r hrow
        have hcell := row_cells hI hHk off
        simp only [viewTags, hrow] at ht
        have hvs : ∀ (j : Nat), ∃ u : Value, ∀ (y : AV), (r.cs.drop off)[j]? = some y → c.w.cell? ((⟨c.φ k, off, none⟩ : Addr).add j) = some u ∧ u.oneCell' = true ∧ VR c y u := fun j => by
          cases hy : (r.cs.drop off)[j]? with
          | none => exact ⟨undef, fun y h => by cases h⟩
          | some y =>
            obtain ⟨u, hu⟩ := hcell j y hy
            exact ⟨u, fun y' h => by injection h with h; subst h; exact hu⟩
        have hmap : ∀ {j : Nat} {x : AV}, ((r.cs.drop off).map (view c.H d))[j]? = some x → ∃ y, (r.cs.drop off)[j]? = some y ∧ x = view c.H d y := fun {j x} hx => by
          rw [List.getElem?_map] at hx
          cases hy : (r.cs.drop off)[j]? with
          | none => rw [hy] at hx; cases hx
          | some y => rw [hy] at hx; simp at hx; exact ⟨y, rfl, hx.symm⟩
        refine .fptr _ _ (fun j => (hvs j).choose) (fun _ => ht k r (List.mem_cons_self ..) hHk) (fun j x hx => ?_) (fun j x hx => ?_) (fun j x hx => ?_)
        · obtain ⟨y, hy, rfl⟩ := hmap hx
          exact ((hvs j).choose_spec y hy).1
        · obtain ⟨y, hy, rfl⟩ := hmap hx
          exact ((hvs j).choose_spec y hy).2.1
        · obtain ⟨y, hy, rfl⟩ := hmap hx
          exact IH y _ ((hvs j).choose_spec y hy).2.2 (fun k' r' hk' => ht k' r' (List.mem_cons_of_mem _ (List.mem_flatMap.2 ⟨y, List.mem_of_getElem? hy, hk'⟩)))
      · exact .und _
    | mp => exact view0_rel h S hS
    | nilmp => exact view0_rel h S hS
    | nilp => exact view0_rel h S hS

/-! ### calls -/
def EnterOk (P : Program) (g : FuncId) : Prop := ∃ fn, P.funcs[g]? = some fn ∧ (fn.name == "runtime.NumGoroutine") = false ∧ fn.body.isNone = false
/-- What a call on data hands back: data, and nothing of old is written. -/
def RetP (S : Nat → Prop) (w : World) (r : AV) : Ending → World → Prop := fun e w' => ∃ v S', e = .returned v ∧ RowKit.Below w.heap.size w w' ∧ PR S' w' r v ∧ (∀ b, S b → S' b) ∧ ∀ b, S' b → (S b ∨ w.heap.size ≤ b) ∧ b < w'.heap.size
def CPSound (P : Program) (cp : CallP) : Prop := ∀ g args r, cp g args = some r → EnterOk P g ∧ ∀ (S : Nat → Prop) (w : World) (cargs : List Value), LR (PR S w) args cargs → (∀ b, S b → b < w.heap.size) → Gl S w → Calls P g cargs.toArray w (RetP S w r)
def RetR (c : Ctx) (nx nx' : Nat) (Ho : Tag → Option AObj) (v : AV) : Ending → World → Prop := fun e w' => ∃ u c', e = .returned u ∧ c'.w = w' ∧ Inv c' ∧ Step c c' ∧ c'.H = Ho ∧ VR c' v u ∧ ∀ t, c'.T t → c.T t ∨ (nx ≤ t.1 ∧ t.1 < nx')
def CRSound (P : Program) (cr : CallR) : Prop := ∀ g args H v H', cr g args H = some (v, H') → EnterOk P g ∧ H.nx ≤ H'.nx ∧ ∀ (c : Ctx) (cargs : List Value), Inv c → c.H = H.o → (∀ t, c.T t → t.1 < H.nx) → LR (VR c) args cargs → Calls P g cargs.toArray c.w (RetR c H.nx H'.nx H'.o v)

/-- A context with more that nobody writes. -/
def Ctx.wide (c : Ctx) (S : Nat → Prop) (w : World) : Ctx := { c with S := S, w := w }
theorem step_below {c : Ctx} (hI : Inv c) {w : World} (hb : RowKit.Below c.w.heap.size c.w w) (S : Nat → Prop) (hS : ∀ b, c.S b → S b) (hS' : ∀ b, S b → (c.S b ∨ c.w.heap.size ≤ b) ∧ b < w.heap.size) : Inv (c.wide S w) ∧ Step c (c.wide S w) := by
  have m : Mono c (c.wide S w) := by
    refine ⟨hS, fun b hs => hb.block b (hI.imm b hs), fun _ h => h, fun k r h => .inl ⟨r, h, rfl, rfl, rfl, fun cells e m hc => ⟨cells, e, m, ?_, Nat.le_refl _⟩⟩, fun _ es h => .inl ⟨es, h, rfl⟩⟩
    rw [← hc]
    exact (hb.block _ (hI.lt h)).symm
  refine ⟨⟨fun b h => (hS' b h).2, fun k r hr => ?_, fun k es hes => ?_, hI.inj, hI.gl.mono m.S m.blk⟩, ⟨hb.os, hb.tape, hb.output, hb.size, fun b h _ => hb.block b h, m, fun b h => ?_, fun k h => .inr ⟨k, h, rfl⟩⟩⟩
  · obtain ⟨h1, h2, h3, h4, cells, mk, hc, hp, hm, hl, hx⟩ := hI.row k r hr
    refine ⟨h1, h2, fun h => hS _ (h3 h), fun h hs => ?_, cells, mk, ?_, hp, hm, hl, fun j x hj => ?_⟩
    · rcases (hS' _ hs).1 with h' | h'
      · exact h4 h h'
      · have := hI.lt hr
        exact absurd h' (by simp only [Ctx.wide]; omega)
    · rw [← hc]
      exact hb.block _ (hI.lt hr)
    · obtain ⟨u, hu1, hu2, hu3⟩ := hx j x hj
      exact ⟨u, hu1, hu2, hu3.mono m⟩
  · obtain ⟨h1, h2, en, cl, hc, hl, hx⟩ := hI.map k es hes
    refine ⟨h1, fun hs => ?_, en, cl, ?_, hl, fun j x e hj he => ?_⟩
    · rcases (hS' _ hs).1 with h' | h'
      · exact h2 h'
      · have := hI.lt hes
        exact absurd h' (by simp only [Ctx.wide]; omega)
    · rw [← hc]
      exact hb.block _ (hI.lt hes)
    · obtain ⟨a, b⟩ := hx j x e hj he
      exact ⟨a.mono m, b.mono m⟩
  · rcases (hS' b h).1 with h' | h'
    · exact .inl h'
    · exact .inr (.inl h')

/-- A pure call: what the continuation is handed. -/
theorem pure_call {P : Program} {c : Ctx} (hI : Inv c) {cp : CallP} (hP : CPSound P cp) {g : FuncId} {as_ : List AV} {cargs : List Value} {sc : Bool} {r v : AV} {H H' : AH} (hH : c.H = H.o) (hr : cp g (as_.map (view H.o vDepth)) = some r)
    (hf : freezeP sc as_ r H = some (v, H')) (ha : LR (VR c) as_ cargs) : EnterOk P g ∧ H'.nx = H.nx ∧ Calls P g cargs.toArray c.w (RetR c H.nx H'.nx H'.o v) := by
  obtain ⟨hE, hcall⟩ := hP g _ r hr
  refine ⟨hE, ?_, ?_⟩
  · unfold freezeP at hf
    split at hf
    · split at hf
      · injection hf with hf; injection hf with h1 h2; rw [← h2]
      · cases hf
    · injection hf with hf; injection hf with h1 h2; rw [← h2]
  let ts := as_.flatMap (viewTags H.o vDepth)
  obtain ⟨i1, s1⟩ := shut_rows hI ts
  have hargs : LR (PR (c.shut ts).S c.w) (as_.map (view H.o vDepth)) cargs := ha.imp fun x v' hx hv => by
    rw [← hH]
    refine view_rel hI _ s1.mono.S vDepth x v' hv (fun k rr hk hrow => ?_)
    exact .inr ⟨k, rr, List.mem_flatMap.2 ⟨x, hx, by rw [← hH]; exact hk⟩, hrow, rfl⟩
  refine (hcall (c.shut ts).S c.w cargs hargs i1.imm i1.gl).mono ?_
  rintro e w' ⟨u, S', rfl, hb, hpr, hS1, hS2⟩
  unfold freezeP at hf
  split at hf
  · split at hf
    · rename_i hfl
      injection hf with hf
      injection hf with h1 h2
      subst h1; subst h2
      obtain ⟨i2, s2⟩ := step_below hI hb c.S (fun _ h => h) (fun b h => ⟨.inl h, Nat.lt_of_lt_of_le (hI.imm b h) hb.size⟩)
      exact ⟨u, c.wide c.S w', rfl, rfl, i2, s2, hH, .data _ _ (hpr.flat _ _ hfl), fun t ht => .inl ht⟩
    · cases hf
  · injection hf with hf
    injection hf with h1 h2
    subst h1; subst h2
    obtain ⟨i2, s2⟩ := step_below (c := c.shut ts) i1 hb S' hS1 hS2
    refine ⟨u, (c.shut ts).wide S' w', rfl, rfl, i2, s1.trans s2, ?_, .data _ _ hpr, fun t ht => .inl ht⟩
    show sealed ts c.H = _
    rw [hH]

theorem raw_call {P : Program} {c : Ctx} (hI : Inv c) {cr : CallR} (hR : CRSound P cr) {g : FuncId} {as_ : List AV} {cargs : List Value} {frz : Bool} {r : AV} {H H1 : AH} (hH : c.H = H.o) (hnx : ∀ t, c.T t → t.1 < H.nx) (hr : cr g as_ H = some (r, H1))
    (ha : LR (VR c) as_ cargs) : EnterOk P g ∧ H.nx ≤ (freezeR frz r H1).2.nx ∧ Calls P g cargs.toArray c.w (RetR c H.nx (freezeR frz r H1).2.nx (freezeR frz r H1).2.o (freezeR frz r H1).1) := by
  obtain ⟨hE, hle, hcall⟩ := hR g as_ H r H1 hr
  have hnx1 : (freezeR frz r H1).2.nx = H1.nx := by
    unfold freezeR
    split
    · dsimp only
      split <;> rfl
    · rfl
  rw [hnx1]
  refine ⟨hE, hle, (hcall c cargs hI hH hnx ha).mono ?_⟩
  rintro e w' ⟨u, c', rfl, rfl, i', s', hH', hv, hT⟩
  unfold freezeR
  split
  · dsimp only
    split
    · rename_i hfl
      refine ⟨u, c', rfl, rfl, i', s', hH', .data _ _ ?_, hT⟩
      rw [← hH']
      exact view_rel i' _ (fun _ h => h) vDepth r u hv (fun k rr hk => by rw [flat_tags _ _ _ hfl] at hk; cases hk)
    · obtain ⟨i2, s2⟩ := shut_rows i' (viewTags H1.o vDepth r)
      refine ⟨u, c'.shut (viewTags H1.o vDepth r), rfl, rfl, i2, s'.trans s2, by show sealed _ c'.H = _; rw [hH'], .data _ _ ?_, hT⟩
      have key := view_rel i' (c'.shut (viewTags H1.o vDepth r)).S s2.mono.S vDepth r u hv (fun k rr hk hrow => .inr ⟨k, rr, by rw [← hH']; exact hk, hrow, rfl⟩)
      rw [hH'] at key
      exact key
  · exact ⟨u, c', rfl, rfl, i', s', hH', hv, hT⟩

end Go.Proofs.YtpmjpogcaglphaaDoor.A
/- A, part M: maps. -/
namespace Go.Proofs.YtpmjpogcaglphaaDoor.A
open Go Go.MapKept

section
variable {P : Program} {c : Ctx} {N : Tag → Prop}
theorem makeMap_rel {t : Tag} (hI : Inv c) (ht : ¬ c.T t) {ty : TypeId} {H : AH} (hH : c.H = H.o) (hN : N t) : Does P c N (Instr.makeMap ty none) (.mp t) (upd H.o t (.map [])) := by
  refine ⟨.map (some c.w.heap.size), c.new t (.map []) (.map #[] 0), ?_, inv_new hI t ht _ _ (fun r hr => by cases hr) ⟨rfl, rfl⟩, step_new hI t ht _ _ (fun r hr => by cases hr), by simp [Ctx.new, hH], fun u hu => hu.imp id (fun e => by rw [e]; exact hN), .mp t _ (.inr rfl) rfl (fun es _ => by simp [Ctx.new])⟩
  simp [Instr.makeMap, newObj, Ctx.new, Sem.run, Result.andThen]
theorem eqKey_int {k : IntKind} {n : Int} {q : AV} {b : Bool} (h : eqKey (.int k n) q = some b) : ∃ n', q = .int k n' ∧ (b = true ↔ n = n') := by
  cases q <;> simp only [eqKey] at h <;> try cases h
  rename_i k' n'
  split at h
  · rename_i e
    subst e
    injection h with h
    exact ⟨n', rfl, by rw [← h]; simp⟩
  · cases h
theorem eqKey_str {s : List UInt8} {q : AV} {b : Bool} (h : eqKey (.str s) q = some b) : ∃ s', q = .str s' ∧ (b = true ↔ s = s') := by
  cases q <;> simp only [eqKey] at h <;> try cases h
  rename_i s'
  exact ⟨s', rfl, by simp⟩
theorem eqKey_pair {x y : Int} {q : AV} {b : Bool} (h : eqKey (.agg [.int .i64 x, .int .i64 y]) q = some b) : ∃ x' y', q = .agg [.int .i64 x', .int .i64 y'] ∧ (b = true ↔ x = x' ∧ y = y') := by
  unfold eqKey at h
  split at h
  · rename_i e; cases e
  · rename_i e; cases e
  · rename_i x1 y1 x2 y2 e
    simp only [AV.agg.injEq, List.cons.injEq, AV.int.injEq, true_and, and_true] at e
    obtain ⟨rfl, rfl⟩ := e
    injection h with h
    exact ⟨x2, y2, rfl, by rw [← h]; simp⟩
  · cases h
theorem pair_val {x y : Int} {v : Value} (h : VR c (.agg [.int .i64 x, .int .i64 y]) v) : v = .agg #[.int .i64 x, .int .i64 y] := by
  obtain ⟨vs, rfl, hl, hv, _⟩ := h.agg_
  obtain ⟨l⟩ := vs
  match l, hl with
  | [u, w], _ =>
    have h1 := (hv 0 _ u rfl rfl).int_
    have h2 := (hv 1 _ w rfl rfl).int_
    rw [h1, h2]
theorem pair_cells (x y : Int) : Cells c [.int .i64 x, .int .i64 y] #[.int .i64 x, .int .i64 y] := ⟨rfl, fun j a u ha hu => by
  match j with
  | 0 => simp at ha hu; rw [← ha, ← hu]; exact VR.int ..
  | 1 => simp at ha hu; rw [← ha, ← hu]; exact VR.int ..
  | j + 2 => simp at ha⟩
theorem pairKey_of {kt : TypeId} (h : pairKey P kt = true) : ∃ e, P.underlying kt = some (.array 2 e) ∧ P.underlying e = some (.int .i64) ∧ tSize P e = some 1 ∧ tAgg P e = some false ∧ tAgg P kt = some true ∧ eqLeaves P kt = some [.int, .int] := by
  unfold pairKey at h
  split at h
  · rename_i n e hu
    simp only [Bool.and_eq_true, beq_iff_eq, decide_eq_true_eq] at h
    obtain ⟨⟨⟨⟨⟨h1, h2⟩, h3⟩, h4⟩, h5⟩, h6⟩ := h
    subst h1
    refine ⟨e, hu, ?_, h3, h4, h5, ?_⟩
    · unfold isI64 at h2
      split at h2
      · assumption
      · cases h2
    · unfold twoInts at h6
      split at h6
      · assumption
      · cases h6
  · cases h
theorem pair_equal (c : Ctx) {kt : TypeId} (h : pairKey P kt = true) (x y x' y' : Int) (w : World) : (Op.equal kt (.agg #[.int .i64 x, .int .i64 y]) (.agg #[.int .i64 x', .int .i64 y'])).run P w = .ok (x == x' && y == y') w := by
  obtain ⟨e, hu, he, hs, ha, hak, hl⟩ := pairKey_of h
  unfold eqLeaves at hl
  split at hl
  · cases hl
  · (first | rw [if_pos hak] at hl | skip)
    obtain ⟨_, _, heq⟩ := leafs_rel (P := P) 20 kt _ hl
    have := heq 10000 (by omega) c [.int .i64 x, .int .i64 y] [.int .i64 x', .int .i64 y'] _ _ (x == x' && y == y') w (.inl ⟨hak, _, rfl, pair_cells x y⟩) (.inl ⟨hak, _, rfl, pair_cells x' y'⟩) (by simp [eqLeafs, eqLeaf])
    exact this
theorem pair_check (c : Ctx) {kt : TypeId} (h : pairKey P kt = true) (x y : Int) (em : Bool) (w : World) : (Instr.checkKey em 10000 kt (.agg #[.int .i64 x, .int .i64 y])).run P w = .ok () w := by
  obtain ⟨e, hu, he, hs, ha, hak, hl⟩ := pairKey_of h
  obtain ⟨u, p1, _⟩ := part_TV (P := P) (pair_cells (c := c) x y) (off := 0) ha hs (by simp) (fun _ => rfl) w
  obtain ⟨v, p2, _⟩ := part_TV (P := P) (pair_cells (c := c) x y) (off := 1) ha hs (by simp) (fun _ => rfl) w
  have q : ∀ a : Value, (Instr.checkKey em 9999 e a).run P w = .ok () w := fun a => by
    rw [show (9999 : Nat) = 9998 + 1 from rfl, Instr.checkKey]
    simp only [Sem.run_bind, run_underlying he, Result.andThen_ok]
    rfl
  rw [show (10000 : Nat) = 9999 + 1 from rfl, Instr.checkKey]
  simp only [Sem.run_bind, run_underlying hu, Result.andThen_ok]
  simp only [Std.Legacy.Range.forIn_eq_forIn_range', Std.Legacy.Range.size, Nat.sub_zero, Nat.add_one_sub_one, Nat.div_one, List.range'_succ, List.range'_zero]
  simp [tSize_run hs, p1, p2, q]
theorem pair_stays (x y : Int) (w : World) : (Instr.keyThatStays (.agg #[.int .i64 x, .int .i64 y]) (.agg #[.int .i64 x, .int .i64 y])).run P w = .ok (.agg #[.int .i64 x, .int .i64 y]) w := by
  unfold Instr.keyThatStays
  rw [show (10000 : Nat) = 9999 + 1 from rfl]
  simp [Instr.sameBits]
theorem asking_none {kt : TypeId} {kv : Value} {w : World} : ∀ (l : List MapEntry) (i : Nat), (∀ e ∈ l, (Op.equal kt kv e.key).run P w = .ok false w) → (Instr.findAsking kt kv l i).run P w = .ok none w
  | [], _, _ => by simp [Instr.findAsking]
  | e :: l, i, h => by
    have h1 := h e (.head _)
    have ih := asking_none l (i + 1) (fun x hx => h x (.tail _ hx))
    simp [Instr.findAsking, h1, ih]
theorem asking_at {kt : TypeId} {kv : Value} {w : World} : ∀ (l : List MapEntry) (j i : Nat) (e : MapEntry), l[j]? = some e → (Op.equal kt kv e.key).run P w = .ok true w → (∀ i' x, i' < j → l[i']? = some x → (Op.equal kt kv x.key).run P w = .ok false w) → (Instr.findAsking kt kv l i).run P w = .ok (some (i + j, e.val)) w
  | [], j, i, e, h, _, _ => by simp at h
  | x :: l, 0, i, e, h, he, _ => by
    simp only [List.getElem?_cons_zero, Option.some.injEq] at h
    subst h
    simp [Instr.findAsking, he]
  | x :: l, j + 1, i, e, h, he, hn => by
    have hx := hn 0 x (by omega) rfl
    have ih := asking_at l j (i + 1) e (by simpa using h) he (fun i' y hi hy => hn (i' + 1) y (by omega) (by simpa using hy))
    simp only [Instr.findAsking, Sem.run_bind, hx, Result.andThen_ok, Bool.false_eq_true, if_false, ih]
    rw [show i + 1 + j = i + (j + 1) by omega]
/-- A key, in the machine. -/
theorem keyOk_is {kt : TypeId} {k : AV} {kv : Value} (h : keyOk P kt k = true) (hk : VR c k kv) : (∃ d, P.underlying kt = some d ∧ IsKey d kv ∧ ∀ q b, eqKey k q = some b → ∀ qv, VR c q qv → IsKey d qv ∧ (b = true ↔ qv = kv)) ∨ (pairKey P kt = true ∧ ∃ x y, k = .agg [.int .i64 x, .int .i64 y] ∧ kv = .agg #[.int .i64 x, .int .i64 y]) := by
  unfold keyOk at h
  split at h
  · rename_i d d' n hu
    rw [decide_eq_true_eq] at h
    subst h
    obtain rfl := hk.int_
    refine .inl ⟨_, hu, by simp [IsKey], fun q b hq qv hqv => ?_⟩
    obtain ⟨n', rfl, hb⟩ := eqKey_int hq
    obtain rfl := hqv.int_
    refine ⟨by simp [IsKey], hb.trans ?_⟩
    simp only [Value.int.injEq, true_and]
    exact eq_comm
  · rename_i s hu
    obtain rfl := hk.str_
    refine .inl ⟨_, hu, trivial, fun q b hq qv hqv => ?_⟩
    obtain ⟨s', rfl, hb⟩ := eqKey_str hq
    obtain rfl := hqv.str_
    refine ⟨trivial, hb.trans ?_⟩
    simp only [Value.string.injEq, ByteArray.mk.injEq, Array.mk.injEq]
    exact eq_comm
  · exact .inr ⟨h, _, _, rfl, pair_val hk⟩
  · cases h
theorem findA_all {k : AV} : ∀ {es : List (AV × AV)} {r : Option AV}, findA k es = some r → ∀ x ∈ es, ∃ b, eqKey k x.1 = some b
  | [], _, _, x, hx => by cases hx
  | (q, v) :: es, r, h, x, hx => by
    unfold findA at h
    rcases List.mem_cons.1 hx with rfl | hx
    · cases he : eqKey k q with
      | none => rw [he] at h; cases h
      | some b => exact ⟨b, rfl⟩
    · split at h
      · rename_i h2; exact findA_all h2 x hx
      · rename_i h2; exact findA_all h2 x hx
      · cases h
theorem findA_none {k : AV} : ∀ {es : List (AV × AV)}, findA k es = some none → (∀ x ∈ es, eqKey k x.1 = some false) ∧ ∀ v, putA k v es = es ++ [(k, v)]
  | [], _ => ⟨fun x hx => (by cases hx), fun v => rfl⟩
  | (q, u) :: es, h => by
    unfold findA at h
    split at h
    · cases h
    · rename_i h1 h2
      injection h with h
      rw [h] at h2
      obtain ⟨g1, g2⟩ := findA_none h2
      refine ⟨fun x hx => ?_, fun v => ?_⟩
      · rcases List.mem_cons.1 hx with rfl | hx
        · exact h1
        · exact g1 x hx
      · rw [putA, if_neg (by rw [h1]; simp), g2 v]; rfl
    · cases h
theorem findA_some {k : AV} : ∀ {es : List (AV × AV)} {v : AV}, findA k es = some (some v) → ∃ j q, es[j]? = some (q, v) ∧ eqKey k q = some true ∧ (∀ i x, i < j → es[i]? = some x → eqKey k x.1 = some false) ∧ ∀ v', putA k v' es = es.set j (k, v')
  | [], v, h => by cases h
  | (q, u) :: es, v, h => by
    unfold findA at h
    split at h
    · rename_i h1 h2
      injection h with h; injection h with h
      subst h
      exact ⟨0, q, rfl, h1, fun i x hi => by omega, fun v' => by rw [putA, if_pos h1]; rfl⟩
    · rename_i h1 h2
      injection h with h
      rw [h] at h2
      obtain ⟨j, q', e1, e2, e3, e4⟩ := findA_some h2
      refine ⟨j + 1, q', by simpa using e1, e2, fun i x hi hx => ?_, fun v' => ?_⟩
      · cases i with
        | zero => simp only [List.getElem?_cons_zero, Option.some.injEq] at hx; subst hx; exact h1
        | succ i => exact e3 i x (by omega) (by simpa using hx)
      · rw [putA, if_neg (by rw [h1]; simp), e4 v']; rfl
    · cases h
theorem findNow_at {d : TypeDesc} {k : Value} (hk : IsKey d k) : ∀ (l : List MapEntry) (j i : Nat) (e : MapEntry), (∀ x ∈ l, IsKey d x.key) → l[j]? = some e → e.key = k → (∀ i' x, i' < j → l[i']? = some x → x.key ≠ k) → Instr.findNow d k l i = some (some (i + j, e.val))
  | [], j, i, e, _, h, _, _ => by simp at h
  | x :: l, 0, i, e, ha, h, he, _ => by
    obtain ⟨r, hr, hiff⟩ := sameNow_of_keys hk (ha x (.head _))
    simp only [List.getElem?_cons_zero, Option.some.injEq] at h
    subst h
    have : r = true := hiff.2 he.symm
    subst this
    simp [Instr.findNow, hr]
  | x :: l, j + 1, i, e, ha, h, he, hn => by
    obtain ⟨r, hr, hiff⟩ := sameNow_of_keys hk (ha x (.head _))
    have hx := hn 0 x (by omega) rfl
    have : r = false := by
      cases r with
      | false => rfl
      | true => exact absurd (hiff.1 rfl).symm hx
    subst this
    have ih := findNow_at hk l j (i + 1) e (fun y hy => ha y (.tail _ hy)) (by simpa using h) he (fun i' y hi hy => hn (i' + 1) y (by omega) (by simpa using hy))
    simp only [Instr.findNow, hr, ih]
    congr 3
    omega
/-- Where a key is found. -/
theorem find_pos {k : AV} {kv : Value} (hq : ∀ q b, eqKey k q = some b → ∀ qv, VR c q qv → (b = true ↔ qv = kv)) {es : List (AV × AV)} {en : Array MapEntry} (hl : en.size = es.length)
    (hx : ∀ (j : Nat) (x : AV × AV) (e : MapEntry), es[j]? = some x → en[j]? = some e → VR c x.1 e.key ∧ VR c x.2 e.val) {r : Option AV} (hr : findA k es = some r) :
    (r = none ∧ ∀ e ∈ en.toList, e.key ≠ kv) ∨ ∃ v j e, r = some v ∧ en.toList[j]? = some e ∧ e.key = kv ∧ VR c v e.val ∧ (∀ i x, i < j → en.toList[i]? = some x → x.key ≠ kv) ∧ ∀ v', putA k v' es = es.set j (k, v') := by
  cases r with
  | none =>
    refine .inl ⟨rfl, fun e he h3 => ?_⟩
    obtain ⟨j, hj', rfl⟩ := List.getElem_of_mem he
    have hj : j < es.length := by rw [← hl]; simpa using hj'
    obtain ⟨a, _⟩ := hx j es[j] en.toList[j] (by simp [hj]) (by simp [show j < en.size by simpa using hj'])
    have hb := (findA_none hr).1 es[j] (List.getElem_mem ..)
    have := (hq _ _ hb _ a).2 h3
    cases this
  | some v =>
    obtain ⟨j, q, e1, e2, e3, e4⟩ := findA_some hr
    have hj : j < en.size := by rw [hl]; exact (List.getElem?_eq_some_iff.1 e1).1
    obtain ⟨a, b⟩ := hx j (q, v) en[j] e1 (by simp [hj])
    have hkj := (hq _ _ e2 _ a).1 rfl
    refine .inr ⟨v, j, en[j], rfl, by simp [hj], hkj, b, fun i x hi hxx => ?_, e4⟩
    have hie : i < es.length := by omega
    obtain ⟨a', _⟩ := hx i es[i] x (by simp [hie]) (by simpa using hxx)
    have hb := e3 i es[i] hi (by simp [hie])
    intro he
    have := (hq _ _ hb _ a').2 he
    cases this
/-- Where a key is found, in the machine. -/
theorem find_run {kt : TypeId} {k : AV} {kv : Value} (w : World) (h : keyOk P kt k = true) (hk : VR c k kv) {es : List (AV × AV)} {en : Array MapEntry} (hl : en.size = es.length)
    (hx : ∀ (j : Nat) (x : AV × AV) (e : MapEntry), es[j]? = some x → en[j]? = some e → VR c x.1 e.key ∧ VR c x.2 e.val) {r : Option AV} (hr : findA k es = some r) :
    (∀ em, (Instr.checkKey em 10000 kt kv).run P w = .ok () w) ∧ (Instr.keyThatStays kv kv).run P w = .ok kv w ∧ ((r = none ∧ (Instr.findKey kt kv en.toList).run P w = .ok none w) ∨ ∃ v j e, r = some v ∧ (Instr.findKey kt kv en.toList).run P w = .ok (some (j, e.val)) w ∧ en[j]? = some e ∧ e.key = kv ∧ VR c v e.val ∧ ∀ v', putA k v' es = es.set j (k, v')) := by
  have hentry : ∀ e ∈ en.toList, ∃ x ∈ es, VR c x.1 e.key ∧ ∃ b, eqKey k x.1 = some b := fun e he => by
    obtain ⟨j, hj, rfl⟩ := List.getElem_of_mem he
    have hj' : j < es.length := by rw [← hl]; simpa using hj
    obtain ⟨a, _⟩ := hx j es[j] en.toList[j] (by simp [hj']) (by simp [show j < en.size by simpa using hj])
    exact ⟨es[j], List.getElem_mem .., a, findA_all hr es[j] (List.getElem_mem ..)⟩
  rcases keyOk_is h hk with ⟨d, hu, hkey, hq⟩ | ⟨hp, x, y, rfl, rfl⟩
  · refine ⟨fun em => Go.MapKept.run_checkKey hu hkey em 9999, Go.MapKept.run_keyThatStays hkey, ?_⟩
    have hall : ∀ x ∈ en.toList, IsKey d x.key := fun e he => by
      obtain ⟨x, _, h1, b, h2⟩ := hentry e he
      exact (hq _ b h2 _ h1).1
    rcases find_pos (fun q b h1 qv h2 => (hq q b h1 qv h2).2) hl hx hr with ⟨rfl, h1⟩ | ⟨v, j, e, rfl, h1, h2, h3, h4, h5⟩
    · refine .inl ⟨rfl, ?_⟩
      rcases findNow_spec hkey en.toList 0 hall with ⟨g1, _⟩ | ⟨j, e, g1, g2, g3⟩
      · exact Go.MapKept.run_findKey hu g1
      · exact absurd g3 (h1 e (List.mem_of_getElem? g2))
    · refine .inr ⟨v, j, e, rfl, ?_, by simpa using h1, h2, h3, h5⟩
      have := findNow_at hkey en.toList j 0 e hall h1 h2 h4
      exact Go.MapKept.run_findKey hu (by simpa using this)
  · refine ⟨fun em => pair_check c hp x y em w, pair_stays x y w, ?_⟩
    have hq : ∀ q b, eqKey (.agg [.int .i64 x, .int .i64 y]) q = some b → ∀ qv, VR c q qv → ∃ x' y', qv = .agg #[.int .i64 x', .int .i64 y'] ∧ (b = true ↔ x = x' ∧ y = y') := fun q b h1 qv h2 => by
      obtain ⟨x', y', rfl, hb⟩ := eqKey_pair h1
      exact ⟨x', y', pair_val h2, hb⟩
    obtain ⟨e, hu, _⟩ := pairKey_of hp
    rw [run_findKey_eq w (by rw [hu])]
    have heq : ∀ e ∈ en.toList, ∃ x' y', e.key = .agg #[.int .i64 x', .int .i64 y'] ∧ (Op.equal kt (.agg #[.int .i64 x, .int .i64 y]) e.key).run P w = .ok (x == x' && y == y') w := fun e he => by
      obtain ⟨z, _, h1, b, h2⟩ := hentry e he
      obtain ⟨x', y', h3, _⟩ := hq _ b h2 _ h1
      exact ⟨x', y', h3, by rw [h3]; exact pair_equal c hp x y x' y' w⟩
    have hne : ∀ e ∈ en.toList, e.key ≠ .agg #[.int .i64 x, .int .i64 y] → (Op.equal kt (.agg #[.int .i64 x, .int .i64 y]) e.key).run P w = .ok false w := fun e he hn => by
      obtain ⟨x', y', h3, h4⟩ := heq e he
      rw [h4]
      have : (x == x' && y == y') = false := by
        rw [← Bool.not_eq_true]
        intro hh
        simp only [Bool.and_eq_true, beq_iff_eq] at hh
        exact hn (by rw [h3, hh.1, hh.2])
      rw [this]
    rcases find_pos (k := .agg [.int .i64 x, .int .i64 y]) (kv := .agg #[.int .i64 x, .int .i64 y]) (fun q b h1 qv h2 => by
      obtain ⟨x', y', h3, h4⟩ := hq q b h1 qv h2
      rw [h3, h4]
      simp only [Value.agg.injEq, Array.mk.injEq, List.cons.injEq, Value.int.injEq, true_and, and_true]
      exact ⟨fun h => ⟨h.1.symm, h.2.symm⟩, fun h => ⟨h.1.symm, h.2.symm⟩⟩) hl hx hr with ⟨rfl, h1⟩ | ⟨v, j, e, rfl, h1, h2, h3, h4, h5⟩
    · exact .inl ⟨rfl, asking_none _ 0 (fun e he => hne e he (h1 e he))⟩
    · refine .inr ⟨v, j, e, rfl, ?_, by simpa using h1, h2, h3, h5⟩
      have := asking_at (P := P) (kt := kt) (kv := .agg #[.int .i64 x, .int .i64 y]) (w := w) en.toList j 0 e h1 (by rw [h2, pair_equal c hp]; simp) (fun i z hi hz => hne z (List.mem_of_getElem? hz) (h4 i z hi hz))
      simpa using this
theorem lookup_run {t kt et : TypeId} {mv kv zv : Value} {ok : Bool} {en : Array MapEntry} {w : World} (hu : P.underlying t = some (.map kt et)) (hes : mv = .map none ∧ en = #[] ∨ ∃ g cl, mv = .map (some g) ∧ w.heap[g]? = some (.map en cl)) (hc : ∀ em, (Instr.checkKey em 10000 kt kv).run P w = .ok () w) {r : Option (Nat × Value)} (hf : (Instr.findKey kt kv en.toList).run P w = .ok r w) (hz : (zeroValue et).run P w = .ok zv w) :
    (Instr.lookup t mv kv ok).run P w = .ok (match r with | some (_, v) => (if ok then .tuple #[v, .bool true] else v) | none => (if ok then .tuple #[zv, .bool false] else zv)) w := by
  rcases hes with ⟨rfl, rfl⟩ | ⟨g, cl, rfl, hb⟩
  · rcases r with _ | ⟨j, v⟩ <;> simp [Instr.lookup, run_underlying hu, hc, hf, hz, Result.andThen]
  · rcases r with _ | ⟨j, v⟩ <;> simp [Instr.lookup, run_underlying hu, Go.MapKept.run_getObj_map hb, hc, hf, hz, Result.andThen]
theorem pair_rel {x y : AV} {u v : Value} (h1 : VR c x u) (h2 : VR c y v) : VR c (.tup [x, y]) (.tuple #[u, v]) := .tup _ _ rfl (fun i a b ha hb => by
  match i with
  | 0 => simp at ha hb; rw [← ha, ← hb]; exact h1
  | 1 => simp at ha hb; rw [← ha, ← hb]; exact h2
  | i + 2 => simp at ha)
theorem lookup_rel (hI : Inv c) {t : TypeId} {m k v : AV} {mv kv : Value} {ok : Bool} {H : AH} (hH : c.H = H.o) (hm : VR c m mv) (hk : VR c k kv) (h : aLookup P t m k ok H = some v) : Says P c (Instr.lookup t mv kv ok) v := by
  unfold aLookup at h
  split at h
  · rename_i kt et hu
    split at h
    · rename_i hok
      split at h
      · rename_i es z hes hz
        obtain ⟨en, hen, hl, hx⟩ : ∃ en : Array MapEntry, (mv = .map none ∧ en = #[] ∨ ∃ g cl, mv = .map (some g) ∧ c.w.heap[g]? = some (.map en cl)) ∧ en.size = es.length ∧ ∀ (j : Nat) (x : AV × AV) (e : MapEntry), es[j]? = some x → en[j]? = some e → VR c x.1 e.key ∧ VR c x.2 e.val := by
          unfold mapAt at hes
          split at hes
          · injection hes with hes; subst hes
            obtain rfl := hm.nilmp_
            exact ⟨#[], .inl ⟨rfl, rfl⟩, rfl, fun j x e hj => by simp at hj⟩
          · rename_i kk
            split at hes
            · rename_i es' he
              injection hes with hes; subst hes
              obtain ⟨_, _, hmp⟩ := hm.mp_
              rw [← hH] at he
              obtain rfl := hmp _ he
              obtain ⟨_, _, en, cl, hb, hl, hx⟩ := hI.map _ _ he
              exact ⟨en, .inr ⟨_, cl, rfl, hb⟩, hl, hx⟩
            · cases hes
          · cases hes
        cases hf : findA k es with
        | none => rw [hf] at h; cases h
        | some r =>
          rw [hf] at h
          obtain ⟨hcheck, hstays, hfind⟩ := find_run c.w hok hk hl hx hf
          obtain ⟨zv, hz1, hz2⟩ : ∃ zv, (zeroValue et).run P c.w = .ok zv c.w ∧ VR c z zv := by
            unfold zeroOne at hz
            cases hi : P.info? et with
            | none => rw [hi] at hz; cases hz
            | some i =>
              rw [hi] at hz
              simp only [Option.bind_some] at hz
              cases hzz : i.zero with
              | none => rw [hzz] at hz; cases hz
              | some zv =>
                rw [hzz] at hz
                simp only [Option.bind_some] at hz
                exact ⟨zv, zeroCells_run hi hzz c.w, .data _ _ (ofCell_rel hz c.S c.w).1⟩
          rcases hfind with ⟨rfl, h1⟩ | ⟨v', j, e, rfl, h1, h2, h3, h4, _⟩
          · dsimp only at h
            injection h with h
            refine ⟨_, lookup_run hu hen hcheck h1 hz1, ?_⟩
            rw [← h]
            cases ok
            · exact hz2
            · exact pair_rel hz2 (VR.bool ..)
          · dsimp only at h
            injection h with h
            refine ⟨_, lookup_run hu hen hcheck h1 hz1, ?_⟩
            rw [← h]
            cases ok
            · exact h4
            · exact pair_rel h4 (VR.bool ..)
      · cases h
    · cases h
  · cases h
theorem update_rel (hI : Inv c) {t : TypeId} {m k v : AV} {mv kv vv : Value} {H H' : AH} (hH : c.H = H.o) (hm : VR c m mv) (hk : VR c k kv) (hv : VR c v vv) (h : aMapUpdate P t m k v H = some H') : DoesU P c N (Instr.mapUpdate t mv kv vv) H'.o := by
  unfold aMapUpdate at h
  split at h
  · rename_i kt et tg hu
    split at h
    · rename_i hok
      split at h
      · rename_i es he
        split at h
        · rename_i r hf
          injection h with h
          subst h
          obtain ⟨hT, _, hmp⟩ := hm.mp_
          rw [← hH] at he
          obtain rfl := hmp _ he
          obtain ⟨_, _, en, cl, hb, hl, hx⟩ := hI.map _ _ he
          obtain ⟨hcheck, hstays, hfind⟩ := find_run c.w hok hk hl hx hf
          have fin : ∀ (en' : Array MapEntry) (cl' : Nat), (Instr.mapUpdate t (.map (some (c.φ tg))) kv vv).run P c.w = .ok () { c.w with heap := c.w.heap.setIfInBounds (c.φ tg) (.map en' cl') } → en'.size = (putA k v es).length →
              (∀ (j : Nat) (x : AV × AV) (e : MapEntry), (putA k v es)[j]? = some x → en'[j]? = some e → VR c x.1 e.key ∧ VR c x.2 e.val) → DoesU P c N (Instr.mapUpdate t (.map (some (c.φ tg))) kv vv) (upd H.o tg (.map (putA k v es))) := by
            intro en' cl' hrun hs hr
            have hw : Wr c.w { c.w with heap := c.w.heap.setIfInBounds (c.φ tg) (.map en' cl') } (c.φ tg) (.map en' cl') := ⟨rfl, rfl, rfl, by simp, (heap_set hb).1, fun b hne => (heap_set hb).2 b hne⟩
            obtain ⟨i1, s1⟩ := put_map hI he hw hs hr
            exact ⟨_, hrun, i1, s1, by simp [Ctx.put, hH], fun u hu => .inl (hu.elim id (fun e => e ▸ hT))⟩
          rcases hfind with ⟨rfl, h1⟩ | ⟨v', j, e, rfl, h1, h2, h3, h4, h5⟩
          · have hp := (findA_none hf).2 v
            refine fin (en.push { key := kv, val := vv, born := cl }) (cl + 1) ?_ (by rw [hp]; simp [hl]) (fun j x e hj he' => ?_)
            · simp [Instr.mapUpdate, run_underlying hu, Go.MapKept.run_getObj_map hb, hcheck, h1, Go.MapKept.run_setObj_map _ hb, Result.andThen]
            · rw [hp] at hj
              by_cases hjl : j < es.length
              · rw [List.getElem?_append_left hjl] at hj
                rw [Array.getElem?_push, if_neg (by omega)] at he'
                exact hx j x e hj he'
              · have hje : j = es.length := by
                  have := (List.getElem?_eq_some_iff.1 hj).1
                  simp at this; omega
                subst hje
                simp at hj
                rw [Array.getElem?_push, if_pos hl.symm] at he'
                injection he' with he'
                rw [← hj, ← he']
                exact ⟨hk, hv⟩
          · have hj : j < en.size := (Array.getElem?_eq_some_iff.1 h2).1
            refine fin (en.modify j fun e => { e with key := kv, val := vv }) cl ?_ (by rw [h5 v]; simp [hl]) (fun i x e' hi he' => ?_)
            · have hkk := hstays
              simp [Instr.mapUpdate, run_underlying hu, Go.MapKept.run_getObj_map hb, hcheck, h1, h2, h3, hkk, Go.MapKept.run_setObj_map _ hb, Result.andThen]
            · rw [h5 v] at hi
              rw [Array.getElem?_modify] at he'
              by_cases hij : j = i
              · subst hij
                rw [List.getElem?_set_self (by rw [← hl]; exact hj)] at hi
                simp [hj] at he'
                injection hi with hi
                rw [← hi, ← he']
                exact ⟨hk, hv⟩
              · rw [List.getElem?_set_ne hij] at hi
                rw [if_neg hij] at he'
                exact hx i x e' hi he'
        · cases h
      · cases h
    · cases h
  · cases h
end
end Go.Proofs.YtpmjpogcaglphaaDoor.A
/- A, part 14: one operation. -/
namespace Go.Proofs.YtpmjpogcaglphaaDoor.A
open Go

/-- The names that an operation may give. -/
def News (st : Nat) (o : Oper) (nx nx' : Nat) (t : Tag) : Prop := (creates o = true ∧ ∃ d, o.dst = some d ∧ t = (st, d)) ∨ (nx ≤ t.1 ∧ t.1 < nx')

section
variable {P : Program} {c : Ctx} {o : Oper} {a : AAct} {ca : Act} {K : Act → World → Prop} {Q : Exit → Act → World → Prop}

theorem wp_value {s : Sem Value} {v : Value} {w w' : World} (he : execOp ca.eval o = (do let x ← s; pure (.value x))) (hr : s.run P w = .ok v w') (h : K (ca.put o.dst v) w') : o.wp P ca w K Q := by
  unfold Oper.wp
  rw [he]
  simp only [Sem.run_bind, hr]
  simpa [Oper.upon] using h
theorem wp_unit {s : Sem Unit} {w w' : World} (he : execOp ca.eval o = (do s; pure .skip)) (hr : s.run P w = .ok () w') (h : K (ca.put o.dst undef) w') : o.wp P ca w K Q := by
  unfold Oper.wp
  rw [he]
  simp only [Sem.run_bind, hr]
  simpa [Oper.upon] using h

/-- What is to be shown of an operation that answers v and leaves H'. -/
def OpOk (P : Program) (c : Ctx) (o : Oper) (ca : Act) (K : Act → World → Prop) (Q : Exit → Act → World → Prop) (N : Tag → Prop) (v : AV) (Ho : Tag → Option AObj) : Prop :=
  (∀ c' cv, Inv c' → Step c c' → c'.H = Ho → (∀ t, c'.T t → c.T t ∨ N t) → VR c' v cv → K (ca.put o.dst cv) c'.w) → o.wp P ca c.w K Q

variable {N : Tag → Prop} {v : AV} {Ho : Tag → Option AObj}
theorem ok_does {s : Sem Value} (he : execOp ca.eval o = (do let x ← s; pure (.value x))) (h : Does P c N s v Ho) : OpOk P c o ca K Q N v Ho := fun hK => by
  obtain ⟨cv, c', hr, hi, hs, hH, hT, hv⟩ := h
  exact wp_value he hr (hK c' cv hi hs hH hT hv)
theorem ok_doesU {s : Sem Unit} (he : execOp ca.eval o = (do s; pure .skip)) (h : DoesU P c N s Ho) : OpOk P c o ca K Q N noV Ho := fun hK => by
  obtain ⟨c', hr, hi, hs, hH, hT⟩ := h
  exact wp_unit he hr (hK c' _ hi hs hH hT (VR.noV_ c'))
theorem ok_says (hI : Inv c) {s : Sem Value} (he : execOp ca.eval o = (do let x ← s; pure (.value x))) (h : Says P c s v) (hH : c.H = Ho) : OpOk P c o ca K Q N v Ho := ok_does he (h.does hI hH)
theorem ok_pure (hI : Inv c) {u : Value} (he : execOp ca.eval o = pure (.value u)) (h : VR c v u) (hH : c.H = Ho) : OpOk P c o ca K Q N v Ho := fun hK => by
  unfold Oper.wp
  rw [he]
  simpa [Oper.upon] using hK c u hI (Step.refl c) hH (fun t ht => .inl ht) h
theorem ok_call {g : FuncId} {cargs : Array Value} (he : (execOp ca.eval o).run P c.w = .ok (.enter g cargs) c.w) {nx nx' : Nat} (hN : ∀ t : Tag, nx ≤ t.1 ∧ t.1 < nx' → N t) (h : Calls P g cargs c.w (RetR c nx nx' Ho v)) : OpOk P c o ca K Q N v Ho := fun hK => by
  unfold Oper.wp
  rw [he]
  simp only [Oper.upon]
  refine h.mono ?_
  rintro e w' ⟨u, c', rfl, rfl, hi, hs, hH, hv, hT⟩
  exact hK c' u hi hs hH (fun t ht => (hT t ht).imp id (hN t)) hv

theorem opdI_rel (hA : AR c a ca) {x : Operand} {i : Int} (h : opdI a x = some i) : ca.eval x = .int .i64 i := by
  unfold opdI at h
  cases hx : opd a x with
  | none => rw [hx] at h; cases h
  | some v =>
    rw [hx] at h
    exact asI_rel (opd_rel hA hx) h
theorem opdB_rel (hA : AR c a ca) {x : Option Operand} {i : Option Int} (h : opdB a x = some i) : x.map ca.eval = bV i := by
  cases x with
  | none => simp only [opdB] at h; injection h with h; subst h; rfl
  | some x =>
    simp only [opdB] at h
    cases hx : opdI a x with
    | none => rw [hx] at h; cases h
    | some j =>
      rw [hx] at h
      simp only [Option.map_some] at h
      injection h with h
      subst h
      simp only [Option.map_some, bV, opdI_rel hA hx]
theorem parts_array {parts : Array (Nat × Operand)} {ps : List (Nat × AV)} (hA : AR c a ca) (h : partsOf a parts.toList = some ps) : PartsRel c ps (parts.map fun p => (p.1, ca.eval p.2)).toList := by
  have := partsOf_rel hA h
  simpa using this

theorem needD_some {d : Option Nat} {f : Nat → Option (AV × AH)} {r : AV × AH} (h : needD d f = some r) : ∃ t, d = some t ∧ f t = some r := by
  cases d with
  | none => cases h
  | some t => exact ⟨t, rfl, h⟩
theorem bind_some' {α β : Type} {x : Option α} {f : α → Option β} {r : β} (h : x.bind f = some r) : ∃ y, x = some y ∧ f y = some r := by
  cases x with
  | none => cases h
  | some y => exact ⟨y, rfl, h⟩
theorem mapH {x : Option AV} {H H' : AH} (h : (x.map (·, H)) = some (v, H')) : x = some v ∧ H' = H := by
  cases x with
  | none => cases h
  | some y =>
    simp only [Option.map_some] at h
    injection h with h
    injection h with h1 h2
    exact ⟨by rw [h1], h2.symm⟩

theorem one_arg {x : AV} {l : List Value} (h : ListRel c [x] l) : ∃ u, l = [u] ∧ VR c x u := by
  match l, h with
  | [u], h => exact ⟨u, rfl, h.1⟩
theorem two_args {x y : AV} {l : List Value} (h : ListRel c [x, y] l) : ∃ u v, l = [u, v] ∧ VR c x u ∧ VR c y v := by
  match l, h with
  | [u, v], h => exact ⟨u, v, rfl, h.1, h.2.1⟩
/-- A call by name, or by value: what the machine resolves. -/
theorem run_enter {g : FuncId} (hE : EnterOk P g) (cargs : Array Value) (w : World) : (callFunc g cargs).run P w = .ok (.enter g cargs) w := by
  obtain ⟨fn, hf, hn, hb⟩ := hE
  have hn' : ¬ fn.name = "runtime.NumGoroutine" := by simpa using hn
  simp only [callFunc, Sem.run_bind, run_program, Result.andThen_ok, hf, hn, hb]
  simp

theorem aStore_nx {t : TypeId} {p x : AV} {H H' : AH} (h : aStore P t p x H = some H') : H'.nx = H.nx := by
  unfold aStore at h
  split at h
  · split at h
    · split at h
      · injection h with h; subst h; rfl
      · cases h
    · cases h
  · cases h
theorem aAppend_nx {tg : Tag} {t xt : TypeId} {s x : AV} {H H' : AH} (h : aAppend P tg t xt s x H = some (v, H')) : H'.nx = H.nx := by
  unfold aAppend at h
  split at h
  · cases h
  · split at h
    · split at h
      · cases h
      · split at h
        · split at h
          · injection h with h; injection h with h1 h2; subst h2; rfl
          · split at h
            · injection h with h; injection h with h1 h2; subst h2; rfl
            · cases h
        · split at h
          · split at h
            · injection h with h; injection h with h1 h2; subst h2; rfl
            · cases h
          · cases h
        · cases h
    · cases h
theorem aCopy_nx {t : TypeId} {s x : AV} {H H' : AH} (h : aCopy P t s x H = some (v, H')) : H'.nx = H.nx := by
  unfold aCopy at h
  split at h
  · split at h
    · split at h
      · dsimp only at h
        split at h
        · injection h with h; injection h with h1 h2; subst h2; rfl
        · cases h
      · cases h
    · split at h
      · injection h with h; injection h with h1 h2; subst h2; rfl
      · cases h
    · cases h
  · cases h
theorem aConvert_nx {tg : Tag} {s t : TypeId} {x : AV} {H H' : AH} (h : aConvert P tg s t x H = some (v, H')) : H'.nx = H.nx := by
  unfold aConvert at h
  split at h
  · injection h with h; injection h with h1 h2; subst h2; rfl
  · injection h with h; injection h with h1 h2; subst h2; rfl
  · split at h
    · injection h with h; injection h with h1 h2; subst h2; rfl
    · cases h
  · split at h
    · split at h
      · rename_i n cs _
        split at h
        · cases hb : aBytes cs with
          | none => rw [hb] at h; cases h
          | some bs => rw [hb] at h; injection h with h; injection h with h1 h2; rw [← h2]
        · cases h
      · cases h
    · cases h
  · cases h
theorem aMapUpdate_nx {t : TypeId} {m k x : AV} {H H' : AH} (h : aMapUpdate P t m k x H = some H') : H'.nx = H.nx := by
  unfold aMapUpdate at h
  repeat' (split at h)
  all_goals first | (injection h with h; rw [← h]) | cases h
theorem array1 {α : Type} {d : α} {xs : Array α} (h : 0 < xs.size) : ∃ rest, xs = (xs.getD 0 d :: rest).toArray := by
  obtain ⟨l⟩ := xs
  cases l with
  | nil => simp at h
  | cons x l => exact ⟨l, by simp⟩
theorem array2 {α : Type} {d : α} {xs : Array α} (h : xs.size = 2) : xs = #[xs.getD 0 d, xs.getD 1 d] := by
  obtain ⟨l⟩ := xs
  match l, h with
  | [x, y], _ => rfl

theorem evalOp_sound {E : Env} {callP : CallP} {callR : CallR} (hP : CPSound E.P callP) (hX : CPSound E.P E.ext) (hR : CRSound E.P callR) {st : Nat} {H H' : AH} (hI : Inv c) (hH : c.H = H.o) (hA : AR c a ca) (hnx : ∀ t, c.T t → t.1 < H.nx)
    (hd : ∀ d, o.dst = some d → creates o = true → ¬ c.T (st, d)) (h : evalOp E callP callR st o a H = some (v, H')) : H.nx ≤ H'.nx ∧ OpOk E.P c o ca K Q (News st o H.nx H'.nx) v H'.o := by
  unfold evalOp at h
  split at h
  · -- move
    rename_i x ho
    replace h := mapH h
    obtain ⟨h, rfl⟩ := h
    exact ⟨Nat.le_refl _, ok_pure hI (by simp only [execOp, ho]) (opd_rel hA h) hH⟩
  · rename_i x ho
    replace h := mapH h
    obtain ⟨h, rfl⟩ := h
    exact ⟨Nat.le_refl _, ok_pure hI (by simp only [execOp, ho]) (opd_rel hA h) hH⟩
  · -- pick
    rename_i co x y ho
    split at h
    · rename_i hc
      replace h := mapH h
      obtain ⟨h, rfl⟩ := h
      have hb := (opd_rel hA hc).bool_
      refine ⟨Nat.le_refl _, ok_says (s := do pure (if ← asBool (ca.eval co) then ca.eval x else ca.eval y)) hI (by simp only [execOp, ho, bind_pure_comp, Functor.map_map]) ⟨ca.eval x, by simp [hb, asBool], opd_rel hA h⟩ hH⟩
    · rename_i hc
      replace h := mapH h
      obtain ⟨h, rfl⟩ := h
      have hb := (opd_rel hA hc).bool_
      refine ⟨Nat.le_refl _, ok_says (s := do pure (if ← asBool (ca.eval co) then ca.eval x else ca.eval y)) hI (by simp only [execOp, ho, bind_pure_comp, Functor.map_map]) ⟨ca.eval y, by simp [hb, asBool], opd_rel hA h⟩ hH⟩
    · cases h
  · -- alloc
    rename_i e ho
    have hcr : creates o = true := by simp [creates, ho]
    split at h
    · rename_i d z hdst hz
      injection h with h
      injection h with h1 h2
      subst h1; subst h2
      exact ⟨Nat.le_refl _, ok_does (by simp only [execOp, ho]) (alloc_rel hI (hd d hdst hcr) hH hz (.inl ⟨hcr, d, hdst, rfl⟩))⟩
    · cases h
  · -- box
    rename_i e x ho
    have hcr : creates o = true := by simp [creates, ho]
    split at h
    · rename_i d z hdst hz
      split at h
      · rename_i hc
        injection h with h
        injection h with h1 h2
        subst h1; subst h2
        exact ⟨Nat.le_refl _, ok_does (by simp only [execOp, ho]) (box_rel hI (hd d hdst hcr) hH (opd_rel hA hz) hc (.inl ⟨hcr, d, hdst, rfl⟩))⟩
      · cases h
    · cases h
  · -- build
    rename_i t parts ho
    replace h := bind_some' h
    obtain ⟨ps, hps, h⟩ := h
    replace h := mapH h
    obtain ⟨h, rfl⟩ := h
    exact ⟨Nat.le_refl _, ok_says hI (by simp only [execOp, ho]) (build_rel (parts_array hA hps) h) hH⟩
  · -- buildSlice
    rename_i t len parts ho
    have hcr : creates o = true := by simp [creates, ho]
    replace h := needD_some h
    obtain ⟨d, hdst, h⟩ := h
    replace h := bind_some' h
    obtain ⟨ps, hps, h⟩ := h
    have hnx' : H'.nx = H.nx := by
      unfold aBuildSlice at h
      repeat' (split at h)
      all_goals first | (injection h with h; injection h with h1 h2; rw [← h2]; rfl) | cases h
    exact ⟨by rw [hnx']; exact Nat.le_refl _, ok_does (by simp only [execOp, ho]) (buildSlice_rel hI (hd d hdst hcr) hH (.inl ⟨hcr, d, hdst, rfl⟩) (parts_array hA hps) h)⟩
  · -- load
    rename_i t x ho
    replace h := bind_some' h
    obtain ⟨p, hp, h⟩ := h
    replace h := mapH h
    obtain ⟨h, rfl⟩ := h
    obtain ⟨cv, h1, h2⟩ := aLoad_rel hI hH (opd_rel hA hp) h
    exact ⟨Nat.le_refl _, ok_says hI (by simp only [execOp, ho]) ⟨cv, h1, h2⟩ hH⟩
  · -- store
    rename_i t p x ho
    replace h := bind_some' h
    obtain ⟨pv, hp, h⟩ := h
    replace h := bind_some' h
    obtain ⟨xv, hx, h⟩ := h
    obtain ⟨hs, hv0⟩ : aStore E.P t pv xv H = some H' ∧ noV = v := by
      cases hs : aStore E.P t pv xv H with
      | none => rw [hs] at h; cases h
      | some H1 => rw [hs] at h; simp only [Option.map_some] at h; injection h with h; injection h with h1 h2; exact ⟨by rw [h2], h1⟩
    clear h
    subst hv0
    exact ⟨by rw [aStore_nx hs]; exact Nat.le_refl _, ok_doesU (by simp only [execOp, ho]) (store_rel hI hH (opd_rel hA hp) (opd_rel hA hx) hs)⟩
  · -- nilCheck
    rename_i x ho
    split at h
    · rename_i k g off hx
      injection h with h
      injection h with h1 h2
      subst h1; subst h2
      have hv := opd_rel hA hx
      obtain ⟨_, _, ad, e, _⟩ := hv.ptr_
      exact ⟨Nat.le_refl _, ok_pure (u := ca.eval x) hI (by simp only [execOp, ho, e]) hv hH⟩
    · rename_i cs hx
      injection h with h
      injection h with h1 h2
      subst h1; subst h2
      have hv := opd_rel hA hx
      obtain ⟨ad, e, _⟩ := hv.fptr_
      exact ⟨Nat.le_refl _, ok_pure (u := ca.eval x) hI (by simp only [execOp, ho, e]) hv hH⟩
    · rename_i f first captured hx
      injection h with h
      injection h with h1 h2
      subst h1; subst h2
      have hv := opd_rel hA hx
      obtain ⟨us, vs, e, _⟩ := hv.fn_
      exact ⟨Nat.le_refl _, ok_pure (u := ca.eval x) hI (by simp only [execOp, ho, e]) hv hH⟩
    · cases h
  · -- binOp
    rename_i op t x y _ ho
    replace h := bind_some' h
    obtain ⟨u, hu, h⟩ := h
    replace h := bind_some' h
    obtain ⟨u', hu', h⟩ := h
    replace h := mapH h
    obtain ⟨h, rfl⟩ := h
    exact ⟨Nat.le_refl _, ok_says hI (by simp only [execOp, ho]) (bin_rel (ox := x) (oy := y) (opd_rel hA hu) (opd_rel hA hu') h) hH⟩
  · -- unOp
    rename_i op t x ho
    replace h := bind_some' h
    obtain ⟨u, hu, h⟩ := h
    replace h := mapH h
    obtain ⟨h, rfl⟩ := h
    exact ⟨Nat.le_refl _, ok_says hI (by simp only [execOp, ho]) (un_rel (opd_rel hA hu) h) hH⟩
  · -- convert
    rename_i s t x ho
    have hcr : creates o = true := by simp [creates, ho]
    replace h := needD_some h
    obtain ⟨d, hdst, h⟩ := h
    replace h := bind_some' h
    obtain ⟨u, hu, h⟩ := h
    have hnx' := aConvert_nx h
    exact ⟨by rw [hnx']; exact Nat.le_refl _, ok_does (by simp only [execOp, ho]) (convert_rel hI (hd d hdst hcr) hH (.inl ⟨hcr, d, hdst, rfl⟩) (opd_rel hA hu) h)⟩
  · -- makeFunc
    rename_i fn first captured ho
    split at h
    · rename_i fs cs hf hc
      injection h with h
      injection h with h1 h2
      subst h1; subst h2
      have l1 := (opds_rel hA hf).lr
      have l2 := (opds_rel hA hc).lr
      refine ⟨Nat.le_refl _, ok_says (s := Instr.makeFunc fn (first.map ca.eval) (captured.map ca.eval)) hI (by simp only [execOp, ho]) ⟨.func fn (first.map ca.eval) (captured.map ca.eval), by simp [Instr.makeFunc], ?_⟩ hH⟩
      refine .fn fn fs cs _ _ (by have := l1.1; simpa using this) (by have := l2.1; simpa using this) (fun j x u hx hu => l1.2 j x u hx ?_) (fun j x u hx hu => l2.2 j x u hx ?_)
      · simpa using hu
      · simpa using hu
    · cases h
  · -- makeMap
    rename_i ty ho
    have hcr : creates o = true := by simp [creates, ho]
    split at h
    · rename_i d hdst
      injection h with h
      injection h with h1 h2
      subst h1; subst h2
      exact ⟨Nat.le_refl _, ok_does (by simp only [execOp, ho]; rfl) (makeMap_rel hI (hd d hdst hcr) hH (.inl ⟨hcr, d, hdst, rfl⟩))⟩
    · cases h
  · -- makeSlice
    rename_i t l cp ho
    have hcr : creates o = true := by simp [creates, ho]
    replace h := needD_some h
    obtain ⟨d, hdst, h⟩ := h
    replace h := bind_some' h
    obtain ⟨lv, hl, h⟩ := h
    replace h := bind_some' h
    obtain ⟨cv, hc, h⟩ := h
    have hnx' : H'.nx = H.nx := by
      unfold aMakeSlice at h
      repeat' (split at h)
      all_goals first | (injection h with h; injection h with h1 h2; rw [← h2]; rfl) | cases h
    exact ⟨by rw [hnx']; exact Nat.le_refl _, ok_does (s := Instr.makeSlice t (.int .i64 lv) (.int .i64 cv)) (by simp only [execOp, ho, opdI_rel hA hl, opdI_rel hA hc]) (make_rel hI (hd d hdst hcr) hH (.inl ⟨hcr, d, hdst, rfl⟩) h)⟩
  · -- slice
    rename_i t x lo hi ho
    replace h := bind_some' h
    obtain ⟨u, hu, h⟩ := h
    replace h := bind_some' h
    obtain ⟨l, hl, h⟩ := h
    replace h := bind_some' h
    obtain ⟨hh, hhi, h⟩ := h
    replace h := mapH h
    obtain ⟨h, rfl⟩ := h
    exact ⟨Nat.le_refl _, ok_says (s := Instr.sliceAt t (ca.eval x) (bV l) (bV hh) none) hI (by simp only [execOp, ho, opdB_rel hA hl, opdB_rel hA hhi]; rfl) (slice_rel (opd_rel hA hu) h) hH⟩
  · -- fieldAddr
    rename_i t x f ho
    cases hx : opd a x with
    | none => rw [hx] at h; cases h
    | some u =>
      rw [hx] at h
      obtain ⟨h1, h2⟩ := fieldAddr_rel (v := v) (opd_rel hA hx) h
      dsimp only at h1 h2
      subst h2
      exact ⟨Nat.le_refl _, ok_says hI (by simp only [execOp, ho]) h1 hH⟩
  · -- field
    rename_i t x f ho
    cases hx : opd a x with
    | none => rw [hx] at h; cases h
    | some u =>
      rw [hx] at h
      obtain ⟨h1, h2⟩ := field_rel (v := v) (opd_rel hA hx) h
      dsimp only at h1 h2
      subst h2
      exact ⟨Nat.le_refl _, ok_says hI (by simp only [execOp, ho]) h1 hH⟩
  · -- indexAddr
    rename_i t x i ho
    replace h := bind_some' h
    obtain ⟨u, hu, h⟩ := h
    replace h := bind_some' h
    obtain ⟨j, hj, h⟩ := h
    replace h := mapH h
    obtain ⟨h, rfl⟩ := h
    exact ⟨Nat.le_refl _, ok_says (s := Instr.indexAt t (ca.eval x) (.int .i64 j)) hI (by simp only [execOp, ho, opdI_rel hA hj]) (indexAddr_rel (opd_rel hA hu) h) hH⟩
  · -- index
    rename_i t x i ho
    replace h := bind_some' h
    obtain ⟨u, hu, h⟩ := h
    replace h := bind_some' h
    obtain ⟨j, hj, h⟩ := h
    replace h := mapH h
    obtain ⟨h, rfl⟩ := h
    exact ⟨Nat.le_refl _, ok_says (s := Instr.index t (ca.eval x) (.int .i64 j)) hI (by simp only [execOp, ho, opdI_rel hA hj]) (index_rel (opd_rel hA hu) h) hH⟩
  · -- lookup
    rename_i t m k ok ho
    replace h := bind_some' h
    obtain ⟨mv, hm, h⟩ := h
    replace h := bind_some' h
    obtain ⟨kv, hk, h⟩ := h
    replace h := mapH h
    obtain ⟨h, rfl⟩ := h
    exact ⟨Nat.le_refl _, ok_says hI (by simp only [execOp, ho]) (lookup_rel hI hH (opd_rel hA hm) (opd_rel hA hk) h) hH⟩
  · -- mapUpdate
    rename_i t m k x ho
    replace h := bind_some' h
    obtain ⟨mv, hm, h⟩ := h
    replace h := bind_some' h
    obtain ⟨kv, hk, h⟩ := h
    replace h := bind_some' h
    obtain ⟨xv, hx, h⟩ := h
    obtain ⟨hs, hv0⟩ : aMapUpdate E.P t mv kv xv H = some H' ∧ noV = v := by
      cases hs : aMapUpdate E.P t mv kv xv H with
      | none => rw [hs] at h; cases h
      | some H1 => rw [hs] at h; simp only [Option.map_some] at h; injection h with h; injection h with h1 h2; exact ⟨by rw [h2], h1⟩
    clear h
    subst hv0
    exact ⟨by rw [aMapUpdate_nx hs]; exact Nat.le_refl _, ok_doesU (by simp only [execOp, ho]) (update_rel hI hH (opd_rel hA hm) (opd_rel hA hk) (opd_rel hA hx) hs)⟩
  · -- insert
    rename_i t m k x ho
    replace h := bind_some' h
    obtain ⟨mv, hm, h⟩ := h
    replace h := bind_some' h
    obtain ⟨kv, hk, h⟩ := h
    replace h := bind_some' h
    obtain ⟨xv, hx, h⟩ := h
    obtain ⟨hs, hv0⟩ : aMapUpdate E.P t mv kv xv H = some H' ∧ noV = v := by
      cases hs : aMapUpdate E.P t mv kv xv H with
      | none => rw [hs] at h; cases h
      | some H1 => rw [hs] at h; simp only [Option.map_some] at h; injection h with h; injection h with h1 h2; exact ⟨by rw [h2], h1⟩
    clear h
    subst hv0
    exact ⟨by rw [aMapUpdate_nx hs]; exact Nat.le_refl _, ok_doesU (by simp only [execOp, ho]) (update_rel hI hH (opd_rel hA hm) (opd_rel hA hk) (opd_rel hA hx) hs)⟩
  · -- extract
    rename_i t i ho
    split at h
    · rename_i vs hx
      replace h := mapH h
      obtain ⟨h, rfl⟩ := h
      have hv := opd_rel hA hx
      obtain ⟨us, e, hl, hh⟩ := hv.tup_
      have hi : i < us.size := by have := (List.getElem?_eq_some_iff.1 h).1; omega
      refine ⟨Nat.le_refl _, ok_says (s := Instr.extract (ca.eval t) i) hI (by simp only [execOp, ho]) ⟨us[i], ?_, hh i v us[i] h (by simp [hi])⟩ hH⟩
      rw [e]
      simp [Instr.extract, hi]
    · cases h
  · -- call
    rename_i cl ho
    replace h := bind_some' h
    obtain ⟨args, hargs, h⟩ := h
    have hl := opds_rel hA hargs
    have harr : (cl.args.map ca.eval) = (cl.args.toList.map ca.eval).toArray := Array.toList_inj.1 (by simp)
    have hb : ∀ {b : Builtin}, cl.callee = .builtin b → ∀ (r : Sem Next), builtin b cl.argTypes o.type (cl.args.map fun | .const _ => true | _ => false) (cl.args.map ca.eval) = r → execOp ca.eval o = r := fun hcal r hr => by
      rw [← hr]
      simp only [execOp, ho, resolve, hcal, pure_bind, invoke]
      rfl
    split at h
    · -- a function's value
      rename_i f hcal
      replace h := bind_some' h
      obtain ⟨fv, hf, h⟩ := h
      unfold aCall at h
      split at h
      · rename_i g first captured
        have hfv := opd_rel hA hf
        obtain ⟨us, vs, e, l1, l2, h1, h2⟩ := hfv.fn_
        have hall : LR (VR c) (first ++ args ++ captured) (us.toList ++ cl.args.toList.map ca.eval ++ vs.toList) := ((LR.array l1 h1).append hl.lr).append (LR.array l2 h2)
        have hrun : EnterOk E.P g → (execOp ca.eval o).run E.P c.w = .ok (.enter g (us.toList ++ cl.args.toList.map ca.eval ++ vs.toList).toArray) c.w := fun hE => by
          have : (us.toList ++ cl.args.toList.map ca.eval ++ vs.toList).toArray = us ++ cl.args.map ca.eval ++ vs := by
            apply Array.toList_inj.1
            simp
          rw [this]
          simp only [execOp, ho, resolve, hcal, e, Deferred.ofValue, Sem.run_bind, Sem.run_pure, invoke]
          exact run_enter hE _ _
        dsimp only at h
        split at h
        · rename_i sc hm
          replace h := bind_some' h
          obtain ⟨r, hr, h⟩ := h
          obtain ⟨hE, hn, hc⟩ := pure_call hI hP hH hr h hall
          exact ⟨by rw [hn]; exact Nat.le_refl _, ok_call (hrun hE) (fun t ht => .inr ht) hc⟩
        · rename_i sc hm
          replace h := bind_some' h
          obtain ⟨r, hr, h⟩ := h
          obtain ⟨hE, hn, hc⟩ := pure_call hI hX hH hr h hall
          exact ⟨by rw [hn]; exact Nat.le_refl _, ok_call (hrun hE) (fun t ht => .inr ht) hc⟩
        · rename_i frz hm
          obtain ⟨p, hp, hh⟩ : ∃ p, callR g (first ++ args ++ captured) H = some p ∧ freezeR frz p.1 p.2 = (v, H') := by
            cases hs : callR g (first ++ args ++ captured) H with
            | none => rw [hs] at h; cases h
            | some p => rw [hs] at h; simp only [Option.map_some] at h; injection h with h; exact ⟨p, rfl, h⟩
          obtain ⟨hE, hn, hc⟩ := raw_call (frz := frz) hI hR hH hnx (show callR g _ H = some (p.1, p.2) from hp) hall
          rw [hh] at hn hc
          exact ⟨hn, ok_call (hrun hE) (fun t ht => .inr ht) hc⟩
      · cases h
    · -- len
      rename_i hcal
      split at h
      · rename_i x
        replace h := mapH h
        obtain ⟨h, rfl⟩ := h
        obtain ⟨cx, hcx, hx⟩ := one_arg hl
        generalize hg : cl.argTypes.getD 0 0 = ty0 at h
        split at h
        · rename_i h0
          rw [hH.symm] at h
          obtain ⟨rest, hts⟩ := array1 (d := 0) h0
          rw [hg] at hts
          refine ⟨Nat.le_refl _, ok_says hI (hb hcal _ rfl) ?_ hH⟩
          rw [harr, hcx, hts]
          exact len_rel hI hx h
        · cases h
      · cases h
    · -- append
      rename_i hcal
      split at h
      · rename_i s x
        split at h
        · rename_i h2
          have hcr : creates o = true := by simp [creates, ho, hcal]
          replace h := needD_some h
          obtain ⟨d, hdst, h⟩ := h
          obtain ⟨cs, cx, hcx, hs, hx⟩ := two_args hl
          refine ⟨by rw [aAppend_nx h]; exact Nat.le_refl _, ok_does (hb hcal _ rfl) ?_⟩
          rw [harr, hcx, array2 (d := 0) h2]
          exact append_rel hI (hd d hdst hcr) hH (.inl ⟨hcr, d, hdst, rfl⟩) hs hx h
        · cases h
      · cases h
    · -- copy
      rename_i hcal
      split at h
      · rename_i s x
        generalize hg : cl.argTypes.getD 0 0 = ty0 at h
        split at h
        · rename_i h0
          obtain ⟨cs, cx, hcx, hs, hx⟩ := two_args hl
          obtain ⟨rest, hts⟩ := array1 (d := 0) h0
          rw [hg] at hts
          refine ⟨by rw [aCopy_nx h]; exact Nat.le_refl _, ok_does (hb hcal _ rfl) ?_⟩
          rw [harr, hcx, hts]
          exact copy_rel (xt := 0) hI hH hs hx h
        · cases h
      · cases h
    · -- max
      rename_i hcal
      replace h := mapH h
      obtain ⟨h, rfl⟩ := h
      refine ⟨Nat.le_refl _, ok_says hI (hb hcal _ rfl) ?_ hH⟩
      rw [harr]
      exact max_rel hl h
    · rename_i hcal
      replace h := mapH h
      obtain ⟨h, rfl⟩ := h
      refine ⟨Nat.le_refl _, ok_says hI (hb hcal _ rfl) ?_ hH⟩
      rw [harr]
      exact min_rel hl h
    · cases h
  · cases h
end

end Go.Proofs.YtpmjpogcaglphaaDoor.A
