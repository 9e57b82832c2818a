/- A, part 9: indexing, slicing, literals, new rows. -/
import Derived.Test.YtcaemgpificohaaA8
set_option linter.unusedVariables false
set_option linter.unusedSimpArgs false
set_option linter.unnecessarySimpa false
namespace Go.Proofs.Ytcaemgpificohaa.A
open Go

section
variable {P : Program} {c : Ctx} {N : Tag → Prop}

theorem part_take {t : TypeId} {xs : List AV} {vs : Array Value} (h : Cells c xs vs) (h1 : ∀ (j : Nat) (u : Value), vs[j]? = some u → u.oneCell' = true) {off : Nat} {v : AV} (hv : takeT P t (xs.drop off) = some v) : Says P c (part t vs off) v := by
  unfold takeT at hv
  split at hv
  · rename_i b n hb hn
    cases b with
    | true =>
      simp only [take1] at hv
      split at hv
      · rename_i hle
        injection hv with hv; subst hv
        have hle' : off + n ≤ xs.length ∨ n = 0 := by simp at hle; omega
        refine ⟨.agg (vs.extract off (off + n)), by simp only [part, Sem.run_bind, tAgg_run hb, tSize_run hn, Result.andThen_ok, if_true, Sem.run_pure], .agg _ _ ?_ ?_ ?_⟩
        · have := h.1; simp at hle ⊢; omega
        · intro j x u hx hu
          have hj : j < n := by have := (List.getElem?_eq_some_iff.1 hx).1; simp at this; omega
          rw [List.getElem?_take, if_pos hj, List.getElem?_drop] at hx
          rw [Array.getElem?_extract] at hu
          split at hu
          · exact h.2 _ x u hx hu
          · cases hu
        · intro j u hu
          rw [Array.getElem?_extract] at hu
          split at hu
          · exact h1 _ u hu
          · cases hu
      · cases hv
    | false =>
      simp only [take1] at hv
      split at hv
      · rename_i x xs' hxs
        injection hv with hv; subst hv
        have hx : xs[off]? = some x := by
          have := congrArg (·[0]?) hxs
          simpa [List.getElem?_drop] using this
        have hlt : off < vs.size := by have := (List.getElem?_eq_some_iff.1 hx).1; have := h.1; omega
        exact ⟨vs[off], by simp [part, tAgg_run hb, hlt], h.2 off _ _ hx (by simp [hlt])⟩
      · cases hv
  · cases hv

theorem field_rel {t : TypeId} {f : Nat} {x v : AV} {xv : Value} {H : AH} {r : AV × AH} (hx : VR c x xv)
    (h : (match some x, tField P t f with
      | some (.agg cs), some (o', ft) => (takeT P ft (cs.drop o')).map (·, H)
      | _, _ => none) = some r) : Says P c (Instr.field t xv f) r.1 ∧ r.2 = H := by
  split at h
  · rename_i cs o' ft e hf
    injection e with e
    subst e
    obtain ⟨vs, rfl, hl, hv, h1⟩ := hx.agg_
    obtain ⟨fs, y, hu, hfy, rfl, rfl⟩ := tField_some hf
    cases hk : takeT P y.type (cs.drop y.offset) with
    | none => rw [hk] at h; cases h
    | some u =>
      rw [hk] at h
      injection h with h; subst h
      obtain ⟨cv, a1, a2⟩ := part_take (P := P) ⟨hl, hv⟩ h1 hk
      exact ⟨⟨cv, by simp [Instr.field, run_underlying hu, hfy, asAgg, a1], a2⟩, rfl⟩
  · cases h

theorem str_get (s : List UInt8) (i : Nat) : (⟨s.toArray⟩ : ByteArray)[i]? = s[i]? := by
  by_cases h : i < s.length
  · rw [List.getElem?_eq_getElem h, getElem?_pos (⟨s.toArray⟩ : ByteArray) i (by rw [str_size]; exact h)]
    rfl
  · rw [List.getElem?_eq_none (by omega), getElem?_neg (⟨s.toArray⟩ : ByteArray) i (by rw [str_size]; exact h)]

theorem index_rel {t : TypeId} {x v : AV} {i : Int} {xv : Value} (hx : VR c x xv) (h : aIndex P t x i = some v) : Says P c (Instr.index t xv (.int .i64 i)) v := by
  unfold aIndex at h
  split at h
  · rename_i cs
    split at h
    · rename_i n e ha
      split at h
      · rename_i s hs
        split at h
        · rename_i hb
          obtain ⟨vs, rfl, hl, hv, h1⟩ := hx.agg_
          obtain ⟨cv, a1, a2⟩ := part_take (P := P) ⟨hl, hv⟩ h1 h
          exact ⟨cv, by simp [Instr.index, asIntOf, run_underlying (tArray_some ha), hb.1, hb.2, tSize_run hs, a1], a2⟩
        · cases h
      · cases h
    · cases h
  · rename_i s
    obtain rfl := hx.str_
    split at h
    · rename_i hu
      split at h
      · rename_i h0
        cases hb : s[i.toNat]? with
        | none => rw [hb] at h; cases h
        | some b =>
          rw [hb] at h
          injection h with h; subst h
          refine ⟨_, ?_, VR.int ..⟩
          simp [Instr.index, asIntOf, run_underlying (isStr_some hu), h0, str_get, hb]
      · cases h
    · cases h
  · cases h

/-! ### slices -/
def bV : Option Int → Option Value
  | none => none
  | some n => some (.int .i64 n)
theorem bounds_run (b : Bool) (len cap : Nat) (lo hi : Option Int) (h0 : 0 ≤ lo.getD 0) (h1 : lo.getD 0 ≤ hi.getD len) (h2 : hi.getD len ≤ cap) (w : World) :
    (Instr.sliceBounds b len cap (bV lo) (bV hi) none).run P w = .ok ((lo.getD 0).toNat, (hi.getD len).toNat, cap) w := by
  cases lo with
  | none =>
    cases hi with
    | none => simp [Instr.sliceBounds, bV]
    | some h =>
      simp only [Option.getD_none, Option.getD_some] at h0 h1 h2
      simp [Instr.sliceBounds, Instr.sliceBound, bV, asIntOf, h1, h2]
  | some l =>
    cases hi with
    | none =>
      simp only [Option.getD_none, Option.getD_some] at h0 h1 h2
      simp [Instr.sliceBounds, Instr.sliceBound, bV, asIntOf, h0, h1]
    | some h =>
      simp only [Option.getD_some] at h0 h1 h2
      have h3 : l ≤ max h 0 := by omega
      have h4 : 0 ≤ h := by omega
      simp [Instr.sliceBounds, Instr.sliceBound, bV, asIntOf, h0, h1, h2, h3, h4]

theorem sliceAt_slice {t e : TypeId} {s : Nat} (hu : P.underlying t = some (.slice e)) (hs : tSize P e = some s) (A : Option Addr) (n cap : Nat) (lo hi : Option Int) (h0 : 0 ≤ lo.getD 0) (h1 : lo.getD 0 ≤ hi.getD n) (h2 : hi.getD n ≤ cap) (w : World) :
    (Instr.sliceAt t (.slice A n cap) (bV lo) (bV hi) none).run P w = .ok (.slice (if cap = (lo.getD 0).toNat then A else A.map (·.add ((lo.getD 0).toNat * s))) ((hi.getD n).toNat - (lo.getD 0).toNat) (cap - (lo.getD 0).toNat)) w := by
  simp only [Instr.sliceAt, Instr.slice, Sem.run_bind, run_underlying hu, Result.andThen_ok, bounds_run true n cap lo hi h0 h1 h2, tSize_run hs, Sem.run_pure]

theorem slice_rel {t : TypeId} {x v : AV} {lo hi : Option Int} {xv : Value} (hx : VR c x xv) (h : aSlice P t x lo hi = some v) : Says P c (Instr.sliceAt t xv (bV lo) (bV hi) none) v := by
  unfold aSlice at h
  dsimp only at h
  split at h
  · rename_i s
    obtain rfl := hx.str_
    split at h
    · rename_i hb
      injection h with h; subst h
      obtain ⟨hu, h0, h1, h2⟩ := hb
      refine ⟨.string ⟨((s.take (hi.getD s.length).toNat).drop (lo.getD 0).toNat).toArray⟩, ?_, VR.str ..⟩
      have hb := bounds_run (P := P) false s.length s.length lo hi h0 h1 (by omega) c.w
      simp only [Instr.sliceAt, Instr.slice, Sem.run_bind, run_underlying (isStr_some hu), Result.andThen_ok, Option.isSome_none, Bool.false_eq_true, if_false, Sem.run_pure, str_size, hb, ByteArray.extract_mk]
      rw [List.drop_take]
    · cases h
  · obtain rfl := hx.nil_
    split at h
    · rename_i hb
      injection h with h; subst h
      obtain ⟨h0, h1, h2⟩ := hb
      cases hs : (tElem P t).bind (tSize P) with
      | none => rw [hs] at h0; cases h0
      | some s =>
        obtain ⟨e, hu, hs'⟩ := elemSize hs
        refine ⟨.slice none 0 0, ?_, .data _ _ .nil⟩
        rw [sliceAt_slice hu hs' none 0 0 lo hi (by omega) (by rw [h1]; simp [h2]) (by simp [h2])]
        simp [h1, h2]
    · cases h
  · rename_i n cs
    split at h
    · rename_i s hs
      split at h
      · rename_i hb
        injection h with h; subst h
        obtain ⟨h0, h1, h2⟩ := hb
        obtain ⟨e, hu, hs'⟩ := elemSize hs
        obtain ⟨A, cap, rfl, hn, hA0, hA, hc⟩ := hx.sl_
        refine ⟨_, sliceAt_slice hu hs' A n cap lo hi h0 h1 (by omega) c.w, ?_⟩
        generalize hl : (lo.getD 0).toNat = l
        generalize hh : (hi.getD n).toNat = m
        have hlm : l ≤ m := by omega
        have hmn : m ≤ n := by omega
        by_cases hcap : cap = l
        · have : m - l = 0 := by omega
          rw [if_pos hcap, this]
          have he : (cs.take (m * s)).drop (l * s) = [] := by rw [show m = l by omega]; simp
          rw [he]
          exact .data _ _ (.sl _ _ _ _ (fun _ => undef) (by omega) (fun h => by omega) (fun h => absurd rfl h) (fun a j x _ hx => by simp at hx) (fun j x hx => by simp at hx) (fun j x hx => by simp at hx))
        · rw [if_neg hcap]
          have hex : ∀ j, ∃ u : Value, ∀ a x, A = some a → ((cs.take (m * s)).drop (l * s))[j]? = some x → c.w.cell? ((a.add (l * s)).add j) = some u ∧ u.oneCell' = true ∧ PR c.S c.w x u := fun j => by
            rw [List.getElem?_drop]
            cases A with
            | none => exact ⟨undef, fun a x h => by cases h⟩
            | some a =>
              cases hx : (cs.take (m * s))[l * s + j]? with
              | none => exact ⟨undef, fun a x _ h => by cases h⟩
              | some x =>
                have hx' : cs[l * s + j]? = some x := by
                  rw [List.getElem?_take] at hx
                  split at hx
                  · exact hx
                  · cases hx
                obtain ⟨u, h1, h2, h3⟩ := hc a _ x rfl hx'
                refine ⟨u, fun a' y ha' hy => ?_⟩
                injection ha' with ha'
                injection hy with hy
                subst ha'; subst hy
                rw [add_add]
                exact ⟨h1, h2, h3⟩
          obtain ⟨u, hu'⟩ := Classical.axiomOfChoice hex
          refine .data _ _ (.sl _ _ _ _ u (by omega) (fun hp => ?_) (fun hne => ?_) (fun a' j x ha' hxj => ?_) (fun j x hxj => ?_) (fun j x hxj => ?_))
          · obtain ⟨a, rfl⟩ := hA0 (by omega)
            exact ⟨_, rfl⟩
          · obtain ⟨a, rfl, hSa⟩ := hA (fun e => hne (by rw [e]; simp))
            exact ⟨_, rfl, by rw [add_block]; exact hSa⟩
          · cases A with
            | none => cases ha'
            | some a =>
              simp only [Option.map_some] at ha'
              injection ha' with ha'
              subst ha'
              exact (hu' j a x rfl hxj).1
          · obtain ⟨a, rfl, _⟩ := hA (fun e => by rw [e] at hxj; simp at hxj)
            exact (hu' j a x rfl hxj).2.1
          · obtain ⟨a, rfl, _⟩ := hA (fun e => by rw [e] at hxj; simp at hxj)
            exact (hu' j a x rfl hxj).2.2
      · cases h
    · cases h
  · rename_i k g off n
    split at h
    · rename_i s hs
      split at h
      · rename_i hb
        injection h with h; subst h
        obtain ⟨hs0, h0, h1, h2⟩ := hb
        obtain ⟨e, hu, hs'⟩ := elemSize hs
        obtain ⟨hk, hg, A, cap, rfl, hn, hA, hr⟩ := hx.ref_
        refine ⟨_, sliceAt_slice hu hs' A n cap lo hi h0 h1 (by omega) c.w, ?_⟩
        generalize hl : (lo.getD 0).toNat = l
        generalize hh : (hi.getD n).toNat = m
        have hlm : l ≤ m := by omega
        have hmn : m ≤ n := by omega
        by_cases hl0 : l = 0
        · subst hl0
          simp only [Nat.zero_mul, Nat.add_zero, Nat.sub_zero]
          have hAA : (if cap = 0 then A else A.map fun x => x.add 0) = A := by
            split
            · rfl
            · cases A <;> simp [Addr.add]
          rw [hAA]
          refine .ref k g _ _ _ _ hk hg (by omega) (fun hh => hA (by omega)) fun r hr' hgen => ?_
          obtain ⟨q1, q2⟩ := hr r (by unfold aRow; rw [hr']; simp [hgen])
          exact ⟨fun hh => q1 (by omega), q2⟩
        · have hls : 0 < l * s := Nat.mul_pos (by omega) hs0
          have hne : ¬ (off + l * s = 0) := by omega
          refine .ref k g _ _ _ _ hk hg (by omega) (fun hp => ?_) fun r hr' hgen => ⟨fun hp => ?_, fun hp => absurd hp hne⟩
          · obtain ⟨a, rfl⟩ := hA (by omega)
            split <;> exact ⟨_, rfl⟩
          · obtain ⟨q1, _⟩ := hr r (by unfold aRow; rw [hr']; simp [hgen])
            have hpos : 0 < m - l := by omega
            rw [if_neg (by omega), q1 (by omega)]
            simp [plain_add]
      · cases h
    · cases h
  · cases h

/-! ### new rows -/
theorem tZero_some {t : TypeId} {z : List AV} (h : tZero P t = some z) : ∃ i v, P.info? t = some i ∧ i.zero = some v ∧ ofCells v.cells.toList = some z := by
  unfold tZero at h
  split at h
  · rename_i v hv
    cases hi : P.info? t with
    | none => rw [hi] at hv; cases hv
    | some i => rw [hi] at hv; exact ⟨i, v, rfl, hv, h⟩
  · cases h
theorem zero_cells {v : Value} {z : List AV} (h : ofCells v.cells.toList = some z) (c : Ctx) : v.cells.size = z.length ∧ ∀ (j : Nat) (x : AV), z[j]? = some x → ∃ u : Value, v.cells[j]? = some u ∧ u.oneCell' = true ∧ VR c x u := by
  obtain ⟨hl, hh⟩ := ofCells_rel h c.S c.w
  have hl' : v.cells.size = z.length := by simpa using hl
  refine ⟨hl', fun j x hx => ?_⟩
  have hj : j < v.cells.size := by have := (List.getElem?_eq_some_iff.1 hx).1; omega
  obtain ⟨a, b, _⟩ := hh j x v.cells[j] hx (by simp [hj])
  exact ⟨v.cells[j], by simp [hj], b, .data _ _ a⟩

theorem new_row {t : Tag} (hI : Inv c) (ht : ¬ c.T t) (elem sz : Nat) (plain : Bool) (mk : Nat × Nat) (hp : plain = true → mk = (0, 0)) (cs : List AV) (cells : Array Value) (hm : mk.2 = 0 ∨ cs.length ≤ mk.1) (hl : cs.length ≤ cells.size)
    (hx : ∀ (j : Nat) (x : AV), cs[j]? = some x → ∃ u : Value, cells[j]? = some u ∧ u.oneCell' = true ∧ VR c x u) :
    Inv (c.new t (.row { elem, sz, gen := t, ro := false, plain, cs }) (.cells cells elem mk)) ∧ Step c (c.new t (.row { elem, sz, gen := t, ro := false, plain, cs }) (.cells cells elem mk)) :=
  ⟨inv_new hI t ht _ _ (fun r hr => by injection hr with hr; subst hr; exact ⟨rfl, rfl⟩) ⟨cells, mk, rfl, hp, hm, hl, hx⟩, step_new hI t ht _ _ (fun r hr => by injection hr with hr; subst hr; rfl)⟩
theorem new_ptr (c : Ctx) (t : Tag) (x : AObj) (o : Obj) : VR (c.new t x o) (.ptr t t 0) (.pointer (some ⟨c.w.heap.size, 0, none⟩)) :=
  .ptr t t 0 _ (.inr rfl) (.inr rfl) fun r _ _ => by simp [Ctx.new]
theorem new_ref (c : Ctx) (t : Tag) (r : Row) (mk : Nat × Nat) (cells : Array Value) (n cap : Nat) (hn : n ≤ cap) (hc : cap * r.sz ≤ cells.size) : VR (c.new t (.row r) (.cells cells r.elem mk)) (.ref t t 0 n) (.slice (some ⟨c.w.heap.size, 0, none⟩) n cap) := by
  refine .ref t t 0 n _ _ (.inr rfl) (.inr rfl) hn (fun _ => ⟨_, rfl⟩) fun r' hr' _ => ⟨fun _ => by simp [Ctx.new], fun _ cl e m hcl => ?_⟩
  simp only [Ctx.new, upd_same] at hr'
  injection hr' with hr'
  injection hr' with hr'
  subst hr'
  simp only [Ctx.new, if_true] at hcl
  rw [alloc_get_new] at hcl
  injection hcl with hcl
  injection hcl with hcl
  rw [← hcl]
  exact hc

theorem alloc_rel {t : Tag} (hI : Inv c) (ht : ¬ c.T t) {e : TypeId} {z : List AV} {H : AH} (hH : c.H = H.o) (hz : tZero P e = some z) (hN : N t) : Does P c N (Instr.alloc e true (.tuple #[])) (.ptr t t 0) (mkRow H t e 1 true z).o := by
  obtain ⟨i, v, hi, hv, hz'⟩ := tZero_some hz
  obtain ⟨hl, hx⟩ := zero_cells hz' c
  obtain ⟨i1, s1⟩ := new_row hI ht e 1 true (0, 0) (fun _ => rfl) z v.cells (.inl rfl) (by omega) hx
  refine ⟨_, _, ?_, i1, s1, by simp [Ctx.new, mkRow, hH], fun u hu => hu.imp id (fun e => by rw [e]; exact hN), new_ptr c t _ _⟩
  simp [Instr.alloc, zeroValue, typeInfo, hi, hv, newVar, newRow, Ctx.new]
theorem box_rel {t : Tag} (hI : Inv c) (ht : ¬ c.T t) {e : TypeId} {x : AV} {xv : Value} {H : AH} (hH : c.H = H.o) (hx : VR c x xv) (hc : x.cells.all cellOk = true) (hN : N t) : Does P c N (Instr.box e xv) (.ptr t t 0) (mkRow H t e 1 true x.cells).o := by
  obtain ⟨hl, hh⟩ := hx.cells hc
  obtain ⟨i1, s1⟩ := new_row hI ht e 1 true (0, 0) (fun _ => rfl) x.cells xv.cells (.inl rfl) (by omega) (fun j y hy => by
    have hj : j < xv.cells.size := by have := (List.getElem?_eq_some_iff.1 hy).1; omega
    obtain ⟨a, b⟩ := hh j y xv.cells[j] hy (by simp [hj])
    exact ⟨_, by simp [hj], b, a⟩)
  refine ⟨_, _, ?_, i1, s1, by simp [Ctx.new, mkRow, hH], fun u hu => hu.imp id (fun e => by rw [e]; exact hN), new_ptr c t _ _⟩
  simp [Instr.box, newVar, newRow, Ctx.new]

theorem rep_length (z : List AV) (n : Nat) : (rep z n).length = n * z.length := by
  induction n with
  | zero => simp [rep]
  | succ n ih => simp [rep, ih, Nat.succ_mul]; omega
theorem rep_get (z : List AV) (hz : 0 < z.length) : ∀ (n j : Nat), j < n * z.length → (rep z n)[j]? = z[j % z.length]?
  | 0, j, h => by simp at h
  | n + 1, j, h => by
    rw [Nat.succ_mul] at h
    simp only [rep]
    by_cases hj : j < z.length
    · rw [List.getElem?_append_left hj, Nat.mod_eq_of_lt hj]
    · rw [List.getElem?_append_right (by omega), rep_get z hz n _ (by omega)]
      congr 1
      rw [Nat.mod_eq_sub_mod (show j ≥ z.length by omega)]
theorem made_cells {v : Value} {z : List AV} (hl : v.cells.size = z.length) (hx : ∀ (j : Nat) (x : AV), z[j]? = some x → ∃ u : Value, v.cells[j]? = some u ∧ u.oneCell' = true ∧ VR c x u) (hz : 0 < z.length) (n m : Nat) (hnm : n ≤ m) :
    (rep z n).length ≤ (madeCells v.cells (m * z.length)).size ∧ ∀ (j : Nat) (x : AV), (rep z n)[j]? = some x → ∃ u : Value, (madeCells v.cells (m * z.length))[j]? = some u ∧ u.oneCell' = true ∧ VR c x u := by
  have hmul : n * z.length ≤ m * z.length := Nat.mul_le_mul_right _ hnm
  refine ⟨by rw [rep_length, size_madeCells]; exact hmul, fun j x hj => ?_⟩
  have hjl : j < n * z.length := by have := (List.getElem?_eq_some_iff.1 hj).1; rwa [rep_length] at this
  rw [rep_get z hz n j hjl] at hj
  obtain ⟨u, h1, h2, h3⟩ := hx _ x hj
  refine ⟨u, ?_, h2, h3⟩
  have hlt : j % v.cells.size < v.cells.size := Nat.mod_lt _ (by omega)
  rw [← hl] at h1
  have : (madeCells v.cells (m * z.length))[j]? = some (v.cells[j % v.cells.size]!) := by
    have : j < m * z.length := by omega
    simp [madeCells, this]
  rw [this, getElem!_pos v.cells (j % v.cells.size) hlt]
  rw [Array.getElem?_eq_getElem hlt] at h1
  exact h1

theorem tBytes_info {t : TypeId} {n : Nat} (h : tBytes P t = some n) : ∃ i, P.info? t = some i ∧ i.bytes = n := by
  unfold tBytes at h
  cases hi : P.info? t with
  | none => rw [hi] at h; cases h
  | some i => rw [hi] at h; simp at h; exact ⟨i, rfl, h⟩

theorem make_rel {tg : Tag} (hI : Inv c) (ht : ¬ c.T tg) {t : TypeId} {l cp : Int} {H H' : AH} {v : AV} (hH : c.H = H.o) (hN : N tg) (h : aMakeSlice P tg t l cp H = some (v, H')) :
    Does P c N (Instr.makeSlice t (.int .i64 l) (.int .i64 cp)) v H'.o := by
  unfold aMakeSlice at h
  split at h
  · cases h
  · rename_i e he
    split at h
    · rename_i sz by_ z hsz hby hz
      split at h
      · rename_i hb
        injection h with h
        injection h with h1 h2
        subst h1; subst h2
        obtain ⟨h0, h1, h2, h3, h4, h5⟩ := hb
        obtain ⟨i, zv, hi, hv, hz'⟩ := tZero_some hz
        obtain ⟨i', hi', rfl⟩ := tSize_info hsz
        obtain ⟨i'', hi'', rfl⟩ := tBytes_info hby
        obtain rfl : i = i' := by rw [hi] at hi'; injection hi'
        obtain rfl : i = i'' := by rw [hi] at hi''; injection hi''
        obtain ⟨hl, hx⟩ := zero_cells hz' c
        obtain ⟨m1, m2⟩ := made_cells (c := c) hl hx (by omega) l.toNat cp.toNat (by omega)
        rw [h4] at m1 m2
        obtain ⟨i1, s1⟩ := new_row hI ht e i.size true (0, 0) (fun _ => rfl) (rep z l.toNat) _ (.inl rfl) m1 m2
        refine ⟨_, _, ?_, i1, s1, by simp [Ctx.new, mkRow, hH], fun u hu => hu.imp id (fun e => by rw [e]; exact hN), new_ref c tg _ _ _ _ cp.toNat (by omega) (by rw [size_madeCells]; exact Nat.le_refl _)⟩
        exact run_make (P := P) c.w t e i zv (tElem_some he) hi hv .i64 .i64 l cp h0 h1 (by rw [Int.mul_comm]; omega) (by omega)
      · cases h
    · cases h
end

end Go.Proofs.Ytcaemgpificohaa.A
