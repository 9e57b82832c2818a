/- A, part 11: copy, literals, conversions, lengths. -/
import Derived.Test.YtcaemgpificohaaA10
import Derived.Laws.IdiomStrings
set_option linter.unusedVariables false
set_option linter.unusedSimpArgs false
set_option linter.unnecessarySimpa false
namespace Go.Proofs.Ytcaemgpificohaa.A
open Go

section
variable {P : Program} {c : Ctx} {N : Tag → Prop}

theorem copy_rel (hI : Inv c) {t xt ty : TypeId} {rest : List TypeId} {d x v : AV} {dv xv : Value} {H H' : AH} (hH : c.H = H.o) (hd : VR c d dv) (hx : VR c x xv) (h : aCopy P t d x H = some (v, H')) :
    Does P c N (Builtin.copy_ (t :: rest).toArray ty #[dv, xv]) v H'.o := by
  unfold aCopy at h
  split at h
  · rename_i sz m new hsz hsrc
    obtain ⟨e, hu, hs⟩ := elemSize hsz
    rw [← hH] at hsrc
    split at h
    · rename_i k g off n
      split at h
      · rename_i r hr
        dsimp only at h
        split at h
        · rename_i hb
          injection h with h
          injection h with h1 h2
          subst h1; subst h2
          obtain ⟨b0, b1, b2, b3, b4, b5⟩ := hb
          rw [← hH] at hr
          obtain ⟨_, _, A, cap, rfl, hn, hA, hrr⟩ := hd.ref_
          obtain ⟨hA', _⟩ := hrr r hr
          obtain rfl := hA' b0
          obtain ⟨hlen, hfirst⟩ := src_rel (P := P) hI hx hsrc b4
          obtain ⟨vs, q1, q2, q3⟩ := hfirst (Nat.min m n) (Nat.min_le_left _ _)
          have hle : Nat.min m n * sz ≤ m * sz := Nat.mul_le_mul_right _ (Nat.min_le_left _ _)
          have hle2 : Nat.min m n * sz ≤ n * sz := Nat.mul_le_mul_right _ (Nat.min_le_right _ _)
          have hnl : (new.take (Nat.min m n * sz)).length = Nat.min m n * sz := by simp only [List.length_take]; omega
          obtain ⟨c', w1, w2, w3, w4, w5⟩ := write_row (P := P) hI hr b2 (off := off) (new := new.take (Nat.min m n * sz)) (vs := vs.toList) (by rw [hnl]; simpa using q2) (fun u hu => by
            obtain ⟨j, hj, e'⟩ := List.mem_iff_getElem.1 hu
            have hj' : j < (new.take (Nat.min m n * sz)).length := by rw [hnl, ← q2]; simpa using hj
            obtain ⟨u', a1, a2, a3⟩ := q3 j _ (List.getElem?_eq_getElem hj')
            have : vs[j]? = some u := by rw [← Array.getElem?_toList, ← e']; exact List.getElem?_eq_getElem hj
            rw [this] at a1
            injection a1 with a1
            rw [a1]
            exact a3) (fun j y u hy hu => by
            obtain ⟨u', a1, a2, _⟩ := q3 j y hy
            rw [Array.getElem?_toList] at hu
            rw [hu] at a1
            injection a1 with a1
            rw [a1]
            exact a2) (by rw [hnl]; omega)
          refine ⟨_, c', ?_, w2, w3, by rw [w4, hH]; rfl, fun t ht => .inl (w5 t ht), VR.int ..⟩
          have hmin : Nat.min m n = min m n := rfl
          simp [Builtin.copy_, run_underlying hu, hlen, tSize_run hs, q1, w1, goInt]
        · cases h
      · cases h
    · split at h
      · rename_i b4
        injection h with h
        injection h with h1 h2
        subst h1; subst h2
        obtain rfl := hd.nil_
        obtain ⟨hlen, hfirst⟩ := src_rel (P := P) hI hx hsrc b4
        obtain ⟨vs, q1, q2, q3⟩ := hfirst 0 (Nat.zero_le _)
        have hmin : Nat.min m 0 = 0 := Nat.min_zero m
        refine Says.does hI ⟨.int .i64 0, ?_, VR.int ..⟩ hH
        simp [Builtin.copy_, run_underlying hu, hlen, tSize_run hs, q1, goInt]
      · cases h
    · cases h
  · cases h

/-! ### literals -/
def PartsRel (c : Ctx) : List (Nat × AV) → List (Nat × Value) → Prop
  | [], [] => True
  | (i, x) :: ps, (j, v) :: vs => i = j ∧ VR c x v ∧ PartsRel c ps vs
  | _, _ => False
theorem partsOf_rel {a : AAct} {ca : Act} (hA : AR c a ca) : ∀ {parts : List (Nat × Operand)} {ps : List (Nat × AV)}, partsOf a parts = some ps → PartsRel c ps (parts.map fun p => (p.1, ca.eval p.2))
  | [], ps, h => by
    simp only [partsOf] at h
    injection h with h; subst h
    trivial
  | (i, x) :: parts, ps, h => by
    simp only [partsOf] at h
    split at h
    · rename_i v vs hv hvs
      injection h with h; subst h
      exact ⟨rfl, opd_rel hA hv, partsOf_rel hA hvs⟩
    · cases h

theorem foldl_set (off : Nat) : ∀ (l : List Value) (i : Nat) (cells : Array Value) (j : Nat), off + i + l.length ≤ cells.size → ((l.zipIdx i).foldl (fun cs p => cs.setIfInBounds (off + p.2) p.1) cells).size = cells.size ∧
    ((l.zipIdx i).foldl (fun cs p => cs.setIfInBounds (off + p.2) p.1) cells)[j]? = if off + i ≤ j ∧ j < off + i + l.length then l[j - (off + i)]? else cells[j]?
  | [], i, cells, j, _ => ⟨rfl, by rw [if_neg (by simp only [List.length_nil]; omega)]; rfl⟩
  | v :: l, i, cells, j, h => by
    simp only [List.length_cons] at h
    simp only [List.zipIdx_cons, List.foldl_cons]
    obtain ⟨h1, h2⟩ := foldl_set off l (i + 1) (cells.setIfInBounds (off + i) v) j (by simp; omega)
    refine ⟨by rw [h1]; simp, ?_⟩
    rw [h2]
    simp only [List.length_cons]
    by_cases a : off + (i + 1) ≤ j ∧ j < off + (i + 1) + l.length
    · rw [if_pos a, if_pos (by omega), show j - (off + i) = (j - (off + (i + 1))) + 1 by omega]
      simp
    · rw [if_neg a]
      by_cases b : j = off + i
      · subst b
        rw [if_pos (by omega)]
        have : off + i < cells.size := by omega
        simp [this]
      · rw [if_neg (by omega), Array.getElem?_setIfInBounds_ne (by omega)]

/-- The cells of a literal. -/
def CellsOne (c : Ctx) (xs : List AV) (vs : Array Value) : Prop := vs.size = xs.length ∧ ∀ (j : Nat) (x : AV), xs[j]? = some x → ∃ u : Value, vs[j]? = some u ∧ u.oneCell' = true ∧ VR c x u
theorem fill_rel {place : Nat → Option (Nat × Nat)} : ∀ {ps : List (Nat × AV)} {vs : List (Nat × Value)} {cells cs : List AV} {ccells : Array Value}, PartsRel c ps vs → CellsOne c cells ccells → fillA place cells ps = some cs → ∃ ccs, Instr.fill place ccells vs = some ccs ∧ CellsOne c cs ccs
  | [], [], cells, cs, ccells, _, hc, h => by
    simp only [fillA] at h
    injection h with h; subst h
    exact ⟨ccells, rfl, hc⟩
  | [], _ :: _, _, _, _, hp, _, _ => hp.elim
  | _ :: _, [], _, _, _, hp, _, _ => hp.elim
  | (i, x) :: ps, (j, v) :: vs, cells, cs, ccells, hp, hc, h => by
    obtain ⟨rfl, hx, hp⟩ := hp
    simp only [fillA] at h
    split at h
    · cases h
    · rename_i off size hpl
      split at h
      · rename_i hb
        obtain ⟨b1, b2, b3⟩ := hb
        obtain ⟨hl, hh⟩ := hx.cells b3
        have hf := foldl_set off v.cells.toList 0 ccells
        have hfit : off + x.cells.length ≤ cells.length := by omega
        have hcell : CellsOne c (splice cells off x.cells) (v.cells.zipIdx.foldl (fun cs p => cs.setIfInBounds (off + p.2) p.1) ccells) := by
          rw [← Array.foldl_toList, Array.toList_zipIdx]
          refine ⟨?_, fun q y hy => ?_⟩
          · rw [(hf 0 (by simp; have := hc.1; omega)).1, splice_length hfit]
            exact hc.1
          · rw [(hf q (by simp; have := hc.1; omega)).2]
            rw [splice_get hfit] at hy
            simp only [Nat.add_zero, Array.length_toList, hl]
            split at hy
            · rename_i hq
              rw [if_pos hq]
              have hlt : q - off < v.cells.size := by omega
              have hu : v.cells[q - off]? = some v.cells[q - off] := by simp [hlt]
              obtain ⟨a1, a2⟩ := hh _ y _ hy hu
              exact ⟨_, by simp [hlt], a2, a1⟩
            · rename_i hq
              rw [if_neg hq]
              exact hc.2 q y hy
        obtain ⟨ccs, r1, r2⟩ := fill_rel hp hcell h
        refine ⟨ccs, ?_, r2⟩
        have hcs := hc.1
        have hn : (v.cells.size ≠ size || decide (off + v.cells.size > ccells.size)) = false := by
          simp; omega
        simp only [Instr.fill, hpl]
        simp only [hn]
        exact r1
      · cases h

theorem fieldPlaces_run (w : World) : ∀ {fs : List Field} {ps : List (Nat × Nat)}, fieldPlaces P fs = some ps → (fs.mapM (m := Sem) fun f => do pure (f.offset, ← sizeOf f.type)).run P w = .ok ps w
  | [], ps, h => by
    simp only [fieldPlaces] at h
    injection h with h; subst h
    rfl
  | f :: fs, ps, h => by
    simp only [fieldPlaces] at h
    split at h
    · rename_i s r hs hr
      injection h with h; subst h
      simp only [List.mapM_cons, Sem.run_bind, tSize_run hs, Result.andThen_ok, Sem.run_pure, fieldPlaces_run w hr]
    · cases h

theorem zero_one {v : Value} {z : List AV} (h : ofCells v.cells.toList = some z) (c : Ctx) : CellsOne c z v.cells := zero_cells h c

theorem build_rel {t : TypeId} {parts : Array (Nat × Value)} {ps : List (Nat × AV)} {v : AV} (hp : PartsRel c ps parts.toList) (h : aBuild P t ps = some v) : Says P c (Instr.build t parts) v := by
  unfold aBuild at h
  split at h
  · rename_i z fs hz hu
    split at h
    · rename_i places hpl
      obtain ⟨i, zv, hi, hzv, hz'⟩ := tZero_some hz
      cases hf : fillA (fun i => places[i]?) z ps with
      | none => rw [hf] at h; cases h
      | some cs =>
        rw [hf] at h
        injection h with h; subst h
        obtain ⟨ccs, f1, f2⟩ := fill_rel (place := fun i => places[i]?) hp (zero_one hz' c) hf
        have hm := fieldPlaces_run (P := P) c.w hpl
        refine ⟨.agg ccs, ?_, .agg _ _ f2.1 (fun j x u hx hu => by
          obtain ⟨u', a1, _, a3⟩ := f2.2 j x hx
          rw [hu] at a1
          injection a1 with a1
          rw [a1]
          exact a3) (fun j u hu => by
          have hj : j < cs.length := by rw [← f2.1]; exact (Array.getElem?_eq_some_iff.1 hu).1
          obtain ⟨u', a1, a2, _⟩ := f2.2 j _ (List.getElem?_eq_getElem hj)
          rw [hu] at a1
          injection a1 with a1
          rw [a1]
          exact a2)⟩
        have hm' : (fs.mapM (m := Sem) fun f => do pure (f.offset, ← sizeOf f.type)).run P c.w = .ok places.toArray c.w := by
          rw [Array.mapM_eq_mapM_toList, Sem.run_map, hm]
          rfl
        simp only [Instr.build, zeroValue, Sem.run_bind, typeInfo, run_program, hi, Result.andThen_ok, Sem.run_pure, hzv, run_underlying hu, hm', List.getElem?_toArray, f1]
    · cases h
  · rename_i z n e hz hu
    split at h
    · rename_i s hs
      obtain ⟨i, zv, hi, hzv, hz'⟩ := tZero_some hz
      cases hf : fillA (fun i => some (i * s, s)) z ps with
      | none => rw [hf] at h; cases h
      | some cs =>
        rw [hf] at h
        injection h with h; subst h
        obtain ⟨ccs, f1, f2⟩ := fill_rel (place := fun i => some (i * s, s)) hp (zero_one hz' c) hf
        refine ⟨.agg ccs, ?_, .agg _ _ f2.1 (fun j x u hx hu => by
          obtain ⟨u', a1, _, a3⟩ := f2.2 j x hx
          rw [hu] at a1
          injection a1 with a1
          rw [a1]
          exact a3) (fun j u hu => by
          have hj : j < cs.length := by rw [← f2.1]; exact (Array.getElem?_eq_some_iff.1 hu).1
          obtain ⟨u', a1, a2, _⟩ := f2.2 j _ (List.getElem?_eq_getElem hj)
          rw [hu] at a1
          injection a1 with a1
          rw [a1]
          exact a2)⟩
        simp only [Instr.build, zeroValue, Sem.run_bind, typeInfo, run_program, hi, Result.andThen_ok, Sem.run_pure, hzv, run_underlying hu, tSize_run hs, f1]
    · cases h
  · cases h

theorem buildSlice_rel {tg : Tag} (hI : Inv c) (ht : ¬ c.T tg) {t : TypeId} {len : Nat} {parts : Array (Nat × Value)} {ps : List (Nat × AV)} {H H' : AH} {v : AV} (hH : c.H = H.o) (hN : N tg) (hp : PartsRel c ps parts.toList) (h : aBuildSlice P tg t len ps H = some (v, H')) :
    Does P c N (Instr.buildSlice t len parts) v H'.o := by
  unfold aBuildSlice at h
  split at h
  · cases h
  · rename_i e he
    split at h
    · rename_i sz z hsz hz
      split at h
      · rename_i hb
        obtain ⟨b1, b2, b3⟩ := hb
        split at h
        · rename_i cs hf
          injection h with h
          injection h with h1 h2
          subst h1; subst h2
          obtain ⟨i, zv, hi, hzv, hz'⟩ := tZero_some hz
          obtain ⟨hl, hx⟩ := zero_cells hz' c
          subst b2
          obtain ⟨m1, m2⟩ := made_cells (c := c) hl hx (by omega) len len (Nat.le_refl _)
          have hone : CellsOne c (rep z len) (madeCells zv.cells (len * z.length)) := ⟨by rw [size_madeCells, rep_length], m2⟩
          obtain ⟨ccs, f1, f2⟩ := fill_rel (place := fun i => some (i * z.length, z.length)) hp hone hf
          have hlen : cs.length = len * z.length := by
            have : ∀ {place} {ps : List (Nat × AV)} {cells cs : List AV}, fillA place cells ps = some cs → cs.length = cells.length := by
              intro place ps
              induction ps with
              | nil => intro cells cs h; simp only [fillA] at h; injection h with h; rw [h]
              | cons p ps ih =>
                intro cells cs h
                obtain ⟨i, x⟩ := p
                simp only [fillA] at h
                split at h
                · cases h
                · split at h
                  · rename_i hb
                    rw [ih h, splice_length (by omega)]
                  · cases h
            rw [this hf, rep_length]
          obtain ⟨i1, s1⟩ := new_row hI ht e z.length true (0, 0) (fun _ => rfl) cs ccs (.inl rfl) (by rw [f2.1]; exact Nat.le_refl _) f2.2
          refine ⟨_, _, ?_, i1, s1, by simp [Ctx.new, mkRow, hH], fun u hu => hu.imp id (fun e => by rw [e]; exact hN), new_ref c tg _ _ _ len len (Nat.le_refl _) (by rw [f2.1, hlen]; exact Nat.le_refl _)⟩
          have hbig : ¬ (len * z.length > 2 ^ 24) := by omega
          have hu := tElem_some he
          by_cases h0 : len * z.length = 0
          · have hm0 : madeCells zv.cells (len * z.length) = (Array.range (len * z.length)).map ((#[] : Array Value)[· % (#[] : Array Value).size]!) := by rw [h0]; simp [madeCells]
            rw [hm0] at f1
            simp only [Instr.buildSlice, Sem.run_bind, run_underlying hu, Result.andThen_ok, tSize_run hsz, if_neg hbig, if_pos h0, Sem.run_pure, f1, newRow, run_newObj_alloc, Ctx.new]
          · simp only [Instr.buildSlice, Sem.run_bind, run_underlying hu, Result.andThen_ok, tSize_run hsz, if_neg hbig, if_neg h0, zeroValue, typeInfo, run_program, hi, hzv, Sem.run_pure]
            simp only [madeCells] at f1
            simp only [f1, newRow, Sem.run_bind, run_newObj_alloc, Result.andThen_ok, Sem.run_pure, Ctx.new]
        · cases h
      · cases h
    · cases h

end

end Go.Proofs.Ytcaemgpificohaa.A
