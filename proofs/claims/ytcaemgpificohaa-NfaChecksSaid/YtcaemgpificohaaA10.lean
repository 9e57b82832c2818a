/- A, part 10: stores, append, copy, literals, conversions. -/
import Derived.Test.YtcaemgpificohaaA9
set_option linter.unusedVariables false
set_option linter.unusedSimpArgs false
set_option linter.unnecessarySimpa false
namespace Go.Proofs.Ytcaemgpificohaa.A
open Go

theorem isUnd_false : ∀ {v : AV}, isUnd v = false → v ≠ .und := by
  intro v h e
  subst e
  cases h

section
variable {P : Program} {c : Ctx} {N : Tag → Prop}

theorem splice_get {cs new : List AV} {off : Nat} (h : off + new.length ≤ cs.length) (j : Nat) : (splice cs off new)[j]? = if off ≤ j ∧ j < off + new.length then new[j - off]? else cs[j]? := by
  unfold splice
  have hl : (cs.take off).length = off := by simp; omega
  by_cases h1 : j < off
  · rw [List.append_assoc, List.getElem?_append_left (by omega), List.getElem?_take, if_pos h1, if_neg (by omega)]
  · by_cases h2 : j < off + new.length
    · rw [List.append_assoc, List.getElem?_append_right (by omega), hl, List.getElem?_append_left (by omega), if_pos (by omega)]
    · rw [List.getElem?_append_right (by simp; omega), List.getElem?_drop, if_neg (by omega)]
      congr 1
      simp
      omega
theorem splice_length {cs new : List AV} {off : Nat} (h : off + new.length ≤ cs.length) : (splice cs off new).length = cs.length := by simp [splice]; omega

/-- A run of cells is written into a live row. -/
theorem write_row (hI : Inv c) {k g : Tag} {r : Row} (hr : aRow c.H k g = some r) (hro : r.ro = false) {off : Nat} {new : List AV} {vs : List Value} (hlen : vs.length = new.length) (hone : ∀ v ∈ vs, v.oneCell' = true)
    (hrel : ∀ (j : Nat) (x : AV) (u : Value), new[j]? = some x → vs[j]? = some u → VR c x u) (hfit : off + new.length ≤ r.cs.length) :
    ∃ c', (storeCells ⟨c.φ k, off, none⟩ vs).run P c.w = .ok () c'.w ∧ Inv c' ∧ Step c c' ∧ c'.H = upd c.H k (.row { r with cs := splice r.cs off new }) ∧ ∀ t, c'.T t → c.T t := by
  obtain ⟨hk, hgen⟩ := aRow_some hr
  obtain ⟨tk, tg, _, _, cells, mk, hc, hp, hm, hl, hx⟩ := hI.row k r hk
  obtain ⟨w', cur', hrun, hw, hs, hcur⟩ := store_run (P := P) vs 0 c.w (c.φ k) off cells r.elem mk hc (by omega) hone (by omega)
  obtain ⟨i1, s1⟩ := put_row (g := r.gen) hI hk hro (splice r.cs off new) (.inl rfl) hc hs hw (by rw [splice_length hfit]; exact hl) hp (by rw [splice_length hfit]; exact hm) (fun j x hj => by
    rw [splice_get hfit] at hj
    rw [hcur j]
    simp only [Nat.add_zero]
    split at hj
    · rename_i hb
      rw [if_pos (by omega)]
      have hjv : j - off < vs.length := by omega
      have hu : vs[j - off]? = some vs[j - off] := List.getElem?_eq_getElem hjv
      exact ⟨_, hu, hone _ (List.getElem_mem hjv), hrel _ x _ hj hu⟩
    · rename_i hb
      rw [if_neg (by omega)]
      exact hx j x hj)
  exact ⟨_, hrun, i1, s1, rfl, fun t ht => ht.elim id (fun e => by rw [e]; exact tg)⟩

theorem store_rel (hI : Inv c) {t : TypeId} {p x : AV} {pv xv : Value} {H H' : AH} (hH : c.H = H.o) (hp : VR c p pv) (hx : VR c x xv) (h : aStore P t p x H = some H') :
    DoesU P c N (Instr.storeAt t pv xv) H'.o := by
  unfold aStore at h
  split at h
  · rename_i k g off n hn
    split at h
    · rename_i r hr
      split at h
      · rename_i hb
        injection h with h; subst h
        obtain ⟨h1, h2, h3, h4⟩ := hb
        rw [← hH] at hr
        obtain ⟨_, _, a, rfl, ha⟩ := hp.ptr_
        obtain rfl := ha r hr
        obtain ⟨hl, hcell⟩ := hx.cells h2
        obtain ⟨c', q1, q2, q3, q4, q5⟩ := write_row (P := P) hI hr h3 (off := off) (new := x.cells) (vs := xv.cells.toList) (by simpa using hl) (fun v hv => by
          obtain ⟨j, hj, e⟩ := List.mem_iff_getElem.1 hv
          have hj' : j < x.cells.length := by simpa [hl] using hj
          exact (hcell j _ v (List.getElem?_eq_getElem hj') (by rw [← Array.getElem?_toList, ← e]; exact List.getElem?_eq_getElem hj)).2) (fun j y u hy hu => (hcell j y u hy (by simpa using hu)).1) (by omega)
        refine ⟨c', ?_, q2, q3, by rw [q4, hH]; rfl, fun t ht => .inl (q5 t ht)⟩
        have hsz : ¬ xv.cells.size ≠ n := by omega
        simp only [Instr.storeAt, Instr.sureAddr, pure_bind, storeVar, Sem.run_bind, tSize_run hn, Result.andThen_ok, if_neg hsz, q1]
      · cases h
    · cases h
  · cases h

/-! ### what is appended -/
theorem src_rel (hI : Inv c) {x : AV} {xv : Value} {m sz : Nat} {new : List AV} (hx : VR c x xv) (h : srcOf c.H x = some (m, new)) (hlen : new.length = m * sz) :
    (Builtin.lenOf xv).run P c.w = .ok m c.w ∧ ∀ n, n ≤ m → ∃ vs : Array Value, (Builtin.firstCells sz n xv).run P c.w = .ok vs c.w ∧ vs.size = n * sz ∧ ∀ (j : Nat) (y : AV), (new.take (n * sz))[j]? = some y → ∃ u : Value, vs[j]? = some u ∧ VR c y u ∧ u.oneCell' = true := by
  have fromCells : ∀ (a : Addr) (k : Nat), (∀ (j : Nat) (y : AV), new[j]? = some y → ∃ u : Value, c.w.cell? (a.add j) = some u ∧ u.oneCell' = true ∧ VR c y u) → ∀ n, n ≤ m → ∃ vs : Array Value, (loadCells a (n * sz)).run P c.w = .ok vs c.w ∧ vs.size = n * sz ∧ ∀ (j : Nat) (y : AV), (new.take (n * sz))[j]? = some y → ∃ u : Value, vs[j]? = some u ∧ VR c y u ∧ u.oneCell' = true := by
    intro a _ hc n hn
    have hmul : n * sz ≤ m * sz := Nat.mul_le_mul_right _ hn
    have hex : ∀ j, ∃ u : Value, j < n * sz → c.w.cell? (a.add j) = some u ∧ u.oneCell' = true ∧ ∀ y, new[j]? = some y → VR c y u := fun j => by
      by_cases hj : j < n * sz
      · obtain ⟨u, h1, h2, h3⟩ := hc j _ (List.getElem?_eq_getElem (show j < new.length by omega))
        exact ⟨u, fun _ => ⟨h1, h2, fun y hy => by rw [List.getElem?_eq_getElem (show j < new.length by omega)] at hy; injection hy with hy; subst hy; exact h3⟩⟩
      · exact ⟨undef, fun h => absurd h hj⟩
    obtain ⟨f, hf⟩ := Classical.axiomOfChoice hex
    refine ⟨((List.range (n * sz)).map f).toArray, run_loadCells (P := P) c.w a (n * sz) f (fun j hj => (hf j hj).1), by simp, fun j y hy => ?_⟩
    rw [List.getElem?_take] at hy
    split at hy
    · rename_i hj
      exact ⟨f j, by simp [hj], (hf j hj).2.2 y hy, (hf j hj).2.1⟩
    · cases hy
  unfold srcOf at h
  split at h
  · rename_i s
    injection h with h
    injection h with h1 h2
    subst h1; subst h2
    obtain rfl := hx.str_
    refine ⟨by simp [Builtin.lenOf, str_size], fun n hn => ?_⟩
    have hs : s.length * sz = s.length := by simpa using hlen.symm
    have hn' : n * sz = n := by
      by_cases h0 : s.length = 0
      · obtain rfl : n = 0 := by omega
        simp
      · have : sz = 1 := Nat.mul_left_cancel (n := s.length) (by omega) (by rw [hs, Nat.mul_one])
        rw [this, Nat.mul_one]
    have hmin : min n s.length = n := Nat.min_eq_left hn
    refine ⟨((((⟨s.toArray⟩ : ByteArray).extract 0 n).data).map fun b => .int .u8 b.toNat), rfl, ?_, fun j y hy => ?_⟩
    · rw [ByteArray.extract_mk, hn']; simp [hmin]
    · rw [hn', List.getElem?_take] at hy
      split at hy
      · rename_i hj
        rw [List.getElem?_map] at hy
        cases hb : s[j]? with
        | none => rw [hb] at hy; cases hy
        | some b =>
          rw [hb] at hy
          simp only [Option.map_some] at hy
          injection hy with hy
          subst hy
          refine ⟨.int .u8 b.toNat, ?_, VR.int .., rfl⟩
          rw [ByteArray.extract_mk]
          simp only [List.drop_zero, Nat.sub_zero, Array.getElem?_map, List.getElem?_toArray, List.getElem?_take, if_pos hj, hb, Option.map_some]
      · cases hy
  · unfold sliceCells at h
    split at h
    · injection h with h
      injection h with h1 h2
      subst h1; subst h2
      obtain rfl := hx.nil_
      refine ⟨rfl, fun n hn => ?_⟩
      obtain rfl : n = 0 := by omega
      exact ⟨#[], rfl, by simp, fun j y hy => by simp at hy⟩
    · rename_i n' cs _
      injection h with h
      injection h with h1 h2
      subst h1; subst h2
      obtain ⟨A, cap, rfl, hn, hA0, hA, hc⟩ := hx.sl_
      refine ⟨rfl, fun n hn => ?_⟩
      cases A with
      | none =>
        have hz : n' = 0 := by
          rcases Nat.eq_zero_or_pos n' with h | h
          · exact h
          · obtain ⟨a, ha⟩ := hA0 h
            cases ha
        obtain rfl : n = 0 := by omega
        exact ⟨#[], rfl, by simp, fun j y hy => by simp at hy⟩
      | some a =>
        obtain ⟨vs, q1, q2, q3⟩ := fromCells a 0 (fun j y hy => by obtain ⟨u, a1, a2, a3⟩ := hc a j y rfl hy; exact ⟨u, a1, a2, .data _ _ a3⟩) n hn
        exact ⟨vs, q1, q2, q3⟩
    · rename_i k g off n' _
      split at h
      · rename_i r hr
        injection h with h
        injection h with h1 h2
        subst h1
        obtain ⟨_, _, A, cap, rfl, hn, hA, hh⟩ := hx.ref_
        refine ⟨rfl, fun n hn => ?_⟩
        cases A with
        | none =>
          have hz : n' = 0 := by
            rcases Nat.eq_zero_or_pos n' with h | h
            · exact h
            · obtain ⟨a, ha⟩ := hA (.inr h)
              cases ha
          obtain rfl : n = 0 := by omega
          exact ⟨#[], rfl, by simp, fun j y hy => by simp at hy⟩
        | some a =>
          obtain ⟨q, _⟩ := hh r hr
          by_cases h0 : off = 0 ∨ 0 < n'
          · have := q h0
            injection this with this
            subst this
            obtain ⟨vs, q1, q2, q3⟩ := fromCells _ 0 (fun j y hy => by
              rw [← h2] at hy
              rw [List.getElem?_take] at hy
              split at hy
              · exact row_cells hI (aRow_some hr).1 off j y hy
              · cases hy) n hn
            exact ⟨vs, q1, q2, q3⟩
          · obtain rfl : n = 0 := by omega
            obtain ⟨vs, q1, q2, q3⟩ : ∃ vs : Array Value, (loadCells a (0 * sz)).run P c.w = .ok vs c.w ∧ vs.size = 0 * sz ∧ ∀ (j : Nat) (y : AV), (new.take (0 * sz))[j]? = some y → ∃ u : Value, vs[j]? = some u ∧ VR c y u ∧ u.oneCell' = true := ⟨#[], by simp [loadCells, loadCellsFrom], by simp, fun j y hy => by simp at hy⟩
            exact ⟨vs, q1, q2, q3⟩
      · cases h
    · cases h

theorem zeroCells_run {e : TypeId} {i : TypeInfo} {v : Value} (hi : P.info? e = some i) (hv : i.zero = some v) (w : World) : (zeroValue e).run P w = .ok v w := by simp [zeroValue, typeInfo, hi, hv]

/-- append where a new block is made. -/
theorem append_grows {t xt ty e : TypeId} {base : Option Addr} {n cap m : Nat} {xv : Value} {i : TypeInfo} {z : Value} (hu : P.underlying t = some (.slice e)) (hxt : P.underlying xt = some .string ∨ ∃ e', P.underlying xt = some (.slice e')) (hi : P.info? e = some i) (hz : i.zero = some z)
    (hb0 : i.bytes ≠ 0) (hlen : (Builtin.lenOf xv).run P c.w = .ok m c.w) {news olds : Array Value} (h1 : (Builtin.firstCells i.size m xv).run P c.w.drew = .ok news c.w.drew) (h2 : (Builtin.firstCells i.size n (.slice base n cap)).run P c.w.drew = .ok olds c.w.drew)
    (hgr : cap < n + m) (hby : (n + m) * i.bytes ≤ 140737488355328) :
    (Builtin.append_ #[t, xt] ty #[.slice base n cap, xv]).run P c.w = .ok (.slice (some ⟨c.w.heap.size, 0, none⟩) (n + m) (grownCap c.w (n + m) cap e)) (c.w.drew.alloc (.cells (olds ++ news ++ Builtin.zeroCells z.cells (grownCap c.w (n + m) cap e - (n + m))) e)) := by
  have h48 : ¬ (281474976710656 < Builtin.nextslicecap (n + m) cap * i.bytes) := by have := growslice_fits hgr hby; omega
  have hn : ¬ (n + m ≤ cap) := by omega
  rcases hxt with hxt | ⟨e', hxt⟩ <;> simp [Builtin.append_, run_underlying hu, run_underlying hxt, sizeOf, typeInfo, zeroValue, hi, hz, hlen, hn, hb0, h48, Question.forced, newRow, grownCap, h1, h2]
/-- append where there is room. -/
theorem append_fits {t xt ty e : TypeId} {a : Addr} {n cap m : Nat} {xv : Value} {i : TypeInfo} (hu : P.underlying t = some (.slice e)) (hxt : P.underlying xt = some .string ∨ ∃ e', P.underlying xt = some (.slice e')) (hi : P.info? e = some i)
    (hlen : (Builtin.lenOf xv).run P c.w = .ok m c.w) {news : Array Value} (h1 : (Builtin.firstCells i.size m xv).run P c.w = .ok news c.w) {w' : World} (h2 : (storeCells (a.add (n * i.size)) news.toList).run P c.w = .ok () w') (hfit : n + m ≤ cap) :
    (Builtin.append_ #[t, xt] ty #[.slice (some a) n cap, xv]).run P c.w = .ok (.slice (some a) (n + m) cap) w' := by
  rcases hxt with hxt | ⟨e', hxt⟩ <;> simp [Builtin.append_, run_underlying hu, run_underlying hxt, sizeOf, typeInfo, hi, hlen, hfit, h1, h2]
theorem append_none {t xt ty e : TypeId} {xv : Value} {i : TypeInfo} (hu : P.underlying t = some (.slice e)) (hxt : P.underlying xt = some .string ∨ ∃ e', P.underlying xt = some (.slice e')) (hi : P.info? e = some i)
    (hlen : (Builtin.lenOf xv).run P c.w = .ok 0 c.w) {news : Array Value} (h1 : (Builtin.firstCells i.size 0 xv).run P c.w = .ok news c.w) :
    (Builtin.append_ #[t, xt] ty #[.slice none 0 0, xv]).run P c.w = .ok (.slice none 0 0) c.w := by
  rcases hxt with hxt | ⟨e', hxt⟩ <;> simp [Builtin.append_, run_underlying hu, run_underlying hxt, sizeOf, typeInfo, hi, hlen, h1]

theorem xt_some {xt : TypeId} (h : ¬ (isStr (P.underlying xt) = false ∧ (tElem P xt).isSome = false)) : P.underlying xt = some .string ∨ ∃ e', P.underlying xt = some (.slice e') := by
  by_cases h1 : isStr (P.underlying xt) = false
  · cases he : tElem P xt with
    | none => exact absurd ⟨h1, by rw [he]; rfl⟩ h
    | some e => exact .inr ⟨e, tElem_some he⟩
  · exact .inl (isStr_some (by simpa using h1))

theorem append_rel {tg : Tag} (hI : Inv c) (ht : ¬ c.T tg) {t xt ty : TypeId} {s x v : AV} {sv xv : Value} {H H' : AH} (hH : c.H = H.o) (hN : N tg) (hs : VR c s sv) (hx : VR c x xv) (h : aAppend P tg t xt s x H = some (v, H')) :
    Does P c N (Builtin.append_ #[t, xt] ty #[sv, xv]) v H'.o := by
  unfold aAppend at h
  split at h
  · cases h
  · rename_i e he
    have hu := tElem_some he
    split at h
    · rename_i sz by_ z m new hsz hby hz hsrc
      split at h
      · cases h
      · rename_i hcond
        have hzl0 : z.length = sz := Classical.byContradiction fun hh => hcond (.inl hh)
        have hxt := xt_some (P := P) (xt := xt) (fun hh => hcond (.inr (.inl hh)))
        have hnl : new.length = m * sz := Classical.byContradiction fun hh => hcond (.inr (.inr (.inl hh)))
        have hsz0 : sz ≠ 0 := fun hh => hcond (.inr (.inr (.inr (.inl hh))))
        have hby0 : by_ ≠ 0 := fun hh => hcond (.inr (.inr (.inr (.inr (.inl hh)))))
        obtain ⟨i, zv, hi, hzv, hz'⟩ := tZero_some hz
        obtain ⟨i', hi', rfl⟩ := tSize_info hsz
        obtain ⟨i'', hi'', rfl⟩ := tBytes_info hby
        obtain rfl : i = i' := by rw [hi] at hi'; injection hi'
        obtain rfl : i = i'' := by rw [hi] at hi''; injection hi''
        rw [← hH] at hsrc
        obtain ⟨hlen, hfirst⟩ := src_rel (P := P) hI hx hsrc hnl
        obtain ⟨news, q1, q2, q3⟩ := hfirst m (Nat.le_refl _)
        rw [List.take_of_length_le (by omega)] at q3
        -- behind a draw
        obtain ⟨iD, sD⟩ := step_world (c := c) (w := c.w.drew) hI rfl rfl rfl rfl
        have hxD : VR (c.world c.w.drew) x xv := hx.mono sD.mono
        obtain ⟨hlenD, hfirstD⟩ := src_rel (P := P) (c := c.world c.w.drew) iD hxD hsrc hnl
        obtain ⟨newsD, d1, d2, d3⟩ := hfirstD m (Nat.le_refl _)
        rw [List.take_of_length_le (by omega)] at d3
        split at h
        · obtain rfl := hs.nil_
          split at h
          · rename_i hm
            injection h with h
            injection h with h1 h2
            subst h1; subst h2; subst hm
            exact Says.does hI ⟨_, append_none hu hxt hi hlen q1, .data _ _ .nil⟩ hH
          · split at h
            · rename_i hm hb
              injection h with h
              injection h with h1 h2
              subst h1; subst h2
              have hrun := append_grows (P := P) (c := c) (ty := ty) (base := none) (n := 0) (cap := 0) hu hxt hi hzv hby0 hlen d1 (olds := #[]) rfl (by omega) (by rw [Nat.zero_add]; exact hb)
              have hge := grownCap_ge c.w (0 + m) 0 e
              have hzl : zv.cells.size = i.size := by
                obtain ⟨a, _⟩ := zero_cells hz' c
                omega
              obtain ⟨i1, s1⟩ := new_row (c := c.world c.w.drew) (t := tg) iD ht e i.size true (0, 0) (fun _ => rfl) new (#[] ++ newsD ++ Builtin.zeroCells zv.cells (grownCap c.w (0 + m) 0 e - (0 + m))) (.inl rfl) (by simp only [Array.size_append, d2]; omega) (fun j y hy => by
                obtain ⟨u, a1, a2, a3⟩ := d3 j y hy
                refine ⟨u, ?_, a3, a2⟩
                have hj : j < newsD.size := (Array.getElem?_eq_some_iff.1 a1).1
                rw [Array.getElem?_append_left (by simpa using hj)]
                simpa using a1)
              refine ⟨_, _, hrun, i1, sD.trans s1, by simp [Ctx.new, Ctx.world, mkRow, hH], fun u hu => hu.imp id (fun e => by rw [e]; exact hN), ?_⟩
              have hcap : grownCap c.w (0 + m) 0 e * i.size ≤ (#[] ++ newsD ++ Builtin.zeroCells zv.cells (grownCap c.w (0 + m) 0 e - (0 + m))).size := by
                simp only [Array.size_append, d2, size_zeroCells, hzl, List.size_toArray, List.length_nil, Nat.zero_add]
                rw [Nat.zero_add] at hge
                rw [← Nat.add_mul]
                exact Nat.mul_le_mul_right _ (by omega)
              have := new_ref (c.world c.w.drew) tg { elem := e, sz := i.size, gen := tg, ro := false, plain := true, cs := new } (0, 0) _ m _ (by omega) hcap
              rw [Nat.zero_add] at this ⊢
              exact this
            · cases h
        · rename_i k g n
          split at h
          · rename_i r hr
            split at h
            · rename_i hb
              injection h with h
              injection h with h1 h2
              subst h1; subst h2
              obtain ⟨b1, b2, b3, b4, b5, b6⟩ := hb
              rw [← hH] at hr
              obtain ⟨hkr, hgen⟩ := aRow_some hr
              obtain ⟨tk, tgg, A, cap, rfl, hn, hA, hrr⟩ := hs.ref_
              obtain ⟨hA', hcapb⟩ := hrr r hr
              obtain rfl := hA' (.inl rfl)
              obtain ⟨_, _, _, _, cells, mk0, hc, hp0, hm0, hl, hxc⟩ := hI.row k r hkr
              obtain rfl := hp0 b4
              have hcap := hcapb rfl cells _ _ hc
              rw [b2] at hcap
              have hmulm : (n + m) * i.size = n * i.size + m * i.size := Nat.add_mul ..
              by_cases hfit : n + m ≤ cap
              · -- in place
                have hle : (n + m) * i.size ≤ cap * i.size := Nat.mul_le_mul_right _ hfit
                obtain ⟨w', cur', hst, hw, hsz', hcur⟩ := store_run (P := P) news.toList 0 c.w (c.φ k) (n * i.size) cells r.elem (0, 0) hc (by simp; omega) (fun v hv => by
                  obtain ⟨j, hj, e'⟩ := List.mem_iff_getElem.1 hv
                  have hj' : j < new.length := by rw [hnl, ← q2]; simpa using hj
                  obtain ⟨u, a1, a2, a3⟩ := q3 j _ (List.getElem?_eq_getElem hj')
                  have : news[j]? = some v := by rw [← Array.getElem?_toList, ← e']; exact List.getElem?_eq_getElem hj
                  rw [this] at a1
                  injection a1 with a1
                  rw [a1]
                  exact a3) (.inl (Nat.zero_le _))
                obtain ⟨i1, s1⟩ := put_row (g := tg) hI hkr b3 (r.cs.take (n * i.size) ++ new) (.inr ht) hc hsz' hw (by simp; omega) (fun _ => rfl) (.inl rfl) (fun j y hy => by
                  rw [hcur j]
                  simp only [Nat.add_zero, Array.length_toList, q2]
                  by_cases hj : j < n * i.size
                  · rw [if_neg (by omega)]
                    rw [List.getElem?_append_left (by simp; omega), List.getElem?_take, if_pos hj] at hy
                    exact hxc j y hy
                  · rw [List.getElem?_append_right (by simp; omega)] at hy
                    have hlen' : (r.cs.take (n * i.size)).length = n * i.size := by simp; omega
                    rw [hlen'] at hy
                    have hj2 : j - n * i.size < m * i.size := by have := (List.getElem?_eq_some_iff.1 hy).1; omega
                    rw [if_pos (by omega)]
                    obtain ⟨u, a1, a2, a3⟩ := q3 _ y hy
                    exact ⟨u, by simpa using a1, a3, a2⟩)
                refine ⟨_, _, append_fits (P := P) (c := c) (ty := ty) hu hxt hi hlen q1 (w' := w') (by rw [plain_add, Nat.zero_add]; exact hst) hfit, i1, s1, by simp [Ctx.put, putRow, hH], fun u hu => hu.imp id (fun e => by rw [e]; exact hN), ?_⟩
                refine .ref k tg 0 (n + m) _ _ (.inl tk) (.inr rfl) hfit (fun _ => ⟨_, rfl⟩) fun r' hr' _ => ⟨fun _ => rfl, fun _ cl e' mk hcl => ?_⟩
                have hcl' : w'.heap[c.φ k]? = some (.cells cl e' mk) := hcl
                rw [hw.at_] at hcl'
                injection hcl' with hcl'
                injection hcl' with hcl'
                have hr3 := hr'
                simp only [Ctx.put] at hr3
                rw [upd_same] at hr3
                injection hr3 with hr3
                injection hr3 with hr3
                rw [← hcl', ← hr3, hsz']
                dsimp only
                rw [b2]
                exact hcap
              · -- a new block
                have hsD : VR (c.world c.w.drew) (.ref k g 0 n) (.slice (some ⟨c.φ k, 0, none⟩) n cap) := hs.mono sD.mono
                obtain ⟨_, hfs⟩ := src_rel (P := P) (c := c.world c.w.drew) (sz := i.size) iD hsD (m := n) (new := (r.cs.drop 0).take (n * r.sz)) (by
                  have hr2 : aRow (c.world c.w.drew).H k g = some r := hr
                  simp [srcOf, sliceCells, hr2]) (by rw [b2]; simp; omega)
                obtain ⟨olds, o1, o2, o3⟩ := hfs n (Nat.le_refl _)
                have hrun := append_grows (P := P) (c := c) (ty := ty) hu hxt hi hzv hby0 hlen d1 o1 (by omega) b6
                have hge := grownCap_ge c.w (n + m) cap e
                have hzl : zv.cells.size = i.size := by
                  obtain ⟨a, _⟩ := zero_cells hz' c
                  omega
                obtain ⟨i1, s1⟩ := move_row (c := c.world c.w.drew) iD hkr b3 { r with gen := tg, cs := r.cs.take (n * i.size) ++ new } ht b3 (olds ++ newsD ++ Builtin.zeroCells zv.cells (grownCap c.w (n + m) cap e - (n + m))) (by simp [o2, d2]; omega) (fun j y hy => by
                  by_cases hj : j < n * i.size
                  · rw [List.getElem?_append_left (by simp; omega)] at hy
                    obtain ⟨u, a1, a2, a3⟩ := o3 j y (by rw [b2]; simp only [List.drop_zero, List.take_take, Nat.min_self]; exact hy)
                    refine ⟨u, ?_, a3, a2⟩
                    have hj' : j < olds.size := (Array.getElem?_eq_some_iff.1 a1).1
                    rw [Array.append_assoc, Array.getElem?_append_left hj']
                    exact a1
                  · rw [List.getElem?_append_right (by simp; omega)] at hy
                    have hlen' : (r.cs.take (n * i.size)).length = n * i.size := by simp; omega
                    rw [hlen'] at hy
                    obtain ⟨u, a1, a2, a3⟩ := d3 _ y hy
                    refine ⟨u, ?_, a3, a2⟩
                    have hj' : j - n * i.size < newsD.size := (Array.getElem?_eq_some_iff.1 a1).1
                    rw [Array.append_assoc, Array.getElem?_append_right (by omega), o2, Array.getElem?_append_left hj']
                    exact a1)
                rw [b1] at i1 s1
                refine ⟨_, _, hrun, i1, sD.trans s1, by simp [Ctx.moved, Ctx.world, putRow, hH, b1], fun u hu => hu.imp id (fun e => by rw [e]; exact hN), ?_⟩
                refine .ref k tg 0 (n + m) _ _ (.inl tk) (.inr rfl) hge (fun _ => ⟨_, rfl⟩) fun r' hr' _ => ⟨fun _ => by simp [Ctx.moved, Ctx.world], fun _ cl e' mk hcl => ?_⟩
                have hr3 := hr'
                simp only [Ctx.moved] at hr3
                rw [upd_same] at hr3
                injection hr3 with hr3
                injection hr3 with hr3
                have hcl' := hcl
                simp only [Ctx.moved, if_true] at hcl'
                rw [alloc_get_new] at hcl'
                injection hcl' with hcl'
                injection hcl' with hcl'
                rw [← hcl', ← hr3]
                dsimp only
                rw [b2]
                simp only [Array.size_append, o2, d2, size_zeroCells, hzl]
                rw [← Nat.add_mul, ← Nat.add_mul]
                exact Nat.mul_le_mul_right _ (by omega)
            · cases h
          · cases h
        · cases h
    · cases h

end

end Go.Proofs.Ytcaemgpificohaa.A
