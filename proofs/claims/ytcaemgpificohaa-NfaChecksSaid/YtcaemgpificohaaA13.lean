/- A, part 13: what is handed over, what comes back: views, seals. -/
import Derived.Test.YtcaemgpificohaaA12
set_option linter.unusedVariables false
set_option linter.unusedSimpArgs false
set_option linter.unnecessarySimpa false
namespace Go.Proofs.Ytcaemgpificohaa.A
open Go

/-- Lists whose parts are related, one by one. -/
def LR (R : AV → Value → Prop) (xs : List AV) (vs : List Value) : Prop := vs.length = xs.length ∧ ∀ (j : Nat) (x : AV) (u : Value), xs[j]? = some x → vs[j]? = some u → R x u
theorem LR.nil {R : AV → Value → Prop} : LR R [] [] := ⟨rfl, fun j x u h => by simp at h⟩
theorem LR.cons {R : AV → Value → Prop} {x : AV} {v : Value} {xs : List AV} {vs : List Value} (h : R x v) (t : LR R xs vs) : LR R (x :: xs) (v :: vs) := by
  refine ⟨by simp [t.1], fun j y u hy hu => ?_⟩
  cases j with
  | zero => simp at hy hu; subst hy; subst hu; exact h
  | succ j => simp at hy hu; exact t.2 j y u hy hu
theorem LR.append {R : AV → Value → Prop} {xs xs' : List AV} {vs vs' : List Value} (h : LR R xs vs) (t : LR R xs' vs') : LR R (xs ++ xs') (vs ++ vs') := by
  refine ⟨by simp [h.1, t.1], fun j y u hy hu => ?_⟩
  by_cases hj : j < xs.length
  · rw [List.getElem?_append_left hj] at hy
    rw [List.getElem?_append_left (by rw [h.1]; exact hj)] at hu
    exact h.2 j y u hy hu
  · rw [List.getElem?_append_right (by omega)] at hy
    rw [List.getElem?_append_right (by rw [h.1]; omega), h.1] at hu
    exact t.2 _ y u hy hu
theorem LR.imp {R R' : AV → Value → Prop} {f : AV → AV} {xs : List AV} {vs : List Value} (h : LR R xs vs) (i : ∀ x v, x ∈ xs → R x v → R' (f x) v) : LR R' (xs.map f) vs := by
  refine ⟨by simp [h.1], fun j y u hy hu => ?_⟩
  rw [List.getElem?_map] at hy
  cases hx : xs[j]? with
  | none => rw [hx] at hy; cases hy
  | some x =>
    rw [hx] at hy
    simp at hy
    subst hy
    exact i x u (List.mem_of_getElem? hx) (h.2 j x u hx hu)
theorem LR.weak {R R' : AV → Value → Prop} {xs : List AV} {vs : List Value} (h : LR R xs vs) (i : ∀ x v, x ∈ xs → R x v → R' x v) : LR R' xs vs := by
  have := h.imp (f := id) i
  simpa using this
theorem ListRel.lr {c : Ctx} : ∀ {xs : List AV} {vs : List Value}, ListRel c xs vs → LR (VR c) xs vs
  | [], [], _ => LR.nil
  | x :: xs, v :: vs, h => LR.cons h.1 (ListRel.lr h.2)
theorem LR.array {R : AV → Value → Prop} {xs : List AV} {us : Array Value} (hl : us.size = xs.length) (h : ∀ (j : Nat) (x : AV) (u : Value), xs[j]? = some x → us[j]? = some u → R x u) : LR R xs us.toList :=
  ⟨by simpa using hl, fun j x u hx hu => h j x u hx (by simpa using hu)⟩

/-! ### what leads to no memory -/
theorem flats_get : ∀ {xs : List AV} {j : Nat} {x : AV}, flat.flats xs = true → xs[j]? = some x → flat x = true
  | [], j, x, _, h => by simp at h
  | y :: ys, j, x, hf, h => by
    simp only [flat.flats, Bool.and_eq_true] at hf
    cases j with
    | zero => simp at h; subst h; exact hf.1
    | succ j => simp at h; exact flats_get hf.2 h
theorem PR.flat {S : Nat → Prop} {w : World} {x : AV} {v : Value} (h : PR S w x v) (S' : Nat → Prop) (w' : World) (hf : A.flat x = true) : PR S' w' x v := by
  induction h with
  | und v => cases hf
  | bool b => exact .bool b
  | int k n => exact .int k n
  | str s => exact .str s
  | agg cs vs hl _ h1 ih => exact .agg cs vs hl (fun j x u hx hu => ih j x u hx hu (flats_get (by simpa [A.flat] using hf) hx)) h1
  | tup cs vs hl _ ih => exact .tup cs vs hl (fun j x u hx hu => ih j x u hx hu (flats_get (by simpa [A.flat] using hf) hx))
  | fn f fs cs us vs hl hl' _ _ ih ih' => cases hf
  | nil => cases hf
  | nilmp => cases hf
  | sl n cs A cap u hn hA ha hc h1 _ ih => cases hf
  | fptr cs a u ha hc h1 _ ih => cases hf
theorem flat_tags (o : Tag → Option AObj) : ∀ (d : Nat) (x : AV), flat x = true → viewTags o d x = []
  | 0, x, _ => rfl
  | d + 1, x, h => by
    cases x with
    | agg cs =>
      simp only [viewTags, List.flatMap_eq_nil_iff]
      intro y hy
      obtain ⟨j, hj⟩ := List.getElem?_of_mem hy
      exact flat_tags o d y (flats_get (by simpa [flat] using h) hj)
    | tup cs =>
      simp only [viewTags, List.flatMap_eq_nil_iff]
      intro y hy
      obtain ⟨j, hj⟩ := List.getElem?_of_mem hy
      exact flat_tags o d y (flats_get (by simpa [flat] using h) hj)
    | ref => cases h
    | fn => cases h
    | _ => rfl

/-! ### what is seen -/
theorem view0_rel {c : Ctx} {x : AV} {v : Value} (h : VR c x v) (S : Nat → Prop) (hS : ∀ b, c.S b → S b) : PR S c.w (view0 x) v := by
  have key : ∀ {y : AV}, PR c.S c.w y v → PR S c.w y v := fun h => h.mono hS (fun _ _ => rfl)
  cases x with
  | bool b => cases h with | data _ _ h => exact key h
  | int => cases h with | data _ _ h => exact key h
  | str => cases h with | data _ _ h => exact key h
  | nil =>
    obtain rfl := h.nil_
    exact .sl 0 [] none 0 (fun _ => undef) (Nat.le_refl _) (fun h => by omega) (fun h => absurd rfl h) (fun a j x _ hx => by simp at hx) (fun j x hx => by simp at hx) (fun j x hx => by simp at hx)
  | sl => cases h with | data _ _ h => exact key h
  | fptr => cases h with | data _ _ h => exact key h
  | nilmp => cases h with | data _ _ h => exact key h
  | _ => exact .und v

theorem view_rel {c : Ctx} (hI : Inv c) (S : Nat → Prop) (hS : ∀ b, c.S b → S b) : ∀ (d : Nat) (x : AV) (v : Value), VR c x v → (∀ k r, k ∈ viewTags c.H d x → c.H k = some (.row r) → S (c.φ k)) → PR S c.w (view c.H d x) v
  | 0, x, v, h, _ => view0_rel h S hS
  | d + 1, x, v, h, ht => by
    have IH := view_rel hI S hS d
    cases x with
    | agg cs =>
      obtain ⟨vs, rfl, hl, hh, h1⟩ := h.agg_
      refine .agg _ vs (by simpa using hl) (fun j y u hy hu => ?_) h1
      rw [List.getElem?_map] at hy
      cases hx : cs[j]? with
      | none => rw [hx] at hy; cases hy
      | some x =>
        rw [hx] at hy
        simp at hy
        subst hy
        exact IH x u (hh j x u hx hu) (fun k r hk => ht k r (List.mem_flatMap.2 ⟨x, List.mem_of_getElem? hx, hk⟩))
    | tup cs =>
      obtain ⟨vs, rfl, hl, hh⟩ := h.tup_
      refine .tup _ vs (by simpa using hl) (fun j y u hy hu => ?_)
      rw [List.getElem?_map] at hy
      cases hx : cs[j]? with
      | none => rw [hx] at hy; cases hy
      | some x =>
        rw [hx] at hy
        simp at hy
        subst hy
        exact IH x u (hh j x u hx hu) (fun k r hk => ht k r (List.mem_flatMap.2 ⟨x, List.mem_of_getElem? hx, hk⟩))
    | fn f fs cs =>
      obtain ⟨us, vs, rfl, hl, hl', hh, hh'⟩ := h.fn_
      refine .fn f _ _ us vs (by simpa using hl) (by simpa using hl') (fun j y u hy hu => ?_) (fun j y u hy hu => ?_)
      · rw [List.getElem?_map] at hy
        cases hx : fs[j]? with
        | none => rw [hx] at hy; cases hy
        | some x =>
          rw [hx] at hy
          simp at hy
          subst hy
          exact IH x u (hh j x u hx hu) (fun k r hk => ht k r (List.mem_append_left _ (List.mem_flatMap.2 ⟨x, List.mem_of_getElem? hx, hk⟩)))
      · rw [List.getElem?_map] at hy
        cases hx : cs[j]? with
        | none => rw [hx] at hy; cases hy
        | some x =>
          rw [hx] at hy
          simp at hy
          subst hy
          exact IH x u (hh' j x u hx hu) (fun k r hk => ht k r (List.mem_append_right _ (List.mem_flatMap.2 ⟨x, List.mem_of_getElem? hx, hk⟩)))
    | ref k g off n =>
      obtain ⟨_, _, A, cap, rfl, hn, hA, hr⟩ := h.ref_
      simp only [view]
      split
      · rename_i r hrow
        split
        · rename_i hfit
          obtain ⟨hHk, _⟩ := aRow_some hrow
          obtain ⟨hA', _⟩ := hr r hrow
          have hcell := row_cells hI hHk off
          simp only [viewTags, hrow] at ht
          have hpos : ∀ {j : Nat} {y : AV}, ((r.cs.drop off).take (n * r.sz))[j]? = some y → 0 < n := fun {j y} hy => by
            rcases Nat.eq_zero_or_pos n with h0 | h0
            · subst h0; simp at hy
            · exact h0
          have hdrop : ∀ {j : Nat} {y : AV}, ((r.cs.drop off).take (n * r.sz))[j]? = some y → (r.cs.drop off)[j]? = some y := fun {j y} hy => by
            have := (List.getElem?_eq_some_iff.1 hy).1
            rw [List.getElem?_take_of_lt (by simp at this; omega)] at hy
            exact hy
          have hvs : ∀ (j : Nat), ∃ u : Value, ∀ (y : AV), ((r.cs.drop off).take (n * r.sz))[j]? = some y → c.w.cell? ((⟨c.φ k, off, none⟩ : Addr).add j) = some u ∧ u.oneCell' = true ∧ VR c y u := fun j => by
            cases hy : ((r.cs.drop off).take (n * r.sz))[j]? with
            | none => exact ⟨undef, fun y h => by cases h⟩
            | some y =>
              obtain ⟨u, hu⟩ := hcell j y (hdrop hy)
              exact ⟨u, fun y' h => by injection h with h; subst h; exact hu⟩
          have hmap : ∀ {j : Nat} {x : AV}, (((r.cs.drop off).take (n * r.sz)).map (view c.H d))[j]? = some x → ∃ y, ((r.cs.drop off).take (n * r.sz))[j]? = some y ∧ x = view c.H d y := fun {j x} hx => by
            rw [List.getElem?_map] at hx
            cases hy : ((r.cs.drop off).take (n * r.sz))[j]? with
            | none => rw [hy] at hx; cases hx
            | some y => rw [hy] at hx; simp at hx; exact ⟨y, rfl, hx.symm⟩
          refine .sl n _ A cap (fun j => (hvs j).choose) hn (fun h0 => hA (.inr h0)) (fun hne => ?_) (fun a j x ha hx => ?_) (fun j x hx => ?_) (fun j x hx => ?_)
          · have : 0 < n := by
              rcases Nat.eq_zero_or_pos n with h0 | h0
              · subst h0; simp at hne
              · exact h0
            exact ⟨_, hA' (.inr this), ht k r (List.mem_cons_self ..) hHk⟩
          · obtain ⟨y, hy, rfl⟩ := hmap hx
            rw [hA' (.inr (hpos hy))] at ha
            injection ha with ha
            subst ha
            exact ((hvs j).choose_spec y hy).1
          · obtain ⟨y, hy, rfl⟩ := hmap hx
            exact ((hvs j).choose_spec y hy).2.1
          · obtain ⟨y, hy, rfl⟩ := hmap hx
            exact IH y _ ((hvs j).choose_spec y hy).2.2 (fun k' r' hk' => ht k' r' (List.mem_cons_of_mem _ (List.mem_flatMap.2 ⟨y, List.mem_of_getElem? hy, hk'⟩)))
        · exact .und _
      · exact .und _
    | und => exact view0_rel h S hS
    | bool => exact view0_rel h S hS
    | int => exact view0_rel h S hS
    | str => exact view0_rel h S hS
    | nil => exact view0_rel h S hS
    | sl => exact view0_rel h S hS
    | fptr => exact view0_rel h S hS
    | ptr => exact view0_rel h S hS
    | mp => exact view0_rel h S hS
    | nilmp => exact view0_rel h S hS

/-! ### calls -/
def EnterOk (P : Program) (g : FuncId) : Prop := ∃ fn, P.funcs[g]? = some fn ∧ (fn.name == "runtime.NumGoroutine") = false ∧ fn.body.isNone = false
/-- What a call on data hands back: data, and nothing of old is written. -/
def RetP (S : Nat → Prop) (w : World) (r : AV) : Ending → World → Prop := fun e w' => ∃ v S', e = .returned v ∧ RowKit.Below w.heap.size w w' ∧ PR S' w' r v ∧ (∀ b, S b → S' b) ∧ ∀ b, S' b → (S b ∨ w.heap.size ≤ b) ∧ b < w'.heap.size
def CPSound (P : Program) (cp : CallP) : Prop := ∀ g args r, cp g args = some r → EnterOk P g ∧ ∀ (S : Nat → Prop) (w : World) (cargs : List Value), LR (PR S w) args cargs → (∀ b, S b → b < w.heap.size) → Calls P g cargs.toArray w (RetP S w r)
def RetR (c : Ctx) (nx nx' : Nat) (Ho : Tag → Option AObj) (v : AV) : Ending → World → Prop := fun e w' => ∃ u c', e = .returned u ∧ c'.w = w' ∧ Inv c' ∧ Step c c' ∧ c'.H = Ho ∧ VR c' v u ∧ ∀ t, c'.T t → c.T t ∨ (nx ≤ t.1 ∧ t.1 < nx')
def CRSound (P : Program) (cr : CallR) : Prop := ∀ g args H v H', cr g args H = some (v, H') → EnterOk P g ∧ H.nx ≤ H'.nx ∧ ∀ (c : Ctx) (cargs : List Value), Inv c → c.H = H.o → (∀ t, c.T t → t.1 < H.nx) → LR (VR c) args cargs → Calls P g cargs.toArray c.w (RetR c H.nx H'.nx H'.o v)

/-- A context with more that nobody writes. -/
def Ctx.wide (c : Ctx) (S : Nat → Prop) (w : World) : Ctx := { c with S := S, w := w }
theorem step_below {c : Ctx} (hI : Inv c) {w : World} (hb : RowKit.Below c.w.heap.size c.w w) (S : Nat → Prop) (hS : ∀ b, c.S b → S b) (hS' : ∀ b, S b → (c.S b ∨ c.w.heap.size ≤ b) ∧ b < w.heap.size) : Inv (c.wide S w) ∧ Step c (c.wide S w) := by
  have m : Mono c (c.wide S w) := by
    refine ⟨hS, fun b hs => hb.block b (hI.imm b hs), fun _ h => h, fun k r h => .inl ⟨r, h, rfl, rfl, rfl, fun cells e m hc => ⟨cells, e, m, ?_, Nat.le_refl _⟩⟩, fun _ es h => .inl ⟨es, h, rfl⟩⟩
    rw [← hc]
    exact (hb.block _ (hI.lt h)).symm
  refine ⟨⟨fun b h => (hS' b h).2, fun k r hr => ?_, fun k es hes => ?_, hI.inj⟩, ⟨hb.os, hb.tape, hb.output, hb.size, fun b h _ => hb.block b h, m, fun b h => ?_, fun k h => .inr ⟨k, h, rfl⟩⟩⟩
  · obtain ⟨h1, h2, h3, h4, cells, mk, hc, hp, hm, hl, hx⟩ := hI.row k r hr
    refine ⟨h1, h2, fun h => hS _ (h3 h), fun h hs => ?_, cells, mk, ?_, hp, hm, hl, fun j x hj => ?_⟩
    · rcases (hS' _ hs).1 with h' | h'
      · exact h4 h h'
      · have := hI.lt hr
        exact absurd h' (by simp only [Ctx.wide]; omega)
    · rw [← hc]
      exact hb.block _ (hI.lt hr)
    · obtain ⟨u, hu1, hu2, hu3⟩ := hx j x hj
      exact ⟨u, hu1, hu2, hu3.mono m⟩
  · obtain ⟨h1, h2, en, cl, hc, hl, hx⟩ := hI.map k es hes
    refine ⟨h1, fun hs => ?_, en, cl, ?_, hl, fun j x e hj he => ?_⟩
    · rcases (hS' _ hs).1 with h' | h'
      · exact h2 h'
      · have := hI.lt hes
        exact absurd h' (by simp only [Ctx.wide]; omega)
    · rw [← hc]
      exact hb.block _ (hI.lt hes)
    · obtain ⟨a, b⟩ := hx j x e hj he
      exact ⟨a.mono m, b.mono m⟩
  · rcases (hS' b h).1 with h' | h'
    · exact .inl h'
    · exact .inr (.inl h')

/-- A pure call: what the continuation is handed. -/
theorem pure_call {P : Program} {c : Ctx} (hI : Inv c) {cp : CallP} (hP : CPSound P cp) {g : FuncId} {as_ : List AV} {cargs : List Value} {sc : Bool} {r v : AV} {H H' : AH} (hH : c.H = H.o) (hr : cp g (as_.map (view H.o vDepth)) = some r)
    (hf : freezeP sc as_ r H = some (v, H')) (ha : LR (VR c) as_ cargs) : EnterOk P g ∧ H'.nx = H.nx ∧ Calls P g cargs.toArray c.w (RetR c H.nx H'.nx H'.o v) := by
  obtain ⟨hE, hcall⟩ := hP g _ r hr
  refine ⟨hE, ?_, ?_⟩
  · unfold freezeP at hf
    split at hf
    · split at hf
      · injection hf with hf; injection hf with h1 h2; rw [← h2]
      · cases hf
    · injection hf with hf; injection hf with h1 h2; rw [← h2]
  let ts := as_.flatMap (viewTags H.o vDepth)
  obtain ⟨i1, s1⟩ := shut_rows hI ts
  have hargs : LR (PR (c.shut ts).S c.w) (as_.map (view H.o vDepth)) cargs := ha.imp fun x v' hx hv => by
    rw [← hH]
    refine view_rel hI _ s1.mono.S vDepth x v' hv (fun k rr hk hrow => ?_)
    exact .inr ⟨k, rr, List.mem_flatMap.2 ⟨x, hx, by rw [← hH]; exact hk⟩, hrow, rfl⟩
  refine (hcall (c.shut ts).S c.w cargs hargs i1.imm).mono ?_
  rintro e w' ⟨u, S', rfl, hb, hpr, hS1, hS2⟩
  unfold freezeP at hf
  split at hf
  · split at hf
    · rename_i hfl
      injection hf with hf
      injection hf with h1 h2
      subst h1; subst h2
      obtain ⟨i2, s2⟩ := step_below hI hb c.S (fun _ h => h) (fun b h => ⟨.inl h, Nat.lt_of_lt_of_le (hI.imm b h) hb.size⟩)
      exact ⟨u, c.wide c.S w', rfl, rfl, i2, s2, hH, .data _ _ (hpr.flat _ _ hfl), fun t ht => .inl ht⟩
    · cases hf
  · injection hf with hf
    injection hf with h1 h2
    subst h1; subst h2
    obtain ⟨i2, s2⟩ := step_below (c := c.shut ts) i1 hb S' hS1 hS2
    refine ⟨u, (c.shut ts).wide S' w', rfl, rfl, i2, s1.trans s2, ?_, .data _ _ hpr, fun t ht => .inl ht⟩
    show sealed ts c.H = _
    rw [hH]

theorem raw_call {P : Program} {c : Ctx} (hI : Inv c) {cr : CallR} (hR : CRSound P cr) {g : FuncId} {as_ : List AV} {cargs : List Value} {frz : Bool} {r : AV} {H H1 : AH} (hH : c.H = H.o) (hnx : ∀ t, c.T t → t.1 < H.nx) (hr : cr g as_ H = some (r, H1))
    (ha : LR (VR c) as_ cargs) : EnterOk P g ∧ H.nx ≤ (freezeR frz r H1).2.nx ∧ Calls P g cargs.toArray c.w (RetR c H.nx (freezeR frz r H1).2.nx (freezeR frz r H1).2.o (freezeR frz r H1).1) := by
  obtain ⟨hE, hle, hcall⟩ := hR g as_ H r H1 hr
  have hnx1 : (freezeR frz r H1).2.nx = H1.nx := by
    unfold freezeR
    split
    · dsimp only
      split <;> rfl
    · rfl
  rw [hnx1]
  refine ⟨hE, hle, (hcall c cargs hI hH hnx ha).mono ?_⟩
  rintro e w' ⟨u, c', rfl, rfl, i', s', hH', hv, hT⟩
  unfold freezeR
  split
  · dsimp only
    split
    · rename_i hfl
      refine ⟨u, c', rfl, rfl, i', s', hH', .data _ _ ?_, hT⟩
      rw [← hH']
      exact view_rel i' _ (fun _ h => h) vDepth r u hv (fun k rr hk => by rw [flat_tags _ _ _ hfl] at hk; cases hk)
    · obtain ⟨i2, s2⟩ := shut_rows i' (viewTags H1.o vDepth r)
      refine ⟨u, c'.shut (viewTags H1.o vDepth r), rfl, rfl, i2, s'.trans s2, by show sealed _ c'.H = _; rw [hH'], .data _ _ ?_, hT⟩
      have key := view_rel i' (c'.shut (viewTags H1.o vDepth r)).S s2.mono.S vDepth r u hv (fun k rr hk hrow => .inr ⟨k, rr, by rw [← hH']; exact hk, hrow, rfl⟩)
      rw [hH'] at key
      exact key
  · exact ⟨u, c', rfl, rfl, i', s', hH', hv, hT⟩

end Go.Proofs.Ytcaemgpificohaa.A
