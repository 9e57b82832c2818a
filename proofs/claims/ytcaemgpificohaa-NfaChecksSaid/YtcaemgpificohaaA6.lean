/- A, part 6: what single readings and writings do in the machine. -/
import Derived.Test.YtcaemgpificohaaA5
import Derived.Laws.Cells
import Derived.Laws.Entries
import Derived.Laws.AppendOwn
import Derived.Laws.CopyRow
import Derived.Laws.NewFold
set_option linter.unusedVariables false
set_option linter.unusedSimpArgs false
set_option linter.unnecessarySimpa false
namespace Go.Proofs.Ytcaemgpificohaa.A
open Go

/-! ### reading the relation -/
section
variable {c : Ctx} {v : Value}
theorem VR.int_ {k : IntKind} {n : Int} (h : VR c (.int k n) v) : v = .int k n := by cases h with | data _ _ h => cases h; rfl
theorem VR.bool_ {b : Bool} (h : VR c (.bool b) v) : v = .bool b := by cases h with | data _ _ h => cases h; rfl
theorem VR.str_ {s : List UInt8} (h : VR c (.str s) v) : v = .string ⟨s.toArray⟩ := by cases h with | data _ _ h => cases h; rfl
theorem VR.nil_ (h : VR c .nil v) : v = .slice none 0 0 := by cases h with | data _ _ h => cases h; rfl
theorem VR.nilmp_ (h : VR c .nilmp v) : v = .map none := by cases h with | data _ _ h => cases h; rfl
theorem VR.agg_ {cs : List AV} (h : VR c (.agg cs) v) : ∃ vs : Array Value, v = .agg vs ∧ vs.size = cs.length ∧ (∀ (j : Nat) (x : AV) (u : Value), cs[j]? = some x → vs[j]? = some u → VR c x u) ∧ (∀ (j : Nat) (u : Value), vs[j]? = some u → u.oneCell' = true) := by
  cases h with
  | data _ _ h => cases h with | agg _ vs hl h h1 => exact ⟨vs, rfl, hl, fun j x u a b => .data _ _ (h j x u a b), h1⟩
  | agg _ vs hl h h1 => exact ⟨vs, rfl, hl, h, h1⟩
theorem VR.tup_ {cs : List AV} (h : VR c (.tup cs) v) : ∃ vs : Array Value, v = .tuple vs ∧ vs.size = cs.length ∧ (∀ (j : Nat) (x : AV) (u : Value), cs[j]? = some x → vs[j]? = some u → VR c x u) := by
  cases h with
  | data _ _ h => cases h with | tup _ vs hl h => exact ⟨vs, rfl, hl, fun j x u a b => .data _ _ (h j x u a b)⟩
  | tup _ vs hl h => exact ⟨vs, rfl, hl, h⟩
theorem VR.fn_ {f : Fn} {fs cs : List AV} (h : VR c (.fn f fs cs) v) : ∃ us vs : Array Value, v = .func f us vs ∧ us.size = fs.length ∧ vs.size = cs.length ∧ (∀ (j : Nat) (x : AV) (u : Value), fs[j]? = some x → us[j]? = some u → VR c x u) ∧ (∀ (j : Nat) (x : AV) (u : Value), cs[j]? = some x → vs[j]? = some u → VR c x u) := by
  cases h with
  | data _ _ h => cases h with | fn _ _ _ us vs hl hl' h h' => exact ⟨us, vs, rfl, hl, hl', fun j x u a b => .data _ _ (h j x u a b), fun j x u a b => .data _ _ (h' j x u a b)⟩
  | fn _ _ _ us vs hl hl' h h' => exact ⟨us, vs, rfl, hl, hl', h, h'⟩
theorem VR.sl_ {n : Nat} {cs : List AV} (h : VR c (.sl n cs) v) : ∃ A cap, v = .slice A n cap ∧ n ≤ cap ∧ (0 < n → ∃ a, A = some a) ∧ (cs ≠ [] → ∃ a, A = some a ∧ c.S a.block) ∧ (∀ (a : Addr) (j : Nat) (x : AV), A = some a → cs[j]? = some x → ∃ u : Value, c.w.cell? (a.add j) = some u ∧ u.oneCell' = true ∧ PR c.S c.w x u) := by
  cases h with
  | data _ _ h => cases h with | sl _ _ A cap u hn hA ha hc h1 h => exact ⟨A, cap, rfl, hn, hA, ha, fun a j x hA hx => ⟨u j, hc a j x hA hx, h1 j x hx, h j x hx⟩⟩
theorem VR.fptr_ {cs : List AV} (h : VR c (.fptr cs) v) : ∃ a : Addr, v = .pointer (some a) ∧ (cs ≠ [] → c.S a.block) ∧ (∀ (j : Nat) (x : AV), cs[j]? = some x → ∃ u : Value, c.w.cell? (a.add j) = some u ∧ u.oneCell' = true ∧ PR c.S c.w x u) := by
  cases h with
  | data _ _ h => cases h with | fptr _ a u ha hc h1 h => exact ⟨a, rfl, ha, fun j x hx => ⟨u j, hc j x hx, h1 j x hx, h j x hx⟩⟩
theorem VR.ref_ {k g : Tag} {off n : Nat} (h : VR c (.ref k g off n) v) : c.T k ∧ c.T g ∧ ∃ A cap, v = .slice A n cap ∧ n ≤ cap ∧ (off = 0 ∨ 0 < n → ∃ a, A = some a) ∧ ∀ r, aRow c.H k g = some r → (off = 0 ∨ 0 < n → A = some ⟨c.φ k, off, none⟩) ∧ (off = 0 → ∀ cells e m, c.w.heap[c.φ k]? = some (.cells cells e m) → cap * r.sz ≤ cells.size) := by
  cases h with
  | data _ _ h => cases h
  | ref _ _ _ _ A cap hk hg hn hA h =>
    refine ⟨hk, hg, A, cap, rfl, hn, hA, fun r hr => ?_⟩
    unfold aRow at hr
    split at hr
    · rename_i r' hr'
      split at hr
      · rename_i e
        injection hr with hr
        subst hr
        exact h r' hr' e
      · cases hr
    · cases hr
theorem VR.ptr_ {k g : Tag} {off : Nat} (h : VR c (.ptr k g off) v) : c.T k ∧ c.T g ∧ ∃ a, v = .pointer (some a) ∧ ∀ r, aRow c.H k g = some r → a = ⟨c.φ k, off, none⟩ := by
  cases h with
  | data _ _ h => cases h
  | ptr _ _ _ a hk hg h =>
    refine ⟨hk, hg, a, rfl, fun r hr => ?_⟩
    unfold aRow at hr
    split at hr
    · rename_i r' hr'
      split at hr
      · rename_i e
        exact h r' hr' e
      · cases hr
    · cases hr
theorem VR.mp_ {k : Tag} (h : VR c (.mp k) v) : c.T k ∧ v.oneCell' = true ∧ ∀ es, c.H k = some (.map es) → v = .map (some (c.φ k)) := by
  cases h with
  | data _ _ h => cases h
  | mp _ _ hk h1 h => exact ⟨hk, h1, h⟩
end

theorem aRow_some {H : Tag → Option AObj} {k g : Tag} {r : Row} (h : aRow H k g = some r) : H k = some (.row r) ∧ r.gen = g := by
  unfold aRow at h
  split at h
  · rename_i r' hr'
    split at h
    · rename_i e
      injection h with h
      subst h
      exact ⟨hr', e⟩
    · cases h
  · cases h

theorem VR.noV_ (c : Ctx) : VR c noV undef := .data _ _ (.tup [] #[] rfl (fun j x u h => by simp at h))
theorem VR.int (c : Ctx) (k n) : VR c (.int k n) (.int k n) := .data _ _ (.int k n)
theorem VR.bool (c : Ctx) (b) : VR c (.bool b) (.bool b) := .data _ _ (.bool b)
theorem VR.str (c : Ctx) (s) : VR c (.str s) (.string ⟨s.toArray⟩) := .data _ _ (.str s)

theorem one_cells {u : Value} (h : u.oneCell' = true) : u.cells = #[u] := by cases u <;> first | rfl | (simp [Value.oneCell'] at h)
theorem VR.one {c : Ctx} {x : AV} {v : Value} (h : VR c x v) (hc : cellOk x = true) : v.oneCell' = true := by
  cases h with
  | data _ _ h => cases h <;> first | rfl | (simp [cellOk] at hc)
  | agg => simp [cellOk] at hc
  | tup => simp [cellOk] at hc
  | fn => rfl
  | ref => rfl
  | ptr => rfl
  | mp _ _ _ h1 => exact h1

/-- A value's cells. -/
theorem VR.cells {c : Ctx} {x : AV} {v : Value} (h : VR c x v) (hc : x.cells.all cellOk = true) : v.cells.size = x.cells.length ∧ ∀ (j : Nat) (y : AV) (u : Value), x.cells[j]? = some y → v.cells[j]? = some u → VR c y u ∧ u.oneCell' = true := by
  by_cases ha : ∃ cs, x = .agg cs
  · obtain ⟨cs, rfl⟩ := ha
    obtain ⟨vs, rfl, hl, hh, h1⟩ := h.agg_
    exact ⟨hl, fun j y u hy hu => ⟨hh j y u hy hu, h1 j u hu⟩⟩
  · have e : x.cells = [x] := by cases x <;> first | rfl | exact absurd ⟨_, rfl⟩ ha
    rw [e] at hc ⊢
    have h1 := h.one (by simpa using hc)
    rw [one_cells h1]
    refine ⟨rfl, fun j y u hy hu => ?_⟩
    cases j with
    | zero =>
      simp at hy hu
      subst hy; subst hu
      exact ⟨h, h1⟩
    | succ j => simp at hy

/-! ### constants -/
theorem ofCell_rel {v : Value} {x : AV} (h : ofCell v = some x) (S : Nat → Prop) (w : World) : PR S w x v ∧ v.oneCell' = true ∧ cellOk x = true := by
  unfold ofCell at h
  split at h <;> first | (injection h with h; subst h; first | exact ⟨.bool _, rfl, rfl⟩ | exact ⟨.int _ _, rfl, rfl⟩ | exact ⟨.nil, rfl, rfl⟩ | exact ⟨.nilmp, rfl, rfl⟩ | skip) | skip
  · rename_i s
    exact ⟨by have := PR.str (S := S) (w := w) s.data.toList; simpa using this, rfl, rfl⟩
  · rename_i f a b
    split at h
    · rename_i hs
      injection h with h
      subst h
      exact ⟨.fn _ _ _ _ _ (by simp [hs.1]) (by simp [hs.2]) (fun j x u hx => by simp at hx) (fun j x u hx => by simp at hx), rfl, rfl⟩
    · cases h
  · cases h
theorem ofCells_rel : ∀ {vs : List Value} {xs : List AV}, ofCells vs = some xs → ∀ (S : Nat → Prop) (w : World), vs.length = xs.length ∧ ∀ (j : Nat) (x : AV) (u : Value), xs[j]? = some x → vs[j]? = some u → PR S w x u ∧ u.oneCell' = true ∧ cellOk x = true
  | [], xs, h, S, w => by
    simp only [ofCells] at h
    injection h with h
    subst h
    exact ⟨rfl, fun j x u hx => by simp at hx⟩
  | v :: vs, xs, h, S, w => by
    simp only [ofCells] at h
    split at h
    · rename_i x xs' hx hxs
      injection h with h
      subst h
      obtain ⟨hl, hh⟩ := ofCells_rel hxs S w
      refine ⟨by simp [hl], fun j y u hy hu => ?_⟩
      cases j with
      | zero =>
        simp at hy hu
        subst hy; subst hu
        exact ofCell_rel hx S w
      | succ j =>
        simp at hy hu
        exact hh j y u hy hu
    · cases h
theorem ofConst_rel {v : Value} {x : AV} (h : ofConst v = some x) (S : Nat → Prop) (w : World) : PR S w x v := by
  unfold ofConst at h
  split at h
  · rename_i cs
    cases hc : ofCells cs.toList with
    | none => rw [hc] at h; cases h
    | some xs =>
      rw [hc] at h
      simp only [Option.map_some] at h
      injection h with h
      subst h
      obtain ⟨hl, hh⟩ := ofCells_rel hc S w
      refine .agg _ _ (by simpa using hl) (fun j x u hx hu => (hh j x u hx (by simpa using hu)).1) (fun j u hu => ?_)
      have hj : j < cs.size := (Array.getElem?_eq_some_iff.1 hu).1
      have hj' : j < xs.length := by rw [← hl]; simpa using hj
      exact (hh j _ u (List.getElem?_eq_getElem hj') (by simpa using hu)).2.1
  · split at h
    · rename_i vs hs
      injection h with h
      subst h
      exact .tup _ _ (by simp [hs]) (fun j x u hx => by simp at hx)
    · cases h
  · exact (ofCell_rel h S w).1

/-! ### the frame -/
structure AR (c : Ctx) (a : AAct) (ca : Act) : Prop where
  defers : ca.defers = []
  slot : ∀ t, VR c (a t) (ca.tmps.getD t undef)
theorem AR.mono {c c' : Ctx} (m : Mono c c') {a : AAct} {ca : Act} (h : AR c a ca) : AR c' a ca := ⟨h.defers, fun t => (h.slot t).mono m⟩
theorem opd_rel {c : Ctx} {a : AAct} {ca : Act} (h : AR c a ca) {x : Operand} {v : AV} (hv : opd a x = some v) : VR c v (ca.eval x) := by
  cases x with
  | tmp t => simp only [opd] at hv; injection hv with hv; subst hv; exact h.slot t
  | const u => exact .data _ _ (ofConst_rel hv _ _)
  | global g => cases hv
  | func f =>
    simp only [opd] at hv
    injection hv with hv
    subst hv
    exact .data _ _ (.fn _ _ _ #[] #[] rfl rfl (fun j x u hx => by simp at hx) (fun j x u hx => by simp at hx))
theorem AR.put {c : Ctx} {a : AAct} {ca : Act} (h : AR c a ca) (d : Option Nat) (hd : ∀ t, d = some t → t < ca.tmps.size) {v : AV} {u : Value} (hv : VR c v u) : AR c (putO a d v) (ca.put d u) := by
  cases d with
  | none => exact h
  | some t =>
    have ht := hd t rfl
    refine ⟨h.defers, fun s => ?_⟩
    simp only [putO, A.put, Act.put]
    by_cases e : s = t
    · subst e
      rw [if_pos rfl]
      simp only [Array.getD_eq_getD_getElem?, Array.getElem?_setIfInBounds_self_of_lt ht, Option.getD_some]
      exact hv
    · rw [if_neg e]
      simp only [Array.getD_eq_getD_getElem?, Array.getElem?_setIfInBounds_ne (Ne.symm e)]
      have := h.slot s
      simpa only [Array.getD_eq_getD_getElem?] using this
theorem put_size (ca : Act) (d : Option Nat) (u : Value) : (ca.put d u).tmps.size = ca.tmps.size := by cases d <;> simp [Act.put]

/-! ### reading cells -/
section
variable {P : Program} {c : Ctx}
theorem tAgg_run {t : TypeId} {b : Bool} (h : tAgg P t = some b) (w : World) : (isAgg t).run P w = .ok b w := by
  unfold tAgg at h
  split at h
  · rename_i hu
    injection h with h; subst h; simp [isAgg, run_underlying hu]
  · rename_i hu
    injection h with h; subst h; simp [isAgg, run_underlying hu]
  · rename_i hu
    injection h with h; subst h
    rename_i d h1 h2
    revert h1 h2 hu
    cases d <;> intro h1 h2 hu <;> first | (simp [isAgg, run_underlying hu]; done) | exact absurd rfl (h1 _) | exact absurd rfl (h2 _ _)
  · cases h
theorem tSize_info {t : TypeId} {n : Nat} (h : tSize P t = some n) : ∃ i, P.info? t = some i ∧ i.size = n := by
  unfold tSize at h
  cases hi : P.info? t with
  | none => rw [hi] at h; cases h
  | some i => rw [hi] at h; simp at h; exact ⟨i, rfl, h⟩
theorem tSize_run {t : TypeId} {n : Nat} (h : tSize P t = some n) (w : World) : (sizeOf t).run P w = .ok n w := by
  obtain ⟨i, hi, rfl⟩ := tSize_info h
  simp [sizeOf, typeInfo, hi]

/-- A value of a type, loaded from where its cells lie. -/
theorem load_rel {t : TypeId} {a : Addr} {cs : List AV} {x : AV} (hcs : ∀ (j : Nat) (y : AV), cs[j]? = some y → ∃ u : Value, c.w.cell? (a.add j) = some u ∧ u.oneCell' = true ∧ VR c y u) (h : takeT P t cs = some x) :
    ∃ v, (loadVar t a).run P c.w = .ok v c.w ∧ VR c x v := by
  unfold takeT at h
  split at h
  · rename_i b n hb hn
    cases b with
    | true =>
      simp only [take1] at h
      split at h
      · rename_i hle
        injection h with h
        subst h
        have hex : ∀ j, ∃ u : Value, j < n → c.w.cell? (a.add j) = some u ∧ u.oneCell' = true ∧ ∀ y, cs[j]? = some y → VR c y u := fun j => by
          by_cases hj : j < n
          · obtain ⟨u, h1, h2, h3⟩ := hcs j _ (List.getElem?_eq_getElem (show j < cs.length by omega))
            exact ⟨u, fun _ => ⟨h1, h2, fun y hy => by rw [List.getElem?_eq_getElem (show j < cs.length by omega)] at hy; injection hy with hy; subst hy; exact h3⟩⟩
          · exact ⟨undef, fun h => absurd h hj⟩
        have hf := Classical.axiomOfChoice hex
        obtain ⟨f, hf⟩ := hf
        have hr := run_loadCells (P := P) c.w a n f (fun j hj => (hf j hj).1)
        refine ⟨.agg ((List.range n).map f).toArray, ?_, .agg _ _ (by simp; omega) (fun j y u hy hu => ?_) (fun j u hu => ?_)⟩
        · simp only [loadVar, Sem.run_bind, tAgg_run hb, tSize_run hn, Result.andThen_ok, if_true, hr, Sem.run_pure]
        · have hj : j < n := by have := (List.getElem?_eq_some_iff.1 hy).1; simp at this; omega
          rw [List.getElem?_take, if_pos hj] at hy
          have : u = f j := by simpa [hj] using hu.symm
          rw [this]
          exact (hf j hj).2.2 y hy
        · have hj : j < n := by have := (Array.getElem?_eq_some_iff.1 hu).1; simpa using this
          have : u = f j := by simpa [hj] using hu.symm
          rw [this]
          exact (hf j hj).2.1
      · cases h
    | false =>
      cases cs with
      | nil => cases h
      | cons y ys =>
        simp only [take1] at h
        injection h with h
        subst h
        obtain ⟨u, h1, _, h3⟩ := hcs 0 y rfl
        have h1' : c.w.cell? a = some u := by simpa [Addr.add] using h1
        refine ⟨u, ?_, h3⟩
        simp only [loadVar, Sem.run_bind, tAgg_run hb, Result.andThen_ok, Bool.false_eq_true, if_false, run_load, h1']
  · cases h
end

theorem plain_add (b o n : Nat) : (⟨b, o, none⟩ : Addr).add n = ⟨b, o + n, none⟩ := by
  unfold Addr.add
  split
  · subst_vars; rfl
  · rfl

/-- A live row's cells. -/
theorem row_cells {c : Ctx} (h : Inv c) {k : Tag} {r : Row} (hr : c.H k = some (.row r)) (off : Nat) : ∀ (j : Nat) (y : AV), (r.cs.drop off)[j]? = some y → ∃ u : Value, c.w.cell? ((⟨c.φ k, off, none⟩ : Addr).add j) = some u ∧ u.oneCell' = true ∧ VR c y u := by
  intro j y hy
  obtain ⟨_, _, _, _, cells, mk, hc, _, _, hl, hx⟩ := h.row k r hr
  rw [List.getElem?_drop] at hy
  obtain ⟨u, h1, h2, h3⟩ := hx _ y hy
  refine ⟨u, ?_, h2, h3⟩
  rw [plain_add]
  simp [World.cell?, hc, h1]

theorem aLoad_rel {P : Program} {c : Ctx} (hI : Inv c) {t : TypeId} {p v : AV} {pv : Value} {H : AH} (hH : c.H = H.o) (hp : VR c p pv) (h : aLoad P t p H = some v) :
    ∃ cv, (Instr.loadAt t pv).run P c.w = .ok cv c.w ∧ VR c v cv := by
  unfold aLoad at h
  split at h
  · rename_i k g off
    split at h
    · rename_i r hr
      rw [← hH] at hr
      obtain ⟨_, _, _, rfl, hv⟩ := hp.ptr_
      obtain rfl := hv r hr
      obtain ⟨cv, h1, h2⟩ := load_rel (P := P) (row_cells hI (aRow_some hr).1 off) h
      exact ⟨cv, by simp [Instr.loadAt, Instr.sureAddr, h1], h2⟩
    · cases h
  · obtain ⟨a, rfl, _, hc⟩ := hp.fptr_
    obtain ⟨cv, h1, h2⟩ := load_rel (P := P) (c := c) (fun j y hy => by obtain ⟨u, a1, a2, a3⟩ := hc j y hy; exact ⟨u, a1, a2, .data _ _ a3⟩) h
    exact ⟨cv, by simp [Instr.loadAt, Instr.sureAddr, h1], h2⟩
  · cases h

/-! ### writing cells -/
theorem store_run {P : Program} : ∀ (vs : List Value) (i : Nat) (w : World) (g o : Nat) (cur : Array Value) (t : TypeId) (m : Nat × Nat), w.heap[g]? = some (.cells cur t m) → o + i + vs.length ≤ cur.size → (∀ v ∈ vs, v.oneCell' = true) → (m.2 ≤ o + i ∨ o + i + vs.length ≤ m.1) →
    ∃ w' cur', (storeCells ⟨g, o, none⟩ vs i).run P w = .ok () w' ∧ Wr w w' g (.cells cur' t m) ∧ cur'.size = cur.size ∧ ∀ j, cur'[j]? = if o + i ≤ j ∧ j < o + i + vs.length then vs[j - (o + i)]? else cur[j]?
  | [], i, w, g, o, cur, t, m, hg, _, _, _ => ⟨w, cur, rfl, ⟨rfl, rfl, rfl, rfl, hg, fun _ _ => rfl⟩, rfl, fun j => by rw [if_neg (by simp only [List.length_nil]; omega)]⟩
  | v :: vs, i, w, g, o, cur, t, m, hg, hfit, hone, hm => by
    have hv : v.oneCell' = true := hone v List.mem_cons_self
    have hlt : o + i < cur.size := by simp only [List.length_cons] at hfit; omega
    have hcell : w.cell? ⟨g, o + i, none⟩ = some (cur[o + i]'hlt) := by simp [World.cell?, hg, hlt]
    have hfr : w.frozen? ⟨g, o + i, none⟩ = false := by
      simp only [World.frozen?, hg]
      simp only [List.length_cons] at hm
      rcases hm with hm | hm
      · simp; omega
      · simp; omega
    have hst : (store ((⟨g, o, none⟩ : Addr).add i) v).run P w = .ok () (w.setCell ⟨g, o + i, none⟩ v) := by
      rw [plain_add, run_store P w _ v _ hv, hcell]
      simp [hfr]
    have hw1 : (w.setCell ⟨g, o + i, none⟩ v).heap[g]? = some (.cells (cur.setIfInBounds (o + i) v) t m) := by
      simp [World.setCell, Array.getElem?_modify, hg]
    obtain ⟨w', cur', hr, hw, hs, hc⟩ := store_run (P := P) vs (i + 1) (w.setCell ⟨g, o + i, none⟩ v) g o (cur.setIfInBounds (o + i) v) t m hw1 (by simp only [Array.size_setIfInBounds, List.length_cons] at *; omega) (fun u hu => hone u (List.mem_cons_of_mem _ hu)) (by simp only [List.length_cons] at hm; omega)
    refine ⟨w', cur', ?_, ⟨hw.os, hw.tape, hw.output, hw.size.trans (by simp [World.setCell]), hw.at_, fun b hb => (hw.else_ b hb).trans (RowKit.Below.heap_setCell w _ v b hb)⟩, by rw [hs]; simp, fun j => ?_⟩
    · simp only [storeCells, Sem.run_bind, hst, Result.andThen_ok, hr]
    · rw [hc j]
      simp only [List.length_cons]
      by_cases h1 : o + (i + 1) ≤ j ∧ j < o + (i + 1) + vs.length
      · rw [if_pos h1, if_pos (by omega)]
        rw [show j - (o + i) = (j - (o + (i + 1))) + 1 by omega]
        simp
      · rw [if_neg h1]
        by_cases h2 : j = o + i
        · subst h2
          rw [if_pos (by omega)]
          simp [hlt]
        · rw [if_neg (by omega), Array.getElem?_setIfInBounds_ne (by omega)]

end Go.Proofs.Ytcaemgpificohaa.A
