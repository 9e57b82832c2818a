/- A, part 5: the moves that write: a row's cells, a row that moves, a map; and rows that are shut. -/
import Derived.Test.YtcaemgpificohaaA4
set_option linter.unusedVariables false
set_option linter.unusedSimpArgs false
set_option linter.unnecessarySimpa false
namespace Go.Proofs.Ytcaemgpificohaa.A
open Go

structure Wr (w w' : World) (g : Nat) (o : Obj) : Prop where
  os : w'.os = w.os
  tape : w'.tape = w.tape
  output : w'.output = w.output
  size : w'.heap.size = w.heap.size
  at_ : w'.heap[g]? = some o
  else_ : ∀ b, b ≠ g → w'.heap[b]? = w.heap[b]?

theorem other_ne {c : Ctx} (h : Inv c) {k k' : Tag} (hl : Live c k) {o : AObj} (ho : c.H k' = some o) (e : k' ≠ k) : c.φ k' ≠ c.φ k := by
  intro he
  by_cases hr : o.ro = false
  · exact e (h.inj k' k ⟨o, ho, hr⟩ hl he)
  · have hro : o.ro = true := by simpa using hr
    cases o with
    | row r => exact h.live_not hl (he ▸ (h.row k' r ho).2.2.1 hro)
    | map es => cases hro

def Ctx.put (c : Ctx) (k : Tag) (x : AObj) (g : Tag) (w : World) : Ctx := { c with H := upd c.H k x, T := fun u => c.T u ∨ u = g, w := w }

theorem live_put {c : Ctx} {k : Tag} {x : AObj} {g : Tag} {w : World} {t : Tag} (hk : Live c k) (hl : Live (c.put k x g w) t) : Live c t := by
  by_cases e : t = k
  · exact e ▸ hk
  · obtain ⟨y, hy, hr⟩ := hl
    simp only [Ctx.put, upd_ne _ _ _ _ e] at hy
    exact ⟨y, hy, hr⟩

section
variable {c : Ctx} {k g : Tag} {w : World} {o : Obj}
theorem step_put (h : Inv c) (hk : Live c k) (x : AObj) (hw : Wr c.w w (c.φ k) o) (m : Mono c (c.put k x g w)) : Step c (c.put k x g w) where
  os := hw.os
  tape := hw.tape
  output := hw.output
  size := by show _ ≤ w.heap.size; rw [hw.size]; exact Nat.le_refl _
  keep := fun b _ hl => hw.else_ b (fun e => hl k hk e.symm)
  mono := m
  Snew := fun _ h => .inl h
  img := fun t ht => .inr ⟨t, live_put hk ht, rfl⟩

theorem mono_row (h : Inv c) {r : Row} (hr : c.H k = some (.row r)) (hro : r.ro = false) (cs : List AV) (hg : g = r.gen ∨ ¬ c.T g) {cells cells' : Array Value} {mk : Nat × Nat} (hc : c.w.heap[c.φ k]? = some (.cells cells r.elem mk))
    (hs : cells'.size = cells.size) (hw : Wr c.w w (c.φ k) (.cells cells' r.elem mk)) : Mono c (c.put k (.row { r with gen := g, cs := cs }) g w) := by
  have hk : Live c k := ⟨_, hr, hro⟩
  refine ⟨fun _ h => h, fun b hb => hw.else_ b (fun e => h.live_not hk (e ▸ hb)), fun _ h => .inl h, fun t r' hr' => ?_, fun t es' hes => ?_⟩
  · simp only [Ctx.put] at hr' ⊢
    by_cases e : t = k
    · subst e
      rw [upd_same] at hr'
      injection hr' with hr'
      injection hr' with hr'
      subst hr'
      rcases hg with hg | hg
      · refine .inl ⟨r, hr, hg.symm, rfl, trivial, fun cl e' m' hcl => ?_⟩
        rw [hw.at_] at hcl
        injection hcl with hcl
        injection hcl with hcl
        exact ⟨cells, _, _, hc, by rw [← hcl, hs]; exact Nat.le_refl _⟩
      · exact .inr hg
    · rw [upd_ne _ _ _ _ e] at hr'
      refine .inl ⟨r', hr', rfl, rfl, trivial, fun cl e' m' hcl => ⟨cl, e', m', ?_, Nat.le_refl _⟩⟩
      rw [hw.else_ _ (other_ne h hk hr' e)] at hcl
      exact hcl
  · simp only [Ctx.put] at hes ⊢
    by_cases e : t = k
    · subst e
      rw [upd_same] at hes
      injection hes with hes
      cases hes
    · rw [upd_ne _ _ _ _ e] at hes
      exact .inl ⟨es', hes, trivial⟩

/-- A row's cells are written, its length may turn. -/
theorem put_row (h : Inv c) {r : Row} (hr : c.H k = some (.row r)) (hro : r.ro = false) (cs : List AV) (hg : g = r.gen ∨ ¬ c.T g) {cells cells' : Array Value} {mk : Nat × Nat} (hc : c.w.heap[c.φ k]? = some (.cells cells r.elem mk))
    (hs : cells'.size = cells.size) (hw : Wr c.w w (c.φ k) (.cells cells' r.elem mk)) (hl : cs.length ≤ cells.size) (hp : r.plain = true → mk = (0, 0)) (hm : mk.2 = 0 ∨ cs.length ≤ mk.1)
    (hx : ∀ (j : Nat) (x : AV), cs[j]? = some x → ∃ u : Value, cells'[j]? = some u ∧ u.oneCell' = true ∧ VR c x u) :
    Inv (c.put k (.row { r with gen := g, cs := cs }) g w) ∧ Step c (c.put k (.row { r with gen := g, cs := cs }) g w) := by
  have hk : Live c k := ⟨_, hr, hro⟩
  have m := mono_row (w := w) h hr hro cs hg hc hs hw
  have rel : ∀ {cs' : List AV} {cl : Array Value}, (∀ (j : Nat) (x : AV), cs'[j]? = some x → ∃ u : Value, cl[j]? = some u ∧ u.oneCell' = true ∧ VR c x u) → ∀ (j : Nat) (x : AV), cs'[j]? = some x → ∃ u : Value, cl[j]? = some u ∧ u.oneCell' = true ∧ VR (c.put k (.row { r with gen := g, cs := cs }) g w) x u :=
    fun hh j x hj => by
      obtain ⟨u, h1, h2, h3⟩ := hh j x hj
      exact ⟨u, h1, h2, h3.mono m⟩
  refine ⟨⟨fun b hb => ?_, fun t r' hr' => ?_, fun t es hes => ?_, fun t t' ht ht' e => h.inj t t' (live_put hk ht) (live_put hk ht') e⟩, step_put h hk _ hw m⟩
  · show b < w.heap.size
    rw [hw.size]
    exact h.imm b hb
  · by_cases e : t = k
    · subst e
      have hr2 : (AObj.row { r with gen := g, cs := cs }) = .row r' := by
        have hr3 := hr'
        simp only [Ctx.put] at hr3
        rw [upd_same] at hr3
        injection hr3
      injection hr2 with hr2
      subst hr2
      obtain ⟨h1, h2, h3, h4, _⟩ := h.row t r hr
      refine ⟨.inl h1, .inr rfl, h3, h4, cells', mk, hw.at_, hp, hm, by rw [hs]; exact hl, rel hx⟩
    · have hr2 : c.H t = some (.row r') := by
        have hr3 := hr'
        simp only [Ctx.put] at hr3
        rw [upd_ne _ _ _ _ e] at hr3
        exact hr3
      obtain ⟨h1, h2, h3, h4, cl, mk', hcl, hp', hm', hl', hx'⟩ := h.row t r' hr2
      refine ⟨.inl h1, .inl h2, h3, h4, cl, mk', ?_, hp', hm', hl', rel hx'⟩
      show w.heap[c.φ t]? = _
      rw [hw.else_ _ (other_ne h hk hr2 e)]
      exact hcl
  · have e : t ≠ k := by
      rintro rfl
      simp only [Ctx.put] at hes
      rw [upd_same] at hes
      injection hes with hes
      cases hes
    have hes2 : c.H t = some (.map es) := by
      have hr3 := hes
      simp only [Ctx.put] at hr3
      rw [upd_ne _ _ _ _ e] at hr3
      exact hr3
    obtain ⟨h1, h2, en, cl, hc', hl', hx'⟩ := h.map t es hes2
    refine ⟨.inl h1, h2, en, cl, ?_, hl', fun j y z hj hz => ?_⟩
    · show w.heap[c.φ t]? = _
      rw [hw.else_ _ (other_ne h hk hes2 e)]
      exact hc'
    · obtain ⟨a, b⟩ := hx' j y z hj hz
      exact ⟨a.mono m, b.mono m⟩

/-- A map's entries are written. -/
theorem put_map (h : Inv c) {es es' : List (AV × AV)} (hr : c.H k = some (.map es)) {en : Array MapEntry} {cl : Nat} (hw : Wr c.w w (c.φ k) (.map en cl)) (hl : en.size = es'.length)
    (hx : ∀ (j : Nat) (x : AV × AV) (e : MapEntry), es'[j]? = some x → en[j]? = some e → VR c x.1 e.key ∧ VR c x.2 e.val) :
    Inv (c.put k (.map es') k w) ∧ Step c (c.put k (.map es') k w) := by
  have hk : Live c k := ⟨_, hr, rfl⟩
  have m : Mono c (c.put k (.map es') k w) := by
    refine ⟨fun _ h => h, fun b hb => hw.else_ b (fun e => h.live_not hk (e ▸ hb)), fun _ h => .inl h, fun t r' hr' => ?_, fun t es2 hes => ?_⟩
    · simp only [Ctx.put] at hr' ⊢
      by_cases e : t = k
      · subst e
        rw [upd_same] at hr'
        injection hr' with hr'
        cases hr'
      · rw [upd_ne _ _ _ _ e] at hr'
        refine .inl ⟨r', hr', rfl, rfl, trivial, fun cl e' m' hcl => ⟨cl, e', m', ?_, Nat.le_refl _⟩⟩
        rw [hw.else_ _ (other_ne h hk hr' e)] at hcl
        exact hcl
    · simp only [Ctx.put] at hes ⊢
      by_cases e : t = k
      · exact .inl ⟨es, e ▸ hr, trivial⟩
      · rw [upd_ne _ _ _ _ e] at hes
        exact .inl ⟨es2, hes, trivial⟩
  refine ⟨⟨fun b hb => ?_, fun t r' hr' => ?_, fun t es2 hes => ?_, fun t t' ht ht' e => h.inj t t' (live_put hk ht) (live_put hk ht') e⟩, step_put h hk _ hw m⟩
  · show b < w.heap.size
    rw [hw.size]
    exact h.imm b hb
  · have e : t ≠ k := by
      rintro rfl
      simp only [Ctx.put] at hr'
      rw [upd_same] at hr'
      injection hr' with hr'
      cases hr'
    have hr2 : c.H t = some (.row r') := by
      have hr3 := hr'
      simp only [Ctx.put] at hr3
      rw [upd_ne _ _ _ _ e] at hr3
      exact hr3
    obtain ⟨h1, h2, h3, h4, cells, mk', hc, hp', hm', hl', hx'⟩ := h.row t r' hr2
    refine ⟨.inl h1, .inl h2, h3, h4, cells, mk', ?_, hp', hm', hl', fun j x hj => ?_⟩
    · show w.heap[c.φ t]? = _
      rw [hw.else_ _ (other_ne h hk hr2 e)]
      exact hc
    · obtain ⟨u, h1, h2, h3⟩ := hx' j x hj
      exact ⟨u, h1, h2, h3.mono m⟩
  · by_cases e : t = k
    · subst e
      have hr2 : es' = es2 := by
        have hr3 := hes
        simp only [Ctx.put] at hr3
        rw [upd_same] at hr3
        injection hr3 with hr3
        injection hr3
      subst hr2
      obtain ⟨h1, h2, _⟩ := h.map t es hr
      refine ⟨.inl h1, h2, en, cl, hw.at_, hl, fun j y z hj hz => ?_⟩
      obtain ⟨a, b⟩ := hx j y z hj hz
      exact ⟨a.mono m, b.mono m⟩
    · have hes2 : c.H t = some (.map es2) := by
        have hr3 := hes
        simp only [Ctx.put] at hr3
        rw [upd_ne _ _ _ _ e] at hr3
        exact hr3
      obtain ⟨h1, h2, en', cl', hc', hl', hx'⟩ := h.map t es2 hes2
      refine ⟨.inl h1, h2, en', cl', ?_, hl', fun j y z hj hz => ?_⟩
      · show w.heap[c.φ t]? = _
        rw [hw.else_ _ (other_ne h hk hes2 e)]
        exact hc'
      · obtain ⟨a, b⟩ := hx' j y z hj hz
        exact ⟨a.mono m, b.mono m⟩
end

/-- A row moves to a new block. -/
def Ctx.moved (c : Ctx) (k : Tag) (r : Row) (g : Tag) (o : Obj) : Ctx :=
  { S := c.S, φ := fun u => if u = k then c.w.heap.size else c.φ u, H := upd c.H k (.row r), T := fun u => c.T u ∨ u = g, w := c.w.alloc o }
theorem move_row {c : Ctx} (h : Inv c) {k : Tag} {r : Row} (hr : c.H k = some (.row r)) (hro : r.ro = false) (r' : Row) (hg : ¬ c.T r'.gen) (hro' : r'.ro = false) (cells : Array Value)
    (hl : r'.cs.length ≤ cells.size) (hx : ∀ (j : Nat) (x : AV), r'.cs[j]? = some x → ∃ u : Value, cells[j]? = some u ∧ u.oneCell' = true ∧ VR c x u) :
    Inv (c.moved k r' r'.gen (.cells cells r'.elem (0, 0))) ∧ Step c (c.moved k r' r'.gen (.cells cells r'.elem (0, 0))) := by
  have hk : Live c k := ⟨_, hr, hro⟩
  have hS : ¬ c.S c.w.heap.size := fun hs => by have := h.imm _ hs; omega
  have hlive : ∀ t, Live (c.moved k r' r'.gen (.cells cells r'.elem (0, 0))) t → Live c t := fun t ht => by
    by_cases e : t = k
    · exact e ▸ hk
    · obtain ⟨y, hy, hr⟩ := ht
      simp only [Ctx.moved, upd_ne _ _ _ _ e] at hy
      exact ⟨y, hy, hr⟩
  have m : Mono c (c.moved k r' r'.gen (.cells cells r'.elem (0, 0))) := by
    refine ⟨fun _ h => h, fun b hb => alloc_get_old _ _ _ (h.imm b hb), fun _ h => .inl h, fun t r2 hr2 => ?_, fun t es hes => ?_⟩
    · simp only [Ctx.moved] at hr2 ⊢
      by_cases e : t = k
      · subst e
        rw [upd_same] at hr2
        injection hr2 with hr2
        injection hr2 with hr2
        subst hr2
        exact .inr hg
      · rw [upd_ne _ _ _ _ e] at hr2
        refine .inl ⟨r2, hr2, rfl, rfl, if_neg e, fun cells' e' m hc => ⟨cells', e', m, ?_, Nat.le_refl _⟩⟩
        rw [if_neg e, alloc_get_old _ _ _ (h.lt hr2)] at hc
        exact hc
    · simp only [Ctx.moved] at hes ⊢
      by_cases e : t = k
      · subst e
        rw [upd_same] at hes
        injection hes with hes
        cases hes
      · rw [upd_ne _ _ _ _ e] at hes
        exact .inl ⟨es, hes, if_neg e⟩
  have rel : ∀ {cs' : List AV} {cl : Array Value}, (∀ (j : Nat) (x : AV), cs'[j]? = some x → ∃ u : Value, cl[j]? = some u ∧ u.oneCell' = true ∧ VR c x u) → ∀ (j : Nat) (x : AV), cs'[j]? = some x → ∃ u : Value, cl[j]? = some u ∧ u.oneCell' = true ∧ VR (c.moved k r' r'.gen (.cells cells r'.elem (0, 0))) x u :=
    fun hh j x hj => by
      obtain ⟨u, h1, h2, h3⟩ := hh j x hj
      exact ⟨u, h1, h2, h3.mono m⟩
  refine ⟨⟨fun b hb => ?_, fun t r2 hr2 => ?_, fun t es hes => ?_, fun t t' ht ht' e => ?_⟩, ⟨rfl, rfl, rfl, ?_, fun b hb _ => alloc_get_old _ _ _ hb, m, fun _ h => .inl h, fun t ht => ?_⟩⟩
  · show b < (c.w.alloc _).heap.size
    rw [alloc_size]
    have := h.imm b hb
    omega
  · by_cases e : t = k
    · subst e
      have hr3 : r' = r2 := by
        have hr3 := hr2
        simp only [Ctx.moved] at hr3
        rw [upd_same] at hr3
        injection hr3 with hr3
        injection hr3
      subst hr3
      obtain ⟨h1, _⟩ := h.row t r hr
      refine ⟨.inl h1, .inr rfl, fun hh => (by rw [hro'] at hh; cases hh), fun _ => ?_, cells, (0, 0), ?_, fun _ => rfl, .inl rfl, hl, rel hx⟩
      · show ¬ c.S (if t = t then _ else _)
        rw [if_pos rfl]
        exact hS
      · show (c.w.alloc _).heap[if t = t then _ else _]? = _
        rw [if_pos rfl]
        exact alloc_get_new _ _
    · have hr3 : c.H t = some (.row r2) := by
        have hr3 := hr2
        simp only [Ctx.moved] at hr3
        rw [upd_ne _ _ _ _ e] at hr3
        exact hr3
      obtain ⟨h1, h2, h3, h4, cl, mk', hcl, hp', hm', hl', hx'⟩ := h.row t r2 hr3
      have hφ : (c.moved k r' r'.gen (.cells cells r'.elem (0, 0))).φ t = c.φ t := if_neg e
      rw [hφ]
      refine ⟨.inl h1, .inl h2, h3, h4, cl, mk', ?_, hp', hm', hl', rel hx'⟩
      show (c.w.alloc _).heap[c.φ t]? = _
      rw [alloc_get_old _ _ _ (h.lt hr3)]
      exact hcl
  · have e : t ≠ k := by
      rintro rfl
      simp only [Ctx.moved] at hes
      rw [upd_same] at hes
      injection hes with hes
      cases hes
    have hes2 : c.H t = some (.map es) := by
      have hr3 := hes
      simp only [Ctx.moved] at hr3
      rw [upd_ne _ _ _ _ e] at hr3
      exact hr3
    obtain ⟨h1, h2, en, cl, hc', hl', hx'⟩ := h.map t es hes2
    have hφ : (c.moved k r' r'.gen (.cells cells r'.elem (0, 0))).φ t = c.φ t := if_neg e
    rw [hφ]
    refine ⟨.inl h1, h2, en, cl, ?_, hl', fun j y z hj hz => ?_⟩
    · show (c.w.alloc _).heap[c.φ t]? = _
      rw [alloc_get_old _ _ _ (h.lt hes2)]
      exact hc'
    · obtain ⟨a, b⟩ := hx' j y z hj hz
      exact ⟨a.mono m, b.mono m⟩
  · have l1 := hlive t ht
    have l2 := hlive t' ht'
    by_cases e1 : t = k <;> by_cases e2 : t' = k
    · rw [e1, e2]
    · obtain ⟨y, hy, _⟩ := l2
      have := h.lt hy
      simp only [Ctx.moved, e1, e2, if_true, if_false] at e
      omega
    · obtain ⟨y, hy, _⟩ := l1
      have := h.lt hy
      simp only [Ctx.moved, e1, e2, if_true, if_false] at e
      omega
    · simp only [Ctx.moved, e1, e2, if_false] at e
      exact h.inj t t' l1 l2 e
  · show _ ≤ (c.w.alloc _).heap.size
    rw [alloc_size]
    omega
  · by_cases e : t = k
    · exact .inl (by show _ ≤ (if t = k then _ else _); rw [if_pos e]; exact Nat.le_refl _)
    · exact .inr ⟨t, hlive t ht, by show _ = (if t = k then _ else _); rw [if_neg e]⟩

/-- Rows are shut: from now on nobody writes them. -/
def Ctx.shut (c : Ctx) (ts : List Tag) : Ctx := { c with S := fun b => c.S b ∨ ∃ k r, k ∈ ts ∧ c.H k = some (.row r) ∧ c.φ k = b, H := sealed ts c.H }
theorem sealed_row {ts : List Tag} {H : Tag → Option AObj} {k : Tag} {r' : Row} (h : sealed ts H k = some (.row r')) : ∃ r, H k = some (.row r) ∧ ((k ∈ ts ∧ r' = { r with ro := true }) ∨ (k ∉ ts ∧ r' = r)) := by
  unfold sealed at h
  cases ho : H k with
  | none => rw [ho] at h; cases h
  | some x =>
    rw [ho] at h
    cases x with
    | map es => cases h
    | row r =>
      dsimp only at h
      by_cases hk : ts.contains k = true
      · rw [if_pos hk] at h
        injection h with h
        injection h with h
        exact ⟨r, rfl, .inl ⟨by simpa using hk, h.symm⟩⟩
      · rw [if_neg hk] at h
        injection h with h
        injection h with h
        exact ⟨r, rfl, .inr ⟨by simpa using hk, h.symm⟩⟩
theorem sealed_map {ts : List Tag} {H : Tag → Option AObj} {k : Tag} {es : List (AV × AV)} (h : sealed ts H k = some (.map es)) : H k = some (.map es) := by
  unfold sealed at h
  cases ho : H k with
  | none => rw [ho] at h; cases h
  | some x =>
    rw [ho] at h
    cases x with
    | map es' => exact h
    | row r =>
      dsimp only at h
      split at h <;> (injection h with h; cases h)
theorem shut_rows {c : Ctx} (h : Inv c) (ts : List Tag) : Inv (c.shut ts) ∧ Step c (c.shut ts) := by
  have m : Mono c (c.shut ts) := by
    refine ⟨fun _ h => .inl h, fun _ _ => rfl, fun _ h => h, fun k r' hr' => ?_, fun k es hes => .inl ⟨es, sealed_map hes, rfl⟩⟩
    obtain ⟨r, hr, hh⟩ := sealed_row hr'
    refine .inl ⟨r, hr, ?_, ?_, rfl, fun cells e m hc => ⟨cells, e, m, hc, Nat.le_refl _⟩⟩ <;> rcases hh with ⟨_, rfl⟩ | ⟨_, rfl⟩ <;> rfl
  have hlive : ∀ t, Live (c.shut ts) t → Live c t ∧ (∀ r, c.H t = some (.row r) → t ∉ ts) := by
    rintro t ⟨y, hy, hr⟩
    cases y with
    | map es => exact ⟨⟨_, sealed_map hy, rfl⟩, fun r hr' => by rw [sealed_map hy] at hr'; cases hr'⟩
    | row r' =>
      obtain ⟨r, hr0, hh⟩ := sealed_row hy
      rcases hh with ⟨_, rfl⟩ | ⟨hn, rfl⟩
      · cases hr
      · exact ⟨⟨_, hr0, hr⟩, fun _ _ => hn⟩
  refine ⟨⟨?_, fun k r' hr' => ?_, fun k es hes => ?_, fun k k' hk hk' e => h.inj k k' (hlive k hk).1 (hlive k' hk').1 e⟩, ⟨rfl, rfl, rfl, Nat.le_refl _, fun _ _ _ => rfl, m, ?_, fun k hk => .inr ⟨k, (hlive k hk).1, rfl⟩⟩⟩
  · rintro b (hb | ⟨k, r, _, hr, rfl⟩)
    · exact h.imm b hb
    · exact h.lt hr
  · obtain ⟨r, hr, hh⟩ := sealed_row hr'
    obtain ⟨h1, h2, h3, h4, cells, mk, hc, hp, hm, hl, hx⟩ := h.row k r hr
    have hx' : ∀ (j : Nat) (x : AV), r.cs[j]? = some x → ∃ u : Value, cells[j]? = some u ∧ u.oneCell' = true ∧ VR (c.shut ts) x u := fun j x hj => by
      obtain ⟨u, a, b, d⟩ := hx j x hj
      exact ⟨u, a, b, d.mono m⟩
    rcases hh with ⟨hk, rfl⟩ | ⟨hk, rfl⟩
    · exact ⟨h1, h2, fun _ => .inr ⟨k, r, hk, hr, rfl⟩, fun hh => (by cases hh), cells, mk, hc, hp, hm, hl, hx'⟩
    · refine ⟨h1, h2, fun hro => .inl (h3 hro), fun hro => ?_, cells, mk, hc, hp, hm, hl, hx'⟩
      rintro (hb | ⟨k', r'', hk', hr'', e⟩)
      · exact h4 hro hb
      · exact other_ne h ⟨_, hr, hro⟩ hr'' (fun e' => hk (e' ▸ hk')) e
  · obtain ⟨h1, h2, en, cl, hc, hl, hx⟩ := h.map k es (sealed_map hes)
    refine ⟨h1, ?_, en, cl, hc, hl, fun j y z hj hz => ?_⟩
    · rintro (hb | ⟨k', r'', _, hr'', e⟩)
      · exact h2 hb
      · refine other_ne h ⟨_, sealed_map hes, rfl⟩ hr'' (fun e' => ?_) e
        rw [e', sealed_map hes] at hr''
        cases hr''
    · obtain ⟨a, b⟩ := hx j y z hj hz
      exact ⟨a.mono m, b.mono m⟩
  · rintro b (hb | ⟨k, r, _, hr, rfl⟩)
    · exact .inl hb
    · cases hro : r.ro with
      | true => exact .inl ((h.row k r hr).2.2.1 hro)
      | false => exact .inr (.inr ⟨k, ⟨_, hr, hro⟩, rfl⟩)

end Go.Proofs.Ytcaemgpificohaa.A
