/- A, part 4: what abstract values say of the machine's: the relation, and that it stays where nothing that it speaks of is written. -/
import Derived.Test.YtcaemgpificohaaA3
import Derived.Below
import Derived.Laws.AppendOwn
set_option linter.unusedVariables false
set_option linter.unusedSimpArgs false
set_option linter.unnecessarySimpa false
namespace Go.Proofs.Ytcaemgpificohaa.A
open Go

/-- Data: S: the blocks that nobody writes. -/
inductive PR (S : Nat → Prop) (w : World) : AV → Value → Prop
  | und (v) : PR S w .und v
  | bool (b) : PR S w (.bool b) (.bool b)
  | int (k n) : PR S w (.int k n) (.int k n)
  | str (s : List UInt8) : PR S w (.str s) (.string ⟨s.toArray⟩)
  | agg (cs : List AV) (vs : Array Value) (hl : vs.size = cs.length) (h : ∀ (j : Nat) (x : AV) (u : Value), cs[j]? = some x → vs[j]? = some u → PR S w x u) (h1 : ∀ (j : Nat) (u : Value), vs[j]? = some u → u.oneCell' = true) : PR S w (.agg cs) (.agg vs)
  | tup (cs : List AV) (vs : Array Value) (hl : vs.size = cs.length) (h : ∀ (j : Nat) (x : AV) (u : Value), cs[j]? = some x → vs[j]? = some u → PR S w x u) : PR S w (.tup cs) (.tuple vs)
  | fn (f : Fn) (fs cs : List AV) (us vs : Array Value) (hl : us.size = fs.length) (hl' : vs.size = cs.length) (h : ∀ (j : Nat) (x : AV) (u : Value), fs[j]? = some x → us[j]? = some u → PR S w x u) (h' : ∀ (j : Nat) (x : AV) (u : Value), cs[j]? = some x → vs[j]? = some u → PR S w x u) : PR S w (.fn f fs cs) (.func f us vs)
  | nil : PR S w .nil (.slice none 0 0)
  | nilmp : PR S w .nilmp (.map none)
  | sl (n : Nat) (cs : List AV) (A : Option Addr) (cap : Nat) (u : Nat → Value) (hn : n ≤ cap) (hA : 0 < n → ∃ a, A = some a) (ha : cs ≠ [] → ∃ a, A = some a ∧ S a.block) (hc : ∀ (a : Addr) (j : Nat) (x : AV), A = some a → cs[j]? = some x → w.cell? (a.add j) = some (u j))
      (h1 : ∀ (j : Nat) (x : AV), cs[j]? = some x → (u j).oneCell' = true) (h : ∀ (j : Nat) (x : AV), cs[j]? = some x → PR S w x (u j)) : PR S w (.sl n cs) (.slice A n cap)
  | fptr (cs : List AV) (a : Addr) (u : Nat → Value) (ha : cs ≠ [] → S a.block) (hc : ∀ (j : Nat) (x : AV), cs[j]? = some x → w.cell? (a.add j) = some (u j))
      (h1 : ∀ (j : Nat) (x : AV), cs[j]? = some x → (u j).oneCell' = true) (h : ∀ (j : Nat) (x : AV), cs[j]? = some x → PR S w x (u j)) : PR S w (.fptr cs) (.pointer (some a))

theorem add_block (a : Addr) (n : Nat) : (a.add n).block = a.block := by unfold Addr.add; split <;> rfl
theorem add_add (a : Addr) (i j : Nat) : (a.add i).add j = a.add (i + j) := by
  unfold Addr.add
  by_cases hi : i = 0 <;> by_cases hj : j = 0 <;> simp [hi, hj, Nat.add_assoc]

theorem PR.mono {S S' : Nat → Prop} {w w' : World} (hS : ∀ b, S b → S' b) (hw : ∀ b, S b → w'.heap[b]? = w.heap[b]?) {x : AV} {v : Value} (h : PR S w x v) : PR S' w' x v := by
  induction h with
  | und v => exact .und v
  | bool b => exact .bool b
  | int k n => exact .int k n
  | str s => exact .str s
  | agg cs vs hl _ h1 ih => exact .agg cs vs hl ih h1
  | tup cs vs hl _ ih => exact .tup cs vs hl ih
  | fn f fs cs us vs hl hl' _ _ ih ih' => exact .fn f fs cs us vs hl hl' ih ih'
  | nil => exact .nil
  | nilmp => exact .nilmp
  | sl n cs A cap u hn hA ha hc h1 _ ih =>
    refine .sl n cs A cap u hn hA (fun hne => ?_) (fun a j x hA hx => ?_) h1 ih
    · obtain ⟨a, e, hb⟩ := ha hne
      exact ⟨a, e, hS _ hb⟩
    · have hne : cs ≠ [] := fun e => by rw [e] at hx; simp at hx
      obtain ⟨a', e, hb⟩ := ha hne
      obtain rfl : a = a' := by rw [hA] at e; injection e
      rw [World.cell?_of_block (w := w) (by rw [add_block]; exact hw _ hb)]
      exact hc a j x hA hx
  | fptr cs a u ha hc h1 _ ih =>
    refine .fptr cs a u (fun hne => hS _ (ha hne)) (fun j x hx => ?_) h1 ih
    have hne : cs ≠ [] := fun e => by rw [e] at hx; simp at hx
    rw [World.cell?_of_block (w := w) (by rw [add_block]; exact hw _ (ha hne))]
    exact hc j x hx

/-- What the relation hangs on. φ: where a thing lies; T: the names that have been given. -/
structure Ctx where
  S : Nat → Prop
  φ : Tag → Nat
  H : Tag → Option AObj
  T : Tag → Prop
  w : World

def AObj.ro : AObj → Bool
  | .row r => r.ro
  | .map _ => false
def Live (c : Ctx) (k : Tag) : Prop := ∃ o, c.H k = some o ∧ o.ro = false

inductive VR (c : Ctx) : AV → Value → Prop
  | data (x v) (h : PR c.S c.w x v) : VR c x v
  | agg (cs : List AV) (vs : Array Value) (hl : vs.size = cs.length) (h : ∀ (j : Nat) (x : AV) (u : Value), cs[j]? = some x → vs[j]? = some u → VR c x u) (h1 : ∀ (j : Nat) (u : Value), vs[j]? = some u → u.oneCell' = true) : VR c (.agg cs) (.agg vs)
  | tup (cs : List AV) (vs : Array Value) (hl : vs.size = cs.length) (h : ∀ (j : Nat) (x : AV) (u : Value), cs[j]? = some x → vs[j]? = some u → VR c x u) : VR c (.tup cs) (.tuple vs)
  | fn (f : Fn) (fs cs : List AV) (us vs : Array Value) (hl : us.size = fs.length) (hl' : vs.size = cs.length) (h : ∀ (j : Nat) (x : AV) (u : Value), fs[j]? = some x → us[j]? = some u → VR c x u) (h' : ∀ (j : Nat) (x : AV) (u : Value), cs[j]? = some x → vs[j]? = some u → VR c x u) : VR c (.fn f fs cs) (.func f us vs)
  | ref (k g : Tag) (off n : Nat) (A : Option Addr) (cap : Nat) (hk : c.T k) (hg : c.T g) (hn : n ≤ cap) (hA : off = 0 ∨ 0 < n → ∃ a, A = some a)
      (h : ∀ r, c.H k = some (.row r) → r.gen = g → (off = 0 ∨ 0 < n → A = some ⟨c.φ k, off, none⟩) ∧ (off = 0 → ∀ cells e m, c.w.heap[c.φ k]? = some (.cells cells e m) → cap * r.sz ≤ cells.size)) : VR c (.ref k g off n) (.slice A n cap)
  | ptr (k g : Tag) (off : Nat) (a : Addr) (hk : c.T k) (hg : c.T g)
      (h : ∀ r, c.H k = some (.row r) → r.gen = g → a = ⟨c.φ k, off, none⟩) : VR c (.ptr k g off) (.pointer (some a))
  | mp (k : Tag) (v : Value) (hk : c.T k) (h1 : v.oneCell' = true) (h : ∀ es, c.H k = some (.map es) → v = .map (some (c.φ k))) : VR c (.mp k) v

/-- From c to c': what was related stays related. -/
structure Mono (c c' : Ctx) : Prop where
  S : ∀ b, c.S b → c'.S b
  blk : ∀ b, c.S b → c'.w.heap[b]? = c.w.heap[b]?
  T : ∀ t, c.T t → c'.T t
  row : ∀ k r', c'.H k = some (.row r') → (∃ r, c.H k = some (.row r) ∧ r.gen = r'.gen ∧ r.sz = r'.sz ∧ c'.φ k = c.φ k ∧ (∀ cells' e m, c'.w.heap[c'.φ k]? = some (.cells cells' e m) → ∃ cells e0 m0, c.w.heap[c.φ k]? = some (.cells cells e0 m0) ∧ cells.size ≤ cells'.size)) ∨ ¬ c.T r'.gen
  map : ∀ k es', c'.H k = some (.map es') → (∃ es, c.H k = some (.map es) ∧ c'.φ k = c.φ k) ∨ ¬ c.T k

theorem Mono.refl (c : Ctx) : Mono c c := ⟨fun _ h => h, fun _ _ => rfl, fun _ h => h, fun _ r h => .inl ⟨r, h, rfl, rfl, rfl, fun cells e m hc => ⟨cells, e, m, hc, Nat.le_refl _⟩⟩, fun _ es h => .inl ⟨es, h, rfl⟩⟩
theorem Mono.trans {a b c : Ctx} (h : Mono a b) (k : Mono b c) : Mono a c where
  S := fun x hx => k.S x (h.S x hx)
  blk := fun x hx => (k.blk x (h.S x hx)).trans (h.blk x hx)
  T := fun t ht => k.T t (h.T t ht)
  row := fun t r'' hr'' => by
    rcases k.row t r'' hr'' with ⟨r', hr', e1, e2, e3, hs⟩ | hn
    · rcases h.row t r' hr' with ⟨r, hr, f1, f2, f3, hs'⟩ | hn
      · refine .inl ⟨r, hr, f1.trans e1, f2.trans e2, e3.trans f3, fun cells e m hc => ?_⟩
        obtain ⟨c1, e1', m1, hc1, hl1⟩ := hs cells e m hc
        obtain ⟨c2, e2', m2, hc2, hl2⟩ := hs' c1 e1' m1 hc1
        exact ⟨c2, e2', m2, hc2, Nat.le_trans hl2 hl1⟩
      · exact .inr (by rw [← e1]; exact hn)
    · exact .inr fun ht => hn (h.T _ ht)
  map := fun t es'' hes => by
    rcases k.map t es'' hes with ⟨es', h', e⟩ | hn
    · rcases h.map t es' h' with ⟨es, h0, e0⟩ | hn
      · exact .inl ⟨es, h0, e.trans e0⟩
      · exact .inr hn
    · exact .inr fun ht => hn (h.T _ ht)

theorem VR.mono {c c' : Ctx} (m : Mono c c') {x : AV} {v : Value} (h : VR c x v) : VR c' x v := by
  induction h with
  | data x v h => exact .data x v (h.mono m.S m.blk)
  | agg cs vs hl _ h1 ih => exact .agg cs vs hl ih h1
  | tup cs vs hl _ ih => exact .tup cs vs hl ih
  | fn f fs cs us vs hl hl' _ _ ih ih' => exact .fn f fs cs us vs hl hl' ih ih'
  | ref k g off n A cap hk hg hn hA h =>
    refine .ref k g off n A cap (m.T _ hk) (m.T _ hg) hn hA fun r' hr' hgen => ?_
    rcases m.row k r' hr' with ⟨r, hr, e1, e2, e3, hs⟩ | hn
    · obtain ⟨hA', hsz⟩ := h r hr (e1.trans hgen)
      refine ⟨by rw [e3]; exact hA', fun h0 cells e mk hc => ?_⟩
      obtain ⟨c1, e', m', hc1, hl⟩ := hs cells e mk hc
      have := hsz h0 c1 e' m' hc1
      rw [e2] at this
      omega
    · exact absurd (hgen ▸ hg) hn
  | ptr k g off a hk hg h =>
    refine .ptr k g off a (m.T _ hk) (m.T _ hg) fun r' hr' hgen => ?_
    rcases m.row k r' hr' with ⟨r, hr, e1, e2, e3, hs⟩ | hn
    · rw [e3]
      exact h r hr (e1.trans hgen)
    · exact absurd (hgen ▸ hg) hn
  | mp k v hk h1 h =>
    refine .mp k v (m.T _ hk) h1 fun es' hes => ?_
    rcases m.map k es' hes with ⟨es, h0, e⟩ | hn
    · rw [e]
      exact h es h0
    · exact absurd hk hn

structure Inv (c : Ctx) : Prop where
  imm : ∀ b, c.S b → b < c.w.heap.size
  row : ∀ k r, c.H k = some (.row r) → c.T k ∧ c.T r.gen ∧ (r.ro = true → c.S (c.φ k)) ∧ (r.ro = false → ¬ c.S (c.φ k)) ∧
    ∃ cells m, c.w.heap[c.φ k]? = some (.cells cells r.elem m) ∧ (r.plain = true → m = (0, 0)) ∧ (m.2 = 0 ∨ r.cs.length ≤ m.1) ∧ r.cs.length ≤ cells.size ∧ ∀ (j : Nat) (x : AV), r.cs[j]? = some x → ∃ u : Value, cells[j]? = some u ∧ u.oneCell' = true ∧ VR c x u
  map : ∀ k es, c.H k = some (.map es) → c.T k ∧ ¬ c.S (c.φ k) ∧
    ∃ entries clock, c.w.heap[c.φ k]? = some (.map entries clock) ∧ entries.size = es.length ∧ ∀ (j : Nat) (x : AV × AV) (e : MapEntry), es[j]? = some x → entries[j]? = some e → VR c x.1 e.key ∧ VR c x.2 e.val
  inj : ∀ k k', Live c k → Live c k' → c.φ k = c.φ k' → k = k'

theorem Inv.lt {c : Ctx} (h : Inv c) {k : Tag} {o : AObj} (ho : c.H k = some o) : c.φ k < c.w.heap.size := by
  cases o with
  | row r => obtain ⟨_, _, _, _, cells, m, hc, _⟩ := h.row k r ho; exact (Array.getElem?_eq_some_iff.1 hc).1
  | map es => obtain ⟨_, _, en, cl, hc, _⟩ := h.map k es ho; exact (Array.getElem?_eq_some_iff.1 hc).1
theorem Inv.tag {c : Ctx} (h : Inv c) {k : Tag} {o : AObj} (ho : c.H k = some o) : c.T k := by
  cases o with
  | row r => exact (h.row k r ho).1
  | map es => exact (h.map k es ho).1
theorem Inv.live_not {c : Ctx} (h : Inv c) {k : Tag} (hl : Live c k) : ¬ c.S (c.φ k) := by
  obtain ⟨o, ho, hr⟩ := hl
  cases o with
  | row r => exact (h.row k r ho).2.2.2.1 hr
  | map es => exact (h.map k es ho).2.1

/-- A stretch of the run: what lies outside of the live things stays. -/
structure Step (c c' : Ctx) : Prop where
  os : c'.w.os = c.w.os
  tape : c'.w.tape = c.w.tape
  output : c'.w.output = c.w.output
  size : c.w.heap.size ≤ c'.w.heap.size
  keep : ∀ b, b < c.w.heap.size → (∀ k, Live c k → c.φ k ≠ b) → c'.w.heap[b]? = c.w.heap[b]?
  mono : Mono c c'
  Snew : ∀ b, c'.S b → c.S b ∨ c.w.heap.size ≤ b ∨ ∃ k, Live c k ∧ c.φ k = b
  img : ∀ k, Live c' k → c.w.heap.size ≤ c'.φ k ∨ ∃ k', Live c k' ∧ c.φ k' = c'.φ k

theorem Step.refl (c : Ctx) : Step c c := ⟨rfl, rfl, rfl, Nat.le_refl _, fun _ _ _ => rfl, Mono.refl c, fun _ h => .inl h, fun k h => .inr ⟨k, h, rfl⟩⟩
theorem Step.trans {a b c : Ctx} (h : Step a b) (k : Step b c) : Step a c where
  os := k.os.trans h.os
  tape := k.tape.trans h.tape
  output := k.output.trans h.output
  size := Nat.le_trans h.size k.size
  keep := fun x hx hl => by
    rw [k.keep x (by have := h.size; omega) (fun t ht => ?_), h.keep x hx hl]
    rcases h.img t ht with h1 | ⟨t', ht', e⟩
    · omega
    · rw [← e]; exact hl t' ht'
  mono := h.mono.trans k.mono
  Snew := fun x hx => by
    rcases k.Snew x hx with h1 | h1 | ⟨t, ht, e⟩
    · exact h.Snew x h1
    · exact .inr (.inl (Nat.le_trans h.size h1))
    · rcases h.img t ht with h1 | ⟨t', ht', e'⟩
      · exact .inr (.inl (by omega))
      · exact .inr (.inr ⟨t', ht', e'.trans e⟩)
  img := fun t ht => by
    rcases k.img t ht with h1 | ⟨t', ht', e⟩
    · exact .inl (Nat.le_trans h.size h1)
    · rcases h.img t' ht' with h1 | ⟨t'', ht'', e'⟩
      · exact .inl (by omega)
      · exact .inr ⟨t'', ht'', e'.trans e⟩

/-! ### the moves -/
/-- A draw, or anything that leaves the heap alone. -/
def Ctx.world (c : Ctx) (w : World) : Ctx := { c with w := w }
theorem step_world {c : Ctx} {w : World} (h : Inv c) (hh : w.heap = c.w.heap) (ho : w.os = c.w.os) (ht : w.tape = c.w.tape) (hu : w.output = c.w.output) : Inv (c.world w) ∧ Step c (c.world w) := by
  have m : Mono c (c.world w) := ⟨fun _ h => h, fun _ _ => by show w.heap[_]? = _; rw [hh], fun _ h => h, fun _ r h => .inl ⟨r, h, rfl, rfl, rfl, fun cells e m hc => ⟨cells, e, m, by rw [← hh]; exact hc, Nat.le_refl _⟩⟩, fun _ es h => .inl ⟨es, h, rfl⟩⟩
  refine ⟨⟨fun b hb => by show b < w.heap.size; rw [hh]; exact h.imm b hb, fun k r hr => ?_, fun k es hes => ?_, h.inj⟩, ⟨ho, ht, hu, by show _ ≤ w.heap.size; rw [hh]; exact Nat.le_refl _, fun b _ _ => by show w.heap[b]? = _; rw [hh], m, fun _ h => .inl h, fun k h => .inr ⟨k, h, rfl⟩⟩⟩
  · obtain ⟨h1, h2, h3, h4, cells, mk, hc, hp, hm, hl, hx⟩ := h.row k r hr
    refine ⟨h1, h2, h3, h4, cells, mk, by show w.heap[_]? = _; rw [hh]; exact hc, hp, hm, hl, fun j x hj => ?_⟩
    obtain ⟨u, hu1, hu2, hu3⟩ := hx j x hj
    exact ⟨u, hu1, hu2, hu3.mono m⟩
  · obtain ⟨h1, h2, en, cl, hc, hl, hx⟩ := h.map k es hes
    refine ⟨h1, h2, en, cl, by show w.heap[_]? = _; rw [hh]; exact hc, hl, fun j x e hj he => ?_⟩
    obtain ⟨a, b⟩ := hx j x e hj he
    exact ⟨a.mono m, b.mono m⟩

/-- A new block. -/
def Ctx.new (c : Ctx) (t : Tag) (x : AObj) (o : Obj) : Ctx :=
  { S := c.S, φ := fun u => if u = t then c.w.heap.size else c.φ u, H := upd c.H t x, T := fun u => c.T u ∨ u = t, w := c.w.alloc o }
theorem alloc_get_old (w : World) (o : Obj) (b : Nat) (h : b < w.heap.size) : (w.alloc o).heap[b]? = w.heap[b]? := RowKit.Below.heap_alloc w o b h
theorem alloc_get_new (w : World) (o : Obj) : (w.alloc o).heap[w.heap.size]? = some o := by
  show (w.heap.push o)[w.heap.size]? = _
  simp
theorem alloc_size (w : World) (o : Obj) : (w.alloc o).heap.size = w.heap.size + 1 := by
  show (w.heap.push o).size = _
  simp

theorem mono_new {c : Ctx} (h : Inv c) (t : Tag) (ht : ¬ c.T t) (x : AObj) (o : Obj) (hg : ∀ r, x = .row r → r.gen = t) : Mono c (c.new t x o) where
  S := fun _ h => h
  blk := fun b hb => alloc_get_old _ _ _ (h.imm b hb)
  T := fun _ h => .inl h
  row := fun k r' hr' => by
    simp only [Ctx.new] at hr' ⊢
    by_cases e : k = t
    · subst e
      rw [upd_same] at hr'
      injection hr' with hr'
      exact .inr (by rw [hg r' hr']; exact ht)
    · rw [upd_ne _ _ _ _ e] at hr'
      refine .inl ⟨r', hr', rfl, rfl, if_neg e, fun cells' e' m hc => ⟨cells', e', m, ?_, Nat.le_refl _⟩⟩
      rw [if_neg e, alloc_get_old _ _ _ (h.lt hr')] at hc
      exact hc
  map := fun k es' hes => by
    simp only [Ctx.new] at hes ⊢
    by_cases e : k = t
    · exact .inr (e ▸ ht)
    · rw [upd_ne _ _ _ _ e] at hes
      exact .inl ⟨es', hes, if_neg e⟩

theorem live_new {c : Ctx} {t : Tag} {x : AObj} {o : Obj} {k : Tag} (hl : Live (c.new t x o) k) (e : k ≠ t) : Live c k := by
  obtain ⟨y, hy, hr⟩ := hl
  simp only [Ctx.new, upd_ne _ _ _ _ e] at hy
  exact ⟨y, hy, hr⟩

theorem step_new {c : Ctx} (h : Inv c) (t : Tag) (ht : ¬ c.T t) (x : AObj) (o : Obj) (hg : ∀ r, x = .row r → r.gen = t) : Step c (c.new t x o) where
  os := rfl
  tape := rfl
  output := rfl
  size := by show _ ≤ (c.w.alloc o).heap.size; rw [alloc_size]; omega
  keep := fun b hb _ => alloc_get_old _ _ _ hb
  mono := mono_new h t ht x o hg
  Snew := fun _ h => .inl h
  img := fun k hl => by
    by_cases e : k = t
    · exact .inl (by simp [Ctx.new, e])
    · exact .inr ⟨k, live_new hl e, by simp [Ctx.new, e]⟩

theorem inv_new {c : Ctx} (h : Inv c) (t : Tag) (ht : ¬ c.T t) (x : AObj) (o : Obj) (hg : ∀ r, x = .row r → r.gen = t ∧ r.ro = false)
    (hx : match x with
      | .row r => ∃ cells m, o = .cells cells r.elem m ∧ (r.plain = true → m = (0, 0)) ∧ (m.2 = 0 ∨ r.cs.length ≤ m.1) ∧ r.cs.length ≤ cells.size ∧ ∀ (j : Nat) (y : AV), r.cs[j]? = some y → ∃ u : Value, cells[j]? = some u ∧ u.oneCell' = true ∧ VR c y u
      | .map es => o = .map #[] 0 ∧ es = []) : Inv (c.new t x o) := by
  have m := mono_new h t ht x o (fun r hr => (hg r hr).1)
  have hS : ¬ c.S c.w.heap.size := fun hs => by have := h.imm _ hs; omega
  refine ⟨fun b hb => ?_, fun k r hr => ?_, fun k es hes => ?_, fun k k' hl hl' e => ?_⟩
  · show b < (c.w.alloc o).heap.size
    rw [alloc_size]
    have := h.imm b hb
    omega
  · simp only [Ctx.new] at hr ⊢
    by_cases e : k = t
    · subst e
      rw [upd_same] at hr
      injection hr with hr
      subst hr
      obtain ⟨cells, mk, rfl, hp, hm, hl, hc⟩ := hx
      obtain ⟨hg1, hg2⟩ := hg r rfl
      rw [if_pos rfl]
      refine ⟨.inr rfl, .inr hg1, fun hro => (by rw [hg2] at hro; cases hro), fun _ => hS, cells, mk, alloc_get_new _ _, hp, hm, hl, fun j y hj => ?_⟩
      obtain ⟨u, h1, h2, h3⟩ := hc j y hj
      exact ⟨u, h1, h2, h3.mono m⟩
    · rw [upd_ne _ _ _ _ e] at hr
      obtain ⟨h1, h2, h3, h4, cells, mk, hc, hp, hm, hl, hcs⟩ := h.row k r hr
      rw [if_neg e]
      refine ⟨.inl h1, .inl h2, h3, h4, cells, mk, by rw [alloc_get_old _ _ _ (h.lt hr)]; exact hc, hp, hm, hl, fun j y hj => ?_⟩
      obtain ⟨u, h1, h2, h3⟩ := hcs j y hj
      exact ⟨u, h1, h2, h3.mono m⟩
  · simp only [Ctx.new] at hes ⊢
    by_cases e : k = t
    · subst e
      rw [upd_same] at hes
      injection hes with hes
      subst hes
      obtain ⟨rfl, rfl⟩ := hx
      rw [if_pos rfl]
      exact ⟨.inr rfl, hS, #[], 0, alloc_get_new _ _, rfl, fun j y e hj => by simp at hj⟩
    · rw [upd_ne _ _ _ _ e] at hes
      obtain ⟨h1, h2, en, cl, hc, hl, hcs⟩ := h.map k es hes
      rw [if_neg e]
      refine ⟨.inl h1, h2, en, cl, by rw [alloc_get_old _ _ _ (h.lt hes)]; exact hc, hl, fun j y z hj hz => ?_⟩
      obtain ⟨a, b⟩ := hcs j y z hj hz
      exact ⟨a.mono m, b.mono m⟩
  · by_cases e1 : k = t <;> by_cases e2 : k' = t
    · rw [e1, e2]
    · have hk' := live_new hl' e2
      simp only [Ctx.new, e1, e2, if_true, if_false] at e
      obtain ⟨y, hy, _⟩ := hk'
      have := h.lt hy
      omega
    · have hk := live_new hl e1
      simp only [Ctx.new, e1, e2, if_true, if_false] at e
      obtain ⟨y, hy, _⟩ := hk
      have := h.lt hy
      omega
    · simp only [Ctx.new, e1, e2, if_false] at e
      exact h.inj k k' (live_new hl e1) (live_new hl' e2) e

end Go.Proofs.Ytcaemgpificohaa.A
