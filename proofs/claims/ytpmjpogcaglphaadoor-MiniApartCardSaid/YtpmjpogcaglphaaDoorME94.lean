/- A, part 23: arguments that read are data. -/
import Derived.ProofKit
import Derived.OpenShut
import Derived.IntWalk
import Derived.Test.YtpmjpogcaglphaaDoorME91
import Derived.Test.YtpmjpogcaglphaaDoorME92
import Derived.Test.YtpmjpogcaglphaaDoorME93
set_option linter.unusedVariables false
set_option linter.unusedSimpArgs false
set_option linter.unnecessarySimpa false
namespace Go.Proofs.YtpmjpogcaglphaaDoor.A
open Go

/-- The cells of a value of a type, as data. -/
def Shaped (P : Program) : Nat → TypeId → List AV → Prop
  | 0, _, _ => False
  | d + 1, t, xs =>
    match P.underlying t with
    | some .bool => ∃ b, xs = [.bool b]
    | some (.int k) => ∃ n, xs = [.int k n] ∧ (Lit.int k n).wf = true
    | some .string => ∃ s, xs = [.str s] ∧ s.length ≤ maxLen
    | some (.slice e) => ∃ parts : List (List AV), xs = [.sl parts.length parts.flatten] ∧ parts.length ≤ maxLen ∧ ∀ p ∈ parts, Shaped P d e p
    | some (.struct fs) => ∃ parts : List (List AV), xs = parts.flatten ∧ parts.length = fs.size ∧ ∀ (i : Nat) (f : Field) (p : List AV), fs[i]? = some f → parts[i]? = some p → Shaped P d f.type p
    | some (.array n e) => ∃ parts : List (List AV), xs = parts.flatten ∧ parts.length = n ∧ ∀ p ∈ parts, Shaped P d e p
    | _ => xs = [.und]

def Old (w : World) (b : Nat) : Prop := b < w.heap.size
def CR (w : World) (x : AV) (u : Value) : Prop := PR (Old w) w x u ∧ u.oneCell' = true

theorem LR.take {R : AV → Value → Prop} {xs : List AV} {vs : List Value} (h : LR R xs vs) (n : Nat) : LR R (xs.take n) (vs.take n) := by
  refine ⟨by simp [h.1], fun j x u hx hu => ?_⟩
  have hj : j < n := by
    have := (List.getElem?_eq_some_iff.1 hx).1
    simp at this
    omega
  rw [List.getElem?_take_of_lt hj] at hx hu
  exact h.2 j x u hx hu

theorem mapM_get {α β : Type} {f : α → Option β} : ∀ {l : List α} {ys : List β}, l.mapM f = some ys → ys.length = l.length ∧ ∀ (i : Nat) (x : α), l[i]? = some x → ∃ y, ys[i]? = some y ∧ f x = some y
  | [], ys, h => by
    simp at h
    subst h
    exact ⟨rfl, fun i x hx => by simp at hx⟩
  | a :: l, ys, h => by
    rw [List.mapM_cons] at h
    cases ha : f a with
    | none => rw [ha] at h; cases h
    | some y =>
      cases hl : l.mapM f with
      | none => rw [ha, hl] at h; cases h
      | some zs =>
        rw [ha, hl] at h
        have : ys = y :: zs := by
          have h' : some (y :: zs) = some ys := h
          injection h' with h'
          exact h'.symm
        subst this
        obtain ⟨h1, h2⟩ := mapM_get hl
        refine ⟨by simp [h1], fun i x hx => ?_⟩
        cases i with
        | zero => simp at hx; subst hx; exact ⟨y, rfl, ha⟩
        | succ i => simp at hx; simpa using h2 i x hx

/-- Choosing one by one. -/
theorem choose_list {α β : Type} {Q : Nat → α → β → Prop} : ∀ (l : List α) (k : Nat), (∀ (i : Nat) (x : α), l[i]? = some x → ∃ y, Q (k + i) x y) → ∃ ys : List β, ys.length = l.length ∧ ∀ (i : Nat) (x : α) (y : β), l[i]? = some x → ys[i]? = some y → Q (k + i) x y
  | [], k, _ => ⟨[], rfl, fun i x y hx => by simp at hx⟩
  | a :: l, k, h => by
    obtain ⟨y, hy⟩ := h 0 a rfl
    obtain ⟨ys, h1, h2⟩ := choose_list l (k + 1) (fun i x hx => by
      have := h (i + 1) x (by simpa using hx)
      rwa [show k + (i + 1) = k + 1 + i by omega] at this)
    refine ⟨y :: ys, by simp [h1], fun i x z hx hz => ?_⟩
    cases i with
    | zero => simp at hx hz; subst hx; subst hz; exact hy
    | succ i =>
      simp at hx hz
      have := h2 i x z hx hz
      rwa [show k + 1 + i = k + (i + 1) by omega] at this

/-- Parts of one size, laid end to end. -/
theorem flat_parts {R : AV → Value → Prop} {sz : Nat} : ∀ {parts : List (List AV)} {vs : List (List Value)}, parts.length = vs.length → (∀ (i : Nat) p v, parts[i]? = some p → vs[i]? = some v → LR R p v ∧ v.length = sz) → LR R parts.flatten vs.flatten ∧ vs.flatten.length = parts.length * sz
  | [], [], _, _ => ⟨LR.nil, by simp⟩
  | p :: parts, v :: vs, hl, h => by
    obtain ⟨h1, h2⟩ := flat_parts (parts := parts) (vs := vs) (by simpa using hl) (fun i p v hp hv => h (i + 1) p v (by simpa using hp) (by simpa using hv))
    obtain ⟨h3, h4⟩ := h 0 p v rfl rfl
    refine ⟨h3.append h1, ?_⟩
    simp only [List.flatten_cons, List.length_append, h4, h2, List.length_cons, Nat.add_mul]
    omega
  | [], _ :: _, hl, _ => by simp at hl
  | _ :: _, [], hl, _ => by simp at hl

/-- A row of cells, cut into parts whose sizes add up. -/
theorem cut_parts {R : AV → Value → Prop} : ∀ {parts : List (List AV)} {sizes : List Nat} {cs : List Value}, parts.length = sizes.length → cs.length = sizes.sum → (∀ (i : Nat) p n, parts[i]? = some p → sizes[i]? = some n → LR R p ((cs.drop (sizes.take i).sum).take n)) → LR R parts.flatten cs
  | [], [], cs, _, hs, _ => by
    have : cs = [] := List.eq_nil_of_length_eq_zero (by simpa using hs)
    subst this
    exact LR.nil
  | p :: parts, n :: sizes, cs, hl, hs, h => by
    have h0 := h 0 p n rfl rfl
    simp at h0 hs
    have := cut_parts (R := R) (parts := parts) (sizes := sizes) (cs := cs.drop n) (by simpa using hl) (by simp; omega) (fun i p' n' hp hn => by
      have := h (i + 1) p' n' (by simpa using hp) (by simpa using hn)
      simpa [List.drop_drop] using this)
    have e : cs = cs.take n ++ cs.drop n := (List.take_append_drop n cs).symm
    rw [e]
    exact h0.append this
  | [], _ :: _, _, hl, _, _ => by simp at hl
  | _ :: _, [], _, hl, _, _ => by simp at hl

section
variable {H : Type} {enc : TypeId × Value → H} {P : Program} {w : World} {base : Nat} {sp : Nat → Bool} {held : Bool}

theorem cells_get {a : Addr} {n : Nat} {cs : List Value} (h : w.cells? base a n = some cs) : cs.length = n ∧ ∀ i v, cs[i]? = some v → w.cell? (a.add i) = some v := by
  unfold World.cells? at h
  split at h
  · obtain ⟨h1, h2⟩ := mapM_get h
    rw [List.length_range] at h1
    refine ⟨h1, fun i v hv => ?_⟩
    have hi : i < n := by have := (List.getElem?_eq_some_iff.1 hv).1; omega
    obtain ⟨y, hy, hf⟩ := h2 i i (by simp [hi])
    rw [hv] at hy
    injection hy with hy
    rw [hf, ← hy]
  · cases h
theorem cell_old {a : Addr} {v : Value} (h : w.cell? a = some v) : Old w a.block := by
  unfold World.cell? at h
  split at h
  · rename_i cells e m hb
    exact (Array.getElem?_eq_some_iff.1 hb).1
  · cases h

theorem shape_slice {e : TypeId} {a : Addr} {n cap : Nat} (hn : n ≤ cap) {parts : List (List AV)} (hl : parts.length = n) (h : ∀ (i : Nat) p, parts[i]? = some p → ∃ cs, w.cells? base (a.add (i * P.cellsOf e)) (P.cellsOf e) = some cs ∧ LR (CR w) p cs) :
    CR w (.sl n parts.flatten) (.slice (some a) n cap) := by
  obtain ⟨vs, hv1, hv2⟩ := choose_list (Q := fun i p cs => w.cells? base (a.add (i * P.cellsOf e)) (P.cellsOf e) = some cs ∧ LR (CR w) p cs) parts 0 (fun i p hp => by simpa using h i p hp)
  simp only [Nat.zero_add] at hv2
  have hlr := flat_parts (R := CR w) (sz := P.cellsOf e) hv1.symm (fun i p v hp hv => ⟨(hv2 i p v hp hv).2, (cells_get (hv2 i p v hp hv).1).1⟩)
  have hcell : ∀ (k : Nat) (l : List (List Value)), (∀ i cs, l[i]? = some cs → w.cells? base (a.add ((k + i) * P.cellsOf e)) (P.cellsOf e) = some cs) → ∀ j u, l.flatten[j]? = some u → w.cell? (a.add (k * P.cellsOf e + j)) = some u := fun k l => by
    induction l generalizing k with
    | nil => intro _ j u hu; simp at hu
    | cons cs l ih =>
      intro hc j u hu
      obtain ⟨c1, c2⟩ := cells_get (hc 0 cs rfl)
      rw [List.flatten_cons] at hu
      by_cases hj : j < cs.length
      · rw [List.getElem?_append_left hj] at hu
        have := c2 j u hu
        rw [add_add] at this
        simpa using this
      · rw [List.getElem?_append_right (by omega)] at hu
        have := ih (k + 1) (fun i cs' hi => by
          have := hc (i + 1) cs' (by simpa using hi)
          rwa [show k + (i + 1) = k + 1 + i by omega] at this) _ u hu
        rw [c1] at this
        rw [c1] at hj
        rwa [show (k + 1) * P.cellsOf e + (j - P.cellsOf e) = k * P.cellsOf e + j by rw [Nat.add_mul]; omega] at this
  have hcells := hcell 0 vs (fun i cs hi => by
    have hi' : i < parts.length := by have := (List.getElem?_eq_some_iff.1 hi).1; omega
    simpa using (hv2 i _ cs (List.getElem?_eq_getElem hi') hi).1)
  have hval : ∀ j x, parts.flatten[j]? = some x → ∃ u, vs.flatten[j]? = some u ∧ w.cell? (a.add j) = some u ∧ CR w x u := fun j x hx => by
    have hj : j < vs.flatten.length := by have := (List.getElem?_eq_some_iff.1 hx).1; rw [hlr.1.1]; exact this
    refine ⟨_, List.getElem?_eq_getElem hj, ?_, hlr.1.2 j x _ hx (List.getElem?_eq_getElem hj)⟩
    simpa using hcells j _ (List.getElem?_eq_getElem hj)
  have hget : ∀ j x, parts.flatten[j]? = some x → vs.flatten.getD j undef = (vs.flatten[j]?).getD undef := fun j x _ => by simp [List.getD_eq_getElem?_getD]
  refine ⟨.sl n _ (some a) cap (fun j => vs.flatten.getD j undef) hn (fun _ => ⟨a, rfl⟩) (fun hne => ⟨a, rfl, ?_⟩) (fun a' j x ha hx => ?_) (fun j x hx => ?_) (fun j x hx => ?_), rfl⟩
  · obtain ⟨x, hx⟩ := List.exists_mem_of_ne_nil _ hne
    obtain ⟨j, hj⟩ := List.getElem?_of_mem hx
    obtain ⟨u, _, hu, _⟩ := hval j x hj
    have := cell_old hu
    rwa [add_block] at this
  · injection ha with ha
    subst ha
    obtain ⟨u, h1, h2, _⟩ := hval j x hx
    rw [hget j x hx, h1]
    exact h2
  · obtain ⟨u, h1, _, h2⟩ := hval j x hx
    rw [hget j x hx, h1]
    exact h2.2
  · obtain ⟨u, h1, _, h2⟩ := hval j x hx
    rw [hget j x hx, h1]
    exact h2.1

/-- Types of data alone, closed under their parts. -/
def dataTypes (P : Program) (ks : List TypeId) : Bool :=
  ks.all fun t => decide (t < P.types.size) && match P.underlying t with
    | some .bool => true
    | some (.int _) => true
    | some .string => true
    | some (.slice e) => ks.contains e
    | some (.struct fs) => fs.toList.all fun f => ks.contains f.type
    | some (.array _ e) => ks.contains e
    | _ => false

theorem trod_shape (hl : laidOutB P = true) {ks : List TypeId} (hk : dataTypes P ks = true) : ∀ (d : Nat) (t : TypeId) (cs : List Value) (r : DataW H × List MemPlace), t ∈ ks → DataW.trod enc P w base sp held d t cs = some r → ∃ xs, Shaped P d t xs ∧ LR (CR w) xs cs
  | 0, t, cs, r, _, h => by simp [DataW.trod] at h
  | d + 1, t, cs, r, ht, h => by
    have IH := trod_shape hl hk d
    have one : ∀ {x : AV} {v : Value}, CR w x v → LR (CR w) [x] [v] := fun h => LR.cons h LR.nil
    have hkt := List.all_eq_true.1 hk t ht
    simp only [Bool.and_eq_true, decide_eq_true_eq] at hkt
    obtain ⟨hlt, hkt⟩ := hkt
    unfold Shaped
    split at hkt
    · rename_i hu
      obtain ⟨b, rfl, _⟩ := DataW.trod_bool hu h
      try simp only [hu]
      exact ⟨_, ⟨b, rfl⟩, one ⟨.bool b, rfl⟩⟩
    · rename_i k hu
      obtain ⟨n, rfl, _, hw⟩ := DataW.trod_int hu h
      try simp only [hu]
      exact ⟨_, ⟨n, rfl, hw⟩, one ⟨.int k n, rfl⟩⟩
    · rename_i hu
      obtain ⟨s, rfl, _, hw⟩ := DataW.trod_string hu h
      try simp only [hu]
      refine ⟨_, ⟨s.data.toList, rfl, by simpa using hw⟩, one ⟨?_, rfl⟩⟩
      have := PR.str (S := Old w) (w := w) s.data.toList
      simpa using this
    · rename_i e hu
      try simp only [hu]
      rcases DataW.trod_slice hu h with ⟨rfl, _⟩ | ⟨a, len, cap, elems, rest, n, hn, rfl, _, _, hlc, hcm, hel, hget, _⟩
      · refine ⟨[.sl 0 []], ⟨[], rfl, by simp, fun p hp => by cases hp⟩, one ⟨?_, rfl⟩⟩
        exact .sl 0 [] none 0 (fun _ => undef) (Nat.le_refl _) (fun h => by omega) (fun h => absurd rfl h) (fun a j x _ hx => by simp at hx) (fun j x hx => by simp at hx) (fun j x hx => by simp at hx)
      · obtain rfl : n = d := by omega
        have hpart : ∀ (i : Nat) (y : DataW H × List MemPlace), elems[i]? = some y → ∃ p : List AV, Shaped P n e p ∧ ∃ cs, w.cells? base (a.add (i * P.cellsOf e)) (P.cellsOf e) = some cs ∧ LR (CR w) p cs := fun i y hy => by
          have hi : i < len := by have := (List.getElem?_eq_some_iff.1 hy).1; omega
          have := hget i hi
          rw [hy] at this
          cases hc : w.cells? base (a.add (i * P.cellsOf e)) (P.cellsOf e) with
          | none => rw [hc] at this; cases this
          | some cs =>
            rw [hc] at this
            obtain ⟨xs, h1, h2⟩ := IH e cs y (by simpa using hkt) this
            exact ⟨xs, h1, cs, rfl, h2⟩
        obtain ⟨parts, hp1, hp2⟩ := choose_list (Q := fun i _ p => Shaped P n e p ∧ ∃ cs, w.cells? base (a.add (i * P.cellsOf e)) (P.cellsOf e) = some cs ∧ LR (CR w) p cs) elems 0 (fun i y hy => by simpa using hpart i y hy)
        simp only [Nat.zero_add] at hp2
        have hpl : parts.length = len := by omega
        have hel' : ∀ (i : Nat) p, parts[i]? = some p → ∃ y, elems[i]? = some y := fun i p hp => by
          have hi : i < elems.length := by have := (List.getElem?_eq_some_iff.1 hp).1; omega
          exact ⟨_, List.getElem?_eq_getElem hi⟩
        refine ⟨_, ⟨parts, rfl, by omega, fun p hp => ?_⟩, one ?_⟩
        · obtain ⟨i, hi⟩ := List.getElem?_of_mem hp
          obtain ⟨y, hy⟩ := hel' i p hi
          exact (hp2 i y p hy hi).1
        · have := shape_slice (base := base) hlc hpl (fun i p hp => by
            obtain ⟨y, hy⟩ := hel' i p hp
            exact (hp2 i y p hy hp).2)
          rwa [hpl]
    · rename_i fs hu
      try simp only [hu]
      obtain ⟨xs, n, hn, _, hcl, hxl, hget⟩ := DataW.trod_struct hu h
      obtain rfl : n = d := by omega
      obtain ⟨k1, k2, k3⟩ := kid_struct hl hlt hu
      have hmem : ∀ (i : Nat) (f : Field), fs.toList[i]? = some f → f.type ∈ ks := fun i f hf => by
        have := List.all_eq_true.1 hkt f (List.mem_of_getElem? hf)
        simpa using this
      obtain ⟨parts, hp1, hp2⟩ := choose_list (Q := fun i (f : Field) p => Shaped P n f.type p ∧ LR (CR w) p ((cs.drop f.offset).take (P.cellsOf f.type))) fs.toList 0 (fun i f hf => by
        have hf' : fs[i]? = some f := by simpa using hf
        have hg := hget i f hf'
        have hi : i < xs.length := by have := (List.getElem?_eq_some_iff.1 hf).1; simp at this; omega
        rw [List.getElem?_eq_getElem hi] at hg
        obtain ⟨p, q1, q2⟩ := IH f.type _ _ (hmem i f hf) hg
        exact ⟨p, q1, q2⟩)
      refine ⟨_, ⟨parts, rfl, by simpa using hp1, fun i f p hf hp => (hp2 i f p (by simpa using hf) hp).1⟩, ?_⟩
      refine cut_parts (sizes := fs.toList.map fun f => P.cellsOf f.type) (by simpa using hp1) (by rw [hcl, k2]) (fun i p m hp hm => ?_)
      rw [List.getElem?_map] at hm
      cases hf : fs.toList[i]? with
      | none => rw [hf] at hm; cases hm
      | some f =>
        rw [hf] at hm
        simp only [Option.map_some, Option.some.injEq] at hm
        subst hm
        have := (hp2 i f p hf hp).2
        rw [k3 i f hf] at this
        rw [← List.map_take]
        exact this
    · rename_i n e hu
      try simp only [hu]
      obtain ⟨xs, m, hm, _, hcl, hxl, hget⟩ := DataW.trod_array hu h
      obtain rfl : m = d := by omega
      obtain ⟨k1, k2⟩ := kid_array hl hlt hu
      obtain ⟨parts, hp1, hp2⟩ := choose_list (Q := fun i (_ : Nat) p => Shaped P m e p ∧ LR (CR w) p ((cs.drop (i * P.cellsOf e)).take (P.cellsOf e))) (List.range n) 0 (fun i j hj => by
        have hi : i < n := by have := (List.getElem?_eq_some_iff.1 hj).1; simpa using this
        have hg := hget i hi
        rw [List.getElem?_eq_getElem (by omega)] at hg
        obtain ⟨p, q1, q2⟩ := IH e _ _ (by simpa using hkt) hg
        exact ⟨p, q1, by simpa using q2⟩)
      simp only [Nat.zero_add, List.length_range] at hp1 hp2
      have hp3 : ∀ (i : Nat) p, parts[i]? = some p → Shaped P m e p ∧ LR (CR w) p ((cs.drop (i * P.cellsOf e)).take (P.cellsOf e)) := fun i p hp => by
        have hi : i < n := by have := (List.getElem?_eq_some_iff.1 hp).1; omega
        exact hp2 i i p (by simp [hi]) hp
      refine ⟨_, ⟨parts, rfl, hp1, fun p hp => ?_⟩, ?_⟩
      · obtain ⟨i, hi⟩ := List.getElem?_of_mem hp
        exact (hp3 i p hi).1
      · refine cut_parts (sizes := List.replicate n (P.cellsOf e)) (by simpa using hp1) (by rw [hcl, k2]; simp) (fun i p q hp hq => ?_)
        have hi : i < n := by have := (List.getElem?_eq_some_iff.1 hp).1; omega
        have hq' : q = P.cellsOf e := (List.mem_replicate.1 (List.mem_of_getElem? hq)).2
        subst hq'
        have := (hp3 i p hp).2
        have e1 : ((List.replicate n (P.cellsOf e)).take i).sum = i * P.cellsOf e := by
          rw [List.take_replicate, Nat.min_eq_left (Nat.le_of_lt hi), List.sum_replicate_nat]
        rw [e1]
        exact this
    · cases hkt

/-- An argument of a type, as data. -/
def ArgOf (P : Program) (t : TypeId) (x : AV) : Prop :=
  match P.underlying t with
  | some (.struct _) => ∃ d xs, x = .agg xs ∧ Shaped P d t xs
  | some (.array _ _) => ∃ d xs, x = .agg xs ∧ Shaped P d t xs
  | _ => ∃ d, Shaped P d t [x]
theorem arg_shape (hl : laidOutB P = true) {ks : List TypeId} (hk : dataTypes P ks = true) {t : TypeId} (ht : t ∈ ks) {v : Value} {r : Reach} {b0 : Nat} {dd : DataW H} {ps : List MemPlace} (hval : Value.okWide P w r b0 t v) (h : DataW.Trod enc P w base sp held t v dd ps) : ∃ x, ArgOf P t x ∧ PR (Old w) w x v := by
  obtain ⟨d, h⟩ := h
  obtain ⟨xs, h1, h2⟩ := trod_shape hl hk d t _ _ ht h
  have hkt := List.all_eq_true.1 hk t ht
  simp only [Bool.and_eq_true, decide_eq_true_eq] at hkt
  obtain ⟨_, hkt⟩ := hkt
  have plain : v.cells = #[v] → ∃ x, Shaped P d t [x] ∧ PR (Old w) w x v := fun e => by
    rw [e] at h2
    match xs, h2, h1 with
    | [x], h2, h1 => exact ⟨x, h1, (h2.2 0 x v rfl rfl).1⟩
    | [], h2, _ => have := h2.1; simp at this
    | _ :: _ :: _, h2, _ => have := h2.1; simp at this
  have aggs : ∀ {cs : Array Value}, v = .agg cs → ∃ x, (∃ d xs, x = .agg xs ∧ Shaped P d t xs) ∧ PR (Old w) w x v := fun {cs} e => by
    subst e
    refine ⟨.agg xs, ⟨d, xs, rfl, h1⟩, .agg xs cs (by simpa [Value.cells] using h2.1) (fun j x u hx hu => ?_) (fun j u hu => ?_)⟩
    · exact (h2.2 j x u hx (by simpa [Value.cells] using hu)).1
    · have hj : j < xs.length := by
        have := (Array.getElem?_eq_some_iff.1 hu).1
        have h3 := h2.1
        simp [Value.cells] at h3
        omega
      exact (h2.2 j _ u (List.getElem?_eq_getElem hj) (by simpa [Value.cells] using hu)).2
  unfold ArgOf
  split at hkt
  · rename_i hu
    simp only [hu]
    obtain ⟨b, rfl⟩ := WideShapes.okWide_bool hu hval
    obtain ⟨x, q1, q2⟩ := plain rfl
    exact ⟨x, ⟨d, q1⟩, q2⟩
  · rename_i k hu
    simp only [hu]
    obtain ⟨b, rfl⟩ := WideShapes.okWide_int hu hval
    obtain ⟨x, q1, q2⟩ := plain rfl
    exact ⟨x, ⟨d, q1⟩, q2⟩
  · rename_i hu
    simp only [hu]
    obtain ⟨b, rfl⟩ := WideShapes.okWide_string hu hval
    obtain ⟨x, q1, q2⟩ := plain rfl
    exact ⟨x, ⟨d, q1⟩, q2⟩
  · rename_i e hu
    simp only [hu]
    obtain ⟨a, l, c, rfl⟩ := WideShapes.okWide_slice hu hval
    obtain ⟨x, q1, q2⟩ := plain rfl
    exact ⟨x, ⟨d, q1⟩, q2⟩
  · rename_i fs hu
    simp only [hu]
    simp only [Value.okWide, hu] at hval
    obtain ⟨cs, e, _⟩ := hval
    exact aggs e
  · rename_i n e hu
    simp only [hu]
    simp only [Value.okWide, hu] at hval
    obtain ⟨cs, e, _⟩ := hval
    exact aggs e
  · cases hkt

/-- Arguments, each of its type. -/
def ArgsOf (P : Program) : List TypeId → List AV → Prop
  | [], [] => True
  | t :: ts, x :: xs => ArgOf P t x ∧ ArgsOf P ts xs
  | _, _ => False
theorem args_shape (hl : laidOutB P = true) {ks : List TypeId} (hk : dataTypes P ks = true) {r : Reach} {b0 : Nat} : ∀ {ts : List TypeId} {vs : List Value} {ds : List (DataW H)} {ps : List MemPlace}, (∀ t ∈ ts, t ∈ ks) → (∀ (j : Nat) t v, ts[j]? = some t → vs[j]? = some v → Value.okWide P w r b0 t v) →
    DataW.TrodAll enc P w base sp held ts vs ds ps → ∃ xs, ArgsOf P ts xs ∧ LR (PR (Old w) w) xs vs
  | [], [], [], ps, _, _, _ => ⟨[], trivial, LR.nil⟩
  | t :: ts, v :: vs, d :: ds, ps, hm, hv, h => by
    obtain ⟨p, q, h1, h2, _⟩ := h
    obtain ⟨x, a1, a2⟩ := arg_shape hl hk (hm t (List.mem_cons_self ..)) (hv 0 t v rfl rfl) h1
    obtain ⟨xs, b1, b2⟩ := args_shape hl hk (fun t ht => hm t (List.mem_cons_of_mem _ ht)) (fun j t v ht hv' => hv (j + 1) t v (by simpa using ht) (by simpa using hv')) h2
    exact ⟨x :: xs, ⟨a1, b1⟩, LR.cons a2 b2⟩
  | [], _ :: _, _, _, _, _, h => h.elim
  | [], [], _ :: _, _, _, _, h => h.elim
  | _ :: _, [], _, _, _, _, h => h.elim
  | _ :: _, _ :: _, [], _, _, _, h => h.elim

/-- They read behind the call as they read before. -/
theorem below_trods (hl : laidOutB P = true) {w' : World} (hb : RowKit.Below w.heap.size w w') {sp' : Nat → Bool} : ∀ {ts : List TypeId} {vs : List Value} {ds : List (DataW H)} {ps : List MemPlace}, (∀ t ∈ ts, P.readableRec t = true ∧ t < P.types.size) → (∀ x ∈ ps, x.block < w.heap.size) → (∀ x ∈ ps, sp' x.block = true) →
    DataW.TrodAll enc P w 0 (fun _ => true) true ts vs ds ps → DataW.TrodAll enc P w' 0 sp' true ts vs ds ps
  | [], [], [], ps, _, _, _, h => h
  | t :: ts, v :: vs, d :: ds, ps, hm, hp, hs, h => by
    obtain ⟨p, q, h1, h2, rfl⟩ := h
    obtain ⟨m1, m2⟩ := hm t (List.mem_cons_self ..)
    exact ⟨p, q, WideElems.Trod_stays hl m1 m2 h1 (fun x hx => hb.same (hp x (List.mem_append_left _ hx))) (fun x hx => hs x (List.mem_append_left _ hx)), below_trods hl hb (fun t ht => hm t (List.mem_cons_of_mem _ ht)) (fun x hx => hp x (List.mem_append_right _ hx)) (fun x hx => hs x (List.mem_append_right _ hx)) h2, rfl⟩
  | [], _ :: _, _, _, _, _, _, h => h.elim
  | [], [], _ :: _, _, _, _, _, h => h.elim
  | _ :: _, [], _, _, _, _, _, h => h.elim
  | _ :: _, _ :: _, [], _, _, _, _, h => h.elim
end

end Go.Proofs.YtpmjpogcaglphaaDoor.A
/- A, part 24: a law that answers true, from its run on data. -/
namespace Go.Proofs.YtpmjpogcaglphaaDoor.A
open Go Go.ChangeShapes

theorem law_post {H : Type} {enc : TypeId × Value → H} {P : Program} {f : Func} {s : ChangeSpec} {apart fresh handsOn again : Bool} {W W' : World} {args : Array Value} {ds gs : List (DataW H)} {before : List MemPlace} {tb : TypeId} (hl : laidOutB P = true)
    (hW : DataW.Whole enc P f.params.toList s.vars apart W args.toList ds gs before) (hv : s.vars = []) (hr : f.resultTypes = #[tb]) (htb : P.underlying tb = some .bool) (hfn : (s.fn H (ds ++ gs)).results = [.lit (.bool true)] ∧ (s.fn H (ds ++ gs)).args = ds ∧ (s.fn H (ds ++ gs)).vars = [])
    (hts : ∀ t ∈ f.params.toList, P.readableRec t = true ∧ t < P.types.size) (hb : RowKit.Below W.heap.size W W') : s.post enc P f apart fresh handsOn again W args (.bool true) W' := by
  obtain ⟨f1, f2, f3⟩ := hfn
  have hlt : ∀ p ∈ before, p.block < W.heap.size := fun p hp => hW.lt p hp
  have hWc := hW
  obtain ⟨p, q, hA, hV, rfl, hz, hn⟩ := hW
  have hgq : gs = [] ∧ q = [] := by
    rw [hv] at hV
    exact trodVars_none hV
  obtain ⟨rfl, rfl⟩ := hgq
  have hargs : ∀ sp : Nat → Bool, (∀ x ∈ p, sp x.block = true) → DataW.TrodAll enc P W' 0 sp true f.params.toList args.toList ds p := fun sp hsp => by
    exact below_trods hl hb hts (fun x hx => hlt x (List.mem_append_left _ hx)) hsp hA
  have hres : ∀ (b : Nat) (sp : Nat → Bool) (hd : Bool), DataW.TrodAll enc P W' b sp hd f.resultTypes.toList ((Value.bool true).resultList f.resultTypes.size) [.lit (.bool true)] [] := fun b sp hd => by
    rw [hr]
    exact trodAll_mk1 (RowKit.shut_bool htb true)
  refine ⟨ds, [], p ++ [], [], p, [], hWc, by rw [f1]; exact hres _ _ _, by rw [f2]; exact hargs _ (fun x hx => by simpa using hlt x (List.mem_append_left _ hx)), by rw [hv, f3]; rfl, World.keptBut_mono (fun x hx => ⟨hx, ?_⟩) (hb.frame (· ∈ p ++ [])), fun _ => ?_⟩
  · exact .inr (.inl (by simpa using hx))
  · refine ⟨RowKit.ok_one hr rfl (RowKit.okWide_bool_mk htb true), _, [], ([] ++ p) ++ [], ⟨[] ++ p, [], trodAll_append (hargs _ (fun _ _ => rfl)) (hres _ _ _), by rw [hv]; rfl, rfl, ?_, ?_⟩, ?_⟩
    · intro b off hp
      have hm : MemPlace.cell b off ∈ p ++ [] := by simpa using hp
      rw [hb.frozen (p := ⟨b, off, none⟩) (hlt _ hm)]
      exact hz b off hm
    · intro ha
      have := hn ha
      simpa using this
    · intro x hx _
      simpa using hx

theorem trods_length {H : Type} {enc : TypeId × Value → H} {P : Program} {w : World} {base : Nat} {sp : Nat → Bool} {held : Bool} : ∀ {ts : List TypeId} {vs : List Value} {ds : List (DataW H)} {ps : List MemPlace}, DataW.TrodAll enc P w base sp held ts vs ds ps → ds.length = ts.length
  | [], [], [], _, _ => rfl
  | _ :: _, _ :: _, _ :: _, _, ⟨_, _, _, h, _⟩ => by simp [trods_length h]
  | [], _ :: _, _, _, h => h.elim
  | [], [], _ :: _, _, h => h.elim
  | _ :: _, [], _, _, h => h.elim
  | _ :: _, _ :: _, [], _, h => h.elim

end Go.Proofs.YtpmjpogcaglphaaDoor.A
/- A, part 25: code whose drawn regions have been looked through beforehand; contracts, function by function. -/
namespace Go.Proofs.YtpmjpogcaglphaaDoor.A
open Go

section
variable (E : Env) (cp : CallP) (cr : CallR) (k : Nat) (nz : Nat → Option (List (Nat × Nat)))

/-- As 'stepsF', but the footprints alone that are asked for. -/
def stepsN (st : Nat) (ops : Array Oper) (need : Nat → Bool) : Nat → List Oper → AAct → AH → Option (AAct × AH × List FP)
  | _, [], a, H => some (a, H, [])
  | i, o :: l, a, H => match step1 E cp cr st ops o a H with
    | some (a', H') => match stepsN st ops need (i + 1) l a' H' with
      | some (a'', H'', fs) => some (a'', H'', (match need i with | true => foot E st ops o a H | false => FP.none_) :: fs)
      | none => none
    | none => none
def needOf (prs : List (Nat × Nat)) (i : Nat) : Bool :=
  match prs with
  | [] => false
  | (a, b) :: l => Nat.beq a i || Nat.beq b i || needOf l i
theorem stepsN_eq (st : Nat) (ops : Array Oper) (need : Nat → Bool) : ∀ (l : List Oper) (i : Nat) (a : AAct) (H : AH), match stepsF E cp cr st ops l a H with
    | some (a', H', fs) => ∃ gs, stepsN E cp cr st ops need i l a H = some (a', H', gs) ∧ gs.length = fs.length ∧ ∀ j, need (i + j) = true → gs[j]? = fs[j]?
    | none => stepsN E cp cr st ops need i l a H = none
  | [], i, a, H => ⟨[], rfl, rfl, fun j _ => rfl⟩
  | o :: l, i, a, H => by
    unfold stepsF stepsN
    cases hs : step1 E cp cr st ops o a H with
    | none => rfl
    | some p =>
      obtain ⟨a1, H1⟩ := p
      have ih := stepsN_eq st ops need l (i + 1) a1 H1
      dsimp only
      cases hf : stepsF E cp cr st ops l a1 H1 with
      | none =>
        rw [hf] at ih
        dsimp only at ih ⊢
        rw [ih]
      | some q =>
        obtain ⟨a2, H2, fs⟩ := q
        rw [hf] at ih
        obtain ⟨gs, h1, h2, h3⟩ := ih
        dsimp only
        rw [h1]
        refine ⟨_, rfl, by simp [h2], fun j hj => ?_⟩
        cases j with
        | zero =>
          have : need i = true := by simpa using hj
          simp [this]
        | succ j =>
          simp only [List.getElem?_cons_succ]
          exact h3 j (by rw [← hj]; congr 1; omega)
theorem need_races {prs : List (Nat × Nat)} {fs gs : List FP} (hg : ∀ j, needOf prs j = true → gs[j]? = fs[j]?) : racesOk gs prs = racesOk fs prs := by
  unfold racesOk
  have key : ∀ l : List (Nat × Nat), (∀ p ∈ l, needOf prs p.1 = true ∧ needOf prs p.2 = true) → (l.all fun (i, j) => match gs[i]?, gs[j]? with | some x, some y => disj x y | _, _ => false) = l.all fun (i, j) => match fs[i]?, fs[j]? with | some x, some y => disj x y | _, _ => false := fun l => by
    induction l with
    | nil => exact fun _ => rfl
    | cons p l ih =>
      intro h
      obtain ⟨i, j⟩ := p
      obtain ⟨h1, h2⟩ := h (i, j) (List.mem_cons_self ..)
      simp only [List.all_cons]
      rw [ih (fun p hp => h p (List.mem_cons_of_mem _ hp)), hg i h1, hg j h2]
  have mem : ∀ (l : List (Nat × Nat)) (p : Nat × Nat), p ∈ l → needOf l p.1 = true ∧ needOf l p.2 = true := fun l => by
    induction l with
    | nil => intro p hp; cases hp
    | cons q l ih =>
      intro p hp
      obtain ⟨a, b⟩ := q
      simp only [needOf, Bool.or_eq_true, Nat.beq_eq_true_eq]
      rcases List.mem_cons.1 hp with h | h
      · subst h; exact ⟨.inl (.inl (Nat.beq_refl a)), .inl (.inr (Nat.beq_refl b))⟩
      · exact ⟨.inr (ih p h).1, .inr (ih p h).2⟩
  exact key prs (mem prs)

def regionP (prs : Option (List (Nat × Nat))) (ops : Array Oper) (a : AAct) (H : AH) : Res :=
  match prs with
  | none => (steps E cp cr H.nx ops ops.toList a { H with nx := H.nx + 1 }).map fun p => (.normal, p.1, p.2)
  | some prs => match stepsN E cp cr H.nx ops (needOf prs) 0 ops.toList a { H with nx := H.nx + 1 } with
    | some (a', H', fs) => if racesOk fs prs then some (.normal, a', H') else none
    | none => none
/-- As 'evalC', but for the drawn regions: which of them have pairs that may meet is given. -/
def evalP : Option Nat → Code → AAct → AH → Res
  | none, .skip, a, H => some (.normal, a, H)
  | none, .label _, a, H => some (.normal, a, H)
  | some l, .label l', a, H => if l' = l then some (.normal, a, H) else none
  | none, .region id ops draw, a, H => regionP E cp cr (match draw with | true => nz id | false => none) ops a H
  | none, .seq x y, a, H => seqR (evalP none x a H) (evalP none y)
  | some l, .seq x y, a, H =>
    if (findLabel x l).isSome then seqR (evalP (some l) x a H) (evalP none y)
    else evalP (some l) y a H
  | none, .cond c x y, a, H => match opd a c with
    | some (.bool true) => evalP none x a H
    | some (.bool false) => evalP none y a H
    | _ => none
  | none, .block id c, a, H => match evalP none c a H with
    | some (.exit id', a', H') => if id' = id then some (.normal, a', H') else some (.exit id', a', H')
    | r => r
  | none, .loop c, a, H => iter (evalP none c) k a H
  | none, .exit id, a, H => some (.exit id, a, H)
  | none, .goto l, a, H => some (.goto l, a, H)
  | none, .ret, a, H => some (.ret, a, H)
  | none, .scope c, a, H => jumps (fun l => (findLabel c l).isSome) (fun l => evalP (some l) c) k (evalP none c a H)
  | _, _, _, _ => none
def checkP : Code → Bool
  | .region id ops true => match openPairs E ops, nz id with
    | some [], none => true
    | some (p :: prs), some prs' => (p :: prs) == prs'
    | _, _ => false
  | .seq a b => checkP a && checkP b
  | .cond _ a b => checkP a && checkP b
  | .block _ c => checkP c
  | .loop c => checkP c
  | .scope c => checkP c
  | _ => true

theorem evalP_eq : ∀ (c : Code) (s : Option Nat), checkP E nz c = true → ∀ a H, evalP E cp cr k nz s c a H = evalC E cp cr k s c a H
  | .region id ops draw, none, h, a, H => by
    simp only [evalP, evalC, evalRegion, regionP]
    cases draw with
    | false => rfl
    | true =>
      simp only [checkP] at h
      split at h
      · rename_i h1 h2
        simp only [h1, h2]
      · rename_i p prs prs' h1 h2
        have e : p :: prs = prs' := by simpa using h
        subst e
        simp only [h1, h2]
        have key := stepsN_eq E cp cr H.nx ops (needOf (p :: prs)) ops.toList 0 a { o := H.o, nx := H.nx + 1 }
        cases hf : stepsF E cp cr H.nx ops ops.toList a { o := H.o, nx := H.nx + 1 } with
        | none =>
          rw [hf] at key
          dsimp only at key
          rw [key]
        | some q =>
          obtain ⟨a', H', fs⟩ := q
          rw [hf] at key
          obtain ⟨gs, h3, _, h4⟩ := key
          rw [h3]
          dsimp only
          rw [need_races (fun j hj => h4 j (by simpa using hj))]
      · cases h
  | .seq x y, none, h, a, H => by
    simp only [checkP, Bool.and_eq_true] at h
    simp only [evalP, evalC]
    rw [evalP_eq x none h.1, show evalP E cp cr k nz none y = evalC E cp cr k none y from funext fun a => funext fun H => evalP_eq y none h.2 a H]
  | .seq x y, some l, h, a, H => by
    simp only [checkP, Bool.and_eq_true] at h
    simp only [evalP, evalC]
    rw [evalP_eq x (some l) h.1, evalP_eq y (some l) h.2, show evalP E cp cr k nz none y = evalC E cp cr k none y from funext fun a => funext fun H => evalP_eq y none h.2 a H]
  | .cond c x y, none, h, a, H => by
    simp only [checkP, Bool.and_eq_true] at h
    simp only [evalP, evalC]
    rw [evalP_eq x none h.1, evalP_eq y none h.2]
    rfl
  | .block id c, none, h, a, H => by
    simp only [checkP] at h
    simp only [evalP, evalC]
    rw [evalP_eq c none h]
    rfl
  | .loop c, none, h, a, H => by
    simp only [checkP] at h
    simp only [evalP, evalC]
    rw [show evalP E cp cr k nz none c = evalC E cp cr k none c from funext fun a => funext fun H => evalP_eq c none h a H]
  | .scope c, none, h, a, H => by
    simp only [checkP] at h
    simp only [evalP, evalC]
    rw [evalP_eq c none h, show (fun l => evalP E cp cr k nz (some l) c) = fun l => evalC E cp cr k (some l) c from funext fun l => funext fun a => funext fun H => evalP_eq c (some l) h a H]
  | .skip, none, _, _, _ => rfl
  | .label _, none, _, _, _ => rfl
  | .label _, some _, _, _, _ => rfl
  | .exit _, none, _, _, _ => rfl
  | .goto _, none, _, _, _ => rfl
  | .ret, none, _, _, _ => rfl
  | .rangeFunc _ _ _ _, none, _, _, _ => rfl
  | .rangeFunc _ _ _ _, some _, _, _, _ => rfl
  | .refuse _, none, _, _, _ => rfl
  | .refuse _, some _, _, _, _ => rfl
  | .skip, some _, _, _, _ => rfl
  | .region _ _ _, some _, _, _, _ => rfl
  | .cond _ _ _, some _, _, _, _ => rfl
  | .block _ _, some _, _, _, _ => rfl
  | .loop _, some _, _, _, _ => rfl
  | .exit _, some _, _, _, _ => rfl
  | .goto _, some _, _, _, _ => rfl
  | .ret, some _, _, _, _ => rfl
  | .scope _, some _, _, _, _ => rfl
end

/-- The run of a body, and what it hands back. -/
def runP (E : Env) (cr : CallR) (k : Nat) (nz : Nat → Option (List (Nat × Nat))) (fn : Func) (args : List AV) (H : AH) : Option (AV × AH) :=
  match fn.body with
  | none => none
  | some c => match evalP E (fun _ _ => none) cr k nz none c (begin_ args) H with
    | some (.normal, a, H') => (resultsL E.P a H' fn.results.toList).map fun vs => (tup1 vs, H')
    | some (.ret, a, H') => (resultsL E.P a H' fn.results.toList).map fun vs => (tup1 vs, H')
    | _ => none
/-- What is looked through beforehand, once for a function. -/
def lookedAt (E : Env) (nz : Nat → Option (List (Nat × Nat))) (n : Nat) (fn : Func) : Bool :=
  fnOk fn && decide (n ≤ fn.ntmps) && match fn.body with | some c => checkP E nz c | none => false
theorem runP_body {E : Env} {cr : CallR} {k : Nat} {nz : Nat → Option (List (Nat × Nat))} {fn : Func} {f : FuncId} {args : List AV} {H : AH} (hf : E.P.funcs[f]? = some fn) (hl : lookedAt E nz args.length fn = true) : runBody E (fun _ _ => none) cr k f args H = runP E cr k nz fn args H := by
  unfold lookedAt at hl
  simp only [Bool.and_eq_true] at hl
  unfold runBody runP
  rw [hf]
  dsimp only
  rw [if_pos (by simp [hl.1.1, hl.1.2])]
  cases hb : fn.body with
  | none => rfl
  | some c =>
    rw [hb] at hl
    dsimp only
    rw [evalP_eq _ _ _ _ _ c none hl.2]
    rfl

/-- A contract: called on that data it hands back that data, and writes nothing of old. -/
def Ok (P : Program) (f : FuncId) (args : List AV) (r : AV) : Prop := EnterOk P f ∧ ∀ (S : Nat → Prop) (w : World) (cargs : List Value), LR (PR S w) args cargs → (∀ b, S b → b < w.heap.size) → Gl S w → Calls P f cargs.toArray w (RetP S w r)
theorem cp_none (P : Program) : CPSound P (fun _ _ => none) := fun g args r h => by cases h

theorem ok_run {E : Env} {cr : CallR} (hX : CPSound E.P E.ext) (hR : CRSound E.P cr) (hU : Up cr) (hm : E.P.follows .mixedOrders = true) {k : Nat} {nz : Nat → Option (List (Nat × Nat))} {fn : Func} {f : FuncId} {args : List AV} {v : AV} {H' : AH} (hf : E.P.funcs[f]? = some fn)
    (hl : lookedAt E nz args.length fn = true) (h : runP E cr k nz fn args noHeap = some (v, H')) : Ok E.P f args (view H'.o vDepth v) := by
  rw [← runP_body hf hl] at h
  obtain ⟨hE, _, hc⟩ := body_sound (cp_none E.P) hX hR hm hU h
  refine ⟨hE, fun S w cargs ha hS hG => ?_⟩
  refine (hc (Ctx.data S w) cargs (inv_data hS hG) rfl (fun t ht => ht.elim) (ha.weak fun x u _ h => .data x u h)).mono ?_
  rintro e w' ⟨u, c', rfl, rfl, hi, hs, hH, hv, _⟩
  obtain ⟨i2, s2⟩ := shut_rows hi (viewTags c'.H vDepth v)
  have s3 := hs.trans s2
  have dead : ∀ k, ¬ Live (Ctx.data S w) k := fun k hk => by obtain ⟨o, ho, _⟩ := hk; cases ho
  refine ⟨u, (c'.shut (viewTags c'.H vDepth v)).S, rfl, ⟨hs.os, hs.tape, hs.output, hs.size, fun b hb => hs.keep b hb (fun k hk => (dead k hk).elim)⟩, ?_, s3.mono.S, fun b hb => ⟨?_, i2.imm b hb⟩⟩
  · rw [← hH]
    exact view_rel hi _ s2.mono.S vDepth v u hv (fun k rr hk hrow => .inr ⟨k, rr, hk, hrow, rfl⟩)
  · rcases s3.Snew b hb with h1 | h1 | ⟨k, hk, _⟩
    · exact .inl h1
    · exact .inr h1
    · exact (dead k hk).elim
/-- A contract on the caller's heap. -/
def OkR (P : Program) (f : FuncId) (args : List AV) (H : AH) (v : AV) (H' : AH) : Prop := EnterOk P f ∧ H.nx ≤ H'.nx ∧ ∀ (c : Ctx) (cargs : List Value), Inv c → c.H = H.o → (∀ t, c.T t → t.1 < H.nx) → LR (VR c) args cargs → Calls P f cargs.toArray c.w (RetR c H.nx H'.nx H'.o v)
theorem okR_run {E : Env} {cr : CallR} (hX : CPSound E.P E.ext) (hR : CRSound E.P cr) (hU : Up cr) (hm : E.P.follows .mixedOrders = true) {k : Nat} {nz : Nat → Option (List (Nat × Nat))} {fn : Func} {f : FuncId} {args : List AV} {v : AV} {H H' : AH} (hf : E.P.funcs[f]? = some fn)
    (hl : lookedAt E nz args.length fn = true) (h : runP E cr k nz fn args H = some (v, H')) : OkR E.P f args H v H' := by
  rw [← runP_body hf hl] at h
  exact body_sound (cp_none E.P) hX hR hm hU h
theorem ok_calls {E : Env} (hX : CPSound E.P E.ext) (hm : E.P.follows .mixedOrders = true) {n : Nat} {f : FuncId} {args : List AV} {r : AV} (h : (calls E n).1 f args = some r) : Ok E.P f args r := (calls_sound E hX hm n).1 f args r h

/-! ### tables of contracts -/
abbrev Tab := List (FuncId × (List AV → Option AV))
def tabLook (t : Tab) (f : FuncId) (args : List AV) : Option AV :=
  match t with
  | [] => none
  | (g, c) :: t => if f = g then c args else tabLook t f args
def tabHas (t : Tab) (f : FuncId) : Bool :=
  match t with
  | [] => false
  | (g, _) :: t => f == g || tabHas t f
theorem tab_nil (P : Program) : CPSound P (tabLook []) := fun g args r h => by cases h
theorem tab_cons {P : Program} {t : Tab} {g : FuncId} {c : List AV → Option AV} (ht : CPSound P (tabLook t)) (h : ∀ args r, c args = some r → Ok P g args r) : CPSound P (tabLook ((g, c) :: t)) := fun f args r hr => by
  simp only [tabLook] at hr
  split at hr
  · rename_i e; subst e; exact h args r hr
  · exact ht f args r hr
abbrev TabR := List (FuncId × (List AV → AH → Option (AV × AH)))
def tabLookR (t : TabR) (f : FuncId) (args : List AV) (H : AH) : Option (AV × AH) :=
  match t with
  | [] => none
  | (g, c) :: t => if f = g then c args H else tabLookR t f args H
theorem tabR_nil (P : Program) : CRSound P (tabLookR []) ∧ Up (tabLookR []) := ⟨fun g args H v H' h => (by cases h), fun g args H v H' h => (by cases h)⟩
theorem tabR_cons {P : Program} {t : TabR} {g : FuncId} {c : List AV → AH → Option (AV × AH)} (ht : CRSound P (tabLookR t) ∧ Up (tabLookR t)) (h : ∀ args H v H', c args H = some (v, H') → OkR P g args H v H')
    (hk : keeps g = true → ∀ args H v H', c args H = some (v, H') → ∀ t : Tag, t.1 < H.nx → H'.o t = H.o t := by exact fun h => absurd h (by decide)) : CRSound P (tabLookR ((g, c) :: t)) ∧ Up (tabLookR ((g, c) :: t)) := by
  refine ⟨fun f args H v H' hr => ?_, fun f args H v H' hr => ?_⟩
  · simp only [tabLookR] at hr
    split at hr
    · rename_i e; subst e; exact h args H v H' hr
    · exact ht.1 f args H v H' hr
  · simp only [tabLookR] at hr
    split at hr
    · rename_i e; subst e; exact ⟨(h args H v H' hr).2.1, fun hg => hk hg args H v H' hr⟩
    · exact ht.2 f args H v H' hr

end Go.Proofs.YtpmjpogcaglphaaDoor.A
/- A, part 26: walking ahead over what nothing hangs on. -/
namespace Go.Proofs.YtpmjpogcaglphaaDoor.A
open Go

def sl : Code → Code
  | .seq a _ => a
  | c => c
def sr : Code → Code
  | .seq _ b => b
  | c => c
def isSeq : Code → Bool
  | .seq _ _ => true
  | _ => false
def afterR (r : Res) : AAct × AH :=
  match r with
  | some (_, a, H) => (a, H)
  | none => (fun _ => .und, noHeap)
def isNormal (r : Res) : Bool :=
  match r with
  | some (.normal, _, _) => true
  | _ => false
theorem normal_eq {r : Res} (h : isNormal r = true) : r = some (.normal, (afterR r).1, (afterR r).2) := by
  unfold isNormal at h
  split at h
  · rfl
  · cases h
theorem seqR_normal {r : Res} {f : AAct → AH → Res} (h : isNormal r = true) : seqR r f = f (afterR r).1 (afterR r).2 := by
  unfold isNormal at h
  split at h
  · rfl
  · cases h
section
variable (E : Env) (cp : CallP) (cr : CallR) (k : Nat) (nz : Nat → Option (List (Nat × Nat)))
/-- After n of a row of statements. -/
def ahead : Nat → Code → AAct × AH → AAct × AH
  | 0, _, s => s
  | n + 1, c, s => ahead n (sr c) (afterR (evalP E cp cr k nz none (sl c) s.1 s.2))
def aheadOk : Nat → Code → AAct × AH → Bool
  | 0, _, _ => true
  | n + 1, c, s => isSeq c && isNormal (evalP E cp cr k nz none (sl c) s.1 s.2) && aheadOk n (sr c) (afterR (evalP E cp cr k nz none (sl c) s.1 s.2))
def srN : Nat → Code → Code
  | 0, c => c
  | n + 1, c => srN n (sr c)
theorem srN_succ : ∀ (n : Nat) (c : Code), srN (n + 1) c = sr (srN n c)
  | 0, c => rfl
  | n + 1, c => srN_succ n (sr c)
theorem seq_split {c : Code} (h : isSeq c = true) (a : AAct) (H : AH) : evalP E cp cr k nz none c a H = seqR (evalP E cp cr k nz none (sl c) a H) (evalP E cp cr k nz none (sr c)) := by
  cases c with
  | seq x y => rfl
  | _ => cases h
theorem ahead_eq : ∀ (n : Nat) (c : Code) (s : AAct × AH), aheadOk E cp cr k nz n c s = true → evalP E cp cr k nz none c s.1 s.2 = evalP E cp cr k nz none (srN n c) (ahead E cp cr k nz n c s).1 (ahead E cp cr k nz n c s).2
  | 0, c, s, _ => rfl
  | n + 1, c, s, h => by
    simp only [aheadOk, Bool.and_eq_true] at h
    obtain ⟨⟨h1, h2⟩, h3⟩ := h
    cases c with
    | seq x y =>
      simp only [sl, sr] at h2 h3
      have := ahead_eq n y _ h3
      simp only [evalP, seqR, ahead, srN, sl, sr]
      rw [normal_eq h2]
      exact this
    | _ => cases h1
end

end Go.Proofs.YtpmjpogcaglphaaDoor.A
/- A, part 27: a law's row, from its contract. -/
namespace Go.Proofs.YtpmjpogcaglphaaDoor.A
open Go Go.ChangeShapes

/-- The law's row, from its run on data. -/
theorem law_lifted {H : Type} {enc : TypeId × Value → H} {as_ : Assume} {C : Checked} {os : Os} {f : FuncId} {fn : Func} {s : ChangeSpec} {conds : List PathCond} {apart fresh handsOn again : Bool}
    (own : ownKnob C.prog.godebug = none) (started : os.Started) (noInit : C.prog.inits.idxOf? f = none) (hfn : C.prog.funcs[f]? = some fn)
    (witness : ∃ (w : World) (tape : Tape) (i : Input), w.os = os ∧ (w.forCall tape i).Shaped C.prog ∧ i.vars = [] ∧ Input.okWide C.prog (w.forCall tape i) .any w.heap.size f i ∧
      s.pre6 enc C.prog fn conds apart (w.forCall tape i).memory i.args ∧ as_.holds C.prog (lone (Frame.enter C.prog f i.args .normal) [] (w.forCall tape i)))
    (hl : laidOutB C.prog = true) {ks : List TypeId} (hk : dataTypes C.prog ks = true) (hks : fn.params.toList.all (fun t => ks.contains t && C.prog.readableRec t && decide (t < C.prog.types.size)) = true)
    {tb : TypeId} (hr : fn.resultTypes = #[tb]) (htb : C.prog.underlying tb = some .bool) (hv : s.vars = [])
    (hspec : ∀ ds : List (DataW H), ds.length = fn.params.toList.length → (s.fn H ds).results = [.lit (.bool true)] ∧ (s.fn H ds).args = ds ∧ (s.fn H ds).vars = [])
    (hgl : ∀ W, Gl (Old W) W) (hok : ∀ xs, ArgsOf C.prog fn.params.toList xs → Ok C.prog f xs (.bool true)) :
    ReturnsInHanded as_ C os f .any (s.pre6 enc C.prog fn conds apart) (s.post enc C.prog fn apart fresh handsOn again) := by
  have hks' : ∀ t ∈ fn.params.toList, t ∈ ks ∧ C.prog.readableRec t = true ∧ t < C.prog.types.size := fun t ht => by
    have := List.all_eq_true.1 hks t ht
    simp only [Bool.and_eq_true, decide_eq_true_eq, List.contains_iff_mem] at this
    exact ⟨this.1.1, this.1.2, this.2⟩
  refine returnsInHanded_of_change own started noInit hfn witness ?_
  intro W base args ds gs before hval hW _ _
  have hWc := hW
  obtain ⟨p, q, hA, hV, rfl, hfz, hnd⟩ := hW
  have hlen := trods_length hA
  have hgs : gs = [] := by
    rw [hv] at hV
    exact (trodVars_none hV).1
  subst hgs
  obtain ⟨xs, hx1, hx2⟩ := args_shape hl hk (fun t ht => (hks' t ht).1) (fun j t v ht hv' => hval j t v (by simpa using ht) (by simpa using hv')) hA
  obtain ⟨_, hc⟩ := hok xs hx1
  have := hc (Old W) W args.toList hx2 (fun b hb => hb) (hgl W)
  refine Calls.mono (by simpa using this) ?_
  rintro e W' ⟨v, S', rfl, hb, hpr, _, _⟩
  cases hpr
  refine ⟨_, rfl, law_post hl hWc hv hr htb ?_ (fun t ht => (hks' t ht).2) hb⟩
  rw [List.append_nil]
  exact hspec ds hlen

/-! ### what arguments are -/
section
variable {P : Program} {t : TypeId} {x : AV}
theorem arg_int {k : IntKind} (hu : P.underlying t = some (.int k)) (h : ArgOf P t x) : ∃ n, x = .int k n ∧ (Lit.int k n).wf = true := by
  unfold ArgOf at h
  rw [hu] at h
  obtain ⟨d, h⟩ := h
  cases d with
  | zero => exact h.elim
  | succ d =>
    unfold Shaped at h
    rw [hu] at h
    obtain ⟨n, e, hw⟩ := h
    injection e with e _
    exact ⟨n, e, hw⟩
end

end Go.Proofs.YtpmjpogcaglphaaDoor.A
/- A, part 28: what holds behind a run: rules, one an operation. -/
namespace Go.Proofs.YtpmjpogcaglphaaDoor.A
open Go

abbrev Ob := Tag → Option AObj
abbrev WPost := Out → AAct → Ob → Nat → Prop

/-! ### small carriers, whose continuation simp leaves alone -/
def wO {α : Type} (r : Option α) (K : α → Prop) : Prop := match r with | some x => K x | none => False
@[go_sem] theorem wO_some {α : Type} (x : α) (K : α → Prop) : wO (some x) K = K x := rfl
@[go_sem] theorem wO_none {α : Type} (K : α → Prop) : wO none K = False := rfl
section
variable (E : Env) (cr : CallR) (k : Nat) (nz : Nat → Option (List (Nat × Nat)))

def WP (c : Code) (a : AAct) (o : Ob) (nx : Nat) (Q : WPost) : Prop :=
  match evalP E (fun _ _ => none) cr k nz none c a ⟨o, nx⟩ with
  | some (u, a', H') => Q u a' H'.o H'.nx
  | none => False
def thenQ (y : Code) (Q : WPost) : WPost := fun u a o nx => match u with
  | .normal => WP E cr k nz y a o nx Q
  | u => Q u a o nx
def blockQ (id : Nat) (Q : WPost) : WPost := fun u a o nx => match u with
  | .exit id' => if id' = id then Q .normal a o nx else Q (.exit id') a o nx
  | u => Q u a o nx
/-- Two ways. -/
def wIf (b : Bool) (x y : Code) (a : AAct) (o : Ob) (nx : Nat) (Q : WPost) : Prop := match b with | true => WP E cr k nz x a o nx Q | false => WP E cr k nz y a o nx Q
def wC (v : Option AV) (x y : Code) (a : AAct) (o : Ob) (nx : Nat) (Q : WPost) : Prop := match v with | some (.bool b) => wIf E cr k nz b x y a o nx Q | _ => False
/-- The rest of a region. -/
def WS (st : Nat) (ops : Array Oper) (l : List Oper) (a : AAct) (o : Ob) (nx : Nat) (Q : WPost) : Prop :=
  match steps E (fun _ _ => none) cr st ops l a ⟨o, nx⟩ with
  | some (a', H') => Q .normal a' H'.o H'.nx
  | none => False
/-- The same, with footprints. -/
def WF (st : Nat) (ops : Array Oper) (prs : List (Nat × Nat)) (i : Nat) (l : List Oper) (fs : List FP) (a : AAct) (o : Ob) (nx : Nat) (Q : WPost) : Prop :=
  match stepsN E (fun _ _ => none) cr st ops (needOf prs) i l a ⟨o, nx⟩ with
  | some (a', H', gs) => racesOk (fs ++ gs) prs = true ∧ Q .normal a' H'.o H'.nx
  | none => False
end

section
variable {E : Env} {cr : CallR} {k : Nat} {nz : Nat → Option (List (Nat × Nat))}

@[go_sem] theorem thenQ_normal (y : Code) (Q : WPost) (a o nx) : thenQ E cr k nz y Q .normal a o nx = WP E cr k nz y a o nx Q := rfl
@[go_sem] theorem thenQ_ret (y : Code) (Q : WPost) (a o nx) : thenQ E cr k nz y Q .ret a o nx = Q .ret a o nx := rfl
@[go_sem] theorem thenQ_exit (y : Code) (Q : WPost) (i a o nx) : thenQ E cr k nz y Q (.exit i) a o nx = Q (.exit i) a o nx := rfl
@[go_sem] theorem thenQ_goto (y : Code) (Q : WPost) (i a o nx) : thenQ E cr k nz y Q (.goto i) a o nx = Q (.goto i) a o nx := rfl
@[go_sem] theorem blockQ_normal (id) (Q : WPost) (a o nx) : blockQ id Q .normal a o nx = Q .normal a o nx := rfl
@[go_sem] theorem blockQ_ret (id) (Q : WPost) (a o nx) : blockQ id Q .ret a o nx = Q .ret a o nx := rfl
@[go_sem] theorem blockQ_goto (id) (Q : WPost) (l a o nx) : blockQ id Q (.goto l) a o nx = Q (.goto l) a o nx := rfl
@[go_sem] theorem blockQ_exit (id id') (Q : WPost) (a o nx) : blockQ id Q (.exit id') a o nx = if id' = id then Q .normal a o nx else Q (.exit id') a o nx := rfl

theorem WP_mono {c : Code} {a : AAct} {o : Ob} {nx : Nat} {Q Q' : WPost} (h : WP E cr k nz c a o nx Q) (hq : ∀ u a o nx, Q u a o nx → Q' u a o nx) : WP E cr k nz c a o nx Q' := by
  unfold WP at h ⊢
  split at h
  · exact hq _ _ _ _ h
  · exact h.elim

@[go_sem] theorem wIf_true (x y a o nx) (Q : WPost) : wIf E cr k nz true x y a o nx Q = WP E cr k nz x a o nx Q := rfl
@[go_sem] theorem wIf_false (x y a o nx) (Q : WPost) : wIf E cr k nz false x y a o nx Q = WP E cr k nz y a o nx Q := rfl
@[go_sem] theorem wIf_not (b x y a o nx) (Q : WPost) : wIf E cr k nz (!b) x y a o nx Q = wIf E cr k nz b y x a o nx Q := by cases b <;> rfl
@[go_sem] theorem wIf_decide (p : Prop) [Decidable p] (x y a o nx) (Q : WPost) : wIf E cr k nz (decide p) x y a o nx Q = wIf E cr k nz (if p then true else false) x y a o nx Q := by
  by_cases h : p <;> simp [h]
theorem wIf_split {b : Bool} {x y a o nx} {Q : WPost} (h1 : b = true → WP E cr k nz x a o nx Q) (h2 : b = false → WP E cr k nz y a o nx Q) : wIf E cr k nz b x y a o nx Q := by
  cases b
  · exact h2 rfl
  · exact h1 rfl
theorem wIf_ite {p : Prop} [Decidable p] {x y a o nx} {Q : WPost} (h1 : p → WP E cr k nz x a o nx Q) (h2 : ¬p → WP E cr k nz y a o nx Q) : wIf E cr k nz (if p then true else false) x y a o nx Q := by
  by_cases h : p
  · rw [if_pos h]; exact h1 h
  · rw [if_neg h]; exact h2 h
@[go_sem] theorem wC_bool (b x y a o nx) (Q : WPost) : wC E cr k nz (some (.bool b)) x y a o nx Q = wIf E cr k nz b x y a o nx Q := rfl
@[go_sem] theorem WP_skip (a o nx) (Q : WPost) : WP E cr k nz .skip a o nx Q = Q .normal a o nx := rfl
@[go_sem] theorem WP_ret (a o nx) (Q : WPost) : WP E cr k nz .ret a o nx Q = Q .ret a o nx := rfl
@[go_sem] theorem WP_exit (i a o nx) (Q : WPost) : WP E cr k nz (.exit i) a o nx Q = Q (.exit i) a o nx := rfl
@[go_sem] theorem WP_goto (i a o nx) (Q : WPost) : WP E cr k nz (.goto i) a o nx Q = Q (.goto i) a o nx := rfl
@[go_sem] theorem WP_label (i a o nx) (Q : WPost) : WP E cr k nz (.label i) a o nx Q = Q .normal a o nx := rfl
@[go_sem] theorem WP_seq (x y : Code) (a o nx) (Q : WPost) : WP E cr k nz (.seq x y) a o nx Q = WP E cr k nz x a o nx (thenQ E cr k nz y Q) := by
  unfold WP
  simp only [evalP]
  cases evalP E (fun _ _ => none) cr k nz none x a ⟨o, nx⟩ with
  | none => rfl
  | some p =>
    obtain ⟨u, a', H'⟩ := p
    cases u <;> rfl
@[go_sem] theorem WP_block (id : Nat) (c : Code) (a o nx) (Q : WPost) : WP E cr k nz (.block id c) a o nx Q = WP E cr k nz c a o nx (blockQ id Q) := by
  unfold WP
  simp only [evalP]
  cases evalP E (fun _ _ => none) cr k nz none c a ⟨o, nx⟩ with
  | none => rfl
  | some p =>
    obtain ⟨u, a', H'⟩ := p
    cases u with
    | exit id' =>
      dsimp only [blockQ]
      by_cases h : id' = id <;> simp [h]
    | _ => rfl
@[go_sem] theorem WP_cond (c : Operand) (x y : Code) (a o nx) (Q : WPost) : WP E cr k nz (.cond c x y) a o nx Q = wC E cr k nz (opd a c) x y a o nx Q := by
  unfold wC wIf WP
  simp only [evalP]
  cases opd a c with
  | none => rfl
  | some v => cases v with
    | bool b => cases b <;> rfl
    | _ => rfl
@[go_sem] theorem WP_region_plain (id : Nat) (ops : List Oper) (a o nx) (Q : WPost) : WP E cr k nz (.region id ⟨ops⟩ false) a o nx Q = WS E cr nx ⟨ops⟩ ops a o (nx + 1) Q := by
  unfold WP WS
  simp only [evalP, regionP]
  cases steps E (fun _ _ => none) cr nx ⟨ops⟩ ops a ⟨o, nx + 1⟩ <;> rfl
def drawnW (E : Env) (cr : CallR) (prs : Option (List (Nat × Nat))) (ops : List Oper) (a : AAct) (o : Ob) (nx : Nat) (Q : WPost) : Prop := match prs with | none => WS E cr nx ⟨ops⟩ ops a o (nx + 1) Q | some l => WF E cr nx ⟨ops⟩ l 0 ops [] a o (nx + 1) Q
@[go_sem] theorem drawnW_none (ops a o nx) (Q : WPost) : drawnW E cr none ops a o nx Q = WS E cr nx ⟨ops⟩ ops a o (nx + 1) Q := rfl
@[go_sem] theorem drawnW_some (l ops a o nx) (Q : WPost) : drawnW E cr (some l) ops a o nx Q = WF E cr nx ⟨ops⟩ l 0 ops [] a o (nx + 1) Q := rfl
@[go_sem] theorem WP_region_drawn (id : Nat) (ops : List Oper) (a o nx) (Q : WPost) : WP E cr k nz (.region id ⟨ops⟩ true) a o nx Q = drawnW E cr (nz id) ops a o nx Q := by
  unfold WP drawnW WS WF
  simp only [evalP, regionP]
  cases nz id with
  | none =>
    dsimp only
    cases steps E (fun _ _ => none) cr nx ⟨ops⟩ ops a ⟨o, nx + 1⟩ <;> rfl
  | some prs =>
    dsimp only
    cases stepsN E (fun _ _ => none) cr nx ⟨ops⟩ (needOf prs) 0 ops a ⟨o, nx + 1⟩ with
    | none => rfl
    | some p =>
      obtain ⟨a', H', gs⟩ := p
      dsimp only
      rw [List.nil_append]
      cases racesOk gs prs <;> simp

/-! ### loops -/
theorem WP_loop_aux {c : Code} {Q : WPost} (I : Nat → AAct → Ob → Nat → Prop) (step : ∀ m a o nx, I m a o nx → WP E cr k nz c a o nx (fun u a' o' nx' => match u with | .normal => ∃ m', m' < m ∧ I m' a' o' nx' | u => Q u a' o' nx')) :
    ∀ (n m : Nat), m < n → ∀ a o nx, I m a o nx → match iter (evalP E (fun _ _ => none) cr k nz none c) n a ⟨o, nx⟩ with | some (u, a', H') => Q u a' H'.o H'.nx | none => False
  | 0, m, h, _, _, _, _ => by omega
  | n + 1, m, h, a, o, nx, hI => by
    have hs := step m a o nx hI
    unfold WP at hs
    unfold iter
    cases he : evalP E (fun _ _ => none) cr k nz none c a ⟨o, nx⟩ with
    | none => rw [he] at hs; exact hs.elim
    | some p =>
      obtain ⟨u, a', H'⟩ := p
      rw [he] at hs
      cases u with
      | normal =>
        obtain ⟨m', h1, h2⟩ := hs
        exact WP_loop_aux I step n m' (by omega) a' H'.o H'.nx h2
      | _ => exact hs
def roundQ (I : Nat → AAct → Ob → Nat → Prop) (m : Nat) (Q : WPost) : WPost := fun u a' o' nx' => match u with
  | .normal => ∃ m', m' < m ∧ I m' a' o' nx'
  | u => Q u a' o' nx'
@[go_sem] theorem roundQ_normal (I m) (Q : WPost) (a o nx) : roundQ I m Q .normal a o nx = ∃ m', m' < m ∧ I m' a o nx := rfl
@[go_sem] theorem roundQ_ret (I m) (Q : WPost) (a o nx) : roundQ I m Q .ret a o nx = Q .ret a o nx := rfl
@[go_sem] theorem roundQ_exit (I m) (Q : WPost) (i a o nx) : roundQ I m Q (.exit i) a o nx = Q (.exit i) a o nx := rfl
@[go_sem] theorem roundQ_goto (I m) (Q : WPost) (i a o nx) : roundQ I m Q (.goto i) a o nx = Q (.goto i) a o nx := rfl
/-- A loop: an invariant with what is left to do. -/
theorem WP_loop {c : Code} {Q : WPost} (I : Nat → AAct → Ob → Nat → Prop) (m : Nat) (hm : m < k) {a : AAct} {o : Ob} {nx : Nat} (h0 : I m a o nx)
    (step : ∀ m a o nx, I m a o nx → WP E cr k nz c a o nx (roundQ I m Q)) : WP E cr k nz (.loop c) a o nx Q := by
  unfold WP
  simp only [evalP]
  refine WP_loop_aux I (fun m a o nx h => WP_mono (step m a o nx h) ?_) k m hm a o nx h0
  intro u a o nx h
  cases u <;> exact h

/-! ### operations -/
@[go_sem] theorem WS_nil (st ops a o nx) (Q : WPost) : WS E cr st ops [] a o nx Q = Q .normal a o nx := rfl
theorem WS_cons (st ops x l a o nx) (Q : WPost) : WS E cr st ops (x :: l) a o nx Q = wO (step1 E (fun _ _ => none) cr st ops x a ⟨o, nx⟩) (fun p => WS E cr st ops l p.1 p.2.o p.2.nx Q) := by
  unfold WS wO
  simp only [steps]
  cases step1 E (fun _ _ => none) cr st ops x a ⟨o, nx⟩ <;> rfl
theorem WS_op (st ops d op ty p af l a o nx) (Q : WPost) : WS E cr st ops (⟨d, op, ty, p, af, none⟩ :: l) a o nx Q = wO (evalOp E (fun _ _ => none) cr st ⟨d, op, ty, p, af, none⟩ a ⟨o, nx⟩) (fun q => WS E cr st ops l (putO a d q.1) q.2.o q.2.nx Q) := by
  rw [WS_cons]
  unfold wO
  simp only [step1, wantedA]
  cases evalOp E (fun _ _ => none) cr st ⟨d, op, ty, p, af, none⟩ a ⟨o, nx⟩ <;> rfl
/-- Under a guard. -/
def wGif (E : Env) (cr : CallR) (b : Bool) (st : Nat) (ops : Array Oper) (x : Oper) (l : List Oper) (a : AAct) (o : Ob) (nx : Nat) (Q : WPost) : Prop := match b with | true => WS E cr st ops (x :: l) a o nx Q | false => WS E cr st ops l (putO a x.dst noV) o nx Q
def wG (E : Env) (cr : CallR) (y : Option (Option Bool)) (want : Bool) (st : Nat) (ops : Array Oper) (x : Oper) (l : List Oper) (a : AAct) (o : Ob) (nx : Nat) (Q : WPost) : Prop := match y with | none => False | some none => WS E cr st ops l (putO a x.dst noV) o nx Q | some (some b) => wGif E cr (b == want) st ops x l a o nx Q
@[go_sem] theorem wG_none (w st ops d op ty p af g l a o nx) (Q : WPost) : wG E cr (some none) w st ops ⟨d, op, ty, p, af, g⟩ l a o nx Q = WS E cr st ops l (putO a d noV) o nx Q := rfl
@[go_sem] theorem wG_true (b st ops x l a o nx) (Q : WPost) : wG E cr (some (some b)) true st ops x l a o nx Q = wGif E cr b st ops x l a o nx Q := by cases b <;> rfl
@[go_sem] theorem wG_false (b st ops x l a o nx) (Q : WPost) : wG E cr (some (some b)) false st ops x l a o nx Q = wGif E cr (!b) st ops x l a o nx Q := by cases b <;> rfl
@[go_sem] theorem wGif_true (st ops x l a o nx) (Q : WPost) : wGif E cr true st ops x l a o nx Q = WS E cr st ops (x :: l) a o nx Q := rfl
@[go_sem] theorem wGif_false (st ops d op ty p af g l a o nx) (Q : WPost) : wGif E cr false st ops ⟨d, op, ty, p, af, g⟩ l a o nx Q = WS E cr st ops l (putO a d noV) o nx Q := rfl
@[go_sem] theorem wGif_decide (p : Prop) [Decidable p] (st ops x l a o nx) (Q : WPost) : wGif E cr (decide p) st ops x l a o nx Q = wGif E cr (if p then true else false) st ops x l a o nx Q := by
  by_cases h : p <;> simp [h]
theorem wGif_split {b : Bool} {st ops d op ty p af g l a o nx} {Q : WPost} (h1 : b = true → WS E cr st ops (⟨d, op, ty, p, af, g⟩ :: l) a o nx Q) (h2 : b = false → WS E cr st ops l (putO a d noV) o nx Q) : wGif E cr b st ops ⟨d, op, ty, p, af, g⟩ l a o nx Q := by
  cases b
  · exact h2 rfl
  · exact h1 rfl
theorem wGif_ite {q : Prop} [Decidable q] {st ops d op ty p af g l a o nx} {Q : WPost} (h1 : q → WS E cr st ops (⟨d, op, ty, p, af, g⟩ :: l) a o nx Q) (h2 : ¬q → WS E cr st ops l (putO a d noV) o nx Q) : wGif E cr (if q then true else false) st ops ⟨d, op, ty, p, af, g⟩ l a o nx Q := by
  by_cases h : q
  · rw [if_pos h]; exact h1 h
  · rw [if_neg h]; exact h2 h
@[go_sem] theorem WS_guard (st ops d op ty p af j want l a o nx) (Q : WPost) : WS E cr st ops (⟨d, op, ty, p, af, some (j, want)⟩ :: l) a o nx Q = wG E cr (yieldedA ops a j) want st ops ⟨d, op, ty, p, af, none⟩ l a o nx Q := by
  rw [WS_cons]
  unfold wG
  cases hy : yieldedA ops a j with
  | none => unfold step1 wantedA wO; simp only [hy, Option.map_none]
  | some y =>
    cases y with
    | none => unfold step1 wantedA wO; simp only [hy, Option.map_some]; rfl
    | some b =>
      have h1 : step1 E (fun _ _ => none) cr st ops ⟨d, op, ty, p, af, some (j, want)⟩ a ⟨o, nx⟩ = (match some (some b == some want) with | some true => (evalOp E (fun _ _ => none) cr st ⟨d, op, ty, p, af, none⟩ a ⟨o, nx⟩).map fun p => (putO a d p.1, p.2) | some false => some (putO a d noV, ⟨o, nx⟩) | none => none) := by
        unfold step1 wantedA
        simp only [hy, Option.map_some]
        rfl
      have h2 : step1 E (fun _ _ => none) cr st ops ⟨d, op, ty, p, af, none⟩ a ⟨o, nx⟩ = (evalOp E (fun _ _ => none) cr st ⟨d, op, ty, p, af, none⟩ a ⟨o, nx⟩).map fun p => (putO a d p.1, p.2) := rfl
      cases b <;> cases want
      · show wO _ _ = WS E cr st ops (_ :: l) a o nx Q
        rw [WS_cons, h2, h1]
        rfl
      · rw [h1]; rfl
      · rw [h1]; rfl
      · show wO _ _ = WS E cr st ops (_ :: l) a o nx Q
        rw [WS_cons, h2, h1]
        rfl
def yv (v : AV) : Option (Option Bool) := match v with | .bool b => some (some b) | .und => none | .mp _ => none | _ => some none
@[go_sem] theorem yv_bool (b : Bool) : yv (.bool b) = some (some b) := rfl
@[go_sem] theorem yv_tup (l) : yv (.tup l) = some none := rfl
@[go_sem] theorem yv_int (k n) : yv (.int k n) = some none := rfl
def ySlot (o : Option Oper) (a : AAct) : Option (Option Bool) := match o with | some ⟨some d, _, _, _, _, _⟩ => yv (a d) | _ => some none
@[go_sem] theorem ySlot_some (d op ty p af g a) : ySlot (some ⟨some d, op, ty, p, af, g⟩) a = yv (a d) := rfl
@[go_sem] theorem yielded_eq (ops : List Oper) (a : AAct) (j : Nat) : yieldedA ⟨ops⟩ a j = ySlot ops[j]? a := by
  unfold yieldedA ySlot
  rw [List.getElem?_toArray]
  cases ops[j]? with
  | none => rfl
  | some x =>
    obtain ⟨d, op, ty, p, af, g⟩ := x
    cases d with
    | none => rfl
    | some d => rfl
/-- One operation that a footprint is asked of, or is not. -/
def footQ (E : Env) (cr : CallR) (st : Nat) (ops : Array Oper) (prs : List (Nat × Nat)) (i : Nat) (l : List Oper) (fs : List FP) (Q : WPost) : WPost := fun _ a o nx => WF E cr st ops prs i l fs a o nx Q
@[go_sem] theorem footQ_eq (st ops prs i l fs) (Q : WPost) (u a o nx) : footQ E cr st ops prs i l fs Q u a o nx = WF E cr st ops prs i l fs a o nx Q := rfl
@[go_sem] theorem WF_cons (st ops prs i x l fs a o nx) (Q : WPost) : WF E cr st ops prs i (x :: l) fs a o nx Q = WS E cr st ops [x] a o nx (footQ E cr st ops prs (i + 1) l (fs ++ [bif needOf prs i then foot E st ops x a ⟨o, nx⟩ else FP.none_]) Q) := by
  unfold WF WS footQ WF
  simp only [stepsN, steps]
  cases step1 E (fun _ _ => none) cr st ops x a ⟨o, nx⟩ with
  | none => rfl
  | some p =>
    obtain ⟨a', H'⟩ := p
    dsimp only
    cases stepsN E (fun _ _ => none) cr st ops (needOf prs) (i + 1) l a' H' with
    | none => rfl
    | some q =>
      obtain ⟨a2, H2, gs⟩ := q
      dsimp only
      rw [List.append_assoc]
      cases needOf prs i <;> rfl
@[go_sem] theorem WF_nil (st ops prs i fs a o nx) (Q : WPost) : WF E cr st ops prs i [] fs a o nx Q = (racesOk fs prs = true ∧ Q .normal a o nx) := by
  unfold WF
  simp only [stepsN, List.append_nil]

/-! continuations, as names -/
def kV (E : Env) (cr : CallR) (st : Nat) (ops : Array Oper) (l : List Oper) (a : AAct) (d : Nat) (o : Ob) (nx : Nat) (Q : WPost) (v : AV) : Prop := WS E cr st ops l (put a d v) o nx Q
def kH (E : Env) (cr : CallR) (st : Nat) (ops : Array Oper) (l : List Oper) (a : AAct) (d : Option Nat) (Q : WPost) (q : AV × AH) : Prop := WS E cr st ops l (putO a d q.1) q.2.o q.2.nx Q
def kS (E : Env) (cr : CallR) (st : Nat) (ops : Array Oper) (l : List Oper) (a : AAct) (Q : WPost) (H : AH) : Prop := WS E cr st ops l a H.o H.nx Q
def kA (E : Env) (cr : CallR) (st : Nat) (ops : Array Oper) (l : List Oper) (a : AAct) (d : Nat) (e : TypeId) (o : Ob) (nx : Nat) (Q : WPost) (z : List AV) : Prop := WS E cr st ops l (put a d (.ptr (st, d) (st, d) 0)) (upd o (st, d) (.row ⟨e, 1, (st, d), false, true, z⟩)) nx Q
def okCells (cs : List AV) : Option (List AV) := if cs.all cellOk = true then some cs else none
@[go_sem] theorem okCells_eq (cs) : okCells cs = if cs.all cellOk = true then some cs else none := rfl
@[go_sem] theorem kV_eq (st ops l a d o nx) (Q : WPost) (v) : kV E cr st ops l a d o nx Q v = WS E cr st ops l (put a d v) o nx Q := rfl
@[go_sem] theorem kH_eq (st ops l a d) (Q : WPost) (v o nx) : kH E cr st ops l a d Q (v, ⟨o, nx⟩) = WS E cr st ops l (putO a d v) o nx Q := rfl
@[go_sem] theorem kS_eq (st ops l a) (Q : WPost) (o nx) : kS E cr st ops l a Q ⟨o, nx⟩ = WS E cr st ops l a o nx Q := rfl
@[go_sem] theorem kA_eq (st ops l a d e o nx) (Q : WPost) (z) : kA E cr st ops l a d e o nx Q z = WS E cr st ops l (put a d (.ptr (st, d) (st, d) 0)) (upd o (st, d) (.row ⟨e, 1, (st, d), false, true, z⟩)) nx Q := rfl

section
variable (st : Nat) (ops : Array Oper) (ty : TypeId) (p : String) (af : Array Edge) (l : List Oper) (a : AAct) (o : Ob) (nx : Nat) (Q : WPost)
@[go_sem] theorem W_move (d x) : WS E cr st ops (⟨some d, .move x, ty, p, af, none⟩ :: l) a o nx Q = wO (opd a x) (kV E cr st ops l a d o nx Q) := by
  rw [WS_op]; unfold wO; simp only [evalOp]; cases opd a x <;> rfl
@[go_sem] theorem W_assign (d x) : WS E cr st ops (⟨some d, .assign x, ty, p, af, none⟩ :: l) a o nx Q = wO (opd a x) (kV E cr st ops l a d o nx Q) := by
  rw [WS_op]; unfold wO; simp only [evalOp]; cases opd a x <;> rfl
def pickA (c x y : Option AV) : Option AV := match c with | some (.bool true) => x | some (.bool false) => y | _ => none
@[go_sem] theorem pickA_true (x y) : pickA (some (.bool true)) x y = x := rfl
@[go_sem] theorem pickA_false (x y) : pickA (some (.bool false)) x y = y := rfl
@[go_sem] theorem pickA_false' (b : Bool) (x : Bool) : pickA (some (.bool b)) (some (.bool x)) (some (.bool false)) = some (.bool (b && x)) := by cases b <;> rfl
@[go_sem] theorem pickA_true' (b : Bool) (x : Bool) : pickA (some (.bool b)) (some (.bool true)) (some (.bool x)) = some (.bool (b || x)) := by cases b <;> rfl
@[go_sem] theorem pickA_dec1 (p : Prop) [Decidable p] (y) : pickA (some (.bool (decide p))) (some noV) y = pickA (some (.bool (if p then true else false))) (some noV) y := by
  by_cases h : p <;> simp [h]
@[go_sem] theorem pickA_dec2 (p : Prop) [Decidable p] (y) : pickA (some (.bool (decide p))) y (some noV) = pickA (some (.bool (if p then true else false))) y (some noV) := by
  by_cases h : p <;> simp [h]
@[go_sem] theorem dec_and (p q : Prop) [Decidable p] [Decidable q] : (decide p && decide q) = decide (p ∧ q) := (Bool.decide_and p q).symm
@[go_sem] theorem dec_or (p q : Prop) [Decidable p] [Decidable q] : (decide p || decide q) = decide (p ∨ q) := (Bool.decide_or p q).symm
@[go_sem] theorem dec_not (p : Prop) [Decidable p] : (!decide p) = decide (¬ p) := decide_not.symm
@[go_sem] theorem W_pick (d c x y) : WS E cr st ops (⟨some d, .pick c x y, ty, p, af, none⟩ :: l) a o nx Q = wO (pickA (opd a c) (opd a x) (opd a y)) (kV E cr st ops l a d o nx Q) := by
  rw [WS_op]; unfold wO pickA; simp only [evalOp]
  cases opd a c with
  | none => rfl
  | some v => cases v with
    | bool b =>
      cases b with
      | true => cases opd a x <;> rfl
      | false => cases opd a y <;> rfl
    | _ => rfl
@[go_sem] theorem W_alloc (d e) : WS E cr st ops (⟨some d, .alloc e, ty, p, af, none⟩ :: l) a o nx Q = wO (tZero E.P e) (kA E cr st ops l a d e o nx Q) := by
  rw [WS_op]; unfold wO; simp only [evalOp]; cases tZero E.P e <;> rfl
@[go_sem] theorem W_box (d e x) : WS E cr st ops (⟨some d, .box e x, ty, p, af, none⟩ :: l) a o nx Q = wO ((opd a x).bind fun v => okCells v.cells) (kA E cr st ops l a d e o nx Q) := by
  rw [WS_op]; unfold wO; simp only [evalOp]
  cases opd a x with
  | none => rfl
  | some v =>
    dsimp only [Option.bind_some, okCells]
    cases h : v.cells.all cellOk <;> rfl
@[go_sem] theorem W_build (d t ps) : WS E cr st ops (⟨some d, .build t ps, ty, p, af, none⟩ :: l) a o nx Q = wO ((partsOf a ps.toList).bind (aBuild E.P t)) (kV E cr st ops l a d o nx Q) := by
  rw [WS_op]; unfold wO; simp only [evalOp]
  cases partsOf a ps.toList with
  | none => rfl
  | some v => simp only [Option.bind_some]; cases aBuild E.P t v <;> rfl
@[go_sem] theorem W_buildSlice (d t n ps) : WS E cr st ops (⟨some d, .buildSlice t n ps, ty, p, af, none⟩ :: l) a o nx Q = wO ((partsOf a ps.toList).bind fun qs => aBuildSlice E.P (st, d) t n qs ⟨o, nx⟩) (kH E cr st ops l a (some d) Q) := by
  rw [WS_op]; unfold wO; simp only [evalOp, needD]; cases (partsOf a ps.toList).bind fun qs => aBuildSlice E.P (st, d) t n qs ⟨o, nx⟩ <;> rfl
@[go_sem] theorem W_load (d t x) : WS E cr st ops (⟨some d, .load t x, ty, p, af, none⟩ :: l) a o nx Q = wO ((opd a x).bind fun v => aLoad E.P t v ⟨o, nx⟩) (kV E cr st ops l a d o nx Q) := by
  rw [WS_op]; unfold wO; simp only [evalOp]
  cases opd a x with
  | none => rfl
  | some v => simp only [Option.bind_some]; cases aLoad E.P t v ⟨o, nx⟩ <;> rfl
@[go_sem] theorem W_store (t x y) : WS E cr st ops (⟨none, .store t x y, ty, p, af, none⟩ :: l) a o nx Q = wO ((opd a x).bind fun pv => (opd a y).bind fun v => aStore E.P t pv v ⟨o, nx⟩) (kS E cr st ops l a Q) := by
  rw [WS_op]; unfold wO; simp only [evalOp]
  cases opd a x with
  | none => rfl
  | some v =>
    simp only [Option.bind_some]
    cases opd a y with
    | none => rfl
    | some u => simp only [Option.bind_some]; cases aStore E.P t v u ⟨o, nx⟩ <;> rfl
def nilC (v : AV) : Option AV := match v with | .ptr k g off => some (.ptr k g off) | .fptr cs => some (.fptr cs) | .fn (.func f) first captured => some (.fn (.func f) first captured) | _ => none
@[go_sem] theorem nilC_ptr (k g off) : nilC (.ptr k g off) = some (.ptr k g off) := rfl
@[go_sem] theorem nilC_fptr (cs) : nilC (.fptr cs) = some (.fptr cs) := rfl
@[go_sem] theorem nilC_fn (f x y) : nilC (.fn (.func f) x y) = some (.fn (.func f) x y) := rfl
@[go_sem] theorem W_nilCheck (d x) : WS E cr st ops (⟨some d, .nilCheck x, ty, p, af, none⟩ :: l) a o nx Q = wO ((opd a x).bind nilC) (kV E cr st ops l a d o nx Q) := by
  rw [WS_op]; unfold wO; simp only [evalOp]
  cases opd a x with
  | none => rfl
  | some v =>
    simp only [Option.bind_some]
    cases v with
    | fn f x y => cases f <;> rfl
    | _ => rfl
@[go_sem] theorem W_binOp (d op t x y t') : WS E cr st ops (⟨some d, .binOp op t x y t', ty, p, af, none⟩ :: l) a o nx Q = wO ((opd a x).bind fun u => (opd a y).bind fun v => aBin E.P op t u v) (kV E cr st ops l a d o nx Q) := by
  rw [WS_op]; unfold wO; simp only [evalOp]
  cases opd a x with
  | none => rfl
  | some v =>
    simp only [Option.bind_some]
    cases opd a y with
    | none => rfl
    | some u => simp only [Option.bind_some]; cases aBin E.P op t v u <;> rfl
@[go_sem] theorem W_unOp (d op t x) : WS E cr st ops (⟨some d, .unOp op t x, ty, p, af, none⟩ :: l) a o nx Q = wO ((opd a x).bind (aUn op)) (kV E cr st ops l a d o nx Q) := by
  rw [WS_op]; unfold wO; simp only [evalOp]
  cases opd a x with
  | none => rfl
  | some v => simp only [Option.bind_some]; cases aUn op v <;> rfl
@[go_sem] theorem W_convert (d s t x) : WS E cr st ops (⟨some d, .convert s t x, ty, p, af, none⟩ :: l) a o nx Q = wO ((opd a x).bind fun u => aConvert E.P (st, d) s t u ⟨o, nx⟩) (kH E cr st ops l a (some d) Q) := by
  rw [WS_op]; unfold wO; simp only [evalOp, needD]; cases (opd a x).bind fun u => aConvert E.P (st, d) s t u ⟨o, nx⟩ <;> rfl
def mkFn (fn : Fn) (f c : Option (List AV)) : Option AV := match f, c with | some f, some c => some (.fn fn f c) | _, _ => none
@[go_sem] theorem mkFn_some (fn f c) : mkFn fn (some f) (some c) = some (.fn fn f c) := rfl
@[go_sem] theorem W_makeFunc (d fn f c) : WS E cr st ops (⟨some d, .makeFunc fn f c, ty, p, af, none⟩ :: l) a o nx Q = wO (mkFn fn (opds a f.toList) (opds a c.toList)) (kV E cr st ops l a d o nx Q) := by
  rw [WS_op]; unfold wO mkFn; simp only [evalOp]
  cases opds a f.toList with
  | none => rfl
  | some v => cases opds a c.toList <;> rfl
@[go_sem] theorem W_makeSlice (d t x y) : WS E cr st ops (⟨some d, .makeSlice t x y, ty, p, af, none⟩ :: l) a o nx Q = wO ((opdI a x).bind fun lv => (opdI a y).bind fun cv => aMakeSlice E.P (st, d) t lv cv ⟨o, nx⟩) (kH E cr st ops l a (some d) Q) := by
  rw [WS_op]; unfold wO; simp only [evalOp, needD]; cases (opdI a x).bind fun lv => (opdI a y).bind fun cv => aMakeSlice E.P (st, d) t lv cv ⟨o, nx⟩ <;> rfl
@[go_sem] theorem W_slice (d t x lo hi) : WS E cr st ops (⟨some d, .slice t x lo hi none, ty, p, af, none⟩ :: l) a o nx Q = wO ((opd a x).bind fun v => (opdB a lo).bind fun l => (opdB a hi).bind fun h => aSlice E.P t v l h) (kV E cr st ops l a d o nx Q) := by
  rw [WS_op]; unfold wO; simp only [evalOp]
  cases opd a x with
  | none => rfl
  | some v =>
    simp only [Option.bind_some]
    cases opdB a lo with
    | none => rfl
    | some u =>
      simp only [Option.bind_some]
      cases opdB a hi with
      | none => rfl
      | some h => simp only [Option.bind_some]; cases aSlice E.P t v u h <;> rfl
def fieldAddrA (P : Program) (t : TypeId) (f : Nat) (v : AV) : Option AV := match v, tField P t f with
  | .ptr k g off, some (o', ft) => if (tSize P ft).getD 0 = 0 then none else some (.ptr k g (off + o'))
  | .fptr cs, some (o', ft) => if (tSize P ft).getD 0 = 0 then none else some (.fptr (cs.drop o'))
  | _, _ => none
def fieldA (P : Program) (t : TypeId) (f : Nat) (v : AV) : Option AV := match v, tField P t f with
  | .agg cs, some (o', ft) => takeT P ft (cs.drop o')
  | _, _ => none
@[go_sem] theorem W_fieldAddr (d t x f) : WS E cr st ops (⟨some d, .fieldAddr t x f, ty, p, af, none⟩ :: l) a o nx Q = wO ((opd a x).bind (fieldAddrA E.P t f)) (kV E cr st ops l a d o nx Q) := by
  rw [WS_op]; unfold wO; simp only [evalOp]
  cases opd a x with
  | none => rfl
  | some v =>
    simp only [Option.bind_some, fieldAddrA]
    cases v with
    | ptr k g off =>
      cases tField E.P t f with
      | none => rfl
      | some q =>
        dsimp only
        by_cases h : (tSize E.P q.2).getD 0 = 0 <;> simp [h, putO, kV]
    | fptr cs =>
      cases tField E.P t f with
      | none => rfl
      | some q =>
        dsimp only
        by_cases h : (tSize E.P q.2).getD 0 = 0 <;> simp [h, putO, kV]
    | _ => rfl
@[go_sem] theorem W_field (d t x f) : WS E cr st ops (⟨some d, .field t x f, ty, p, af, none⟩ :: l) a o nx Q = wO ((opd a x).bind (fieldA E.P t f)) (kV E cr st ops l a d o nx Q) := by
  rw [WS_op]; unfold wO; simp only [evalOp]
  cases opd a x with
  | none => rfl
  | some v =>
    simp only [Option.bind_some, fieldA]
    cases v with
    | agg cs =>
      cases tField E.P t f with
      | none => rfl
      | some q => dsimp only; cases takeT E.P q.2 (cs.drop q.1) <;> rfl
    | _ => rfl
@[go_sem] theorem W_indexAddr (d t x i) : WS E cr st ops (⟨some d, .indexAddr t x i, ty, p, af, none⟩ :: l) a o nx Q = wO ((opd a x).bind fun v => (opdI a i).bind fun j => aIndexAddr E.P t v j) (kV E cr st ops l a d o nx Q) := by
  rw [WS_op]; unfold wO; simp only [evalOp]
  cases opd a x with
  | none => rfl
  | some v =>
    simp only [Option.bind_some]
    cases opdI a i with
    | none => rfl
    | some u => simp only [Option.bind_some]; cases aIndexAddr E.P t v u <;> rfl
@[go_sem] theorem W_index (d t x i) : WS E cr st ops (⟨some d, .index t x i, ty, p, af, none⟩ :: l) a o nx Q = wO ((opd a x).bind fun v => (opdI a i).bind fun j => aIndex E.P t v j) (kV E cr st ops l a d o nx Q) := by
  rw [WS_op]; unfold wO; simp only [evalOp]
  cases opd a x with
  | none => rfl
  | some v =>
    simp only [Option.bind_some]
    cases opdI a i with
    | none => rfl
    | some u => simp only [Option.bind_some]; cases aIndex E.P t v u <;> rfl
def extractA (i : Nat) (v : AV) : Option AV := match v with | .tup vs => vs[i]? | _ => none
@[go_sem] theorem extractA_tup (i vs) : extractA i (.tup vs) = vs[i]? := rfl
@[go_sem] theorem W_extract (d t i) : WS E cr st ops (⟨some d, .extract t i, ty, p, af, none⟩ :: l) a o nx Q = wO ((opd a t).bind (extractA i)) (kV E cr st ops l a d o nx Q) := by
  rw [WS_op]; unfold wO; simp only [evalOp]
  cases opd a t with
  | none => rfl
  | some v =>
    simp only [Option.bind_some, extractA]
    cases v with
    | tup vs => dsimp only; cases vs[i]? <;> rfl
    | _ => rfl
@[go_sem] theorem W_len (d x t) : WS E cr st ops (⟨some d, .call ⟨.builtin .len, #[x], #[t]⟩, ty, p, af, none⟩ :: l) a o nx Q = wO ((opd a x).bind (aLen E.P o t)) (kV E cr st ops l a d o nx Q) := by
  rw [WS_op]; unfold wO; simp only [evalOp, opds]
  cases opd a x with
  | none => rfl
  | some v =>
    simp only [Option.bind_some]
    rw [if_pos (by exact Nat.succ_pos _)]
    simp only [Array.getD_eq_getD_getElem?, List.getElem?_toArray, List.getElem?_cons_zero, Option.getD_some]
    cases aLen E.P o t v <;> rfl
@[go_sem] theorem W_append (d x y t t') : WS E cr st ops (⟨some d, .call ⟨.builtin .append, #[x, y], #[t, t']⟩, ty, p, af, none⟩ :: l) a o nx Q = wO ((opd a x).bind fun u => (opd a y).bind fun v => aAppend E.P (st, d) t t' u v ⟨o, nx⟩) (kH E cr st ops l a (some d) Q) := by
  rw [WS_op]; unfold wO; simp only [evalOp, opds, needD]
  cases opd a x with
  | none => rfl
  | some u =>
    simp only [Option.bind_some]
    cases opd a y with
    | none => rfl
    | some v =>
      simp only [Option.bind_some]
      rw [if_pos (by rfl)]
      simp only [Array.getD_eq_getD_getElem?, List.getElem?_toArray, List.getElem?_cons_zero, List.getElem?_cons_succ, Option.getD_some]
      cases aAppend E.P (st, d) t t' u v ⟨o, nx⟩ <;> rfl
@[go_sem] theorem W_copy (d x y t t') : WS E cr st ops (⟨d, .call ⟨.builtin .copy, #[x, y], #[t, t']⟩, ty, p, af, none⟩ :: l) a o nx Q = wO ((opd a x).bind fun u => (opd a y).bind fun v => aCopy E.P t u v ⟨o, nx⟩) (kH E cr st ops l a d Q) := by
  rw [WS_op]; unfold wO; simp only [evalOp, opds]
  cases opd a x with
  | none => rfl
  | some u =>
    simp only [Option.bind_some]
    cases opd a y with
    | none => rfl
    | some v =>
      simp only [Option.bind_some]
      rw [if_pos (by exact Nat.succ_pos _)]
      simp only [Array.getD_eq_getD_getElem?, List.getElem?_toArray, List.getElem?_cons_zero, Option.getD_some]
      cases aCopy E.P t u v ⟨o, nx⟩ <;> rfl
@[go_sem] theorem W_max (d x y t t') : WS E cr st ops (⟨some d, .call ⟨.builtin .max, #[x, y], #[t, t']⟩, ty, p, af, none⟩ :: l) a o nx Q = wO ((opd a x).bind fun u => (opd a y).bind fun v => aMax [u, v]) (kV E cr st ops l a d o nx Q) := by
  rw [WS_op]; unfold wO; simp only [evalOp, opds]
  cases opd a x with
  | none => rfl
  | some u =>
    simp only [Option.bind_some]
    cases opd a y with
    | none => rfl
    | some v => simp only [Option.bind_some]; cases aMax [u, v] <;> rfl
@[go_sem] theorem W_min (d x y t t') : WS E cr st ops (⟨some d, .call ⟨.builtin .min, #[x, y], #[t, t']⟩, ty, p, af, none⟩ :: l) a o nx Q = wO ((opd a x).bind fun u => (opd a y).bind fun v => aMin [u, v]) (kV E cr st ops l a d o nx Q) := by
  rw [WS_op]; unfold wO; simp only [evalOp, opds]
  cases opd a x with
  | none => rfl
  | some u =>
    simp only [Option.bind_some]
    cases opd a y with
    | none => rfl
    | some v => simp only [Option.bind_some]; cases aMin [u, v] <;> rfl
/-- A call: of a function, of a value that holds one. -/
@[go_sem] theorem W_call (d f xs ts) : WS E cr st ops (⟨d, .call ⟨.value f, xs, ts⟩, ty, p, af, none⟩ :: l) a o nx Q = wO ((opds a xs.toList).bind fun vs => (opd a f).bind fun fv => aCall E (fun _ _ => none) cr fv vs ⟨o, nx⟩) (kH E cr st ops l a d Q) := by
  rw [WS_op]; unfold wO; simp only [evalOp]
  cases (opds a xs.toList).bind fun args => (opd a f).bind fun fv => aCall E (fun _ _ => none) cr fv args ⟨o, nx⟩ <;> rfl
end
end

/-! ### what simp is to open -/
@[go_sem] theorem begin_app (args t) : begin_ args t = (args[t]?).getD noV := rfl
@[go_sem] theorem opd_tmp (a t) : opd a (.tmp t) = some (a t) := rfl
@[go_sem] theorem opd_func (a f) : opd a (.func f) = some (.fn (.func f) [] []) := rfl
@[go_sem] theorem opd_int (a k n) : opd a (.const (.int k n)) = some (.int k n) := rfl
@[go_sem] theorem opd_bool (a b) : opd a (.const (.bool b)) = some (.bool b) := rfl
@[go_sem] theorem opd_nil (a) : opd a (.const (.slice none 0 0)) = some .nil := rfl
@[go_sem] theorem opd_str (a s) : opd a (.const (.string s)) = some (.str s.data.toList) := rfl
@[go_sem] theorem opd_nilp (a) : opd a (.const (.pointer none)) = some .nilp := rfl
@[go_sem] theorem opd_map (a) : opd a (.const (.map none)) = some .nilmp := rfl
@[go_sem] theorem opds_nil (a) : opds a [] = some [] := rfl
def consO (x : Option AV) (xs : Option (List AV)) : Option (List AV) := match x, xs with | some v, some vs => some (v :: vs) | _, _ => none
@[go_sem] theorem consO_some (v vs) : consO (some v) (some vs) = some (v :: vs) := rfl
@[go_sem] theorem opds_cons (a x xs) : opds a (x :: xs) = consO (opd a x) (opds a xs) := rfl
@[go_sem] theorem put_app (a t v u) : put a t v u = if u = t then v else a u := rfl
@[go_sem] theorem putO_some (a t v) : putO a (some t) v = put a t v := rfl
@[go_sem] theorem putO_none (a v) : putO a none v = a := rfl
@[go_sem] theorem upd_app (o i j x k l) : upd o (i, j) x (k, l) = if l = j then (if k = i then some x else o (k, l)) else o (k, l) := by
  unfold upd
  by_cases h1 : l = j <;> by_cases h2 : k = i <;> simp [h1, h2]
@[go_sem] theorem mkRow_o (o nx t e s b cs) : (mkRow ⟨o, nx⟩ t e s b cs).o = upd o t (.row ⟨e, s, t, false, b, cs⟩) := rfl
@[go_sem] theorem mkRow_nx (o nx t e s b cs) : (mkRow ⟨o, nx⟩ t e s b cs).nx = nx := rfl
@[go_sem] theorem putRow_o (o nx t r) : (putRow ⟨o, nx⟩ t r).o = upd o t (.row r) := rfl
@[go_sem] theorem putRow_nx (o nx t r) : (putRow ⟨o, nx⟩ t r).nx = nx := rfl
/-- A row of a tag, if it is of that make. -/
def rowIf (x : Option AObj) (g : Tag) : Option Row := match x with | some (.row r) => if r.gen = g then some r else none | _ => none
@[go_sem] theorem aRow_eq (o k g) : aRow o k g = rowIf (o k) g := rfl
@[go_sem] theorem rowIf_some (e s g ro pl cs) : rowIf (some (.row ⟨e, s, g, ro, pl, cs⟩)) g = some ⟨e, s, g, ro, pl, cs⟩ := if_pos rfl
@[go_sem] theorem aLoad_ptr (P t k g off o nx) : aLoad P t (.ptr k g off) ⟨o, nx⟩ = (aRow o k g).bind fun r => takeT P t (r.cs.drop off) := by
  unfold aLoad; dsimp only; cases aRow o k g <;> rfl
@[go_sem] theorem aLoad_fptr (P t cs o nx) : aLoad P t (.fptr cs) ⟨o, nx⟩ = takeT P t cs := rfl
def storeR (k : Tag) (off n : Nat) (cs : List AV) (o : Ob) (nx : Nat) (r : Row) : Option AH :=
  if cs.length = n ∧ cs.all cellOk = true ∧ r.ro = false ∧ off + n ≤ r.cs.length then some ⟨upd o k (.row { r with cs := splice r.cs off cs }), nx⟩ else none
@[go_sem] theorem aStore_ptr (P t k g off x o nx) : aStore P t (.ptr k g off) x ⟨o, nx⟩ = (tSize P t).bind fun n => (aRow o k g).bind (storeR k off n x.cells o nx) := by
  unfold aStore
  dsimp only
  cases tSize P t with
  | none => rfl
  | some n =>
    dsimp only [Option.bind_some]
    cases aRow o k g <;> rfl
theorem storeR_ok {k : Tag} {off n : Nat} {cs : List AV} {o : Ob} {nx : Nat} {e : TypeId} {s : Nat} {g : Tag} {pl : Bool} {rs : List AV} (h1 : cs.length = n) (h2 : cs.all cellOk = true) (h3 : off + n ≤ rs.length) : storeR k off n cs o nx ⟨e, s, g, false, pl, rs⟩ = some ⟨upd o k (.row ⟨e, s, g, false, pl, splice rs off cs⟩), nx⟩ := if_pos ⟨h1, h2, rfl, h3⟩
def takeB (b : Option Bool) (n : Option Nat) (cs : List AV) : Option AV := match b, n with | some b, some n => take1 b n cs | _, _ => none
@[go_sem] theorem takeB_some (b n cs) : takeB (some b) (some n) cs = take1 b n cs := rfl
@[go_sem] theorem takeT_eq (P t cs) : takeT P t cs = takeB (tAgg P t) (tSize P t) cs := rfl
@[go_sem] theorem take1_one (n x cs) : take1 false n (x :: cs) = some x := rfl
@[go_sem] theorem take1_agg (n cs) : take1 true n cs = if n ≤ cs.length then some (.agg (cs.take n)) else none := rfl
@[go_sem] theorem asI_int (n) : asI (.int .i64 n) = some n := rfl
@[go_sem] theorem opdI_eq (a x) : opdI a x = (opd a x).bind asI := rfl
@[go_sem] theorem opdB_none (a) : opdB a none = some none := rfl
@[go_sem] theorem opdB_some (a x) : opdB a (some x) = (opdI a x).map some := rfl
@[go_sem] theorem cells_agg (cs) : AV.cells (.agg cs) = cs := rfl
@[go_sem] theorem cells_int (k n) : AV.cells (.int k n) = [.int k n] := rfl
@[go_sem] theorem cells_bool (b) : AV.cells (.bool b) = [.bool b] := rfl
@[go_sem] theorem cells_str (b) : AV.cells (.str b) = [.str b] := rfl
@[go_sem] theorem cells_nil : AV.cells .nil = [.nil] := rfl
@[go_sem] theorem cells_sl (n cs) : AV.cells (.sl n cs) = [.sl n cs] := rfl
@[go_sem] theorem cells_ref (k g off n) : AV.cells (.ref k g off n) = [.ref k g off n] := rfl
@[go_sem] theorem cells_ptr (k g off) : AV.cells (.ptr k g off) = [.ptr k g off] := rfl
@[go_sem] theorem cells_fptr (cs) : AV.cells (.fptr cs) = [.fptr cs] := rfl
@[go_sem] theorem cells_fn (f x y) : AV.cells (.fn f x y) = [.fn f x y] := rfl
@[go_sem] theorem cells_mp (k) : AV.cells (.mp k) = [.mp k] := rfl
@[go_sem] theorem cells_nilp : AV.cells .nilp = [.nilp] := rfl
@[go_sem] theorem cells_nilmp : AV.cells .nilmp = [.nilmp] := rfl
@[go_sem] theorem ok_int (k n) : cellOk (.int k n) = true := rfl
@[go_sem] theorem ok_bool (b) : cellOk (.bool b) = true := rfl
@[go_sem] theorem ok_str (b) : cellOk (.str b) = true := rfl
@[go_sem] theorem ok_nil : cellOk .nil = true := rfl
@[go_sem] theorem ok_sl (n cs) : cellOk (.sl n cs) = true := rfl
@[go_sem] theorem ok_ref (k g off n) : cellOk (.ref k g off n) = true := rfl
@[go_sem] theorem ok_ptr (k g off) : cellOk (.ptr k g off) = true := rfl
@[go_sem] theorem ok_fptr (cs) : cellOk (.fptr cs) = true := rfl
@[go_sem] theorem ok_fn (f x y) : cellOk (.fn f x y) = true := rfl
@[go_sem] theorem ok_mp (k) : cellOk (.mp k) = true := rfl
@[go_sem] theorem ok_nilp : cellOk .nilp = true := rfl
@[go_sem] theorem ok_nilmp : cellOk .nilmp = true := rfl
theorem upd_fst {o : Ob} {i i' j j' : Nat} {x : AObj} (h : i ≠ i') : upd o (i', j') x (i, j) = o (i, j) := upd_ne _ _ _ _ (fun e => h (by injection e))
attribute [go_sem] beq_self_eq_true Nat.sub_zero Option.bind_some Option.bind_none Option.map_some Option.map_none Option.getD_some Option.getD_none List.toList_toArray List.all_cons List.all_nil Bool.and_self Bool.and_true Bool.true_and List.length_cons List.length_nil List.drop_zero List.drop_succ_cons List.drop_nil List.cons_append List.nil_append List.append_nil reduceIte Nat.add_zero Nat.zero_add Nat.mul_one Nat.one_mul Nat.zero_mul Nat.mul_zero ne_eq not_true_eq_false not_false_eq_true or_self or_false false_or and_self and_true true_and and_false false_and List.take_succ_cons List.take_zero List.getElem?_cons_zero List.getElem?_cons_succ eq_self if_true if_false Bool.not_true Bool.not_false Bool.not_not Bool.false_and Bool.and_false Bool.or_true Bool.true_or Bool.or_false Bool.false_or Bool.true_eq_false Bool.false_eq_true

end Go.Proofs.YtpmjpogcaglphaaDoor.A
/- A, part 29: rules on types' operations, on data in cells, on footprints. -/
namespace Go.Proofs.YtpmjpogcaglphaaDoor.A
open Go

abbrev maxB : Int := 140737488355328
attribute [go_sem] maxB Nat.min_self true_or or_true List.length_replicate Nat.le_refl Int.le_refl
@[go_sem] theorem cast0 : ((0 : Nat) : Int) = 0 := rfl
section
variable {P : Program} {t e : TypeId} {s n b : Nat} {z : List AV}

/-! ### addresses -/
theorem ixs_ref (h : (tElem P t).bind (tSize P) = some s) (k g off n i) : aIndexAddr P t (.ref k g off n) i = if 0 ≤ i ∧ i < (n : Int) then some (.ptr k g (off + i.toNat * s)) else none := by
  unfold aIndexAddr; simp only [h]
theorem ixs_sl (h : (tElem P t).bind (tSize P) = some s) (n cs i) : aIndexAddr P t (.sl n cs) i = if 0 ≤ i ∧ i < (n : Int) then some (.fptr (cs.drop (i.toNat * s))) else none := by
  unfold aIndexAddr; simp only [h]
theorem ixa_fptr (h : tArray P t = some (n, e)) (hs : tSize P e = some s) (cs i) : aIndexAddr P t (.fptr cs) i = if 0 ≤ i ∧ i < (n : Int) then some (.fptr (cs.drop (i.toNat * s))) else none := by
  unfold aIndexAddr; simp only [h, hs]
theorem ixa_ptr (h : tArray P t = some (n, e)) (hs : tSize P e = some s) (k g off i) : aIndexAddr P t (.ptr k g off) i = if 0 ≤ i ∧ i < (n : Int) then some (.ptr k g (off + i.toNat * s)) else none := by
  unfold aIndexAddr; simp only [h, hs]
theorem ixv_agg (h : tArray P t = some (n, e)) (hs : tSize P e = some s) (cs i) : aIndex P t (.agg cs) i = if 0 ≤ i ∧ i < (n : Int) then takeT P e (cs.drop (i.toNat * s)) else none := by
  unfold aIndex; simp only [h, hs]
theorem ixv_str (h : isStr (P.underlying t) = true) (x i) : aIndex P t (.str x) i = if 0 ≤ i then (x[i.toNat]?).map fun b => .int .u8 b.toNat else none := by
  unfold aIndex; simp only [h, if_true]
theorem fa_ptr {f o' ft : Nat} (h : tField P t f = some (o', ft)) (hs : tSize P ft = some (s + 1)) (k g off) : fieldAddrA P t f (.ptr k g off) = some (.ptr k g (off + o')) := by
  unfold fieldAddrA; simp [h, hs]
theorem fa_fptr {f o' ft : Nat} (h : tField P t f = some (o', ft)) (hs : tSize P ft = some (s + 1)) (cs) : fieldAddrA P t f (.fptr cs) = some (.fptr (cs.drop o')) := by
  unfold fieldAddrA; simp [h, hs]
theorem fi_agg {f o' ft : Nat} (h : tField P t f = some (o', ft)) (cs) : fieldA P t f (.agg cs) = takeT P ft (cs.drop o') := by
  unfold fieldA; simp [h]

/-! ### slices -/
theorem sl_ref (h : (tElem P t).bind (tSize P) = some (s + 1)) (k g off n lo hi) : aSlice P t (.ref k g off n) lo hi = if 0 ≤ lo.getD 0 ∧ lo.getD 0 ≤ hi.getD n ∧ hi.getD n ≤ n then some (.ref k g (off + (lo.getD 0).toNat * (s + 1)) ((hi.getD n).toNat - (lo.getD 0).toNat)) else none := by
  unfold aSlice; simp only [h, Nat.succ_pos, true_and]
theorem sl_sl (h : (tElem P t).bind (tSize P) = some s) (n cs lo hi) : aSlice P t (.sl n cs) lo hi = if 0 ≤ lo.getD 0 ∧ lo.getD 0 ≤ hi.getD n ∧ hi.getD n ≤ n then some (.sl ((hi.getD n).toNat - (lo.getD 0).toNat) ((cs.take ((hi.getD n).toNat * s)).drop ((lo.getD 0).toNat * s))) else none := by
  unfold aSlice; simp only [h]
theorem sl_str (h : isStr (P.underlying t) = true) (x lo hi) : aSlice P t (.str x) lo hi = if 0 ≤ lo.getD 0 ∧ lo.getD 0 ≤ hi.getD x.length ∧ hi.getD x.length ≤ x.length then some (.str ((x.take (hi.getD x.length).toNat).drop (lo.getD 0).toNat)) else none := by
  unfold aSlice; simp only [h, true_and]
theorem ln_nil (h : P.underlying t = some (.slice e)) (o) : aLen P o t .nil = some (.int .i64 0) := by unfold aLen; simp only [h]
theorem ln_sl (h : P.underlying t = some (.slice e)) (o n cs) : aLen P o t (.sl n cs) = some (.int .i64 n) := by unfold aLen; simp only [h]
theorem ln_ref (h : P.underlying t = some (.slice e)) (o k g off n) : aLen P o t (.ref k g off n) = some (.int .i64 n) := by unfold aLen; simp only [h]
theorem ln_str (h : P.underlying t = some .string) (o x) : aLen P o t (.str x) = some (.int .i64 x.length) := by unfold aLen; simp only [h]
theorem ln_arr (h : P.underlying t = some (.array n e)) (o x) : aLen P o t x = some (.int .i64 n) := by unfold aLen; simp only [h]
theorem ms_eq (h : tElem P t = some e) (hs : tSize P e = some (s + 1)) (hb : tBytes P e = some b) (hz : tZero P e = some z) (hl : z.length = s + 1) (tg l c o nx) : aMakeSlice P tg t l c ⟨o, nx⟩ = if 0 ≤ l ∧ l ≤ c ∧ c * b ≤ maxB ∧ c ≤ maxB then some (.ref tg tg 0 l.toNat, ⟨upd o tg (.row ⟨e, s + 1, tg, false, true, rep z l.toNat⟩), nx⟩) else none := by
  unfold aMakeSlice; simp only [h, hs, hb, hz, hl, Nat.succ_pos, and_true]; rfl
theorem bs_eq (h : tElem P t = some e) (hs : tSize P e = some (s + 1)) (hz : tZero P e = some z) (hl : z.length = s + 1) (tg n ps o nx) : aBuildSlice P tg t n ps ⟨o, nx⟩ = if n * (s + 1) ≤ 16777216 then (fillA (fun i => some (i * (s + 1), s + 1)) (rep z n) ps).map (fun cs => (.ref tg tg 0 n, ⟨upd o tg (.row ⟨e, s + 1, tg, false, true, cs⟩), nx⟩)) else none := by
  unfold aBuildSlice; simp only [h, hs, hz, hl, Nat.succ_pos, and_true]
  split
  · cases fillA (fun i => some (i * (s + 1), s + 1)) (rep z n) ps <;> rfl
  · rfl
/-- Appending cells. -/
def appW (tg : Tag) (e sz by_ : Nat) (x : AV) (m : Nat) (new : List AV) (o : Ob) (nx : Nat) : Option (AV × AH) :=
  if new.length = m * sz ∧ new.all cellOk = true then
    match x with
    | .nil => if m = 0 then some (.nil, ⟨o, nx⟩) else if (m * by_ : Int) ≤ maxB then some (.ref tg tg 0 m, ⟨upd o tg (.row ⟨e, sz, tg, false, true, new⟩), nx⟩) else none
    | .ref k g 0 n => (rowIf (o k) g).bind fun r => if r.elem = e ∧ r.sz = sz ∧ r.ro = false ∧ r.plain = true ∧ n * sz ≤ r.cs.length ∧ ((n + m) * by_ : Int) ≤ maxB then some (.ref k tg 0 (n + m), ⟨upd o k (.row { r with gen := tg, cs := r.cs.take (n * sz) ++ new }), nx⟩) else none
    | _ => none
  else none
theorem ap_eq {t' : TypeId} (h : tElem P t = some e) (hs : tSize P e = some (s + 1)) (hb : tBytes P e = some (b + 1)) (hz : tZero P e = some z) (hl : z.length = s + 1) (ht : (isStr (P.underlying t') || (tElem P t').isSome) = true) (tg x y o nx) : aAppend P tg t t' x y ⟨o, nx⟩ = (srcOf o y).bind fun q => appW tg e (s + 1) (b + 1) x q.1 q.2 o nx := by
  unfold aAppend
  simp only [h, hs, hb, hz]
  cases srcOf o y with
  | none => rfl
  | some q =>
    obtain ⟨m, new⟩ := q
    have h1 : ¬ (isStr (P.underlying t') = false ∧ (tElem P t').isSome = false) := by
      rintro ⟨h1, h2⟩; rw [h1, h2] at ht; cases ht
    simp only [Option.bind_some, appW, hl, ne_eq, not_true_eq_false, h1, false_or, Nat.succ_ne_zero]
    by_cases hc : new.length = m * (s + 1) ∧ new.all cellOk = true
    · have c3 : ¬ (¬ new.length = m * (s + 1) ∨ new.all cellOk = false) := by
        rintro (h | h)
        · exact h hc.1
        · rw [hc.2] at h; cases h
      rw [if_neg c3, if_pos hc]
      cases x with
      | nil =>
        have : (m * (b + 1) ≤ 140737488355328) ↔ ((m : Int) * ((b + 1 : Nat) : Int) ≤ maxB) := by unfold maxB; rw [← Int.natCast_mul]; omega
        simp only [this]
        rfl
      | ref k g off n =>
        cases off with
        | zero =>
          have : ((n + m) * (b + 1) ≤ 140737488355328) ↔ (((n : Int) + (m : Int)) * ((b + 1 : Nat) : Int) ≤ maxB) := by
            unfold maxB
            rw [← Int.natCast_add, ← Int.natCast_mul]
            omega
          simp only [aRow_eq, this]
          cases rowIf (o k) g <;> rfl
        | succ off => rfl
      | _ => rfl
    · have c3 : (¬ new.length = m * (s + 1) ∨ new.all cellOk = false) := by
        by_cases c1 : new.length = m * (s + 1)
        · exact .inr (by rw [← Bool.not_eq_true]; exact fun h => hc ⟨c1, h⟩)
        · exact .inl c1
      rw [if_pos c3, if_neg hc]
@[go_sem] theorem appW_nil (tg e sz by_ m new o nx) : appW tg e sz by_ .nil m new o nx = if new.length = m * sz ∧ new.all cellOk = true then (if m = 0 then some (.nil, ⟨o, nx⟩) else if (m * by_ : Int) ≤ maxB then some (.ref tg tg 0 m, ⟨upd o tg (.row ⟨e, sz, tg, false, true, new⟩), nx⟩) else none) else none := rfl
def appR (tg : Tag) (e sz by_ : Nat) (k : Tag) (n m : Nat) (new : List AV) (o : Ob) (nx : Nat) (r : Row) : Option (AV × AH) :=
  if r.elem = e ∧ r.sz = sz ∧ r.ro = false ∧ r.plain = true ∧ n * sz ≤ r.cs.length ∧ ((n + m) * by_ : Int) ≤ maxB then some (.ref k tg 0 (n + m), ⟨upd o k (.row { r with gen := tg, cs := r.cs.take (n * sz) ++ new }), nx⟩) else none
@[go_sem] theorem appR_row (tg e sz by_ k n m new o nx g cs) : appR tg e sz by_ k n m new o nx ⟨e, sz, g, false, true, cs⟩ = if n * sz ≤ cs.length ∧ ((n + m) * by_ : Int) ≤ maxB then some (.ref k tg 0 (n + m), ⟨upd o k (.row ⟨e, sz, tg, false, true, cs.take (n * sz) ++ new⟩), nx⟩) else none := by
  unfold appR; simp
@[go_sem] theorem appW_ref (tg e sz by_ k g n m new o nx) : appW tg e sz by_ (.ref k g 0 n) m new o nx = if new.length = m * sz ∧ new.all cellOk = true then (rowIf (o k) g).bind (appR tg e sz by_ k n m new o nx) else none := rfl

def copyR (k : Tag) (off n sz m : Nat) (new : List AV) (o : Ob) (nx : Nat) (r : Row) : Option (AV × AH) :=
  if (off = 0 ∨ 0 < n) ∧ r.sz = sz ∧ r.ro = false ∧ off + n * sz ≤ r.cs.length ∧ new.length = m * sz ∧ new.all cellOk = true then some (.int .i64 (min m n : Nat), ⟨upd o k (.row { r with cs := splice r.cs off (new.take (min m n * sz)) }), nx⟩) else none
@[go_sem] theorem copyR_row (k off n sz m new o nx e g pl cs) : copyR k off n sz m new o nx ⟨e, sz, g, false, pl, cs⟩ = if (off = 0 ∨ 0 < n) ∧ off + n * sz ≤ cs.length ∧ new.length = m * sz ∧ new.all cellOk = true then some (.int .i64 (min m n : Nat), ⟨upd o k (.row ⟨e, sz, g, false, pl, splice cs off (new.take (min m n * sz))⟩), nx⟩) else none := by
  unfold copyR; simp
theorem cp_ref (h : (tElem P t).bind (tSize P) = some s) (k g off n x o nx) : aCopy P t (.ref k g off n) x ⟨o, nx⟩ = (srcOf o x).bind fun q => (rowIf (o k) g).bind (copyR k off n s q.1 q.2 o nx) := by
  unfold aCopy
  simp only [h]
  cases srcOf o x with
  | none => rfl
  | some q =>
    simp only [Option.bind_some, aRow_eq]
    cases rowIf (o k) g <;> rfl

theorem bd_struct {fs : Array Field} {ps : List (Nat × Nat)} (hz : tZero P t = some z) (hu : P.underlying t = some (.struct fs)) (hp : fieldPlaces P fs.toList = some ps) (xs) : aBuild P t xs = (fillA (fun i => ps[i]?) z xs).map .agg := by
  unfold aBuild; simp only [hz, hu, hp]
theorem bd_array (hz : tZero P t = some z) (hu : P.underlying t = some (.array n e)) (hs : tSize P e = some s) (xs) : aBuild P t xs = (fillA (fun i => some (i * s, s)) z xs).map .agg := by
  unfold aBuild; simp only [hz, hu, hs]
end

/-! ### literals -/
@[go_sem] theorem partsOf_nil (a) : partsOf a [] = some [] := rfl
def consP (i : Nat) (x : Option AV) (xs : Option (List (Nat × AV))) : Option (List (Nat × AV)) := match x, xs with | some v, some vs => some ((i, v) :: vs) | _, _ => none
@[go_sem] theorem consP_some (i v vs) : consP i (some v) (some vs) = some ((i, v) :: vs) := rfl
@[go_sem] theorem partsOf_cons (a i x ps) : partsOf a ((i, x) :: ps) = consP i (opd a x) (partsOf a ps) := rfl
@[go_sem] theorem fillA_nil (place cells) : fillA place cells [] = some cells := rfl
def fill1 (p : Option (Nat × Nat)) (cells vs : List AV) : Option (List AV) := match p with
  | none => none
  | some (off, size) => if vs.length = size ∧ off + size ≤ cells.length ∧ vs.all cellOk = true then some (splice cells off vs) else none
@[go_sem] theorem fillA_cons (place cells i v rest) : fillA place cells ((i, v) :: rest) = (fill1 (place i) cells v.cells).bind fun cs => fillA place cs rest := by
  simp only [fillA, fill1]
  cases place i with
  | none => rfl
  | some q => obtain ⟨off, size⟩ := q; dsimp only; split <;> rfl
@[go_sem] theorem fill1_some (off size cells vs) : fill1 (some (off, size)) cells vs = if vs.length = size ∧ off + size ≤ cells.length ∧ vs.all cellOk = true then some (splice cells off vs) else none := rfl
@[go_sem] theorem storeR_row (k off n cs o nx e s g pl rs) : storeR k off n cs o nx ⟨e, s, g, false, pl, rs⟩ = if cs.length = n ∧ cs.all cellOk = true ∧ off + n ≤ rs.length then some ⟨upd o k (.row ⟨e, s, g, false, pl, splice rs off cs⟩), nx⟩ else none := by
  unfold storeR; simp
@[go_sem] theorem splice_zero (rs cs) : splice rs 0 cs = cs ++ rs.drop cs.length := by simp [splice]
@[go_sem] theorem splice_succ (x rs off cs) : splice (x :: rs) (off + 1) cs = x :: splice rs off cs := by
  unfold splice
  rw [show off + 1 + cs.length = (off + cs.length) + 1 by omega]
  rfl
@[go_sem] theorem rep_zero (z) : rep z 0 = [] := rfl
@[go_sem] theorem rep_succ (z n) : rep z (n + 1) = z ++ rep z n := rfl
theorem rep_one (x n) : rep [x] n = List.replicate n x := by
  induction n with
  | zero => rfl
  | succ n ih => simp [rep, ih, List.replicate_succ]
theorem rep_flat (z n) : rep z n = (List.replicate n z).flatten := by
  induction n with
  | zero => rfl
  | succ n ih => simp [rep, ih, List.replicate_succ]

/-! ### sources -/
@[go_sem] theorem srcOf_nil (o) : srcOf o .nil = some (0, []) := rfl
@[go_sem] theorem srcOf_sl (o n cs) : srcOf o (.sl n cs) = some (n, cs) := rfl
@[go_sem] theorem srcOf_str (o x) : srcOf o (.str x) = some (x.length, x.map fun b => .int .u8 b.toNat) := rfl
@[go_sem] theorem srcOf_ref (o k g off n) : srcOf o (.ref k g off n) = (rowIf (o k) g).map fun r => (n, (r.cs.drop off).take (n * r.sz)) := by
  simp only [srcOf, sliceCells, aRow_eq]; cases rowIf (o k) g <;> rfl

/-! ### numbers -/
@[go_sem] theorem aBin_add (P t k x y) : aBin P .add t (.int k x) (.int k y) = some (.int k (k.wrap (x + y))) := by simp [aBin, aInt]
@[go_sem] theorem aBin_sub (P t k x y) : aBin P .sub t (.int k x) (.int k y) = some (.int k (k.wrap (x - y))) := by simp [aBin, aInt]
@[go_sem] theorem aBin_mul (P t k x y) : aBin P .mul t (.int k x) (.int k y) = some (.int k (k.wrap (x * y))) := by simp [aBin, aInt]
@[go_sem] theorem aBin_quo (P t k x y) : aBin P .quo t (.int k x) (.int k y) = if y = 0 then none else some (.int k (k.wrap (x.tdiv y))) := by simp [aBin, aInt]
@[go_sem] theorem aBin_rem (P t k x y) : aBin P .rem t (.int k x) (.int k y) = if y = 0 then none else some (.int k (x.tmod y)) := by simp [aBin, aInt]
@[go_sem] theorem aBin_eql (P t k x y) : aBin P .eql t (.int k x) (.int k y) = some (.bool (decide (x = y))) := by simp [aBin, aInt]; rfl
@[go_sem] theorem aBin_neq (P t k x y) : aBin P .neq t (.int k x) (.int k y) = some (.bool (decide (¬ x = y))) := by simp [aBin, aInt, bne]; rfl
@[go_sem] theorem aBin_lss (P t k x y) : aBin P .lss t (.int k x) (.int k y) = some (.bool (decide (x < y))) := by simp [aBin, aInt]
@[go_sem] theorem aBin_leq (P t k x y) : aBin P .leq t (.int k x) (.int k y) = some (.bool (decide (x ≤ y))) := by simp [aBin, aInt]
@[go_sem] theorem aBin_gtr (P t k x y) : aBin P .gtr t (.int k x) (.int k y) = some (.bool (decide (y < x))) := by simp [aBin, aInt]
@[go_sem] theorem aBin_geq (P t k x y) : aBin P .geq t (.int k x) (.int k y) = some (.bool (decide (y ≤ x))) := by simp [aBin, aInt]
@[go_sem] theorem aBin_shl (P t k k' x y) : aBin P .shl t (.int k x) (.int k' y) = aShift .shl k x y := by simp [aBin]
@[go_sem] theorem aBin_shr (P t k k' x y) : aBin P .shr t (.int k x) (.int k' y) = aShift .shr k x y := by simp [aBin]
@[go_sem] theorem aBin_and (P t k x y) : aBin P .and t (.int k x) (.int k y) = aBits .and k x y := by simp [aBin, aInt]
@[go_sem] theorem aBin_or (P t k x y) : aBin P .or t (.int k x) (.int k y) = aBits .or k x y := by simp [aBin, aInt]
theorem aBin_beq {P : Program} {t : TypeId} (h : isBoolT (P.underlying t) = true) (x y) : aBin P .eql t (.bool x) (.bool y) = some (.bool (x == y)) := by simp [aBin, h]
theorem aBin_bne {P : Program} {t : TypeId} (h : isBoolT (P.underlying t) = true) (x y) : aBin P .neq t (.bool x) (.bool y) = some (.bool (!(x == y))) := by simp [aBin, h]
@[go_sem] theorem aBin_sadd (P t x y) : aBin P .add t (.str x) (.str y) = if x.length + y.length ≤ 9223372036854775807 then some (.str (x ++ y)) else none := by simp [aBin, aStr]
@[go_sem] theorem aBin_seql (P t x y) : aBin P .eql t (.str x) (.str y) = some (.bool (x == y)) := by simp [aBin, aStr]
@[go_sem] theorem aBin_sneq (P t x y) : aBin P .neq t (.str x) (.str y) = some (.bool (!(x == y))) := by simp [aBin, aStr]
@[go_sem] theorem aUn_not (x) : aUn .not (.bool x) = some (.bool (!x)) := rfl
@[go_sem] theorem aUn_neg (k n) : aUn .neg (.int k n) = some (.int k (k.wrap (0 - n))) := rfl
def cvI (s d : Option TypeDesc) (n : Int) (o : Ob) (nx : Nat) : Option (AV × AH) := match s, d with | some _, some (.int k) => some (.int k (k.wrap n), ⟨o, nx⟩) | _, _ => none
@[go_sem] theorem cvI_some (s k n o nx) : cvI (some s) (some (.int k)) n o nx = some (.int k (k.wrap n), ⟨o, nx⟩) := rfl
theorem cv_int {P : Program} {s d : TypeId} {k : IntKind} {td : TypeDesc} (hs : P.underlying s = some td) (hd : P.underlying d = some (.int k)) (tg k' n o nx) : aConvert P tg s d (.int k' n) ⟨o, nx⟩ = some (.int k (k.wrap n), ⟨o, nx⟩) := by
  unfold aConvert; simp only [hs, hd]

@[go_sem] theorem aShift_shr (k x y) : aShift .shr k x y = if y < 0 then none else some (.int k (x.fdiv (2 ^ (min y.toNat k.bits)))) := rfl
@[go_sem] theorem aShift_shl (k x y) : aShift .shl k x y = if y < 0 then none else some (.int k (k.wrap (x * 2 ^ (min y.toNat k.bits)))) := rfl
def andI (k : IntKind) (x y : Int) : Int := k.wrap (BitVec.ofInt k.bits x &&& BitVec.ofInt k.bits y).toNat
def orI (k : IntKind) (x y : Int) : Int := k.wrap (BitVec.ofInt k.bits x ||| BitVec.ofInt k.bits y).toNat
@[go_sem] theorem aBits_and (k x y) : aBits .and k x y = some (.int k (andI k x y)) := rfl
@[go_sem] theorem aBits_or (k x y) : aBits .or k x y = some (.int k (orI k x y)) := rfl
@[go_sem] theorem bits_i64 : IntKind.i64.bits = 64 := rfl
@[go_sem] theorem bits_u64 : IntKind.u64.bits = 64 := rfl
@[go_sem] theorem bits_u8 : IntKind.u8.bits = 8 := rfl

/-! ### data in cells -/
def cI (l : List Int) : List AV := l.map (AV.int .i64)
def cB (l : List Bool) : List AV := l.map AV.bool
abbrev slI (l : List Int) : AV := .sl l.length (cI l)
abbrev slB (l : List Bool) : AV := .sl l.length (cB l)
@[go_sem] theorem cI_nil : cI [] = [] := rfl
@[go_sem] theorem cB_nil : cB [] = [] := rfl
@[go_sem] theorem cI_length (l) : (cI l).length = l.length := by simp [cI]
@[go_sem] theorem cB_length (l) : (cB l).length = l.length := by simp [cB]
@[go_sem] theorem cI_ok (l) : (cI l).all cellOk = true := by simp [cI, List.all_eq_true, cellOk]
@[go_sem] theorem cB_ok (l) : (cB l).all cellOk = true := by simp [cB, List.all_eq_true, cellOk]
theorem cI_app (x y) : cI (x ++ y) = cI x ++ cI y := by simp [cI]
theorem cB_app (x y) : cB (x ++ y) = cB x ++ cB y := by simp [cB]
theorem cI_take (l n) : (cI l).take n = cI (l.take n) := by simp [cI, List.map_take]
theorem cI_drop (l n) : (cI l).drop n = cI (l.drop n) := by simp [cI, List.map_drop]
theorem cB_take (l n) : (cB l).take n = cB (l.take n) := by simp [cB, List.map_take]
theorem cB_drop (l n) : (cB l).drop n = cB (l.drop n) := by simp [cB, List.map_drop]
theorem cI_one (x) : [AV.int .i64 x] = cI [x] := rfl
theorem cI_snoc (l x) : cI l ++ [AV.int .i64 x] = cI (l ++ [x]) := by simp [cI]
theorem cB_snoc (l x) : cB l ++ [AV.bool x] = cB (l ++ [x]) := by simp [cB]
theorem take1_drop {cs : List AV} {i s : Nat} (h : i < cs.length) : take1 false s (cs.drop i) = some (cs[i]'h) := by
  rw [List.drop_eq_getElem_cons h]; rfl
theorem cI_get {l : List Int} {i s : Nat} (h : i < l.length) : take1 false s ((cI l).drop i) = some (.int .i64 (l.getD i 0)) := by
  rw [take1_drop (by simpa [cI] using h)]; simp [cI, List.getD, h]
theorem cB_get {l : List Bool} {i s : Nat} (h : i < l.length) : take1 false s ((cB l).drop i) = some (.bool (l.getD i false)) := by
  rw [take1_drop (by simpa [cB] using h)]; simp [cB, List.getD, h]
theorem splice_eq (cs : List AV) (off : Nat) (x : AV) (h : off < cs.length) : splice cs off [x] = cs.set off x := by
  unfold splice
  rw [List.set_eq_take_append_cons_drop, if_pos h]; simp
theorem cI_set (l : List Int) (i x) (h : i < l.length) : splice (cI l) i [.int .i64 x] = cI (l.set i x) := by
  rw [splice_eq _ _ _ (by simpa [cI] using h)]; simp [cI, List.map_set]
theorem cB_set (l : List Bool) (i x) (h : i < l.length) : splice (cB l) i [.bool x] = cB (l.set i x) := by
  rw [splice_eq _ _ _ (by simpa [cB] using h)]; simp [cB, List.map_set]
theorem rep_int (n) : rep [AV.int .i64 0] n = cI (List.replicate n 0) := by rw [rep_one]; simp [cI]
theorem rep_bool (n) : rep [AV.bool false] n = cB (List.replicate n false) := by rw [rep_one]; simp [cB]

/-! ### views -/
@[go_sem] theorem view_int (o d k n) : view o d (.int k n) = .int k n := by cases d <;> rfl
@[go_sem] theorem view_bool (o d b) : view o d (.bool b) = .bool b := by cases d <;> rfl
@[go_sem] theorem view_str (o d b) : view o d (.str b) = .str b := by cases d <;> rfl
@[go_sem] theorem view_nil (o d) : view o d .nil = .sl 0 [] := by cases d <;> rfl
@[go_sem] theorem view_sl (o d n cs) : view o d (.sl n cs) = .sl n cs := by cases d <;> rfl
@[go_sem] theorem view_fptr (o d cs) : view o d (.fptr cs) = .fptr cs := by cases d <;> rfl
@[go_sem] theorem view_mp (o d k) : view o d (.mp k) = .und := by cases d <;> rfl
@[go_sem] theorem view_agg (o d cs) : view o (d + 1) (.agg cs) = .agg (cs.map (view o d)) := rfl
@[go_sem] theorem view_tup (o d cs) : view o (d + 1) (.tup cs) = .tup (cs.map (view o d)) := rfl
def viewR (o : Ob) (d off n : Nat) (r : Option Row) : AV := match r with
  | some r => if off + n * r.sz ≤ r.cs.length then .sl n (((r.cs.drop off).take (n * r.sz)).map (view o d)) else .und
  | none => .und
@[go_sem] theorem viewR_some (o d off n r) : viewR o d off n (some r) = if off + n * r.sz ≤ r.cs.length then .sl n (((r.cs.drop off).take (n * r.sz)).map (view o d)) else .und := rfl
@[go_sem] theorem view_ref (o d k g off n) : view o (d + 1) (.ref k g off n) = viewR o d off n (rowIf (o k) g) := by
  unfold viewR; simp only [view]; rw [aRow_eq]; cases rowIf (o k) g <;> rfl
def viewP (o : Ob) (d off : Nat) (r : Option Row) : AV := match r with
  | some r => .fptr ((r.cs.drop off).map (view o d))
  | none => .und
@[go_sem] theorem viewP_some (o d off r) : viewP o d off (some r) = .fptr ((r.cs.drop off).map (view o d)) := rfl
@[go_sem] theorem view_ptr (o d k g off) : view o (d + 1) (.ptr k g off) = viewP o d off (rowIf (o k) g) := by
  unfold viewP; simp only [view]; rw [aRow_eq]; cases rowIf (o k) g <;> rfl
@[go_sem] theorem vDepth_eq : vDepth = 1012 := rfl
@[go_sem] theorem view_cI (o d l) : (cI l).map (view o d) = cI l := by simp [cI, Function.comp_def, view_int]
@[go_sem] theorem view_cB (o d l) : (cB l).map (view o d) = cB l := by simp [cB, Function.comp_def, view_bool]
attribute [go_sem] List.map_cons List.map_nil List.map_append List.length_append List.all_append List.flatMap_append flat flat.flats

/-! ### calls -/
def retF (r : Option AV) (sc : Bool) (as_ : List AV) (o : Ob) (nx : Nat) : Option (AV × AH) := r.bind fun v => freezeP sc as_ v ⟨o, nx⟩
def callM (m : Mode) (E : Env) (cp : CallP) (cr : CallR) (g : FuncId) (as_ : List AV) (o : Ob) (nx : Nat) : Option (AV × AH) := match m with
  | .pure sc => (cp g (as_.map (view o vDepth))).bind fun r => freezeP sc as_ r ⟨o, nx⟩
  | .ext sc => (E.ext g (as_.map (view o vDepth))).bind fun r => freezeP sc as_ r ⟨o, nx⟩
  | .raw fz => (cr g as_ ⟨o, nx⟩).map fun p => freezeR fz p.1 p.2
@[go_sem] theorem aCall_eq (E cp cr g fs cs as_ o nx) : aCall E cp cr (.fn (.func g) fs cs) as_ ⟨o, nx⟩ = callM (E.mode g) E cp cr g (fs ++ as_ ++ cs) o nx := by
  unfold aCall callM; rfl
@[go_sem] theorem callM_ext (E cp cr g sc as_ o nx) : callM (.ext sc) E cp cr g as_ o nx = (E.ext g (as_.map (view o vDepth))).bind fun r => freezeP sc as_ r ⟨o, nx⟩ := rfl
@[go_sem] theorem callM_raw (E cp cr g fz as_ o nx) : callM (.raw fz) E cp cr g as_ o nx = (cr g as_ ⟨o, nx⟩).map fun p => freezeR fz p.1 p.2 := rfl
@[go_sem] theorem freezeP_true (as_ r H) : freezeP true as_ r H = if flat r then some (r, H) else none := rfl
@[go_sem] theorem freezeP_false (as_ r o nx) : freezeP false as_ r ⟨o, nx⟩ = some (r, ⟨sealed (as_.flatMap (viewTags o vDepth)) o, nx⟩) := rfl
theorem sealed_out {ts : List Tag} {o : Ob} {t : Tag} (h : t ∉ ts) : sealed ts o t = o t := by
  unfold sealed
  cases o t with
  | none => rfl
  | some x =>
    cases x with
    | row r => simp [h]
    | map es => rfl
@[go_sem] theorem sealed_nil (o) : sealed [] o = o := by funext t; exact sealed_out (by simp)
@[go_sem] theorem tags_int (o d k n) : viewTags o d (.int k n) = [] := by cases d <;> rfl
@[go_sem] theorem tags_bool (o d b) : viewTags o d (.bool b) = [] := by cases d <;> rfl
@[go_sem] theorem tags_str (o d b) : viewTags o d (.str b) = [] := by cases d <;> rfl
@[go_sem] theorem tags_nil (o d) : viewTags o d .nil = [] := by cases d <;> rfl
@[go_sem] theorem tags_sl (o d n cs) : viewTags o d (.sl n cs) = [] := by cases d <;> rfl
@[go_sem] theorem tags_fptr (o d cs) : viewTags o d (.fptr cs) = [] := by cases d <;> rfl
@[go_sem] theorem tags_mp (o d k) : viewTags o d (.mp k) = [] := by cases d <;> rfl
@[go_sem] theorem tags_agg (o d cs) : viewTags o (d + 1) (.agg cs) = cs.flatMap (viewTags o d) := rfl
@[go_sem] theorem tags_cI (o d l) : (cI l).flatMap (viewTags o d) = [] := by simp [cI, List.flatMap_eq_nil_iff, tags_int]
@[go_sem] theorem tags_cB (o d l) : (cB l).flatMap (viewTags o d) = [] := by
  induction l with
  | nil => rfl
  | cons b l ih => simpa [cB, tags_bool] using ih
def tagsR (o : Ob) (d : Nat) (k : Tag) (off n : Nat) (r : Option Row) : List Tag := match r with
  | some r => k :: (((r.cs.drop off).take (n * r.sz)).flatMap (viewTags o d))
  | none => [k]
@[go_sem] theorem tagsR_some (o d k off n r) : tagsR o d k off n (some r) = k :: (((r.cs.drop off).take (n * r.sz)).flatMap (viewTags o d)) := rfl
@[go_sem] theorem tags_ref (o d k g off n) : viewTags o (d + 1) (.ref k g off n) = tagsR o d k off n (rowIf (o k) g) := by
  unfold tagsR; simp only [viewTags]; rw [aRow_eq]; cases rowIf (o k) g <;> rfl
def tagsP (o : Ob) (d : Nat) (k : Tag) (off : Nat) (r : Option Row) : List Tag := match r with
  | some r => k :: ((r.cs.drop off).flatMap (viewTags o d))
  | none => [k]
@[go_sem] theorem tagsP_some (o d k off r) : tagsP o d k off (some r) = k :: ((r.cs.drop off).flatMap (viewTags o d)) := rfl
@[go_sem] theorem tags_ptr (o d k g off) : viewTags o (d + 1) (.ptr k g off) = tagsP o d k off (rowIf (o k) g) := by
  unfold tagsP; simp only [viewTags]; rw [aRow_eq]; cases rowIf (o k) g <;> rfl
attribute [go_sem] List.flatMap_cons List.flatMap_nil

def sealIf (b : Bool) (x : Option AObj) : Option AObj := match b with | true => x | false => match x with | some (.row r) => some (.row { r with ro := true }) | x => x
@[go_sem] theorem sealIf_true (x) : sealIf true x = x := rfl
@[go_sem] theorem sealIf_row (e s g ro pl cs) : sealIf false (some (.row ⟨e, s, g, ro, pl, cs⟩)) = some (.row ⟨e, s, g, true, pl, cs⟩) := rfl
/-- A tag that is none of these. -/
def nin (t : Tag) (l : List Tag) : Bool := !l.contains t
@[go_sem] theorem sealed_app (ts o i j) : sealed ts o (i, j) = sealIf (nin (i, j) ts) (o (i, j)) := by
  unfold sealed sealIf nin
  cases o (i, j) with
  | none => cases ts.contains (i, j) <;> rfl
  | some x =>
    cases x with
    | row r => cases h : ts.contains (i, j) <;> simp [h]
    | map es => cases ts.contains (i, j) <;> rfl

/-! ### footprints -/
@[go_sem] theorem needOf_nil (i) : needOf [] i = false := rfl
@[go_sem] theorem needOf_cons (a b l i) : needOf ((a, b) :: l) i = (decide (a = i) || decide (b = i) || needOf l i) := by
  have h : ∀ x y, Nat.beq x y = decide (x = y) := fun x y => by rw [Bool.eq_iff_iff]; simp [Nat.beq_eq_true_eq]
  simp only [needOf, h]
@[go_sem] theorem cond_true' {α : Type} (x y : α) : (bif true then x else y) = x := rfl
@[go_sem] theorem cond_false' {α : Type} (x y : α) : (bif false then x else y) = y := rfl
section
variable (E : Env) (st : Nat) (ops : Array Oper) (d : Option Tmp) (ty : TypeId) (p : String) (af : Array Edge) (a : AAct) (H : AH)
def ownT (st : Nat) (d : Option Tmp) : List Tag := match d with | some d => [(st, d)] | none => []
@[go_sem] theorem ownT_some (st d) : ownT st (some d) = [(st, d)] := rfl
@[go_sem] theorem ownT_none (st) : ownT st none = [] := rfl
@[go_sem] theorem ft_load (t x) : foot E st ops ⟨d, .load t x, ty, p, af, none⟩ a H = ⟨tagO (opd a x), [], false⟩ := rfl
@[go_sem] theorem ft_store (t x y) : foot E st ops ⟨d, .store t x y, ty, p, af, none⟩ a H = ⟨[], tagO (opd a x), false⟩ := rfl
@[go_sem] theorem ft_alloc (t) : foot E st ops ⟨d, .alloc t, ty, p, af, none⟩ a H = ⟨[], ownT st d, false⟩ := rfl
@[go_sem] theorem ft_box (t x) : foot E st ops ⟨d, .box t x, ty, p, af, none⟩ a H = ⟨[], ownT st d, false⟩ := rfl
@[go_sem] theorem ft_buildSlice (t n ps) : foot E st ops ⟨d, .buildSlice t n ps, ty, p, af, none⟩ a H = ⟨[], ownT st d, false⟩ := rfl
@[go_sem] theorem ft_makeSlice (t x y) : foot E st ops ⟨d, .makeSlice t x y, ty, p, af, none⟩ a H = ⟨[], ownT st d, false⟩ := rfl
@[go_sem] theorem ft_convert (s t x) : foot E st ops ⟨d, .convert s t x, ty, p, af, none⟩ a H = ⟨tagO (opd a x), ownT st d, false⟩ := rfl
@[go_sem] theorem ft_append (x y ts) : foot E st ops ⟨d, .call ⟨.builtin .append, #[x, y], ts⟩, ty, p, af, none⟩ a H = ⟨tagO (opd a y), ownT st d ++ tagO (opd a x), false⟩ := rfl
@[go_sem] theorem ft_copy (x y ts) : foot E st ops ⟨d, .call ⟨.builtin .copy, #[x, y], ts⟩, ty, p, af, none⟩ a H = ⟨tagO (opd a y), tagO (opd a x), false⟩ := rfl
@[go_sem] theorem ft_len (x ts) : foot E st ops ⟨d, .call ⟨.builtin .len, #[x], ts⟩, ty, p, af, none⟩ a H = ⟨tagO (opd a x) ++ [], [], false⟩ := rfl
def ftF (E : Env) (fv : Option AV) (vs : List AV) (o : Ob) (nx : Nat) : FP := match fv with
  | some (.fn (.func g) first captured) =>
    let ts := (first ++ vs ++ captured).flatMap (viewTags o vDepth)
    match E.mode g with
    | .pure true => ⟨ts, [], false⟩
    | .ext true => ⟨ts, [], false⟩
    | .pure false => ⟨ts, ts, false⟩
    | .ext false => ⟨ts, ts, false⟩
    | .raw z => ⟨[], rawW z g nx, true⟩
  | _ => ⟨[], [], true⟩
@[go_sem] theorem ft_call (f xs ts) : foot E st ops ⟨d, .call ⟨.value f, xs, ts⟩, ty, p, af, none⟩ a H = ftF E (opd a f) (xs.toList.filterMap (opd a)) H.o H.nx := rfl
def ftM (m : Mode) (ts : List Tag) (g : FuncId) (nx : Nat) : FP := match m with
  | .pure true => ⟨ts, [], false⟩
  | .ext true => ⟨ts, [], false⟩
  | .pure false => ⟨ts, ts, false⟩
  | .ext false => ⟨ts, ts, false⟩
  | .raw z => ⟨[], rawW z g nx, true⟩
@[go_sem] theorem ftF_fn (E : Env) (g f c vs o nx) : ftF E (some (.fn (.func g) f c)) vs o nx = ftM (E.mode g) ((f ++ vs ++ c).flatMap (viewTags o vDepth)) g nx := rfl
@[go_sem] theorem ftM_true (ts g nx) : ftM (.ext true) ts g nx = ⟨ts, [], false⟩ := rfl
@[go_sem] theorem ftM_false (ts g nx) : ftM (.ext false) ts g nx = ⟨ts, ts, false⟩ := rfl
@[go_sem] theorem ftM_raw (z ts g nx) : ftM (.raw z) ts g nx = ⟨[], rawW z g nx, true⟩ := rfl
@[go_sem] theorem rawW_false (g n) : rawW false g n = if keeps g = true then [(n, 0)] else [] := by
  unfold rawW; simp
attribute [go_sem] keeps
@[go_sem] theorem rawW_true (g n) : rawW true g n = [] := rfl
@[go_sem] theorem below_mk {i n : Nat} (j m) (h : i < n) : below (i, j) (n, m) = true := by unfold below; exact decide_eq_true h
end
@[go_sem] theorem tagO_some (v) : tagO (some v) = tagOf v := rfl
attribute [go_sem] tagOf FP.none_ List.filterMap_cons List.filterMap_nil
@[go_sem] theorem nin_nil (t) : nin t [] = true := rfl
@[go_sem] theorem nin_cons (i j k m l) : nin (i, j) ((k, m) :: l) = if j = m then (if i = k then false else nin (i, j) l) else nin (i, j) l := by
  unfold nin
  by_cases h1 : j = m <;> by_cases h2 : i = k <;> simp [h1, h2]
@[go_sem] theorem disj_mk (r w r' w') : disj ⟨r, w, false⟩ ⟨r', w', false⟩ = (w.all (fun t => nin t r' && nin t w') && w'.all (fun t => nin t r)) := rfl
@[go_sem] theorem disj_all1 (r w r' w') : disj ⟨r, w, true⟩ ⟨r', w', false⟩ = (w'.isEmpty && r'.all fun t => w.any (below t)) := rfl
@[go_sem] theorem disj_all2 (r w r' w') : disj ⟨r, w, false⟩ ⟨r', w', true⟩ = (w.isEmpty && r.all fun t => w'.any (below t)) := rfl
def disjO (x y : Option FP) : Bool := match x, y with | some x, some y => disj x y | _, _ => false
@[go_sem] theorem disjO_some (x y) : disjO (some x) (some y) = disj x y := rfl
@[go_sem] theorem races_nil (fs) : racesOk fs [] = true := rfl
@[go_sem] theorem races_cons (fs i j l) : racesOk fs ((i, j) :: l) = (disjO fs[i]? fs[j]? && racesOk fs l) := rfl
attribute [go_sem] List.isEmpty_nil List.isEmpty_cons List.any_cons List.any_nil List.all_cons List.all_nil Bool.or_true Bool.or_false Bool.true_or Bool.and_true Bool.true_and
/-! ### maps -/
def mapIf (x : Option AObj) : Option (List (AV × AV)) := match x with | some (.map es) => some es | _ => none
@[go_sem] theorem mapIf_some (es) : mapIf (some (.map es)) = some es := rfl
def lkV (ok : Bool) (z : AV) (r : Option AV) : AV := match ok, r with
  | true, some v => .tup [v, .bool true]
  | true, none => .tup [z, .bool false]
  | false, some v => v
  | false, none => z
@[go_sem] theorem lkV_tt (z v) : lkV true z (some v) = .tup [v, .bool true] := rfl
@[go_sem] theorem lkV_tf (z) : lkV true z none = .tup [z, .bool false] := rfl
@[go_sem] theorem lkV_ft (z v) : lkV false z (some v) = v := rfl
@[go_sem] theorem lkV_ff (z) : lkV false z none = z := rfl
theorem lk_eq {P : Program} {t kt et : TypeId} {z k : AV} (h : P.underlying t = some (.map kt et)) (hz : zeroOne P et = some z) (hk : keyOk P kt k = true) (m ok o nx) : aLookup P t (.mp m) k ok ⟨o, nx⟩ = (mapIf (o m)).bind fun es => (findA k es).map (lkV ok z) := by
  unfold aLookup mapIf
  simp only [h, hz, hk, if_true, mapAt]
  cases o m with
  | none => rfl
  | some x =>
    cases x with
    | row r => rfl
    | map es =>
      dsimp only [Option.bind_some]
      cases findA k es with
      | none => rfl
      | some r => cases r <;> cases ok <;> rfl
def updM (tg : Tag) (k v : AV) (o : Ob) (nx : Nat) (es : List (AV × AV)) : Option AH := (findA k es).map fun _ => ⟨upd o tg (.map (putA k v es)), nx⟩
theorem mu_eq {P : Program} {t kt et : TypeId} {k : AV} (h : P.underlying t = some (.map kt et)) (hk : keyOk P kt k = true) (m v o nx) : aMapUpdate P t (.mp m) k v ⟨o, nx⟩ = (mapIf (o m)).bind (updM m k v o nx) := by
  unfold aMapUpdate mapIf updM
  simp only [h, hk, if_true]
  cases o m with
  | none => rfl
  | some x =>
    cases x with
    | row r => rfl
    | map es =>
      dsimp only [Option.bind_some]
      cases findA k es <;> rfl
theorem updM_eq {k : AV} {es : List (AV × AV)} {r : Option AV} (h : findA k es = some r) (tg v o nx) : updM tg k v o nx es = some ⟨upd o tg (.map (putA k v es)), nx⟩ := by unfold updM; rw [h]; rfl
theorem lm_eq {P : Program} {t kt et : TypeId} (h : P.underlying t = some (.map kt et)) (o k) : aLen P o t (.mp k) = (mapIf (o k)).map fun es => .int .i64 es.length := by
  unfold aLen mapIf
  simp only [h, mapAt]
  cases o k with
  | none => rfl
  | some x => cases x <;> rfl
@[go_sem] theorem sealIf_map (b es) : sealIf b (some (.map es)) = some (.map es) := by cases b <;> rfl
section
variable {E : Env} {cr : CallR} (st : Nat) (ops : Array Oper) (ty : TypeId) (p : String) (af : Array Edge) (l : List Oper) (a : AAct) (o : Ob) (nx : Nat) (Q : WPost) (H : AH)
@[go_sem] theorem W_makeMap (d t) : WS E cr st ops (⟨some d, .makeMap t none, ty, p, af, none⟩ :: l) a o nx Q = WS E cr st ops l (put a d (.mp (st, d))) (upd o (st, d) (.map [])) nx Q := by
  rw [WS_op]; rfl
@[go_sem] theorem W_lookup (d t m k ok) : WS E cr st ops (⟨some d, .lookup t m k ok, ty, p, af, none⟩ :: l) a o nx Q = wO ((opd a m).bind fun mv => (opd a k).bind fun kv => aLookup E.P t mv kv ok ⟨o, nx⟩) (kV E cr st ops l a d o nx Q) := by
  rw [WS_op]; unfold wO; simp only [evalOp]
  cases opd a m with
  | none => rfl
  | some v =>
    simp only [Option.bind_some]
    cases opd a k with
    | none => rfl
    | some u => simp only [Option.bind_some]; cases aLookup E.P t v u ok ⟨o, nx⟩ <;> rfl
@[go_sem] theorem W_mapUpdate (t m k x) : WS E cr st ops (⟨none, .mapUpdate t m k x, ty, p, af, none⟩ :: l) a o nx Q = wO ((opd a m).bind fun mv => (opd a k).bind fun kv => (opd a x).bind fun vv => aMapUpdate E.P t mv kv vv ⟨o, nx⟩) (kS E cr st ops l a Q) := by
  rw [WS_op]; unfold wO; simp only [evalOp]
  cases opd a m with
  | none => rfl
  | some v =>
    simp only [Option.bind_some]
    cases opd a k with
    | none => rfl
    | some u =>
      simp only [Option.bind_some]
      cases opd a x with
      | none => rfl
      | some y => simp only [Option.bind_some]; cases aMapUpdate E.P t v u y ⟨o, nx⟩ <;> rfl
@[go_sem] theorem ft_makeMap (d t) : foot E st ops ⟨d, .makeMap t none, ty, p, af, none⟩ a H = ⟨[], ownT st d, false⟩ := rfl
@[go_sem] theorem ft_lookup (d t m k ok) : foot E st ops ⟨d, .lookup t m k ok, ty, p, af, none⟩ a H = ⟨tagO (opd a m), [], false⟩ := rfl
@[go_sem] theorem ft_mapUpdate (d t m k x) : foot E st ops ⟨d, .mapUpdate t m k x, ty, p, af, none⟩ a H = ⟨[], tagO (opd a m), false⟩ := rfl
end
end Go.Proofs.YtpmjpogcaglphaaDoor.A
/- A, part 30: slices that a call makes, rows of them; pairs and steps in cells; a contract out of a walk. -/
namespace Go.Proofs.YtpmjpogcaglphaaDoor.A
open Go

/-! ### cells of pairs, of steps -/
def cP (l : List (Int × Int)) : List AV := l.flatMap fun p => [.int .i64 p.1, .int .i64 p.2]
def cS (l : List (Int × Int × Int)) : List AV := l.flatMap fun p => [.int .i64 p.1, .int .i64 p.2.1, .int .i64 p.2.2]
@[go_sem] theorem cP_nil : cP [] = [] := rfl
@[go_sem] theorem cS_nil : cS [] = [] := rfl
theorem cP_app (x y) : cP (x ++ y) = cP x ++ cP y := by simp [cP]
theorem cS_app (x y) : cS (x ++ y) = cS x ++ cS y := by simp [cS]
theorem cP_snoc (l : List (Int × Int)) (f t : Int) : cP l ++ [.int .i64 f, .int .i64 t] = cP (l ++ [(f, t)]) := by simp [cP]
theorem cS_snoc (l : List (Int × Int × Int)) (f t s : Int) : cS l ++ [.int .i64 f, .int .i64 t, .int .i64 s] = cS (l ++ [(f, t, s)]) := by simp [cS]
@[go_sem] theorem cP_length (l) : (cP l).length = l.length * 2 := by
  induction l with
  | nil => rfl
  | cons p l ih => simp only [cP, List.flatMap_cons, List.length_append, List.length_cons, List.length_nil] at ih ⊢; omega
@[go_sem] theorem cS_length (l) : (cS l).length = l.length * 3 := by
  induction l with
  | nil => rfl
  | cons p l ih => simp only [cS, List.flatMap_cons, List.length_append, List.length_cons, List.length_nil] at ih ⊢; omega
@[go_sem] theorem cP_ok (l) : (cP l).all cellOk = true := by
  induction l with
  | nil => rfl
  | cons p l ih => simpa [cP, cellOk] using ih
@[go_sem] theorem cS_ok (l) : (cS l).all cellOk = true := by
  induction l with
  | nil => rfl
  | cons p l ih => simpa [cS, cellOk] using ih
@[go_sem] theorem view_cP (o d l) : (cP l).map (view o d) = cP l := by
  induction l with
  | nil => rfl
  | cons p l ih => simpa [cP, view_int] using ih
@[go_sem] theorem view_cS (o d l) : (cS l).map (view o d) = cS l := by
  induction l with
  | nil => rfl
  | cons p l ih => simpa [cS, view_int] using ih
@[go_sem] theorem tags_cP (o d l) : (cP l).flatMap (viewTags o d) = [] := by
  induction l with
  | nil => rfl
  | cons p l ih => simpa [cP, tags_int] using ih
@[go_sem] theorem tags_cS (o d l) : (cS l).flatMap (viewTags o d) = [] := by
  induction l with
  | nil => rfl
  | cons p l ih => simpa [cS, tags_int] using ih
theorem cP_at {l : List (Int × Int)} {i : Nat} (h : i < l.length) : (cP l).drop (i * 2) = .int .i64 (l.getD i (0, 0)).1 :: .int .i64 (l.getD i (0, 0)).2 :: cP (l.drop (i + 1)) := by
  induction l generalizing i with
  | nil => simp at h
  | cons p l ih =>
    cases i with
    | zero => rfl
    | succ i =>
      have : (i + 1) * 2 = i * 2 + 2 := by omega
      rw [this]
      have := ih (i := i) (by simpa using h)
      simpa [cP] using this
theorem cS_at {l : List (Int × Int × Int)} {i : Nat} (h : i < l.length) : (cS l).drop (i * 3) = .int .i64 (l.getD i (0, 0, 0)).1 :: .int .i64 (l.getD i (0, 0, 0)).2.1 :: .int .i64 (l.getD i (0, 0, 0)).2.2 :: cS (l.drop (i + 1)) := by
  induction l generalizing i with
  | nil => simp at h
  | cons p l ih =>
    cases i with
    | zero => rfl
    | succ i =>
      have : (i + 1) * 3 = i * 3 + 3 := by omega
      rw [this]
      have := ih (i := i) (by simpa using h)
      simpa [cS] using this
theorem cs_get {cs : List AV} {i s : Nat} (h : i < cs.length) : take1 false s (cs.drop i) = some (cs.getD i .nil) := by
  rw [take1_drop h]; simp [List.getD, h]
theorem splice_all {xs ys : List AV} (h : xs.length = ys.length) : splice xs 0 ys = ys := by rw [splice_zero, List.drop_eq_nil_of_le (by omega), List.append_nil]
theorem take_len {α : Type} {l : List α} {n : Nat} (h : l.length = n) : l.take n = l := by rw [← h]; exact List.take_length
theorem take_succ_getD {α : Type} {l : List α} {i : Nat} (h : i < l.length) (d : α) : l.take (i + 1) = l.take i ++ [l.getD i d] := by
  rw [List.take_add_one]; simp [List.getD, h]

@[go_sem] theorem cI_all (l) : (cI l).take l.length = cI l := take_len (by simp [cI])
@[go_sem] theorem cB_all (l) : (cB l).take l.length = cB l := take_len (by simp [cB])
@[go_sem] theorem cP_all (l) : (cP l).take (l.length * 2) = cP l := take_len (by simp [cP_length])
@[go_sem] theorem cS_all (l) : (cS l).take (l.length * 3) = cS l := take_len (by simp [cS_length])

/-! ### a slice that the call makes, which may be nil -/
/-- v holds cs, in a row of slot D. -/
def HS (e sz D : Nat) (o : Ob) (nx : Nat) (v : AV) (n : Nat) (cs : List AV) : Prop :=
  (v = .nil ∧ n = 0 ∧ cs = []) ∨ ∃ i g, v = .ref (i, D) g 0 n ∧ i < nx ∧ o (i, D) = some (.row ⟨e, sz, g, false, true, cs⟩) ∧ cs.length = n * sz
theorem HS.nil {e sz D o nx} : HS e sz D o nx .nil 0 [] := .inl ⟨rfl, rfl, rfl⟩
theorem HS.keep {e sz D o nx v n cs} (h : HS e sz D o nx v n cs) {o' : Ob} {nx' : Nat} (ho : ∀ i, i < nx → o' (i, D) = o (i, D)) (hn : nx ≤ nx') : HS e sz D o' nx' v n cs := by
  rcases h with h | ⟨i, g, h1, h2, h3, h4⟩
  · exact .inl h
  · exact .inr ⟨i, g, h1, by omega, by rw [ho i h2, h3], h4⟩
theorem HS.ok {e sz D o nx v n cs} (h : HS e sz D o nx v n cs) : cellOk v = true := by
  rcases h with ⟨rfl, _⟩ | ⟨i, g, rfl, _⟩ <;> rfl
theorem HS.cells {e sz D o nx v n cs} (h : HS e sz D o nx v n cs) : v.cells = [v] := by
  rcases h with ⟨rfl, _⟩ | ⟨i, g, rfl, _⟩ <;> rfl
theorem HS.len {e sz D o nx v n cs} (h : HS e sz D o nx v n cs) : cs.length = n * sz := by
  rcases h with ⟨_, rfl, rfl⟩ | ⟨i, g, _, _, _, h⟩
  · simp
  · exact h
/-- What it is handed on as. -/
theorem HS.view {e sz D o nx v n cs} (h : HS e sz D o nx v n cs) (d : Nat) : view o (d + 1) v = .sl n (cs.map (view o d)) := by
  rcases h with ⟨rfl, rfl, rfl⟩ | ⟨i, g, rfl, _, h3, h4⟩
  · rfl
  · rw [view_ref, h3, rowIf_some, viewR_some]
    simp only [Nat.zero_add, List.drop_zero]
    rw [if_pos (by omega), take_len h4]

theorem nin_slot {D : Nat} {l : List Tag} (h : ∀ t ∈ l, t.2 = D) {i j : Nat} (hj : j ≠ D) : nin (i, j) l = true := by
  unfold nin
  have : (i, j) ∉ l := fun hm => hj (h _ hm)
  simp [this]
theorem HS.tags {e sz D o nx v n cs} (h : HS e sz D o nx v n cs) (d : Nat) (hf : cs.flatMap (viewTags o d) = []) : ∀ t ∈ viewTags o (d + 1) v, t.2 = D := by
  rcases h with ⟨rfl, rfl, rfl⟩ | ⟨i, g, rfl, _, h3, h4⟩
  · intro t ht; cases ht
  · rw [tags_ref, h3, rowIf_some, tagsR_some, List.drop_zero, take_len h4, hf]
    intro t ht
    rw [List.mem_singleton.1 ht]
theorem HS.nin {e sz D o nx v n cs} (h : HS e sz D o nx v n cs) (d : Nat) (hf : cs.flatMap (viewTags o d) = []) {i j : Nat} (hj : j ≠ D) : A.nin (i, j) (viewTags o (d + 1) v) = true := nin_slot (h.tags d hf) hj

/-! ### rows of whole numbers, each of its own make -/
def NI (D : Nat) (o : Ob) (nx : Nat) (cs : List AV) (rows : List (List Int)) : Prop :=
  cs.length = rows.length ∧ (∀ j, j < rows.length → HS 3 1 D o nx (cs.getD j .nil) (rows.getD j []).length (cI (rows.getD j []))) ∧
    ∀ j j' i g n g' n', j < j' → cs.getD j .nil = .ref (i, D) g 0 n → cs.getD j' .nil ≠ .ref (i, D) g' 0 n'
theorem NI.keep {D o nx cs rows} (h : NI D o nx cs rows) {o' : Ob} {nx' : Nat} (ho : ∀ i, i < nx → o' (i, D) = o (i, D)) (hn : nx ≤ nx') : NI D o' nx' cs rows :=
  ⟨h.1, fun j hj => (h.2.1 j hj).keep ho hn, h.2.2⟩
theorem NI.start (D o nx) (n : Nat) : NI D o nx (List.replicate n .nil) (List.replicate n []) := by
  refine ⟨by simp, fun j hj => ?_, fun j j' i g m g' m' hj h => ?_⟩
  · have hj : j < n := by simpa using hj
    have e1 : (List.replicate n AV.nil).getD j .nil = .nil := by simp [List.getD, List.getElem?_replicate, hj]
    have e2 : (List.replicate n ([] : List Int)).getD j [] = [] := by simp [List.getD, List.getElem?_replicate, hj]
    rw [e1, e2]
    exact .inl ⟨rfl, rfl, rfl⟩
  · by_cases hj : j < n
    · have e1 : (List.replicate n AV.nil).getD j .nil = .nil := by simp [List.getD, List.getElem?_replicate, hj]
      rw [e1] at h; cases h
    · have e1 : (List.replicate n AV.nil).getD j .nil = .nil := by simp [List.getD, List.getElem?_replicate, hj]
      rw [e1] at h; cases h
theorem getD_set {α : Type} (l : List α) (i j : Nat) (x d : α) (hi : i < l.length) : (l.set i x).getD j d = if i = j then x else l.getD j d := by
  simp only [List.getD, List.getElem?_set]
  by_cases h : i = j
  · subst h; simp [hi]
  · simp [h]
/-- One of them is turned. -/
theorem NI.set {D o nx cs rows} (h : NI D o nx cs rows) {j : Nat} (hj : j < rows.length) {o' : Ob} {nx' : Nat} {i : Nat} {g : Tag} {l : List Int} {n : Nat} (hl : n = l.length) (hn : nx ≤ nx') (hi : i < nx')
    (hnew : cs.getD j .nil = .nil ∧ nx ≤ i ∨ ∃ g0 n0, cs.getD j .nil = .ref (i, D) g0 0 n0) (ho : ∀ i', i' < nx → i' ≠ i → o' (i', D) = o (i', D)) (hrow : o' (i, D) = some (.row ⟨3, 1, g, false, true, cI l⟩)) :
    NI D o' nx' (cs.set j (.ref (i, D) g 0 n)) (rows.set j l) := by
  subst hl
  obtain ⟨h1, h2, h3⟩ := h
  have hjc : j < cs.length := by omega
  have apart : ∀ j', j' ≠ j → ∀ g' n', cs.getD j' .nil = .ref (i, D) g' 0 n' → j' < rows.length → False := fun j' hne g' n' he hlt => by
    rcases hnew with ⟨_, hi'⟩ | ⟨g0, n0, he0⟩
    · rcases h2 j' hlt with ⟨e, _⟩ | ⟨i1, g1, e, hi1, _⟩
      · rw [e] at he; cases he
      · rw [e] at he; injection he with he; injection he with he; omega
    · rcases Nat.lt_or_gt_of_ne hne with hlt' | hlt'
      · exact h3 j' j i g' n' g0 n0 hlt' he he0
      · exact h3 j j' i g0 n0 g' n' hlt' he0 he
  have out : ∀ j', ¬ j' < rows.length → cs.getD j' .nil = .nil := fun j' hj' => by
    simp [List.getD, List.getElem?_eq_none (show cs.length ≤ j' by omega)]
  refine ⟨by simpa using h1, fun j' hj' => ?_, fun j1 j2 i1 g1 n1 g2 n2 hlt e1 e2 => ?_⟩
  · have hj'' : j' < rows.length := by simpa using hj'
    rw [getD_set _ _ _ _ _ hjc, getD_set _ _ _ _ _ hj]
    by_cases e : j = j'
    · rw [if_pos e, if_pos e]
      exact .inr ⟨i, g, rfl, hi, hrow, by simp [cI]⟩
    · rw [if_neg e, if_neg e]
      rcases h2 j' hj'' with hh | ⟨i1, g1, e1, hi1, e3, e4⟩
      · exact .inl hh
      · refine .inr ⟨i1, g1, e1, by omega, ?_, e4⟩
        rw [ho i1 hi1 (fun hc => by subst hc; exact apart j' (fun hc => e hc.symm) _ _ e1 hj''), e3]
  · rw [getD_set _ _ _ _ _ hjc] at e1 e2
    have bound : ∀ j', (∃ i g n, cs.getD j' .nil = .ref i g 0 n) → j' < rows.length := fun j' ⟨i, g, n, he⟩ => by
      by_cases hb : j' < rows.length
      · exact hb
      · rw [out j' hb] at he; cases he
    by_cases c1 : j = j1
    · rw [if_pos c1] at e1
      rw [if_neg (by omega)] at e2
      injection e1 with e1; injection e1 with e1
      subst e1
      exact apart j2 (by omega) _ _ e2 (bound j2 ⟨_, _, _, e2⟩)
    · rw [if_neg c1] at e1
      by_cases c2 : j = j2
      · rw [if_pos c2] at e2
        injection e2 with e2; injection e2 with e2
        subst e2
        exact apart j1 (by omega) _ _ e1 (bound j1 ⟨_, _, _, e1⟩)
      · rw [if_neg c2] at e2
        exact h3 j1 j2 i1 g1 n1 g2 n2 hlt e1 e2
/-- What they are handed on as. -/
theorem NI.view {D o nx cs rows} (h : NI D o nx cs rows) (d : Nat) : cs.map (A.view o (d + 1)) = rows.map slI := by
  refine List.ext_getElem (by simpa using h.1) fun j h1 h2 => ?_
  have hj : j < rows.length := by simpa using h2
  have hjc : j < cs.length := by simpa using h1
  have := h.2.1 j hj
  have e1 : cs.getD j .nil = cs[j] := by simp [List.getD, hjc]
  have e2 : rows.getD j [] = rows[j] := by simp [List.getD, hj]
  rw [e1, e2] at this
  simp only [List.getElem_map]
  rw [this.view, view_cI]

/-! ### contracts as relations -/
def Fun1 (R : List AV → AV → Prop) : Prop := ∀ args r r', R args r → R args r' → r = r'
open Classical in
noncomputable def tRel (R : List AV → AV → Prop) : List AV → Option AV := fun args => if h : ∃ r, R args r then some h.choose else none
theorem tRel_eq {R : List AV → AV → Prop} (hf : Fun1 R) {args : List AV} {r : AV} (h : R args r) : tRel R args = some r := by
  unfold tRel
  rw [dif_pos ⟨r, h⟩]
  exact congrArg some (hf _ _ _ (Exists.choose_spec (p := R args) ⟨r, h⟩) h)
theorem tRel_ok {P : Program} {f : FuncId} {R : List AV → AV → Prop} (hk : ∀ args r, R args r → Ok P f args r) : ∀ args r, tRel R args = some r → Ok P f args r := fun args r h => by
  unfold tRel at h
  split at h
  · rename_i hh
    injection h with h
    subst h
    exact hk _ _ hh.choose_spec
  · cases h
theorem cI_inj {x y : List Int} (h : cI x = cI y) : x = y := by
  unfold cI at h
  exact List.map_inj_right (fun a b h => by injection h) |>.1 h
theorem cB_inj {x y : List Bool} (h : cB x = cB y) : x = y := by
  unfold cB at h
  exact List.map_inj_right (fun a b h => by injection h) |>.1 h
theorem slI_inj {x y : List Int} (h : slI x = slI y) : x = y := by
  unfold slI at h; injection h with _ h; exact cI_inj h
theorem slIs_inj {x y : List (List Int)} (h : x.map slI = y.map slI) : x = y := List.map_inj_right (fun a b h => slI_inj h) |>.1 h
theorem cP_inj : ∀ {x y : List (Int × Int)}, cP x = cP y → x = y
  | [], [], _ => rfl
  | [], _ :: _, h => by cases h
  | _ :: _, [], h => by cases h
  | (a, b) :: x, (c, d) :: y, h => by
    simp only [cP, List.flatMap_cons, List.cons_append, List.nil_append, List.cons.injEq, AV.int.injEq, true_and] at h
    obtain ⟨rfl, rfl, h⟩ := h
    rw [cP_inj h]
theorem cS_inj : ∀ {x y : List (Int × Int × Int)}, cS x = cS y → x = y
  | [], [], _ => rfl
  | [], _ :: _, h => by cases h
  | _ :: _, [], h => by cases h
  | (a, b, e) :: x, (c, d, f) :: y, h => by
    simp only [cS, List.flatMap_cons, List.cons_append, List.nil_append, List.cons.injEq, AV.int.injEq, true_and] at h
    obtain ⟨rfl, rfl, rfl, h⟩ := h
    rw [cS_inj h]

/-! ### a contract out of a walk -/
theorem runP_of_WP {E : Env} {cr : CallR} {k : Nat} {nz : Nat → Option (List (Nat × Nat))} {fn : Func} {c : Code} {args : List AV} {r : AV} (hb : fn.body = some c)
    (h : WP E cr k nz c (begin_ args) (fun _ => none) 0 (fun u a o nx => (u = .normal ∨ u = .ret) ∧ wO (resultsL E.P a ⟨o, nx⟩ fn.results.toList) (fun vs => A.view o vDepth (tup1 vs) = r))) :
    ∃ v H', runP E cr k nz fn args noHeap = some (v, H') ∧ A.view H'.o vDepth v = r := by
  unfold WP at h
  unfold runP noHeap
  rw [hb]
  dsimp only
  cases he : evalP E (fun _ _ => none) cr k nz none c (begin_ args) { o := fun _ => none, nx := 0 } with
  | none => rw [he] at h; exact h.elim
  | some p =>
    obtain ⟨u, a, H⟩ := p
    rw [he] at h
    obtain ⟨hu, h⟩ := h
    obtain ⟨vs, h1, h2⟩ : ∃ vs, resultsL E.P a H fn.results.toList = some vs ∧ A.view H.o vDepth (tup1 vs) = r := by
      unfold wO at h
      split at h
      · rename_i vs e; exact ⟨vs, e, h⟩
      · exact h.elim
    rcases hu with rfl | rfl
    · dsimp only
      refine ⟨tup1 vs, H, ?_, h2⟩
      show (resultsL E.P a H fn.results.toList).map _ = _
      rw [show resultsL E.P a H fn.results.toList = some vs from h1]; rfl
    · dsimp only
      refine ⟨tup1 vs, H, ?_, h2⟩
      show (resultsL E.P a H fn.results.toList).map _ = _
      rw [show resultsL E.P a H fn.results.toList = some vs from h1]; rfl
theorem ok_of_WP {E : Env} {cr : CallR} (hX : CPSound E.P E.ext) (hR : CRSound E.P cr ∧ Up cr) (hm : E.P.follows .mixedOrders = true) {k : Nat} {nz : Nat → Option (List (Nat × Nat))} {fn : Func} {f : FuncId} {args : List AV} {r : AV} (hf : E.P.funcs[f]? = some fn)
    (hl : lookedAt E nz args.length fn = true) (hb : fn.body = some (fn.body.getD .skip))
    (h : WP E cr k nz (fn.body.getD .skip) (begin_ args) (fun _ => none) 0 (fun u a o nx => (u = .normal ∨ u = .ret) ∧ wO (resultsL E.P a ⟨o, nx⟩ fn.results.toList) (fun vs => A.view o vDepth (tup1 vs) = r))) : Ok E.P f args r := by
  obtain ⟨v, H', h1, h2⟩ := runP_of_WP hb h
  rw [← h2]
  exact ok_run hX hR.1 hR.2 hm hf hl h1
def noR : CallR := fun _ _ _ => none
theorem noR_ok (P : Program) : CRSound P noR ∧ Up noR := ⟨fun g args H v H' h => (by cases h), fun g args H v H' h => (by cases h)⟩
@[go_sem] theorem resultsL_nil (P a H) : resultsL P a H [] = some [] := rfl
@[go_sem] theorem resultsL_cons (P a H r rs) : resultsL P a H (r :: rs) = consO (result1 P a H r) (resultsL P a H rs) := rfl
@[go_sem] theorem result1_tmp (P a H t) : result1 P a H (.tmp t) = some (a t) := rfl
@[go_sem] theorem result1_cell (P a H ad t) : result1 P a H (.cell ad t) = aLoad P t (a ad) H := rfl
@[go_sem] theorem tup1_one (v) : tup1 [v] = v := rfl
@[go_sem] theorem tup1_two (v w) : tup1 [v, w] = .tup [v, w] := rfl
@[go_sem] theorem tup1_three (v w x) : tup1 [v, w, x] = .tup [v, w, x] := rfl
/-- A piece of code, by its place. -/
def pathC : List Nat → Code → Code
  | [], c => c
  | 0 :: p, .seq a _ => pathC p a
  | 1 :: p, .seq _ b => pathC p b
  | 0 :: p, .block _ c => pathC p c
  | 0 :: p, .loop c => pathC p c
  | 0 :: p, .scope c => pathC p c
  | 0 :: p, .cond _ a _ => pathC p a
  | 1 :: p, .cond _ _ b => pathC p b
  | _, c => c
end Go.Proofs.YtpmjpogcaglphaaDoor.A
/- A, part 31: contracts on the caller's memory, as relations. -/
namespace Go.Proofs.YtpmjpogcaglphaaDoor.A
open Go
abbrev RRel := List AV → AH → AV → AH → Prop
open Classical in
noncomputable def cRel (R : RRel) (args : List AV) (H : AH) : Option (AV × AH) := if h : ∃ p : AV × AH, R args H p.1 p.2 then some h.choose else none
theorem cRel_some {R : RRel} {args H v H'} (h : cRel R args H = some (v, H')) : R args H v H' := by
  unfold cRel at h
  split at h
  · rename_i e
    have := e.choose_spec
    injection h with h
    rw [h] at this
    exact this
  · cases h
theorem cRel_call {R : RRel} {args : List AV} {H : AH} {K : AV × AH → Prop} (h1 : ∃ v H', R args H v H') (h2 : ∀ v H', R args H v H' → K (v, H')) : wO (Option.map (fun p => freezeR false p.1 p.2) (cRel R args H)) K := by
  obtain ⟨v, H', h⟩ := h1
  have e : ∃ p : AV × AH, R args H p.1 p.2 := ⟨(v, H'), h⟩
  have e2 : cRel R args H = some e.choose := by unfold cRel; rw [dif_pos e]
  rw [e2]
  exact h2 _ _ e.choose_spec
theorem runPR_of_WP {E : Env} {cr : CallR} {k : Nat} {nz : Nat → Option (List (Nat × Nat))} {fn : Func} {c : Code} {args : List AV} {o : Ob} {nx : Nat} {Post : AV → Ob → Nat → Prop} (hb : fn.body = some c)
    (h : WP E cr k nz c (begin_ args) o nx (fun u a o' nx' => (u = .normal ∨ u = .ret) ∧ wO (resultsL E.P a ⟨o', nx'⟩ fn.results.toList) (fun vs => Post (tup1 vs) o' nx'))) :
    ∃ v H', runP E cr k nz fn args ⟨o, nx⟩ = some (v, H') ∧ Post v H'.o H'.nx := by
  unfold WP at h
  unfold runP
  rw [hb]
  dsimp only
  cases he : evalP E (fun _ _ => none) cr k nz none c (begin_ args) ⟨o, nx⟩ with
  | none => rw [he] at h; exact h.elim
  | some p =>
    obtain ⟨u, a, H⟩ := p
    rw [he] at h
    obtain ⟨hu, h⟩ := h
    obtain ⟨vs, h1, h2⟩ : ∃ vs, resultsL E.P a H fn.results.toList = some vs ∧ Post (tup1 vs) H.o H.nx := by
      unfold wO at h
      split at h
      · rename_i vs e; exact ⟨vs, e, h⟩
      · exact h.elim
    rcases hu with rfl | rfl
    · dsimp only
      refine ⟨tup1 vs, H, ?_, h2⟩
      show (resultsL E.P a H fn.results.toList).map _ = _
      rw [show resultsL E.P a H fn.results.toList = some vs from h1]; rfl
    · dsimp only
      refine ⟨tup1 vs, H, ?_, h2⟩
      show (resultsL E.P a H fn.results.toList).map _ = _
      rw [show resultsL E.P a H fn.results.toList = some vs from h1]; rfl
theorem okR_of_WP {E : Env} {cr : CallR} (hX : CPSound E.P E.ext) (hR : CRSound E.P cr ∧ Up cr) (hm : E.P.follows .mixedOrders = true) {k : Nat} {nz : Nat → Option (List (Nat × Nat))} {fn : Func} {f : FuncId} {args : List AV} {o : Ob} {nx : Nat} {Post : AV → Ob → Nat → Prop} (hf : E.P.funcs[f]? = some fn)
    (hl : lookedAt E nz args.length fn = true) (hb : fn.body = some (fn.body.getD .skip))
    (h : WP E cr k nz (fn.body.getD .skip) (begin_ args) o nx (fun u a o' nx' => (u = .normal ∨ u = .ret) ∧ wO (resultsL E.P a ⟨o', nx'⟩ fn.results.toList) (fun vs => Post (tup1 vs) o' nx'))) : ∃ v H', OkR E.P f args ⟨o, nx⟩ v H' ∧ Post v H'.o H'.nx := by
  obtain ⟨v, H', h1, h2⟩ := runPR_of_WP hb h
  exact ⟨v, H', okR_run hX hR.1 hR.2 hm hf hl h1, h2⟩
end Go.Proofs.YtpmjpogcaglphaaDoor.A
/- A, part 32: loops, round by round. -/
namespace Go.Proofs.YtpmjpogcaglphaaDoor.A
open Go
section
variable (E : Env) (cr : CallR) (k : Nat) (nz : Nat → Option (List (Nat × Nat)))
/-- A loop of n rounds at most. -/
def WPL (n : Nat) (c : Code) (a : AAct) (o : Ob) (nx : Nat) (Q : WPost) : Prop :=
  match iter (evalP E (fun _ _ => none) cr k nz none c) n a ⟨o, nx⟩ with
  | some (u, a', H') => Q u a' H'.o H'.nx
  | none => False
def loopQ (n : Nat) (c : Code) (Q : WPost) : WPost := fun u a o nx => match u with
  | .normal => WPL E cr k nz n c a o nx Q
  | u => Q u a o nx
end
section
variable {E : Env} {cr : CallR} {k : Nat} {nz : Nat → Option (List (Nat × Nat))}
theorem loopQ_normal (n c) (Q : WPost) (a o nx) : loopQ E cr k nz n c Q .normal a o nx = WPL E cr k nz n c a o nx Q := rfl
theorem loopQ_ret (n c) (Q : WPost) (a o nx) : loopQ E cr k nz n c Q .ret a o nx = Q .ret a o nx := rfl
theorem loopQ_exit (n c) (Q : WPost) (i a o nx) : loopQ E cr k nz n c Q (.exit i) a o nx = Q (.exit i) a o nx := rfl
theorem loopQ_goto (n c) (Q : WPost) (i a o nx) : loopQ E cr k nz n c Q (.goto i) a o nx = Q (.goto i) a o nx := rfl
theorem WPL_succ (n : Nat) (c : Code) (a o nx) (Q : WPost) : WPL E cr k nz (n + 1) c a o nx Q = WP E cr k nz c a o nx (loopQ E cr k nz n c Q) := by
  unfold WPL WP
  simp only [iter]
  cases evalP E (fun _ _ => none) cr k nz none c a ⟨o, nx⟩ with
  | none => rfl
  | some p =>
    obtain ⟨u, a', H'⟩ := p
    cases u <;> rfl
theorem WP_loop_eq (c : Code) (a o nx) (Q : WPost) : WP E cr k nz (.loop c) a o nx Q = WPL E cr k nz k c a o nx Q := by
  unfold WPL WP
  simp only [evalP]
  all_goals rfl
end
end Go.Proofs.YtpmjpogcaglphaaDoor.A
