/- A, part 23: arguments that read are data. -/
import Derived.Test.YtcaemgpificohaaA22
import Derived.ProofKit
import Derived.OpenShut
set_option linter.unusedVariables false
set_option linter.unusedSimpArgs false
set_option linter.unnecessarySimpa false
namespace Go.Proofs.Ytcaemgpificohaa.A
open Go

/-- The cells of a value of a type, as data. -/
def Shaped (P : Program) : Nat → TypeId → List AV → Prop
  | 0, _, _ => False
  | d + 1, t, xs =>
    match P.underlying t with
    | some .bool => ∃ b, xs = [.bool b]
    | some (.int k) => ∃ n, xs = [.int k n] ∧ (Lit.int k n).wf = true
    | some .string => ∃ s, xs = [.str s] ∧ s.length ≤ maxLen
    | some (.slice e) => ∃ parts : List (List AV), xs = [.sl parts.length parts.flatten] ∧ parts.length ≤ maxLen ∧ ∀ p ∈ parts, Shaped P d e p
    | some (.struct fs) => ∃ parts : List (List AV), xs = parts.flatten ∧ parts.length = fs.size ∧ ∀ (i : Nat) (f : Field) (p : List AV), fs[i]? = some f → parts[i]? = some p → Shaped P d f.type p
    | some (.array n e) => ∃ parts : List (List AV), xs = parts.flatten ∧ parts.length = n ∧ ∀ p ∈ parts, Shaped P d e p
    | _ => xs = [.und]

def Old (w : World) (b : Nat) : Prop := b < w.heap.size
def CR (w : World) (x : AV) (u : Value) : Prop := PR (Old w) w x u ∧ u.oneCell' = true

theorem LR.take {R : AV → Value → Prop} {xs : List AV} {vs : List Value} (h : LR R xs vs) (n : Nat) : LR R (xs.take n) (vs.take n) := by
  refine ⟨by simp [h.1], fun j x u hx hu => ?_⟩
  have hj : j < n := by
    have := (List.getElem?_eq_some_iff.1 hx).1
    simp at this
    omega
  rw [List.getElem?_take_of_lt hj] at hx hu
  exact h.2 j x u hx hu

theorem mapM_get {α β : Type} {f : α → Option β} : ∀ {l : List α} {ys : List β}, l.mapM f = some ys → ys.length = l.length ∧ ∀ (i : Nat) (x : α), l[i]? = some x → ∃ y, ys[i]? = some y ∧ f x = some y
  | [], ys, h => by
    simp at h
    subst h
    exact ⟨rfl, fun i x hx => by simp at hx⟩
  | a :: l, ys, h => by
    rw [List.mapM_cons] at h
    cases ha : f a with
    | none => rw [ha] at h; cases h
    | some y =>
      cases hl : l.mapM f with
      | none => rw [ha, hl] at h; cases h
      | some zs =>
        rw [ha, hl] at h
        have : ys = y :: zs := by
          have h' : some (y :: zs) = some ys := h
          injection h' with h'
          exact h'.symm
        subst this
        obtain ⟨h1, h2⟩ := mapM_get hl
        refine ⟨by simp [h1], fun i x hx => ?_⟩
        cases i with
        | zero => simp at hx; subst hx; exact ⟨y, rfl, ha⟩
        | succ i => simp at hx; simpa using h2 i x hx

/-- Choosing one by one. -/
theorem choose_list {α β : Type} {Q : Nat → α → β → Prop} : ∀ (l : List α) (k : Nat), (∀ (i : Nat) (x : α), l[i]? = some x → ∃ y, Q (k + i) x y) → ∃ ys : List β, ys.length = l.length ∧ ∀ (i : Nat) (x : α) (y : β), l[i]? = some x → ys[i]? = some y → Q (k + i) x y
  | [], k, _ => ⟨[], rfl, fun i x y hx => by simp at hx⟩
  | a :: l, k, h => by
    obtain ⟨y, hy⟩ := h 0 a rfl
    obtain ⟨ys, h1, h2⟩ := choose_list l (k + 1) (fun i x hx => by
      have := h (i + 1) x (by simpa using hx)
      rwa [show k + (i + 1) = k + 1 + i by omega] at this)
    refine ⟨y :: ys, by simp [h1], fun i x z hx hz => ?_⟩
    cases i with
    | zero => simp at hx hz; subst hx; subst hz; exact hy
    | succ i =>
      simp at hx hz
      have := h2 i x z hx hz
      rwa [show k + 1 + i = k + (i + 1) by omega] at this

/-- Parts of one size, laid end to end. -/
theorem flat_parts {R : AV → Value → Prop} {sz : Nat} : ∀ {parts : List (List AV)} {vs : List (List Value)}, parts.length = vs.length → (∀ (i : Nat) p v, parts[i]? = some p → vs[i]? = some v → LR R p v ∧ v.length = sz) → LR R parts.flatten vs.flatten ∧ vs.flatten.length = parts.length * sz
  | [], [], _, _ => ⟨LR.nil, by simp⟩
  | p :: parts, v :: vs, hl, h => by
    obtain ⟨h1, h2⟩ := flat_parts (parts := parts) (vs := vs) (by simpa using hl) (fun i p v hp hv => h (i + 1) p v (by simpa using hp) (by simpa using hv))
    obtain ⟨h3, h4⟩ := h 0 p v rfl rfl
    refine ⟨h3.append h1, ?_⟩
    simp only [List.flatten_cons, List.length_append, h4, h2, List.length_cons, Nat.add_mul]
    omega
  | [], _ :: _, hl, _ => by simp at hl
  | _ :: _, [], hl, _ => by simp at hl

/-- A row of cells, cut into parts whose sizes add up. -/
theorem cut_parts {R : AV → Value → Prop} : ∀ {parts : List (List AV)} {sizes : List Nat} {cs : List Value}, parts.length = sizes.length → cs.length = sizes.sum → (∀ (i : Nat) p n, parts[i]? = some p → sizes[i]? = some n → LR R p ((cs.drop (sizes.take i).sum).take n)) → LR R parts.flatten cs
  | [], [], cs, _, hs, _ => by
    have : cs = [] := List.eq_nil_of_length_eq_zero (by simpa using hs)
    subst this
    exact LR.nil
  | p :: parts, n :: sizes, cs, hl, hs, h => by
    have h0 := h 0 p n rfl rfl
    simp at h0 hs
    have := cut_parts (R := R) (parts := parts) (sizes := sizes) (cs := cs.drop n) (by simpa using hl) (by simp; omega) (fun i p' n' hp hn => by
      have := h (i + 1) p' n' (by simpa using hp) (by simpa using hn)
      simpa [List.drop_drop] using this)
    have e : cs = cs.take n ++ cs.drop n := (List.take_append_drop n cs).symm
    rw [e]
    exact h0.append this
  | [], _ :: _, _, hl, _, _ => by simp at hl
  | _ :: _, [], _, hl, _, _ => by simp at hl

section
variable {H : Type} {enc : TypeId × Value → H} {P : Program} {w : World} {base : Nat} {sp : Nat → Bool} {held : Bool}

theorem cells_get {a : Addr} {n : Nat} {cs : List Value} (h : w.cells? base a n = some cs) : cs.length = n ∧ ∀ i v, cs[i]? = some v → w.cell? (a.add i) = some v := by
  unfold World.cells? at h
  split at h
  · obtain ⟨h1, h2⟩ := mapM_get h
    rw [List.length_range] at h1
    refine ⟨h1, fun i v hv => ?_⟩
    have hi : i < n := by have := (List.getElem?_eq_some_iff.1 hv).1; omega
    obtain ⟨y, hy, hf⟩ := h2 i i (by simp [hi])
    rw [hv] at hy
    injection hy with hy
    rw [hf, ← hy]
  · cases h
theorem cell_old {a : Addr} {v : Value} (h : w.cell? a = some v) : Old w a.block := by
  unfold World.cell? at h
  split at h
  · rename_i cells e m hb
    exact (Array.getElem?_eq_some_iff.1 hb).1
  · cases h

theorem shape_slice {e : TypeId} {a : Addr} {n cap : Nat} (hn : n ≤ cap) {parts : List (List AV)} (hl : parts.length = n) (h : ∀ (i : Nat) p, parts[i]? = some p → ∃ cs, w.cells? base (a.add (i * P.cellsOf e)) (P.cellsOf e) = some cs ∧ LR (CR w) p cs) :
    CR w (.sl n parts.flatten) (.slice (some a) n cap) := by
  obtain ⟨vs, hv1, hv2⟩ := choose_list (Q := fun i p cs => w.cells? base (a.add (i * P.cellsOf e)) (P.cellsOf e) = some cs ∧ LR (CR w) p cs) parts 0 (fun i p hp => by simpa using h i p hp)
  simp only [Nat.zero_add] at hv2
  have hlr := flat_parts (R := CR w) (sz := P.cellsOf e) hv1.symm (fun i p v hp hv => ⟨(hv2 i p v hp hv).2, (cells_get (hv2 i p v hp hv).1).1⟩)
  have hcell : ∀ (k : Nat) (l : List (List Value)), (∀ i cs, l[i]? = some cs → w.cells? base (a.add ((k + i) * P.cellsOf e)) (P.cellsOf e) = some cs) → ∀ j u, l.flatten[j]? = some u → w.cell? (a.add (k * P.cellsOf e + j)) = some u := fun k l => by
    induction l generalizing k with
    | nil => intro _ j u hu; simp at hu
    | cons cs l ih =>
      intro hc j u hu
      obtain ⟨c1, c2⟩ := cells_get (hc 0 cs rfl)
      rw [List.flatten_cons] at hu
      by_cases hj : j < cs.length
      · rw [List.getElem?_append_left hj] at hu
        have := c2 j u hu
        rw [add_add] at this
        simpa using this
      · rw [List.getElem?_append_right (by omega)] at hu
        have := ih (k + 1) (fun i cs' hi => by
          have := hc (i + 1) cs' (by simpa using hi)
          rwa [show k + (i + 1) = k + 1 + i by omega] at this) _ u hu
        rw [c1] at this
        rw [c1] at hj
        rwa [show (k + 1) * P.cellsOf e + (j - P.cellsOf e) = k * P.cellsOf e + j by rw [Nat.add_mul]; omega] at this
  have hcells := hcell 0 vs (fun i cs hi => by
    have hi' : i < parts.length := by have := (List.getElem?_eq_some_iff.1 hi).1; omega
    simpa using (hv2 i _ cs (List.getElem?_eq_getElem hi') hi).1)
  have hval : ∀ j x, parts.flatten[j]? = some x → ∃ u, vs.flatten[j]? = some u ∧ w.cell? (a.add j) = some u ∧ CR w x u := fun j x hx => by
    have hj : j < vs.flatten.length := by have := (List.getElem?_eq_some_iff.1 hx).1; rw [hlr.1.1]; exact this
    refine ⟨_, List.getElem?_eq_getElem hj, ?_, hlr.1.2 j x _ hx (List.getElem?_eq_getElem hj)⟩
    simpa using hcells j _ (List.getElem?_eq_getElem hj)
  have hget : ∀ j x, parts.flatten[j]? = some x → vs.flatten.getD j undef = (vs.flatten[j]?).getD undef := fun j x _ => by simp [List.getD_eq_getElem?_getD]
  refine ⟨.sl n _ (some a) cap (fun j => vs.flatten.getD j undef) hn (fun _ => ⟨a, rfl⟩) (fun hne => ⟨a, rfl, ?_⟩) (fun a' j x ha hx => ?_) (fun j x hx => ?_) (fun j x hx => ?_), rfl⟩
  · obtain ⟨x, hx⟩ := List.exists_mem_of_ne_nil _ hne
    obtain ⟨j, hj⟩ := List.getElem?_of_mem hx
    obtain ⟨u, _, hu, _⟩ := hval j x hj
    have := cell_old hu
    rwa [add_block] at this
  · injection ha with ha
    subst ha
    obtain ⟨u, h1, h2, _⟩ := hval j x hx
    rw [hget j x hx, h1]
    exact h2
  · obtain ⟨u, h1, _, h2⟩ := hval j x hx
    rw [hget j x hx, h1]
    exact h2.2
  · obtain ⟨u, h1, _, h2⟩ := hval j x hx
    rw [hget j x hx, h1]
    exact h2.1

/-- Types of data alone, closed under their parts. -/
def dataTypes (P : Program) (ks : List TypeId) : Bool :=
  ks.all fun t => decide (t < P.types.size) && match P.underlying t with
    | some .bool => true
    | some (.int _) => true
    | some .string => true
    | some (.slice e) => ks.contains e
    | some (.struct fs) => fs.toList.all fun f => ks.contains f.type
    | some (.array _ e) => ks.contains e
    | _ => false

theorem trod_shape (hl : laidOutB P = true) {ks : List TypeId} (hk : dataTypes P ks = true) : ∀ (d : Nat) (t : TypeId) (cs : List Value) (r : DataW H × List MemPlace), t ∈ ks → DataW.trod enc P w base sp held d t cs = some r → ∃ xs, Shaped P d t xs ∧ LR (CR w) xs cs
  | 0, t, cs, r, _, h => by simp [DataW.trod] at h
  | d + 1, t, cs, r, ht, h => by
    have IH := trod_shape hl hk d
    have one : ∀ {x : AV} {v : Value}, CR w x v → LR (CR w) [x] [v] := fun h => LR.cons h LR.nil
    have hkt := List.all_eq_true.1 hk t ht
    simp only [Bool.and_eq_true, decide_eq_true_eq] at hkt
    obtain ⟨hlt, hkt⟩ := hkt
    unfold Shaped
    split at hkt
    · rename_i hu
      obtain ⟨b, rfl, _⟩ := DataW.trod_bool hu h
      try simp only [hu]
      exact ⟨_, ⟨b, rfl⟩, one ⟨.bool b, rfl⟩⟩
    · rename_i k hu
      obtain ⟨n, rfl, _, hw⟩ := DataW.trod_int hu h
      try simp only [hu]
      exact ⟨_, ⟨n, rfl, hw⟩, one ⟨.int k n, rfl⟩⟩
    · rename_i hu
      obtain ⟨s, rfl, _, hw⟩ := DataW.trod_string hu h
      try simp only [hu]
      refine ⟨_, ⟨s.data.toList, rfl, by simpa using hw⟩, one ⟨?_, rfl⟩⟩
      have := PR.str (S := Old w) (w := w) s.data.toList
      simpa using this
    · rename_i e hu
      try simp only [hu]
      rcases DataW.trod_slice hu h with ⟨rfl, _⟩ | ⟨a, len, cap, elems, rest, n, hn, rfl, _, _, hlc, hcm, hel, hget, _⟩
      · refine ⟨[.sl 0 []], ⟨[], rfl, by simp, fun p hp => by cases hp⟩, one ⟨?_, rfl⟩⟩
        exact .sl 0 [] none 0 (fun _ => undef) (Nat.le_refl _) (fun h => by omega) (fun h => absurd rfl h) (fun a j x _ hx => by simp at hx) (fun j x hx => by simp at hx) (fun j x hx => by simp at hx)
      · obtain rfl : n = d := by omega
        have hpart : ∀ (i : Nat) (y : DataW H × List MemPlace), elems[i]? = some y → ∃ p : List AV, Shaped P n e p ∧ ∃ cs, w.cells? base (a.add (i * P.cellsOf e)) (P.cellsOf e) = some cs ∧ LR (CR w) p cs := fun i y hy => by
          have hi : i < len := by have := (List.getElem?_eq_some_iff.1 hy).1; omega
          have := hget i hi
          rw [hy] at this
          cases hc : w.cells? base (a.add (i * P.cellsOf e)) (P.cellsOf e) with
          | none => rw [hc] at this; cases this
          | some cs =>
            rw [hc] at this
            obtain ⟨xs, h1, h2⟩ := IH e cs y (by simpa using hkt) this
            exact ⟨xs, h1, cs, rfl, h2⟩
        obtain ⟨parts, hp1, hp2⟩ := choose_list (Q := fun i _ p => Shaped P n e p ∧ ∃ cs, w.cells? base (a.add (i * P.cellsOf e)) (P.cellsOf e) = some cs ∧ LR (CR w) p cs) elems 0 (fun i y hy => by simpa using hpart i y hy)
        simp only [Nat.zero_add] at hp2
        have hpl : parts.length = len := by omega
        have hel' : ∀ (i : Nat) p, parts[i]? = some p → ∃ y, elems[i]? = some y := fun i p hp => by
          have hi : i < elems.length := by have := (List.getElem?_eq_some_iff.1 hp).1; omega
          exact ⟨_, List.getElem?_eq_getElem hi⟩
        refine ⟨_, ⟨parts, rfl, by omega, fun p hp => ?_⟩, one ?_⟩
        · obtain ⟨i, hi⟩ := List.getElem?_of_mem hp
          obtain ⟨y, hy⟩ := hel' i p hi
          exact (hp2 i y p hy hi).1
        · have := shape_slice (base := base) hlc hpl (fun i p hp => by
            obtain ⟨y, hy⟩ := hel' i p hp
            exact (hp2 i y p hy hp).2)
          rwa [hpl]
    · rename_i fs hu
      try simp only [hu]
      obtain ⟨xs, n, hn, _, hcl, hxl, hget⟩ := DataW.trod_struct hu h
      obtain rfl : n = d := by omega
      obtain ⟨k1, k2, k3⟩ := kid_struct hl hlt hu
      have hmem : ∀ (i : Nat) (f : Field), fs.toList[i]? = some f → f.type ∈ ks := fun i f hf => by
        have := List.all_eq_true.1 hkt f (List.mem_of_getElem? hf)
        simpa using this
      obtain ⟨parts, hp1, hp2⟩ := choose_list (Q := fun i (f : Field) p => Shaped P n f.type p ∧ LR (CR w) p ((cs.drop f.offset).take (P.cellsOf f.type))) fs.toList 0 (fun i f hf => by
        have hf' : fs[i]? = some f := by simpa using hf
        have hg := hget i f hf'
        have hi : i < xs.length := by have := (List.getElem?_eq_some_iff.1 hf).1; simp at this; omega
        rw [List.getElem?_eq_getElem hi] at hg
        obtain ⟨p, q1, q2⟩ := IH f.type _ _ (hmem i f hf) hg
        exact ⟨p, q1, q2⟩)
      refine ⟨_, ⟨parts, rfl, by simpa using hp1, fun i f p hf hp => (hp2 i f p (by simpa using hf) hp).1⟩, ?_⟩
      refine cut_parts (sizes := fs.toList.map fun f => P.cellsOf f.type) (by simpa using hp1) (by rw [hcl, k2]) (fun i p m hp hm => ?_)
      rw [List.getElem?_map] at hm
      cases hf : fs.toList[i]? with
      | none => rw [hf] at hm; cases hm
      | some f =>
        rw [hf] at hm
        simp only [Option.map_some, Option.some.injEq] at hm
        subst hm
        have := (hp2 i f p hf hp).2
        rw [k3 i f hf] at this
        rw [← List.map_take]
        exact this
    · rename_i n e hu
      try simp only [hu]
      obtain ⟨xs, m, hm, _, hcl, hxl, hget⟩ := DataW.trod_array hu h
      obtain rfl : m = d := by omega
      obtain ⟨k1, k2⟩ := kid_array hl hlt hu
      obtain ⟨parts, hp1, hp2⟩ := choose_list (Q := fun i (_ : Nat) p => Shaped P m e p ∧ LR (CR w) p ((cs.drop (i * P.cellsOf e)).take (P.cellsOf e))) (List.range n) 0 (fun i j hj => by
        have hi : i < n := by have := (List.getElem?_eq_some_iff.1 hj).1; simpa using this
        have hg := hget i hi
        rw [List.getElem?_eq_getElem (by omega)] at hg
        obtain ⟨p, q1, q2⟩ := IH e _ _ (by simpa using hkt) hg
        exact ⟨p, q1, by simpa using q2⟩)
      simp only [Nat.zero_add, List.length_range] at hp1 hp2
      have hp3 : ∀ (i : Nat) p, parts[i]? = some p → Shaped P m e p ∧ LR (CR w) p ((cs.drop (i * P.cellsOf e)).take (P.cellsOf e)) := fun i p hp => by
        have hi : i < n := by have := (List.getElem?_eq_some_iff.1 hp).1; omega
        exact hp2 i i p (by simp [hi]) hp
      refine ⟨_, ⟨parts, rfl, hp1, fun p hp => ?_⟩, ?_⟩
      · obtain ⟨i, hi⟩ := List.getElem?_of_mem hp
        exact (hp3 i p hi).1
      · refine cut_parts (sizes := List.replicate n (P.cellsOf e)) (by simpa using hp1) (by rw [hcl, k2]; simp) (fun i p q hp hq => ?_)
        have hi : i < n := by have := (List.getElem?_eq_some_iff.1 hp).1; omega
        have hq' : q = P.cellsOf e := (List.mem_replicate.1 (List.mem_of_getElem? hq)).2
        subst hq'
        have := (hp3 i p hp).2
        have e1 : ((List.replicate n (P.cellsOf e)).take i).sum = i * P.cellsOf e := by
          rw [List.take_replicate, Nat.min_eq_left (Nat.le_of_lt hi), List.sum_replicate_nat]
        rw [e1]
        exact this
    · cases hkt

/-- An argument of a type, as data. -/
def ArgOf (P : Program) (t : TypeId) (x : AV) : Prop :=
  match P.underlying t with
  | some (.struct _) => ∃ d xs, x = .agg xs ∧ Shaped P d t xs
  | some (.array _ _) => ∃ d xs, x = .agg xs ∧ Shaped P d t xs
  | _ => ∃ d, Shaped P d t [x]
theorem arg_shape (hl : laidOutB P = true) {ks : List TypeId} (hk : dataTypes P ks = true) {t : TypeId} (ht : t ∈ ks) {v : Value} {r : Reach} {b0 : Nat} {dd : DataW H} {ps : List MemPlace} (hval : Value.okWide P w r b0 t v) (h : DataW.Trod enc P w base sp held t v dd ps) : ∃ x, ArgOf P t x ∧ PR (Old w) w x v := by
  obtain ⟨d, h⟩ := h
  obtain ⟨xs, h1, h2⟩ := trod_shape hl hk d t _ _ ht h
  have hkt := List.all_eq_true.1 hk t ht
  simp only [Bool.and_eq_true, decide_eq_true_eq] at hkt
  obtain ⟨_, hkt⟩ := hkt
  have plain : v.cells = #[v] → ∃ x, Shaped P d t [x] ∧ PR (Old w) w x v := fun e => by
    rw [e] at h2
    match xs, h2, h1 with
    | [x], h2, h1 => exact ⟨x, h1, (h2.2 0 x v rfl rfl).1⟩
    | [], h2, _ => have := h2.1; simp at this
    | _ :: _ :: _, h2, _ => have := h2.1; simp at this
  have aggs : ∀ {cs : Array Value}, v = .agg cs → ∃ x, (∃ d xs, x = .agg xs ∧ Shaped P d t xs) ∧ PR (Old w) w x v := fun {cs} e => by
    subst e
    refine ⟨.agg xs, ⟨d, xs, rfl, h1⟩, .agg xs cs (by simpa [Value.cells] using h2.1) (fun j x u hx hu => ?_) (fun j u hu => ?_)⟩
    · exact (h2.2 j x u hx (by simpa [Value.cells] using hu)).1
    · have hj : j < xs.length := by
        have := (Array.getElem?_eq_some_iff.1 hu).1
        have h3 := h2.1
        simp [Value.cells] at h3
        omega
      exact (h2.2 j _ u (List.getElem?_eq_getElem hj) (by simpa [Value.cells] using hu)).2
  unfold ArgOf
  split at hkt
  · rename_i hu
    simp only [hu]
    obtain ⟨b, rfl⟩ := WideShapes.okWide_bool hu hval
    obtain ⟨x, q1, q2⟩ := plain rfl
    exact ⟨x, ⟨d, q1⟩, q2⟩
  · rename_i k hu
    simp only [hu]
    obtain ⟨b, rfl⟩ := WideShapes.okWide_int hu hval
    obtain ⟨x, q1, q2⟩ := plain rfl
    exact ⟨x, ⟨d, q1⟩, q2⟩
  · rename_i hu
    simp only [hu]
    obtain ⟨b, rfl⟩ := WideShapes.okWide_string hu hval
    obtain ⟨x, q1, q2⟩ := plain rfl
    exact ⟨x, ⟨d, q1⟩, q2⟩
  · rename_i e hu
    simp only [hu]
    obtain ⟨a, l, c, rfl⟩ := WideShapes.okWide_slice hu hval
    obtain ⟨x, q1, q2⟩ := plain rfl
    exact ⟨x, ⟨d, q1⟩, q2⟩
  · rename_i fs hu
    simp only [hu]
    simp only [Value.okWide, hu] at hval
    obtain ⟨cs, e, _⟩ := hval
    exact aggs e
  · rename_i n e hu
    simp only [hu]
    simp only [Value.okWide, hu] at hval
    obtain ⟨cs, e, _⟩ := hval
    exact aggs e
  · cases hkt

/-- Arguments, each of its type. -/
def ArgsOf (P : Program) : List TypeId → List AV → Prop
  | [], [] => True
  | t :: ts, x :: xs => ArgOf P t x ∧ ArgsOf P ts xs
  | _, _ => False
theorem args_shape (hl : laidOutB P = true) {ks : List TypeId} (hk : dataTypes P ks = true) {r : Reach} {b0 : Nat} : ∀ {ts : List TypeId} {vs : List Value} {ds : List (DataW H)} {ps : List MemPlace}, (∀ t ∈ ts, t ∈ ks) → (∀ (j : Nat) t v, ts[j]? = some t → vs[j]? = some v → Value.okWide P w r b0 t v) →
    DataW.TrodAll enc P w base sp held ts vs ds ps → ∃ xs, ArgsOf P ts xs ∧ LR (PR (Old w) w) xs vs
  | [], [], [], ps, _, _, _ => ⟨[], trivial, LR.nil⟩
  | t :: ts, v :: vs, d :: ds, ps, hm, hv, h => by
    obtain ⟨p, q, h1, h2, _⟩ := h
    obtain ⟨x, a1, a2⟩ := arg_shape hl hk (hm t (List.mem_cons_self ..)) (hv 0 t v rfl rfl) h1
    obtain ⟨xs, b1, b2⟩ := args_shape hl hk (fun t ht => hm t (List.mem_cons_of_mem _ ht)) (fun j t v ht hv' => hv (j + 1) t v (by simpa using ht) (by simpa using hv')) h2
    exact ⟨x :: xs, ⟨a1, b1⟩, LR.cons a2 b2⟩
  | [], _ :: _, _, _, _, _, h => h.elim
  | [], [], _ :: _, _, _, _, h => h.elim
  | _ :: _, [], _, _, _, _, h => h.elim
  | _ :: _, _ :: _, [], _, _, _, h => h.elim

/-- They read behind the call as they read before. -/
theorem below_trods (hl : laidOutB P = true) {w' : World} (hb : RowKit.Below w.heap.size w w') {sp' : Nat → Bool} : ∀ {ts : List TypeId} {vs : List Value} {ds : List (DataW H)} {ps : List MemPlace}, (∀ t ∈ ts, P.readableRec t = true ∧ t < P.types.size) → (∀ x ∈ ps, x.block < w.heap.size) → (∀ x ∈ ps, sp' x.block = true) →
    DataW.TrodAll enc P w 0 (fun _ => true) true ts vs ds ps → DataW.TrodAll enc P w' 0 sp' true ts vs ds ps
  | [], [], [], ps, _, _, _, h => h
  | t :: ts, v :: vs, d :: ds, ps, hm, hp, hs, h => by
    obtain ⟨p, q, h1, h2, rfl⟩ := h
    obtain ⟨m1, m2⟩ := hm t (List.mem_cons_self ..)
    exact ⟨p, q, WideElems.Trod_stays hl m1 m2 h1 (fun x hx => hb.same (hp x (List.mem_append_left _ hx))) (fun x hx => hs x (List.mem_append_left _ hx)), below_trods hl hb (fun t ht => hm t (List.mem_cons_of_mem _ ht)) (fun x hx => hp x (List.mem_append_right _ hx)) (fun x hx => hs x (List.mem_append_right _ hx)) h2, rfl⟩
  | [], _ :: _, _, _, _, _, _, h => h.elim
  | [], [], _ :: _, _, _, _, _, h => h.elim
  | _ :: _, [], _, _, _, _, _, h => h.elim
  | _ :: _, _ :: _, [], _, _, _, _, h => h.elim
end

end Go.Proofs.Ytcaemgpificohaa.A
