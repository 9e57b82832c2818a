/- The builder: its bounds. -/
import Derived.Test.YtpmjpogcaglphaaDoorMLMLaws9
set_option linter.unusedVariables false
set_option linter.unusedSimpArgs false
set_option linter.unnecessarySimpa false
namespace Go.Proofs.YtpmjpogcaglphaaDoor.A
open Go
set_option maxRecDepth 20000
structure Bd (h : Nat) (f : BF) (b : BS) : Prop where
 lo : b.n ≤ (f b).2.n
 hi : (f b).2.n ≤ max b.n 1000 + 2 * h
 f4 : (f b).2.f.length + 4 * b.n ≤ b.f.length + 4 * (f b).2.n
 s1 : (f b).2.s.length + b.n ≤ b.s.length + (f b).2.n
 str : b.n ≤ 1000 → (f b).2.f.length + 4 * b.n + 4 ≤ b.f.length + 4 * (f b).2.n
structure BdL (h : Nat) (k : Nat) (b : BS) (out : List (Int × Int)) (r : List (Int × Int) × BS) : Prop where
 lo : b.n ≤ r.2.n
 hi : r.2.n ≤ max b.n (1000 + 2 * h)
 f4 : r.2.f.length + 4 * b.n ≤ b.f.length + 4 * r.2.n
 s1 : r.2.s.length + b.n ≤ b.s.length + r.2.n
 str : r.1 = [] ∨ (r.1.length = out.length + k ∧ r.2.f.length + 4 * b.n + 4 * k ≤ b.f.length + 4 * r.2.n)
 str1 : b.n ≤ 1000 → 0 < k → r.2.f.length + 4 * b.n + 4 ≤ b.f.length + 4 * r.2.n
theorem Q9 {h : Nat} : ∀ (fs : List BF) (b : BS) (out : List (Int × Int)), (∀ f ∈ fs, ∀ b, Bd h f b) → BdL h fs.length b out (d8 fs b out)
 | [], b, out, _ => ⟨Nat.le_refl _, by show b.n ≤ _; omega, Nat.le_refl _, Nat.le_refl _, .inr ⟨rfl, Nat.le_refl _⟩, fun _ h => absurd h (by simp)⟩
 | f :: fs, b, out, hf => by
  unfold d8
  split
  ·exact ⟨Nat.le_refl _, by show b.n ≤ _; omega, Nat.le_refl _, Nat.le_refl _, .inl rfl, fun h => absurd h (by omega)⟩
  ·rename_i hn
   have h1 := hf f (List.mem_cons_self) b
   have h2 := Q9 fs (f b).2 (out ++ [(f b).1]) (fun g hg => hf g (List.mem_cons_of_mem _ hg))
   have h3 := h1.str (by omega)
   refine ⟨Nat.le_trans h1.lo h2.lo, ?_, ?_, ?_, ?_, fun _ _ => by have := h2.f4; omega⟩
   ·have := h2.hi; have := h1.hi; omega
   ·have := h2.f4; have := h1.f4; omega
   ·have := h2.s1; have := h1.s1; omega
   ·rcases h2.str with e | ⟨e1, e2⟩
    ·exact .inl e
    ·refine .inr ⟨by rw [e1]; simp; omega, ?_⟩
     rw [List.length_cons]
     omega
theorem aN5 {h : Nat} {f : BF} (hf : ∀ b, Bd h f b) (x y : Bool) (b : BS) : Bd (h + 1) (T7 f x y) b := by
 have h1 := hf b.state
 have e1 : (T7 f x y b).2.n = (f b.state).2.n + 1 := rfl
 have e2 : (T7 f x y b).2.f.length ≤ (f b.state).2.f.length + 4 := by
  show List.length (_ ++ _) ≤ _
  simp only [List.length_append, List.length_cons, List.length_nil]
  cases x <;> cases y <;> simp [BS.state]
 have e3 : (T7 f x y b).2.s.length = (f b.state).2.s.length := rfl
 have e4 : b.state.n = b.n + 1 := rfl
 have e5 : b.state.f.length = b.f.length := rfl
 have e6 : b.state.s.length = b.s.length := rfl
 have := h1.lo; have := h1.hi; have := h1.f4; have := h1.s1
 exact ⟨by omega, by omega, by omega, by omega, fun _ => by omega⟩
theorem aH1 : ∀ l : List (Int × Int), (M8 l).length = l.length - 1
 | [] => rfl
 | [_] => rfl
 | p :: q :: l => by rw [M8, List.length_cons, aH1 (q :: l)]; simp
theorem af1 (lo e : Int) : ∀ (i : Nat) (l : List (Int × Int)), (r9 lo e i l).length ≤ 2 * l.length
 | _, [] => by simp [r9]
 | _, [_] => by simp [r9]
 | i, p :: q :: l => by
  have := af1 lo e (i + 1) (q :: l)
  rw [r9, List.length_append, List.length_cons]
  simp only [List.length_cons] at this ⊢
  split <;> simp <;> omega
theorem bT5 {h : Nat} {fs : List BF} (hf : ∀ f ∈ fs, ∀ b, Bd h f b) (h0 : 0 < fs.length) (h1 : 1 ≤ h) (b : BS) : Bd (h + 1) (ab8 fs) b := by
 have hp := Q9 fs b [] hf
 have := hp.lo; have := hp.hi; have := hp.f4; have := hp.s1
 have key : (ab8 fs b).2.n = (d8 fs b []).2.n ∧ (ab8 fs b).2.s = (d8 fs b []).2.s ∧ ((ab8 fs b).2.f.length = (d8 fs b []).2.f.length ∧ ((d8 fs b []).1 = [] ∨ 1000 < (d8 fs b []).2.n) ∨ (d8 fs b []).1 ≠ [] ∧ (ab8 fs b).2.f.length = (d8 fs b []).2.f.length + ((d8 fs b []).1.length - 1)) := by
  unfold ab8
  dsimp only
  split
  ·rename_i h; exact ⟨rfl, rfl, .inl ⟨rfl, h.symm⟩⟩
  ·rename_i h
   refine ⟨rfl, rfl, .inr ⟨fun e => h (.inr e), ?_⟩⟩
   show List.length (_ ++ _) = _
   rw [List.length_append, aH1]
 obtain ⟨k1, k2, k3⟩ := key
 have hs : (ab8 fs b).2.s.length = (d8 fs b []).2.s.length := by rw [k2]
 refine ⟨by omega, by omega, ?_, by omega, fun hb => ?_⟩
 ·rcases k3 with ⟨e, _⟩ | ⟨e, e'⟩
  ·omega
  ·rcases hp.str with e1 | ⟨e1, e2⟩
   ·exact absurd e1 e
   ·simp only [List.length_nil] at e1
    omega
 ·rcases k3 with ⟨e, _⟩ | ⟨e, e'⟩
  ·have := hp.str1 hb h0
   omega
  ·rcases hp.str with e1 | ⟨e1, e2⟩
   ·exact absurd e1 e
   ·simp only [List.length_nil] at e1
    omega
theorem bm6 (n e : Int) (l : List (Int × Int)) : (l.flatMap fun p => [(n, p.1), (p.2, e)]).length = 2 * l.length := by
 induction l with
 | nil => rfl
 | cons p l ih => rw [List.flatMap_cons, List.length_append, ih]; simp; omega
theorem bC1 {h : Nat} {fs : List BF} (hf : ∀ f ∈ fs, ∀ b, Bd h f b) (b : BS) : Bd (h + 1) (T8 fs) b := by
 have hp := Q9 fs b.state [] hf
 have := hp.lo; have := hp.hi; have := hp.f4; have := hp.s1
 have e1 : (T8 fs b).2.n = (d8 fs b.state []).2.n + 1 := rfl
 have e2 : (T8 fs b).2.f.length = (d8 fs b.state []).2.f.length + 2 * (d8 fs b.state []).1.length := by
  show List.length (_ ++ _) = _
  rw [List.length_append, bm6]; rfl
 have e3 : (T8 fs b).2.s.length = (d8 fs b.state []).2.s.length := rfl
 have e4 : b.state.n = b.n + 1 := rfl
 have e5 : b.state.f.length = b.f.length := rfl
 have e6 : b.state.s.length = b.s.length := rfl
 have hl : (T8 fs b).2.f.length + 4 * (b.n + 1) ≤ b.f.length + 4 * (d8 fs b.state []).2.n := by
  rcases hp.str with e | ⟨e, e'⟩
  ·rw [e] at e2; simp only [List.length_nil] at e2; omega
  ·simp only [List.length_nil] at e; omega
 exact ⟨by omega, by omega, by omega, by omega, fun _ => by omega⟩
theorem bm7 {h : Nat} {f : BF} (hf : ∀ b, Bd h f b) (lo : Int) (hi : Nat) (b : BS) : Bd (h + 1) (z6 lo hi f) b := by
 have hp := Q9 (List.replicate hi f) b.state [] (fun g hg => by rw [List.eq_of_mem_replicate hg]; exact hf)
 have := hp.lo; have := hp.hi; have := hp.f4; have := hp.s1
 have e4 : b.state.n = b.n + 1 := rfl
 have e5 : b.state.f.length = b.f.length := rfl
 have e6 : b.state.s.length = b.s.length := rfl
 have key : (z6 lo hi f b).2.n = (d8 (List.replicate hi f) b.state []).2.n + 1 ∧ (z6 lo hi f b).2.s = (d8 (List.replicate hi f) b.state []).2.s ∧ ((z6 lo hi f b).2.f = (d8 (List.replicate hi f) b.state []).2.f ∨ (z6 lo hi f b).2.f.length ≤ (d8 (List.replicate hi f) b.state []).2.f.length + 2 + 2 * (d8 (List.replicate hi f) b.state []).1.length) := by
  unfold z6
  dsimp only
  split
  ·exact ⟨rfl, rfl, .inl rfl⟩
  ·refine ⟨rfl, rfl, .inr ?_⟩
   show List.length (_ ++ _) ≤ _
   have := af1 lo (d8 (List.replicate hi f) b.state []).2.n 0 (d8 (List.replicate hi f) b.state []).1
   simp only [List.length_append]
   have h1 : (Y6 b.n (d8 (List.replicate hi f) b.state []).1).length ≤ 1 := by unfold Y6; split <;> simp
   have h2 : (if lo = 0 then [((b.n : Int), ((d8 (List.replicate hi f) b.state []).2.n : Int))] else []).length ≤ 1 := by split <;> simp
   have h3 : (d8 (List.replicate hi f) b.state []).2.state.f = (d8 (List.replicate hi f) b.state []).2.f := rfl
   rw [h3]
   omega
 obtain ⟨k1, k2, k3⟩ := key
 have hs : (z6 lo hi f b).2.s.length = (d8 (List.replicate hi f) b.state []).2.s.length := by rw [k2]
 have hl : (z6 lo hi f b).2.f.length + 4 * (b.n + 1) ≤ b.f.length + 4 * (d8 (List.replicate hi f) b.state []).2.n + 2 := by
  rcases k3 with e | e
  ·rw [e]; omega
  ·rcases hp.str with e1 | ⟨e1, e'⟩
   ·rw [e1] at e; simp only [List.length_nil] at e; omega
   ·simp only [List.length_nil] at e1; omega
 exact ⟨by omega, by omega, by omega, by omega, fun _ => by omega⟩
theorem bT6 (kind set : Int) (h : Nat) (b : BS) : Bd (h + 1) (az7 kind set) b := by
 unfold az7
 have e1 : b.state.state.n = b.n + 2 := rfl
 have e2 : b.state.state.f = b.f := rfl
 have e3 : b.state.state.s = b.s := rfl
 have e4 : ∀ x y v, (b.state.state.step x y v).s.length = b.s.length + 1 := fun x y v => by show List.length (_ ++ _) = _; rw [List.length_append]; rfl
 have e5 : ∀ x y, (b.state.state.free x y).f.length = b.f.length + 1 := fun x y => by show List.length (_ ++ _) = _; rw [List.length_append]; rfl
 have e6 : ∀ x y v, (b.state.state.step x y v).n = b.n + 2 := fun x y v => rfl
 have e7 : ∀ x y v, (b.state.state.step x y v).f = b.f := fun x y v => rfl
 have e8 : ∀ x y, (b.state.state.free x y).n = b.n + 2 := fun x y => rfl
 have e9 : ∀ x y, (b.state.state.free x y).s = b.s := fun x y => rfl
 refine ⟨?_, ?_, ?_, ?_, fun _ => ?_⟩ <;> dsimp only <;> split <;> (try split) <;> simp only [e1, e2, e3, e4, e5, e6, e7, e8, e9] <;> omega
mutual
def hN : Nd → Nat
 | .mk _ _ _ _ l => hNs l + 1
def hNs : List Nd → Nat
 | [] => 0
 | x :: l => max (hN x) (hNs l)
end
mutual
def okN : Nd → Bool
 | .mk kind _ lo hi l => as4 l && (if kind = 4 ∨ kind = 5 ∨ kind = 6 ∨ kind = 7 ∨ kind = 8 then decide (0 < l.length ∧ l.length ≤ 10) else if kind = 9 then decide (0 < l.length ∧ l.length ≤ 10 ∧ 0 ≤ lo ∧ lo ≤ hi ∧ hi ≤ 10) else true)
def as4 : List Nd → Bool
 | [] => true
 | x :: l => okN x && as4 l
end
theorem Bd.mono {h h' f b} (hb : Bd h f b) (hh : h ≤ h') : Bd h' f b := ⟨hb.lo, by have := hb.hi; omega, hb.f4, hb.s1, hb.str⟩
theorem co2 (x) : 1 ≤ hN x := by cases x; rw [hN]; omega
theorem I9 (l) : (l6 l).length = l.length := by
 induction l with
 | nil => rw [l6]; rfl
 | cons x l ih => rw [l6, List.length_cons, ih, List.length_cons]
mutual
theorem af2 : ∀ (x : Nd), okN x = true → ∀ b, Bd (hN x) (d7 x) b
 | .mk kind set lo hi l, hk, b => by
  rw [okN, Bool.and_eq_true] at hk
  obtain ⟨hk1, hk2⟩ := hk
  have hl := ab9 l hk1
  rw [d7, hN]
  have hd : 0 < l.length → ∀ b, Bd (hNs l) ((l6 l).headD fun b => ((0, 0), b)) b := fun h b => by
   cases l with
   | nil => exact absurd h (by simp)
   | cons x l => exact hl _ (by rw [l6]; exact List.mem_cons_self) b
  have h1 : 0 < l.length → 1 ≤ hNs l := fun h => by
   cases l with
   | nil => exact absurd h (by simp)
   | cons x l => have := co2 x; rw [hNs]; omega
  unfold az8
  by_cases k4 : kind = 4
  ·rw [if_pos k4]
   rw [if_pos (.inl k4), decide_eq_true_eq] at hk2
   exact bT5 hl (by rw [I9]; exact hk2.1) (h1 hk2.1) b
  by_cases k5 : kind = 5
  ·rw [if_neg k4, if_pos k5]
   exact bC1 hl b
  by_cases k6 : kind = 6
  ·rw [if_neg k4, if_neg k5, if_pos k6]
   rw [if_pos (.inr (.inr (.inl k6))), decide_eq_true_eq] at hk2
   exact aN5 (hd hk2.1) _ _ b
  by_cases k7 : kind = 7
  ·rw [if_neg k4, if_neg k5, if_neg k6, if_pos k7]
   rw [if_pos (.inr (.inr (.inr (.inl k7)))), decide_eq_true_eq] at hk2
   exact aN5 (hd hk2.1) _ _ b
  by_cases k8 : kind = 8
  ·rw [if_neg k4, if_neg k5, if_neg k6, if_neg k7, if_pos k8]
   rw [if_pos (.inr (.inr (.inr (.inr k8)))), decide_eq_true_eq] at hk2
   exact aN5 (hd hk2.1) _ _ b
  by_cases k9 : kind = 9
  ·rw [if_neg k4, if_neg k5, if_neg k6, if_neg k7, if_neg k8, if_pos k9]
   rw [if_neg (by omega), if_pos k9, decide_eq_true_eq] at hk2
   exact bm7 (hd hk2.1) _ _ b
  rw [if_neg k4, if_neg k5, if_neg k6, if_neg k7, if_neg k8, if_neg k9]
  exact bT6 _ _ _ b
theorem ab9 : ∀ (l : List Nd), as4 l = true → ∀ f ∈ l6 l, ∀ b, Bd (hNs l) f b
 | [], _, f, hf, b => by rw [l6] at hf; cases hf
 | x :: l, hk, f, hf, b => by
  rw [as4, Bool.and_eq_true] at hk
  rw [l6] at hf
  rw [hNs]
  rcases List.mem_cons.1 hf with rfl | hf
  ·exact (af2 x hk.1 b).mono (by omega)
  ·exact (ab9 l hk.2 f hf b).mono (by omega)
end
set_option maxRecDepth 20000
abbrev bE (p : Int × Int) : AV := .agg [.int .i64 p.1, .int .i64 p.2]
def x8 (args : List AV) (H : AH) (v : AV) (H' : AH) : Prop := OkR Tryd.prog 76 args H v H' ∧ ∀ t b x, args = [bp t, j5 x] → BAt H.o H.nx t b → v = bE (d7 x b).1 ∧ BTo t (d7 x b).2 H H'
def NdsAt (o : Ob) (nx : Nat) (v : AV) (l : List Nd) : Prop := v = slN l ∨ HS 37 5 17 o nx v l.length (K9 l)
def ac0 (args : List AV) (H : AH) (v : AV) (H' : AH) : Prop := OkR Tryd.prog 90 args H v H' ∧ ∀ t b l v0, args = [bp t, v0] → NdsAt H.o H.nx v0 l → BAt H.o H.nx t b → BTo t (d8 (l6 l) b []).2 H H' ∧ HS 136 2 21 H'.o H'.nx v (d8 (l6 l) b []).1.length (cP (d8 (l6 l) b []).1)
structure Pre (h : Nat) (b : BS) : Prop where
 f : b.f.length ≤ 4 * b.n
 s : b.s.length ≤ b.n
 n : b.n + 2 * h ≤ 100000
theorem ac1 {x : Nd} {t : Nat} {o : Ob} {nx : Nat} {b : BS} {K : AV × AH → Prop} (hex : ∃ v H', x8 [bp t, j5 x] ⟨o, nx⟩ v H') (h : BAt o nx t b) (hK : ∀ o' nx', nx ≤ nx' → BAt o' nx' t (d7 x b).2 → BKeep t o nx o' → K (bE (d7 x b).1, ⟨o', nx'⟩)) :
  wO (Option.map (fun p => p8 false p.1 p.2) (B3 x8 [bp t, j5 x] ⟨o, nx⟩)) K := by
 refine K7 hex fun v H' hr => ?_
 obtain ⟨rfl, h1, h2, h3⟩ := hr.2 t b x rfl h
 exact hK H'.o H'.nx h1 h2 h3
theorem af3 {l : List Nd} {v0 : AV} {t : Nat} {o : Ob} {nx : Nat} {b : BS} {K : AV × AH → Prop} (hex : ∃ v H', ac0 [bp t, v0] ⟨o, nx⟩ v H') (hv : NdsAt o nx v0 l) (h : BAt o nx t b)
  (hK : ∀ v o' nx', nx ≤ nx' → BAt o' nx' t (d8 (l6 l) b []).2 → BKeep t o nx o' → HS 136 2 21 o' nx' v (d8 (l6 l) b []).1.length (cP (d8 (l6 l) b []).1) → K (v, ⟨o', nx'⟩)) :
  wO (Option.map (fun p => p8 false p.1 p.2) (B3 ac0 [bp t, v0] ⟨o, nx⟩)) K := by
 refine K7 hex fun v H' hr => ?_
 obtain ⟨⟨h1, h2, h3⟩, h4⟩ := hr.2 t b l v0 rfl hv h
 exact hK v H'.o H'.nx h1 h2 h3 h4
theorem bc0 : u9 Tryd.prog (p5 [(77, B3 T9), (76, B3 x8)]) ∧ Up (p5 [(77, B3 T9), (76, B3 x8)]) :=
 m9 (m9 (G7 _) fun args H v H' h => (v8 h).1) fun args H v H' h => (v8 h).1
theorem bm8 (X) : f7 (EX md0 X) (fun _ => none) 2 Tryd.f90 = true := by kernel_rfl
theorem BAt.new {o nx t b} (h : BAt o nx t b) {o' : Ob} {nx' : Nat} (ho : ∀ i j, i < nx → o' (i, j) = o (i, j)) (hn : nx ≤ nx') : BAt o' nx' t b := by
 obtain ⟨vS, vF, h⟩ := h
 exact ⟨vS, vF, ⟨by have := h.lt; omega, by rw [ho _ _ h.lt]; exact h.row, h.s.keep (fun i hi => ho i _ hi) hn, h.f.keep (fun i hi => ho i _ hi) hn⟩⟩
theorem NdsAt.new {o nx v l} (h : NdsAt o nx v l) {o' : Ob} {nx' : Nat} (ho : ∀ i j, i < nx → o' (i, j) = o (i, j)) (hn : nx ≤ nx') : NdsAt o' nx' v l := by
 rcases h with h | h
 ·exact .inl h
 ·exact .inr (h.keep (fun i hi => ho i 17 hi) hn)
theorem BKeep.new {t o nx o'} (ho : ∀ i j, i < nx → o' (i, j) = o (i, j)) : BKeep t o nx o' := fun i j hi _ _ _ => ho i j hi
theorem NdsAt.keep {o nx v l} (h : NdsAt o nx v l) {t o' nx'} (hk : BKeep t o nx o') (hn : nx ≤ nx') : NdsAt o' nx' v l := by
 rcases h with h | h
 ·exact .inl h
 ·exact .inr (h.keep (fun i hi => hk i 17 hi (fun e => absurd e (by decide)) (by decide) (by decide)) hn)
theorem aN6 {l : List Nd} {i : Nat} (h : i < l.length) : l6 (l.drop i) = d7 (l.getD i default) :: l6 (l.drop (i + 1)) := by
 rw [List.drop_eq_getElem_cons h, l6, List.getD_eq_getElem?_getD, List.getElem?_eq_getElem h]
 rfl
theorem bC2 {l : List Nd} (hk : as4 l = true) {i : Nat} (h : i < l.length) : okN (l.getD i default) = true ∧ hN (l.getD i default) ≤ hNs l := by
 induction l generalizing i with
 | nil => simp at h
 | cons x l ih =>
  rw [as4, Bool.and_eq_true] at hk
  rw [hNs]
  cases i with
  | zero => exact ⟨hk.1, by show hN x ≤ _; omega⟩
  | succ i =>
   have := ih hk.2 (by simpa using h)
   exact ⟨this.1, by have := this.2; show hN (l.getD i default) ≤ _; omega⟩
theorem co3 {l : List Nd} {i : Nat} (h : i < l.length) : l.getD i default ∈ l := by
 rw [List.getD_eq_getElem?_getD, List.getElem?_eq_getElem h]
 exact List.getElem_mem h
theorem BAt.slot {o nx t b} (h : BAt o nx t b) {o' : Ob} {nx' : Nat} (ho : ∀ i j, (j = 8 ∨ j = 139 ∨ j = 16) → o' (i, j) = o (i, j)) (hn : nx ≤ nx') : BAt o' nx' t b := by
 obtain ⟨vS, vF, h⟩ := h
 exact ⟨vS, vF, ⟨by have := h.lt; omega, by rw [ho _ _ (.inl rfl)]; exact h.row, h.s.keep (fun i hi => ho i _ (.inr (.inl rfl))) hn, h.f.keep (fun i hi => ho i _ (.inr (.inr rfl))) hn⟩⟩
theorem aN7 (f : BF) (fs b out) : d8 (f :: fs) b out = if b.n > 1000 then ([], b) else d8 fs (f b).2 (out ++ [(f b).1]) := by rw [d8]
theorem bc1 {l : List Nd} (hk : as4 l = true) (hlen : l.length ≤ 20) (hpart : ∀ x ∈ l, ∀ t o nx b, BAt o nx t b → Pre (hN x) b → ∃ v H', x8 [bp t, j5 x] ⟨o, nx⟩ v H') {cr : q8} (hF : cr 77 = B3 T9) (hP : cr 76 = B3 x8)
  {t : Nat} {o0 : Ob} {nx0 : Nat} {b0 : BS} {v0 : AV} {a : n8} {o : Ob} {nx : Nat} {Q : l8} (hv : NdsAt o nx v0 l) (h : BAt o nx t b0) (hp : Pre (hNs l) b0) (hh : hNs l ≤ 1000) (ha0 : a 0 = bp t) (ha5 : a 5 = .nil) (ha8 : a 8 = v0) (ha9 : a 9 = .int .i64 l.length) (ha10 : a 10 = .int .i64 0)
  (hkp : BKeep t o0 nx0 o) (hnx : nx0 ≤ nx) (hQ : ∀ a o nx, nx0 ≤ nx → BAt o nx t (d8 (l6 l) b0 []).2 → BKeep t o0 nx0 o → HS 136 2 21 o nx (a 4) (d8 (l6 l) b0 []).1.length (cP (d8 (l6 l) b0 []).1) → Q .ret a o nx) :
  WP (EX md0 (fun _ _ => none)) cr 30 (fun _ => none) (v7 [1, 1, 0, 1, 0] (Tryd.f90.body.getD .skip)) a o nx (K5 0 (ay5 (EX md0 (fun _ _ => none)) cr 30 (fun _ => none) (v7 [1, 1, 1] (Tryd.f90.body.getD .skip)) Q)) := by
 simp only [Tryd.f90, Option.getD_some, v7]
 refine u2 (fun m a o nx => ∃ i b out v, i ≤ l.length ∧ m = l.length - i ∧ d8 (l6 l) b0 [] = d8 (l6 (l.drop i)) b out ∧ out.length = i ∧ NdsAt o nx v0 l ∧ BAt o nx t b ∧ HS 136 2 21 o nx v i (cP out) ∧ nx0 ≤ nx ∧ BKeep t o0 nx0 o ∧
  b.f.length ≤ 4 * b.n ∧ b.s.length ≤ b.n ∧ b.n ≤ max b0.n (1000 + 2 * hNs l) ∧ (∀ i g n, v = .ref (i, 21) g 0 n → nx0 ≤ i) ∧ a 0 = bp t ∧ a 5 = v ∧ a 8 = v0 ∧ a 9 = .int .i64 l.length ∧ a 10 = .int .i64 i) l.length (by omega) ⟨0, b0, [], .nil, by omega, by omega, rfl, rfl, hv, h, HS.nil, hnx, hkp, hp.f, hp.s, by omega, (fun i g n h => by cases h), ha0, ha5, ha8, ha9, ha10⟩ ?_
 clear hv h ha0 ha5 ha8 ha9 ha10 hkp hnx
 rintro m a o nx ⟨i, b, out, v, hi, rfl, hbp, hout, hv, hB, hHS, hnx, hkp, hf4, hs1, hn, hfr, h0, h5, h8, h9, h10⟩
 have hok := hHS.ok
 by_cases hlt : i < l.length
 ·have hx := bC2 hk hlt
  have hmem := co3 hlt
  have hat := bl5 hlt
  have hdrop := aN6 hlt
  obtain ⟨x, hxe⟩ : ∃ x, x = l.getD i default := ⟨_, rfl⟩
  rw [← hxe] at hx hat hmem hdrop
  have hnew : ∀ y z, ∀ i j, i < nx → upd (upd o (nx + 1, 7) y) (nx + 1, 7) z (i, j) = o (i, j) := fun y z i j hi => by simp (disch := omega) only [D8]
  rw [hdrop, aN7] at hbp
  have hP1 : b.n ≤ 1000 → Pre (hN x) b := fun h => ⟨hf4, hs1, by have := hx.2; omega⟩
  have hbd := af2 x hx.1 b
  have hv' := hv
  rcases hv with rfl | ⟨rfl, e1, e2⟩ | ⟨i2, g2, rfl, hi2, hrow2, hlen2⟩
  ·simp (disch := omega) only [go_sem, h0, h5, h8, h9, h10, hat, hF]
   refine U2 (hB.new (hnew _ _) (by omega)) ?_
   intro o1 nx1 hle1 hB1 hk1
   have hx7 : o1 (nx + 1, 7) = some (.row ⟨37, 1, (nx + 1, 7), false, true, cNd x⟩) := by rw [hk1 _ _ (by omega) (fun e => absurd e (by decide)) (by decide) (by decide)]; exact f8 _ _ _
   have hkq := (BKeep.new (t := t) (hnew (.row ⟨37, 1, (nx + 1, 7), false, true, [.int .i64 0, .int .i64 0, .int .i64 0, .int .i64 0, .nil]⟩) (.row ⟨37, 1, (nx + 1, 7), false, true, cNd x⟩))).trans hk1 (by omega)
   have hk01 : BKeep t o0 nx0 o1 := hkp.trans ((BKeep.new (hnew _ _)).trans hk1 (by omega)) hnx
   by_cases hfull : (1000 : Int) < b.n
   ·rw [if_pos (by omega)] at hbp
    simp (disch := omega) only [go_sem, hfull, h0, h5, h8, h9, h10, hx7]
    refine hQ _ _ _ (by omega) ?_ hk01 ?_
    ·rw [hbp]; exact hB1.new (fun _ _ _ => rfl) (by omega)
    ·rw [hbp]; exact HS.nil
   ·rw [if_neg (by omega)] at hbp
    have hHS1 := hHS.keep (o' := o1) (nx' := nx1) (fun i hi => by rw [hk1 _ _ (by omega) (fun e => absurd e (by decide)) (by decide) (by decide), hnew _ _ _ _ hi]) (by omega)
    simp (disch := omega) only [go_sem, hfull, h0, h5, h8, h9, h10, hx7, hP]
    refine ac1 (hpart x hmem t _ _ b (hB1.new (fun _ _ _ => rfl) (by omega)) (hP1 (by omega))) (hB1.new (fun _ _ _ => rfl) (by omega)) ?_
    intro o2 nx2 hle2 hB2 hk2
    have hHS2 := (hHS1.keep (o' := o1) (nx' := nx1 + 1) (fun _ _ => rfl) (by omega)).keep (o' := o2) (nx' := nx2) (fun i hi => by rw [hk2 _ _ (by omega) (fun e => absurd e (by decide)) (by decide) (by decide)]) (by omega)
    have hk02 : BKeep t o0 nx0 o2 := hk01.trans (fun i j (hi : i < nx1) => hk2 i j (by omega)) (by omega)
    have hv2 := (hv'.keep (hkq) (by omega : nx ≤ nx1)).new (o' := o1) (nx' := nx1 + 1) (fun _ _ _ => rfl) (by omega)
    have fin : ∀ (j : Nat) y z, nx0 ≤ j → NdsAt (upd (upd o2 (nx1, 20) y) (j, 21) z) (nx2 + 1) (slN l) l ∧ BAt (upd (upd o2 (nx1, 20) y) (j, 21) z) (nx2 + 1) t (d7 x b).2 ∧ BKeep t o0 nx0 (upd (upd o2 (nx1, 20) y) (j, 21) z) := by
     intro j y z hj
     have hslot : ∀ i' j', j' ≠ 20 → j' ≠ 21 → upd (upd o2 (nx1, 20) y) (j, 21) z (i', j') = o2 (i', j') := fun i' j' h1 h2 => by simp [d6, h1, h2]
     refine ⟨?_, hB2.slot (fun i' j' h => hslot i' j' (by omega) (by omega)) (by omega), fun i' j' hi' h1 h2 h3 => ?_⟩
     ·rcases hv2.keep hk2 hle2 with h | h
      ·exact .inl h
      ·exact .inr (h.keep (fun i' _ => hslot i' 17 (by omega) (by omega)) (by omega))
     ·rw [← hk02 i' j' hi' h1 h2 h3]
      have e1 : i' ≠ nx1 := by omega
      have e2 : i' ≠ j := by omega
      simp [d6, e1, e2]
    have hnN : (d7 x b).2.n ≤ max b0.n (1000 + 2 * hNs l) := by have := hbd.hi; have := hx.2; omega
    have hF4 : (d7 x b).2.f.length ≤ 4 * (d7 x b).2.n := by have := hbd.f4; omega
    have hS1 : (d7 x b).2.s.length ≤ (d7 x b).2.n := by have := hbd.s1; omega
    rcases hHS2 with ⟨rfl, e1, e2⟩ | ⟨i1, g1, rfl, hi1, hrow, hlen⟩
    ·simp (disch := omega) only [go_sem, hfull, h0, h5, h8, h9, h10, hx7, hP]
     obtain ⟨f1, f2, f3⟩ := fin nx1 (.row ⟨136, 2, (nx1, 20), false, true, [.int .i64 (d7 x b).1.1, .int .i64 (d7 x b).1.2]⟩) (.row ⟨136, 2, (nx1, 21), false, true, [.int .i64 (d7 x b).1.1, .int .i64 (d7 x b).1.2]⟩) (by omega)
     have hout0 : out = [] := List.length_eq_zero_iff.1 (by omega)
     refine ⟨_, ?_, i + 1, (d7 x b).2, out ++ [(d7 x b).1], _, by omega, rfl, hbp, by simp [hout], f1, f2, ?_, by omega, f3, hF4, hS1, hnN, ?_, rfl, rfl⟩
     ·omega
     ·refine .inr ⟨nx1, (nx1, 21), by rw [e1], by omega, ?_, ?_⟩
      ·rw [f8, hout0]; rfl
      ·rw [K6, List.length_append, hout]; rfl
     ·intro i' g' n' h
      injection h with h
      injection h with h
      omega
    ·have hi0 := hfr _ _ _ rfl
     have htk : (cP out).take (i * 2) = cP out := j0 hlen
     simp (disch := omega) only [go_sem, hfull, h0, h5, h8, h9, h10, hx7, hP, hrow, htk]
     obtain ⟨f1, f2, f3⟩ := fin i1 (.row ⟨136, 2, (nx1, 20), false, true, [.int .i64 (d7 x b).1.1, .int .i64 (d7 x b).1.2]⟩) (.row ⟨136, 2, (nx1, 21), false, true, cP out ++ [.int .i64 (d7 x b).1.1, .int .i64 (d7 x b).1.2]⟩) hi0
     refine ⟨_, ?_, i + 1, (d7 x b).2, out ++ [(d7 x b).1], _, by omega, rfl, hbp, by simp [hout], f1, f2, ?_, by omega, f3, hF4, hS1, hnN, ?_, rfl, rfl⟩
     ·omega
     ·refine .inr ⟨i1, (nx1, 21), rfl, by omega, ?_, ?_⟩
      ·rw [f8, bL4]; rfl
      ·rw [K6, List.length_append, hout]; rfl
     ·intro i' g' n' h
      injection h with h
      injection h with h
      omega
  ·omega
  ·simp (disch := omega) only [go_sem, h0, h5, h8, h9, h10, hat, hF, hrow2]
   refine U2 (hB.new (hnew _ _) (by omega)) ?_
   intro o1 nx1 hle1 hB1 hk1
   have hx7 : o1 (nx + 1, 7) = some (.row ⟨37, 1, (nx + 1, 7), false, true, cNd x⟩) := by rw [hk1 _ _ (by omega) (fun e => absurd e (by decide)) (by decide) (by decide)]; exact f8 _ _ _
   have hkq := (BKeep.new (t := t) (hnew (.row ⟨37, 1, (nx + 1, 7), false, true, [.int .i64 0, .int .i64 0, .int .i64 0, .int .i64 0, .nil]⟩) (.row ⟨37, 1, (nx + 1, 7), false, true, cNd x⟩))).trans hk1 (by omega)
   have hk01 : BKeep t o0 nx0 o1 := hkp.trans ((BKeep.new (hnew _ _)).trans hk1 (by omega)) hnx
   by_cases hfull : (1000 : Int) < b.n
   ·rw [if_pos (by omega)] at hbp
    simp (disch := omega) only [go_sem, hfull, h0, h5, h8, h9, h10, hx7]
    refine hQ _ _ _ (by omega) ?_ hk01 ?_
    ·rw [hbp]; exact hB1.new (fun _ _ _ => rfl) (by omega)
    ·rw [hbp]; exact HS.nil
   ·rw [if_neg (by omega)] at hbp
    have hHS1 := hHS.keep (o' := o1) (nx' := nx1) (fun i hi => by rw [hk1 _ _ (by omega) (fun e => absurd e (by decide)) (by decide) (by decide), hnew _ _ _ _ hi]) (by omega)
    simp (disch := omega) only [go_sem, hfull, h0, h5, h8, h9, h10, hx7, hP]
    refine ac1 (hpart x hmem t _ _ b (hB1.new (fun _ _ _ => rfl) (by omega)) (hP1 (by omega))) (hB1.new (fun _ _ _ => rfl) (by omega)) ?_
    intro o2 nx2 hle2 hB2 hk2
    have hHS2 := (hHS1.keep (o' := o1) (nx' := nx1 + 1) (fun _ _ => rfl) (by omega)).keep (o' := o2) (nx' := nx2) (fun i hi => by rw [hk2 _ _ (by omega) (fun e => absurd e (by decide)) (by decide) (by decide)]) (by omega)
    have hk02 : BKeep t o0 nx0 o2 := hk01.trans (fun i j (hi : i < nx1) => hk2 i j (by omega)) (by omega)
    have hv2 := (hv'.keep (hkq) (by omega : nx ≤ nx1)).new (o' := o1) (nx' := nx1 + 1) (fun _ _ _ => rfl) (by omega)
    have fin : ∀ (j : Nat) y z, nx0 ≤ j → NdsAt (upd (upd o2 (nx1, 20) y) (j, 21) z) (nx2 + 1) (.ref (i2, 17) g2 0 l.length) l ∧ BAt (upd (upd o2 (nx1, 20) y) (j, 21) z) (nx2 + 1) t (d7 x b).2 ∧ BKeep t o0 nx0 (upd (upd o2 (nx1, 20) y) (j, 21) z) := by
     intro j y z hj
     have hslot : ∀ i' j', j' ≠ 20 → j' ≠ 21 → upd (upd o2 (nx1, 20) y) (j, 21) z (i', j') = o2 (i', j') := fun i' j' h1 h2 => by simp [d6, h1, h2]
     refine ⟨?_, hB2.slot (fun i' j' h => hslot i' j' (by omega) (by omega)) (by omega), fun i' j' hi' h1 h2 h3 => ?_⟩
     ·rcases hv2.keep hk2 hle2 with h | h
      ·exact .inl h
      ·exact .inr (h.keep (fun i' _ => hslot i' 17 (by omega) (by omega)) (by omega))
     ·rw [← hk02 i' j' hi' h1 h2 h3]
      have e1 : i' ≠ nx1 := by omega
      have e2 : i' ≠ j := by omega
      simp [d6, e1, e2]
    have hnN : (d7 x b).2.n ≤ max b0.n (1000 + 2 * hNs l) := by have := hbd.hi; have := hx.2; omega
    have hF4 : (d7 x b).2.f.length ≤ 4 * (d7 x b).2.n := by have := hbd.f4; omega
    have hS1 : (d7 x b).2.s.length ≤ (d7 x b).2.n := by have := hbd.s1; omega
    rcases hHS2 with ⟨rfl, e1, e2⟩ | ⟨i1, g1, rfl, hi1, hrow, hlen⟩
    ·simp (disch := omega) only [go_sem, hfull, h0, h5, h8, h9, h10, hx7, hP]
     obtain ⟨f1, f2, f3⟩ := fin nx1 (.row ⟨136, 2, (nx1, 20), false, true, [.int .i64 (d7 x b).1.1, .int .i64 (d7 x b).1.2]⟩) (.row ⟨136, 2, (nx1, 21), false, true, [.int .i64 (d7 x b).1.1, .int .i64 (d7 x b).1.2]⟩) (by omega)
     have hout0 : out = [] := List.length_eq_zero_iff.1 (by omega)
     refine ⟨_, ?_, i + 1, (d7 x b).2, out ++ [(d7 x b).1], _, by omega, rfl, hbp, by simp [hout], f1, f2, ?_, by omega, f3, hF4, hS1, hnN, ?_, rfl, rfl⟩
     ·omega
     ·refine .inr ⟨nx1, (nx1, 21), by rw [e1], by omega, ?_, ?_⟩
      ·rw [f8, hout0]; rfl
      ·rw [K6, List.length_append, hout]; rfl
     ·intro i' g' n' h
      injection h with h
      injection h with h
      omega
    ·have hi0 := hfr _ _ _ rfl
     have htk : (cP out).take (i * 2) = cP out := j0 hlen
     simp (disch := omega) only [go_sem, hfull, h0, h5, h8, h9, h10, hx7, hP, hrow, htk]
     obtain ⟨f1, f2, f3⟩ := fin i1 (.row ⟨136, 2, (nx1, 20), false, true, [.int .i64 (d7 x b).1.1, .int .i64 (d7 x b).1.2]⟩) (.row ⟨136, 2, (nx1, 21), false, true, cP out ++ [.int .i64 (d7 x b).1.1, .int .i64 (d7 x b).1.2]⟩) hi0
     refine ⟨_, ?_, i + 1, (d7 x b).2, out ++ [(d7 x b).1], _, by omega, rfl, hbp, by simp [hout], f1, f2, ?_, by omega, f3, hF4, hS1, hnN, ?_, rfl, rfl⟩
     ·omega
     ·refine .inr ⟨i1, (nx1, 21), rfl, by omega, ?_, ?_⟩
      ·rw [f8, bL4]; rfl
      ·rw [K6, List.length_append, hout]; rfl
     ·intro i' g' n' h
      injection h with h
      injection h with h
      omega
 ·have he : l.drop i = [] := List.drop_of_length_le (by omega)
  rw [he, l6, d8] at hbp
  simp (disch := omega) only [go_sem, h0, h5, h8, h9, h10]
  refine hQ _ _ _ (by omega) ?_ (hkp) ?_
  ·rw [hbp]; exact hB.new (fun _ _ _ => rfl) (by omega)
  ·rw [hbp]
   show HS _ _ _ _ _ _ out.length (cP out)
   rw [hout]
   simp (disch := omega) only [go_sem]
   exact hHS.keep (fun _ _ => rfl) (by omega)
theorem NdsAt.same {o nx v l l'} (h : NdsAt o nx v l) (h' : NdsAt o nx v l') : l = l' := by
 rcases h with rfl | h
 ·rcases h' with h' | ⟨h', _⟩ | ⟨_, _, h', _⟩
  ·injection h' with _ h'
   exact ab5 h'
  ·cases h'
  ·cases h'
 ·rcases h' with rfl | h'
  ·rcases h with ⟨h, _⟩ | ⟨_, _, h, _⟩ <;> cases h
  ·exact ab5 (h.same h')
theorem az9 {l : List Nd} (hk : as4 l = true) (hlen : l.length ≤ 20) (hpart : ∀ x ∈ l, ∀ t o nx b, BAt o nx t b → Pre (hN x) b → ∃ v H', x8 [bp t, j5 x] ⟨o, nx⟩ v H') {t : Nat} {o : Ob} {nx : Nat} {b : BS} {v0 : AV} (hv : NdsAt o nx v0 l) (h : BAt o nx t b) (hp : Pre (hNs l) b) (hh : hNs l ≤ 1000) :
  ∃ v H', ac0 [bp t, v0] ⟨o, nx⟩ v H' := by
 obtain ⟨cr, hcr⟩ : ∃ cr, cr = p5 [(77, B3 T9), (76, B3 x8)] := ⟨_, rfl⟩
 have hF : cr 77 = B3 T9 := by rw [hcr]; rfl
 have hP : cr 76 = B3 x8 := by rw [hcr]; rfl
 obtain ⟨v, H', h1, h2⟩ := K8 (E := EX md0 (fun _ _ => none)) (cr := cr) (A8 _) (hcr ▸ bc0) mixed (k := 30) (args := [bp t, v0]) (o := o) (nx := nx) (Post := fun v o' nx' => BTo t (d8 (l6 l) b []).2 ⟨o, nx⟩ ⟨o', nx'⟩ ∧ HS 136 2 21 o' nx' v (d8 (l6 l) b []).1.length (cP (d8 (l6 l) b []).1)) Tryd.func90 (bm8 _) rfl (by
  clear hcr
  simp only [Tryd.f90, Option.getD_some]
  have hv' := hv
  rcases hv with rfl | ⟨rfl, e1, e2⟩ | ⟨i2, g2, rfl, hi2, hrow2, hlen2⟩
  all_goals
   simp (disch := omega) only [go_sem]
   refine bc1 hk hlen hpart hF hP (hv'.new (fun _ _ _ => rfl) (by omega)) (h.new (fun _ _ _ => rfl) (by omega)) hp hh (by simp (disch := omega) only [go_sem]) (by simp (disch := omega) only [go_sem]) (by simp (disch := omega) only [go_sem]) ?_ (by simp (disch := omega) only [go_sem]) (BKeep.refl t o nx) (by omega) ?_
   ·simp (disch := omega) only [go_sem]
    try rw [e1]
    try rfl
   ·rintro a o' nx' h1 h2 h3 h4
    simp (disch := omega) only [go_sem]
    exact ⟨⟨h1, h2, h3⟩, h4⟩)
 refine ⟨v, H', h1, fun t' b' l' v0' e hv' hb => ?_⟩
 simp only [List.cons.injEq, AV.ptr.injEq, Prod.mk.injEq, and_true] at e
 obtain ⟨⟨rfl, _⟩, rfl⟩ := e
 rw [← h.same hb, ← hv.same hv']
 exact h2
set_option maxRecDepth 20000
theorem BS.state_f (b : BS) : b.state.f = b.f := rfl
theorem BS.free_f (b : BS) (x y : Int) : (b.free x y).f = b.f ++ [(x, y)] := rfl
theorem BAt.eq {o nx t b b'} (h : BAt o nx t b) (e : b = b') : BAt o nx t b' := e ▸ h
theorem BAt.slot2 {o nx t b} (h : BAt o nx t b) {o' : Ob} {nx' : Nat} (ho : ∀ i j, (j = 8 ∧ i = t ∨ j = 139 ∨ j = 16) → o' (i, j) = o (i, j)) (hn : nx ≤ nx') : BAt o' nx' t b := by
 obtain ⟨vS, vF, h⟩ := h
 exact ⟨vS, vF, ⟨by have := h.lt; omega, by rw [ho _ _ (.inl ⟨rfl, rfl⟩)]; exact h.row, h.s.keep (fun i hi => ho i _ (.inr (.inl rfl))) hn, h.f.keep (fun i hi => ho i _ (.inr (.inr rfl))) hn⟩⟩
def bm9 (args : List AV) (H : AH) (v : AV) (H' : AH) : Prop := OkR Tryd.prog 93 args H v H' ∧ ∀ t b x ar bk, args = [bp t, j5 x, .bool ar, .bool bk] → BAt H.o H.nx t b → v = bE (T7 (d7 x) ar bk b).1 ∧ BTo t (T7 (d7 x) ar bk b).2 H H'
theorem bn0 : u9 Tryd.prog (p5 [(92, B3 R2), (91, B3 U3), (76, B3 x8)]) ∧ Up (p5 [(92, B3 R2), (91, B3 U3), (76, B3 x8)]) :=
 m9 (m9 (m9 (G7 _) fun args H v H' h => (v8 h).1) fun args H v H' h => (v8 h).1) fun args H v H' h => (v8 h).1
theorem bC3 (X) : f7 (EX md0 X) (fun _ => none) 4 Tryd.f93 = true := by kernel_rfl
theorem bT7 {x : Nd} (hk : okN x = true) (hpart : ∀ t o nx b, BAt o nx t b → Pre (hN x) b → ∃ v H', x8 [bp t, j5 x] ⟨o, nx⟩ v H') {t : Nat} {o : Ob} {nx : Nat} {b : BS} (h : BAt o nx t b) (hp : Pre (hN x + 1) b) (hh : hN x ≤ 1000) (ar bk : Bool) :
  ∃ v H', bm9 [bp t, j5 x, .bool ar, .bool bk] ⟨o, nx⟩ v H' := by
 obtain ⟨cr, hcr⟩ : ∃ cr, cr = p5 [(92, B3 R2), (91, B3 U3), (76, B3 x8)] := ⟨_, rfl⟩
 have hS : cr 92 = B3 R2 := by rw [hcr]; rfl
 have hF : cr 91 = B3 U3 := by rw [hcr]; rfl
 have hP : cr 76 = B3 x8 := by rw [hcr]; rfl
 obtain ⟨v, H', h1, h2⟩ := K8 (E := EX md0 (fun _ _ => none)) (cr := cr) (A8 _) (hcr ▸ bn0) mixed (k := 0) (args := [bp t, j5 x, .bool ar, .bool bk]) (o := o) (nx := nx) (Post := fun v o' nx' => v = bE (T7 (d7 x) ar bk b).1 ∧ BTo t (T7 (d7 x) ar bk b).2 ⟨o, nx⟩ ⟨o', nx'⟩) Tryd.func93 (bC3 _) rfl (by
  clear hcr
  simp only [Tryd.f93, Option.getD_some]
  have hnew : ∀ y z, ∀ i j, i < nx → upd (upd o (nx, 5) y) (nx, 8) z (i, j) = o (i, j) := fun y z i j hi => by simp (disch := omega) only [D8]
  have hbd := af2 x hk b.state
  have e1 : b.state.n = b.n + 1 := rfl
  have e2 : b.state.f.length = b.f.length := rfl
  have e3 : b.state.s.length = b.s.length := rfl
  have hp1 := hp.f
  have hp2 := hp.s
  have hp3 := hp.n
  have htn : t < nx := by obtain ⟨vS, vF, h⟩ := h; exact h.lt
  simp (disch := omega) only [go_sem, hS]
  refine E5 (h.new (hnew _ _) (by omega)) (by omega) ?_
  intro o1 nx1 hle1 hB1 hk1
  have k1 : BKeep t o nx o1 := (BKeep.new (hnew (.row ⟨37, 1, (nx, 5), false, true, cNd x⟩) (.row ⟨136, 1, (nx, 8), false, true, [.int .i64 0, .int .i64 0]⟩))).trans hk1 (by omega)
  have hx5 : o1 (nx, 5) = some (.row ⟨37, 1, (nx, 5), false, true, cNd x⟩) := by rw [hk1 _ _ (by omega) (fun e => absurd e (by decide)) (by decide) (by decide)]; simp [d6]
  have hx8 : o1 (nx, 8) = some (.row ⟨136, 1, (nx, 8), false, true, [.int .i64 0, .int .i64 0]⟩) := by rw [hk1 _ _ (by omega) (fun _ => by omega) (by decide) (by decide)]; simp [d6]
  simp (disch := omega) only [go_sem, hx5, hP]
  refine ac1 (hpart t _ _ b.state (hB1.new (fun _ _ _ => rfl) (by omega)) ⟨by omega, by omega, by omega⟩) (hB1.new (fun _ _ _ => rfl) (by omega)) ?_
  intro o2 nx2 hle2 hB2 hk2
  have k2 : BKeep t o nx o2 := k1.trans (fun i j (hi : i < nx1) => hk2 i j (by omega)) (by omega)
  have hy8 : o2 (nx, 8) = some (.row ⟨136, 1, (nx, 8), false, true, [.int .i64 0, .int .i64 0]⟩) := by rw [hk2 _ _ (by omega) (fun _ => by omega) (by decide) (by decide)]; exact hx8
  simp (disch := omega) only [go_sem, hS]
  have hb1 := hbd.hi
  have hb2 := hbd.f4
  have hb3 := hbd.s1
  obtain ⟨q, hq⟩ : ∃ q, q = upd (upd o2 (nx1, 10) (.row ⟨136, 1, (nx1, 10), false, true, [.int .i64 0, .int .i64 0]⟩)) (nx1, 10) (.row ⟨136, 1, (nx1, 10), false, true, [.int .i64 (d7 x b.state).1.1, .int .i64 (d7 x b.state).1.2]⟩) := ⟨_, rfl⟩
  rw [← hq]
  have hz2 : q (nx1, 10) = some (.row ⟨136, 1, (nx1, 10), false, true, [.int .i64 (d7 x b.state).1.1, .int .i64 (d7 x b.state).1.2]⟩) := by rw [hq]; exact f8 _ _ _
  have hq2 : ∀ i j, j ≠ 10 → q (i, j) = o2 (i, j) := fun i j h => by rw [hq]; simp [d6, h]
  have hq3 : ∀ i j, i < nx → q (i, j) = o2 (i, j) := fun i j h => by
   have : i ≠ nx1 := by omega
   rw [hq]; simp [d6, this]
  clear hq
  have hB2' : BAt q (nx2 + 1) t (d7 x b.state).2 := hB2.slot (fun i j hj => hq2 i j (by omega)) (by omega)
  have k2' : BKeep t o nx q := fun i j hi a1 a2 a3 => (hq3 i j hi).trans (k2 i j hi a1 a2 a3)
  have hy2 := (hq2 nx 8 (by decide)).trans hy8
  refine E5 hB2' (by omega) ?_
  intro o3 nx3 hle3 hB3 hk3
  have k3 : BKeep t o nx o3 := k2'.trans (fun i j (hi : i < nx2) => hk3 i j (by omega)) (by omega)
  have hz3 := (hk3 nx1 10 (by omega) (fun e => absurd e (by decide)) (by decide) (by decide)).trans hz2
  have hy3 := (hk3 nx 8 (by omega) (fun _ => by omega) (by decide) (by decide)).trans hy2
  simp (disch := omega) only [go_sem, hF, hz3]
  have hlt3 : t < nx := htn
  have hnn : nx ≤ nx3 := by omega
  cases ar <;> cases bk
  all_goals
   repeat
    refine C3 (hB3.new (fun _ _ _ => rfl) (by omega)) _ _ (by simp only [BS.free_f, BS.state_f, List.length_append, List.length_cons, List.length_nil]; omega) ?_
    intro o3 nx3 hle3 hB4 hk4
    replace k3 : BKeep t o nx o3 := k3.trans (fun i j (hi : i < _) => hk4 i j (by omega)) (by omega)
    replace hz3 := (hk4 nx1 10 (by omega) (fun e => absurd e (by decide)) (by decide) (by decide)).trans hz3
    replace hy3 := (hk4 nx 8 (by omega) (fun _ => by omega) (by decide) (by decide)).trans hy3
    replace hB3 := hB4
    replace hnn : nx ≤ nx3 := by omega
    clear hB4 hk4
    simp (disch := omega) only [go_sem, hF, hz3, hy3]
   refine ⟨rfl, by show nx ≤ nx3 + 1; omega, ?_, fun i j hi a1 a2 a3 => ?_⟩
   ·refine (BAt.slot2 (b := _) hB3 (fun i j hj => ?_) (by show nx3 ≤ nx3 + 1; omega)).eq ?_
    ·have : ¬ (j = 8 ∧ i = nx) := by omega
     exact B9 _ _ _ _ (fun e => this (by injection e with e1 e2; exact ⟨e2, e1⟩))
    ·simp [T7, BS.frees, BS.free, BS.state]
   ·exact (B9 _ _ _ _ (fun e => by injection e with e1 e2; have : i < nx := hi; omega)).trans (k3 i j hi a1 a2 a3))
 refine ⟨v, H', h1, fun t' b' x' ar' bk' e hb => ?_⟩
 simp only [List.cons.injEq, AV.ptr.injEq, Prod.mk.injEq, AV.agg.injEq, AV.bool.injEq, and_true] at e
 obtain ⟨⟨rfl, _⟩, e2, rfl, rfl⟩ := e
 rw [← h.same hb, ← Y4 e2]
 exact h2
set_option maxRecDepth 20000
theorem bn1 {x : Nd} {t : Nat} {o : Ob} {nx : Nat} {b : BS} {ar bk : Bool} {K : AV × AH → Prop} (hex : ∃ v H', bm9 [bp t, j5 x, .bool ar, .bool bk] ⟨o, nx⟩ v H') (h : BAt o nx t b) (hK : ∀ o' nx', nx ≤ nx' → BAt o' nx' t (T7 (d7 x) ar bk b).2 → BKeep t o nx o' → K (bE (T7 (d7 x) ar bk b).1, ⟨o', nx'⟩)) :
  wO (Option.map (fun p => p8 false p.1 p.2) (B3 bm9 [bp t, j5 x, .bool ar, .bool bk] ⟨o, nx⟩)) K := by
 refine K7 hex fun v H' hr => ?_
 obtain ⟨rfl, h1, h2, h3⟩ := hr.2 t b x ar bk rfl h
 exact hK H'.o H'.nx h1 h2 h3
def co4 (args : List AV) (H : AH) (v : AV) (H' : AH) : Prop := OkR Tryd.prog 94 args H v H' ∧ ∀ t b kind set lo hi x l, args = [bp t, j5 (.mk kind set lo hi (x :: l))] → BAt H.o H.nx t b → v = bE (z6 lo hi.toNat (d7 x) b).1 ∧ BTo t (z6 lo hi.toNat (d7 x) b).2 H H'
theorem bT8 (X) : f7 (EX md0 X) (fun _ => none) 2 Tryd.f94 = true := by kernel_rfl
theorem bC4 : u9 Tryd.prog (p5 [(92, B3 R2), (91, B3 U3), (77, B3 T9), (90, B3 ac0)]) ∧ Up (p5 [(92, B3 R2), (91, B3 U3), (77, B3 T9), (90, B3 ac0)]) :=
 m9 (m9 (m9 (m9 (G7 _) fun args H v H' h => (v8 h).1) fun args H v H' h => (v8 h).1) fun args H v H' h => (v8 h).1) fun args H v H' h => (v8 h).1
theorem bn2 {cr : q8} {kind set lo hi : Int} {x : Nd} {l : List Nd} {t r : Nat} {o0 : Ob} {nx0 : Nat} {b : BS} {s5 : AV} {a : n8} {o : Ob} {nx : Nat} {Q : l8} (hh : 0 ≤ hi ∧ hi ≤ 10) (hr : nx0 ≤ r) (hnx : nx0 ≤ nx) (hB : BAt o nx t b) (h3 : a 3 = .ptr (r, 3) (r, 3) 0) (ho3 : o (r, 3) = some (.row ⟨37, 1, (r, 3), false, true, cNd (.mk kind set lo hi (x :: l))⟩)) (ha6 : ∃ i, a 6 = .ref (i, 17) (i, 17) 0 0 ∧ i < nx ∧ nx0 ≤ i ∧ o (i, 17) = some (.row ⟨37, 5, (i, 17), false, true, []⟩)) (ha19 : a 19 = .int .i64 hi) (ha20 : a 20 = .int .i64 0)
  (hmore : a 0 = bp t ∧ a 5 = s5 ∧ a 4 = .ptr (r, 4) (r, 4) 0 ∧ o (r, 4) = some (.row ⟨136, 1, (r, 4), false, true, [.int .i64 0, .int .i64 0]⟩) ∧ BKeep t o0 nx0 o)
  (hQ : ∀ a o nx v, nx0 ≤ nx → a 6 = v → HS 37 5 17 o nx v hi.toNat (K9 (List.replicate hi.toNat x)) → a 3 = .ptr (r, 3) (r, 3) 0 → o (r, 3) = some (.row ⟨37, 1, (r, 3), false, true, cNd (.mk kind set lo hi (x :: l))⟩) → BAt o nx t b → a 0 = bp t → a 5 = s5 → a 4 = .ptr (r, 4) (r, 4) 0 → o (r, 4) = some (.row ⟨136, 1, (r, 4), false, true, [.int .i64 0, .int .i64 0]⟩) → BKeep t o0 nx0 o → Q .normal a o nx) :
  WP (EX md0 (fun _ _ => none)) cr 30 (fun _ => none) (v7 [1, 1, 1, 0, 1, 0] (Tryd.f94.body.getD .skip)) a o nx (K5 0 Q) := by
 simp only [Tryd.f94, Option.getD_some, v7]
 refine u2 (fun m a o nx => ∃ (i j : Nat) (g : Tag), (i : Int) ≤ hi ∧ m = (hi - i).toNat ∧ nx0 ≤ nx ∧ a 6 = .ref (j, 17) g 0 i ∧ j < nx ∧ nx0 ≤ j ∧ o (j, 17) = some (.row ⟨37, 5, g, false, true, K9 (List.replicate i x)⟩) ∧ a 3 = .ptr (r, 3) (r, 3) 0 ∧ o (r, 3) = some (.row ⟨37, 1, (r, 3), false, true, cNd (.mk kind set lo hi (x :: l))⟩) ∧ a 19 = .int .i64 hi ∧ a 20 = .int .i64 i ∧ BAt o nx t b ∧ a 0 = bp t ∧ a 5 = s5 ∧ a 4 = .ptr (r, 4) (r, 4) 0 ∧ o (r, 4) = some (.row ⟨136, 1, (r, 4), false, true, [.int .i64 0, .int .i64 0]⟩) ∧ BKeep t o0 nx0 o) hi.toNat (by omega) ?_ ?_
 ·obtain ⟨i, e1, e2, e3, e4⟩ := ha6
  exact ⟨0, i, (i, 17), by omega, by omega, hnx, e1, e2, e3, e4, h3, ho3, ha19, ha20, hB, hmore⟩
 ·clear hmore
  rintro m a o nx ⟨i, j, g, hi', rfl, hnx, h6, hj, hj0, hrow, h3, ho3, h19, h20, hB, h0, h5, h4, ho4, hkp⟩
  by_cases hlt : (i : Int) < hi
  ·have hat := A1 x l
   obtain ⟨cs, hcs⟩ : ∃ cs, cs = K9 (List.replicate i x) := ⟨_, rfl⟩
   have hln : cs.length = i * 5 := by rw [hcs, C2, List.length_replicate]
   have htk : cs.take (i * 5) = cs := j0 hln
   rw [← hcs] at hrow
   have hsn : K9 (List.replicate (i + 1) x) = cs ++ cNd x := by rw [List.replicate_succ', W3, C7, hcs]
   simp (disch := omega) only [go_sem, h6, h3, ho3, h19, h20, hrow, hat, hln, htk, h0, h5, h4, ho4]
   refine ⟨_, ?_, i + 1, j, (nx + 1, 28), by omega, rfl, by omega, rfl, by omega, hj0, by rw [if_pos rfl, hsn], rfl, ?_, ?_⟩
   ·omega
   ·exact hB.slot2 (fun i' j' hj' => by simp [d6, show j' ≠ 17 by omega, show j' ≠ 27 by omega]) (by omega)
   ·intro i' j' hi1 a1 a2 a3
    rw [← hkp i' j' hi1 a1 a2 a3]
    have e1 : i' ≠ j := by omega
    have e2 : i' ≠ nx + 1 := by omega
    simp [d6, e1, e2]
  ·have hie : hi.toNat = i := by omega
   simp (disch := omega) only [go_sem, h6, h3, ho3, h19, h20, hrow]
   refine hQ _ _ _ _ (by omega) rfl ?_ (by simp (disch := omega) only [go_sem, h3]) ho3 (hB.new (fun _ _ _ => rfl) (by omega)) (by simp (disch := omega) only [go_sem, h0]) (by simp (disch := omega) only [go_sem, h5]) (by simp (disch := omega) only [go_sem, h4]) ho4 hkp
   simp (disch := omega) only [go_sem, h6]
   rw [hie]
   exact .inr ⟨j, g, rfl, by omega, hrow, by rw [C2, List.length_replicate]⟩
theorem L4 (b : BS) : b.frees [] = b := by cases b; simp [BS.frees]
theorem C8 (b : BS) (x y : Int) (l) : b.frees ((x, y) :: l) = (b.free x y).frees l := by simp [BS.frees, BS.free]
theorem bn3 (b : BS) (k l) : b.frees (k ++ l) = (b.frees k).frees l := by simp [BS.frees]
theorem L5 {α : Type} (l : List α) (d : α) {i : Nat} (h : i < l.length) : l.drop i = l.getD i d :: l.drop (i + 1) := by
 rw [List.drop_eq_getElem_cons h, List.getD_eq_getElem?_getD, List.getElem?_eq_getElem h]; rfl
theorem aN8 {lo e : Int} {p : List (Int × Int)} {i : Nat} (h : i + 1 = p.length) : r9 lo e i (p.drop i) = [((p.getD i (0, 0)).2, e)] ∧ p.drop (i + 1) = [] := by
 have e1 : p.drop (i + 1) = [] := List.drop_of_length_le (by omega)
 rw [L5 p (0, 0) (show i < p.length by omega), e1]
 exact ⟨by rw [r9], rfl⟩
theorem aN9 {lo e : Int} {p : List (Int × Int)} {i : Nat} (h : i + 1 < p.length) : r9 lo e i (p.drop i) = (if (i : Int) + 1 ≥ lo then [((p.getD i (0, 0)).2, e)] else []) ++ ((p.getD i (0, 0)).2, (p.getD (i + 1) (0, 0)).1) :: r9 lo e (i + 1) (p.drop (i + 1)) := by
 rw [L5 p (0, 0) (show i < p.length by omega), L5 p (0, 0) h, r9]
theorem BKeep.row {t o nx o'} (h : BKeep t o nx o') {i j : Nat} {x : Option AObj} (hx : o (i, j) = x) (hi : i < nx) (h1 : j = 8 → i ≠ t) (h2 : j ≠ 139) (h3 : j ≠ 16) : o' (i, j) = x := (h i j hi h1 h2 h3).trans hx
theorem bn4 {cr : q8} (hF : cr 91 = B3 U3) {kind set lo hi e : Int} {x : Nd} {l : List Nd} {t r : Nat} {o0 : Ob} {nx0 : Nat} {T b : BS} {p : List (Int × Int)} {vp s5 : AV} {a : n8} {o : Ob} {nx : Nat} {Q : l8} (hlo : 0 ≤ lo ∧ lo ≤ 10) (hlen : p.length ≤ 10) (hr : nx0 ≤ r) (hrn : r < nx) (hnx : nx0 ≤ nx) (hB : BAt o nx t b) (hT : b.frees (r9 lo e 0 p) = T) (hbf : b.f.length ≤ 1000000) (hp : HS 136 2 21 o nx vp p.length (cP p)) (h3 : a 3 = .ptr (r, 3) (r, 3) 0) (ho3 : o (r, 3) = some (.row ⟨37, 1, (r, 3), false, true, cNd (.mk kind set lo hi (x :: l))⟩)) (h7 : a 7 = vp) (h52 : a 52 = vp) (h53 : a 53 = .int .i64 p.length) (h54 : a 54 = .int .i64 0)
  (hmore : a 0 = bp t ∧ a 5 = s5 ∧ a 4 = .ptr (r, 4) (r, 4) 0 ∧ o (r, 4) = some (.row ⟨136, 1, (r, 4), false, true, [.int .i64 0, .int .i64 0]⟩) ∧ a 8 = .int .i64 e ∧ a 9 = .fn (.func 91) [bp t] [] ∧ BKeep t o0 nx0 o)
  (hQ : ∀ a o nx, nx0 ≤ nx → r < nx → a 3 = .ptr (r, 3) (r, 3) 0 → o (r, 3) = some (.row ⟨37, 1, (r, 3), false, true, cNd (.mk kind set lo hi (x :: l))⟩) → BAt o nx t T → a 0 = bp t → a 5 = s5 → a 4 = .ptr (r, 4) (r, 4) 0 → o (r, 4) = some (.row ⟨136, 1, (r, 4), false, true, [.int .i64 0, .int .i64 0]⟩) → a 8 = .int .i64 e → a 9 = .fn (.func 91) [bp t] [] → BKeep t o0 nx0 o → Q .normal a o nx) :
  WP (EX md0 (fun _ _ => none)) cr 30 (fun _ => none) (v7 [1, 1, 1, 1, 1, 1, 1, 1, 1, 0, 1, 0] (Tryd.f94.body.getD .skip)) a o nx (K5 2 Q) := by
 simp only [Tryd.f94, Option.getD_some, v7]
 refine u2 (fun m a o nx => ∃ (i : Nat) (b : BS), i ≤ p.length ∧ m = p.length - i ∧ nx0 ≤ nx ∧ r < nx ∧ BAt o nx t b ∧ b.frees (r9 lo e i (p.drop i)) = T ∧ b.f.length ≤ 1000000 + 2 * i ∧ HS 136 2 21 o nx vp p.length (cP p) ∧ a 3 = .ptr (r, 3) (r, 3) 0 ∧ o (r, 3) = some (.row ⟨37, 1, (r, 3), false, true, cNd (.mk kind set lo hi (x :: l))⟩) ∧ a 7 = vp ∧ a 52 = vp ∧ a 53 = .int .i64 p.length ∧ a 54 = .int .i64 i ∧ a 0 = bp t ∧ a 5 = s5 ∧ a 4 = .ptr (r, 4) (r, 4) 0 ∧ o (r, 4) = some (.row ⟨136, 1, (r, 4), false, true, [.int .i64 0, .int .i64 0]⟩) ∧ a 8 = .int .i64 e ∧ a 9 = .fn (.func 91) [bp t] [] ∧ BKeep t o0 nx0 o) p.length (by omega) ⟨0, b, by omega, by omega, hnx, hrn, hB, hT, by omega, hp, h3, ho3, h7, h52, h53, h54, hmore⟩ ?_
 clear hmore h3 ho3 h7 h52 h53 h54 hB hT hbf hp hrn hnx
 rintro m a o nx ⟨i, b, hi, rfl, hnx, hrn, hB, hT, hbf, hp, h3, ho3, h7, h52, h53, h54, h0, h5, h4, ho4, h8, h9, hkp⟩
 by_cases hlt : i < p.length
 ·rcases hp with ⟨_, e1, _⟩ | ⟨i1, g1, rfl, hi1, hrow, hlen'⟩
  ·omega
  ·have hat := aM8 hlt
   have hsl : ∀ y z i' j', j' ≠ 11 → upd (upd o (nx + 1, 11) y) (nx + 1, 11) z (i', j') = o (i', j') := fun y z i' j' h => by simp [d6, h]
   have hsn : ∀ y z i' j', i' < nx → upd (upd o (nx + 1, 11) y) (nx + 1, 11) z (i', j') = o (i', j') := fun y z i' j' h => by
    have : i' ≠ nx + 1 := by omega
    simp [d6, this]
   by_cases hl : i + 1 = p.length
   ·have hl' : ((i : Int) = (p.length : Int) - 1) = True := eq_true (by omega)
    simp (disch := omega) only [go_sem, h0, h3, ho3, h7, h8, h9, h52, h53, h54, hrow, hat, hF, hl']
    refine C3 (hB.slot2 (fun i' j' hj' => hsl _ _ i' j' (by omega)) (by omega)) _ _ (by omega) ?_
    intro o1 nx1 hle1 hB1 hk1
    have k1 : BKeep t o nx o1 := (BKeep.new (hsn _ _)).trans hk1 (by omega)
    simp (disch := omega) only [go_sem, h0, h3, ho3, h7, h8, h9, h52, h53, h54, hrow, hat, hF, hl']
    obtain ⟨q1, q2⟩ := aN8 (lo := lo) (e := e) hl
    rw [q1, C8, L4] at hT
    refine ⟨_, ?_, i + 1, _, by omega, rfl, by omega, by omega, hB1.new (fun _ _ _ => rfl) (by omega), ?_, by simp only [BS.free_f, List.length_append, List.length_cons, List.length_nil]; omega, .inr ⟨i1, g1, rfl, by omega, k1.row hrow hi1 (fun e => absurd e (by decide)) (by decide) (by decide), hlen'⟩, k1.row ho3 hrn (fun e => absurd e (by decide)) (by decide) (by decide), rfl, h5, h4, k1.row ho4 hrn (fun e => absurd e (by decide)) (by decide) (by decide), hkp.trans k1 hnx⟩
    ·omega
    ·rw [q2, r9, L4, hT]
   ·have hl' : ¬ (i : Int) = (p.length : Int) - 1 := by omega
    have hat2 := aM8 (show i + 1 < p.length by omega)
    have q1 := aN9 (lo := lo) (e := e) (show i + 1 < p.length by omega)
    by_cases hlo' : (i : Int) + 1 ≥ lo
    ·rw [q1, if_pos hlo', List.singleton_append, C8, C8] at hT
     simp (disch := omega) only [go_sem, h0, h3, ho3, h7, h8, h9, h52, h53, h54, hrow, hat, hF, hl', hlo', hat2]
     refine C3 (hB.slot2 (fun i' j' hj' => hsl _ _ i' j' (by omega)) (by omega)) _ _ (by omega) ?_
     intro o1 nx1 hle1 hB1 hk1
     have k1 : BKeep t o nx o1 := (BKeep.new (hsn _ _)).trans hk1 (by omega)
     have hz1 : o1 (nx + 1, 11) = some (.row ⟨136, 1, (nx + 1, 11), false, true, [.int .i64 (p.getD i (0, 0)).1, .int .i64 (p.getD i (0, 0)).2]⟩) := by rw [hk1 _ _ (by omega) (fun e => absurd e (by decide)) (by decide) (by decide)]; exact f8 _ _ _
     have hrow1 := k1.row hrow hi1 (fun e => absurd e (by decide)) (by decide) (by decide)
     have ho31 := k1.row ho3 hrn (fun e => absurd e (by decide)) (by decide) (by decide)
     have ho41 := k1.row ho4 hrn (fun e => absurd e (by decide)) (by decide) (by decide)
     simp (disch := omega) only [go_sem, h0, h3, ho31, h7, h8, h9, h52, h53, h54, hrow1, hat, hF, hl', hat2, hz1]
     refine C3 (hB1.new (fun _ _ _ => rfl) (by omega)) _ _ (by simp only [BS.free_f, List.length_append, List.length_cons, List.length_nil]; omega) ?_
     intro o2 nx2 hle2 hB2 hk2
     have k2 : BKeep t o nx o2 := k1.trans (fun i j (hi : i < nx1) => hk2 i j (by omega)) (by omega)
     simp (disch := omega) only [go_sem, h0, h3, ho31, h7, h8, h9, h52, h53, h54, hrow1, hat, hF, hl', hat2, hz1]
     refine ⟨_, ?_, i + 1, _, by omega, rfl, by omega, by omega, hB2.new (fun _ _ _ => rfl) (by omega), hT, by simp only [BS.free_f, List.length_append, List.length_cons, List.length_nil]; omega, .inr ⟨i1, g1, rfl, by omega, k2.row hrow hi1 (fun e => absurd e (by decide)) (by decide) (by decide), hlen'⟩, k2.row ho3 hrn (fun e => absurd e (by decide)) (by decide) (by decide), rfl, h5, h4, k2.row ho4 hrn (fun e => absurd e (by decide)) (by decide) (by decide), hkp.trans k2 hnx⟩
     omega
    ·rw [q1, if_neg hlo', List.nil_append, C8] at hT
     simp (disch := omega) only [go_sem, h0, h3, ho3, h7, h8, h9, h52, h53, h54, hrow, hat, hF, hl', hlo', hat2]
     refine C3 (hB.slot2 (fun i' j' hj' => hsl _ _ i' j' (by omega)) (by omega)) _ _ (by omega) ?_
     intro o1 nx1 hle1 hB1 hk1
     have k1 : BKeep t o nx o1 := (BKeep.new (hsn _ _)).trans hk1 (by omega)
     simp (disch := omega) only [go_sem, h0, h3, ho3, h7, h8, h9, h52, h53, h54, hrow, hat, hF, hl']
     refine ⟨_, ?_, i + 1, _, by omega, rfl, by omega, by omega, hB1.new (fun _ _ _ => rfl) (by omega), hT, by simp only [BS.free_f, List.length_append, List.length_cons, List.length_nil]; omega, .inr ⟨i1, g1, rfl, by omega, k1.row hrow hi1 (fun e => absurd e (by decide)) (by decide) (by decide), hlen'⟩, k1.row ho3 hrn (fun e => absurd e (by decide)) (by decide) (by decide), rfl, h5, h4, k1.row ho4 hrn (fun e => absurd e (by decide)) (by decide) (by decide), hkp.trans k1 hnx⟩
     omega
 ·simp (disch := omega) only [go_sem, h0, h3, ho3, h7, h8, h9, h52, h53, h54]
  rw [List.drop_of_length_le (by omega), r9, L4] at hT
  refine hQ _ _ _ (by omega) (by omega) (by simp (disch := omega) only [go_sem, h3]) ho3 (hT ▸ hB.new (fun _ _ _ => rfl) (by omega)) (by simp (disch := omega) only [go_sem, h0]) (by simp (disch := omega) only [go_sem, h5]) (by simp (disch := omega) only [go_sem, h4]) ho4 (by simp (disch := omega) only [go_sem, h8]) (by simp (disch := omega) only [go_sem, h9]) hkp
set_option maxRecDepth 20000
theorem bc2 (x : Nd) (n : Nat) : l6 (List.replicate n x) = List.replicate n (d7 x) := by
 induction n with
 | zero => rw [List.replicate_zero, l6]; rfl
 | succ n ih => rw [List.replicate_succ, l6, ih, List.replicate_succ]
theorem bC5 {x : Nd} (h : okN x = true) (n : Nat) : as4 (List.replicate n x) = true := by
 induction n with
 | zero => rw [List.replicate_zero, as4]
 | succ n ih => rw [List.replicate_succ, as4, h, ih]; rfl
theorem bT9 (x : Nd) (n : Nat) : hNs (List.replicate n x) ≤ hN x := by
 induction n with
 | zero => rw [List.replicate_zero, hNs]; omega
 | succ n ih => rw [List.replicate_succ, hNs]; omega
theorem aA0 {cr : q8} (hF : cr 91 = B3 U3) {kind set lo hi n0 e : Int} {x : Nd} {l : List Nd} {t r : Nat} {o0 : Ob} {nx0 : Nat} {T b : BS} {p : List (Int × Int)} {vp : AV} {a : n8} {o : Ob} {nx : Nat} {Q : l8} (hlo : 0 ≤ lo ∧ lo ≤ 10) (hlen : p.length ≤ 10) (hr : nx0 ≤ r) (hrn : r < nx) (hnx : nx0 ≤ nx) (hB : BAt o nx t b) (hT : b.frees (r9 lo e 0 p ++ (if lo = 0 then [(n0, e)] else [])) = T) (hbf : b.f.length ≤ 1000000) (hp : HS 136 2 21 o nx vp p.length (cP p)) (h3 : a 3 = .ptr (r, 3) (r, 3) 0) (ho3 : o (r, 3) = some (.row ⟨37, 1, (r, 3), false, true, cNd (.mk kind set lo hi (x :: l))⟩)) (h7 : a 7 = vp) (h52 : a 52 = vp) (h53 : a 53 = .int .i64 p.length) (h54 : a 54 = .int .i64 0)
  (hmore : a 0 = bp t ∧ a 5 = .int .i64 n0 ∧ a 4 = .ptr (r, 4) (r, 4) 0 ∧ o (r, 4) = some (.row ⟨136, 1, (r, 4), false, true, [.int .i64 0, .int .i64 0]⟩) ∧ a 8 = .int .i64 e ∧ a 9 = .fn (.func 91) [bp t] [] ∧ BKeep t o0 nx0 o)
  (hQ : ∀ a o nx, nx0 ≤ nx → BAt o nx t T → a 4 = .ptr (r, 4) (r, 4) 0 → o (r, 4) = some (.row ⟨136, 1, (r, 4), false, true, [.int .i64 n0, .int .i64 e]⟩) → BKeep t o0 nx0 o → Q .ret a o nx) :
  WP (EX md0 (fun _ _ => none)) cr 30 (fun _ => none) (v7 [1, 1, 1, 1, 1, 1, 1, 1, 1, 0, 1, 0] (Tryd.f94.body.getD .skip)) a o nx (K5 2 (ay5 (EX md0 (fun _ _ => none)) cr 30 (fun _ => none) (v7 [1, 1, 1, 1, 1, 1, 1, 1, 1, 1] (Tryd.f94.body.getD .skip)) Q)) := by
 obtain ⟨h0, h5, h4, ho4, h8, h9, hkp⟩ := hmore
 rw [bn3] at hT
 obtain ⟨b1, hb1⟩ : ∃ b1, b1 = b.frees (r9 lo e 0 p) := ⟨_, rfl⟩
 have hl1 : b1.f.length ≤ 1000030 := by
  have := af1 lo e 0 p
  rw [hb1]; show (b.f ++ _).length ≤ _
  rw [List.length_append]; omega
 rw [← hb1] at hT
 refine bn4 hF hlo hlen hr hrn hnx hB hb1.symm hbf hp h3 ho3 h7 h52 h53 h54 ⟨h0, h5, h4, ho4, h8, h9, hkp⟩ ?_
 clear h3 h7 h52 h53 h54 h0 h5 h4 h8 h9 ho3 ho4 hkp hp hB
 clear hnx hrn
 intro a o nx hnx hrn' h3 ho3 hB h0 h5 h4 ho4 h8 h9 hkp
 rw [o7] at ho3
 have hs4 : ∀ (o : Ob) y i j, j ≠ 4 → upd o (r, 4) y (i, j) = o (i, j) := fun o y i j hj => by simp [d6, hj]
 have hn4 : ∀ (o : Ob) y i j, i < nx0 → upd o (r, 4) y (i, j) = o (i, j) := fun o y i j hi => by
  have : i ≠ r := by omega
  simp [d6, this]
 simp only [Tryd.f94, Option.getD_some, v7]
 by_cases hz : lo = 0
 ·rw [if_pos hz, C8, L4] at hT
  simp (disch := omega) only [go_sem, h0, h3, h4, h5, h8, h9, ho3, hF, hz]
  refine C3 (hB.new (fun _ _ _ => rfl) (by omega)) _ _ (by omega) ?_
  intro o1 nx1 hle1 hB1 hk1
  have k1 : BKeep t o nx o1 := fun i j (hi : i < nx) => hk1 i j (by omega)
  have ho41 := k1.row ho4 hrn' (fun e => absurd e (by decide)) (by decide) (by decide)
  simp (disch := omega) only [go_sem, h0, h3, h4, h5, h8, h9, ho3, hF, hz, ho41]
  exact hQ _ _ _ (by omega) (hT ▸ hB1.slot2 (fun i j hj => hs4 o1 _ i j (by omega)) (by omega)) (by simp (disch := omega) only [go_sem, h4]) (f8 _ _ _) ((hkp.trans k1 hnx).trans (fun i j hi _ _ _ => hn4 o1 _ i j hi) (by omega))
 ·rw [if_neg hz, L4] at hT
  simp (disch := omega) only [go_sem, h0, h3, h4, h5, h8, h9, ho3, hF, hz, ho4]
  exact hQ _ _ _ (by omega) (hT ▸ hB.slot2 (fun i j hj => hs4 o _ i j (by omega)) (by omega)) (by simp (disch := omega) only [go_sem, h4]) (f8 _ _ _) (hkp.trans (fun i j hi _ _ _ => hn4 o _ i j hi) (by omega))
theorem bU0 {cr : q8} (hF : cr 91 = B3 U3) {kind set lo hi : Int} {x : Nd} {l : List Nd} {t nx nx5 : Nat} {o o5 : Ob} {T b : BS} {r : List (Int × Int) × BS} {v3 : AV} {a : n8} {Q : l8} (hlo : 0 ≤ lo ∧ lo ≤ 10) (b3 : r.1.length ≤ 10) (htn : t < nx) (hle : nx < nx5) (hB5 : BAt o5 nx5 t r.2.state) (hbr : r.2.state.frees (Y6 b.n r.1 ++ r9 lo r.2.n 0 r.1 ++ (if lo = 0 then [((b.n : Int), (r.2.n : Int))] else [])) = T) (hbf : r.2.state.f.length ≤ 900000) (hv5 : HS 136 2 21 o5 nx5 v3 r.1.length (cP r.1)) (ha3 : a 3 = .ptr (nx, 3) (nx, 3) 0) (hx3'' : o5 (nx, 3) = some (.row ⟨37, 1, (nx, 3), false, true, cNd (.mk kind set lo hi (x :: l))⟩)) (ha7 : a 7 = v3)
  (ha0 : a 0 = bp t) (ha5 : a 5 = .int .i64 b.n) (ha4 : a 4 = .ptr (nx, 4) (nx, 4) 0) (hx4' : o5 (nx, 4) = some (.row ⟨136, 1, (nx, 4), false, true, [.int .i64 0, .int .i64 0]⟩)) (ha8 : a 8 = .int .i64 r.2.n) (k05 : BKeep t o nx o5)
  (hfin : ∀ a o' nx', nx ≤ nx' → BAt o' nx' t T → a 4 = .ptr (nx, 4) (nx, 4) 0 → o' (nx, 4) = some (.row ⟨136, 1, (nx, 4), false, true, [.int .i64 b.n, .int .i64 r.2.n]⟩) → BKeep t o nx o' → Q .ret a o' nx') :
  WP (EX md0 (fun _ _ => none)) cr 30 (fun _ => none) (v7 [1, 1, 1, 1, 1, 1, 1] (Tryd.f94.body.getD .skip)) a o5 nx5 Q := by
 simp only [Tryd.f94, Option.getD_some, v7]
 have hT0 : Y6 (b.n : Int) r.1 = [] ∧ r.1 = [] ∨ ∃ p0 pl, r.1 = p0 :: pl ∧ Y6 (b.n : Int) r.1 = [((b.n : Int), p0.1)] := by
  cases r.1 with
  | nil => exact .inl ⟨rfl, rfl⟩
  | cons p0 pl => exact .inr ⟨p0, pl, rfl, rfl⟩
 rcases hT0 with ⟨q1, q2⟩ | ⟨p0, pl, q1, q2⟩
 ·rw [q1, List.nil_append] at hbr
  rcases hv5 with ⟨rfl, _, _⟩ | ⟨i1, g1, rfl, hi1, hrow, hlen'⟩
  ·simp (disch := omega) only [go_sem, ha0, ha3, ha4, ha5, ha7, ha8]
   refine aA0 hF hlo b3 (Nat.le_refl nx) (by omega) (by omega) (hB5.new (fun _ _ _ => rfl) (by omega)) hbr (by omega) (.inl ⟨rfl, by rw [q2]; rfl, by rw [q2]; rfl⟩) (by simp (disch := omega) only [go_sem, ha3]) hx3'' (by simp (disch := omega) only [go_sem, ha7]) (by simp (disch := omega) only [go_sem]) (by rw [q2]; simp (disch := omega) only [go_sem]) (by simp (disch := omega) only [go_sem]) ⟨by simp (disch := omega) only [go_sem, ha0], by simp (disch := omega) only [go_sem, ha5], by simp (disch := omega) only [go_sem, ha4], hx4', by simp (disch := omega) only [go_sem, ha8], by simp (disch := omega) only [go_sem, ha0], k05⟩ hfin
  ·have hz : ¬ (0 : Int) < r.1.length := by rw [q2]; decide
   simp (disch := omega) only [go_sem, ha0, ha3, ha4, ha5, ha7, ha8, hz]
   refine aA0 hF hlo b3 (Nat.le_refl nx) (by omega) (by omega) (hB5.new (fun _ _ _ => rfl) (by omega)) hbr (by omega) (.inr ⟨i1, g1, rfl, by omega, hrow, hlen'⟩) (by simp (disch := omega) only [go_sem, ha3]) hx3'' (by simp (disch := omega) only [go_sem, ha7]) (by simp (disch := omega) only [go_sem]) (by simp (disch := omega) only [go_sem]) (by simp (disch := omega) only [go_sem]) ⟨by simp (disch := omega) only [go_sem, ha0], by simp (disch := omega) only [go_sem, ha5], by simp (disch := omega) only [go_sem, ha4], hx4', by simp (disch := omega) only [go_sem, ha8], by simp (disch := omega) only [go_sem, ha0], k05⟩ hfin
 ·rw [q2, List.append_assoc, List.singleton_append, C8] at hbr
  rcases hv5 with ⟨rfl, e, _⟩ | ⟨i1, g1, rfl, hi1, hrow, hlen'⟩
  ·rw [q1] at e; simp at e
  ·have hz : (0 : Int) < r.1.length := by rw [q1]; simp
   have hat : cP r.1 = .int .i64 p0.1 :: .int .i64 p0.2 :: cP pl := by rw [q1]; rfl
   simp (disch := omega) only [go_sem, ha0, ha3, ha4, ha5, ha7, ha8, hz, hrow, hat, hF]
   refine C3 (hB5.new (fun _ _ _ => rfl) (by omega)) _ _ (by omega) ?_
   intro o6 nx6 hle6 hB6 k6
   have k06 : BKeep t o nx o6 := k05.trans (fun i j (hi : i < nx5) => k6 i j (by omega)) (by omega)
   have hx36 := k6.row hx3'' (by omega) (fun e => absurd e (by decide)) (by decide) (by decide)
   have hx46 := k6.row hx4' (by omega) (fun e => absurd e (by decide)) (by decide) (by decide)
   have hrow6 := k6.row hrow (by omega) (fun e => absurd e (by decide)) (by decide) (by decide)
   simp (disch := omega) only [go_sem, ha0, ha3, ha4, ha5, ha7, ha8, hz, hrow, hat, hF]
   refine aA0 hF hlo b3 (Nat.le_refl nx) (by omega) (by omega) (hB6.new (fun _ _ _ => rfl) (by omega)) hbr (by simp only [BS.free_f, List.length_append, List.length_cons, List.length_nil]; omega) (.inr ⟨i1, g1, rfl, by omega, hrow6, hlen'⟩) (by simp (disch := omega) only [go_sem, ha3]) hx36 (by simp (disch := omega) only [go_sem, ha7]) (by simp (disch := omega) only [go_sem]) (by simp (disch := omega) only [go_sem]) (by simp (disch := omega) only [go_sem]) ⟨by simp (disch := omega) only [go_sem, ha0], by simp (disch := omega) only [go_sem, ha5], by simp (disch := omega) only [go_sem, ha4], hx46, by simp (disch := omega) only [go_sem, ha8], by simp (disch := omega) only [go_sem, ha0], k06⟩ hfin
theorem co5 {kind set lo hi : Int} {x : Nd} {l : List Nd} (hk : okN x = true) (hlo : 0 ≤ lo ∧ lo ≤ 10) (hhi : 0 ≤ hi ∧ hi ≤ 10) (hpart : ∀ t o nx b, BAt o nx t b → Pre (hN x) b → ∃ v H', x8 [bp t, j5 x] ⟨o, nx⟩ v H') {t : Nat} {o : Ob} {nx : Nat} {b : BS} (h : BAt o nx t b) (hp : Pre (hN x + 1) b) (hh : hN x ≤ 1000) :
  ∃ v H', co4 [bp t, j5 (.mk kind set lo hi (x :: l))] ⟨o, nx⟩ v H' := by
 obtain ⟨cr, hcr⟩ : ∃ cr, cr = p5 [(92, B3 R2), (91, B3 U3), (77, B3 T9), (90, B3 ac0)] := ⟨_, rfl⟩
 have hS : cr 92 = B3 R2 := by rw [hcr]; rfl
 have hF : cr 91 = B3 U3 := by rw [hcr]; rfl
 have hU : cr 77 = B3 T9 := by rw [hcr]; rfl
 have hP : cr 90 = B3 ac0 := by rw [hcr]; rfl
 obtain ⟨nd, hnd⟩ : ∃ nd, nd = Nd.mk kind set lo hi (x :: l) := ⟨_, rfl⟩
 have hcn : cNd nd = [.int .i64 kind, .int .i64 set, .int .i64 lo, .int .i64 hi, slN (x :: l)] := by rw [hnd, o7]
 obtain ⟨v, H', h1, h2⟩ := K8 (E := EX md0 (fun _ _ => none)) (cr := cr) (A8 _) (hcr ▸ bC4) mixed (k := 30) (args := [bp t, j5 nd]) (o := o) (nx := nx) (Post := fun v o' nx' => v = bE (z6 lo hi.toNat (d7 x) b).1 ∧ BTo t (z6 lo hi.toNat (d7 x) b).2 ⟨o, nx⟩ ⟨o', nx'⟩) Tryd.func94 (bT8 _) rfl (by
  clear hcr
  simp only [Tryd.f94, Option.getD_some]
  have hnew : ∀ y z, ∀ i j, i < nx → upd (upd o (nx, 3) y) (nx, 4) z (i, j) = o (i, j) := fun y z i j hi => by simp (disch := omega) only [D8]
  have e1 : b.state.n = b.n + 1 := rfl
  have e2 : b.state.f.length = b.f.length := rfl
  have e3 : b.state.s.length = b.s.length := rfl
  have hp1 := hp.f
  have hp2 := hp.s
  have hp3 := hp.n
  have htn : t < nx := by obtain ⟨vS, vF, h⟩ := h; exact h.lt
  simp (disch := omega) only [go_sem, hS]
  refine E5 (h.new (hnew _ _) (by omega)) (by omega) ?_
  intro o1 nx1 hle1 hB1 hk1
  have k1 : BKeep t o nx o1 := (BKeep.new (hnew (.row ⟨37, 1, (nx, 3), false, true, cNd nd⟩) (.row ⟨136, 1, (nx, 4), false, true, [.int .i64 0, .int .i64 0]⟩))).trans hk1 (by omega)
  have hx3 : o1 (nx, 3) = some (.row ⟨37, 1, (nx, 3), false, true, cNd nd⟩) := by rw [hk1 _ _ (by omega) (fun e => absurd e (by decide)) (by decide) (by decide)]; simp [d6]
  have hx4 : o1 (nx, 4) = some (.row ⟨136, 1, (nx, 4), false, true, [.int .i64 0, .int .i64 0]⟩) := by rw [hk1 _ _ (by omega) (fun e => absurd e (by decide)) (by decide) (by decide)]; simp [d6]
  have hx3' := hx3
  rw [hcn] at hx3'
  simp (disch := omega) only [go_sem, hx3']
  have hn17 : ∀ y i j, i < nx1 → upd o1 (nx1, 17) y (i, j) = o1 (i, j) := fun y i j hi => by simp (disch := omega) only [D8]
  rw [hnd] at hx3
  refine bn2 (kind := kind) (set := set) (lo := lo) (hi := hi) (x := x) (l := l) (r := nx) (t := t) (o0 := o) (nx0 := nx) (b := b.state) (s5 := .int .i64 b.n) hhi (Nat.le_refl _) (by omega) (hB1.new (hn17 _) (by omega)) (by simp (disch := omega) only [go_sem]) (by rw [hn17 _ _ _ (by omega)]; exact hx3) ⟨nx1, by simp (disch := omega) only [go_sem], by omega, by omega, f8 _ _ _⟩ (by simp (disch := omega) only [go_sem]) (by simp (disch := omega) only [go_sem]) ⟨by simp (disch := omega) only [go_sem], by simp (disch := omega) only [go_sem], by simp (disch := omega) only [go_sem], by rw [hn17 _ _ _ (by omega)]; exact hx4, k1.trans (BKeep.new (hn17 _)) (by omega)⟩ ?_
  clear hB1 hk1 k1 hx3 hx4 hx3' hn17
  intro a o2 nx2 v2 hnx2 ha6 hv2 ha3 hx3 hB2 ha0 ha5 ha4 hx4 k2
  simp (disch := omega) only [go_sem, hP, ha0, ha3, ha4, ha5, ha6]
  have hlr := bT9 x hi.toNat
  have hB2' : BAt o2 (nx2 + 1) t b.state := hB2.new (fun _ _ _ => rfl) (by omega)
  have hv2' : NdsAt o2 (nx2 + 1) v2 (List.replicate hi.toNat x) := .inr (by rw [List.length_replicate]; exact hv2.keep (fun _ _ => rfl) (by omega))
  have hPo := az9 (bC5 hk hi.toNat) (by rw [List.length_replicate]; omega) (fun y hy t o nx b hb hpb => by rw [List.eq_of_mem_replicate hy] at hpb ⊢; exact hpart t o nx b hb hpb) hv2' hB2' ⟨by omega, by omega, by omega⟩ (by omega)
  refine af3 hPo hv2' hB2' ?_
  clear hPo hv2' hB2'
  intro v3 o3 nx3 hle3 hB3 k3 hv3
  rw [bc2] at hB3 hv3
  have hbl := Q9 (h := hN x) (List.replicate hi.toNat (d7 x)) b.state [] (fun f hf b => by rw [List.eq_of_mem_replicate hf]; exact af2 x hk b)
  obtain ⟨r, hr⟩ : ∃ r, r = d8 (List.replicate hi.toNat (d7 x)) b.state [] := ⟨_, rfl⟩
  have hbr : z6 lo hi.toNat (d7 x) b = if r.2.state.n > 1000 then (((b.n : Int), (r.2.n : Int)), r.2.state) else (((b.n : Int), (r.2.n : Int)), r.2.state.frees (Y6 b.n r.1 ++ r9 lo r.2.n 0 r.1 ++ (if lo = 0 then [((b.n : Int), (r.2.n : Int))] else []))) := by rw [hr]; rfl
  rw [← hr] at hB3 hv3 hbl
  have b1 := hbl.hi
  have b2 := hbl.f4
  have b3 : r.1.length ≤ 10 := by
   rcases hbl.str with e | e
   ·rw [e]; simp
   ·have := e.1; simp at this; omega
  clear hr hbl
  have k03 : BKeep t o nx o3 := k2.trans (fun i j (hi : i < nx2) => k3 i j (by omega)) (by omega)
  have hx3' := k3.row hx3 (by omega) (fun e => absurd e (by decide)) (by decide) (by decide)
  have hx4' := k3.row hx4 (by omega) (fun e => absurd e (by decide)) (by decide) (by decide)
  clear k3 hx3 hx4 hB2 hv2 k2
  have hok3 := hv3.ok
  simp (disch := omega) only [go_sem, hS, ha0, ha3, ha4, ha5, ha6]
  refine E5 (hB3.new (fun _ _ _ => rfl) (by omega)) (by omega) ?_
  intro o4 nx4 hle4 hB4 k4
  have k04 : BKeep t o nx o4 := k03.trans (fun i j (hi : i < nx3) => k4 i j (by omega)) (by omega)
  have hx3 := k4.row hx3' (by omega) (fun e => absurd e (by decide)) (by decide) (by decide)
  have hx4 := k4.row hx4' (by omega) (fun e => absurd e (by decide)) (by decide) (by decide)
  have hv4 := hv3.keep (o' := o4) (nx' := nx4) (fun i hi => k4 i 21 (by omega) (fun e => absurd e (by decide)) (by decide) (by decide)) (by omega)
  clear k4 hx3' hx4' hB3 hv3 k03
  simp (disch := omega) only [go_sem, hU, ha0, ha3, ha4, ha5, ha6]
  refine U2 (hB4.new (fun _ _ _ => rfl) (by omega)) ?_
  intro o5 nx5 hle5 hB5 k5
  have k05 : BKeep t o nx o5 := k04.trans (fun i j (hi : i < nx4) => k5 i j (by omega)) (by omega)
  have hx3' := k5.row hx3 (by omega) (fun e => absurd e (by decide)) (by decide) (by decide)
  have hx4' := k5.row hx4 (by omega) (fun e => absurd e (by decide)) (by decide) (by decide)
  have hv5 := hv4.keep (o' := o5) (nx' := nx5) (fun i hi => k5 i 21 (by omega) (fun e => absurd e (by decide)) (by decide) (by decide)) (by omega)
  clear k5 hx3 hx4 hB4 hv4 k04
  rw [o7] at hx3'
  by_cases hfull : (1000 : Int) < r.2.state.n
  ·rw [if_pos (by omega)] at hbr
   simp (disch := omega) only [go_sem, hfull, ha0, ha3, ha4, ha5, ha6, hx4']
   rw [hbr]
   refine ⟨rfl, by show nx ≤ nx5 + 1; omega, hB5.slot2 (fun i j hj => ?_) (by show nx5 ≤ nx5 + 1; omega), ?_⟩
   ·have : ¬ (j = 4) := by omega
    simp [d6, this]
   intro i j hi a1 a2 a3
   have : i ≠ nx := by have : i < nx := hi; omega
   exact (by simp [d6, this] : _ = o5 (i, j)).trans (k05 i j hi a1 a2 a3)
  ·rw [if_neg (by omega)] at hbr
   have hbf : r.2.state.f.length = r.2.f.length := rfl
   have hx3'' : o5 (nx, 3) = some (.row ⟨37, 1, (nx, 3), false, true, cNd (.mk kind set lo hi (x :: l))⟩) := by rw [hx3', o7]
   rw [decide_eq_false hfull]
   simp only [cG7, cg6, aF3, bP5, bQ9, bj7, bx6, bP3, bj3, bP4]
   refine bU0 hF hlo b3 htn (by omega) hB5 (T := (z6 lo hi.toNat (d7 x) b).2) (b := b) (by rw [hbr]) (by omega) hv5 (by simp (disch := omega) only [go_sem, ha3]) hx3'' (by simp (disch := omega) only [go_sem]) (by simp (disch := omega) only [go_sem, ha0]) (by simp (disch := omega) only [go_sem, ha5]) (by simp (disch := omega) only [go_sem, ha4]) hx4' (by simp (disch := omega) only [go_sem]) k05 ?_
   intro a o' nx' hle hB h4 ho4 hk
   simp (disch := omega) only [go_sem, h4, ho4]
   rw [hbr]
   rw [hbr] at hB
   exact ⟨rfl, hle, hB, hk⟩)
 refine ⟨v, H', hnd ▸ h1, fun t' b' kind' set' lo' hi' x' l' e hb => ?_⟩
 simp only [List.cons.injEq, AV.ptr.injEq, Prod.mk.injEq, AV.agg.injEq, and_true] at e
 obtain ⟨⟨rfl, _⟩, e2⟩ := e
 have e3 := Y4 e2
 injection e3 with _ _ r1 r2 r3
 injection r3 with r3 _
 rw [← h.same hb, ← r1, ← r2, ← r3]
 exact h2
set_option maxRecDepth 20000
theorem bc3 {p : List (Int × Int)} {i : Nat} (h : i + 1 < p.length) : M8 (p.drop i) = ((p.getD i (0, 0)).2, (p.getD (i + 1) (0, 0)).1) :: M8 (p.drop (i + 1)) := by
 rw [L5 p (0, 0) (show i < p.length by omega), L5 p (0, 0) h, M8]
theorem bc4 {p : List (Int × Int)} {i : Nat} (h : i + 1 = p.length) : M8 (p.drop i) = [] := by
 have e1 : p.drop (i + 1) = [] := List.drop_of_length_le (by omega)
 rw [L5 p (0, 0) (show i < p.length by omega), e1, M8]
 intro _ _ _ h; cases h
def w0 (id : Nat) : Option (List (Nat × Nat)) := if id = 33 then some [(5, 11)] else none
theorem bn5 (X) : f7 (EX md0 X) w0 2 Tryd.f76 = true := by kernel_rfl
theorem bc5 {cr : q8} (hF : cr 91 = B3 U3) {t r i1 : Nat} {g1 : Tag} {o0 : Ob} {nx0 : Nat} {T b : BS} {p : List (Int × Int)} {a : n8} {o : Ob} {nx : Nat} {Q : l8} (hlen : p.length ≤ 20) (hp0 : 0 < p.length) (hr : nx0 ≤ r) (hrn : r < nx) (hnx : nx0 ≤ nx) (hB : BAt o nx t b) (hT : b.frees (M8 p) = T) (hbf : b.f.length ≤ 1000000) (hi1 : i1 < nx) (hrow : o (i1, 21) = some (.row ⟨136, 2, g1, false, true, cP p⟩)) (h5 : a 5 = .ref (i1, 21) g1 0 p.length) (h32 : a 32 = .ref (i1, 21) g1 2 (p.length - 1)) (h33 : a 33 = .int .i64 (p.length - 1 : Nat)) (h34 : a 34 = .int .i64 0)
  (hmore : a 0 = bp t ∧ a 4 = .ptr (r, 4) (r, 4) 0 ∧ o (r, 4) = some (.row ⟨136, 1, (r, 4), false, true, [.int .i64 0, .int .i64 0]⟩) ∧ BKeep t o0 nx0 o)
  (hQ : ∀ a o nx, nx0 ≤ nx → r < nx → BAt o nx t T → o (i1, 21) = some (.row ⟨136, 2, g1, false, true, cP p⟩) → a 5 = .ref (i1, 21) g1 0 p.length → a 0 = bp t → a 4 = .ptr (r, 4) (r, 4) 0 → o (r, 4) = some (.row ⟨136, 1, (r, 4), false, true, [.int .i64 0, .int .i64 0]⟩) → BKeep t o0 nx0 o → Q .normal a o nx) :
  WP (EX md0 (fun _ _ => none)) cr 30 w0 (v7 [1, 0, 1, 0, 1, 0, 1, 1, 0, 1, 0] (Tryd.f76.body.getD .skip)) a o nx (K5 1 Q) := by
 simp only [Tryd.f76, Option.getD_some, v7]
 refine u2 (fun m a o nx => ∃ (i : Nat) (b : BS), i + 1 ≤ p.length ∧ m = p.length - 1 - i ∧ nx0 ≤ nx ∧ r < nx ∧ BAt o nx t b ∧ b.frees (M8 (p.drop i)) = T ∧ b.f.length ≤ 1000000 + i ∧ i1 < nx ∧ o (i1, 21) = some (.row ⟨136, 2, g1, false, true, cP p⟩) ∧ a 5 = .ref (i1, 21) g1 0 p.length ∧ a 32 = .ref (i1, 21) g1 2 (p.length - 1) ∧ a 33 = .int .i64 (p.length - 1 : Nat) ∧ a 34 = .int .i64 i ∧ a 0 = bp t ∧ a 4 = .ptr (r, 4) (r, 4) 0 ∧ o (r, 4) = some (.row ⟨136, 1, (r, 4), false, true, [.int .i64 0, .int .i64 0]⟩) ∧ BKeep t o0 nx0 o) (p.length - 1) (by omega) ⟨0, b, by omega, by omega, hnx, hrn, hB, hT, by omega, hi1, hrow, h5, h32, h33, h34, hmore⟩ ?_
 clear hmore h5 h32 h33 h34 hB hT hbf hrow hrn hnx hi1
 rintro m a o nx ⟨i, b, hi, rfl, hnx, hrn, hB, hT, hbf, hi1, hrow, h5, h32, h33, h34, h0, h4, ho4, hkp⟩
 by_cases hlt : i + 1 < p.length
 ·have hat := aM8 (show i < p.length by omega)
  have hat3 : (cP p).drop (i * 2 + 1) = .int .i64 (p.getD i (0, 0)).2 :: cP (p.drop (i + 1)) := by rw [← List.drop_drop, hat]; rfl
  have hat2 : (cP p).drop (2 + i * 2) = .int .i64 (p.getD (i + 1) (0, 0)).1 :: .int .i64 (p.getD (i + 1) (0, 0)).2 :: cP (p.drop (i + 1 + 1)) := by rw [show 2 + i * 2 = (i + 1) * 2 by omega]; exact aM8 hlt
  have hsl : ∀ y z i' j', j' ≠ 7 → upd (upd o (nx + 1, 7) y) (nx + 1, 7) z (i', j') = o (i', j') := fun y z i' j' h => by simp [d6, h]
  have hsn : ∀ y z i' j', i' < nx → upd (upd o (nx + 1, 7) y) (nx + 1, 7) z (i', j') = o (i', j') := fun y z i' j' h => by
   have : i' ≠ nx + 1 := by omega
   simp [d6, this]
  simp (disch := omega) only [go_sem, h0, h4, h5, h32, h33, h34, hrow, hat, hat2, hat3, hF, w0]
  refine C3 (hB.slot2 (fun i' j' hj' => hsl _ _ i' j' (by omega)) (by omega)) _ _ (by omega) ?_
  intro o1 nx1 hle1 hB1 hk1
  have k1 : BKeep t o nx o1 := (BKeep.new (hsn _ _)).trans hk1 (by omega)
  have hrow1 := k1.row hrow hi1 (fun e => absurd e (by decide)) (by decide) (by decide)
  have ho41 := k1.row ho4 hrn (fun e => absurd e (by decide)) (by decide) (by decide)
  rw [bc3 hlt, C8] at hT
  simp (disch := omega) only [go_sem, h0, h4, h5, h32, h33, h34, hrow, hat, hat2, hat3, hF, w0]
  first
  | refine ⟨_, ?_, i + 1, _, by omega, rfl, by omega, by omega, hB1.new (fun _ _ _ => rfl) (by omega), hT, by simp only [BS.free_f, List.length_append, List.length_cons, List.length_nil]; omega, by omega, hrow1, rfl, ho41, hkp.trans k1 hnx⟩
  | refine ⟨_, ?_, i + 1, _, by omega, rfl, by omega, hB1.new (fun _ _ _ => rfl) (by omega), hT, by simp only [BS.free_f, List.length_append, List.length_cons, List.length_nil]; omega, by omega, hrow1, rfl, ho41, hkp.trans k1 hnx⟩
  omega
 ·rw [bc4 (by omega), L4] at hT
  simp (disch := omega) only [go_sem, h0, h4, h5, h32, h33, h34, hrow, hF, w0]
  exact hQ _ _ _ (by omega) (by omega) (hT ▸ hB.new (fun _ _ _ => rfl) (by omega)) hrow (by simp (disch := omega) only [go_sem, h5]) (by simp (disch := omega) only [go_sem, h0]) (by simp (disch := omega) only [go_sem, h4]) ho4 hkp
def ao7 (n e : Int) (l : List (Int × Int)) : List (Int × Int) := l.flatMap fun p => [(n, p.1), (p.2, e)]
theorem aO0 {cr : q8} (hF : cr 91 = B3 U3) {t r : Nat} {n0 e : Int} {o0 : Ob} {nx0 : Nat} {T b : BS} {p : List (Int × Int)} {vp : AV} {a : n8} {o : Ob} {nx : Nat} {Q : l8} (hlen : p.length ≤ 20) (hr : nx0 ≤ r) (hrn : r < nx) (hnx : nx0 ≤ nx) (hB : BAt o nx t b) (hT : b.frees (ao7 n0 e p) = T) (hbf : b.f.length ≤ 1000000) (hp : HS 136 2 21 o nx vp p.length (cP p)) (h71 : a 71 = vp) (h72 : a 72 = .int .i64 p.length) (h73 : a 73 = .int .i64 0)
  (hmore : a 0 = bp t ∧ a 4 = .ptr (r, 4) (r, 4) 0 ∧ o (r, 4) = some (.row ⟨136, 1, (r, 4), false, true, [.int .i64 0, .int .i64 0]⟩) ∧ a 8 = .int .i64 n0 ∧ a 10 = .int .i64 e ∧ BKeep t o0 nx0 o)
  (hQ : ∀ a o nx, nx0 ≤ nx → r < nx → BAt o nx t T → a 0 = bp t → a 4 = .ptr (r, 4) (r, 4) 0 → o (r, 4) = some (.row ⟨136, 1, (r, 4), false, true, [.int .i64 0, .int .i64 0]⟩) → a 8 = .int .i64 n0 → a 10 = .int .i64 e → BKeep t o0 nx0 o → Q .normal a o nx) :
  WP (EX md0 (fun _ _ => none)) cr 30 w0 (v7 [1, 0, 1, 0, 1, 1, 1, 0, 1, 1, 1, 0, 1, 0] (Tryd.f76.body.getD .skip)) a o nx (K5 3 Q) := by
 simp only [Tryd.f76, Option.getD_some, v7]
 refine u2 (fun m a o nx => ∃ (i : Nat) (b : BS), i ≤ p.length ∧ m = p.length - i ∧ nx0 ≤ nx ∧ r < nx ∧ BAt o nx t b ∧ b.frees (ao7 n0 e (p.drop i)) = T ∧ b.f.length ≤ 1000000 + 2 * i ∧ HS 136 2 21 o nx vp p.length (cP p) ∧ a 71 = vp ∧ a 72 = .int .i64 p.length ∧ a 73 = .int .i64 i ∧ a 0 = bp t ∧ a 4 = .ptr (r, 4) (r, 4) 0 ∧ o (r, 4) = some (.row ⟨136, 1, (r, 4), false, true, [.int .i64 0, .int .i64 0]⟩) ∧ a 8 = .int .i64 n0 ∧ a 10 = .int .i64 e ∧ BKeep t o0 nx0 o) p.length (by omega) ⟨0, b, by omega, by omega, hnx, hrn, hB, hT, by omega, hp, h71, h72, h73, hmore⟩ ?_
 clear hmore h71 h72 h73 hB hT hbf hp hrn hnx
 rintro m a o nx ⟨i, b, hi, rfl, hnx, hrn, hB, hT, hbf, hp, h71, h72, h73, h0, h4, ho4, h8, h10, hkp⟩
 by_cases hlt : i < p.length
 ·rcases hp with ⟨_, e1, _⟩ | ⟨i1, g1, rfl, hi1, hrow, hlen'⟩
  ·omega
  have hat := aM8 hlt
  have hsl : ∀ y z i' j', j' ≠ 12 → upd (upd o (nx + 1, 12) y) (nx + 1, 12) z (i', j') = o (i', j') := fun y z i' j' h => by simp [d6, h]
  have hsn : ∀ y z i' j', i' < nx → upd (upd o (nx + 1, 12) y) (nx + 1, 12) z (i', j') = o (i', j') := fun y z i' j' h => by
   have : i' ≠ nx + 1 := by omega
   simp [d6, this]
  rw [L5 p (0, 0) hlt, show ao7 n0 e (p.getD i (0, 0) :: p.drop (i + 1)) = (n0, (p.getD i (0, 0)).1) :: ((p.getD i (0, 0)).2, e) :: ao7 n0 e (p.drop (i + 1)) from rfl, C8, C8] at hT
  simp (disch := omega) only [go_sem, h0, h4, h8, h10, h71, h72, h73, hrow, hat, hF, w0]
  refine C3 (hB.slot2 (fun i' j' hj' => hsl _ _ i' j' (by omega)) (by omega)) _ _ (by omega) ?_
  intro o1 nx1 hle1 hB1 hk1
  have k1 : BKeep t o nx o1 := (BKeep.new (hsn _ _)).trans hk1 (by omega)
  have hrow1 := k1.row hrow hi1 (fun e => absurd e (by decide)) (by decide) (by decide)
  have ho41 := k1.row ho4 hrn (fun e => absurd e (by decide)) (by decide) (by decide)
  have hz1 : o1 (nx + 1, 12) = some (.row ⟨136, 1, (nx + 1, 12), false, true, [.int .i64 (p.getD i (0, 0)).1, .int .i64 (p.getD i (0, 0)).2]⟩) := by rw [hk1 _ _ (by omega) (fun e => absurd e (by decide)) (by decide) (by decide)]; exact f8 _ _ _
  simp (disch := omega) only [go_sem, h0, h4, h8, h10, h71, h72, h73, hrow1, hat, hF, w0, hz1]
  refine C3 (hB1.new (fun _ _ _ => rfl) (by omega)) _ _ (by simp only [BS.free_f, List.length_append, List.length_cons, List.length_nil]; omega) ?_
  intro o2 nx2 hle2 hB2 hk2
  have k2 : BKeep t o nx o2 := k1.trans (fun i j (hi : i < nx1) => hk2 i j (by omega)) (by omega)
  simp (disch := omega) only [go_sem, h0, h4, h8, h10, h71, h72, h73, hrow1, hat, hF, w0, hz1]
  first
  | refine ⟨_, ?_, i + 1, _, by omega, rfl, by omega, by omega, hB2.new (fun _ _ _ => rfl) (by omega), hT, by simp only [BS.free_f, List.length_append, List.length_cons, List.length_nil]; omega, .inr ⟨i1, g1, rfl, by omega, k2.row hrow hi1 (fun e => absurd e (by decide)) (by decide) (by decide), hlen'⟩, rfl, k2.row ho4 hrn (fun e => absurd e (by decide)) (by decide) (by decide), hkp.trans k2 hnx⟩
  | refine ⟨_, ?_, i + 1, _, by omega, rfl, by omega, hB2.new (fun _ _ _ => rfl) (by omega), hT, by simp only [BS.free_f, List.length_append, List.length_cons, List.length_nil]; omega, .inr ⟨i1, g1, rfl, by omega, k2.row hrow hi1 (fun e => absurd e (by decide)) (by decide) (by decide), hlen'⟩, rfl, k2.row ho4 hrn (fun e => absurd e (by decide)) (by decide) (by decide), hkp.trans k2 hnx⟩
  omega
 ·rw [List.drop_of_length_le (by omega), show ao7 n0 e [] = [] from rfl, L4] at hT
  simp (disch := omega) only [go_sem, h0, h4, h8, h10, h71, h72, h73, hF, w0]
  exact hQ _ _ _ (by omega) (by omega) (hT ▸ hB.new (fun _ _ _ => rfl) (by omega)) (by simp (disch := omega) only [go_sem, h0]) (by simp (disch := omega) only [go_sem, h4]) ho4 (by simp (disch := omega) only [go_sem, h8]) (by simp (disch := omega) only [go_sem, h10]) hkp
set_option maxRecDepth 20000
noncomputable abbrev aO1 : List (FuncId × (List AV → AH → Option (AV × AH))) := [(92, B3 R2), (91, B3 U3), (77, B3 T9), (90, B3 ac0), (93, B3 bm9), (94, B3 co4)]
theorem bn6 : u9 Tryd.prog (p5 aO1) ∧ Up (p5 aO1) :=
 m9 (m9 (m9 (m9 (m9 (m9 (G7 _) fun args H v H' h => (v8 h).1) fun args H v H' h => (v8 h).1) fun args H v H' h => (v8 h).1) fun args H v H' h => (v8 h).1) fun args H v H' h => (v8 h).1) fun args H v H' h => (v8 h).1
theorem bC6 {kind set lo hi : Int} {x : Nd} {l : List Nd} {t : Nat} {o : Ob} {nx : Nat} {b : BS} {K : AV × AH → Prop} (hex : ∃ v H', co4 [bp t, j5 (.mk kind set lo hi (x :: l))] ⟨o, nx⟩ v H') (h : BAt o nx t b) (hK : ∀ o' nx', nx ≤ nx' → BAt o' nx' t (z6 lo hi.toNat (d7 x) b).2 → BKeep t o nx o' → K (bE (z6 lo hi.toNat (d7 x) b).1, ⟨o', nx'⟩)) :
  wO (Option.map (fun p => p8 false p.1 p.2) (B3 co4 [bp t, j5 (.mk kind set lo hi (x :: l))] ⟨o, nx⟩)) K := by
 refine K7 hex fun v H' hr => ?_
 obtain ⟨rfl, h1, h2, h3⟩ := hr.2 t b kind set lo hi x l rfl h
 exact hK H'.o H'.nx h1 h2 h3
theorem ao8 {x : Nd} {t : Nat} {o : Ob} {nx : Nat} {b : BS} (h : BAt o nx t b)
  (w : ∀ cr, cr 92 = B3 R2 → cr 91 = B3 U3 → cr 77 = B3 T9 → cr 90 = B3 ac0 → cr 93 = B3 bm9 → cr 94 = B3 co4 →
   WP (EX md0 (fun _ _ => none)) cr 30 w0 (Tryd.f76.body.getD .skip) (y0 [bp t, j5 x]) o nx (fun u a o' nx' => (u = .normal ∨ u = .ret) ∧ wO (m4 Tryd.prog a ⟨o', nx'⟩ Tryd.f76.results.toList) (fun vs => ad3 vs = bE (d7 x b).1 ∧ BTo t (d7 x b).2 ⟨o, nx⟩ ⟨o', nx'⟩))) :
  ∃ v H', x8 [bp t, j5 x] ⟨o, nx⟩ v H' := by
 obtain ⟨v, H', h1, h2⟩ := K8 (E := EX md0 (fun _ _ => none)) (cr := p5 aO1) (A8 _) bn6 mixed (k := 30) (nz := w0) (args := [bp t, j5 x]) (o := o) (nx := nx) (Post := fun v o' nx' => v = bE (d7 x b).1 ∧ BTo t (d7 x b).2 ⟨o, nx⟩ ⟨o', nx'⟩) Tryd.func76 (bn5 _) rfl (w _ rfl rfl rfl rfl rfl rfl)
 refine ⟨v, H', h1, fun t' b' x' e hb => ?_⟩
 simp only [List.cons.injEq, AV.ptr.injEq, Prod.mk.injEq, AV.agg.injEq, and_true] at e
 obtain ⟨⟨rfl, _⟩, e2⟩ := e
 rw [← h.same hb, ← Y4 e2]
 exact h2
theorem L6 {t : Nat} {b' : BS} {o : Ob} {nx : Nat} {o1 : Ob} {nx1 : Nat} {y : AObj} {nx2 : Nat} (hB1 : BAt o1 nx1 t b') (k1 : BKeep t o nx o1) (hle : nx ≤ nx1) (h2 : nx1 ≤ nx2) : BTo t b' ⟨o, nx⟩ ⟨upd o1 (nx, 4) y, nx2⟩ := by
 refine ⟨by show nx ≤ nx2; omega, hB1.slot2 (fun i j hj => ?_) h2, fun i j hi a1 a2 a3 => ?_⟩
 ·have : j ≠ 4 := by omega
  simp [d6, this]
 ·have : i ≠ nx := by have : i < nx := hi; omega
  exact (by simp [d6, this] : _ = o1 (i, j)).trans (k1 i j hi a1 a2 a3)
theorem ao9 {kind set lo hi : Int} {x : Nd} {l : List Nd} {ar bk : Bool} (hkd : kind = 6 ∧ ar = true ∧ bk = true ∨ kind = 7 ∧ ar = false ∧ bk = true ∨ kind = 8 ∧ ar = true ∧ bk = false) (hk : okN x = true) (hpart : ∀ t o nx b, BAt o nx t b → Pre (hN x) b → ∃ v H', x8 [bp t, j5 x] ⟨o, nx⟩ v H') {t : Nat} {o : Ob} {nx : Nat} {b : BS} (h : BAt o nx t b) (hp : Pre (hN x + 1) b) (hh : hN x ≤ 1000) :
  ∃ v H', x8 [bp t, j5 (.mk kind set lo hi (x :: l))] ⟨o, nx⟩ v H' := by
 refine ao8 h fun cr hS hF hU hP hO hR => ?_
 have hb : d7 (.mk kind set lo hi (x :: l)) b = T7 (d7 x) ar bk b := by
  rw [d7, l6, az8]
  rcases hkd with ⟨rfl, rfl, rfl⟩ | ⟨rfl, rfl, rfl⟩ | ⟨rfl, rfl, rfl⟩ <;> rfl
 rw [hb]
 have hnew : ∀ y z, ∀ i j, i < nx → upd (upd o (nx, 3) y) (nx, 4) z (i, j) = o (i, j) := fun y z i j hi => by simp (disch := omega) only [D8]
 have hat : K9 (x :: l) = cNd x ++ K9 l := A1 x l
 have hOk := fun o1 nx1 (hB : BAt o1 nx1 t b) => bT7 hk hpart hB hp hh ar bk
 simp only [Tryd.f76, Option.getD_some]
 rcases hkd with ⟨rfl, rfl, rfl⟩ | ⟨rfl, rfl, rfl⟩ | ⟨rfl, rfl, rfl⟩
 all_goals
  simp (disch := omega) only [go_sem, hat, hO, w0]
  refine bn1 (hOk _ _ (h.new (hnew _ _) (by omega))) (h.new (hnew _ _) (by omega)) ?_
  intro o1 nx1 hle1 hB1 hk1
  have hx4 : o1 (nx, 4) = some (.row ⟨136, 1, (nx, 4), false, true, [.int .i64 0, .int .i64 0]⟩) := by rw [hk1 _ _ (by omega) (fun e => absurd e (by decide)) (by decide) (by decide)]; simp [d6]
  have k1 : BKeep t o nx o1 := (BKeep.new (hnew _ _)).trans hk1 (by omega)
  simp (disch := omega) only [go_sem, hat, hx4, w0]
  exact L6 hB1 k1 (by omega) (by omega)
theorem bC7 {set lo hi : Int} {x : Nd} {l : List Nd} (hk : okN x = true) (hlo : 0 ≤ lo ∧ lo ≤ 10) (hhi : 0 ≤ hi ∧ hi ≤ 10) (hpart : ∀ t o nx b, BAt o nx t b → Pre (hN x) b → ∃ v H', x8 [bp t, j5 x] ⟨o, nx⟩ v H') {t : Nat} {o : Ob} {nx : Nat} {b : BS} (h : BAt o nx t b) (hp : Pre (hN x + 1) b) (hh : hN x ≤ 1000) :
  ∃ v H', x8 [bp t, j5 (.mk 9 set lo hi (x :: l))] ⟨o, nx⟩ v H' := by
 refine ao8 h fun cr hS hF hU hP hO hR => ?_
 have hb : d7 (.mk 9 set lo hi (x :: l)) b = z6 lo hi.toNat (d7 x) b := by
  rw [d7, l6, az8]; rfl
 rw [hb]
 have hnew : ∀ y z, ∀ i j, i < nx → upd (upd o (nx, 3) y) (nx, 4) z (i, j) = o (i, j) := fun y z i j hi => by simp (disch := omega) only [D8]
 have hcn : cNd (.mk 9 set lo hi (x :: l)) = [.int .i64 9, .int .i64 set, .int .i64 lo, .int .i64 hi, slN (x :: l)] := o7 ..
 have hOk := fun o1 nx1 (hB : BAt o1 nx1 t b) => co5 (kind := 9) (set := set) (l := l) hk hlo hhi hpart hB hp hh
 simp only [Tryd.f76, Option.getD_some]
 simp (disch := omega) only [go_sem, hR, w0]
 simp only [← hcn]
 refine bC6 (hOk _ _ (h.new (hnew _ _) (by omega))) (h.new (hnew _ _) (by omega)) ?_
 intro o1 nx1 hle1 hB1 hk1
 have hx4 : o1 (nx, 4) = some (.row ⟨136, 1, (nx, 4), false, true, [.int .i64 0, .int .i64 0]⟩) := by rw [hk1 _ _ (by omega) (fun e => absurd e (by decide)) (by decide) (by decide)]; simp [d6]
 have k1 : BKeep t o nx o1 := (BKeep.new (hnew _ _)).trans hk1 (by omega)
 simp (disch := omega) only [go_sem, hx4, w0]
 exact L6 hB1 k1 (by omega) (by omega)
theorem bn7 {set lo hi : Int} {l : List Nd} (hk : as4 l = true) (hl : 0 < l.length ∧ l.length ≤ 10) (hpart : ∀ x ∈ l, ∀ t o nx b, BAt o nx t b → Pre (hN x) b → ∃ v H', x8 [bp t, j5 x] ⟨o, nx⟩ v H') {t : Nat} {o : Ob} {nx : Nat} {b : BS} (h : BAt o nx t b) (hp : Pre (hNs l + 1) b) (hh : hNs l ≤ 1000) :
  ∃ v H', x8 [bp t, j5 (.mk 4 set lo hi l)] ⟨o, nx⟩ v H' := by
 refine ao8 h fun cr hS hF hU hP hO hR => ?_
 have hb : d7 (.mk 4 set lo hi l) b = ab8 (l6 l) b := by
  rw [d7, az8]; rfl
 rw [hb]
 have hnew : ∀ y z, ∀ i j, i < nx → upd (upd o (nx, 3) y) (nx, 4) z (i, j) = o (i, j) := fun y z i j hi => by simp (disch := omega) only [D8]
 have hcn : cNd (.mk 4 set lo hi l) = [.int .i64 4, .int .i64 set, .int .i64 lo, .int .i64 hi, slN l] := o7 ..
 have hOk := fun o1 nx1 (hB : BAt o1 nx1 t b) => az9 hk (by omega) hpart (.inl rfl) hB ⟨hp.f, hp.s, by have := hp.n; omega⟩ hh
 simp only [Tryd.f76, Option.getD_some]
 simp (disch := omega) only [go_sem, hP, w0]
 refine af3 (hOk _ _ (h.new (hnew _ _) (by omega))) (.inl rfl) (h.new (hnew _ _) (by omega)) ?_
 intro v1 o1 nx1 hle1 hB1 hk1 hv1
 have hx4 : o1 (nx, 4) = some (.row ⟨136, 1, (nx, 4), false, true, [.int .i64 0, .int .i64 0]⟩) := by rw [hk1 _ _ (by omega) (fun e => absurd e (by decide)) (by decide) (by decide)]; simp [d6]
 have k1 : BKeep t o nx o1 := (BKeep.new (hnew _ _)).trans hk1 (by omega)
 clear hk1
 simp (disch := omega) only [go_sem, hx4, hU, w0]
 have hbl := Q9 (h := hNs l) (l6 l) b [] (ab9 l hk)
 have hbr : ab8 (l6 l) b = if (d8 (l6 l) b []).2.n > 1000 ∨ (d8 (l6 l) b []).1 = [] then ((0, 0), (d8 (l6 l) b []).2) else ((((d8 (l6 l) b []).1.headD (0, 0)).1, ((d8 (l6 l) b []).1.getLastD (0, 0)).2), (d8 (l6 l) b []).2.frees (M8 (d8 (l6 l) b []).1)) := rfl
 obtain ⟨r, hr⟩ : ∃ r, r = d8 (l6 l) b [] := ⟨_, rfl⟩
 rw [← hr] at hB1 hv1 hbl hbr
 have b1 := hbl.hi
 have b2 := hbl.f4
 have b3 : r.1.length ≤ 10 := by
  rcases hbl.str with e | e
  ·rw [e]; simp
  ·have := e.1; rw [I9] at this; simp only [List.length_nil] at this; omega
 have hpn := hp.n
 have hpf := hp.f
 clear hr hbl
 refine U2 (hB1.new (fun _ _ _ => rfl) (by omega)) ?_
 intro o2 nx2 hle2 hB2 hk2
 have k2 : BKeep t o nx o2 := k1.trans (fun i j (hi : i < nx1) => hk2 i j (by omega)) (by omega)
 have hx42 := (fun h => hk2 nx 4 (by omega) (fun e => absurd e (by decide)) (by decide) (by decide) |>.trans h) hx4
 have hv2 := hv1.keep (o' := o2) (nx' := nx2) (fun i hi => hk2 i 21 (by omega) (fun e => absurd e (by decide)) (by decide) (by decide)) (by omega)
 clear hk2 hB1 hx4 hv1 k1
 by_cases hfull : (1000 : Int) < r.2.n
 ·rw [if_pos (.inl (by omega))] at hbr
  rw [hbr]
  simp (disch := omega) only [go_sem, hfull, hx42, w0]
  exact L6 hB2 k2 (by omega) (by omega)
 by_cases hnil : r.1 = []
 ·rw [if_pos (.inr hnil)] at hbr
  rw [hbr]
  rcases hv2 with ⟨rfl, e1, e2⟩ | ⟨i1, g1, rfl, hi1, hrow, hlen'⟩
  ·simp (disch := omega) only [go_sem, hfull, hx42, w0]
   exact L6 hB2 k2 (by omega) (by omega)
  ·have hz : (r.1.length : Int) = 0 := by rw [hnil]; rfl
   simp (disch := omega) only [go_sem, hfull, hx42, w0, hz]
   exact L6 hB2 k2 (by omega) (by omega)
 ·rw [if_neg (fun h => h.elim (fun h => hfull (by omega)) hnil)] at hbr
  have hpos : 0 < r.1.length := List.length_pos_iff.2 hnil
  rcases hv2 with ⟨rfl, e1, e2⟩ | ⟨i1, g1, rfl, hi1, hrow, hlen'⟩
  ·omega
  ·have hz : ¬ (r.1.length : Int) = 0 := by omega
   have hat0 : M5 false 1 (cP r.1) = some (.int .i64 (r.1.headD (0, 0)).1) := by
    cases hrr : r.1 with
    | nil => exact absurd hrr hnil
    | cons p pl => rfl
   have hat1 : (cP r.1).drop ((r.1.length - 1) * 2 + 1) = .int .i64 (r.1.getLastD (0, 0)).2 :: [] := by
    have e0 : r.1.drop (r.1.length - 1 + 1) = [] := List.drop_of_length_le (by omega)
    rw [← List.drop_drop, aM8 (by omega), e0]
    have : r.1.getLastD (0, 0) = r.1.getD (r.1.length - 1) (0, 0) := by
     rw [List.getLastD_eq_getLast?, List.getLast?_eq_getElem?, List.getD_eq_getElem?_getD]
    rw [this]; rfl
   simp (disch := omega) only [go_sem, hfull, hx42, w0, hz]
   refine bc5 hF (T := r.2.frees (M8 r.1)) (o0 := o) (nx0 := nx) (p := r.1) (by omega) hpos (Nat.le_refl nx) (by omega) (by omega) (hB2.new (fun _ _ _ => rfl) (by omega)) rfl (by omega) (by omega) hrow (by simp (disch := omega) only [go_sem]) (by simp (disch := omega) only [go_sem]) (by simp (disch := omega) only [go_sem]) (by simp (disch := omega) only [go_sem]) ⟨by simp (disch := omega) only [go_sem], by simp (disch := omega) only [go_sem], hx42, k2⟩ ?_
   intro a o3 nx3 hn3 hrn3 hB3 hrow3 ha5 ha0 ha4 hx43 k3
   rw [hbr]
   simp (disch := omega) only [go_sem, hx43, w0, ha5, ha0, ha4, hrow3, hat1, hat0]
   exact L6 hB3 k3 (by omega) (by omega)
theorem bc6 {set lo hi : Int} {l : List Nd} (hk : as4 l = true) (hl : 0 < l.length ∧ l.length ≤ 10) (hpart : ∀ x ∈ l, ∀ t o nx b, BAt o nx t b → Pre (hN x) b → ∃ v H', x8 [bp t, j5 x] ⟨o, nx⟩ v H') {t : Nat} {o : Ob} {nx : Nat} {b : BS} (h : BAt o nx t b) (hp : Pre (hNs l + 1) b) (hh : hNs l ≤ 1000) :
  ∃ v H', x8 [bp t, j5 (.mk 5 set lo hi l)] ⟨o, nx⟩ v H' := by
 refine ao8 h fun cr hS hF hU hP hO hR => ?_
 have hb : d7 (.mk 5 set lo hi l) b = T8 (l6 l) b := by
  rw [d7, az8]; rfl
 rw [hb]
 have hnew : ∀ y z, ∀ i j, i < nx → upd (upd o (nx, 3) y) (nx, 4) z (i, j) = o (i, j) := fun y z i j hi => by simp (disch := omega) only [D8]
 have hcn : cNd (.mk 5 set lo hi l) = [.int .i64 5, .int .i64 set, .int .i64 lo, .int .i64 hi, slN l] := o7 ..
 have e1 : b.state.n = b.n + 1 := rfl
 have e2 : b.state.f.length = b.f.length := rfl
 have e3 : b.state.s.length = b.s.length := rfl
 have hp1 := hp.f
 have hp2 := hp.s
 have hp3 := hp.n
 have hOk := fun o1 nx1 (hB : BAt o1 nx1 t b.state) => az9 hk (by omega) hpart (.inl rfl) hB ⟨by omega, by omega, by omega⟩ hh
 simp only [Tryd.f76, Option.getD_some]
 simp (disch := omega) only [go_sem, hS, w0]
 refine E5 (h.new (hnew _ _) (by omega)) (by omega) ?_
 intro o1 nx1 hle1 hB1 hk1
 have hx4 : o1 (nx, 4) = some (.row ⟨136, 1, (nx, 4), false, true, [.int .i64 0, .int .i64 0]⟩) := by rw [hk1 _ _ (by omega) (fun e => absurd e (by decide)) (by decide) (by decide)]; simp [d6]
 have hx3 : o1 (nx, 3) = some (.row ⟨37, 1, (nx, 3), false, true, [.int .i64 5, .int .i64 set, .int .i64 lo, .int .i64 hi, slN l]⟩) := by rw [hk1 _ _ (by omega) (fun e => absurd e (by decide)) (by decide) (by decide)]; simp [d6]
 have k1 : BKeep t o nx o1 := (BKeep.new (hnew _ _)).trans hk1 (by omega)
 clear hk1
 simp (disch := omega) only [go_sem, hx3, hP, w0]
 refine af3 (hOk _ _ (hB1.new (fun _ _ _ => rfl) (by omega))) (.inl rfl) (hB1.new (fun _ _ _ => rfl) (by omega)) ?_
 intro v1 o2 nx2 hle2 hB2 hk2 hv2
 have k2 : BKeep t o nx o2 := k1.trans (fun i j (hi : i < nx1) => hk2 i j (by omega)) (by omega)
 have hx42 := (fun h => hk2 nx 4 (by omega) (fun e => absurd e (by decide)) (by decide) (by decide) |>.trans h) hx4
 clear hk2 hB1 hx4 hx3 k1
 have hbl := Q9 (h := hNs l) (l6 l) b.state [] (ab9 l hk)
 have hbr : T8 (l6 l) b = (((b.n : Int), ((d8 (l6 l) b.state []).2.n : Int)), (d8 (l6 l) b.state []).2.state.frees (ao7 b.n (d8 (l6 l) b.state []).2.n (d8 (l6 l) b.state []).1)) := rfl
 obtain ⟨r, hr⟩ : ∃ r, r = d8 (l6 l) b.state [] := ⟨_, rfl⟩
 rw [← hr] at hB2 hv2 hbl hbr
 have b1 := hbl.hi
 have b2 := hbl.f4
 have b3 : r.1.length ≤ 10 := by
  rcases hbl.str with e | e
  ·rw [e]; simp
  ·have := e.1; rw [I9] at this; simp only [List.length_nil] at this; omega
 have b4 : r.2.state.f.length = r.2.f.length := rfl
 clear hr hbl
 simp (disch := omega) only [go_sem, hS, w0]
 refine E5 (hB2.new (fun _ _ _ => rfl) (by omega)) (by omega) ?_
 intro o3 nx3 hle3 hB3 hk3
 have k3 : BKeep t o nx o3 := k2.trans (fun i j (hi : i < nx2) => hk3 i j (by omega)) (by omega)
 have hx43 := (fun h => hk3 nx 4 (by omega) (fun e => absurd e (by decide)) (by decide) (by decide) |>.trans h) hx42
 have hv3 := hv2.keep (o' := o3) (nx' := nx3) (fun i hi => hk3 i 21 (by omega) (fun e => absurd e (by decide)) (by decide) (by decide)) (by omega)
 clear hk3 hB2 hx42 hv2 k2
 have hv3' := hv3
 rcases hv3 with ⟨rfl, e1, e2⟩ | ⟨i1, g1, rfl, hi1, hrow, hlen'⟩
 all_goals
  simp (disch := omega) only [go_sem, w0]
  refine aO0 hF (n0 := b.n) (e := r.2.n) (p := r.1) (o0 := o) (nx0 := nx) (by omega) (Nat.le_refl nx) (by omega) (by omega) (hB3.new (fun _ _ _ => rfl) (by omega)) rfl (by omega) (hv3'.keep (fun _ _ => rfl) (by omega)) (by simp (disch := omega) only [go_sem]) (by first | (rw [e1]; simp (disch := omega) only [go_sem]) | simp (disch := omega) only [go_sem]) (by simp (disch := omega) only [go_sem]) ⟨by simp (disch := omega) only [go_sem], by simp (disch := omega) only [go_sem], hx43, by simp (disch := omega) only [go_sem], by simp (disch := omega) only [go_sem], k3⟩ ?_
  intro a o4 nx4 hn4 hrn4 hB4 ha0 ha4 hx44 ha8 ha10 k4
  rw [hbr]
  simp (disch := omega) only [go_sem, hx44, w0, ha8, ha10, ha0, ha4]
  exact L6 hB4 k4 (by omega) (by omega)
set_option maxRecDepth 20000
theorem bn8 {kind set lo hi : Int} {l : List Nd} (h4 : kind ≠ 4) (h5 : kind ≠ 5) (h6 : kind ≠ 6) (h7 : kind ≠ 7) (h8 : kind ≠ 8) (h9 : kind ≠ 9) {t : Nat} {o : Ob} {nx : Nat} {b : BS} (h : BAt o nx t b) (hp : Pre 1 b) :
  ∃ v H', x8 [bp t, j5 (.mk kind set lo hi l)] ⟨o, nx⟩ v H' := by
 refine ao8 h fun cr hS hF hU hP hO hR => ?_
 have hb : d7 (.mk kind set lo hi l) b = az7 kind set b := by
  rw [d7, az8, if_neg h4, if_neg h5, if_neg h6, if_neg h7, if_neg h8, if_neg h9]
 rw [hb]
 have hnew : ∀ y z, ∀ i j, i < nx → upd (upd o (nx, 3) y) (nx, 4) z (i, j) = o (i, j) := fun y z i j hi => by simp (disch := omega) only [D8]
 have e1 : b.state.n = b.n + 1 := rfl
 have e2 : b.state.f.length = b.f.length := rfl
 have e3 : b.state.s.length = b.s.length := rfl
 have hp1 := hp.f
 have hp2 := hp.s
 have hp3 := hp.n
 have htn : t < nx := by obtain ⟨vS, vF, h⟩ := h; exact h.lt
 simp only [Tryd.f76, Option.getD_some]
 simp (disch := omega) only [go_sem, hS, w0, h4, h5, h6, h7, h8, h9]
 refine E5 (h.new (hnew _ _) (by omega)) (by omega) ?_
 intro o1 nx1 hle1 hB1 hk1
 have hx4 : o1 (nx, 4) = some (.row ⟨136, 1, (nx, 4), false, true, [.int .i64 0, .int .i64 0]⟩) := by rw [hk1 _ _ (by omega) (fun e => absurd e (by decide)) (by decide) (by decide)]; simp [d6]
 have hx3 : o1 (nx, 3) = some (.row ⟨37, 1, (nx, 3), false, true, [.int .i64 kind, .int .i64 set, .int .i64 lo, .int .i64 hi, slN l]⟩) := by rw [hk1 _ _ (by omega) (fun e => absurd e (by decide)) (by decide) (by decide)]; simp [d6]
 have k1 : BKeep t o nx o1 := (BKeep.new (hnew _ _)).trans hk1 (by omega)
 clear hk1
 simp (disch := omega) only [go_sem, hx3, hS, w0]
 refine E5 (hB1.new (fun _ _ _ => rfl) (by omega)) (by omega) ?_
 intro o2 nx2 hle2 hB2 hk2
 have k2 : BKeep t o nx o2 := k1.trans (fun i j (hi : i < nx1) => hk2 i j (by omega)) (by omega)
 have hx42 := (fun h => hk2 nx 4 (by omega) (fun e => absurd e (by decide)) (by decide) (by decide) |>.trans h) hx4
 have hx32 := (fun h => hk2 nx 3 (by omega) (fun e => absurd e (by decide)) (by decide) (by decide) |>.trans h) hx3
 clear hk2 hB1 hx4 hx3 k1
 have hb2 : az7 kind set b = (((b.n : Int), (b.n : Int) + 1), if kind = 1 then b.state.state.step b.n (b.n + 1) set else if kind = 3 then b.state.state.free b.n (b.n + 1) else b.state.state) := rfl
 have hn1 : ((b.state.n : Nat) : Int) = (b.n : Int) + 1 := by rw [e1]; omega
 rw [hb2]
 by_cases k1' : kind = 1
 ·rw [if_pos k1']
  subst k1'
  obtain ⟨vS, vF, hB⟩ := hB2
  have r1 := hB.lt
  have r2 := hB.row
  have r3 := hB.s.ok
  have r4 := hB.f.ok
  have hs := hB.s
  have hf := hB.f
  have hb3 : (b.state.state.step b.n (b.n + 1) set).s.length = b.s.length + 1 := by show List.length (_ ++ _) = _; rw [List.length_append]; rfl
  have hb4 : b.state.state.s.length = b.s.length := rfl
  have hb5 : cS (b.state.state.step b.n (b.n + 1) set).s = cS b.state.state.s ++ [.int .i64 b.n, .int .i64 (b.n + 1), .int .i64 set] := by show cS (_ ++ _) = _; rw [cm0]; rfl
  have hb6 : (b.state.state.step b.n (b.n + 1) set).f = b.state.state.f := rfl
  have key : ∀ (i : Nat) (g : Tag) (y z : AObj) (w v : AV), nx ≤ i ∨ i < nx → i < nx2 + 2 → z = .row ⟨145, 3, g, false, true, cS b.state.state.s ++ [.int .i64 b.n, .int .i64 (b.n + 1), .int .i64 set]⟩ → v = .ref (i, 139) g 0 (b.s.length + 1) → BAt (upd (upd (upd o2 (nx2 + 1, 138) y) (i, 139) z) (t, 8) (.row ⟨134, 1, (t, 8), false, true, [.int .i64 b.state.state.n, .int .i64 0, .int .i64 0, v, vF]⟩)) (nx2 + 4) t (b.state.state.step b.n (b.n + 1) set) ∧ BKeep t o nx (upd (upd (upd o2 (nx2 + 1, 138) y) (i, 139) z) (t, 8) (.row ⟨134, 1, (t, 8), false, true, [.int .i64 b.state.state.n, .int .i64 0, .int .i64 0, v, vF]⟩)) := by
   intro i g y z w v _ hi hz hv
   subst hz hv
   refine ⟨⟨_, vF, ⟨by omega, f8 _ _ _, .inr ⟨i, g, by rw [hb3], by omega, ?_, ?_⟩, ?_⟩⟩, fun i' j' hi' a1 a2 a3 => ?_⟩
   ·rw [hb5]; simp [d6]
   ·rw [ao0]
   ·rw [hb6]; exact hf.keep (fun i' hi' => by simp [d6]) (by omega)
   ·rw [← k2 i' j' hi' a1 a2 a3]
    have n1 : i' ≠ nx2 + 1 := by omega
    have n2 : ¬ (j' = 8 ∧ i' = t) := fun h => a1 h.1 h.2
    by_cases hj : j' = 8
    ·have := a1 hj
     simp [d6, n1, hj, this]
    ·simp [d6, n1, hj, a2]
  rcases hB.s with ⟨rfl, q2, q3⟩ | ⟨i1, g1, rfl, hi1, hrow, hlen⟩
  ·simp (disch := omega) only [go_sem, hx32, hx42, hn1, r2, r3, r4, w0]
   have q4 : b.s.length = 0 := by omega
   obtain ⟨f1, f2⟩ := key (nx2 + 1) (nx2 + 1, 139) (.row ⟨145, 3, (nx2 + 1, 138), false, true, [.int .i64 b.n, .int .i64 (b.n + 1), .int .i64 set]⟩) (.row ⟨145, 3, (nx2 + 1, 139), false, true, [.int .i64 b.n, .int .i64 (b.n + 1), .int .i64 set]⟩) .nil (.ref (nx2 + 1, 139) (nx2 + 1, 139) 0 1) (by omega) (by omega) (by rw [q3]; rfl) (by rw [q4])
   exact L6 f1 f2 (by omega) (by omega)
  ·simp (disch := omega) only [go_sem, hx32, hx42, hn1, r2, r3, r4, w0, hrow]
   obtain ⟨f1, f2⟩ := key i1 (nx2 + 1, 139) (.row ⟨145, 3, (nx2 + 1, 138), false, true, [.int .i64 b.n, .int .i64 (b.n + 1), .int .i64 set]⟩) _ .nil (.ref (i1, 139) (nx2 + 1, 139) 0 (b.state.state.s.length + 1)) (by omega) (by omega) rfl (by rw [hb4])
   exact L6 f1 f2 (by omega) (by omega)
 by_cases k3' : kind = 3
 ·rw [if_neg k1', if_pos k3']
  subst k3'
  simp (disch := omega) only [go_sem, hx32, hx42, hF, hn1, w0]
  refine C3 (hB2.new (fun _ _ _ => rfl) (by omega)) _ _ (by show b.f.length ≤ _; omega) ?_
  intro o3 nx3 hle3 hB3 hk3
  have k3 : BKeep t o nx o3 := k2.trans (fun i j (hi : i < nx2) => hk3 i j (by omega)) (by omega)
  have hx43 := (fun h => hk3 nx 4 (by omega) (fun e => absurd e (by decide)) (by decide) (by decide) |>.trans h) hx42
  simp (disch := omega) only [go_sem, hx43, w0]
  exact L6 hB3 k3 (by omega) (by omega)
 ·rw [if_neg k1', if_neg k3']
  simp (disch := omega) only [go_sem, hx32, hx42, hn1, w0, k1', k3']
  exact L6 hB2 k2 (by omega) (by omega)
mutual
theorem aw0 : ∀ (x : Nd), okN x = true → hN x ≤ 1000 → ∀ (t : Nat) (o : Ob) (nx : Nat) (b : BS), BAt o nx t b → Pre (hN x) b → ∃ v H', x8 [bp t, j5 x] ⟨o, nx⟩ v H'
 | .mk kind set lo hi l, hk, hh, t, o, nx, b, h, hp => by
  have hl := aH2 l
  rw [okN, Bool.and_eq_true] at hk
  obtain ⟨hk1, hk2⟩ := hk
  rw [hN] at hp hh
  have hl' := hl hk1 (by omega)
  have hhead : ∀ x m, l = x :: m → okN x = true ∧ hN x ≤ hNs l ∧ ∀ t o nx b, BAt o nx t b → Pre (hN x) b → ∃ v H', x8 [bp t, j5 x] ⟨o, nx⟩ v H' := by
   rintro x m rfl
   rw [as4, Bool.and_eq_true] at hk1
   exact ⟨hk1.1, by rw [hNs]; omega, hl' x (List.mem_cons_self)⟩
  have hpre : ∀ x, hN x ≤ hNs l → Pre (hN x + 1) b := fun x hx => ⟨hp.f, hp.s, by have := hp.n; omega⟩
  by_cases k4 : kind = 4
  ·rw [if_pos (.inl k4), decide_eq_true_eq] at hk2
   subst k4
   exact bn7 hk1 hk2 hl' h hp (by omega)
  by_cases k5 : kind = 5
  ·rw [if_pos (.inr (.inl k5)), decide_eq_true_eq] at hk2
   subst k5
   exact bc6 hk1 hk2 hl' h hp (by omega)
  by_cases k6 : kind = 6
  ·rw [if_pos (.inr (.inr (.inl k6))), decide_eq_true_eq] at hk2
   obtain ⟨x, m, rfl⟩ := List.exists_cons_of_length_pos hk2.1
   obtain ⟨q1, q2, q3⟩ := hhead x m rfl
   exact ao9 (.inl ⟨k6, rfl, rfl⟩) q1 q3 h (hpre x q2) (by omega)
  by_cases k7 : kind = 7
  ·rw [if_pos (.inr (.inr (.inr (.inl k7)))), decide_eq_true_eq] at hk2
   obtain ⟨x, m, rfl⟩ := List.exists_cons_of_length_pos hk2.1
   obtain ⟨q1, q2, q3⟩ := hhead x m rfl
   exact ao9 (.inr (.inl ⟨k7, rfl, rfl⟩)) q1 q3 h (hpre x q2) (by omega)
  by_cases k8 : kind = 8
  ·rw [if_pos (.inr (.inr (.inr (.inr k8)))), decide_eq_true_eq] at hk2
   obtain ⟨x, m, rfl⟩ := List.exists_cons_of_length_pos hk2.1
   obtain ⟨q1, q2, q3⟩ := hhead x m rfl
   exact ao9 (.inr (.inr ⟨k8, rfl, rfl⟩)) q1 q3 h (hpre x q2) (by omega)
  by_cases k9 : kind = 9
  ·rw [if_neg (by omega), if_pos k9, decide_eq_true_eq] at hk2
   obtain ⟨x, m, rfl⟩ := List.exists_cons_of_length_pos hk2.1
   obtain ⟨q1, q2, q3⟩ := hhead x m rfl
   subst k9
   exact bC7 q1 (by omega) (by omega) q3 h (hpre x q2) (by omega)
  exact bn8 k4 k5 k6 k7 k8 k9 h ⟨hp.f, hp.s, by have := hp.n; omega⟩
theorem aH2 : ∀ (l : List Nd), as4 l = true → hNs l ≤ 1000 → ∀ x ∈ l, ∀ (t : Nat) (o : Ob) (nx : Nat) (b : BS), BAt o nx t b → Pre (hN x) b → ∃ v H', x8 [bp t, j5 x] ⟨o, nx⟩ v H'
 | [], _, _, x, hx => by cases hx
 | y :: l, hk, hh, x, hx => by
  rw [as4, Bool.and_eq_true] at hk
  rw [hNs] at hh
  rcases List.mem_cons.1 hx with e | hx
  ·have := aw0 y hk.1 (by omega)
   rw [e]; exact this
  ·exact aH2 l hk.2 (by omega) x hx
end
end Go.Proofs.YtpmjpogcaglphaaDoor.A
