/- Appending to a slice that may be nil yet: one rule. -/
import Derived.Test.YtpmjpogcaglphaaDoorMLMLaws25
set_option linter.unusedVariables false
set_option linter.unusedSimpArgs false
set_option linter.unnecessarySimpa false
namespace Go.Proofs.YtpmjpogcaglphaaDoor.A
open Go
theorem HS.app {e sz D : Nat} {o : Ob} {nx : Nat} {v : AV} {n : Nat} {cs : List AV} (h : HS e sz D o nx v n cs) (r b m : Nat) (new : List AV) (hm : 0 < m) (hl : new.length = m * sz) (hok : new.all n9 = true) (hb : ((n + m : Nat) * b : Int) ≤ X4) :
  ∃ j, (j = r ∨ j < nx) ∧ ∀ (o' : Ob) (nx' : Nat), (∀ i, o' (i, D) = o (i, D)) → aM4 (r, D) e sz b v m new o' nx' = some (.ref (j, D) (r, D) 0 (n + m), ⟨upd o' (j, D) (.row ⟨e, sz, (r, D), false, true, cs ++ new⟩), nx'⟩) := by
 rcases h with ⟨rfl, rfl, rfl⟩ | ⟨i, g, rfl, hi, hrow, hlen⟩
 ·refine ⟨r, .inl rfl, fun o' nx' _ => ?_⟩
  rw [bz3, if_pos ⟨hl, hok⟩, if_neg (by omega), if_pos (by simpa using hb)]
  simp
 ·refine ⟨i, .inr hi, fun o' nx' ho => ?_⟩
  have ht : cs.take (n * sz) = cs := j0 hlen
  rw [bz5, if_pos ⟨hl, hok⟩, ho i, hrow]
  simp only [ae9, Option.bind_some]
  rw [bz4, if_pos ⟨by omega, by simpa using hb⟩, ht]
theorem HS.grown {e sz D : Nat} {o : Ob} {nx : Nat} {j r n m : Nat} {cs new : List AV} (hj : j < nx) (ho : o (j, D) = some (.row ⟨e, sz, (r, D), false, true, cs ++ new⟩)) (hc : cs.length = n * sz) (hl : new.length = m * sz) : HS e sz D o nx (.ref (j, D) (r, D) 0 (n + m)) (n + m) (cs ++ new) :=
 .inr ⟨j, _, rfl, hj, ho, by rw [List.length_append, hc, hl, Nat.add_mul]⟩
def Frz (ks : List Nat) (n : Nat) (o o' : Ob) : Prop := ∀ j k, j < n → k ∈ ks → o' (j, k) = o (j, k)
theorem Frz.refl (ks n o) : Frz ks n o o := fun _ _ _ _ => rfl
theorem Frz.upd {ks : List Nat} {n : Nat} {o o' : Ob} {j d : Nat} {x : AObj} (h : Frz ks n o o') (hj : n ≤ j ∨ d ∉ ks) : Frz ks n o (A.upd o' (j, d) x) := fun i k hi hk => by
 have e : ¬ (i, k) = (j, d) := fun hc => by
  injection hc with h1 h2
  rcases hj with hj | hj
  ·omega
  ·exact hj (h2 ▸ hk)
 rw [A.upd, if_neg e]
 exact h i k hi hk
def Kp (ks : List Nat) (n : Nat) (o o' : Ob) : Prop := ∀ j k, j < n → k ∉ ks → o' (j, k) = o (j, k)
theorem Kp.refl (ks n o) : Kp ks n o o := fun _ _ _ _ => rfl
theorem Kp.upd {ks : List Nat} {n : Nat} {o o' : Ob} {j d : Nat} {x : AObj} (h : Kp ks n o o') (hj : n ≤ j ∨ d ∈ ks) : Kp ks n o (A.upd o' (j, d) x) := fun i k hi hk => by
 have e : ¬ (i, k) = (j, d) := fun hc => by
  injection hc with h1 h2
  rcases hj with hj | hj
  ·omega
  ·exact hk (h2 ▸ hj)
 rw [A.upd, if_neg e]
 exact h i k hi hk
theorem Kp.more {ks ks' : List Nat} {n : Nat} {o o' : Ob} (h : Kp ks n o o') (hs : ∀ k, k ∉ ks' → k ∉ ks) : Kp ks' n o o' := fun i k hi hk => h i k hi (hs k hk)
theorem Kp.trans {ks : List Nat} {n n' : Nat} {o o' o'' : Ob} (h : Kp ks n o o') (h' : Kp ks n' o' o'') (hn : n ≤ n') : Kp ks n o o'' := fun i k hi hk => (h' i k (by omega) hk).trans (h i k hi hk)
theorem be7 {E : Env} {cr : q8} {k : Nat} {nz : Nat → Option (List (Nat × Nat))} {fn : Func} {c : Code} {args : List AV} {o : Ob} {nx : Nat} {K : AV × AH → Prop} (hb : fn.body = some c)
  (h : WP E cr k nz c (y0 args) o nx (fun u a o' nx' => (u = .normal ∨ u = .ret) ∧ wO (m4 E.P a ⟨o', nx'⟩ fn.results.toList) (fun vs => K (ad3 vs, ⟨o', nx'⟩)))) : wO (Option.map (fun p => p8 false p.1 p.2) (ar9 E cr k nz fn args ⟨o, nx⟩)) K := by
 obtain ⟨v, H', h1, h2⟩ := Q6 (Post := fun v o' nx' => K (v, ⟨o', nx'⟩)) hb h
 rw [h1]
 exact h2
theorem HS.tagOf_of {e sz D o nx v n cs} (h : HS e sz D o nx v n cs) : y8 v = [] ∨ ∃ i, y8 v = [(i, D)] := by
 rcases h with ⟨rfl, _⟩ | ⟨i, g, rfl, _⟩
 ·exact .inl rfl
 ·exact .inr ⟨i, rfl⟩
theorem HS.tagAll {e sz D o nx v n cs} (h : HS e sz D o nx v n cs) (p : Tag → Bool) (hp : ∀ i, p (i, D) = true) : (y8 v).all p = true := by
 rcases h.tagOf_of with e | ⟨i, e⟩ <;> rw [e]
 ·rfl
 ·simp [hp]
theorem HS.ninOf {e sz D o nx v n cs} (h : HS e sz D o nx v n cs) (i j : Nat) (hj : j ≠ D) : A.nin (i, j) (y8 v) = true := by
 rcases h.tagOf_of with e | ⟨i, e⟩ <;> rw [e]
 ·rfl
 ·exact aT3 (fun t ht => by rw [List.mem_singleton.1 ht]) hj
theorem bu6 (t : Tag) (x y : List Tag) : nin t (x ++ y) = (nin t x && nin t y) := by
 unfold nin
 rw [List.contains_append]
 cases x.contains t <;> cases y.contains t <;> rfl
section
variable {E : Env} {cr : q8} (st : Nat) (ops : Array Oper) (ty : TypeId) (p : String) (af : Array Edge) (l : List Oper) (a : n8) (o : Ob) (nx : Nat) (Q : l8)
@[go_sem] theorem cF2 (t m k x) : WS E cr st ops (⟨none, .insert t m k x, ty, p, af, none⟩ :: l) a o nx Q = wO ((opd a m).bind fun mv => (opd a k).bind fun kv => (opd a x).bind fun vv => m6 E.P t mv kv vv ⟨o, nx⟩) (kS E cr st ops l a Q) := by
 rw [D7]; unfold wO; simp only [f9]
 cases opd a m with
 | none => rfl
 | some v =>
  simp only [Option.bind_some]
  cases opd a k with
  | none => rfl
  | some u =>
   simp only [Option.bind_some]
   cases opd a x with
   | none => rfl
   | some y => simp only [Option.bind_some]; cases m6 E.P t v u y ⟨o, nx⟩ <;> rfl
end
@[go_sem] theorem cQ5 (o d f x y) : view o (d + 1) (.fn f x y) = .fn f (x.map (view o d)) (y.map (view o d)) := rfl
end Go.Proofs.YtpmjpogcaglphaaDoor.A
