/- within: the remainder. -/
import Derived.Test.YtpmjpogcaglphaaDoorMLMLaws6
import Derived.Test.YtpmjpogcaglphaaDoorMLMLaws4
set_option linter.unusedVariables false
set_option linter.unusedSimpArgs false
set_option linter.unnecessarySimpa false
namespace Go.Proofs.YtpmjpogcaglphaaDoor.A
open Go
set_option maxRecDepth 20000
def RW (args : List AV) (r : AV) : Prop := ∃ a n : Int, 0 < n ∧ n ≤ 1000000 ∧ args = [.int .i64 a, .int .i64 n] ∧ r = .int .i64 (a % n)
theorem cP3 : Q5 RW := by
 rintro args r r' ⟨a, n, _, _, rfl, rfl⟩ ⟨a', n', _, _, h, rfl⟩
 simp only [List.cons.injEq, AV.int.injEq, true_and, and_true] at h
 rw [h.1, h.2]
theorem bS7 {a n : Int} (h1 : 0 < n) (h2 : n ≤ 1000000) : E3 RW [.int .i64 a, .int .i64 n] = some (.int .i64 (a % n)) := m8 cP3 ⟨a, n, h1, h2, rfl, rfl⟩
theorem bL5 (a n : Int) (h : 0 < n) : a % n = if a.tmod n < 0 then a.tmod n + n else a.tmod n := by
 have hn : ¬ n = 0 := by omega
 have e1 := Int.emod_lt_of_pos a h
 have e2 := Int.emod_nonneg a hn
 rw [Int.tmod_eq_emod]
 have : (n.natAbs : Int) = n := by omega
 split
 ·split <;> omega
 ·rename_i hc
  simp only [not_or] at hc
  have h0 : a % n ≠ 0 := fun e => hc.2 (Int.dvd_of_emod_eq_zero e)
  split <;> omega
theorem bk6 (a n : Int) (h : 0 < n) : -n < a.tmod n ∧ a.tmod n < n := by
 have hn : ¬ n = 0 := by omega
 rw [Int.tmod_eq_emod]
 have := Int.emod_lt_of_pos a h
 have := Int.emod_nonneg a hn
 constructor <;> split <;> omega
theorem cm4 (X) : f7 (EX md0 X) (fun _ => none) 2 Tryd.f64 = true := by kernel_rfl
theorem av6 (args r) (h : RW args r) : Ok Tryd.prog 64 args r := by
 obtain ⟨a, n, h1, h2, rfl, rfl⟩ := h
 refine m5 (E := EX md0 (fun _ _ => none)) (cr := noR) (p9 _) (o8 _) mixed (k := 0) Tryd.func64 (cm4 _) rfl ?_
 rw [bL5 a n h1]
 obtain ⟨h3, h4⟩ := bk6 a n h1
 simp only [Tryd.f64, Option.getD_some]
 by_cases hc : a.tmod n < 0
 ·rw [if_pos hc]
  simp (disch := omega) only [go_sem, hc]
 ·rw [if_neg hc]
  simp (disch := omega) only [go_sem, hc]
theorem cm5 (X) : f7 (EX md0 X) (fun _ => none) 2 Tryd.f30 = true := by kernel_rfl
theorem ba9 (args r) (h : RW args r) : Ok Tryd.prog 30 args r := by
 obtain ⟨a, n, h1, h2, rfl, rfl⟩ := h
 refine m5 (E := EX md0 (fun _ _ => none)) (cr := noR) (p9 _) (o8 _) mixed (k := 0) Tryd.func30 (cm5 _) rfl ?_
 rw [bL5 a n h1]
 obtain ⟨h3, h4⟩ := bk6 a n h1
 simp only [Tryd.f30, Option.getD_some]
 by_cases hc : a.tmod n < 0
 ·rw [if_pos hc]
  simp (disch := omega) only [go_sem, hc]
 ·rw [if_neg hc]
  simp (disch := omega) only [go_sem, hc]
set_option maxRecDepth 20000
abbrev ao2 (N S F : Int) (ss : List (Int × Int × Int)) (fs : List (Int × Int)) : AV := .agg [.int .i64 N, .int .i64 S, .int .i64 F, .sl ss.length (cS ss), .sl fs.length (cP fs)]
def N2 (rows : List (List Int)) (f : Int × Int) : List (List Int) := rows.set f.1.toNat (rows.getD f.1.toNat [] ++ [f.2])
def t7 (N : Nat) (fs : List (Int × Int)) : List (List Int) := fs.foldl N2 (List.replicate N [])
theorem aM9 (N fs f) : t7 N (fs ++ [f]) = N2 (t7 N fs) f := by simp [t7]
theorem Q7 (N fs) : (t7 N fs).length = N := by
 have : ∀ (l : List (Int × Int)) (rows : List (List Int)), (l.foldl N2 rows).length = rows.length := fun l => by
  induction l with
  | nil => intro; rfl
  | cons f l ih => intro rows; rw [List.foldl_cons, ih]; simp [N2]
 rw [t7, this]; simp
theorem bk7 (N fs j) : ((t7 N fs).getD j []).length ≤ fs.length := by
 have : ∀ (l : List (Int × Int)) (rows : List (List Int)) (n : Nat), (∀ j, (rows.getD j []).length ≤ n) → ∀ j, ((l.foldl N2 rows).getD j []).length ≤ n + l.length := fun l => by
  induction l with
  | nil => intro rows n h j; simpa using h j
  | cons f l ih =>
   intro rows n h j
   have := ih (N2 rows f) (n + 1) (fun j => by
    unfold N2
    by_cases hf : f.1.toNat < rows.length
    ·rw [B7 _ _ _ _ _ hf]
     split
     ·have := h f.1.toNat; rw [List.length_append, List.length_singleton]; omega
     ·have := h j; omega
    ·rw [List.set_eq_of_length_le (by omega)]; have := h j; omega) j
   simp only [List.foldl_cons, List.length_cons]; omega
 have := this fs (List.replicate N []) 0 (fun j => by simp [List.getD, List.getElem?_replicate]; split <;> simp) j
 simpa [t7] using this
def cf3 : Nat → Option (List (Nat × Nat))
 | 1 => some [(1, 4), (1, 6), (3, 6), (4, 6)]
 | 5 => some [(1, 12), (3, 12), (5, 12), (7, 12), (9, 12), (1, 13), (3, 13)]
 | _ => none
theorem bb0 (md X cr k) (N : Nat) (S F : Int) (hN : N ≤ 1000) (ss fs) (hfs : fs.length ≤ 100000) (hk : fs.length < k) (hin : ∀ p ∈ fs, 0 ≤ p.1 ∧ p.1 < (N : Int)) :
  WP (EX md X) cr k cf3 (Tryd.f96.body.getD .skip) (y0 [ao2 N S F ss fs]) (fun _ => none) 0 (fun u a o nx => u = .ret ∧ ∃ cs, NI 32 o nx cs (t7 N fs) ∧ a 2 = .ptr (0, 2) (0, 2) 0 ∧
   o (0, 2) = some (.row ⟨165, 1, (0, 2), false, true, [.int .i64 N, .ref (1, 10) (1, 10) 0 N]⟩) ∧ o (1, 10) = some (.row ⟨22, 1, (1, 10), false, true, cs⟩)) := by
 simp only [Tryd.f96, Option.getD_some]
 simp only [go_sem, cf3, y0]
 refine u2 (fun m a o nx => ∃ i cs, i ≤ fs.length ∧ m = fs.length - i ∧ NI 32 o nx cs (t7 N (fs.take i)) ∧ 2 ≤ nx ∧ a 2 = .ptr (0, 2) (0, 2) 0 ∧ a 3 = .ptr (1, 3) (1, 3) 0 ∧ a 13 = .sl fs.length (cP fs) ∧ a 14 = .int .i64 fs.length ∧ a 15 = .int .i64 i ∧
   (∃ x, o (0, 2) = some (.row ⟨165, 1, (0, 2), false, true, x⟩) ∧ x.length = 2) ∧ o (1, 3) = some (.row ⟨165, 1, (1, 3), false, true, [.int .i64 N, .ref (1, 10) (1, 10) 0 N]⟩) ∧ o (1, 10) = some (.row ⟨22, 1, (1, 10), false, true, cs⟩)) fs.length hk ⟨0, List.replicate N .nil, ?_⟩ ?_
 ·simp only [go_sem, ay9, List.take_zero, Nat.sub_zero]
  exact ⟨by omega, NI.start _ _ _ N, ⟨_, rfl, rfl⟩⟩
 ·rintro m a o nx ⟨i, cs, hi, rfl, hNI, hnx, h2, h3, h13, h14, h15, ⟨x, hx, hxl⟩, ho3, ho10⟩
  by_cases hlt : i < fs.length
  ·obtain ⟨hf0, hfN⟩ := hin (fs.getD i (0, 0)) (by simp [List.getD, hlt])
   have hat := aM8 hlt
   have htake := t8 hlt (0, 0)
   generalize fs.getD i (0, 0) = f at hf0 hfN hat htake
   obtain ⟨f, t⟩ := f
   simp only at hf0 hfN hat htake
   obtain ⟨j, rfl⟩ := Int.eq_ofNat_of_zero_le hf0
   have hrl := Q7 N (fs.take i)
   have hcl : cs.length = N := by rw [hNI.1, hrl]
   have hjN : j < cs.length := by omega
   have hH := hNI.2.1 j (by omega)
   have hget := av5 (s := 1) hjN
   generalize hv : cs.getD j .nil = v at hH hget
   have hspl : ∀ v, r8 cs j [v] = cs.set j v := fun v => aa8 cs j v hjN
   have hnext : t7 N (fs.take (i + 1)) = (t7 N (fs.take i)).set j ((t7 N (fs.take i)).getD j [] ++ [t]) := by rw [htake, aM9]; rfl
   have hjr : j < (t7 N (fs.take i)).length := by omega
   rcases hH with ⟨rfl, e2, e3⟩ | ⟨i1, g, rfl, hi1, hrow, hlen⟩
   ·simp (disch := omega) only [go_sem, cf3, h2, h3, h13, h14, h15, ho3, ho10, hat, hget, hspl, IntWalk.i64_in]
    have e4 : (t7 N (fs.take i)).getD j [] = [] := List.length_eq_zero_iff.1 e2
    refine ⟨_, ?_, i + 1, _, by omega, rfl, ?_, by simp, ⟨x, hx, hxl⟩, rfl⟩
    ·omega
    ·rw [hnext, e4]
     exact NI.set (l := [t]) hNI hjr rfl (by omega) (by omega) (.inl ⟨hv, by omega⟩) (fun i' _ h => by simp [d6, h]) (by simp [d6, cI])
   ·have hle := bk7 N (fs.take i) j
    have hlt' : (fs.take i).length ≤ fs.length := by simp; omega
    generalize (t7 N (fs.take i)).getD j [] = r at *
    simp (disch := omega) only [go_sem, cf3, h2, h3, h13, h14, h15, ho3, ho10, hat, hget, hrow, hspl, IntWalk.i64_in]
    refine ⟨_, ?_, i + 1, _, by omega, rfl, ?_, by simp, ⟨x, hx, hxl⟩, rfl⟩
    ·omega
    ·rw [hnext]
     exact NI.set (l := r ++ [t]) hNI hjr (by simp) (by omega) (by omega) (.inr ⟨_, _, hv⟩) (fun i' _ h => by simp [d6, h]) (by simp [d6, cI])
  ·have e : i = fs.length := by omega
   subst e
   rw [List.take_length] at hNI
   match x, hxl with
   | [x1, x2], _ =>
    simp only [go_sem, cf3, h2, h3, h13, h14, h15, ho3, ho10, hx]
    exact ⟨cs, hNI.keep (fun _ _ => by simp [d6]) (by omega), rfl⟩
abbrev T4 (N : Nat) (rows : List (List Int)) : AV := .agg [.int .i64 N, .sl N (rows.map slI)]
theorem cm6 (X) : f7 (EX md0 X) cf3 1 Tryd.f96 = true := by kernel_rfl
theorem bb1 (N : Nat) (S F : Int) (hN : N ≤ 1000) (ss fs) (hfs : fs.length ≤ 100000) (hin : ∀ p ∈ fs, 0 ≤ p.1 ∧ p.1 < (N : Int)) : Ok Tryd.prog 96 [ao2 N S F ss fs] (T4 N (t7 N fs)) := by
 refine m5 (E := EX md0 (fun _ _ => none)) (cr := noR) (p9 _) (o8 _) mixed (k := fs.length + 1) Tryd.func96 (cm6 _) rfl (T1 (bb0 _ _ _ _ N S F hN ss fs hfs (by omega) hin) ?_)
 rintro u a o nx ⟨rfl, cs, hNI, h2, ho2, ho10⟩
 have hv := hNI.view 1009
 have hl : cs.length = N := by rw [hNI.1, Q7]
 refine ⟨.inr rfl, ?_⟩
 simp only [Tryd.f96, go_sem, h2, ho2, ho10, hl, hv, j0 hl]
set_option maxRecDepth 20000
inductive Rch (N : Nat) (rows : List (List Int)) (l : List Int) : Nat → Prop
 | base (s : Nat) (h : (s : Int) ∈ l) (hs : s < N) : Rch N rows l s
 | step (s t : Nat) (h : Rch N rows l s) (hm : (t : Int) ∈ rows.getD s []) (ht : t < N) : Rch N rows l t
theorem Rch.lt {N rows l s} (h : Rch N rows l s) : s < N := by cases h <;> assumption
open Classical in
noncomputable def B8 (N : Nat) (rows : List (List Int)) (l : List Int) : List Bool := (List.range N).map fun s => decide (Rch N rows l s)
def B4 (b : List Bool) : List Int := ((List.range b.length).map fun s => if b.getD s false then [(s : Int)] else []).flatten
theorem I8 (N rows l) : (B8 N rows l).length = N := by simp [B8]
theorem W1 (N rows l s) : (B8 N rows l).getD s false = true ↔ Rch N rows l s := by
 classical
 simp only [B8, List.getD, List.getElem?_map, List.getElem?_range']
 by_cases h : s < N
 ·simp [h]
 ·simp only [List.getElem?_eq_none (show (List.range N).length ≤ s by simp; omega)]
  simp
  exact fun hc => h hc.lt
theorem ab2 {N rows l} {b : List Bool} (hl : b.length = N) (h : ∀ s, b.getD s false = true ↔ Rch N rows l s) : b = B8 N rows l := by
 refine List.ext_getElem (by rw [hl, I8]) fun s h1 h2 => ?_
 have e1 : b.getD s false = b[s] := by simp [List.getD, h1]
 have e2 : (B8 N rows l).getD s false = (B8 N rows l)[s] := by simp [List.getD, h2]
 rw [Bool.eq_iff_iff, ← e1, ← e2, h, W1]
def aC4 (rows : List (List Int)) (b : List Bool) : Nat := ((List.range b.length).map fun s => if b.getD s false then 0 else (rows.getD s []).length).sum
theorem bb2 {α : Type} (l : List α) (f g : α → Nat) (h : ∀ x ∈ l, f x ≤ g x) : (l.map f).sum ≤ (l.map g).sum := by
 induction l with
 | nil => simp
 | cons x l ih =>
  have := h x (List.mem_cons_self ..)
  have := ih fun y hy => h y (List.mem_cons_of_mem _ hy)
  simp; omega
theorem aN0 (n s : Nat) (hs : s < n) (f g : Nat → Nat) (h : ∀ x, x ≠ s → f x = g x) : ((List.range n).map f).sum + g s = ((List.range n).map g).sum + f s := by
 induction n with
 | zero => omega
 | succ n ih =>
  simp only [List.range_succ, List.map_append, List.sum_append, List.map_cons, List.map_nil, List.sum_cons, List.sum_nil]
  by_cases e : s = n
  ·subst e
   have : (List.range s).map f = (List.range s).map g := List.map_congr_left fun x hx => h x (by have := List.mem_range.1 hx; omega)
   rw [this]; omega
  ·have := ih (by omega)
   have := h n (fun hc => e hc.symm)
   omega
theorem bA6 {rows : List (List Int)} {b : List Bool} {s : Nat} (hs : s < b.length) (hb : b.getD s false = false) : aC4 rows (b.set s true) + (rows.getD s []).length = aC4 rows b := by
 unfold aC4
 rw [List.length_set]
 have := aN0 b.length s hs (fun x => if (b.set s true).getD x false then 0 else (rows.getD x []).length) (fun x => if b.getD x false then 0 else (rows.getD x []).length) (fun x hx => by
  rw [B7 _ _ _ _ _ hs, if_neg (show ¬ s = x from fun hc => hx hc.symm)])
 rw [hb, B7 _ _ _ _ _ hs, if_pos rfl] at this
 rw [if_neg (by simp), if_pos rfl] at this
 omega
structure Mid (N : Nat) (rows : List (List Int)) (l : List Int) (b : List Bool) (st : List Int) : Prop where
 len : b.length = N
 sound : ∀ s, b.getD s false = true → Rch N rows l s
 wait : ∀ s : Nat, (s : Int) ∈ st → s < N → Rch N rows l s
 base : ∀ s : Nat, (s : Int) ∈ l → s < N → b.getD s false = true ∨ (s : Int) ∈ st
 next : ∀ s t : Nat, b.getD s false = true → (t : Int) ∈ rows.getD s [] → t < N → b.getD t false = true ∨ (t : Int) ∈ st
theorem Mid.start (N rows l) : Mid N rows l (List.replicate N false) l := by
 have h0 : ∀ s, (List.replicate N false).getD s false = false := fun s => by simp only [List.getD, List.getElem?_replicate]; split <;> rfl
 exact ⟨by simp, fun s h => (by rw [h0] at h; cases h), fun s h hs => .base s h hs, fun s h _ => .inr h, fun s t h => (by rw [h0] at h; cases h)⟩
theorem Mid.done {N rows l b} (h : Mid N rows l b []) : b = B8 N rows l := by
 refine ab2 h.len fun s => ⟨h.sound s, fun hr => ?_⟩
 induction hr with
 | base s hm hs =>
  rcases h.base s hm hs with h | h
  ·exact h
  ·cases h
 | step s t hr hm ht ih =>
  rcases h.next s t ih hm ht with h | h
  ·exact h
  ·cases h
theorem Mid.skip {N rows l b st} {x : Int} (h : Mid N rows l b (st ++ [x])) (hx : ∀ s : Nat, x = s → s < N → b.getD s false = true) : Mid N rows l b st := by
 refine ⟨h.len, h.sound, fun s hm hs => h.wait s (by simp [hm]) hs, fun s hm hs => ?_, fun s t hb hm ht => ?_⟩
 ·rcases h.base s hm hs with h1 | h1
  ·exact .inl h1
  ·rcases List.mem_append.1 h1 with h1 | h1
   ·exact .inr h1
   ·exact .inl (hx s (List.mem_singleton.1 h1).symm hs)
 ·rcases h.next s t hb hm ht with h1 | h1
  ·exact .inl h1
  ·rcases List.mem_append.1 h1 with h1 | h1
   ·exact .inr h1
   ·exact .inl (hx t (List.mem_singleton.1 h1).symm ht)
theorem Mid.mark {N rows l b st} {s : Nat} (h : Mid N rows l b (st ++ [(s : Int)])) (hs : s < N) : Mid N rows l (b.set s true) (st ++ rows.getD s []) := by
 have hsl : s < b.length := by rw [h.len]; exact hs
 have hr : Rch N rows l s := h.wait s (by simp) hs
 have hg : ∀ t, (b.set s true).getD t false = true ↔ t = s ∨ b.getD t false = true := fun t => by
  rw [B7 _ _ _ _ _ hsl]
  by_cases e : s = t
  ·simp [e]
  ·rw [if_neg e]; simp [show ¬ t = s from fun hc => e hc.symm]
 refine ⟨by simpa using h.len, fun t ht => ?_, fun t hm ht => ?_, fun t hm ht => ?_, fun t u hb hm hu => ?_⟩
 ·rcases (hg t).1 ht with rfl | ht
  ·exact hr
  ·exact h.sound t ht
 ·rcases List.mem_append.1 hm with hm | hm
  ·exact h.wait t (by simp [hm]) ht
  ·exact .step s t hr hm ht
 ·rw [hg]
  rcases h.base t hm ht with h1 | h1
  ·exact .inl (.inr h1)
  ·rcases List.mem_append.1 h1 with h1 | h1
   ·exact .inr (List.mem_append_left _ h1)
   ·exact .inl (.inl (by have := List.mem_singleton.1 h1; omega))
 ·rw [hg]
  rcases (hg t).1 hb with rfl | hb
  ·exact .inr (List.mem_append_right _ hm)
  ·rcases h.next t u hb hm hu with h1 | h1
   ·exact .inl (.inr h1)
   ·rcases List.mem_append.1 h1 with h1 | h1
    ·exact .inr (List.mem_append_left _ h1)
    ·exact .inl (.inl (by have := List.mem_singleton.1 h1; omega))
theorem bk8 {b : List Bool} {i : Nat} (h : i < b.length) : B4 (b.take (i + 1)) = B4 (b.take i) ++ (if b.getD i false then [(i : Int)] else []) := by
 have e : ∀ n, n ≤ b.length → B4 (b.take n) = ((List.range n).map fun s => if b.getD s false then [(s : Int)] else []).flatten := fun n hn => by
  unfold B4
  rw [List.length_take, Nat.min_eq_left hn]
  congr 1
  refine List.map_congr_left fun s hs => ?_
  have : s < n := List.mem_range.1 hs
  have : (b.take n).getD s false = b.getD s false := by simp [List.getD, List.getElem?_take, this]
  rw [this]
 rw [e _ (by omega), e _ (by omega), List.range_succ, List.map_append, List.flatten_append]
 congr 1
 rw [List.map_singleton]
 exact List.append_nil _
theorem bb3 {rows : List (List Int)} {N : Nat} (h : rows.length = N) : aC4 rows (List.replicate N false) = (rows.map List.length).sum := by
 subst h
 unfold aC4
 congr 1
 refine List.ext_getElem (by simp) fun s h1 h2 => ?_
 have hs : s < rows.length := by simpa using h2
 simp [List.getD, List.getElem?_replicate, hs]
theorem ao3 (b : List Bool) : (B4 b).length ≤ b.length := by
 unfold B4
 rw [List.length_flatten, List.map_map]
 have h := bb2 (List.range b.length) (List.length ∘ fun s => if b.getD s false then [(s : Int)] else []) (fun _ => 1) (fun s _ => by
  show (if b.getD s false then [(s : Int)] else []).length ≤ 1
  split
  ·exact Nat.le_refl 1
  ·exact Nat.zero_le 1)
 have h2 : ∀ n : Nat, ((List.range n).map fun _ => 1).sum = n := fun n => by
  induction n with
  | zero => rfl
  | succ n ih => rw [List.range_succ, List.map_append, List.sum_append, ih]; rfl
 rw [h2] at h
 exact h
theorem cm7 (rows : List (List Int)) (s : Nat) : (rows.getD s []).length ≤ (rows.map List.length).sum := by
 induction rows generalizing s with
 | nil => simp [List.getD]
 | cons r rows ih =>
  cases s with
  | zero => simp [List.getD]
  | succ s => have := ih s; simp only [List.getD_cons_succ, List.map_cons, List.sum_cons]; omega
theorem bb4 {rows : List (List Int)} {s : Nat} (h : s < rows.length) : M5 false 1 ((rows.map slI).drop s) = some (slI (rows.getD s [])) := by
 rw [av5 (by simpa using h)]; simp [List.getD, h]
theorem bA7 (md X cr k) (N : Nat) (hN : N ≤ 100000) (rows : List (List Int)) (hr : rows.length = N) (l : List Int) (hsz : l.length + (rows.map List.length).sum ≤ 10000000) (hk : l.length + (rows.map List.length).sum + N < k) :
  WP (EX md X) cr k (fun _ => none) (Tryd.f97.body.getD .skip) (y0 [T4 N rows, slI l]) (fun _ => none) 0 (fun u a o nx => u = .ret ∧ A.view o n6 (a 4) = slI (B4 (B8 N rows l))) := by
 simp only [Tryd.f97, Option.getD_some]
 have hz : (cI (List.replicate l.length 0)).drop l.length = [] := by simp [cI]
 simp (disch := omega) only [go_sem, y0, aT2, an9, hz]
 refine u2 (fun m a o nx => ∃ b full n g, Mid N rows l b (full.take n) ∧ n ≤ full.length ∧ m = n + aC4 rows b ∧ 4 ≤ nx ∧ m ≤ l.length + (rows.map List.length).sum ∧ a 2 = .ptr (0, 2) (0, 2) 0 ∧ a 5 = .ref (1, 13) (1, 13) 0 N ∧ a 6 = .ref (2, 16) g 0 n ∧
   o (0, 2) = some (.row ⟨165, 1, (0, 2), false, true, [.int .i64 N, .sl N (rows.map slI)]⟩) ∧ o (1, 13) = some (.row ⟨4, 1, (1, 13), false, true, cB b⟩) ∧ o (2, 16) = some (.row ⟨3, 1, g, false, true, cI full⟩)) (l.length + (rows.map List.length).sum) ?_ ?_ ?_
 ·omega
 ·refine ⟨List.replicate N false, l, l.length, (2, 16), by rw [List.take_length]; exact Mid.start N rows l, Nat.le_refl _, by rw [bb3 hr], by omega, Nat.le_refl _, ?_⟩
  simp only [go_sem, y0]
 ·rintro m a o nx ⟨b, full, n, g, hM, hn, rfl, hnx, hm, h2, h5, h6, ho2, ho13, ho16⟩
  have hbl := hM.len
  by_cases h0 : n = 0
  ·subst h0
   rw [List.take_zero] at hM
   have hdone := hM.done
   simp (disch := omega) only [go_sem, h2, h5, h6, ho2, ho13, ho16]
   refine u2 (fun m a o nx' => ∃ i g, i ≤ N ∧ m = N - i ∧ nx + 2 ≤ nx' ∧ a 8 = .ref (nx + 1, 61) g 0 (B4 (b.take i)).length ∧ a 62 = .ref (1, 13) (1, 13) 0 N ∧ a 63 = .int .i64 N ∧ a 64 = .int .i64 i ∧
    o (1, 13) = some (.row ⟨4, 1, (1, 13), false, true, cB b⟩) ∧ o (nx + 1, 61) = some (.row ⟨3, 1, g, false, true, cI (B4 (b.take i))⟩)) N ?_ ?_ ?_
   ·omega
   ·refine ⟨0, (nx + 1, 61), by omega, by omega, by omega, ?_⟩
    have h0 : B4 (b.take 0) = [] := rfl
    simp only [go_sem, ho13, h0]
    exact ⟨rfl, rfl⟩
   ·rintro m a o nx' ⟨i, g, hi, rfl, hnx', h8, h62, h63, h64, ho13, ho61⟩
    by_cases hlt : i < N
    ·have hib : i < b.length := by omega
     have hgb := av4 (s := 1) hib
     have hsn := bk8 hib
     have hle := ao3 (b.take i)
     rw [List.length_take] at hle
     cases hbi : b.getD i false with
     | true =>
      rw [hbi] at hgb hsn
      rw [if_pos rfl] at hsn
      simp (disch := omega) only [go_sem, h8, h62, h63, h64, ho13, ho61, hgb, IntWalk.i64_in]
      exact ⟨_, by omega, i + 1, _, by omega, rfl, by omega, by rw [hsn, List.length_append]; rfl, by simp, by rw [hsn, av2]; rfl⟩
     | false =>
      rw [hbi] at hgb hsn
      rw [if_neg (by simp), List.append_nil] at hsn
      simp (disch := omega) only [go_sem, h8, h62, h63, h64, ho13, ho61, hgb, IntWalk.i64_in]
      exact ⟨_, by omega, i + 1, g, by omega, rfl, by omega, by rw [hsn], by simp, by rw [hsn]⟩
    ·have e : i = N := by omega
     subst e
     rw [List.take_of_length_le (by omega)] at h8 ho61
     have hlb := ao3 b
     rw [← hdone]
     by_cases hz : (B4 b).length = 0
     ·simp (disch := omega) only [go_sem, h8, h62, h63, h64, ho13, ho61, hz]
      rw [List.length_eq_zero_iff.1 hz]; rfl
     ·simp (disch := omega) only [go_sem, h8, h62, h63, h64, ho13, ho61, hz]
  ·have hg := av3 (s := 1) (show n - 1 < full.length by omega)
   have htk : full.take n = full.take (n - 1) ++ [full.getD (n - 1) 0] := by
    have := t8 (show n - 1 < full.length by omega) 0
    rwa [show n - 1 + 1 = n by omega] at this
   rw [htk] at hM
   generalize full.getD (n - 1) 0 = x at hg htk hM
   have htk1 : (full.take (n - 1)).length = n - 1 := by rw [List.length_take]; omega
   by_cases hx0 : 0 ≤ x
   ·obtain ⟨s, rfl⟩ := Int.eq_ofNat_of_zero_le hx0
    by_cases hs : s < N
    ·have hgb := av4 (s := 1) (show s < b.length by omega)
     have hrow := bb4 (rows := rows) (show s < rows.length by omega)
     have hcs := ck0 b s true (by omega)
     cases hbs : b.getD s false with
     | true =>
      rw [hbs] at hgb
      simp (disch := omega) only [go_sem, h2, h5, h6, ho2, ho13, ho16, hg, hgb, IntWalk.i64_in]
      refine ⟨_, ?_, b, full, n - 1, g, hM.skip (fun t ht _ => ?_), by omega, rfl, by omega, rfl, rfl, rfl⟩
      ·omega
      ·have : s = t := by omega
       rw [← this, hbs]
     | false =>
      rw [hbs] at hgb
      have htd := bA6 (rows := rows) (show s < b.length by omega) hbs
      have hrl : (rows.getD s []).length ≤ (rows.map List.length).sum := cm7 rows s
      simp (disch := omega) only [go_sem, h2, h5, h6, ho2, ho13, ho16, hg, hgb, hrow, hcs, aM5, IntWalk.i64_in]
      refine ⟨_, ?_, b.set s true, full.take (n - 1) ++ rows.getD s [], n - 1 + (rows.getD s []).length, _, ?_, ?_, rfl, ?_, rfl, rfl, by rw [av2]⟩
      ·omega
      ·rw [List.take_of_length_le (by rw [List.length_append]; omega)]
       exact hM.mark hs
      ·rw [List.length_append]; omega
      ·omega
    ·simp (disch := omega) only [go_sem, h2, h5, h6, ho2, ho13, ho16, hg, IntWalk.i64_in]
     exact ⟨_, by omega, b, full, n - 1, g, hM.skip (fun t ht htN => by omega), by omega, rfl, by omega, rfl, rfl, rfl⟩
   ·simp (disch := omega) only [go_sem, h2, h5, h6, ho2, ho13, ho16, hg, IntWalk.i64_in]
    exact ⟨_, by omega, b, full, n - 1, g, hM.skip (fun t ht _ => by omega), by omega, rfl, by omega, rfl, rfl, rfl⟩
theorem cm8 (X) : f7 (EX md0 X) (fun _ => none) 2 Tryd.f97 = true := by kernel_rfl
theorem bA8 (N : Nat) (hN : N ≤ 100000) (rows : List (List Int)) (hr : rows.length = N) (l : List Int) (hsz : l.length + (rows.map List.length).sum ≤ 10000000) : Ok Tryd.prog 97 [T4 N rows, slI l] (slI (B4 (B8 N rows l))) := by
 refine m5 (E := EX md0 (fun _ _ => none)) (cr := noR) (p9 _) (o8 _) mixed (k := l.length + (rows.map List.length).sum + N + 1) Tryd.func97 (cm8 _) rfl (T1 (bA7 _ _ _ _ N hN rows hr l hsz (by omega)) ?_)
 rintro u a o nx ⟨rfl, h⟩
 exact ⟨.inr rfl, h⟩
end Go.Proofs.YtpmjpogcaglphaaDoor.A
namespace Go.Proofs.YtpmjpogcaglphaaDoor.A
open Go
set_option maxRecDepth 20000
def R38 (args : List AV) (r : AV) : Prop := ∃ (N : Nat) (S F : Int) (ss : List (Int × Int × Int)) (fs : List (Int × Int)), N ≤ 1000 ∧ fs.length ≤ 100000 ∧ (∀ p ∈ fs, 0 ≤ p.1 ∧ p.1 < (N : Int)) ∧ args = [ao2 N S F ss fs] ∧ r = T4 N (t7 N fs)
def R39 (args : List AV) (r : AV) : Prop := ∃ (N : Nat) (rows : List (List Int)) (l : List Int), N ≤ 100000 ∧ rows.length = N ∧ l.length + (rows.map List.length).sum ≤ 10000000 ∧ args = [T4 N rows, slI l] ∧ r = slI (B4 (B8 N rows l))
theorem cm9 : Q5 R38 := by
 rintro args r r' ⟨N, S, F, ss, fs, _, _, _, rfl, rfl⟩ ⟨N', S', F', ss', fs', _, _, _, h, rfl⟩
 simp only [ao2, List.cons.injEq, AV.agg.injEq, AV.int.injEq, AV.sl.injEq, true_and, and_true] at h
 obtain ⟨h1, _, _, _, _, h2⟩ := h
 have h1 : N = N' := by omega
 rw [h1, aG3 h2]
theorem cn0 : Q5 R39 := by
 rintro args r r' ⟨N, rows, l, _, _, _, rfl, rfl⟩ ⟨N', rows', l', _, _, _, h, rfl⟩
 simp only [T4, List.cons.injEq, AV.agg.injEq, AV.int.injEq, AV.sl.injEq, true_and, and_true] at h
 obtain ⟨⟨h1, _, h2⟩, _, h3⟩ := h
 have h1 : N = N' := by omega
 rw [h1, bA5 h2, P1 h3]
theorem cn1 (args r) (h : R38 args r) : Ok Tryd.prog 96 args r := by
 obtain ⟨N, S, F, ss, fs, h1, h2, h3, rfl, rfl⟩ := h
 exact bb1 N S F h1 ss fs h2 h3
theorem cn2 (args r) (h : R39 args r) : Ok Tryd.prog 97 args r := by
 obtain ⟨N, rows, l, h1, h2, h3, rfl, rfl⟩ := h
 exact bA8 N h1 rows h2 l h3
theorem bA9 {N : Nat} {fs : List (Int × Int)} (h : ∀ p ∈ fs, 0 ≤ p.1 ∧ p.1 < (N : Int)) : ((t7 N fs).map List.length).sum = fs.length := by
 have key : ∀ (l : List (Int × Int)) (rows : List (List Int)), rows.length = N → (∀ p ∈ l, 0 ≤ p.1 ∧ p.1 < (N : Int)) → ((l.foldl N2 rows).map List.length).sum = (rows.map List.length).sum + l.length := fun l => by
  induction l with
  | nil => intro rows _ _; simp
  | cons p l ih =>
   intro rows hl hp
   have hp0 := hp p (List.mem_cons_self ..)
   have hlt : p.1.toNat < rows.length := by omega
   rw [List.foldl_cons, ih _ (by simpa [N2] using hl) (fun q hq => hp q (List.mem_cons_of_mem _ hq))]
   have : ((N2 rows p).map List.length).sum = (rows.map List.length).sum + 1 := by
    unfold N2
    have e : ∀ (rs : List (List Int)) (i : Nat) (x : List Int), i < rs.length → ((rs.set i x).map List.length).sum + (rs.getD i []).length = (rs.map List.length).sum + x.length := fun rs => by
     induction rs with
     | nil => intro i x h; simp at h
     | cons r rs ih =>
      intro i x h
      cases i with
      | zero => simp [List.getD]; omega
      | succ i =>
       have := ih i x (by simpa using h)
       simp only [List.set_cons_succ, List.map_cons, List.sum_cons, List.getD_cons_succ]
       omega
    have := e rows p.1.toNat (rows.getD p.1.toNat [] ++ [p.2]) hlt
    rw [List.length_append, List.length_singleton] at this
    omega
   rw [this, List.length_cons]; omega
 have := key fs (List.replicate N []) (by simp) h
 simpa [t7] using this
noncomputable def X28 : FuncId → List AV → Option AV := p4 [(96, E3 R38), (97, E3 R39)]
theorem cn3 : m7 Tryd.prog X28 := k0 (k0 (p9 _) (n5 cn2)) (n5 cn1)
theorem cn4 {N : Nat} (S F : Int) (ss) {fs : List (Int × Int)} (hN : N ≤ 1000) (hfs : fs.length ≤ 100000) (hin : ∀ p ∈ fs, 0 ≤ p.1 ∧ p.1 < (N : Int)) : X28 96 [ao2 N S F ss fs] = some (T4 N (t7 N fs)) := by
 show E3 R38 _ = _
 exact m8 cm9 ⟨N, S, F, ss, fs, hN, hfs, hin, rfl, rfl⟩
theorem cn5 {N : Nat} {fs : List (Int × Int)} (hN : N ≤ 1000) (hfs : fs.length ≤ 100000) (hin : ∀ p ∈ fs, 0 ≤ p.1 ∧ p.1 < (N : Int)) (l : List Int) (hl : l.length ≤ 9000000) : X28 97 [T4 N (t7 N fs), slI l] = some (slI (B4 (B8 N (t7 N fs) l))) := by
 show E3 R39 _ = _
 exact m8 cn0 ⟨N, t7 N fs, l, by omega, Q7 _ _, by rw [bA9 hin]; omega, rfl, rfl⟩
theorem cn6 (X) : f7 (EX md0 X) (fun _ => none) 2 Tryd.f79 = true := by kernel_rfl
theorem aN1 (N : Nat) (hN : N ≤ 1000) (S F : Int) (ss) (fs : List (Int × Int)) (hfs : fs.length ≤ 100000) (hin : ∀ p ∈ fs, 0 ≤ p.1 ∧ p.1 < (N : Int)) (l : List Int) (hl : l.length ≤ 9000000) : Ok Tryd.prog 79 [ao2 N S F ss fs, slI l] (slI (B4 (B8 N (t7 N fs) l))) := by
 refine m5 (E := EX md0 X28) (cr := noR) cn3 (o8 _) mixed (k := 0) Tryd.func79 (cn6 _) rfl ?_
 have h38 := cn4 S F ss hN hfs hin
 have h39 := cn5 hN hfs hin l hl
 simp only [Tryd.f79, Option.getD_some]
 simp (disch := omega) only [go_sem, y0, h38, h39]
def Q8 (set m : Int) : Bool := decide (cJ3 .i64 (set.fdiv (2 ^ min m.toNat 64)) 1 = 1)
def leads (b : List Bool) (m : Int) (s : Int × Int × Int) : Bool := b.getD s.1.toNat false && (decide (0 ≤ m) && decide (m < 5) && Q8 s.2.2 m)
def ah7 (ss : List (Int × Int × Int)) (b : List Bool) (m : Int) : List Int := (ss.filter (leads b m)).map (·.2.1)
noncomputable def az2 (N : Nat) (rows : List (List Int)) (ss : List (Int × Int × Int)) (b : List Bool) (m : Int) : List Bool := B8 N rows (ah7 ss b m)
noncomputable def bg1 (N : Nat) (S : Int) (ss : List (Int × Int × Int)) (fs : List (Int × Int)) (w : List Int) : List Bool := w.foldl (az2 N (t7 N fs) ss) (B8 N (t7 N fs) [S])
noncomputable def cn7 (N : Nat) (S F : Int) (ss : List (Int × Int × Int)) (fs : List (Int × Int)) (w : List Int) : Bool := (bg1 N S ss fs w).getD F.toNat false
theorem bk9 (N S ss fs w m) : bg1 N S ss fs (w ++ [m]) = az2 N (t7 N fs) ss (bg1 N S ss fs w) m := by simp [bg1]
theorem ab3 {b : List Bool} {x : Int} : x ∈ B4 b ↔ ∃ s : Nat, x = s ∧ b.getD s false = true := by
 unfold B4
 rw [List.mem_flatten]
 constructor
 ·rintro ⟨l, hl, hx⟩
  obtain ⟨s, _, rfl⟩ := List.mem_map.1 hl
  cases hb : b.getD s false with
  | true => rw [hb] at hx; exact ⟨s, by simpa using hx, hb⟩
  | false => rw [hb] at hx; simp at hx
 ·rintro ⟨s, rfl, hb⟩
  have hs : s < b.length := by
   by_cases h : s < b.length
   ·exact h
   ·rw [List.getD, List.getElem?_eq_none (by omega)] at hb; cases hb
  exact ⟨_, List.mem_map.2 ⟨s, List.mem_range.2 hs, rfl⟩, by rw [hb]; simp⟩
def aN2 (N : Nat) (l : List Int) : List Bool := l.foldl (fun b s => b.set s.toNat true) (List.replicate N false)
theorem aG4 (N l) : (aN2 N l).length = N := by
 have : ∀ (l : List Int) (b : List Bool), (l.foldl (fun b s => b.set s.toNat true) b).length = b.length := fun l => by
  induction l with
  | nil => intro; rfl
  | cons x l ih => intro b; rw [List.foldl_cons, ih, List.length_set]
 rw [aN2, this, List.length_replicate]
theorem bl0 (N : Nat) (l : List Int) (h : ∀ x ∈ l, 0 ≤ x ∧ x < (N : Int)) (s : Nat) : (aN2 N l).getD s false = true ↔ (s : Int) ∈ l := by
 have key : ∀ (l : List Int) (b : List Bool), b.length = N → (∀ x ∈ l, 0 ≤ x ∧ x < (N : Int)) → ((l.foldl (fun b s => b.set s.toNat true) b).getD s false = true ↔ b.getD s false = true ∨ (s : Int) ∈ l) := fun l => by
  induction l with
  | nil => intro b _ _; simp
  | cons x l ih =>
   intro b hb hx
   have h0 := hx x (List.mem_cons_self ..)
   rw [List.foldl_cons, ih _ (by rw [List.length_set]; exact hb) (fun y hy => hx y (List.mem_cons_of_mem _ hy)), B7 _ _ _ _ _ (by omega), List.mem_cons]
   by_cases e : x.toNat = s
   ·have : (s : Int) = x := by omega
    simp [e, this]
   ·have : ¬ (s : Int) = x := by omega
    rw [if_neg e]; simp [this]
 have h0 : (List.replicate N false).getD s false = false := by simp only [List.getD, List.getElem?_replicate]; split <;> rfl
 have := key l (List.replicate N false) (by simp) h
 rw [h0] at this
 simpa [aN2] using this
theorem af0 {b : List Bool} {x : Int} (h : x ∈ B4 b) : 0 ≤ x ∧ x < b.length := by
 obtain ⟨s, rfl, hb⟩ := ab3.1 h
 by_cases h : s < b.length
 ·omega
 ·rw [List.getD, List.getElem?_eq_none (by omega)] at hb; cases hb
theorem av7 (b : List Bool) : aN2 b.length (B4 b) = b := by
 refine List.ext_getElem (aG4 _ _) fun s h1 h2 => ?_
 have e1 : (aN2 b.length (B4 b)).getD s false = (aN2 b.length (B4 b))[s] := by simp [List.getD, h1]
 have e2 : b.getD s false = b[s] := by simp [List.getD, h2]
 rw [Bool.eq_iff_iff, ← e1, ← e2, bl0 _ _ (fun x hx => af0 hx), ab3]
 constructor
 ·rintro ⟨t, ht, hb⟩
  have : s = t := by omega
  rw [this]; exact hb
 ·exact fun hb => ⟨s, rfl, hb⟩
structure Wf (N : Nat) (S F : Int) (ss : List (Int × Int × Int)) (fs : List (Int × Int)) : Prop where
 n : N ≤ 1000
 s : 0 ≤ S ∧ S < N
 f : 0 ≤ F ∧ F < N
 ls : ss.length ≤ 100000
 lf : fs.length ≤ 100000
 steps : ∀ p ∈ ss, (0 ≤ p.1 ∧ p.1 < N) ∧ (0 ≤ p.2.1 ∧ p.2.1 < N)
 free : ∀ p ∈ fs, (0 ≤ p.1 ∧ p.1 < N) ∧ (0 ≤ p.2 ∧ p.2 < N)
theorem W2 {α : Type} {l : List α} {i : Nat} (h : i < l.length) (d : α) : l.getD i d ∈ l := by
 have : l.getD i d = l[i] := by simp [List.getD, h]
 rw [this]; exact List.getElem_mem h
set_option maxRecDepth 20000
set_option maxRecDepth 20000
theorem Rch.mono {N rows l l'} (h : ∀ s : Nat, (s : Int) ∈ l → s < N → (s : Int) ∈ l') {s} (hr : Rch N rows l s) : Rch N rows l' s := by
 induction hr with
 | base s hm hs => exact .base s (h s hm hs) hs
 | step s t _ hm ht ih => exact .step s t ih hm ht
theorem aG5 {N rows l l'} (h : ∀ s : Nat, s < N → ((s : Int) ∈ l ↔ (s : Int) ∈ l')) : B8 N rows l = B8 N rows l' := by
 refine ab2 (I8 _ _ _) fun s => ?_
 rw [W1]
 exact ⟨Rch.mono fun s hm hs => (h s hs).1 hm, Rch.mono fun s hm hs => (h s hs).2 hm⟩
theorem aT5 {N S F N' S' F' : Int} {ss ss' : List (Int × Int × Int)} {fs fs' : List (Int × Int)} (h : ao2 N S F ss fs = ao2 N' S' F' ss' fs') : N = N' ∧ S = S' ∧ F = F' ∧ ss = ss' ∧ fs = fs' := by
 simp only [ao2, List.cons.injEq, AV.agg.injEq, AV.int.injEq, AV.sl.injEq, true_and, and_true] at h
 obtain ⟨h1, h2, h3, ⟨_, h4⟩, _, h5⟩ := h
 exact ⟨h1, h2, h3, aT4 h4, aG3 h5⟩
set_option maxRecDepth 20000
abbrev ar3 (n : Nat) (N : List Int) (A : List Bool) : AV := .agg [.sl n (cI N), slB A]
theorem az3 {n n' : Nat} {N N' : List Int} {A A' : List Bool} (h : ar3 n N A = ar3 n' N' A') : n = n' ∧ N = N' ∧ A = A' := by
 injection h with h
 simp only [List.cons.injEq, AV.sl.injEq, and_true] at h
 exact ⟨h.1.1, P1 h.1.2, bk5 h.2.2⟩
def goD (N : List Int) : Int → List Int → Int
 | s, [] => s
 | s, m :: w => if m < 0 ∨ 5 ≤ m then -1 else goD N (N.getD (s.toNat * 5 + m.toNat) 0) w
def aG6 (n : Nat) (N : List Int) (s : Int) (w : List Int) : Int := if 0 ≤ s ∧ s < (n : Int) then goD N s w else -1
def cf4 (n : Nat) (N : List Int) (A : List Bool) (w : List Int) : Bool := if 0 ≤ aG6 n N 0 w then A.getD (aG6 n N 0 w).toNat false else false
structure WfD (n : Nat) (N : List Int) (A : List Bool) : Prop where
 sz : 1 ≤ n ∧ n ≤ 2000
 l : N.length = 5 * n
 a : A.length = n
 e : ∀ x ∈ N, 0 ≤ x ∧ x < (n : Int)
theorem WfD.get {n N A} (h : WfD n N A) {k : Nat} (hk : k < 5 * n) : 0 ≤ N.getD k 0 ∧ N.getD k 0 < (n : Int) := by
 have hk' : k < N.length := by rw [h.l]; exact hk
 rw [List.getD_eq_getElem?_getD, List.getElem?_eq_getElem hk']
 exact h.e _ (List.getElem_mem ..)
set_option maxRecDepth 20000
noncomputable def E4 : Env := EX md0 (fun _ _ => none)
theorem bS8 : m7 Tryd.prog (fun _ _ => none) := p9 _
end Go.Proofs.YtpmjpogcaglphaaDoor.A
