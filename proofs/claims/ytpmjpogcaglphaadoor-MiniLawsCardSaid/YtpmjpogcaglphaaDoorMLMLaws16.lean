/- Expressions read: the reader's levels, the small methods on the reader. -/
import Derived.Test.YtpmjpogcaglphaaDoorMLMLaws15
import Derived.Test.YtpmjpogcaglphaaDoorMLMLaws8
import Derived.Test.YtpmjpogcaglphaaDoorMLMLaws12
set_option linter.unusedVariables false
set_option linter.unusedSimpArgs false
set_option linter.unnecessarySimpa false
namespace Go.Proofs.YtpmjpogcaglphaaDoor.A
open Go
set_option maxRecDepth 20000
theorem G5 {E : Env} {cr : q8} {k : Nat} {nz : Nat → Option (List (Nat × Nat))} {fn : Func} {c : Code} {args : List AV} {o : Ob} {nx : Nat} {K : AV × AH → Prop} (hb : fn.body = some c)
  (h : WP E cr k nz c (y0 args) o nx (fun u a o' nx' => (u = .normal ∨ u = .ret) ∧ wO (m4 E.P a ⟨o', nx'⟩ fn.results.toList) (fun vs => K (ad3 vs, ⟨o', nx'⟩)))) : wO (Option.map (fun p => p8 false p.1 p.2) (ar9 E cr k nz fn args ⟨o, nx⟩)) K := by
 obtain ⟨v, H', h1, h2⟩ := Q6 (Post := fun v o' nx' => K (v, ⟨o', nx'⟩)) hb h
 rw [h1]
 exact h2
abbrev cf5 : AV := .ptr (2, 23) (2, 23) 0
abbrev cE6 (g : Tag) (d : Nat) : AV := .ptr (2, 21) g (d * 2)
structure Stk (o : Ob) (nx : Nat) (s : List UInt8) (at_ : Int) (g : Tag) (d : Nat) (pre : List AV) (vU vJ : AV) (post : List AV) : Prop where
 lt : 3 ≤ nx
 cell : o (2, 5) = some (.row ⟨116, 1, (2, 5), false, true, [.ptr (2, 23) (2, 23) 0]⟩)
 par : o (2, 23) = some (.row ⟨121, 1, (2, 23), false, true, [.str s, .int .i64 at_, .ref (2, 21) g 0 (d + 1)]⟩)
 lev : o (2, 21) = some (.row ⟨118, 2, g, false, true, pre ++ vU :: vJ :: post⟩)
 len : pre.length = d * 2
 le : d ≤ 30
section
variable {pre post : List AV} {x y z : AV} {n : Nat}
theorem af5 (h : pre.length = n) : (pre ++ x :: y :: post).drop n = x :: y :: post := by rw [← h]; exact List.drop_left' rfl
theorem Y7 (h : pre.length = n) : (pre ++ x :: y :: post).drop (n + 1) = y :: post := by
 rw [← List.drop_drop, af5 h]; rfl
theorem bo3 (h : pre.length = n) : r8 (pre ++ x :: y :: post) n [z] = pre ++ z :: y :: post := by
 unfold r8
 rw [← h, List.take_left' rfl, List.length_singleton, Y7 rfl]
 simp
theorem aH5 (h : pre.length = n) : r8 (pre ++ x :: y :: post) (n + 1) [z] = pre ++ x :: z :: post := by
 unfold r8
 have e1 : (pre ++ x :: y :: post).take (n + 1) = pre ++ [x] := by
  rw [← h, List.take_append, List.take_of_length_le (by omega)]
  simp
 have e2 : (pre ++ x :: y :: post).drop (n + 1 + 1) = post := by
  rw [← List.drop_drop, Y7 h]; rfl
 rw [e1, List.length_singleton, e2]
 simp
end
theorem x6 {o : Ob} {t t' : Tag} {x} (h : t ≠ t') : upd o t' x t = o t := if_neg h
def KeepB (b : Nat) (o o' : Ob) : Prop := ∀ i k, 3 ≤ i → i < b → o' (i, k) = o (i, k)
theorem KeepB.refl (b o) : KeepB b o o := fun _ _ _ _ => rfl
theorem KeepB.trans {b o o' o''} (h1 : KeepB b o o') (h2 : KeepB b o' o'') : KeepB b o o'' := fun i k h h' => (h2 i k h h').trans (h1 i k h h')
theorem bo4 (X) : f7 (EX md0 X) (fun _ => none) 1 Tryd.f67 = true := by kernel_rfl
theorem bD1 (X) : aC9 (EX md0 X) 67 = true := by kernel_rfl
noncomputable def bo5 (args : List AV) (H : AH) : Option (AV × AH) := if args.length = 1 then ar9 (EX md0 (fun _ _ => none)) noR 0 (fun _ => none) Tryd.f67 args H else none
theorem aO4 (args H v H') (h : bo5 args H = some (v, H')) : OkR Tryd.prog 67 args H v H' := by
 unfold bo5 at h
 split at h
 ·rename_i hn
  exact K4 (E := EX md0 (fun _ _ => none)) (A8 _) (o8 Tryd.prog).1 (o8 Tryd.prog).2 mixed Tryd.func67 (by rw [hn]; exact bo4 _) h
 ·cases h
theorem ap6 (args H v H') (h : bo5 args H = some (v, H')) (t : Tag) (_ : t.1 < H.nx) : H'.o t = H.o t := by
 unfold bo5 at h
 split at h
 ·rename_i hn
  rw [← aa6 (E := EX md0 (fun _ _ => none)) (f := 67) Tryd.func67 (by rw [hn]; exact bo4 _)] at h
  rw [ae8 (bD1 _) h]
 ·cases h
theorem A3 {o : Ob} {nx : Nat} {s at_ g d pre vU vJ post} {K : AV × AH → Prop} (h : Stk o nx s at_ g d pre vU vJ post) (hK : K (cE6 g d, ⟨o, nx + 2⟩)) : wO (Option.map (fun p => p8 false p.1 p.2) (bo5 [cf5] ⟨o, nx⟩)) K := by
 have h2 := h.par
 have h3 := h.lev
 have h4 := h.len
 have h5 := h.le
 have h6 : (pre ++ vU :: vJ :: post).length = d * 2 + (post.length + 2) := by rw [List.length_append, h4]; rfl
 refine G5 (fn := Tryd.f67) (c := Tryd.f67.body.getD .skip) rfl ?_
 simp only [Tryd.f67, Option.getD_some]
 simp (disch := omega) only [go_sem, h2, h3, h6]
 exact hK
inductive NdAt (o : Ob) (b nx : Nat) : Nat → List AV → Nd → Prop
 | data (d : Nat) (n : Nd) : NdAt o b nx d (cNd n) n
 | leaf (d : Nat) (k s lo hi : Int) : NdAt o b nx d [.int .i64 k, .int .i64 s, .int .i64 lo, .int .i64 hi, .nil] (.mk k s lo hi [])
 | beh (d i : Nat) (g : Tag) (ro : Bool) (k lo hi : Int) (x : Nd) (cs : List AV) : b ≤ i → i < nx → o (i, 19) = some (.row ⟨37, 5, g, ro, true, cs⟩) → NdAt o b nx d cs x →
  NdAt o b nx (d + 1) [.int .i64 k, .int .i64 0, .int .i64 lo, .int .i64 hi, .ref (i, 19) g 0 1] (.mk k 0 lo hi [x])
theorem NdAt.keep {o o' : Ob} {b nx nx' d : Nat} {cs : List AV} {n : Nd} (h : NdAt o b nx d cs n) (hn : nx ≤ nx') (hk : ∀ i, b ≤ i → i < nx → o' (i, 19) = o (i, 19)) : NdAt o' b nx' d cs n := by
 induction h with
 | data d n => exact .data d n
 | leaf d k s lo hi => exact .leaf d k s lo hi
 | beh d i g ro k lo hi x cs h1 h2 h3 _ ih => exact .beh d i g ro k lo hi x cs h1 (by omega) (by rw [hk i h1 h2]; exact h3) ih
theorem NdAt.up {o : Ob} {b nx d d' : Nat} {cs : List AV} {n : Nd} (h : NdAt o b nx d cs n) (hd : d ≤ d') : NdAt o b nx d' cs n := by
 induction h generalizing d' with
 | data d n => exact .data d' n
 | leaf d k s lo hi => exact .leaf d' k s lo hi
 | beh d i g ro k lo hi x cs h1 h2 h3 _ ih =>
  obtain ⟨e, rfl⟩ : ∃ e, d' = e + 1 := ⟨d' - 1, by omega⟩
  exact .beh e i g ro k lo hi x cs h1 h2 h3 (ih (by omega))
theorem NdAt.length {o : Ob} {b nx d : Nat} {cs : List AV} {n : Nd} (h : NdAt o b nx d cs n) : cs.length = 5 := by
 cases h with
 | data => exact x9 n
 | leaf => rfl
 | beh => rfl
theorem NdAt.ok {o : Ob} {b nx d : Nat} {cs : List AV} {n : Nd} (h : NdAt o b nx d cs n) : cs.all n9 = true := by
 cases h with
 | data => exact cn8 n
 | leaf => rfl
 | beh => rfl
inductive NdsP (o : Ob) (b nx d : Nat) : List AV → List Nd → Prop
 | nil : NdsP o b nx d [] []
 | cons (c cs : List AV) (n : Nd) (l : List Nd) : NdAt o b nx d c n → NdsP o b nx d cs l → NdsP o b nx d (c ++ cs) (n :: l)
theorem NdsP.keep {o o' : Ob} {b nx nx' d : Nat} {cs : List AV} {l : List Nd} (h : NdsP o b nx d cs l) (hn : nx ≤ nx') (hk : ∀ i, b ≤ i → i < nx → o' (i, 19) = o (i, 19)) : NdsP o' b nx' d cs l := by
 induction h with
 | nil => exact .nil
 | cons c cs n l h1 _ ih => exact .cons c cs n l (h1.keep hn hk) ih
theorem NdsP.up {o : Ob} {b nx d d' : Nat} {cs : List AV} {l : List Nd} (h : NdsP o b nx d cs l) (hd : d ≤ d') : NdsP o b nx d' cs l := by
 induction h with
 | nil => exact .nil
 | cons c cs n l h1 _ ih => exact .cons c cs n l (h1.up hd) ih
theorem NdsP.length {o : Ob} {b nx d : Nat} {cs : List AV} {l : List Nd} (h : NdsP o b nx d cs l) : cs.length = l.length * 5 := by
 induction h with
 | nil => rfl
 | cons c cs n l h1 _ ih => rw [List.length_append, h1.length, ih, List.length_cons]; omega
theorem NdsP.snoc {o : Ob} {b nx d : Nat} {cs c : List AV} {l : List Nd} {n : Nd} (h : NdsP o b nx d cs l) (h1 : NdAt o b nx d c n) : NdsP o b nx d (cs ++ c) (l ++ [n]) := by
 induction h with
 | nil => have := NdsP.cons c [] n [] h1 .nil; rwa [List.append_nil] at this
 | cons c' cs n' l h2 _ ih => rw [List.append_assoc]; exact .cons c' _ n' _ h2 ih
theorem NdsP.last {o : Ob} {b nx d : Nat} : ∀ {l : List Nd} {cs : List AV} {n : Nd}, NdsP o b nx d cs (l ++ [n]) → ∃ c0 c1, cs = c0 ++ c1 ∧ NdsP o b nx d c0 l ∧ NdAt o b nx d c1 n
 | [], cs, n, h => by
  cases h with
  | cons c cs' _ _ h1 h2 => cases h2; exact ⟨[], c, by rw [List.append_nil]; rfl, .nil, h1⟩
 | m :: l, cs, n, h => by
  cases h with
  | cons c cs' _ _ h1 h2 =>
   obtain ⟨c0, c1, rfl, h3, h4⟩ := NdsP.last h2
   exact ⟨c ++ c0, c1, by rw [List.append_assoc], .cons c c0 m l h1 h3, h4⟩
structure Lv (b : Nat) (o : Ob) (nx D : Nat) (vU vJ : AV) (U J : List Nd) : Prop where
 u : (vU = .nil ∧ U = []) ∨ ∃ i g, b ≤ i ∧ i < nx ∧ vU = .ref (i, 14) g 0 U.length ∧ o (i, 14) = some (.row ⟨37, 5, g, false, true, K9 U⟩)
 j : (vJ = .nil ∧ J = []) ∨ ∃ i g cs, b ≤ i ∧ i < nx ∧ vJ = .ref (i, 11) g 0 J.length ∧ o (i, 11) = some (.row ⟨37, 5, g, false, true, cs⟩) ∧ NdsP o b nx D cs J
theorem Lv.keep {b : Nat} {o o' : Ob} {nx nx' D : Nat} {vU vJ : AV} {U J : List Nd} (h : Lv b o nx D vU vJ U J) (hn : nx ≤ nx') (hk : ∀ i k, b ≤ i → i < nx → (k = 11 ∨ k = 14 ∨ k = 19) → o' (i, k) = o (i, k)) : Lv b o' nx' D vU vJ U J := by
 refine ⟨?_, ?_⟩
 ·rcases h.u with h1 | ⟨i, g, h1, h2, h3, h4⟩
  ·exact .inl h1
  ·exact .inr ⟨i, g, h1, by omega, h3, by rw [hk i 14 h1 h2 (by simp)]; exact h4⟩
 ·rcases h.j with h1 | ⟨i, g, cs, h1, h2, h3, h4, h5⟩
  ·exact .inl h1
  ·exact .inr ⟨i, g, cs, h1, by omega, h3, by rw [hk i 11 h1 h2 (by simp)]; exact h4, h5.keep hn (fun i' a b' => hk i' 19 a b' (by simp))⟩
def KeepL (b n : Nat) (o o' : Ob) : Prop := ∀ i k, i < n → (i, k) ≠ (2, 21) → (i, k) ≠ (2, 23) → (b ≤ i → k ≠ 11 ∧ k ≠ 14 ∧ k ≠ 19) → o' (i, k) = o (i, k)
def bD2 : Nat → Option (List (Nat × Nat))
 | 1 => some [(3, 6), (4, 6), (5, 6), (9, 12)]
 | _ => none
theorem bU2 (X) : f7 (EX md0 X) bD2 2 Tryd.f68 = true := by kernel_rfl
noncomputable def co6 (args : List AV) (H : AH) : Option (AV × AH) := if args.length = 2 then ar9 (EX md0 (fun _ _ => none)) noR 0 bD2 Tryd.f68 args H else none
theorem bU3 (args H v H') (h : co6 args H = some (v, H')) : OkR Tryd.prog 68 args H v H' := by
 unfold co6 at h
 split at h
 ·rename_i hn
  exact K4 (E := EX md0 (fun _ _ => none)) (A8 _) (o8 Tryd.prog).1 (o8 Tryd.prog).2 mixed Tryd.func68 (by rw [hn]; exact bU2 _) h
 ·cases h
@[go_sem] theorem co7 (a : n8) : opd a (.const (Value.agg #[.int .i64 0, .int .i64 0, .int .i64 0, .int .i64 0, .slice none 0 0])) = some (.agg [.int .i64 0, .int .i64 0, .int .i64 0, .int .i64 0, .nil]) := rfl
abbrev nd0 : List AV := [.int .i64 0, .int .i64 0, .int .i64 0, .int .i64 0, .nil]
theorem bD3 {o : Ob} {nx : Nat} {s at_ g d pre vU vJ post} {b D : Nat} {U J : List Nd} {cv : List AV} {n : Nd} (hcv : NdAt o b nx D cv n) {K : AV × AH → Prop} (h : Stk o nx s at_ g d pre vU vJ post) (hL : Lv b o nx D vU vJ U J) (hb : 3 ≤ b) (hbn : b ≤ nx) (hJ : J.length ≤ 1000)
  (hK : ∀ o' nx' vJ', nx ≤ nx' → Stk o' nx' s at_ g d pre vU vJ' post → Lv b o' nx' D vU vJ' U (J ++ [n]) → KeepL b nx o o' → K (.tup [], ⟨o', nx'⟩)) : wO (Option.map (fun p => p8 false p.1 p.2) (co6 [cE6 g d, .agg cv] ⟨o, nx⟩)) K := by
 have h0 := h.lt
 have h1 := h.cell
 have h2 := h.par
 have h3 := h.lev
 have h4 := h.len
 have h5 := h.le
 have h6 : ∀ x y : AV, (pre ++ x :: y :: post).length = d * 2 + (post.length + 2) := fun x y => by rw [List.length_append, h4]; rfl
 have d0 : ∀ x y : AV, (pre ++ x :: y :: post).drop (d * 2) = x :: y :: post := fun x y => af5 h4
 have d1 : ∀ x y : AV, (pre ++ x :: y :: post).drop (d * 2 + 1) = y :: post := fun x y => Y7 h4
 have s1 : ∀ x y z : AV, r8 (pre ++ x :: y :: post) (d * 2 + 1) [z] = pre ++ x :: z :: post := fun x y z => aH5 h4
 have v1 := hcv.length
 have v2 := hcv.ok
 have v3 : cv.take 5 = cv := j0 v1
 refine G5 (fn := Tryd.f68) (c := Tryd.f68.body.getD .skip) rfl ?_
 simp only [Tryd.f68, Option.getD_some]
 rcases hL.j with ⟨rfl, rfl⟩ | ⟨i, gj, cs, i1, i2, rfl, i3, i4⟩
 ·simp (disch := omega) only [go_sem, bD2, h1, h2, h3, h6, d0, d1, s1, v1, v2, v3]
  refine hK _ _ _ (by omega) ⟨by omega, by simp (disch := omega) only [go_sem, h1], by simp (disch := omega) only [go_sem, h2], f8 _ _ _, h4, h5⟩ ⟨?_, ?_⟩ ?_
  ·rcases hL.u with h7 | ⟨i, gu, i1, i2, i3, i4⟩
   ·exact .inl h7
   ·exact .inr ⟨i, gu, i1, by omega, i3, by simp [d6, i4]⟩
  ·exact .inr ⟨nx + 1, (nx + 1, 11), cv, by omega, by omega, rfl, by simp [d6], NdsP.snoc .nil (hcv.keep (by omega) (fun i' _ _ => by simp [d6]))⟩
  ·intro i k hi a1 a2 a3
   have e1 : ¬ i = nx := by omega
   have e2 : ¬ i = nx + 1 := by omega
   rw [x6 a1]
   simp [d6, e1, e2]
 ·have hlen := i4.length
  have htk : cs.take (J.length * 5) = cs := j0 hlen
  have hspl : r8 (cs ++ nd0) (J.length * 5) cv = cs ++ cv := by
   unfold r8
   rw [← hlen, List.take_left' rfl, List.drop_of_length_le (by simp [v1])]
   simp
  simp (disch := omega) only [go_sem, bD2, h1, h2, h3, h6, d0, d1, s1, i3, htk, hspl, v1, v2, v3]
  refine hK _ _ _ (by omega) ⟨by omega, by simp (disch := omega) only [go_sem, h1], by simp (disch := omega) only [go_sem, h2], f8 _ _ _, h4, h5⟩ ⟨?_, ?_⟩ ?_
  ·rcases hL.u with h7 | ⟨i', gu, j1, j2, j3, j4⟩
   ·exact .inl h7
   ·exact .inr ⟨i', gu, j1, by omega, j3, by simp [d6, j4]⟩
  ·exact .inr ⟨i, (nx + 1, 11), cs ++ cv, by omega, by omega, by rw [List.length_append, List.length_singleton], by simp [d6], NdsP.snoc (i4.keep (by omega) (fun i' _ _ => by simp [d6])) (hcv.keep (by omega) (fun i' _ _ => by simp [d6]))⟩
  ·intro i' k hi a1 a2 a3
   have e1 : ¬ i' = nx := by omega
   have e2 : ¬ i' = nx + 1 := by omega
   have e4 : (i', k) ≠ (i, 11) := fun e => (a3 (by cases e; omega)).1 (by cases e; rfl)
   rw [x6 a1, x6 e4, x6 e4]
   simp [d6, e1, e2]
noncomputable def co8 : q8 := p5 [(67, bo5), (68, co6)]
theorem bo6 : u9 Tryd.prog co8 ∧ Up co8 := m9 (m9 (G7 _) bU3) aO4 (fun _ => ap6)
def bo7 : Nat → Option (List (Nat × Nat))
 | 1 => some [(1, 2)]
 | _ => none
theorem bU4 (X) : f7 (EX md0 X) bo7 2 Tryd.f66 = true := by kernel_rfl
noncomputable def co9 (args : List AV) (H : AH) : Option (AV × AH) := if args.length = 2 then ar9 (EX md0 (fun _ _ => none)) co8 0 bo7 Tryd.f66 args H else none
theorem bU5 (args H v H') (h : co9 args H = some (v, H')) : OkR Tryd.prog 66 args H v H' := by
 unfold co9 at h
 split at h
 ·rename_i hn
  exact K4 (E := EX md0 (fun _ _ => none)) (A8 _) bo6.1 bo6.2 mixed Tryd.func66 (by rw [hn]; exact bU4 _) h
 ·cases h
@[go_sem] theorem bD4 (v H) : p8 false v H = (v, H) := rfl
theorem aA2 : co8 67 = bo5 := rfl
theorem aA3 : co8 68 = co6 := rfl
theorem Stk.keep {o o' : Ob} {nx nx' s at_ g d pre vU vJ post} (h : Stk o nx s at_ g d pre vU vJ post) (hn : nx ≤ nx') (h1 : o' (2, 5) = o (2, 5)) (h2 : o' (2, 23) = o (2, 23)) (h3 : o' (2, 21) = o (2, 21)) : Stk o' nx' s at_ g d pre vU vJ post :=
 ⟨by have := h.lt; omega, h1.trans h.cell, h2.trans h.par, h3.trans h.lev, h.len, h.le⟩
theorem aA4 {o : Ob} {nx : Nat} {s at_ g d pre vU vJ post} {b D : Nat} {U J : List Nd} {cv : List AV} {n : Nd} (hcv : NdAt o b nx D cv n) {K : AV × AH → Prop} (h : Stk o nx s at_ g d pre vU vJ post) (hL : Lv b o nx D vU vJ U J) (hb : 3 ≤ b) (hbn : b ≤ nx) (hJ : J.length ≤ 1000)
  (hK : ∀ o' nx' vJ', nx ≤ nx' → Stk o' nx' s at_ g d pre vU vJ' post → Lv b o' nx' D vU vJ' U (J ++ [n]) → KeepL b nx o o' → K (.tup [], ⟨o', nx'⟩)) : wO (Option.map (fun p => p8 false p.1 p.2) (co9 [.agg cv, .ptr (2, 5) (2, 5) 0] ⟨o, nx⟩)) K := by
 have h0 := h.lt
 have h1 := h.cell
 refine G5 (fn := Tryd.f66) (c := Tryd.f66.body.getD .skip) rfl ?_
 simp only [Tryd.f66, Option.getD_some]
 have hone : ∀ x, Stk (upd o (nx, 2) x) (nx + 1 + 1) s at_ g d pre vU vJ post := fun x => h.keep (by omega) (by simp [d6]) (by simp [d6]) (by simp [d6])
 have hlv : ∀ x, Lv b (upd o (nx, 2) x) (nx + 1 + 1) D vU vJ U J := fun x => hL.keep (by omega) (fun i k _ _ hk => by rcases hk with rfl | rfl | rfl <;> simp [d6])
 have v1 := hcv.length
 have v2 := hcv.ok
 have v3 : cv.take 5 = cv := j0 v1
 simp (disch := omega) only [go_sem, bo7, h1, aA2, aA3, v1, v2, v3]
 refine A3 (hone _) ?_
 simp (disch := omega) only [go_sem, bo7, h1, aA2, aA3, v1, v2, v3]
 refine bD3 (hcv.keep (by omega) (fun i' _ _ => by simp [d6])) ((hone _).keep (by omega) rfl rfl rfl) ((hlv _).keep (by omega) (fun _ _ _ _ _ => rfl)) hb (by omega) hJ (fun o' nx' vJ' a1 a2 a3 a4 => ?_)
 simp (disch := omega) only [go_sem, bo7, h1, aA2, aA3]
 refine hK _ _ _ (by omega) a2 a3 (fun i k hi b1 b2 b3 => ?_)
 rw [a4 i k (by omega) b1 b2 b3]
 have e1 : ¬ i = nx := by omega
 simp [d6, e1]
end Go.Proofs.YtpmjpogcaglphaaDoor.A
namespace Go.Proofs.YtpmjpogcaglphaaDoor.A
open Go
set_option maxRecDepth 20000
def u5 (k : Int) : List Nd → Nd
 | [x] => x
 | l => .mk k 0 0 0 l
def bD5 (args : List AV) (r : AV) : Prop := ∃ k l, l ≠ [] ∧ l.length ≤ 1000 ∧ args = [.int .i64 k, slN l] ∧ r = j5 (u5 k l)
theorem bD6 (X) : f7 (EX md0 X) (fun _ => none) 2 Tryd.f75 = true := by kernel_rfl
theorem bo8 (args r) (h : bD5 args r) : Ok Tryd.prog 75 args r := by
 obtain ⟨k, l, h0, h1, rfl, rfl⟩ := h
 refine m5 (E := EX md0 (fun _ _ => none)) (A8 _) (o8 _) mixed (k := 0) Tryd.func75 (bD6 _) rfl ?_
 simp only [Tryd.f75, Option.getD_some]
 match l, h0, h1 with
 | [x], _, _ =>
  have e : K9 [x] = cNd x := C7 x
  obtain ⟨k', s', lo', hi', l'⟩ := x
  simp (disch := omega) only [go_sem, e, u5]
  rw [j5, o7]
 | x :: y :: l, _, h1 =>
  have e : u5 k (x :: y :: l) = .mk k 0 0 0 (x :: y :: l) := rfl
  have e2 : ¬ (x :: y :: l).length = 1 := by simp
  have e3 : ¬ (x :: y :: l).length = 0 := by simp
  rw [e]
  generalize x :: y :: l = L at *
  have htk : (K9 L).take (L.length * 5) = K9 L := j0 (C2 L)
  simp (disch := omega) only [go_sem, e2, e3, htk]
  rw [j5, o7]
def I3 (c : Int) : Nd :=
 if c = 119 then .mk 1 1 0 0 [] else if c = 98 then .mk 1 2 0 0 [] else if c = 99 then .mk 1 4 0 0 [] else if c = 102 then .mk 1 8 0 0 [] else if c = 116 then .mk 1 16 0 0 [] else
 if c = 46 then .mk 1 31 0 0 [] else if c = 48 then .mk 2 0 0 0 [] else if c = 95 then .mk 3 0 0 0 [] else .mk 0 0 0 0 []
def ah9 : List UInt8 := [119, 98, 99, 102, 116]
def Y8 (c : Int) : Int := if c = 119 then 0 else if c = 98 then 1 else if c = 99 then 2 else if c = 102 then 3 else if c = 116 then 4 else -1
def cf6 (args : List AV) (r : AV) : Prop := ∃ c : UInt8, args = [.str ah9, .int .u8 c.toNat] ∧ r = .int .i64 (Y8 c.toNat)
theorem bD7 (args r) (h : cf6 args r) : Ok Tryd.prog 98 args r := by
 obtain ⟨c, rfl, rfl⟩ := h
 refine bL6 _ _ ⟨ah9, c.toNat, rfl, ?_⟩
 have e : ((c.toNat : Int)).toNat.toUInt8 = c := by rw [Int.toNat_natCast]; exact UInt8.ofNat_toNat
 rw [e]
 have : ∀ n : Fin 256, Lib.indexByte ah9 (UInt8.ofNat n.1) = Y8 (n.1 : Int) := by decide +kernel
 have h2 := this ⟨c.toNat, c.toNat_lt⟩
 rw [UInt8.ofNat_toNat] at h2
 rw [h2]
theorem bo9 (X) : f7 (EX md0 X) (fun _ => none) 1 Tryd.f69 = true := by kernel_rfl
theorem bp0 : Q5 cf6 := by
 rintro args r r' ⟨c, rfl, rfl⟩ ⟨c', h, rfl⟩
 simp only [List.cons.injEq, AV.int.injEq, and_true, true_and] at h
 rw [h]
theorem bU6 (X) : f7 (EX md0 X) (fun _ => none) 2 Tryd.f86 = true := by kernel_rfl
theorem bU7 (args r) (h : cf6 args r) : Ok Tryd.prog 86 args r := by
 have h0 := h
 obtain ⟨c, rfl, rfl⟩ := h
 have h1 : p4 [(98, E3 cf6)] 98 [.str ah9, .int .u8 c.toNat] = some (.int .i64 (Y8 c.toNat)) := m8 bp0 h0
 refine m5 (E := EX md0 (p4 [(98, E3 cf6)])) (k0 (p9 _) (n5 bD7)) (o8 _) mixed (k := 0) Tryd.func86 (bU6 _) rfl ?_
 simp only [Tryd.f86, Option.getD_some]
 simp (disch := omega) only [go_sem, h1]
noncomputable def XIx : FuncId → List AV → Option AV := p4 [(86, E3 cf6)]
theorem bp1 : m7 Tryd.prog XIx := k0 (p9 _) (n5 bU7)
theorem bL7 (c : UInt8) : XIx 86 [.str ah9, .int .u8 c.toNat] = some (.int .i64 (Y8 c.toNat)) := m8 bp0 ⟨c, rfl, rfl⟩
def bp2 (args : List AV) (r : AV) : Prop := ∃ c : UInt8, args = [.int .u8 c.toNat] ∧ r = j5 (I3 c.toNat)
theorem bD8 (args r) (h : bp2 args r) : Ok Tryd.prog 69 args r := by
 obtain ⟨c, rfl, rfl⟩ := h
 refine m5 (E := EX md0 XIx) bp1 (o8 _) mixed (k := 0) Tryd.func69 (bo9 _) rfl ?_
 have hx := bL7 c
 simp only [Tryd.f69, Option.getD_some]
 generalize (c.toNat : Int) = n at *
 unfold Y8 ah9 at hx
 unfold I3
 by_cases c1 : n = 119
 ·subst c1; simp (disch := omega) only [go_sem, hx]; (simp only [j5, o7, slN, p6, List.length_nil] <;> rfl)
 by_cases c2 : n = 98
 ·subst c2; simp (disch := omega) only [go_sem, hx]; (simp only [j5, o7, slN, p6, List.length_nil] <;> rfl)
 by_cases c3 : n = 99
 ·subst c3; simp (disch := omega) only [go_sem, hx]; (simp only [j5, o7, slN, p6, List.length_nil] <;> rfl)
 by_cases c4 : n = 102
 ·subst c4; simp (disch := omega) only [go_sem, hx]; (simp only [j5, o7, slN, p6, List.length_nil] <;> rfl)
 by_cases c5 : n = 116
 ·subst c5; simp (disch := omega) only [go_sem, hx]; (simp only [j5, o7, slN, p6, List.length_nil] <;> rfl)
 simp only [c1, c2, c3, c4, c5, if_false] at hx
 simp only [c1, c2, c3, c4, c5, if_false]
 by_cases c6 : n = 46
 ·subst c6; simp (disch := omega) only [go_sem, hx]; (simp only [j5, o7, slN, p6, List.length_nil] <;> rfl)
 by_cases c7 : n = 48
 ·subst c7; simp (disch := omega) only [go_sem, hx]; (simp only [j5, o7, slN, p6, List.length_nil] <;> rfl)
 by_cases c8 : n = 95
 ·subst c8; simp (disch := omega) only [go_sem, hx]; (simp only [j5, o7, slN, p6, List.length_nil] <;> rfl)
 simp only [c6, c7, c8, if_false]
 simp (disch := omega) only [go_sem, hx, c6, c7, c8]
 simp only [j5, o7, slN, p6, List.length_nil]
def L7 (c : Int) : Int := if c = 42 then 6 else if c = 43 then 7 else if c = 63 then 8 else if c = 123 then 9 else 0
def bp3 (args : List AV) (r : AV) : Prop := ∃ c : UInt8, args = [.int .u8 c.toNat] ∧ r = .int .i64 (L7 c.toNat)
theorem bp4 (X) : f7 (EX md0 X) (fun _ => none) 1 Tryd.f71 = true := by kernel_rfl
theorem bD9 (args r) (h : bp3 args r) : Ok Tryd.prog 71 args r := by
 obtain ⟨c, rfl, rfl⟩ := h
 refine m5 (E := EX md0 XIx) bp1 (o8 _) mixed (k := 0) Tryd.func71 (bp4 _) rfl ?_
 simp only [Tryd.f71, Option.getD_some]
 generalize (c.toNat : Int) = n at *
 unfold L7
 by_cases c1 : n = 42
 ·subst c1; simp (disch := omega) only [go_sem]
 by_cases c2 : n = 43
 ·subst c2; simp (disch := omega) only [go_sem]
 by_cases c3 : n = 63
 ·subst c3; simp (disch := omega) only [go_sem]
 by_cases c4 : n = 123
 ·subst c4; simp (disch := omega) only [go_sem]
 simp only [c1, c2, c3, c4, if_false]
 simp (disch := omega) only [go_sem, c1, c2, c3, c4]
def E0 (s : List UInt8) (a : Int) : Int := ((s.getD a.toNat 0).toNat : Int)
def C4 (s : List UInt8) (a : Int) : Int := if (s.length : Int) ≤ a then -2 else if 48 ≤ E0 s a ∧ E0 s a ≤ 57 then E0 s a - 48 else -1
def bp5 (args : List AV) (r : AV) : Prop := ∃ s at_ v a, 0 ≤ a ∧ args = [.fptr [.str s, .int .i64 at_, v], .int .i64 a] ∧ r = .int .i64 (C4 s a)
theorem bp6 (X) : f7 (EX md0 X) (fun _ => none) 2 Tryd.f87 = true := by kernel_rfl
theorem aA5 {s : List UInt8} {a : Int} (h0 : 0 ≤ a) (h1 : ¬ (s.length : Int) ≤ a) : ∃ c : UInt8, s[a.toNat]? = some c ∧ E0 s a = c.toNat := by
 have h2 : a.toNat < s.length := by omega
 exact ⟨s[a.toNat], List.getElem?_eq_getElem h2, by rw [E0, List.getD_eq_getElem?_getD, List.getElem?_eq_getElem h2]; rfl⟩
theorem bE0 (args r) (h : bp5 args r) : Ok Tryd.prog 87 args r := by
 obtain ⟨s, at_, v, a, h0, rfl, rfl⟩ := h
 refine m5 (E := EX md0 (fun _ _ => none)) (A8 _) (o8 _) mixed (k := 0) Tryd.func87 (bp6 _) rfl ?_
 simp only [Tryd.f87, Option.getD_some]
 by_cases h1 : (s.length : Int) ≤ a
 ·rw [C4, if_pos h1]
  simp (disch := omega) only [go_sem]
 ·rw [C4, if_neg h1]
  obtain ⟨c, hc, hb⟩ := aA5 h0 h1
  rw [hb]
  have hlt := c.toNat_lt
  by_cases h2 : 48 ≤ (c.toNat : Int)
  ·by_cases h3 : (c.toNat : Int) ≤ 57
   ·rw [if_pos ⟨h2, h3⟩]
    simp (disch := omega) only [go_sem, hc]
   ·rw [if_neg (by omega)]
    simp (disch := omega) only [go_sem, hc]
  ·rw [if_neg (by omega)]
   simp (disch := omega) only [go_sem, hc]
def I4 (s : List UInt8) (a : Int) (c : UInt8) : Int := if (s.length : Int) ≤ a then s.length else if E0 s a = c.toNat then -1 else a
def aO5 (args : List AV) (r : AV) : Prop := ∃ s at_ v a c, 0 ≤ a ∧ args = [.fptr [.str s, .int .i64 at_, v], .int .i64 a, .int .u8 (UInt8.toNat c)] ∧ r = .int .i64 (I4 s a c)
theorem bc9 (X) : f7 (EX md0 X) (fun _ => none) 3 Tryd.f88 = true := by kernel_rfl
theorem bp7 (args r) (h : aO5 args r) : Ok Tryd.prog 88 args r := by
 obtain ⟨s, at_, v, a, c, h0, rfl, rfl⟩ := h
 refine m5 (E := EX md0 (fun _ _ => none)) (A8 _) (o8 _) mixed (k := 0) Tryd.func88 (bc9 _) rfl ?_
 simp only [Tryd.f88, Option.getD_some]
 have m1 : ca9 [.int .i64 a, .int .i64 s.length] = some (.int .i64 (if (s.length : Int) < a then s.length else a)) := rfl
 by_cases h1 : (s.length : Int) ≤ a
 ·rw [I4, if_pos h1]
  have m2 : (if (s.length : Int) < a then (s.length : Int) else a) = s.length := by split <;> omega
  rw [m2] at m1
  simp (disch := omega) only [go_sem, m1]
 ·rw [I4, if_neg h1]
  obtain ⟨e, he, hb⟩ := aA5 h0 h1
  rw [hb]
  have hlt := c.toNat_lt
  have hlt' := e.toNat_lt
  by_cases h2 : (e.toNat : Int) = c.toNat
  ·rw [if_pos h2]
   simp (disch := omega) only [go_sem, he, h2, h1]
  ·rw [if_neg h2]
   rw [if_neg (by omega)] at m1
   simp (disch := omega) only [go_sem, he, h2, m1, h1]
def L8 (s : List UInt8) (at_ : Int) : Int × Int × Int :=
 if C4 s (at_ + 1) = -2 then (0, 0, s.length) else if C4 s (at_ + 1) < 0 then (0, 0, at_) else
 if 0 ≤ I4 s (at_ + 2) 44 then (0, 0, I4 s (at_ + 2) 44) else
 if C4 s (at_ + 3) = -2 then (0, 0, s.length) else if C4 s (at_ + 3) < 0 then (0, 0, at_) else
 if 0 ≤ I4 s (at_ + 4) 125 then (0, 0, I4 s (at_ + 4) 125) else
 if C4 s (at_ + 3) < C4 s (at_ + 1) then (0, 0, at_) else (C4 s (at_ + 1), C4 s (at_ + 3), -1)
def bp8 (args : List AV) (r : AV) : Prop := ∃ s at_ v, 0 ≤ at_ ∧ at_ ≤ 1000 ∧ args = [.fptr [.str s, .int .i64 at_, v]] ∧ r = .tup [.int .i64 (L8 s at_).1, .int .i64 (L8 s at_).2.1, .int .i64 (L8 s at_).2.2]
theorem bp9 (X) : f7 (EX md0 X) (fun _ => none) 1 Tryd.f72 = true := by kernel_rfl
theorem bq0 : Q5 bp5 := by
 rintro args r r' ⟨s, a, v, x, _, rfl, rfl⟩ ⟨s', a', v', x', _, h, rfl⟩
 simp only [List.cons.injEq, AV.fptr.injEq, AV.str.injEq, AV.int.injEq, and_true, true_and] at h
 rw [h.1.1, h.2]
theorem bd1 : Q5 aO5 := by
 rintro args r r' ⟨s, a, v, x, c, _, rfl, rfl⟩ ⟨s', a', v', x', c', _, h, rfl⟩
 simp only [List.cons.injEq, AV.fptr.injEq, AV.str.injEq, AV.int.injEq, and_true, true_and] at h
 have : c = c' := UInt8.toNat_inj.mp (by omega)
 rw [h.1.1, h.2.1, this]
noncomputable def XDs : FuncId → List AV → Option AV := p4 [(87, E3 bp5), (88, E3 aO5)]
theorem cp0 : m7 Tryd.prog XDs := k0 (k0 (p9 _) (n5 bp7)) (n5 bE0)
theorem bq1 (s at_ v a) (h : 0 ≤ a) : XDs 87 [.fptr [.str s, .int .i64 at_, v], .int .i64 a] = some (.int .i64 (C4 s a)) := m8 bq0 ⟨s, at_, v, a, h, rfl, rfl⟩
theorem aU9 (s at_ v a) (c : UInt8) (h : 0 ≤ a) : XDs 88 [.fptr [.str s, .int .i64 at_, v], .int .i64 a, .int .u8 (UInt8.toNat c)] = some (.int .i64 (I4 s a c)) := m8 bd1 ⟨s, at_, v, a, c, h, rfl, rfl⟩
theorem bE1 (args r) (h : bp8 args r) : Ok Tryd.prog 72 args r := by
 obtain ⟨s, at_, v, h0, h1, rfl, rfl⟩ := h
 refine m5 (E := EX md0 XDs) cp0 (o8 _) mixed (k := 0) Tryd.func72 (bp9 _) rfl ?_
 have x1 : ∀ a : Int, 0 ≤ a → XDs 87 [.fptr [.str s, .int .i64 at_, v], .int .i64 a] = some (.int .i64 (C4 s a)) := fun a ha => bq1 s at_ v a ha
 have x2 : ∀ a : Int, 0 ≤ a → XDs 88 [.fptr [.str s, .int .i64 at_, v], .int .i64 a, .int .u8 44] = some (.int .i64 (I4 s a 44)) := fun a ha => aU9 s at_ v a 44 ha
 have x3 : ∀ a : Int, 0 ≤ a → XDs 88 [.fptr [.str s, .int .i64 at_, v], .int .i64 a, .int .u8 125] = some (.int .i64 (I4 s a 125)) := fun a ha => aU9 s at_ v a 125 ha
 simp only [Tryd.f72, Option.getD_some]
 unfold L8
 by_cases c1 : C4 s (at_ + 1) = -2
 ·rw [if_pos c1]
  simp (disch := omega) only [go_sem, x1, x2, x3, c1]
 rw [if_neg c1]
 by_cases c2 : C4 s (at_ + 1) < 0
 ·rw [if_pos c2]
  simp (disch := omega) only [go_sem, x1, x2, x3, c1, c2]
 rw [if_neg c2]
 by_cases c3 : 0 ≤ I4 s (at_ + 2) 44
 ·rw [if_pos c3]
  simp (disch := omega) only [go_sem, x1, x2, x3, c1, c2, c3]
 rw [if_neg c3]
 by_cases c4 : C4 s (at_ + 3) = -2
 ·rw [if_pos c4]
  simp (disch := omega) only [go_sem, x1, x2, x3, c1, c2, c3, c4]
 rw [if_neg c4]
 by_cases c5 : C4 s (at_ + 3) < 0
 ·rw [if_pos c5]
  simp (disch := omega) only [go_sem, x1, x2, x3, c1, c2, c3, c4, c5]
 rw [if_neg c5]
 by_cases c6 : 0 ≤ I4 s (at_ + 4) 125
 ·rw [if_pos c6]
  simp (disch := omega) only [go_sem, x1, x2, x3, c1, c2, c3, c4, c5, c6]
 rw [if_neg c6]
 by_cases c7 : C4 s (at_ + 3) < C4 s (at_ + 1)
 ·rw [if_pos c7]
  simp (disch := omega) only [go_sem, x1, x2, x3, c1, c2, c3, c4, c5, c6, c7]
 rw [if_neg c7]
 simp (disch := omega) only [go_sem, x1, x2, x3, c1, c2, c3, c4, c5, c6, c7]
set_option maxRecDepth 20000
theorem aV0 (X) : f7 (EX md0 X) (fun _ => none) 1 Tryd.f89 = true := by kernel_rfl
theorem bq2 (X) : aC9 (EX md0 X) 89 = true := by kernel_rfl
noncomputable def aO6 (args : List AV) (H : AH) : Option (AV × AH) := if args.length = 1 then ar9 (EX md0 (fun _ _ => none)) noR 0 (fun _ => none) Tryd.f89 args H else none
theorem bE2 (args H v H') (h : aO6 args H = some (v, H')) : OkR Tryd.prog 89 args H v H' := by
 unfold aO6 at h
 split at h
 ·rename_i hn
  exact K4 (E := EX md0 (fun _ _ => none)) (A8 _) (o8 Tryd.prog).1 (o8 Tryd.prog).2 mixed Tryd.func89 (by rw [hn]; exact aV0 _) h
 ·cases h
theorem bd2 (args H v H') (h : aO6 args H = some (v, H')) (t : Tag) (_ : t.1 < H.nx) : H'.o t = H.o t := by
 unfold aO6 at h
 split at h
 ·rename_i hn
  rw [← aa6 (E := EX md0 (fun _ _ => none)) (f := 89) Tryd.func89 (by rw [hn]; exact aV0 _)] at h
  rw [ae8 (bq2 _) h]
 ·cases h
theorem bq3 {o : Ob} {nx : Nat} {s at_ g d pre vU post} {i : Nat} {gj : Tag} {n : Nat} {cs : List AV} {K : AV × AH → Prop} (h : Stk o nx s at_ g d pre vU (.ref (i, 11) gj 0 (n + 1)) post) (hj : o (i, 11) = some (.row ⟨37, 5, gj, false, true, cs⟩)) (hc : cs.length = (n + 1) * 5) (hn : n ≤ 1000) (hK : K (.ptr (i, 11) gj (n * 5), ⟨o, nx + 2⟩)) : wO (Option.map (fun p => p8 false p.1 p.2) (aO6 [cE6 g d] ⟨o, nx⟩)) K := by
 have h2 := h.par
 have h3 := h.lev
 have h4 := h.len
 have h5 := h.le
 have h6 : ∀ x y : AV, (pre ++ x :: y :: post).length = d * 2 + (post.length + 2) := fun x y => by rw [List.length_append, h4]; rfl
 have d0 : ∀ x y : AV, (pre ++ x :: y :: post).drop (d * 2) = x :: y :: post := fun x y => af5 h4
 have d1 : ∀ x y : AV, (pre ++ x :: y :: post).drop (d * 2 + 1) = y :: post := fun x y => Y7 h4
 refine G5 (fn := Tryd.f89) (c := Tryd.f89.body.getD .skip) rfl ?_
 simp only [Tryd.f89, Option.getD_some]
 simp (disch := omega) only [go_sem, h3, h6, d0, d1, hj, hc]
 exact hK
noncomputable def cp1 : q8 := p5 [(67, bo5), (89, aO6)]
theorem bq4 : u9 Tryd.prog cp1 ∧ Up cp1 := m9 (m9 (G7 _) bE2 (fun _ => bd2)) aO4 (fun _ => ap6)
def bq5 : Nat → Option (List (Nat × Nat))
 | _ => none
theorem bU8 (X) : f7 (EX md0 X) bq5 4 Tryd.f73 = true := by kernel_rfl
noncomputable def cp2 (args : List AV) (H : AH) : Option (AV × AH) := if args.length = 4 then ar9 (EX md0 (fun _ _ => none)) cp1 0 bq5 Tryd.f73 args H else none
theorem bU9 (args H v H') (h : cp2 args H = some (v, H')) : OkR Tryd.prog 73 args H v H' := by
 unfold cp2 at h
 split at h
 ·rename_i hn
  exact K4 (E := EX md0 (fun _ _ => none)) (A8 _) bq4.1 bq4.2 mixed Tryd.func73 (by rw [hn]; exact bU8 _) h
 ·cases h
theorem aA6 : cp1 67 = bo5 := rfl
theorem ap7 : cp1 89 = aO6 := rfl
theorem aV1 {o : Ob} {nx : Nat} {s at_ g d pre vU vJ post} {b D : Nat} {U J : List Nd} (k lo hi : Int) (x : Nd) {K : AV × AH → Prop} (h : Stk o nx s at_ g d pre vU vJ post) (hL : Lv b o nx D vU vJ U (J ++ [x])) (hb : 3 ≤ b) (hbn : b ≤ nx) (hJ : J.length ≤ 1000)
  (hK : ∀ o' nx' vJ', nx ≤ nx' → Stk o' nx' s at_ g d pre vU vJ' post → Lv b o' nx' (D + 1) vU vJ' U (J ++ [.mk k 0 lo hi [x]]) → KeepL b nx o o' → K (.tup [], ⟨o', nx'⟩)) : wO (Option.map (fun p => p8 false p.1 p.2) (cp2 [cf5, .int .i64 k, .int .i64 lo, .int .i64 hi] ⟨o, nx⟩)) K := by
 have h1 := h.cell
 have h2 := h.par
 have h3 := h.lev
 have h0 := h.lt
 rcases hL.j with ⟨_, e⟩ | ⟨i, gj, cs, i1, i2, rfl, i3, i4⟩
 ·exact absurd e (by simp)
 rw [List.length_append, List.length_singleton] at *
 obtain ⟨c0, c1, rfl, n0, n1⟩ := i4.last
 have l0 := n0.length
 have l1 := n1.length
 have k1 := n1.ok
 refine G5 (fn := Tryd.f73) (c := Tryd.f73.body.getD .skip) rfl ?_
 simp only [Tryd.f73, Option.getD_some]
 simp (disch := omega) only [go_sem, bq5, aA6, ap7]
 refine A3 (h.keep (by omega) rfl rfl rfl) ?_
 simp (disch := omega) only [go_sem, bq5, aA6, ap7]
 refine bq3 (cs := c0 ++ c1) (h.keep (by omega) rfl rfl rfl) i3 (by rw [List.length_append, l0, l1]; omega) hJ ?_
 have hd : (c0 ++ c1).drop (J.length * 5) = c1 := by rw [← l0]; exact List.drop_left' rfl
 have hl : (c0 ++ c1).length = J.length * 5 + 5 := by rw [List.length_append, l0, l1]
 have htk : c1.take 5 = c1 := j0 l1
 have hs : ∀ y : List AV, y.length = 5 → r8 (c0 ++ c1) (J.length * 5) y = c0 ++ y := fun y hy => by
  unfold r8
  rw [← l0, List.take_left' rfl, List.drop_of_length_le (by rw [List.length_append, l1, hy]; omega)]
  simp
 have hs1 : ∀ a1 a2 a3 a4 a5 : AV, r8 (c0 ++ c1) (J.length * 5) [a1, a2, a3, a4, a5] = c0 ++ [a1, a2, a3, a4, a5] := fun _ _ _ _ _ => hs _ rfl
 simp (disch := omega) only [go_sem, bq5, aA6, ap7, i3, hd, hl, htk, hs1, k1, l1]
 refine hK _ _ _ (by omega) (h.keep (by omega) (by simp [d6]) (by simp [d6]) (by simp [d6])) ⟨?_, ?_⟩ ?_
 ·rcases hL.u with h7 | ⟨i', gu, j1, j2, j3, j4⟩
  ·exact .inl h7
  ·exact .inr ⟨i', gu, j1, by omega, j3, by simp [d6, j4]⟩
 ·have hk19 : ∀ (y z : AObj) (i' : Nat), b ≤ i' → i' < nx → upd (upd o (nx + 1 + 2 + 2, 19) y) (i, 11) z (i', 19) = o (i', 19) := fun y z i' _ hi' => by
   have e1 : ¬ i' = nx + 1 + 2 + 2 := by omega
   simp [d6, e1]
  refine .inr ⟨i, gj, _, by omega, by omega, by rw [List.length_append, List.length_singleton], f8 _ _ _, ((n0.keep (by omega) (hk19 _ _)).up (by omega)).snoc ?_⟩
  exact .beh D (nx + 1 + 2 + 2) _ false k lo hi x c1 (by omega) (by omega) (by simp [d6]) (n1.keep (by omega) (hk19 _ _))
 ·intro i' k' hi a1 a2 a3
  have e1 : ¬ i' = nx + 1 + 2 + 2 := by omega
  have e4 : (i', k') ≠ (i, 11) := fun e => (a3 (by cases e; omega)).1 (by cases e; rfl)
  rw [x6 e4]
  simp [d6, e1]
noncomputable def bE3 : FuncId → List AV → Option AV := p4 [(75, E3 bD5)]
theorem bE4 : m7 Tryd.prog bE3 := k0 (p9 _) (n5 bo8)
theorem aV2 : Q5 bD5 := by
 rintro args r r' ⟨k, l, _, _, rfl, rfl⟩ ⟨k', l', _, _, h, rfl⟩
 simp only [List.cons.injEq, AV.int.injEq, AV.sl.injEq, and_true, true_and] at h
 rw [h.1, ab5 h.2.2]
theorem bE5 (k : Int) (l : List Nd) (h0 : l ≠ []) (h1 : l.length ≤ 1000) : bE3 75 [.int .i64 k, slN l] = some (j5 (u5 k l)) := m8 aV2 ⟨k, l, h0, h1, rfl, rfl⟩
def cE7 : Nat → Option (List (Nat × Nat))
 | 0 => some [(5, 10), (5, 11)]
 | _ => none
theorem cp3 (X) : f7 (EX md0 X) cE7 1 Tryd.f74 = true := by kernel_rfl
noncomputable def cOr (args : List AV) (H : AH) : Option (AV × AH) := if args.length = 1 then ar9 (EX md0 bE3) noR 0 cE7 Tryd.f74 args H else none
theorem cp4 (args H v H') (h : cOr args H = some (v, H')) : OkR Tryd.prog 74 args H v H' := by
 unfold cOr at h
 split at h
 ·rename_i hn
  exact K4 (E := EX md0 bE3) bE4 (o8 Tryd.prog).1 (o8 Tryd.prog).2 mixed Tryd.func74 (by rw [hn]; exact cp3 _) h
 ·cases h
theorem NdAt.view {o : Ob} {b nx d : Nat} {cs : List AV} {n : Nd} (h : NdAt o b nx d cs n) : ∀ {e : Nat}, d ≤ e → cs.map (A.view o e) = cNd n := by
 induction h with
 | data d n => intro e _; exact az4 o e n
 | leaf d k s lo hi =>
  intro e _
  simp (disch := omega) only [go_sem]
  rw [slN, p6]
  rfl
 | beh d i g ro k lo hi x cs h1 h2 h3 h4 ih =>
  intro e he
  obtain ⟨e, rfl⟩ : ∃ e', e = e' + 1 := ⟨e - 1, by omega⟩
  have := ih (e := e) (by omega)
  have hl := h4.length
  have htk : cs.take 5 = cs := j0 hl
  simp (disch := omega) only [go_sem, h3, htk, this, hl]
  rw [slN, C7]
  rfl
theorem NdsP.view {o : Ob} {b nx d : Nat} {cs : List AV} {l : List Nd} (h : NdsP o b nx d cs l) {e : Nat} (he : d ≤ e) : cs.map (A.view o e) = K9 l := by
 induction h with
 | nil => rw [p6]; rfl
 | cons c cs n l h1 _ ih => rw [List.map_append, h1.view he, ih, A1]
theorem NdAt.tags {o : Ob} {b nx d : Nat} {cs : List AV} {n : Nd} (h : NdAt o b nx d cs n) : ∀ (e : Nat) (t : Tag), t ∈ cs.flatMap (b9 o e) → t.2 = 19 ∧ b ≤ t.1 ∧ t.1 < nx := by
 induction h with
 | data d n => intro e t ht; rw [aT6] at ht; cases ht
 | leaf d k s lo hi =>
  intro e t ht
  cases e <;> simp [b9] at ht
 | beh d i g ro k lo hi x cs h1 h2 h3 h4 ih =>
  intro e t ht
  cases e with
  | zero => simp [b9] at ht
  | succ e =>
   have hl := h4.length
   have htk : cs.take 5 = cs := j0 hl
   simp (disch := omega) only [go_sem, h3, htk] at ht
   simp only [List.append_nil, List.nil_append, List.mem_cons] at ht
   rcases ht with rfl | ht
   ·exact ⟨rfl, h1, h2⟩
   ·exact ih e t ht
theorem NdsP.tags {o : Ob} {b nx d : Nat} {cs : List AV} {l : List Nd} (h : NdsP o b nx d cs l) (e : Nat) (t : Tag) (ht : t ∈ cs.flatMap (b9 o e)) : t.2 = 19 ∧ b ≤ t.1 ∧ t.1 < nx := by
 induction h with
 | nil => cases ht
 | cons c cs n l h1 _ ih =>
  rw [List.flatMap_append, List.mem_append] at ht
  rcases ht with ht | ht
  ·exact h1.tags e t ht
  ·exact ih ht
theorem Lv.viewJ {b : Nat} {o : Ob} {nx D : Nat} {vU vJ : AV} {U J : List Nd} (h : Lv b o nx D vU vJ U J) (hD : D ≤ 1000) (hJ : J ≠ []) : A.view o 1012 vJ = slN J := by
 rcases h.j with ⟨_, e⟩ | ⟨i, gj, cs, i1, i2, rfl, i3, i4⟩
 ·exact absurd e hJ
 have hl := i4.length
 have htk : cs.take (J.length * 5) = cs := j0 hl
 have hv := i4.view (e := 1011) (by omega)
 simp (disch := omega) only [go_sem, i3, hl, htk, hv]
theorem Lv.tagsJ {b : Nat} {o : Ob} {nx D : Nat} {vU vJ : AV} {U J : List Nd} (h : Lv b o nx D vU vJ U J) (t : Tag) (ht : t ∈ b9 o 1012 vJ) : (t.2 = 11 ∨ t.2 = 19) ∧ b ≤ t.1 ∧ t.1 < nx := by
 rcases h.j with ⟨rfl, e⟩ | ⟨i, gj, cs, i1, i2, rfl, i3, i4⟩
 ·simp [b9] at ht
 have hl := i4.length
 have htk : cs.take (J.length * 5) = cs := j0 hl
 simp (disch := omega) only [go_sem, i3, htk] at ht
 simp only [List.drop_zero, List.mem_cons, htk] at ht
 rcases ht with rfl | ht
 ·exact ⟨.inl rfl, i1, i2⟩
 ·have := i4.tags 1011 t ht
  exact ⟨.inr this.1, this.2⟩
theorem aV3 {t : Tag} {l : List Tag} (h : t ∉ l) : nin t l = true := by unfold nin; simp [h]
theorem aO7 {o : Ob} {nx : Nat} {s at_ g d pre vU vJ post} {b D : Nat} {U J : List Nd} {K : AV × AH → Prop} (h : Stk o nx s at_ g d pre vU vJ post) (hL : Lv b o nx D vU vJ U J) (hb : 3 ≤ b) (hbn : b ≤ nx) (hD : D ≤ 1000) (hJ0 : J ≠ []) (hJ : J.length ≤ 1000) (hU : U.length ≤ 1000)
  (hK : ∀ o' nx' vU', nx ≤ nx' → Stk o' nx' s at_ g d pre vU' .nil post → Lv b o' nx' D vU' .nil (U ++ [u5 4 J]) [] → KeepL b nx o o' → K (.tup [], ⟨o', nx'⟩)) : wO (Option.map (fun p => p8 false p.1 p.2) (cOr [cE6 g d] ⟨o, nx⟩)) K := by
 have h0 := h.lt
 have h1 := h.cell
 have h2 := h.par
 have h3 := h.lev
 have h4 := h.len
 have h5 := h.le
 have h6 : ∀ x y : AV, (pre ++ x :: y :: post).length = d * 2 + (post.length + 2) := fun x y => by rw [List.length_append, h4]; rfl
 have d0 : ∀ x y : AV, (pre ++ x :: y :: post).drop (d * 2) = x :: y :: post := fun x y => af5 h4
 have d1 : ∀ x y : AV, (pre ++ x :: y :: post).drop (d * 2 + 1) = y :: post := fun x y => Y7 h4
 have s0 : ∀ x y z : AV, r8 (pre ++ x :: y :: post) (d * 2) [z] = pre ++ z :: y :: post := fun x y z => bo3 h4
 have s1 : ∀ x y z : AV, r8 (pre ++ x :: y :: post) (d * 2 + 1) [z] = pre ++ x :: z :: post := fun x y z => aH5 h4
 have hv := hL.viewJ hD hJ0
 have ht := hL.tagsJ
 have hn : ∀ i k, k ≠ 11 → k ≠ 19 → nin (i, k) (b9 o 1012 vJ) = true := fun i k e1 e2 => aV3 (fun hm => by have := (ht _ hm).1; simp_all)
 have hX := bE5 4 J hJ0 hJ
 have hkp : ∀ i k, (b ≤ i → i < nx → k ≠ 11 ∧ k ≠ 19) → C9 (b9 o 1012 vJ) o (i, k) = o (i, k) := fun i k hk => P0 (fun hm => by
  obtain ⟨e1, e2, e3⟩ := ht _ hm
  have := hk e2 e3
  rcases e1 with e1 | e1
  ·exact this.1 e1
  ·exact this.2 e1)
 have hall : ((b9 o 1012 vJ).all fun t => nin t [(2, 21)]) = true := by
  rw [List.all_eq_true]
  intro t hm
  refine aV3 (fun e => ?_)
  rw [List.mem_singleton] at e
  subst e
  have := (ht _ hm).2.1
  simp at this
  omega
 refine G5 (fn := Tryd.f74) (c := Tryd.f74.body.getD .skip) rfl ?_
 simp only [Tryd.f74, Option.getD_some]
 rcases hL.u with ⟨rfl, rfl⟩ | ⟨i, gu, i1, i2, rfl, i3⟩
 ·simp (disch := omega) only [go_sem, cE7, h1, h2, h3, h6, d0, d1, s0, s1, hv, hn, hX]
  refine ⟨hall, hK _ _ _ (by omega) ⟨by omega, by simp [d6, hkp, h1], by simp [d6, hkp, h2], f8 _ _ _, h4, h5⟩ ⟨?_, .inl ⟨rfl, rfl⟩⟩ ?_⟩
  ·exact .inr ⟨nx, (nx, 14), hbn, by omega, rfl, by simp [d6, C7]⟩
  ·intro i k hi a1 a2 a3
   have e1 : ¬ i = nx := by omega
   rw [x6 a1, x6 a1]
   simp only [d6, e1, if_false, ite_self]
   exact hkp i k (fun q _ => ⟨(a3 q).1, (a3 q).2.2⟩)
 ·have hlen := C2 U
  have htk : (K9 U).take (U.length * 5) = K9 U := j0 hlen
  simp (disch := omega) only [go_sem, cE7, h1, h2, h3, h6, d0, d1, s0, s1, hv, hn, hX, i3, htk]
  refine ⟨hall, hK _ _ _ (by omega) ⟨by omega, by simp [d6, hkp, h1], by simp [d6, hkp, h2], f8 _ _ _, h4, h5⟩ ⟨?_, .inl ⟨rfl, rfl⟩⟩ ?_⟩
  ·exact .inr ⟨i, (nx, 14), i1, by omega, by rw [List.length_append, List.length_singleton], by simp [d6, W3, C7]⟩
  ·intro i' k hi a1 a2 a3
   have e1 : ¬ i' = nx := by omega
   have e4 : (i', k) ≠ (i, 14) := fun e => (a3 (by cases e; omega)).2.1 (by cases e; rfl)
   rw [x6 a1, x6 a1, x6 e4]
   simp only [d6, e1, if_false, ite_self]
   exact hkp i' k (fun q _ => ⟨(a3 q).1, (a3 q).2.2⟩)
set_option maxRecDepth 20000
def aO8 : Nat → Option (List (Nat × Nat))
 | _ => none
theorem bV0 (X) : f7 (EX md0 X) aO8 1 Tryd.f70 = true := by kernel_rfl
noncomputable def cp5 (args : List AV) (H : AH) : Option (AV × AH) := if args.length = 1 then ar9 (EX md0 XIx) noR 300 aO8 Tryd.f70 args H else none
theorem bV1 (args H v H') (h : cp5 args H = some (v, H')) : OkR Tryd.prog 70 args H v H' := by
 unfold cp5 at h
 split at h
 ·rename_i hn
  exact K4 (E := EX md0 XIx) bp1 (o8 Tryd.prog).1 (o8 Tryd.prog).2 mixed Tryd.func70 (by rw [hn]; exact bV0 _) h
 ·cases h
def orN (x i : Int) : Int := orI .i64 x (IntKind.i64.wrap (1 * 2 ^ min i.toNat 64))
theorem cp6 {x i : Int} (h0 : 0 ≤ x) (h1 : x ≤ 31) (h2 : 0 ≤ i) (h3 : i ≤ 4) : 0 ≤ orN x i ∧ orN x i ≤ 31 := by
 have key : ∀ (a : Fin 32) (b : Fin 5), 0 ≤ orN (a.1 : Int) (b.1 : Int) ∧ orN (a.1 : Int) (b.1 : Int) ≤ 31 := by decide +kernel
 have := key ⟨x.toNat, by omega⟩ ⟨i.toNat, by omega⟩
 simp only [Int.toNat_of_nonneg h0, Int.toNat_of_nonneg h2] at this
 exact this
def E6 (s : List UInt8) : Nat → Int → Int → Int × Bool × Int
 | 0, a, _ => (0, false, a)
 | m + 1, a, out => if Y8 (E0 s a) < 0 then (out, decide (0 < out) && decide (E0 s a = 93), a) else E6 s m (a + 1) (orN out (Y8 (E0 s a)))
theorem bE6 (c) : Y8 c ≤ 4 := by unfold Y8; repeat' split; all_goals omega
theorem Stk.at {o : Ob} {nx nx' : Nat} {s at_ at' g d pre vU vJ post} (h : Stk o nx s at_ g d pre vU vJ post) (hn : nx ≤ nx') : Stk (upd o (2, 23) (.row ⟨121, 1, (2, 23), false, true, [.str s, .int .i64 at', .ref (2, 21) g 0 (d + 1)]⟩)) nx' s at' g d pre vU vJ post :=
 ⟨by have := h.lt; omega, by simp [d6, h.cell], f8 _ _ _, by simp [d6, h.lev], h.len, h.le⟩
theorem bE7 {o : Ob} {nx : Nat} {s g d pre vU vJ post} {at_ : Int} {K : AV × AH → Prop} (h : Stk o nx s at_ g d pre vU vJ post) (ha : 0 ≤ at_) (ha' : at_ ≤ s.length) (hs : s.length ≤ 200)
  (hK : ∀ o' nx', nx ≤ nx' → Stk o' nx' s (E6 s (s.length - at_.toNat) at_ 0).2.2 g d pre vU vJ post → (∀ t, t ≠ (2, 23) → t.1 < nx → o' t = o t) → K (.tup [.int .i64 (E6 s (s.length - at_.toNat) at_ 0).1, .bool (E6 s (s.length - at_.toNat) at_ 0).2.1], ⟨o', nx'⟩)) :
  wO (Option.map (fun p => p8 false p.1 p.2) (cp5 [cf5] ⟨o, nx⟩)) K := by
 refine G5 (fn := Tryd.f70) (c := Tryd.f70.body.getD .skip) rfl ?_
 simp only [Tryd.f70, Option.getD_some]
 simp (disch := omega) only [go_sem, aO8]
 generalize hR : E6 s (s.length - at_.toNat) at_ 0 = R at hK
 refine u2 (fun m a o1 nx1 => ∃ (x out : Int), at_ ≤ x ∧ x ≤ s.length ∧ m = s.length - x.toNat ∧ nx ≤ nx1 ∧ a 0 = cf5 ∧ a 4 = .int .i64 out ∧ 0 ≤ out ∧ out ≤ 31 ∧ Stk o1 nx1 s x g d pre vU vJ post ∧ (∀ t, t ≠ (2, 23) → t.1 < nx → o1 t = o t) ∧ E6 s (s.length - x.toNat) x out = R) (s.length - at_.toNat) ?_ ?_ ?_
 ·omega
 ·exact ⟨at_, 0, by omega, ha', rfl, by omega, rfl, rfl, by omega, by omega, h.keep (by omega) rfl rfl rfl, fun _ _ _ => rfl, hR⟩
 ·rintro m a o1 nx1 ⟨x, out, x1, x2, rfl, hnx, a0, a4, o1', o2', hS, hkp, hR'⟩
  have h2 := hS.par
  by_cases hlt : x < s.length
  ·obtain ⟨c, hc, hbt⟩ := aA5 (a := x) (by omega) (by omega : ¬ (s.length : Int) ≤ x)
   have hx := bL7 c
   unfold ah9 at hx
   obtain ⟨m', hm'⟩ : ∃ m', s.length - x.toNat = m' + 1 := ⟨s.length - x.toNat - 1, by omega⟩
   rw [hm', E6, hbt] at hR'
   by_cases hs1 : Y8 c.toNat < 0
   ·rw [if_pos hs1] at hR'
    by_cases hs2 : 0 < out
    ·simp (disch := omega) only [go_sem, aO8, a0, a4, h2, hc, hx, hs1, hs2]
     subst hR'
     have := hK o1 (nx1 + 1 + 1 + 1 + 1) (by omega) (hS.keep (by omega) rfl rfl rfl) hkp
     simpa only [hs2, decide_true, Bool.true_and] using this
    ·simp (disch := omega) only [go_sem, aO8, a0, a4, h2, hc, hx, hs1, hs2]
     subst hR'
     have := hK o1 (nx1 + 1 + 1 + 1 + 1) (by omega) (hS.keep (by omega) rfl rfl rfl) hkp
     simpa only [hs2, decide_false, Bool.false_and] using this
   ·rw [if_neg hs1] at hR'
    have hlt4 := bE6 c.toNat
    have hin := cp6 o1' o2' (by omega : 0 ≤ Y8 c.toNat) hlt4
    simp (disch := omega) only [go_sem, aO8, a0, a4, h2, hc, hx, hs1]
    refine ⟨_, ?_, x + 1, _, by omega, by omega, rfl, by omega, rfl, hin.1, hin.2, hS.at (by omega), ?_, ?_⟩
    ·omega
    ·intro t e1 e2
     rw [x6 e1]
     exact hkp t e1 e2
    ·have : s.length - (x + 1).toNat = m' := by omega
     rw [this]
     exact hR'
  ·simp (disch := omega) only [go_sem, aO8, a0, a4, h2]
   have : s.length - x.toNat = 0 := by omega
   rw [this, E6] at hR'
   subst hR'
   exact hK o1 (nx1 + 1 + 1) (by omega) (hS.keep (by omega) rfl rfl rfl) hkp
set_option maxRecDepth 20000
abbrev Lvs := List (List Nd × List Nd)
def ai7 : Nd → Int
 | .mk k _ _ _ _ => k
abbrev L9 : Nd := .mk 0 0 0 0 []
def aH6 (k lo hi : Int) (J : List Nd) : List Nd := J.dropLast ++ [.mk k 0 lo hi [J.getLastD L9]]
def pGo (s : List UInt8) : Nat → Int → List Nd → List Nd → Lvs → Nd × Int × Int
 | 0, at_, _, _, _ => (L9, at_, 3)
 | f + 1, at_, U, J, B =>
  if (s.length : Int) ≤ at_ then (if B ≠ [] ∨ J = [] then (L9, at_, 3) else (u5 5 (U ++ [u5 4 J]), 0, 0))
  else if ai7 (I3 (E0 s at_)) ≠ 0 then pGo s f (at_ + 1) U (J ++ [I3 (E0 s at_)]) B
  else if E0 s at_ = 91 then
   let q := E6 s (s.length - (at_ + 1).toNat) (at_ + 1) 0
   if q.2.1 = false then (L9, q.2.2, 3) else pGo s f (q.2.2 + 1) U (J ++ [.mk 1 q.1 0 0 []]) B
  else if E0 s at_ = 40 then (if B.length + 1 > 30 then (L9, at_, 4) else pGo s f (at_ + 1) [] [] ((U, J) :: B))
  else if J = [] then (L9, at_, 3)
  else if L7 (E0 s at_) = 9 then
   let q := L8 s at_
   if 0 ≤ q.2.2 then (L9, q.2.2, 3) else pGo s f (at_ + 5) U (aH6 9 q.1 q.2.1 J) B
  else if L7 (E0 s at_) ≠ 0 then pGo s f (at_ + 1) U (aH6 (L7 (E0 s at_)) 0 0 J) B
  else if E0 s at_ = 124 then pGo s f (at_ + 1) (U ++ [u5 4 J]) [] B
  else if E0 s at_ = 41 ∧ B ≠ [] then pGo s f (at_ + 1) (B.headD ([], [])).1 ((B.headD ([], [])).2 ++ [u5 5 (U ++ [u5 4 J])]) B.tail
  else (L9, at_, 3)
def u4 (s : List UInt8) : Nd × Int × Int := if 200 < s.length then (L9, 0, 4) else pGo s (s.length + 1) 0 [] [] []
inductive Below (o : Ob) (N : Nat) : Nat → List AV → Lvs → Prop
 | nil (b : Nat) : Below o N b [] []
 | cons (b' b D : Nat) (pre : List AV) (vU vJ : AV) (U J : List Nd) (B : Lvs) : Below o N b' pre B → 3 ≤ b' → b' ≤ b → Lv b' o b D vU vJ U J → D ≤ N → U.length ≤ N → J.length ≤ N → Below o N b (pre ++ [vU, vJ]) ((U, J) :: B)
theorem Below.keep {o o' : Ob} {N N' b : Nat} {pre : List AV} {B : Lvs} (h : Below o N b pre B) (hN : N ≤ N') : KeepB b o o' → Below o' N' b pre B := by
 induction h with
 | nil b => intro _; exact .nil b
 | cons b' b D pre vU vJ U J B h1 h2 h3 h4 h5 h6 h7 ih =>
  intro hk
  exact .cons b' b D pre vU vJ U J B (ih (fun i k e1 e2 => hk i k e1 (by omega))) h2 h3 (h4.keep (by omega) (fun i k e1 e2 _ => hk i k (by omega) e2)) (by omega) (by omega) (by omega)
theorem Below.length {o : Ob} {N b : Nat} {pre : List AV} {B : Lvs} (h : Below o N b pre B) : pre.length = B.length * 2 := by
 induction h with
 | nil b => rfl
 | cons b' b D pre vU vJ U J B h1 h2 h3 h4 h5 h6 h7 ih => rw [List.length_append, ih]; show _ + 2 = (_ + 1) * 2; omega
theorem KeepL.below {b n : Nat} {o o' : Ob} (h : KeepL b n o o') (hn : b ≤ n) : KeepB b o o' := fun i k h1 h2 => h i k (by omega) (by intro e; cases e; omega) (by intro e; cases e; omega) (by intro; omega)
noncomputable def bP : Code := Tryd.f45.body.getD .skip
noncomputable def xP : Code := v7 [1, 0] bP
noncomputable def r1 : Code := v7 [1, 0, 1, 1, 1, 1, 1] bP
noncomputable def r0 : Code := v7 [1, 0, 1, 1, 1, 1, 1, 1, 1, 1, 1, 1] bP
noncomputable def r2 : Code := v7 [1, 0, 1, 1, 1, 1, 1, 1, 1, 1, 1, 1, 1, 1, 1, 1] bP
theorem fl1 : findLabel xP 1 = some (.seq .skip r1) := by kernel_rfl
theorem fl0 : findLabel xP 0 = some (.seq .skip r0) := by kernel_rfl
theorem fl2 : findLabel xP 2 = some (.seq .skip r2) := by kernel_rfl
theorem bq6 : Q5 bp2 := by
 rintro args r r' ⟨c, rfl, rfl⟩ ⟨c', h, rfl⟩
 simp only [List.cons.injEq, AV.int.injEq, and_true, true_and] at h
 rw [h]
theorem bq7 : Q5 bp3 := by
 rintro args r r' ⟨c, rfl, rfl⟩ ⟨c', h, rfl⟩
 simp only [List.cons.injEq, AV.int.injEq, and_true, true_and] at h
 rw [h]
theorem bq8 : Q5 bp8 := by
 rintro args r r' ⟨s, a, v, _, _, rfl, rfl⟩ ⟨s', a', v', _, _, h, rfl⟩
 simp only [List.cons.injEq, AV.fptr.injEq, AV.str.injEq, AV.int.injEq, and_true, true_and] at h
 rw [h.1, h.2.1]
noncomputable def XPz : FuncId → List AV → Option AV := p4 [(69, E3 bp2), (71, E3 bp3), (75, E3 bD5), (72, E3 bp8)]
theorem cp7 : m7 Tryd.prog XPz := k0 (k0 (k0 (k0 (p9 _) (n5 bE1)) (n5 bo8)) (n5 bD9)) (n5 bD8)
theorem bq9 (c : UInt8) : XPz 69 [.int .u8 c.toNat] = some (j5 (I3 c.toNat)) := m8 bq6 ⟨c, rfl, rfl⟩
theorem br0 (c : UInt8) : XPz 71 [.int .u8 c.toNat] = some (.int .i64 (L7 c.toNat)) := m8 bq7 ⟨c, rfl, rfl⟩
theorem aV4 (k : Int) (l : List Nd) (h0 : l ≠ []) (h1 : l.length ≤ 1000) : XPz 75 [.int .i64 k, slN l] = some (j5 (u5 k l)) := m8 aV2 ⟨k, l, h0, h1, rfl, rfl⟩
theorem br1 (s at_ v) (h0 : 0 ≤ at_) (h1 : at_ ≤ 1000) : XPz 72 [.fptr [.str s, .int .i64 at_, v]] = some (.tup [.int .i64 (L8 s at_).1, .int .i64 (L8 s at_).2.1, .int .i64 (L8 s at_).2.2]) := m8 bq8 ⟨s, at_, v, h0, h1, rfl, rfl⟩
noncomputable def crP : q8 := p5 [(67, bo5), (66, co9), (70, cp5), (73, cp2), (74, cOr)]
theorem cp8 : u9 Tryd.prog crP ∧ Up crP := m9 (m9 (m9 (m9 (m9 (G7 _) cp4) bU9) bV1) bU5) aO4 (fun _ => ap6)
theorem C5 : crP 67 = bo5 := rfl
theorem aO9 : crP 66 = co9 := rfl
theorem bV2 : crP 70 = cp5 := rfl
theorem br2 : crP 73 = cp2 := rfl
theorem br3 : crP 74 = cOr := rfl
def nzP : Nat → Option (List (Nat × Nat))
 | 17 => some [(1, 5), (4, 5)]
 | 18 => some [(0, 6), (1, 6), (4, 6), (0, 7)]
 | 39 => some [(1, 5), (4, 5)]
 | _ => none
theorem cP9 (X) : f7 (EX md0 X) nzP 1 Tryd.f45 = true := by kernel_rfl
structure PS (s : List UInt8) (a : n8) (o : Ob) (nx : Nat) (at_ : Int) (U J : List Nd) (B : Lvs) (g : Tag) (b D : Nat) (pre : List AV) (vU vJ : AV) (post : List AV) : Prop where
 a0 : a 0 = .str s
 a2 : a 2 = .ptr (0, 2) (0, 2) 0
 a5 : a 5 = .ptr (2, 5) (2, 5) 0
 a6 : a 6 = .fn (.func 66) [] [.ptr (2, 5) (2, 5) 0]
 a7 : a 7 = .fn (.func 67) [cf5] []
 o2 : o (0, 2) = some (.row ⟨37, 1, (0, 2), false, true, nd0⟩)
 stk : Stk o nx s at_ g B.length pre vU vJ post
 bel : Below o at_.toNat b pre B
 b3 : 3 ≤ b
 bn : b ≤ nx
 lv : Lv b o nx D vU vJ U J
 D1 : D ≤ at_.toNat
 U1 : U.length ≤ at_.toNat
 J1 : J.length ≤ at_.toNat
 at0 : 0 ≤ at_
 at1 : at_ ≤ 210
def PI (s : List UInt8) (R : Nd × Int × Int) (l m : Nat) (a : n8) (o : Ob) (nx : Nat) : Prop := ∃ at_ U J B g b D pre vU vJ post, PS s a o nx at_ U J B g b D pre vU vJ post ∧
 ((l = 1 ∧ ∃ f, m = f + 2 ∧ 1 ≤ f ∧ (s.length : Int) - at_ < f ∧ pGo s f at_ U J B = R) ∨ (l = 0 ∧ m = 1 ∧ (if B ≠ [] ∨ J = [] then (L9, at_, 3) else (u5 5 (U ++ [u5 4 J]), 0, 0)) = R) ∨ (l = 2 ∧ m = 0 ∧ (L9, at_, 3) = R))
def bd3 (R : Nd × Int × Int) (a : n8) (o : Ob) : Prop := a 2 = .ptr (0, 2) (0, 2) 0 ∧ (∃ cs, o (0, 2) = some (.row ⟨37, 1, (0, 2), false, true, cs⟩) ∧ cs.length = 5 ∧ ∀ (o' : Ob) (e : Nat), cs.map (view o' e) = cNd R.1) ∧ a 3 = .int .i64 R.2.1 ∧ a 4 = .int .i64 R.2.2
def AOk (s : List UInt8) (a : n8) : Prop := a 0 = .str s ∧ a 2 = .ptr (0, 2) (0, 2) 0 ∧ a 5 = .ptr (2, 5) (2, 5) 0 ∧ a 6 = .fn (.func 66) [] [.ptr (2, 5) (2, 5) 0] ∧ a 7 = .fn (.func 67) [cf5] []
theorem PS.same {s a a' o nx nx' at_ U J B g b D pre vU vJ post} (h : PS s a o nx at_ U J B g b D pre vU vJ post) (ha : AOk s a') (hn : nx ≤ nx') : PS s a' o nx' at_ U J B g b D pre vU vJ post :=
 ⟨ha.1, ha.2.1, ha.2.2.1, ha.2.2.2.1, ha.2.2.2.2, h.o2, h.stk.keep hn rfl rfl rfl, h.bel, h.b3, by have := h.bn; omega, h.lv.keep hn (fun _ _ _ _ _ => rfl), h.D1, h.U1, h.J1, h.at0, h.at1⟩
theorem KeepL.o2 {b n : Nat} {o o' : Ob} (h : KeepL b n o o') (hb : 3 ≤ b) (hn : b ≤ n) : o' (0, 2) = o (0, 2) := h 0 2 (by omega) (by decide) (by decide) (by intro; omega)
theorem PS.next {s : List UInt8} {a' : n8} {o o' : Ob} {nx nx' nx'' N : Nat} {at_ at' : Int} {U J : List Nd} {B : Lvs} {g : Tag} {b D : Nat} {pre : List AV} {vU vJ : AV} {post : List AV} (ha : AOk s a') (ho2 : o (0, 2) = some (.row ⟨37, 1, (0, 2), false, true, nd0⟩))
  (stk : Stk o' nx' s at_ g B.length pre vU vJ post) (bel : Below o N b pre B) (b3 : 3 ≤ b) (bn : b ≤ nx) (kl : KeepL b nx o o') (hn : nx ≤ nx') (hn2 : nx' ≤ nx'') (lv : Lv b o' nx' D vU vJ U J) (hN : N ≤ at'.toNat) (hD : D ≤ at'.toNat) (hU : U.length ≤ at'.toNat) (hJ : J.length ≤ at'.toNat) (h0 : 0 ≤ at') (h1 : at' ≤ 210) :
  PS s a' (upd o' (2, 23) (.row ⟨121, 1, (2, 23), false, true, [.str s, .int .i64 at', .ref (2, 21) g 0 (B.length + 1)]⟩)) nx'' at' U J B g b D pre vU vJ post := by
 refine ⟨ha.1, ha.2.1, ha.2.2.1, ha.2.2.2.1, ha.2.2.2.2, ?_, stk.at hn2, bel.keep hN ?_, b3, by omega, lv.keep hn2 (fun i k e1 e2 e3 => ?_), hD, hU, hJ, h0, h1⟩
 ·rw [x6 (by decide), kl.o2 b3 bn, ho2]
 ·intro i k e1 e2
  have : (i, k) ≠ (2, 23) := by intro e; cases e; omega
  rw [x6 this]
  exact kl.below bn i k e1 e2
 ·exact x6 (by intro e; cases e; omega)
theorem ac2 (s : List UInt8) : ∀ (m : Nat) (a out : Int), a ≤ (E6 s m a out).2.2 ∧ (E6 s m a out).2.2 ≤ a + m
 | 0, a, out => by rw [E6]; show a ≤ a ∧ a ≤ a + ((0 : Nat) : Int); omega
 | m + 1, a, out => by
  rw [E6]
  split
  ·show a ≤ a ∧ a ≤ a + ((m + 1 : Nat) : Int); omega
  ·have := ac2 s m (a + 1) (orN out (Y8 (E0 s a)))
   omega
theorem PS.push {s : List UInt8} {a a' : n8} {o o' : Ob} {nx nx' : Nat} {at_ : Int} {U J : List Nd} {B : Lvs} {g g' : Tag} {b D : Nat} {pre : List AV} {vU vJ : AV} {post : List AV} (h : PS s a o nx at_ U J B g b D pre vU vJ post) (ha : AOk s a') (hn : nx ≤ nx') (hk : ∀ i k, i < nx → (i, k) ≠ (2, 21) → (i, k) ≠ (2, 23) → o' (i, k) = o (i, k)) (h1 : at_ + 1 ≤ 210)
  (stk : Stk o' nx' s (at_ + 1) g' (B.length + 1) (pre ++ [vU, vJ]) .nil .nil []) : PS s a' o' nx' (at_ + 1) [] [] ((U, J) :: B) g' nx 0 (pre ++ [vU, vJ]) .nil .nil [] := by
 obtain ⟨_, _, _, _, _, o2, stk0, bel, b3, bn, lv, D1, U1, J1, at0, at1⟩ := h
 refine ⟨ha.1, ha.2.1, ha.2.2.1, ha.2.2.2.1, ha.2.2.2.2, ?_, stk, .cons b nx D pre vU vJ U J B (bel.keep (by omega) (fun i k e1 e2 => hk i k (by omega) (by intro e; cases e; omega) (by intro e; cases e; omega))) b3 bn (lv.keep (by omega) (fun i k e1 e2 e3 => hk i k e2 (by intro e; cases e; omega) (by intro e; cases e; omega))) (by omega) (by omega) (by omega), by omega, hn, ⟨.inl ⟨rfl, rfl⟩, .inl ⟨rfl, rfl⟩⟩, by omega, by simp, by simp, by omega, h1⟩
 rw [hk 0 2 (by omega) (by decide) (by decide), o2]
theorem Lv.viewU {b : Nat} {o : Ob} {nx D : Nat} {vU vJ : AV} {U J : List Nd} (h : Lv b o nx D vU vJ U J) (hU : U ≠ []) : A.view o 1012 vU = slN U := by
 rcases h.u with ⟨_, e⟩ | ⟨i, gu, i1, i2, rfl, i3⟩
 ·exact absurd e hU
 have hl := C2 U
 have htk : (K9 U).take (U.length * 5) = K9 U := j0 hl
 have hv := P2 o 1011 U
 simp (disch := omega) only [go_sem, i3, hl, htk, hv]
theorem Lv.tagsU {b : Nat} {o : Ob} {nx D : Nat} {vU vJ : AV} {U J : List Nd} (h : Lv b o nx D vU vJ U J) (t : Tag) (ht : t ∈ b9 o 1012 vU) : t.2 = 14 ∧ b ≤ t.1 ∧ t.1 < nx := by
 rcases h.u with ⟨rfl, e⟩ | ⟨i, gu, i1, i2, rfl, i3⟩
 ·simp [b9] at ht
 have hl := C2 U
 have htk : (K9 U).take (U.length * 5) = K9 U := j0 hl
 simp (disch := omega) only [go_sem, i3, htk] at ht
 simp only [List.drop_zero, htk, bl3, List.mem_singleton] at ht
 subst ht
 exact ⟨rfl, i1, i2⟩
theorem ac3 (o' : Ob) (e : Nat) : nd0.map (view o' e) = cNd L9 := by
 rw [o7, slN, p6]
 cases e <;> rfl
set_option maxHeartbeats 4000000 in
theorem df2 {s : List UInt8} {R : Nd × Int × Int} (hs : s.length ≤ 200) {f : Nat} {a : n8} {o : Ob} {nx : Nat} {at_ U J B g b D pre vU vJ post} (h : PS s a o nx at_ U J B g b D pre vU vJ post) (hf1 : 1 ≤ f) (hf : (s.length : Int) - at_ < f) (hR : pGo s f at_ U J B = R) {Q : l8}
  (q1 : ∀ a o nx m', m' < f + 2 → PI s R 1 m' a o nx → Q (.goto 1) a o nx) (q0 : ∀ a o nx m', m' < f + 2 → PI s R 0 m' a o nx → Q (.goto 0) a o nx) (q2 : ∀ a o nx m', m' < f + 2 → PI s R 2 m' a o nx → Q (.goto 2) a o nx) (qr : ∀ a o nx, bd3 R a o → Q .ret a o nx) {k : Nat} :
  WP (EX md0 XPz) crP k nzP r1 a o nx Q := by
 have hps := h
 obtain ⟨a0, a2, a5, a6, a7, o2, stk, bel, b3, bn, lv, D1, U1, J1, at0, at1⟩ := h
 have hcell := stk.cell
 have hpar := stk.par
 have hlev := stk.lev
 have hpre := stk.len
 have hle := stk.le
 obtain ⟨f, rfl⟩ : ∃ f', f = f' + 1 := ⟨f - 1, by omega⟩
 simp only [r1, bP, v7, Tryd.f45, Option.getD_some]
 by_cases c1 : (s.length : Int) ≤ at_
 ·rw [pGo, if_pos c1] at hR
  simp (disch := omega) only [go_sem, nzP, a0, a2, a5, a6, a7, o2, hcell, hpar, hlev, c1]
  exact q0 _ _ _ 1 (by omega) ⟨_, _, _, _, _, _, _, _, _, _, _, hps.same (by unfold AOk; simp (disch := omega) only [go_sem, a0, a2, a5, a6, a7]) (by omega), .inr (.inl ⟨rfl, rfl, hR⟩)⟩
 obtain ⟨c, hc, hb⟩ := aA5 at0 c1
 have hpl := bq9 c
 have haf := br0 c
 rw [pGo, if_neg c1, hb] at hR
 have hk1 : ∀ n : Nd, M5 false 1 (cNd n) = some (.int .i64 (ai7 n)) := fun n => by cases n; rw [o7]; rfl
 by_cases c2 : ai7 (I3 c.toNat) = 0
 ·rw [if_neg (fun e => e c2)] at hR
  by_cases c3 : (c.toNat : Int) = 91
  ·rw [if_pos c3] at hR
   rw [c3] at hpl c2
   simp (disch := omega) only [go_sem, nzP, a0, a2, a5, a6, a7, o2, hcell, hpar, hlev, c1, hc, hpl, hk1, c2, c3, bV2]
   have hst : ∀ n, nx ≤ n → Stk (upd o (2, 23) (.row ⟨121, 1, (2, 23), false, true, [.str s, .int .i64 (at_ + 1), .ref (2, 21) g 0 (B.length + 1)]⟩)) n s (at_ + 1) g B.length pre vU vJ post := fun n hn => stk.at hn
   have hq := ac2 s (s.length - (at_ + 1).toNat) (at_ + 1) 0
   refine bE7 (hst _ ?_) (by omega) (by omega) hs (fun o' nx' e1 e2 e3 => ?_)
   ·omega
   generalize E6 s (s.length - (at_ + 1).toNat) (at_ + 1) 0 = q at *
   obtain ⟨q1', q2', q3'⟩ := q
   have hkl : KeepL b nx o o' := fun i k hi b1 b2 b3 => by rw [e3 _ b2 (by show i < _; omega), x6 b2]
   have lv' : Lv b o' nx' D vU vJ U J := lv.keep (by omega) (fun i k f1 f2 f3 => by rw [e3 _ (by intro e; cases e; omega) (by show i < _; omega), x6 (by intro e; cases e; omega)])
   have hcell' := e2.cell
   have hpar' := e2.par
   have o2' := (hkl.o2 b3 bn).trans o2
   simp only at hR e2 hpar' hq
   cases q2' with
   | false =>
    simp (disch := omega) only [go_sem, nzP, a0, a2, a5, a6, a7, hcell', hpar', c3]
    rw [if_pos rfl] at hR
    exact q2 _ _ _ 0 (by omega) ⟨_, U, J, B, g, b, D, pre, vU, vJ, post, ⟨by simp (disch := omega) only [go_sem, a0], by simp (disch := omega) only [go_sem, a2], by simp (disch := omega) only [go_sem, a5], by simp (disch := omega) only [go_sem, a6], by simp (disch := omega) only [go_sem, a7], o2', e2.keep (by omega) rfl rfl rfl, bel.keep (by omega) (hkl.below bn), b3, by omega, lv'.keep (by omega) (fun _ _ _ _ _ => rfl), by omega, by omega, by omega, by omega, by omega⟩, .inr (.inr ⟨rfl, rfl, hR⟩)⟩
   | true =>
    simp (disch := omega) only [go_sem, nzP, a0, a2, a5, a6, a7, hcell', hpar', aO9, c3]
    rw [if_neg (by decide)] at hR
    refine aA4 (.leaf D 1 q1' 0 0) (e2.keep (by omega) rfl rfl rfl) (lv'.keep (by omega) (fun _ _ _ _ _ => rfl)) b3 (by omega) (by omega) (fun o3 nx3 vJ3 f1 f2 f3 f4 => ?_)
    have hcell3 := f2.cell
    have hpar3 := f2.par
    simp (disch := omega) only [go_sem, nzP, a0, a2, a5, a6, a7, hcell3, hpar3]
    exact q1 _ _ _ (f + 2) (by omega) ⟨_, _, _, _, _, _, _, _, _, _, _, PS.next (by unfold AOk; simp (disch := omega) only [go_sem, a0, a2, a5, a6, a7]) o2 f2 bel b3 bn (fun i k hi b1 b2 b3 => (f4 i k (by omega) b1 b2 b3).trans (hkl i k hi b1 b2 b3)) (by omega) (by omega) f3 (N := at_.toNat) (by omega) (by omega) (by omega) (by rw [List.length_append, List.length_singleton]; omega) (by omega) (by omega), .inl ⟨rfl, f, rfl, by omega, by omega, hR⟩⟩
  rw [if_neg c3] at hR
  by_cases c4 : (c.toNat : Int) = 40
  ·rw [if_pos c4] at hR
   rw [c4] at hpl c2
   by_cases c5 : B.length + 1 > 30
   ·rw [if_pos c5] at hR
    simp (disch := omega) only [go_sem, nzP, a0, a2, a5, a6, a7, o2, hcell, hpar, hlev, c1, hc, hpl, hk1, c2, c4, c5]
    subst hR
    exact qr _ _ _ ⟨by simp (disch := omega) only [go_sem, a2], ⟨nd0, by simp (disch := omega) only [go_sem], rfl, ac3⟩, by simp (disch := omega) only [go_sem], by simp (disch := omega) only [go_sem]⟩
   ·rw [if_neg c5] at hR
    have htk : (pre ++ vU :: vJ :: post).take ((B.length + 1) * 2) = pre ++ [vU, vJ] := by
     have : pre ++ vU :: vJ :: post = (pre ++ [vU, vJ]) ++ post := by simp
     rw [this]
     exact List.take_left' (by rw [List.length_append, hpre]; show _ + 2 = _; omega)
    simp (disch := omega) only [go_sem, nzP, a0, a2, a5, a6, a7, o2, hcell, hpar, hlev, c1, hc, hpl, hk1, c2, c4, c5, htk]
    refine q1 _ _ _ (f + 2) (by omega) ⟨_, _, _, _, _, _, _, _, _, _, _, hps.push (a' := _) (g' := (nx + 1 + 1 + 1 + 1 + 1 + 1, 91)) (by unfold AOk; simp (disch := omega) only [go_sem, a0, a2, a5, a6, a7]) (nx' := _) (by omega) (fun i k hi b1 b2 => ?_) (by omega) ⟨by omega, by simp [d6, hcell], f8 _ _ _, ?_, by rw [List.length_append, hpre]; show _ + 2 = _; omega, by omega⟩, .inl ⟨rfl, f, rfl, by omega, by omega, hR⟩⟩
    ·have e1 : ¬ i = nx + 1 + 1 + 1 + 1 + 1 + 1 := by omega
     rw [x6 b2, x6 b2, x6 b1]
     simp [d6, e1]
    ·simp [d6]
  rw [if_neg c4] at hR
  have d0 : ∀ x y : AV, (pre ++ x :: y :: post).drop (B.length * 2) = x :: y :: post := fun x y => af5 hpre
  have d1 : ∀ x y : AV, (pre ++ x :: y :: post).drop (B.length * 2 + 1) = y :: post := fun x y => Y7 hpre
  have h6 : ∀ x y : AV, (pre ++ x :: y :: post).length = B.length * 2 + (post.length + 2) := fun x y => by rw [List.length_append, hpre]; rfl
  by_cases c6 : J = []
  ·rw [if_pos c6] at hR
   have hvJ : vJ = .nil ∨ ∃ i gj, vJ = .ref (i, 11) gj 0 0 := by
    rcases lv.j with ⟨e, _⟩ | ⟨i, gj, cs, _, _, e, _, _⟩
    ·exact .inl e
    ·exact .inr ⟨i, gj, by rw [e, c6]; rfl⟩
   simp (disch := omega) only [go_sem, nzP, a0, a2, a5, a6, a7, o2, hcell, hpar, hlev, c1, hc, hpl, hk1, c2, c3, c4, C5]
   refine A3 (stk.keep (by omega) rfl rfl rfl) ?_
   rcases hvJ with rfl | ⟨i, gj, rfl⟩
   ·simp (disch := omega) only [go_sem, nzP, a0, a2, a5, a6, a7, o2, hcell, hpar, hlev, d0, d1, h6]
    exact q2 _ _ _ 0 (by omega) ⟨_, _, _, _, _, _, _, _, _, _, _, hps.same (by unfold AOk; simp (disch := omega) only [go_sem, a0, a2, a5, a6, a7]) (by omega), .inr (.inr ⟨rfl, rfl, hR⟩)⟩
   ·simp (disch := omega) only [go_sem, nzP, a0, a2, a5, a6, a7, o2, hcell, hpar, hlev, d0, d1, h6]
    exact q2 _ _ _ 0 (by omega) ⟨_, _, _, _, _, _, _, _, _, _, _, hps.same (by unfold AOk; simp (disch := omega) only [go_sem, a0, a2, a5, a6, a7]) (by omega), .inr (.inr ⟨rfl, rfl, hR⟩)⟩
  rw [if_neg c6] at hR
  have hJl : ¬ J.length = 0 := fun e => c6 (List.length_eq_zero_iff.1 e)
  obtain ⟨i, gj, rfl⟩ : ∃ i gj, vJ = .ref (i, 11) gj 0 J.length := by
   rcases lv.j with ⟨_, e⟩ | ⟨i, gj, cs, _, _, e, _, _⟩
   ·exact absurd e c6
   ·exact ⟨i, gj, e⟩
  have hti : ∀ v, XPz 72 [.fptr [.str s, .int .i64 at_, v]] = some (.tup [.int .i64 (L8 s at_).1, .int .i64 (L8 s at_).2.1, .int .i64 (L8 s at_).2.2]) := fun v => br1 s at_ v at0 (by omega)
  obtain ⟨J0, x, hJx⟩ : ∃ J0 x, J = J0 ++ [x] := ⟨J.dropLast, J.getLast c6, (List.dropLast_concat_getLast c6).symm⟩
  have hlast : ∀ k lo hi, aH6 k lo hi J = J0 ++ [.mk k 0 lo hi [x]] := fun k lo hi => by rw [aH6, hJx]; simp
  have hJ0 : J.length = J0.length + 1 := by rw [hJx]; simp
  have lv2 : Lv b o nx D vU (.ref (i, 11) gj 0 J.length) U (J0 ++ [x]) := by rw [← hJx]; exact lv
  by_cases c7 : L7 c.toNat = 9
  ·rw [if_pos c7] at hR
   simp (disch := omega) only [go_sem, nzP, a0, a2, a5, a6, a7, o2, hcell, hpar, hlev, c1, hc, hpl, hk1, c2, c3, c4, C5]
   refine A3 (stk.keep (by omega) rfl rfl rfl) ?_
   simp (disch := omega) only [go_sem, nzP, a0, a2, a5, a6, a7, o2, hcell, hpar, hlev, d0, d1, h6, hJl, haf, c7, hti]
   generalize L8 s at_ = q at *
   obtain ⟨lo, hi, wr⟩ := q
   simp only at hR
   by_cases c8 : 0 ≤ wr
   ·rw [if_pos c8] at hR
    simp (disch := omega) only [go_sem, nzP, a0, a2, a5, a6, a7, o2, hcell, hpar, hlev, c8]
    subst hR
    exact qr _ _ _ ⟨by simp (disch := omega) only [go_sem, a2], ⟨nd0, by simp (disch := omega) only [go_sem], rfl, ac3⟩, by simp (disch := omega) only [go_sem], by simp (disch := omega) only [go_sem]⟩
   ·rw [if_neg c8, hlast] at hR
    simp (disch := omega) only [go_sem, nzP, a0, a2, a5, a6, a7, o2, hcell, hpar, hlev, c8, br2]
    refine aV1 9 lo hi x (stk.keep (by omega) rfl rfl rfl) (lv2.keep (by omega) (fun _ _ _ _ _ => rfl)) b3 (by omega) (by omega) (fun o' nx' vJ' e1 e2 e3 e4 => ?_)
    have hcell' := e2.cell
    have hpar' := e2.par
    simp (disch := omega) only [go_sem, nzP, a0, a2, a5, a6, a7, hcell', hpar']
    refine q1 _ _ _ (f + 2) (by omega) ⟨_, _, _, _, _, _, _, _, _, _, _, PS.next (o' := upd o' (2, 23) _) (nx' := nx') (by unfold AOk; simp (disch := omega) only [go_sem, a0, a2, a5, a6, a7]) o2 (e2.at (by omega)) bel b3 bn (fun i k hi b1 b2 b3 => (x6 b2).trans (e4 i k (by omega) b1 b2 b3)) (by omega) (by omega) (e3.keep (by omega) (fun i k e1 e2 e3 => x6 (by intro e; cases e; omega))) (N := at_.toNat) (by omega) (by omega) (by omega) (by rw [List.length_append, List.length_singleton]; omega) (by omega) (by omega), .inl ⟨rfl, f, rfl, by omega, by omega, ?_⟩⟩
    have e45 : at_ + 4 + 1 = at_ + 5 := by omega
    rw [e45]
    exact hR
  rw [if_neg c7] at hR
  by_cases c8 : L7 c.toNat = 0
  ·rw [if_neg (fun e => e c8)] at hR
   by_cases c9 : (c.toNat : Int) = 124
   ·rw [if_pos c9] at hR
    rw [c9] at hpl c2 haf c8
    simp (disch := omega) only [go_sem, nzP, a0, a2, a5, a6, a7, o2, hcell, hpar, hlev, c1, hc, hpl, hk1, c2, c9, C5]
    refine A3 (stk.keep (by omega) rfl rfl rfl) ?_
    simp (disch := omega) only [go_sem, nzP, a0, a2, a5, a6, a7, o2, hcell, hpar, hlev, d0, d1, h6, hJl, haf, c8, C5]
    refine A3 (stk.keep (by omega) rfl rfl rfl) ?_
    simp (disch := omega) only [go_sem, nzP, a0, a2, a5, a6, a7, o2, hcell, hpar, hlev, d0, d1, h6, hJl, haf, c8, br3]
    refine aO7 (stk.keep (by omega) rfl rfl rfl) (lv.keep (by omega) (fun _ _ _ _ _ => rfl)) b3 (by omega) (by omega) c6 (by omega) (by omega) (fun o' nx' vU' e1 e2 e3 e4 => ?_)
    have hcell' := e2.cell
    have hpar' := e2.par
    simp (disch := omega) only [go_sem, nzP, a0, a2, a5, a6, a7, hcell', hpar']
    exact q1 _ _ _ (f + 2) (by omega) ⟨_, _, _, _, _, _, _, _, _, _, _, PS.next (by unfold AOk; simp (disch := omega) only [go_sem, a0, a2, a5, a6, a7]) o2 e2 bel b3 bn (fun i k hi => e4 i k (by omega)) (by omega) (by omega) e3 (N := at_.toNat) (by omega) (by omega) (by rw [List.length_append, List.length_singleton]; omega) (by simp) (by omega) (by omega), .inl ⟨rfl, f, rfl, by omega, by omega, hR⟩⟩
   rw [if_neg c9] at hR
   by_cases c10 : (c.toNat : Int) = 41
   ·rw [c10] at hpl c2 haf c8
    by_cases c11 : B = []
    ·rw [if_neg (fun e => e.2 c11)] at hR
     have hBl : B.length = 0 := by rw [c11]; rfl
     simp (disch := omega) only [go_sem, nzP, a0, a2, a5, a6, a7, o2, hcell, hpar, hlev, c1, hc, hpl, hk1, c2, c10, C5]
     refine A3 (stk.keep (by omega) rfl rfl rfl) ?_
     simp (disch := omega) only [go_sem, nzP, a0, a2, a5, a6, a7, o2, hcell, hpar, hlev, d0, d1, h6, hJl, haf, c8, C5]
     exact q2 _ _ _ 0 (by omega) ⟨_, _, _, _, _, _, _, _, _, _, _, hps.same (by unfold AOk; simp (disch := omega) only [go_sem, a0, a2, a5, a6, a7]) (by omega), .inr (.inr ⟨rfl, rfl, hR⟩)⟩
    ·rw [if_pos ⟨c10, c11⟩] at hR
     obtain ⟨⟨U', J'⟩, B', hB⟩ : ∃ p B', B = p :: B' := by
      cases B with
      | nil => exact absurd rfl c11
      | cons p B' => exact ⟨p, B', rfl⟩
     have hBl : B.length = B'.length + 1 := by rw [hB]; rfl
     simp (disch := omega) only [go_sem, nzP, a0, a2, a5, a6, a7, o2, hcell, hpar, hlev, c1, hc, hpl, hk1, c2, c10, C5]
     refine A3 (stk.keep (by omega) rfl rfl rfl) ?_
     simp (disch := omega) only [go_sem, nzP, a0, a2, a5, a6, a7, o2, hcell, hpar, hlev, d0, d1, h6, hJl, haf, c8, C5]
     refine A3 (stk.keep (by omega) rfl rfl rfl) ?_
     simp (disch := omega) only [go_sem, nzP, a0, a2, a5, a6, a7, o2, hcell, hpar, hlev, d0, d1, h6, hJl, haf, c8, br3]
     refine aO7 (stk.keep (by omega) rfl rfl rfl) (lv.keep (by omega) (fun _ _ _ _ _ => rfl)) b3 (by omega) (by omega) c6 (by omega) (by omega) (fun o1 nx1 vU1 e1 e2 e3 e4 => ?_)
     have hcell1 := e2.cell
     have hpar1 := e2.par
     have hlev1 := e2.lev
     simp (disch := omega) only [go_sem, nzP, a0, a2, a5, a6, a7, hcell1, hpar1, hlev1, C5]
     refine A3 (e2.keep (by omega) rfl rfl rfl) ?_
     have hne : U ++ [u5 4 J] ≠ [] := by simp
     have hUl : (U ++ [u5 4 J]).length ≤ 1000 := by rw [List.length_append, List.length_singleton]; omega
     have hv := e3.viewU hne
     have ht := e3.tagsU
     have hX := aV4 5 (U ++ [u5 4 J]) hne hUl
     generalize U ++ [u5 4 J] = W at *
     have hn : ∀ i k, k ≠ 14 → nin (i, k) (b9 o1 1012 vU1) = true := fun i k e1 => aV3 (fun hm => e1 (ht _ hm).1)
     simp (disch := omega) only [go_sem, nzP, a0, a2, a5, a6, a7, hcell1, hpar1, hlev1, d0, d1, h6, hv, hX, hn, aO9]
     rw [hB] at hR bel
     simp only [List.headD_cons, List.tail_cons] at hR
     cases bel with
     | cons b' _ D' pre' vU' vJ' _ _ _ g1 g2 g3 g4 g5 g6 g7 =>
     have hsl : ∀ i k, (b ≤ i → k ≠ 14) → C9 (b9 o1 1012 vU1) o1 (i, k) = o1 (i, k) := fun i k hk => P0 (fun hm => by
      obtain ⟨e1, e2, _⟩ := ht _ hm
      exact hk e2 e1)
     have hk5 : ∀ (y1 y2 y3 : AObj) i k, i < nx → (i, k) ≠ (2, 21) → (i, k) ≠ (2, 23) → (b ≤ i → k ≠ 11 ∧ k ≠ 14 ∧ k ≠ 19) → upd (upd (upd (C9 (b9 o1 1012 vU1) o1) (nx1, 14) y1) (nx1, 14) y2) (2, 23) y3 (i, k) = o (i, k) := fun y1 y2 y3 i k hi n1 n2 n3 => by
      have e5 : ¬ i = nx1 := by omega
      rw [x6 n2]
      simp only [d6, e5, if_false, ite_self]
      rw [hsl i k (fun q => (n3 q).2.1)]
      exact e4 i k (by omega) n1 n2 n3
     have hlen' : pre'.length = B'.length * 2 := g1.length
     refine aA4 (s := s) (at_ := at_) (g := g) (d := B'.length) (pre := pre') (vU := vU') (vJ := vJ') (post := vU1 :: .nil :: post) (b := b') (U := U') (J := J') (.data D' (u5 5 W)) ⟨by omega, ?_, ?_, ?_, hlen', by omega⟩ (g4.keep (by omega) (fun i k w1 w2 w3 => hk5 _ _ _ i k (by omega) (by intro e; cases e; omega) (by intro e; cases e; omega) (by intro; omega))) g2 (by omega) (by omega) (fun o6 nx6 vJ6 f1 f2 f3 f4 => ?_)
     ·rw [x6 (by decide)]
      have e5 : ¬ 2 = nx1 := by omega
      simp only [d6, e5, if_false, ite_self]
      rw [hsl 2 5 (by intro; decide)]
      exact hcell1
     ·rw [f8, hBl]
      rfl
     ·rw [x6 (by decide)]
      have e5 : ¬ 2 = nx1 := by omega
      simp only [d6, e5, if_false, ite_self]
      rw [hsl 2 21 (by intro; decide), hlev1]
      simp
     have hcell6 := f2.cell
     have hpar6 := f2.par
     simp (disch := omega) only [go_sem, nzP, a0, a2, a5, a6, a7, hcell6, hpar6]
     exact q1 _ _ _ (f + 2) (by omega) ⟨_, _, _, _, _, _, _, _, _, _, _, PS.next (o := o) (nx := nx) (by unfold AOk; simp (disch := omega) only [go_sem, a0, a2, a5, a6, a7]) o2 f2 g1 g2 (by omega) (fun i k hi b1 b2 b3 => (f4 i k (by omega) b1 b2 b3).trans (hk5 _ _ _ i k hi b1 b2 (fun q => b3 (by omega)))) (by omega) (by omega) f3 (N := at_.toNat) (by omega) (by omega) (by omega) (by rw [List.length_append, List.length_singleton]; omega) (by omega) (by omega), .inl ⟨rfl, f, rfl, by omega, by omega, hR⟩⟩
   ·rw [if_neg (fun e => c10 e.1)] at hR
    simp (disch := omega) only [go_sem, nzP, a0, a2, a5, a6, a7, o2, hcell, hpar, hlev, c1, hc, hpl, hk1, c2, c3, c4, C5]
    refine A3 (stk.keep (by omega) rfl rfl rfl) ?_
    simp (disch := omega) only [go_sem, nzP, a0, a2, a5, a6, a7, o2, hcell, hpar, hlev, d0, d1, h6, hJl, haf, c8, c9, c10, C5]
    exact q2 _ _ _ 0 (by omega) ⟨_, _, _, _, _, _, _, _, _, _, _, hps.same (by unfold AOk; simp (disch := omega) only [go_sem, a0, a2, a5, a6, a7]) (by omega), .inr (.inr ⟨rfl, rfl, hR⟩)⟩
  ·rw [if_pos c8, hlast] at hR
   simp (disch := omega) only [go_sem, nzP, a0, a2, a5, a6, a7, o2, hcell, hpar, hlev, c1, hc, hpl, hk1, c2, c3, c4, C5]
   refine A3 (stk.keep (by omega) rfl rfl rfl) ?_
   simp (disch := omega) only [go_sem, nzP, a0, a2, a5, a6, a7, o2, hcell, hpar, hlev, d0, d1, h6, hJl, haf, c7, c8, br2]
   refine aV1 (L7 c.toNat) 0 0 x (stk.keep (by omega) rfl rfl rfl) (lv2.keep (by omega) (fun _ _ _ _ _ => rfl)) b3 (by omega) (by omega) (fun o' nx' vJ' e1 e2 e3 e4 => ?_)
   have hcell' := e2.cell
   have hpar' := e2.par
   simp (disch := omega) only [go_sem, nzP, a0, a2, a5, a6, a7, hcell', hpar']
   exact q1 _ _ _ (f + 2) (by omega) ⟨_, _, _, _, _, _, _, _, _, _, _, PS.next (by unfold AOk; simp (disch := omega) only [go_sem, a0, a2, a5, a6, a7]) o2 e2 bel b3 bn (fun i k hi => e4 i k (by omega)) (by omega) (by omega) e3 (N := at_.toNat) (by omega) (by omega) (by omega) (by rw [List.length_append, List.length_singleton]; omega) (by omega) (by omega), .inl ⟨rfl, f, rfl, by omega, by omega, hR⟩⟩
 ·rw [if_pos c2] at hR
  simp (disch := omega) only [go_sem, nzP, a0, a2, a5, a6, a7, o2, hcell, hpar, hlev, c1, hc, hpl, hk1, c2, aO9]
  refine aA4 (.data D (I3 c.toNat)) (stk.keep (by omega) rfl rfl rfl) (lv.keep (by omega) (fun _ _ _ _ _ => rfl)) b3 (by omega) (by omega) (fun o' nx' vJ' e1 e2 e3 e4 => ?_)
  have hcell' := e2.cell
  have hpar' := e2.par
  simp (disch := omega) only [go_sem, nzP, a0, a2, a5, a6, a7, hcell', hpar']
  exact q1 _ _ _ (f + 2) (by omega) ⟨_, _, _, _, _, _, _, _, _, _, _, PS.next (by unfold AOk; simp (disch := omega) only [go_sem, a0, a2, a5, a6, a7]) o2 e2 bel b3 bn (fun i k hi => e4 i k (by omega)) (by omega) (by omega) e3 (N := at_.toNat) (by omega) (by omega) (by omega) (by rw [List.length_append, List.length_singleton]; omega) (by omega) (by omega), .inl ⟨rfl, f, rfl, by omega, by omega, hR⟩⟩
set_option maxRecDepth 20000
theorem do5 {s : List UInt8} {R : Nd × Int × Int} {a : n8} {o : Ob} {nx : Nat} {at_ U J B g b D pre vU vJ post} (h : PS s a o nx at_ U J B g b D pre vU vJ post) (hR : (L9, at_, 3) = R) {Q : l8} (qr : ∀ a o nx, bd3 R a o → Q .ret a o nx) {k : Nat} :
  WP (EX md0 XPz) crP k nzP r2 a o nx Q := by
 obtain ⟨a0, a2, a5, a6, a7, o2, stk, bel, b3, bn, lv, D1, U1, J1, at0, at1⟩ := h
 have hcell := stk.cell
 have hpar := stk.par
 simp only [r2, bP, v7, Tryd.f45, Option.getD_some]
 simp (disch := omega) only [go_sem, nzP, a0, a2, a5, a6, a7, o2, hcell, hpar]
 subst hR
 exact qr _ _ _ ⟨by simp (disch := omega) only [go_sem, a2], ⟨nd0, by simp (disch := omega) only [go_sem], rfl, ac3⟩, by simp (disch := omega) only [go_sem], by simp (disch := omega) only [go_sem]⟩
theorem do6 {s : List UInt8} {R : Nd × Int × Int} {a : n8} {o : Ob} {nx : Nat} {at_ U J B g b D pre vU vJ post} (h : PS s a o nx at_ U J B g b D pre vU vJ post) (hR : (if B ≠ [] ∨ J = [] then (L9, at_, 3) else (u5 5 (U ++ [u5 4 J]), 0, 0)) = R) {Q : l8}
  (q2 : ∀ a o nx, PI s R 2 0 a o nx → Q (.goto 2) a o nx) (qr : ∀ a o nx, bd3 R a o → Q .ret a o nx) {k : Nat} :
  WP (EX md0 XPz) crP k nzP r0 a o nx Q := by
 have hps := h
 obtain ⟨a0, a2, a5, a6, a7, o2, stk, bel, b3, bn, lv, D1, U1, J1, at0, at1⟩ := h
 have hcell := stk.cell
 have hpar := stk.par
 have hlev := stk.lev
 have hpre := stk.len
 have hle := stk.le
 have d0 : ∀ x y : AV, (pre ++ x :: y :: post).drop (B.length * 2) = x :: y :: post := fun x y => af5 hpre
 have d1 : ∀ x y : AV, (pre ++ x :: y :: post).drop (B.length * 2 + 1) = y :: post := fun x y => Y7 hpre
 have h6 : ∀ x y : AV, (pre ++ x :: y :: post).length = B.length * 2 + (post.length + 2) := fun x y => by rw [List.length_append, hpre]; rfl
 simp only [r0, bP, v7, Tryd.f45, Option.getD_some]
 by_cases c1 : B = []
 ·have hBl : B.length = 0 := by rw [c1]; rfl
  by_cases c2 : J = []
  ·rw [if_pos (.inr c2)] at hR
   have hvJ : vJ = .nil ∨ ∃ i gj, vJ = .ref (i, 11) gj 0 0 := by
    rcases lv.j with ⟨e, _⟩ | ⟨i, gj, cs, _, _, e, _, _⟩
    ·exact .inl e
    ·exact .inr ⟨i, gj, by rw [e, c2]; rfl⟩
   simp (disch := omega) only [go_sem, nzP, a0, a2, a5, a6, a7, o2, hcell, hpar, hlev, C5]
   refine A3 (stk.keep (by omega) rfl rfl rfl) ?_
   rcases hvJ with rfl | ⟨i, gj, rfl⟩
   ·simp (disch := omega) only [go_sem, nzP, a0, a2, a5, a6, a7, o2, hcell, hpar, hlev, d0, d1, h6]
    exact q2 _ _ _ ⟨_, _, _, _, _, _, _, _, _, _, _, hps.same (by unfold AOk; simp (disch := omega) only [go_sem, a0, a2, a5, a6, a7]) (by omega), .inr (.inr ⟨rfl, rfl, hR⟩)⟩
   ·simp (disch := omega) only [go_sem, nzP, a0, a2, a5, a6, a7, o2, hcell, hpar, hlev, d0, d1, h6]
    exact q2 _ _ _ ⟨_, _, _, _, _, _, _, _, _, _, _, hps.same (by unfold AOk; simp (disch := omega) only [go_sem, a0, a2, a5, a6, a7]) (by omega), .inr (.inr ⟨rfl, rfl, hR⟩)⟩
  ·rw [if_neg (by simp [c1, c2])] at hR
   have hJl : ¬ J.length = 0 := fun e => c2 (List.length_eq_zero_iff.1 e)
   obtain ⟨i, gj, rfl⟩ : ∃ i gj, vJ = .ref (i, 11) gj 0 J.length := by
    rcases lv.j with ⟨_, e⟩ | ⟨i, gj, cs, _, _, e, _, _⟩
    ·exact absurd e c2
    ·exact ⟨i, gj, e⟩
   simp (disch := omega) only [go_sem, nzP, a0, a2, a5, a6, a7, o2, hcell, hpar, hlev, C5]
   refine A3 (stk.keep (by omega) rfl rfl rfl) ?_
   simp (disch := omega) only [go_sem, nzP, a0, a2, a5, a6, a7, o2, hcell, hpar, hlev, d0, d1, h6, hJl, C5]
   refine A3 (stk.keep (by omega) rfl rfl rfl) ?_
   simp (disch := omega) only [go_sem, nzP, a0, a2, a5, a6, a7, o2, hcell, hpar, hlev, d0, d1, h6, hJl, br3]
   refine aO7 (stk.keep (by omega) rfl rfl rfl) (lv.keep (by omega) (fun _ _ _ _ _ => rfl)) b3 (by omega) (by omega) c2 (by omega) (by omega) (fun o1 nx1 vU1 e1 e2 e3 e4 => ?_)
   have hcell1 := e2.cell
   have hpar1 := e2.par
   have hlev1 := e2.lev
   have o21 := (e4.o2 b3 (by omega)).trans o2
   simp (disch := omega) only [go_sem, nzP, a0, a2, a5, a6, a7, hcell1, hpar1, hlev1, C5]
   refine A3 (e2.keep (by omega) rfl rfl rfl) ?_
   have hne : U ++ [u5 4 J] ≠ [] := by simp
   have hUl : (U ++ [u5 4 J]).length ≤ 1000 := by rw [List.length_append, List.length_singleton]; omega
   have hv := e3.viewU hne
   have ht := e3.tagsU
   have hX := aV4 5 (U ++ [u5 4 J]) hne hUl
   generalize U ++ [u5 4 J] = W at *
   have hn : ∀ i k, k ≠ 14 → nin (i, k) (b9 o1 1012 vU1) = true := fun i k e1 => aV3 (fun hm => e1 (ht _ hm).1)
   simp (disch := omega) only [go_sem, nzP, a0, a2, a5, a6, a7, hcell1, hpar1, hlev1, o21, d0, d1, h6, hv, hX, hn]
   subst hR
   exact qr _ _ _ ⟨by simp (disch := omega) only [go_sem, a2], ⟨cNd (u5 5 W), by simp (disch := omega) only [go_sem], x9 _, fun o' e => az4 o' e _⟩, by simp (disch := omega) only [go_sem], by simp (disch := omega) only [go_sem]⟩
 ·rw [if_pos (.inl c1)] at hR
  have hBl : ¬ B.length = 0 := fun e => c1 (List.length_eq_zero_iff.1 e)
  simp (disch := omega) only [go_sem, nzP, a0, a2, a5, a6, a7, o2, hcell, hpar, hlev, C5]
  exact q2 _ _ _ ⟨_, _, _, _, _, _, _, _, _, _, _, hps.same (by unfold AOk; simp (disch := omega) only [go_sem, a0, a2, a5, a6, a7]) (by omega), .inr (.inr ⟨rfl, rfl, hR⟩)⟩
theorem bd4 {s : List UInt8} {R : Nd × Int × Int} (hs : s.length ≤ 200) {l m : Nat} {a : n8} {o : Ob} {nx : Nat} {rest : Code} (hf : findLabel xP l = some rest) (hI : PI s R l m a o nx) {k : Nat} {Q : l8} (qr : ∀ a o nx, bd3 R a o → Q .ret a o nx) : WP (EX md0 XPz) crP k nzP rest a o nx (X7 xP (PI s R) m Q) := by
 obtain ⟨at_, U, J, B, g, b, D, pre, vU, vJ, post, hps, hc⟩ := hI
 rcases hc with ⟨rfl, f, rfl, hf1, hf2, hR⟩ | ⟨rfl, rfl, hR⟩ | ⟨rfl, rfl, hR⟩
 ·rw [fl1] at hf
  injection hf with hf
  subst hf
  have := df2 hs hps hf1 hf2 hR (Q := X7 xP (PI s R) (f + 2) Q) (k := k) (fun a o nx m' h1 h2 => by rw [D9 fl1]; exact ⟨m', h1, h2⟩) (fun a o nx m' h1 h2 => by rw [D9 fl0]; exact ⟨m', h1, h2⟩) (fun a o nx m' h1 h2 => by rw [D9 fl2]; exact ⟨m', h1, h2⟩) (fun a o nx h => qr a o nx h)
  simp (disch := omega) only [go_sem]
  exact this
 ·rw [fl0] at hf
  injection hf with hf
  subst hf
  have := do6 hps hR (Q := X7 xP (PI s R) 1 Q) (k := k) (fun a o nx h2 => by rw [D9 fl2]; exact ⟨0, by omega, h2⟩) (fun a o nx h => qr a o nx h)
  simp (disch := omega) only [go_sem]
  exact this
 ·rw [fl2] at hf
  injection hf with hf
  subst hf
  have := do5 hps hR (Q := X7 xP (PI s R) 0 Q) (k := k) (fun a o nx h => qr a o nx h)
  simp (disch := omega) only [go_sem]
  exact this
noncomputable def x1 : Code := v7 [1, 0, 0] bP
noncomputable def x3 : Code := v7 [1, 0, 1, 0] bP
noncomputable def x4 : Code := v7 [1, 0, 1, 1, 0] bP
noncomputable def x5 : Code := v7 [1, 0, 1, 1, 1, 0] bP
noncomputable def x0 : Code := v7 [0] bP
theorem bL8 : xP = .seq x1 (.seq x3 (.seq x4 (.seq x5 (.seq (.label 1) r1)))) := by kernel_rfl
theorem cp9 : bP = .seq x0 (.scope xP) := by kernel_rfl
theorem aP0 {s : List UInt8} (hs : 200 < s.length) {a : n8} {o : Ob} {nx : Nat} (a0 : a 0 = .str s) (a2 : a 2 = .ptr (0, 2) (0, 2) 0) (o2 : o (0, 2) = some (.row ⟨37, 1, (0, 2), false, true, nd0⟩)) {Q : l8} (qr : ∀ a o nx, bd3 (L9, 0, 4) a o → Q .ret a o nx) {k : Nat} :
  WP (EX md0 XPz) crP k nzP xP a o nx Q := by
 rw [bL8]
 simp only [x1, bP, v7, Tryd.f45, Option.getD_some]
 simp (disch := omega) only [go_sem, nzP, a0, a2, o2]
 exact qr _ _ _ ⟨by simp (disch := omega) only [go_sem, a2], ⟨nd0, by simp (disch := omega) only [go_sem], rfl, ac3⟩, by simp (disch := omega) only [go_sem], by simp (disch := omega) only [go_sem]⟩
theorem aP1 {s : List UInt8} (hs : s.length ≤ 200) {a : n8} {o : Ob} (a0 : a 0 = .str s) (a2 : a 2 = .ptr (0, 2) (0, 2) 0) (o2 : o (0, 2) = some (.row ⟨37, 1, (0, 2), false, true, nd0⟩)) {Q : l8} {k : Nat}
  (hq : ∀ a o nx, PS s a o nx 0 [] [] [] (2, 21) 3 0 [] .nil .nil [] → WP (EX md0 XPz) crP k nzP r1 a o nx Q) :
  WP (EX md0 XPz) crP k nzP xP a o 1 Q := by
 rw [bL8]
 simp only [x1, x3, x4, x5, bP, v7, Tryd.f45, Option.getD_some]
 simp (disch := omega) only [go_sem, nzP, a0, a2, o2]
 exact hq _ _ _ ⟨by simp (disch := omega) only [go_sem, a0], by simp (disch := omega) only [go_sem, a2], by simp (disch := omega) only [go_sem], by simp (disch := omega) only [go_sem], by simp (disch := omega) only [go_sem], by simp (disch := omega) only [go_sem, o2], ⟨by omega, by simp (disch := omega) only [go_sem], by simp (disch := omega) only [go_sem], by simp (disch := omega) only [go_sem], rfl, by show (0 : Nat) ≤ 30; omega⟩, .nil 3, by omega, by omega, ⟨.inl ⟨rfl, rfl⟩, .inl ⟨rfl, rfl⟩⟩, by omega, by simp, by simp, by omega, by omega⟩
theorem bE8 (s : List UInt8) : Ok Tryd.prog 45 [.str s] (.tup [j5 (u4 s).1, .int .i64 (u4 s).2.1, .int .i64 (u4 s).2.2]) := by
 refine m5 (E := EX md0 XPz) cp7 cp8 mixed (k := 300) Tryd.func45 (cP9 _) rfl ?_
 show WP _ _ _ _ bP _ _ _ _
 rw [cp9]
 simp only [x0, bP, v7, Tryd.f45, Option.getD_some]
 simp (disch := omega) only [go_sem, nzP]
 have hret : ∀ (a : n8) (o : Ob) (nx : Nat), bd3 (u4 s) a o → (Out.ret = Out.normal ∨ Out.ret = Out.ret) ∧ wO (bj6 (N4 Tryd.prog 37 (a 2) { o := o, nx := nx }) (some [a 3, a 4])) fun vs => A.view o 1012 (ad3 vs) = .tup [j5 (u4 s).1, .int .i64 (u4 s).2.1, .int .i64 (u4 s).2.2] := by
  rintro a o nx ⟨b2, ⟨cs, b3, b4, b5⟩, b6, b7⟩
  refine ⟨.inr rfl, ?_⟩
  have htk : cs.take 5 = cs := j0 b4
  have hv := b5 o 1010
  simp (disch := omega) only [go_sem, b2, b3, b6, b7, b4, htk, hv]
 by_cases hs : 200 < s.length
 ·have hp : u4 s = (L9, 0, 4) := if_pos hs
  refine aU8 (fun _ _ _ _ _ => False) 0 (by omega) ?_ (fun l m a o nx rest hf hI => hI.elim)
  exact aP0 hs (by simp (disch := omega) only [go_sem]) (by simp (disch := omega) only [go_sem]) (by simp (disch := omega) only [go_sem]) (fun a o nx h => hret a o nx (by rw [hp]; exact h))
 ·have hs' : s.length ≤ 200 := by omega
  have hp : pGo s (s.length + 1) 0 [] [] [] = u4 s := (if_neg hs).symm
  refine aU8 (PI s (u4 s)) (s.length + 1 + 2) (by omega) ?_ (fun l m a o nx rest hf hI => bd4 hs' hf hI hret)
  refine aP1 hs' (by simp (disch := omega) only [go_sem]) (by simp (disch := omega) only [go_sem]) (by simp (disch := omega) only [go_sem]) (fun a o nx h => ?_)
  exact df2 hs' h (by omega) (by omega) hp (fun a o nx m' h1 h2 => by rw [D9 fl1]; exact ⟨m', h1, h2⟩) (fun a o nx m' h1 h2 => by rw [D9 fl0]; exact ⟨m', h1, h2⟩) (fun a o nx m' h1 h2 => by rw [D9 fl2]; exact ⟨m', h1, h2⟩) hret
set_option maxRecDepth 20000
def aV5 (args : List AV) (r : AV) : Prop := ∃ s, args = [.str s] ∧ r = .tup [j5 (u4 s).1, .int .i64 (u4 s).2.1, .int .i64 (u4 s).2.2]
theorem br4 (args r) (h : aV5 args r) : Ok Tryd.prog 45 args r := by
 obtain ⟨s, rfl, rfl⟩ := h
 exact bE8 s
theorem br5 : Q5 aV5 := by
 rintro args r r' ⟨s, rfl, rfl⟩ ⟨s', h, rfl⟩
 simp only [List.cons.injEq, AV.str.injEq, and_true] at h
 rw [h]
def ai8 (k : Nat) : UInt8 := ah9.getD k 0
def br6 (s : Nat) : List UInt8 :=
 let l := ((List.range 5).filter fun i => s / 2 ^ i % 2 = 1).map ai8
 if s = 31 then [46] else if l.length = 1 then l else 91 :: l ++ [93]
theorem cq0 {α : Type} {f g : Nat → α} {n : Nat} (h : (List.range n).map f = (List.range n).map g) {q : Nat} (hq : q < n) : f q = g q := List.map_inj_left.1 h q (List.mem_range.2 hq)
def orK (x : Int) (k : Nat) : Int := orN x k
def do7 (ks : List Nat) : Int := ks.foldl orK 0
theorem bd6 {k : Nat} (h : k < 5) : Y8 ((ai8 k).toNat : Int) = k := by
 have : ∀ k : Fin 5, Y8 ((ai8 k.1).toNat : Int) = k.1 := by decide +kernel
 exact this ⟨k, h⟩
theorem br7 (p : List UInt8) (c : UInt8) (r : List UInt8) : E0 (p ++ c :: r) p.length = c.toNat := by
 rw [E0, Int.toNat_natCast, List.getD_eq_getElem?_getD, List.getElem?_append_right (Nat.le_refl _), Nat.sub_self]
 rfl
def cQ0 (ks : List Nat) : List UInt8 := 91 :: ks.map ai8
set_option maxRecDepth 20000
theorem aV6 (s : List UInt8) : ∀ (f f' : Nat) (at_ : Int) (U J : List Nd) (B : Lvs), 1 ≤ f → 1 ≤ f' → (s.length : Int) - at_ < f → (s.length : Int) - at_ < f' → pGo s f at_ U J B = pGo s f' at_ U J B
 | 0, _, _, _, _, _, h, _, _, _ => by omega
 | _, 0, _, _, _, _, _, h, _, _ => by omega
 | f + 1, f' + 1, at_, U, J, B, _, _, h, h' => by
  rw [pGo, pGo]
  by_cases c0 : (s.length : Int) ≤ at_
  ·rw [if_pos c0, if_pos c0]
  rw [if_neg c0, if_neg c0]
  have ih := fun at' U' J' B' (h : at_ + 1 ≤ at') => aV6 s f f' at' U' J' B' (by omega) (by omega) (by omega) (by omega)
  have hq := (ac2 s (s.length - (at_ + 1).toNat) (at_ + 1) 0).1
  have e1 := fun U' J' B' => ih (at_ + 1) U' J' B' (by omega)
  have e2 := fun U' J' B' => ih (at_ + 5) U' J' B' (by omega)
  have e3 := fun U' J' B' => ih ((E6 s (s.length - (at_ + 1).toNat) (at_ + 1) 0).2.2 + 1) U' J' B' (by omega)
  simp only [e1, e2, e3]
def pG (s : List UInt8) (at_ : Int) (U J : List Nd) (B : Lvs) : Nd × Int × Int := pGo s (((s.length : Int) - at_).toNat + 1) at_ U J B
theorem aH7 (s : List UInt8) (at_ : Int) (U J : List Nd) (B : Lvs) : pG s at_ U J B =
  if (s.length : Int) ≤ at_ then (if B ≠ [] ∨ J = [] then (L9, at_, 3) else (u5 5 (U ++ [u5 4 J]), 0, 0))
  else if ai7 (I3 (E0 s at_)) ≠ 0 then pG s (at_ + 1) U (J ++ [I3 (E0 s at_)]) B
  else if E0 s at_ = 91 then
   let q := E6 s (s.length - (at_ + 1).toNat) (at_ + 1) 0
   if q.2.1 = false then (L9, q.2.2, 3) else pG s (q.2.2 + 1) U (J ++ [.mk 1 q.1 0 0 []]) B
  else if E0 s at_ = 40 then (if B.length + 1 > 30 then (L9, at_, 4) else pG s (at_ + 1) [] [] ((U, J) :: B))
  else if J = [] then (L9, at_, 3)
  else if L7 (E0 s at_) = 9 then
   let q := L8 s at_
   if 0 ≤ q.2.2 then (L9, q.2.2, 3) else pG s (at_ + 5) U (aH6 9 q.1 q.2.1 J) B
  else if L7 (E0 s at_) ≠ 0 then pG s (at_ + 1) U (aH6 (L7 (E0 s at_)) 0 0 J) B
  else if E0 s at_ = 124 then pG s (at_ + 1) (U ++ [u5 4 J]) [] B
  else if E0 s at_ = 41 ∧ B ≠ [] then pG s (at_ + 1) (B.headD ([], [])).1 ((B.headD ([], [])).2 ++ [u5 5 (U ++ [u5 4 J])]) B.tail
  else (L9, at_, 3) := by
 by_cases c0 : (s.length : Int) ≤ at_
 ·rw [pG, pGo, if_pos c0, if_pos c0]
 rw [pG, pGo, if_neg c0, if_neg c0]
 have ih : ∀ at' U' J' B', at_ + 1 ≤ at' → pGo s ((s.length : Int) - at_).toNat at' U' J' B' = pG s at' U' J' B' := fun at' U' J' B' h => aV6 s _ _ at' U' J' B' (by omega) (by omega) (by omega) (by omega)
 have hq := (ac2 s (s.length - (at_ + 1).toNat) (at_ + 1) 0).1
 have e1 := fun U' J' B' => ih (at_ + 1) U' J' B' (by omega)
 have e2 := fun U' J' B' => ih (at_ + 5) U' J' B' (by omega)
 have e3 := fun U' J' B' => ih ((E6 s (s.length - (at_ + 1).toNat) (at_ + 1) 0).2.2 + 1) U' J' B' (by omega)
 simp only [e1, e2, e3]
theorem aH8 (s : List UInt8) : u4 s = if 200 < s.length then (L9, 0, 4) else pG s 0 [] [] [] := by
 rw [u4, pG]
 rw [show ((s.length : Int) - 0).toNat = s.length by omega]
def TAt (s : List UInt8) (a : Int) (t : List UInt8) : Prop := ∃ p r, s = p ++ t ++ r ∧ a = p.length
theorem TAt.app {s a t u} (h : TAt s a (t ++ u)) : TAt s a t ∧ TAt s (a + t.length) u := by
 obtain ⟨p, r, rfl, rfl⟩ := h
 exact ⟨⟨p, u ++ r, by simp, rfl⟩, ⟨p ++ t, r, by simp, by simp⟩⟩
theorem TAt.cons {s a c t} (h : TAt s a (c :: t)) : (E0 s a = c.toNat ∧ ¬ (s.length : Int) ≤ a ∧ 0 ≤ a) ∧ TAt s (a + 1) t := by
 have h' : TAt s a ([c] ++ t) := h
 obtain ⟨p, r, rfl, rfl⟩ := h
 refine ⟨⟨?_, ?_, by omega⟩, by simpa using h'.app.2⟩
 ·rw [show p ++ c :: t ++ r = p ++ c :: (t ++ r) by simp, br7]
 ·simp; omega
theorem TAt.all (s : List UInt8) : TAt s 0 s := ⟨[], [], by simp, rfl⟩
theorem TAt.le {s a t} (h : TAt s a t) : a + t.length ≤ s.length ∧ 0 ≤ a := by
 obtain ⟨p, r, rfl, rfl⟩ := h
 simp; omega
theorem ac4 {s a c t U J B} (h : TAt s a (c :: t)) (hc : ai7 (I3 c.toNat) ≠ 0) : pG s a U J B = pG s (a + 1) U (J ++ [I3 c.toNat]) B := by
 obtain ⟨⟨h1, h2, _⟩, _⟩ := h.cons
 rw [aH7, if_neg h2, h1, if_pos hc]
theorem aA7 {s a t U J B} (h : TAt s a (40 :: t)) (hb : B.length + 1 ≤ 30) : pG s a U J B = pG s (a + 1) [] [] ((U, J) :: B) := by
 obtain ⟨⟨h1, h2, _⟩, _⟩ := h.cons
 rw [aH7, if_neg h2, h1, if_neg (by decide), if_neg (by decide), if_pos (by decide), if_neg (by omega)]
theorem aj7 {s a t U J U0 J0 B} (h : TAt s a (41 :: t)) (hJ : J ≠ []) : pG s a U J ((U0, J0) :: B) = pG s (a + 1) U0 (J0 ++ [u5 5 (U ++ [u5 4 J])]) B := by
 obtain ⟨⟨h1, h2, _⟩, _⟩ := h.cons
 rw [aH7, if_neg h2, h1, if_neg (by decide), if_neg (by decide), if_neg (by decide), if_neg hJ, if_neg (by decide), if_neg (by decide), if_neg (by decide), if_pos ⟨rfl, by simp⟩]
 rfl
theorem br8 {s a t U J B} (h : TAt s a (124 :: t)) (hJ : J ≠ []) : pG s a U J B = pG s (a + 1) (U ++ [u5 4 J]) [] B := by
 obtain ⟨⟨h1, h2, _⟩, _⟩ := h.cons
 rw [aH7, if_neg h2, h1, if_neg (by decide), if_neg (by decide), if_neg (by decide), if_neg hJ, if_neg (by decide), if_neg (by decide), if_pos (by decide)]
theorem aH9 (k lo hi : Int) (J : List Nd) (x : Nd) : aH6 k lo hi (J ++ [x]) = J ++ [.mk k 0 lo hi [x]] := by
 rw [aH6, List.dropLast_concat, List.getLastD_concat]
theorem br9 {s a c t U J x B} (h : TAt s a (c :: t)) (hc : c = 42 ∨ c = 43 ∨ c = 63) : pG s a U (J ++ [x]) B = pG s (a + 1) U (J ++ [.mk (L7 c.toNat) 0 0 0 [x]]) B := by
 obtain ⟨⟨h1, h2, _⟩, _⟩ := h.cons
 rw [aH7, if_neg h2, h1]
 rcases hc with rfl | rfl | rfl <;>
 rw [if_neg (by decide), if_neg (by decide), if_neg (by decide), if_neg (by simp), if_neg (by decide), if_pos (by decide), aH9]
def dig (x : Nat) : UInt8 := UInt8.ofNat (48 + x)
theorem bV3 {x : Nat} (h : x ≤ 9) : (dig x).toNat = 48 + x := by
 show (48 + x) % 256 = 48 + x
 omega
theorem aV7 {s a t U J x B} {lo hi : Nat} (h : TAt s a (123 :: dig lo :: 44 :: dig hi :: 125 :: t)) (h1 : lo ≤ hi) (h2 : hi ≤ 9) : pG s a U (J ++ [x]) B = pG s (a + 5) U (J ++ [.mk 9 0 lo hi [x]]) B := by
 obtain ⟨⟨b0, l0, n0⟩, g1⟩ := h.cons
 obtain ⟨⟨b1, l1, _⟩, g2⟩ := g1.cons
 obtain ⟨⟨b2, l2, _⟩, g3⟩ := g2.cons
 obtain ⟨⟨b3, l3, _⟩, g4⟩ := g3.cons
 obtain ⟨⟨b4, l4, _⟩, _⟩ := g4.cons
 rw [show a + 1 + 1 = a + 2 by omega] at *
 rw [show a + 2 + 1 = a + 3 by omega] at *
 rw [show a + 3 + 1 = a + 4 by omega] at *
 rw [bV3 (by omega)] at b1 b3
 have d1 : C4 s (a + 1) = lo := by rw [C4, if_neg l1, b1, if_pos (by omega)]; omega
 have d3 : C4 s (a + 3) = hi := by rw [C4, if_neg l3, b3, if_pos (by omega)]; omega
 have s2 : I4 s (a + 2) 44 = -1 := by rw [I4, if_neg l2, if_pos b2]
 have s4 : I4 s (a + 4) 125 = -1 := by rw [I4, if_neg l4, if_pos b4]
 have ht : L8 s a = ((lo : Int), (hi : Int), -1) := by
  unfold L8
  rw [d1, d3, s2, s4, if_neg (by omega), if_neg (by omega), if_neg (by decide), if_neg (by omega), if_neg (by omega), if_neg (by decide), if_neg (by omega)]
 rw [aH7, if_neg l0, b0, if_neg (by decide), if_neg (by decide), if_neg (by decide), if_neg (by simp), if_pos (by decide), ht, if_neg (show ¬ (0 : Int) ≤ -1 by decide), aH9]
def aA8 (m : Nat) : List Nat := (List.range 5).filter fun i => m / 2 ^ i % 2 = 1
theorem bV4 : ∀ q : Fin 31, (br6 (q.1 + 1) = [46] ∧ q.1 + 1 = 31) ∨ (∃ k : Fin 5, br6 (q.1 + 1) = [ai8 k.1] ∧ q.1 + 1 = 2 ^ k.1) ∨ (br6 (q.1 + 1) = cQ0 (aA8 (q.1 + 1)) ++ [93] ∧ do7 (aA8 (q.1 + 1)) = ((q.1 + 1 : Nat) : Int) ∧ (aA8 (q.1 + 1)).all (fun k => decide (k < 5)) = true) := by decide +kernel
theorem aV8 : ∀ (ks : List Nat) (s : List UInt8) (a out : Int) (m : Nat), (∀ k ∈ ks, k < 5) → TAt s a (ks.map ai8 ++ [93]) → ks.length + 1 ≤ m → E6 s m a out = (ks.foldl orK out, decide (0 < ks.foldl orK out), a + ks.length)
 | [], s, a, out, m, _, h, hm => by
  obtain ⟨m, rfl⟩ : ∃ m', m = m' + 1 := ⟨m - 1, by omega⟩
  have h : TAt s a [93] := h
  obtain ⟨⟨h1, _, _⟩, _⟩ := h.cons
  rw [E6, h1]
  have h1 : Y8 (((93 : UInt8).toNat : Nat) : Int) < 0 := by decide
  rw [if_pos h1]
  simp
  congr
 | k :: ks, s, a, out, m, hk, h, hm => by
  obtain ⟨m, rfl⟩ : ∃ m', m = m' + 1 := ⟨m - 1, by omega⟩
  have hk5 := hk k (List.mem_cons_self ..)
  have h : TAt s a (ai8 k :: (ks.map ai8 ++ [93])) := h
  obtain ⟨⟨h1, _, _⟩, h2⟩ := h.cons
  rw [E6, h1, bd6 hk5, if_neg (by omega), aV8 ks s (a + 1) (orN out k) m (fun k' h => hk k' (List.mem_cons_of_mem _ h)) h2 (by rw [List.length_cons] at hm; omega)]
  have e4 : orK out k = orN out k := rfl
  rw [List.foldl_cons, e4, List.length_cons]
  simp only [Prod.mk.injEq, true_and]
  omega
theorem cq1 {s a U J B} {m : Nat} (h : TAt s a (br6 m)) (h0 : 1 ≤ m) (h1 : m ≤ 31) : pG s a U J B = pG s (a + (br6 m).length) U (J ++ [.mk 1 m 0 0 []]) B := by
 obtain ⟨q, rfl⟩ : ∃ q, m = q + 1 := ⟨m - 1, by omega⟩
 rcases bV4 ⟨q, by omega⟩ with ⟨e1, e2⟩ | ⟨k, e1, e2⟩ | ⟨e1, e2, e3⟩
 ·simp only at e1 e2
  rw [e1] at h ⊢
  rw [e2, ac4 h (by decide)]
  rfl
 ·simp only at e1 e2
  rw [e1] at h ⊢
  have : ∀ k : Fin 5, ai7 (I3 ((ai8 k.1).toNat : Nat)) ≠ 0 ∧ I3 ((ai8 k.1).toNat : Nat) = .mk 1 ((2 ^ k.1 : Nat) : Int) 0 0 [] := by
   intro k
   have hd : ∀ k : Fin 5, ai7 (I3 ((ai8 k.1).toNat : Nat)) ≠ 0 := by decide
   refine ⟨hd k, ?_⟩
   match k with
   | ⟨0, _⟩ => rfl
   | ⟨1, _⟩ => rfl
   | ⟨2, _⟩ => rfl
   | ⟨3, _⟩ => rfl
   | ⟨4, _⟩ => rfl
  rw [e2, ac4 h (this k).1, (this k).2]
  rfl
 ·simp only at e1 e2 e3
  rw [e1] at h ⊢
  have hk : ∀ k ∈ aA8 (q + 1), k < 5 := fun k hk => of_decide_eq_true (List.all_eq_true.1 e3 k hk)
  have hle := h.le
  have h' : TAt s a (91 :: ((aA8 (q + 1)).map ai8 ++ [93])) := h
  obtain ⟨⟨b1, b2, b3⟩, h2⟩ := h'.cons
  have hl : (cQ0 (aA8 (q + 1)) ++ [93]).length = (aA8 (q + 1)).length + 2 := by rw [List.length_append, cQ0, List.length_cons, List.length_map]; rfl
  rw [hl] at hle ⊢
  have hc := aV8 (aA8 (q + 1)) s (a + 1) 0 (s.length - (a + 1).toNat) hk h2 (by omega)
  have e2' : (aA8 (q + 1)).foldl orK 0 = ((q + 1 : Nat) : Int) := e2
  rw [e2'] at hc
  rw [aH7, if_neg b2, b1, if_neg (by decide), if_pos (by decide), hc]
  have hd : decide ((0 : Int) < ((q + 1 : Nat) : Int)) = true := decide_eq_true (by omega)
  simp only [hd]
  rw [if_neg (by decide)]
  congr 1
  omega
end Go.Proofs.YtpmjpogcaglphaaDoor.A
